/- AmXN AmX2 AmX3 AmX4 AmX5 AmX6 AmXM AmX7 AmXG AmX8 -/
import Derived.Test.YtnmaanodnakopaaMb
section
set_option linter.unusedSimpArgs false
set_option linter.unusedVariables false
namespace Go.AM
section
variable {D : Nat → Type} {G : Tab D} {O : List (Ob D)} {z z' : Nat → Blk} {e m m' : Mem} {k q : Option Nat} {vs vs' : List Value}
theorem bk_ne {v w : Value} (h : Ap (blkOf v) (blkOf w)) : bkV v ≠ bkV w ∨ bkV v = 0 := by
  unfold bkV
  cases hv : blkOf v with
  | none => exact .inr rfl
  | some b =>
    cases hw : blkOf w with
    | none => exact .inl (by simp)
    | some c =>
      refine .inl fun hh => h b hv ?_
      rw [hw]
      simp at hh
      rw [hh]
theorem bkV_map {r : Option Nat} : bkV (.map r) = 0 := rfl
theorem Mm.zchg (h : Mm G O z e m k vs) {i : Nat} {o o' : Ob D} {v : Value} {p : Option Nat} (ho : O[i]? = some o) (hv : vs[i]? = some v) (hl : o.live = true) (hvm : ∀ r, v ≠ .map r) (hz : Zle z z') (s : Same m m' (blkV v)) (st : St z' e m' k)
    (hp : ∀ (j : Nat) (q : Ob D) (w : Value), j ≠ i → O[j]? = some q → q.live = true → vs[j]? = some w → Ap (blkV w) p)
    (hpd : ∀ b, p = some b → z b = .dead)
    (hb : ∀ b, blkV v ≠ some b → p ≠ some b → (bkV v = 0 ∨ ∀ j L t, z b ≠ .lock (bkV v) j L t) → z' b = z b) (hn : ObOk G z' e m' k vs o' v) : Mm G (O.set i o') z' e m' k vs := by
  have hlt := (List.getElem?_eq_some_iff.1 ho).1
  refine ⟨st, by rw [List.length_set]; exact h.len, fun j q w hj hw => ?_, fun a b q1 q2 u w hab ha hb' la lb hu hw => ?_⟩
  · rw [List.getElem?_set] at hj
    split at hj
    · rename_i hij
      subst hij
      cases hj
      rw [hv] at hw; cases hw
      exact hn
    · rename_i hij
      have hob := h.obj j q w hj hw
      refine ((hob.same s (fun hq => h.ap j i q o w v (fun e => hij e.symm) hj ho hq hl hw hv) fun _ _ h => h).zle hz (fun hq b hbw => ?_) fun hq b j' L t hlk => ?_)
      · have h1 := hob.lt hq b hbw
        refine hb b (h.ap j i q o w v (fun e => hij e.symm) hj ho hq hl hw hv b hbw) (hp j q w (fun e => hij e.symm) hj hq hw b hbw) (.inr fun j L t hh => ?_)
        rw [h1.2.1] at hh; cases hh
      · refine hb b (fun hh => ?_) (fun hh => ?_) ?_
        · have := ((h.obj i o v ho hv).lt hl b hh).2.1
          rw [this] at hlk; cases hlk
        · rw [hpd b hh] at hlk; cases hlk
        · by_cases h0 : bkV v = 0
          · exact .inl h0
          · refine .inr fun j2 L2 t2 hh => ?_
            rw [hlk] at hh
            have e1 : bkV w = bkV v := by injection hh
            have hap := h.ap j i q o w v (fun e => hij e.symm) hj ho hq hl hw hv
            rw [blkV_of hvm] at hap
            by_cases hwm : ∃ r, w = .map r
            · obtain ⟨r, rfl⟩ := hwm
              rw [bkV_map] at e1
              exact h0 e1.symm
            · rw [blkV_of (fun r hr => hwm ⟨r, hr⟩)] at hap
              rcases bk_ne hap with hh | hh
              · exact hh e1
              · exact h0 (by rw [← e1]; exact hh)
  · have key : ∀ (a : Nat) (p : Ob D), (O.set i o')[a]? = some p → p.live = true → ∃ p', O[a]? = some p' ∧ p'.live = true := by
      intro a p ha hp
      rw [List.getElem?_set] at ha
      split at ha
      · rename_i hia; subst hia; exact ⟨o, ho, hl⟩
      · exact ⟨p, ha, hp⟩
    obtain ⟨p1, g1, g2⟩ := key a q1 ha la
    obtain ⟨p2, g3, g4⟩ := key b q2 hb' lb
    exact h.ap a b p1 p2 u w hab g1 g3 g2 g4 hu hw
theorem Mm.pushAt (h : Mm G O z e m k vs) {o' : Ob D} {v' : Value} (hn : ObOk G z e m k (vs ++ [v']) o' v') (hap : o'.live = true → ∀ (j : Nat) (q : Ob D) (w : Value), O[j]? = some q → q.live = true → vs[j]? = some w → Ap (blkV w) (blkV v')) : Mm G (O ++ [o']) z e m k (vs ++ [v']) := by
  have old : ∀ (a : Nat) (p : Ob D) (u : Value), (O ++ [o'])[a]? = some p → (vs ++ [v'])[a]? = some u → (O[a]? = some p ∧ vs[a]? = some u) ∨ (a = O.length ∧ p = o' ∧ u = v') := by
    intro a p u ha hu
    by_cases hlt : a < O.length
    · rw [List.getElem?_append_left hlt] at ha
      rw [List.getElem?_append_left (by rw [h.len]; exact hlt)] at hu
      exact .inl ⟨ha, hu⟩
    · have h0 := (List.getElem?_eq_some_iff.1 ha).1
      simp at h0
      have : a = O.length := by omega
      subst this
      rw [List.getElem?_append_right (by omega)] at ha
      rw [List.getElem?_append_right (by rw [h.len]; omega), h.len] at hu
      simp at ha hu
      exact .inr ⟨rfl, ha.symm, hu.symm⟩
  refine ⟨h.st, by simp [h.len], fun j p w hj hw => ?_, fun a b p q' u w hab ha hb la lb hu hw => ?_⟩
  · rcases old j p w hj hw with ⟨h1, h2⟩ | ⟨_, rfl, rfl⟩
    · exact (h.obj j p w h1 h2).same (q := none) ⟨Nat.le_refl _, h.st.dead, fun _ _ _ => rfl⟩ (fun _ => Ap.none') ext_get
    · exact hn
  · rcases old a p u ha hu with ⟨a1, a2⟩ | ⟨e1, rfl, rfl⟩
    · rcases old b q' w hb hw with ⟨b1, b2⟩ | ⟨e2, rfl, rfl⟩
      · exact h.ap a b p q' u w hab a1 b1 la lb a2 b2
      · exact hap lb a p u a1 la a2
    · rcases old b q' w hb hw with ⟨b1, b2⟩ | ⟨e2, rfl, rfl⟩
      · exact (hap la b q' w b1 lb b2).symm
      · omega
theorem Mm.wake (h : Mm G O z e m k vs) {i : Nat} {o' : Ob D} {v : Value} (hi : i < O.length) (hv : vs[i]? = some v) (hn : ObOk G z e m k vs o' v) (hap : ∀ (j : Nat) (q : Ob D) (w : Value), j ≠ i → O[j]? = some q → q.live = true → vs[j]? = some w → Ap (blkV w) (blkV v)) : Mm G (O.set i o') z e m k vs := by
  have old : ∀ (a : Nat) (p : Ob D), (O.set i o')[a]? = some p → (a ≠ i ∧ O[a]? = some p) ∨ (a = i ∧ p = o') := by
    intro a p ha
    by_cases hai : i = a
    · subst hai
      rw [List.getElem?_set_self hi] at ha
      exact .inr ⟨rfl, (Option.some.inj ha).symm⟩
    · rw [List.getElem?_set_ne hai] at ha
      exact .inl ⟨fun hh => hai hh.symm, ha⟩
  refine ⟨h.st, by rw [List.length_set]; exact h.len, fun j p w hj hw => ?_, fun a b p q u w hab ha hb la lb hu hw => ?_⟩
  · rcases old j p hj with ⟨_, h1⟩ | ⟨rfl, rfl⟩
    · exact h.obj j p w h1 hw
    · rw [hv] at hw; cases hw; exact hn
  · rcases old a p ha with ⟨a1, a2⟩ | ⟨rfl, rfl⟩
    · rcases old b q hb with ⟨b1, b2⟩ | ⟨rfl, rfl⟩
      · exact h.ap a b p q u w hab a2 b2 la lb hu hw
      · rw [hv] at hw; cases hw; exact hap a p u a1 a2 la hu
    · rcases old b q hb with ⟨b1, b2⟩ | ⟨rfl, rfl⟩
      · rw [hv] at hu; cases hu; exact (hap b q w b1 b2 lb hw).symm
      · exact absurd rfl hab
variable {α : Type} {T : Ty α} {e0 : Nat} {xss : List (List α)} {ws : List Value} {v : Value}
open Classical in
noncomputable def zfree (z : Nat → Blk) (n : Nat) (e m : Mem) (v : Value) : Nat → Blk := fun b =>
  match z b with
  | .lock n' j L t => if n' = n ∧ n ≠ 0 ∧ e.next ≤ b then .own L t else .lock n' j L t
  | x => if blkOf v = some b then m.blk b else x
theorem nest_freeze {β : Type} {T0 : Ty β} {f : List α → β} (h : NestOk e0 T z e m k vs xss none v ws) (h1 : T0.sz = 1) (h2 : T0.tid = e0) (hr : ∀ z xs c, SlR T z xs c → T0.rd z (f xs) [c]) (st : St z e m k) :
    ∃ z', Zx e.next z z' ∧ St z' e m k ∧ SlR T0 z' (xss.map f) v ∧ ∀ b, blkV v ≠ some b → (bkV v = 0 ∨ ∀ j L t, z b ≠ .lock (bkV v) j L t) → z' b = z b := by
  have hv : blkV v = blkOf v := blkV_of (by obtain ⟨a, c, rfl⟩ := h.ow.ow.len; intro r; simp)
  have hdead := fun b (hb : blkOf v = some b) => (h.ow.ow.lt b hb).2
  have other : ∀ b, blkOf v ≠ some b → (∀ n j L t, z b ≠ .lock n j L t) → zfree z (bkV v) e m v b = z b := by
    intro b hb hn
    unfold zfree
    split
    · rename_i n j L t hz; exact absurd hz (hn n j L t)
    · rw [if_neg hb]
  have hlock : ∀ b n j L t, z b = .lock n j L t → zfree z (bkV v) e m v b = if n = bkV v ∧ bkV v ≠ 0 ∧ e.next ≤ b then .own L t else .lock n j L t := by
    intro b n j L t hb
    unfold zfree
    rw [hb]
  have hout : ∀ b, blkOf v = some b → zfree z (bkV v) e m v b = m.blk b := by
    intro b hb
    unfold zfree
    rw [hdead b hb]
    simp only
    rw [if_pos hb]
  have hle : Zle z (zfree z (bkV v) e m v) := fun b hb => other b (fun hh => by rw [hdead b hh] at hb; exact hb) fun n j L t hh => by rw [hh] at hb; exact hb
  refine ⟨zfree z (bkV v) e m v, ⟨hle, fun b hb => ?_⟩, ⟨fun b hb => ?_, st.dead, st.dead0, st.next, st.kept⟩, ?_, fun b hb hn => ?_⟩
  · cases hz : z b with
    | lock n j L t => rw [hlock b n j L t hz, if_neg (by omega)]
    | _ =>
      have := other b (fun hh => by have := h.ow.fresh b hh; omega) (fun n j L t hh => by rw [hz] at hh; cases hh)
      rw [this, hz]
  · by_cases hbv : blkOf v = some b
    · rw [hout b hbv]
      have := h.ow.lt2 b hbv
      exact ⟨this.2.symm, this.1⟩
    · cases hz : z b with
      | lock n j L t =>
        have := st.fz b (by rw [hz]; simp)
        rw [hz] at this
        rw [hlock b n j L t hz]
        split
        · exact this
        · exact this
      | _ =>
        have h3 := other b hbv (fun n j L t hh => by rw [hz] at hh; cases hh)
        rw [h3] at hb ⊢
        exact st.fz b hb
  · have inn : ∀ (j : Nat) (w : Value) (xs : List α), ws[j]? = some w → xss[j]? = some xs → SlR T (zfree z (bkV v) e m v) xs w := by
      intro j w xs hw hx
      rcases h.inn j w xs hw hx (fun p hp => by cases hp) with hh | ⟨b, f0, L, c, rfl, g2, g3, g4, g5, g6⟩
      · exact .inl hh
      · have hz' : zfree z (bkV v) e m v b = .own L T.tid := by
          have h0 : bkV v ≠ 0 := by
            intro h0
            unfold bkV at h0
            rcases h.ow.ow with ⟨rfl, hws⟩ | ⟨b', o', L', c', rfl, _⟩
            · rw [hws] at hw; simp at hw
            · simp [blkOf] at h0
          rw [hlock b _ _ _ _ g2, if_pos ⟨rfl, h0, g3⟩]
        refine .inr ⟨b, f0, c, rfl, by rw [hz']; exact True.intro, ?_, fun i x hi => ?_⟩
        · rcases g5 with g5 | ⟨g5, g7, _⟩
          · exact .inl ⟨g5, L, hz', g4⟩
          · exact .inr ⟨g5, g7⟩
        · obtain ⟨cs, q1, q2⟩ := g6 i x hi
          refine ⟨cs, T.mono _ _ hle _ _ q1, fun a u ha => ?_⟩
          simp only [ldz, hz']
          exact q2 a u ha
    rcases h.ow.ow with ⟨rfl, hws⟩ | ⟨b, f0, L, c, rfl, g1, g2, g3, g4, g5, g6⟩
    · have : xss = [] := List.length_eq_zero_iff.1 (by rw [← h.len, hws]; rfl)
      subst this
      exact .inl ⟨rfl, rfl⟩
    · have hz' := hout b rfl
      rw [g1] at hz'
      have hl : (xss.map f).length = ws.length := by rw [List.length_map, h.len]
      refine .inr ⟨b, f0, c, by rw [hl], by rw [hz']; exact True.intro, ?_, fun i x hi => ?_⟩
      · rcases g5 with g5 | ⟨g5, g7, _⟩
        · exact .inl ⟨g5, L, by rw [hz', h2]; rfl, by rw [hl, h1]; exact g4⟩
        · exact .inr ⟨g5, by rw [hl]; exact g7⟩
      · rw [List.getElem?_map] at hi
        obtain ⟨xs, hx, rfl⟩ := Option.map_eq_some_iff.1 hi
        have hlt : i < ws.length := by rw [h.len]; exact (List.getElem?_eq_some_iff.1 hx).1
        have hw := List.getElem?_eq_getElem hlt
        obtain ⟨cs, q1, q2⟩ := g6 i _ hw
        refine ⟨[ws[i]], hr _ _ _ (inn i _ xs hw hx), fun a u ha => ?_⟩
        rw [q1.1] at q2
        simp only [ldz, hz', h1]
        exact q2 a u ha
  · rw [hv] at hb
    cases hz : z b with
    | lock n j L t =>
      rw [hlock b n j L t hz, if_neg]
      rintro ⟨rfl, h0, _⟩
      rcases hn with hn | hn
      · exact h0 hn
      · exact hn j L t hz
    | _ =>
      have h3 := other b hb (fun n j L t hh => by rw [hz] at hh; cases hh)
      rw [h3, hz]
theorem nest_out {jo j : Nat} {w : Value} {xs : List α} (h : NestOk e0 T z e m k vs xss none v ws) (st : St z e m k) (hw : ws[j]? = some w) (hx : xss[j]? = some xs) (hj : ∀ (i : Nat) (u : Value), vs[i]? = some u → vs'[i]? = some u) (hjo : vs'[jo]? = some w) :
    ∃ z', Zx e.next z z' ∧ St z' e m k ∧ NestOk e0 T z' e m k vs' xss (some ((j : Int), jo)) v ws ∧ OwF T z' e m k xs w ∧ (∀ b, z' b = z b ∨ blkOf w = some b ∧ bkV v ≠ 0 ∧ ∃ L t, z b = .lock (bkV v) j L t) ∧ ∀ b, blkOf w = some b → z b ≠ .dead := by
  have keep : ∀ {z'}, Zle z z' → (∀ b, z' b = z b ∨ blkOf w = some b ∧ bkV v ≠ 0 ∧ ∃ L t, z b = .lock (bkV v) j L t) → (∀ b, blkOf v = some b → z' b = z b) → NestOk e0 T z' e m k vs' xss (some ((j : Int), jo)) v ws := by
    intro z' hle hch hvb
    refine ⟨h.ow.zle hle hvb, h.len, fun j2 w2 xs2 g1 g2 g3 => ?_, fun p hp => by cases hp; exact ⟨by simp, w, hjo, by simpa using hw⟩⟩
    have hne : j2 ≠ j := fun hh => g3 _ rfl (by rw [hh])
    rcases h.inn j2 w2 xs2 g1 g2 (fun p hp => by cases hp) with hh | ⟨b, f0, L, c, q1, q2, q3, q4, q5, q6⟩
    · exact .inl hh
    · refine .inr ⟨b, f0, L, c, q1, ?_, q3, q4, q5, fun i x hi => ?_⟩
      · rcases hch b with hh | ⟨_, _, L2, t2, hh⟩
        · rw [hh]; exact q2
        · rw [q2] at hh
          exact absurd (by injection hh) hne
      · obtain ⟨cs, r1, r2⟩ := q6 i x hi
        exact ⟨cs, T.mono _ _ hle _ _ r1, r2⟩
  rcases h.inn j w xs hw hx (fun p hp => by cases hp) with ⟨rfl, rfl⟩ | ⟨b, f0, L, c, rfl, g2, g3, g4, g5, g6⟩
  · exact ⟨z, Zx.refl z, st, keep (Zle.refl z) (fun b => .inl rfl) (fun _ _ => rfl), OwF.nil, fun b => .inl rfl, fun b hb => by cases hb⟩
  · have h0 : bkV v ≠ 0 := by
      intro h0
      unfold bkV at h0
      rcases h.ow.ow with ⟨rfl, hws⟩ | ⟨b', o', L', c', rfl, _⟩
      · rw [hws] at hw; simp at hw
      · simp [blkOf] at h0
    let z' : Nat → Blk := fun c => if c = b then .dead else z c
    have e1 : z' b = .dead := if_pos rfl
    have e2 : ∀ c, c ≠ b → z' c = z c := fun c hc => if_neg hc
    have hle : Zle z z' := fun c hc => e2 c (fun hh => by rw [hh, g2] at hc; exact hc)
    have hch : ∀ c', z' c' = z c' ∨ blkOf (Value.slice (some ⟨b, f0, none⟩) xs.length c) = some c' ∧ bkV v ≠ 0 ∧ ∃ L t, z c' = .lock (bkV v) j L t := fun c' => by
      by_cases hc : c' = b
      · subst hc; exact .inr ⟨rfl, h0, L, _, g2⟩
      · exact .inl (e2 c' hc)
    have hfz := st.fz b (by rw [g2]; simp)
    rw [g2] at hfz
    refine ⟨z', ⟨hle, fun c hc => e2 c (by omega)⟩, ⟨fun c hc => ?_, st.dead, st.dead0, st.next, st.kept⟩, keep hle hch (fun c hc => e2 c (fun hh => ?_)), ⟨.inr ⟨b, f0, L, c, rfl, hfz.1, hfz.2, e1, g4, g5, fun i x hi => ?_⟩, fun c hc => by cases hc; exact g3⟩, hch, fun c hc => by cases hc; rw [g2]; simp⟩
    · by_cases hcb : c = b
      · subst hcb; rw [e1] at hc; exact absurd rfl hc
      · rw [e2 c hcb] at hc ⊢; exact st.fz c hc
    · subst hh
      have := (h.ow.ow.lt c hc).2
      rw [g2] at this; cases this
    · obtain ⟨cs, r1, r2⟩ := g6 i x hi
      exact ⟨cs, T.mono _ _ hle _ _ r1, r2⟩
theorem nest_in {hole : Option (Int × Nat)} {j : Nat} {w : Value} {xs : List α} {ws' : List Value} (h : NestOk e0 T z e m k vs xss hole v ws) (st : St z e m' k) (ho : OwF (TVal e0) z e m' k ws' v) (hws : ws' = ws.set j w) (hj : j < ws.length) (hh : ∀ p, hole = some p → p.1 = (j : Int)) (hw : OwF T z e m' k xs w) (hap : Ap (blkOf w) (blkOf v)) :
    ∃ z', Zx e.next z z' ∧ St z' e m' k ∧ NestOk e0 T z' e m' k vs (xss.set j xs) none v ws' ∧ ∀ b, z' b = z b ∨ blkOf w = some b := by
  have keep : ∀ {z'}, Zle z z' → (∀ b, z' b = z b ∨ blkOf w = some b) → InR T z' e.next (bkV v) j xs w → NestOk e0 T z' e m' k vs (xss.set j xs) none v ws' := by
    intro z' hle hch hin
    refine ⟨ho.zle hle fun b hb => ?_, by rw [hws, List.length_set, List.length_set]; exact h.len, fun j2 w2 xs2 g1 g2 g3 => ?_, fun p hp => by cases hp⟩
    · rcases hch b with hc | hc
      · exact hc
      · exact absurd hb (hap b hc)
    · rw [hws, List.getElem?_set] at g1
      rw [List.getElem?_set] at g2
      by_cases he : j = j2
      · subst he
        rw [if_pos rfl, if_pos hj] at g1
        rw [if_pos rfl, if_pos (by rw [← h.len]; exact hj)] at g2
        cases g1; cases g2
        exact hin
      · rw [if_neg he] at g1 g2
        rcases h.inn j2 w2 xs2 g1 g2 (fun p hp hh2 => he (by have := hh p hp; omega)) with hc | ⟨b, f0, L, c, q1, q2, q3, q4, q5, q6⟩
        · exact .inl hc
        · refine .inr ⟨b, f0, L, c, q1, ?_, q3, q4, q5, fun i x hi => ?_⟩
          · rcases hch b with hc | hc
            · rw [hc]; exact q2
            · have := (hw.ow.lt b hc).2
              rw [this] at q2; cases q2
          · obtain ⟨cs, r1, r2⟩ := q6 i x hi
            exact ⟨cs, T.mono _ _ hle _ _ r1, r2⟩
  rcases hw.ow with ⟨rfl, rfl⟩ | ⟨b, f0, L, c, rfl, g1, g2, g3, g4, g5, g6⟩
  · exact ⟨z, Zx.refl z, st, keep (Zle.refl z) (fun b => .inl rfl) (.inl ⟨rfl, rfl⟩), fun b => .inl rfl⟩
  · let z' : Nat → Blk := fun c => if c = b then .lock (bkV v) j L T.tid else z c
    have e1 : z' b = .lock (bkV v) j L T.tid := if_pos rfl
    have e2 : ∀ c, c ≠ b → z' c = z c := fun c hc => if_neg hc
    have hle : Zle z z' := fun c hc => e2 c (fun hh => by rw [hh, g3] at hc; exact hc)
    have hch : ∀ c', z' c' = z c' ∨ blkOf (Value.slice (some ⟨b, f0, none⟩) xs.length c) = some c' := fun c' => by
      by_cases hc : c' = b
      · subst hc; exact .inr rfl
      · exact .inl (e2 c' hc)
    have hfr := hw.fresh b rfl
    refine ⟨z', ⟨hle, fun c hc => e2 c (by omega)⟩, ⟨fun c hc => ?_, st.dead, st.dead0, st.next, st.kept⟩, keep hle hch (.inr ⟨b, f0, L, c, rfl, e1, hfr, g4, g5, fun i x hi => ?_⟩), hch⟩
    · by_cases hcb : c = b
      · subst hcb; rw [e1]; exact ⟨g1, g2⟩
      · rw [e2 c hcb] at hc ⊢; exact st.fz c hc
    · obtain ⟨cs, r1, r2⟩ := g6 i x hi
      exact ⟨cs, T.mono _ _ hle _ _ r1, r2⟩
end
end Go.AM
end
section
set_option linter.unusedSimpArgs false
set_option linter.unusedVariables false
namespace Go.AM
noncomputable section
section
variable {P : Program} {D : Nat → Type}
def noNil : CV D → Bool
  | .nilS | .nilP | .nilM | .own _ => false
  | _ => true
def nOwn : CV D → Bool
  | .own _ => false
  | _ => true
def MtC : List (CV D) → List (CV D) → Prop
  | [], [] => True
  | c :: cs, d :: ds => (noNil c = true → d = c) ∧ MtC cs ds
  | _, _ => False
theorem MtC.eq : ∀ {cs ds : List (CV D)}, MtC cs ds → cs.all noNil = true → cs = ds
  | [], [], _, _ => rfl
  | c :: cs, d :: ds, h, hn => by
    simp only [List.all_cons, Bool.and_eq_true] at hn
    rw [h.1 hn.1, MtC.eq h.2 hn.2]
  | [], _ :: _, h, _ => h.elim
  | _ :: _, [], h, _ => h.elim
theorem MtC.refl : ∀ (cs : List (CV D)), MtC cs cs
  | [] => trivial
  | _ :: cs => ⟨fun _ => rfl, MtC.refl cs⟩
structure TI (P : Program) (G : Tab D) (t : Nat) where
  lv : D t → List (CV D)
  pk : List (CV D) → Option (D t)
  x0 : D t
  i : TypeInfo
  zv : Value
  tid : (G.T t).tid = t
  hi : P.info? t = some i
  hsz : i.size = (G.T t).sz
  hpos : ((G.T t).sz == 0) = false
  hby : Nat.ble i.bytes 32768 = true
  hz : i.zero = some zv
  hzf : zv.cells.toList.all flat0 = true
  hzs : zv.cells.size = i.size
  rd0 : ∀ z, (G.T t).rd z x0 zv.cells.toList
  rdl : ∀ z vs x cs, (G.T t).rd z x cs → L2 (rel0 G z vs) (lv x) cs
  pkl : ∀ z vs cs x ds, pk cs = some x → L2 (rel0 G z vs) cs ds → (G.T t).rd z x ds
  pklv : ∀ x, pk (lv x) = some x
  pkn : ∀ cs x, pk cs = some x → MtC cs (lv x)
  zc : List (CV D)
  hzc : ∀ z vs, L2 (rel0 G z vs) zc zv.cells.toList
  lvo : ∀ x, (lv x).all nOwn = true
structure AI (P : Program) (G : Tab D) (t : Nat) where
  e : Nat
  n : Nat
  ti : TI P G e
  i : TypeInfo
  zv : Value
  hu : P.underlying t = some (.array n e)
  hi : P.info? t = some i
  hz : i.zero = some zv
  hzf : zv.cells.toList.all flat0 = true
  hzs : zv.cells.size = i.size
  hzc : zv.cells.toList = (List.replicate n ti.zv.cells.toList).flatten
  hn : Nat.blt n BIG = true
structure MI (P : Program) (G : Tab D) (kt vt : Nat) where
  dec : DecidableEq (D kt)
  K : KeyOk P kt (G.kc kt)
  V : ValOk P vt (G.kc vt)
  kget : SV D → Option (D kt)
  vget : CV D → Option (D vt)
  vput : D vt → CV D
  z0 : D vt
  i : TypeInfo
  hi : P.info? vt = some i
  hz : i.zero = some (cellV (tyAgg P vt) (G.kc vt z0))
  hkg : ∀ z vs s a v, kget s = some a → rel G z vs s v → v = cellV (tyAgg P kt) (G.kc kt a)
  hvg : ∀ z vs c a v, vget c = some a → rel0 G z vs c v → v = cellV (tyAgg P vt) (G.kc vt a)
  hvp : ∀ z vs a, rel0 G z vs (vput a) (cellV (tyAgg P vt) (G.kc vt a))
  hvn : tyAgg P vt = false
structure BI (P : Program) (G : Tab D) (e : Nat) where
  to : List (D e) → List UInt8
  of : List UInt8 → List (D e)
  hr : ∀ z xs v, SlR (G.T e) z xs v → SlR (TU8 e) z (to xs) v
  ho : ∀ z m0 m k xs v, OwF (G.T e) z m0 m k xs v → OwF (TU8 e) z m0 m k (to xs) v
  hb : ∀ z m0 m k xs v, OwF (TU8 e) z m0 m k xs v → OwF (G.T e) z m0 m k (of xs) v
  i : TypeInfo
  hu : P.underlying e = some (.int .u8)
  hi : P.info? e = some i
  hi1 : i.size = 1
structure QI (P : Program) (G : Tab D) (t : Nat) where
  fs : Array Field
  eq : D t → D t → Bool
  va : D t → List Value
  ht : P.underlying t = some (.struct fs)
  hp : P.stoodInHeld t = false
  hg : P.eqGuardType P.depth t = false
  hs : ∀ x y, ScalF P fs.toList 0 (va x) (va y)
  hv : ∀ z x ds, (G.T t).rd z x ds → ds = va x
  he : ∀ x y, eq x y = true ↔ va x = va y
structure SI (P : Program) (G : Tab D) where
  f : Nat
  g : Nat
  e : Nat
  srt : List (D e) → Option (List (D e))
  va : D e → List Value
  hv : ∀ z x ds, (G.T e).rd z x ds → ds = va x
  hr : ∀ z x, (G.T e).rd z x (va x)
  hf : ∀ x, (va x).all flat0 = true
  ok : okFn P f = true
  h0 : sort0 P f (.func (.func g) #[] #[])
  hn : ∀ xs ys, srt xs = some ys → ys.length = xs.length
  hs : ∀ xs ys, srt xs = some ys → 0 < xs.length → sortW P f (.func (.func g) #[] #[]) xs.length (xs.flatMap va) (ys.flatMap va)
structure NI (P : Program) (G : Tab D) (e t : Nat) where
  up : List (D t) → D e
  hsz : (G.T e).sz = 1
  tid : (G.T e).tid = e
  hr : ∀ z xs c, SlR (G.T t) z xs c → (G.T e).rd z (up xs) [c]
  i : TypeInfo
  hi : P.info? e = some i
  hz : i.zero = some (.slice none 0 0)
  h1 : i.size = 1
  hby : Nat.ble i.bytes 32768 = true
  hu : P.underlying e = some (.slice t)
  ht : (G.T t).tid = t
structure Ev (P : Program) (D : Nat → Type) where
  G : Tab D
  S : List (SI P G) := []
  I : (t : Nat) → Option (TI P G t)
  A : (t : Nat) → Option (AI P G t)
  J : (kt vt : Nat) → Option (MI P G kt vt)
  B : (e : Nat) → Option (BI P G e)
  Q : (t : Nat) → Option (QI P G t)
  N : (e t : Nat) → Option (NI P G e t) := fun _ _ => none
  F : (f : Nat) → List (SV D) → List (Ob D) → Bool
  U : Operand → Option Operand → Option Operand → Nat := fun _ _ _ => 0
  W : (f : Nat) → Bool := fun _ => false
  C : (f : Nat) → List (SV D) → List (Ob D) → {ρ : Type} → (SV D → List (Ob D) → Option ρ) → Option ρ
variable (X : Ev P D) {ρ : Type}
def lkE : List (Nat × SV D) → Nat → SV D
  | [], _ => .un
  | p :: E, i => if Nat.beq p.1 i = true then p.2 else lkE E i
def putE (E : List (Nat × SV D)) : Option Nat → SV D → List (Nat × SV D)
  | none, _ => E
  | some d, v => (d, v) :: E
def ofV : Value → SV D
  | .int k n => .c (.int k n)
  | .bool b => .c (.bool b)
  | .string b => .c (.str b.data.toList)
  | .slice none 0 0 => .c .nilS
  | .pointer none => .c .nilP
  | .map none => .c .nilM
  | _ => .un
def sop (E : List (Nat × SV D)) : Operand → SV D
  | .tmp t => lkE E t
  | .const v => ofV v
  | .func f => .fn f []
  | .global _ => .un
def litNZ : Operand → Bool
  | .const (.int _ n) => n != 0
  | _ => false
def binI (op : BinOp) (y : Operand) (k : IntKind) (a b : Int) (K : CV D → Option ρ) : Option ρ :=
  match op with
  | .add => K (.int k (k.wrap (a + b)))
  | .sub => K (.int k (k.wrap (a - b)))
  | .mul => K (.int k (k.wrap (a * b)))
  | .and => K (.int k (bitsV .and k a b))
  | .or => K (.int k (bitsV .or k a b))
  | .xor => K (.int k (bitsV .xor k a b))
  | .andNot => K (.int k (bitsV .andNot k a b))
  | .eql => K (.bool (a == b))
  | .neq => K (.bool (a != b))
  | .lss => K (.bool (decide (a < b)))
  | .leq => K (.bool (decide (a ≤ b)))
  | .gtr => K (.bool (decide (b < a)))
  | .geq => K (.bool (decide (b ≤ a)))
  | .quo => if litNZ y = true then K (.int k (k.wrap (Int.tdiv a b))) else Option.bind (divI a b) fun c => K (.int k (k.wrap c))
  | .rem => if litNZ y = true then K (.int k (Int.tmod a b)) else Option.bind (modI a b) fun c => K (.int k c)
  | _ => none
def binS (op : BinOp) (s r : List UInt8) (K : CV D → Option ρ) : Option ρ :=
  match op with
  | .add => Option.bind (appI s r) fun q => K (.str q)
  | .eql => K (.bool (s == r))
  | .neq => K (.bool (!(s == r)))
  | .lss => K (.bool (strLt s r))
  | .leq => K (.bool (strLt s r || (s == r)))
  | .gtr => K (.bool (!(strLt s r || (s == r))))
  | .geq => K (.bool (!strLt s r))
  | _ => none
def binB (op : BinOp) (a b : Bool) (K : CV D → Option ρ) : Option ρ :=
  match op with
  | .eql => K (.bool (a == b))
  | .neq => K (.bool (!(a == b)))
  | _ => none
def isNil : Operand → Bool
  | .const (.slice none 0 0) => true
  | _ => false
def lookS (O : List (Ob D)) : SV D → Option ((e : Nat) × List (D e))
  | .c (.sl e xs) => some ⟨e, xs⟩
  | .c (.own i) =>
    match O[i]? with
    | some (.sl e xs _ _) => some ⟨e, xs⟩
    | _ => none
  | _ => none
def litNat : Operand → Option Nat
  | .const (.int _ (.ofNat n)) => some n
  | _ => none
def shN (k : IntKind) (b : Int) : Option Nat := if 0 ≤ b then some (min b.toNat k.bits) else none
def shV (left : Bool) (k : IntKind) (a : Int) (n : Nat) : Int := if left = true then k.wrap (a * ((2 ^ n : Nat) : Int)) else a.fdiv ((2 ^ n : Nat) : Int)
def shX (left : Bool) (y : Operand) (k : IntKind) (a b : Int) (K : CV D → Option ρ) : Option ρ :=
  match litNat y with
  | some n => if Nat.ble n k.bits = true then K (.int k (shV left k a n)) else none
  | none => Option.bind (shN k b) fun n => K (.int k (shV left k a n))
def eqA (op : BinOp) (t t1 : Nat) (c1 : List (CV D)) (t2 : Nat) (c2 : List (CV D)) (K : CV D → Option ρ) : Option ρ :=
  match X.I t, X.Q t with
  | some ti, some qi =>
    match ti.pk c1, ti.pk c2 with
    | some a, some b => (match op with | .eql => K (.bool (qi.eq a b)) | .neq => K (.bool (!(qi.eq a b))) | _ => none)
    | _, _ => none
  | _, _ => none
def binX (op : BinOp) (t : TypeId) (y : Operand) (O : List (Ob D)) (a b : SV D) (K : CV D → Option ρ) : Option ρ :=
  match a, b with
  | .c (.int k a), .c (.int k' b) => (match op with | .shl => shX true y k a b K | .shr => shX false y k a b K | op => if k = k' then binI op y k a b K else none)
  | .c (.str s), .c (.str r) => binS op s r K
  | .c (.bool a), .c (.bool b) => match P.underlying t with | some .bool => binB op a b K | _ => none
  | a, _ =>
    match op, P.underlying t, isNil y with
    | .eql, some (.slice _), true =>
      match a with
      | .c .nilS => K (.bool true)
      | a => match lookS O a with | some ⟨_, xs⟩ => nilT xs fun t => K (.bool t) | none => none
    | .neq, some (.slice _), true =>
      match a with
      | .c .nilS => K (.bool false)
      | a => match lookS O a with | some ⟨_, xs⟩ => nilT xs fun t => K (.bool (!t)) | none => none
    | _, _, _ => none
def setC : List (CV D) → Nat → List (CV D) → List (CV D)
  | L, _, [] => L
  | L, o, v :: vs => setC (L.set o v) (o + 1) vs
def frzO (O : List (Ob D)) (i : Nat) : Option (CV D × List (Ob D)) :=
  match O[i]? with
  | some (.sl e xs _ w) => some (.sl e xs, O.set i (.sl e xs true w))
  | some (.map t kt vt es _ w) => some (.mp t kt vt es, O.set i (.map t kt vt es true w))
  | some (.nest e t (some up) xss none w) => some (.sl e (xss.map up), O.set i (.sl e (xss.map up) true w))
  | _ => none
def frzC (O : List (Ob D)) : CV D → Option (CV D × List (Ob D))
  | .own i => frzO O i
  | c => some (c, O)
def frzL (O : List (Ob D)) : List (CV D) → Option (List (CV D) × List (Ob D))
  | [] => some ([], O)
  | c :: cs =>
    match frzC O c with
    | some (c', O') => match frzL O' cs with | some (cs', O'') => some (c' :: cs', O'') | none => none
    | none => none
def cellsS : SV D → Option (List (CV D))
  | .c c => some [c]
  | .agg _ cs => some cs
  | _ => none
def frzS (O : List (Ob D)) (s : SV D) : Option (List (CV D) × List (Ob D)) :=
  match cellsS s with
  | some cs => frzL O cs
  | none => none
def loadC (t : TypeId) (cs : List (CV D)) (off : Nat) (K : SV D → Option ρ) : Option ρ :=
  match P.underlying t with
  | none => none
  | some d =>
    if aggT d = true then
      match P.info? t with
      | none => none
      | some i => if ((cs.drop off).take i.size).length = i.size then K (.agg t ((cs.drop off).take i.size)) else none
    else
      match cs[off]? with
      | some c => K (.c c)
      | none => none
def frzSl (O : List (Ob D)) (e : Nat) : SV D → Option (List (D e) × List (Ob D))
  | .c .nilS => some ([], O)
  | .c c =>
    match frzC O c with
    | some (.sl e' xs, O') => if h : e' = e then some (h ▸ xs, O') else none
    | _ => none
  | _ => none
def sameX : Operand → Operand → Bool
  | .tmp a, .tmp b => Nat.beq a b
  | .const (.int _ a), .const (.int _ b) => a == b
  | _, _ => false
structure LM (D : Nat → Type) where
  u : Nat
  kt : Nat
  vt : Nat
  es : List (D kt × D vt)
def lookM (O : List (Ob D)) : SV D → Option (LM D)
  | .c (.mp u k v es) => some ⟨u, k, v, es⟩
  | .c (.own i) => (match O[i]? with | some (.map u k v es _ _) => some ⟨u, k, v, es⟩ | _ => none)
  | _ => none
def opIdx (t : TypeId) (a b : SV D) (O : List (Ob D)) (K : SV D → List (Ob D) → Option ρ) : Option ρ :=
  match b with
  | .c (.int _ n) =>
    match a with
    | .arr i =>
      match O[i]? with
      | some (.arr e u n' xs _) =>
        match X.I e, P.underlying t with
        | some _, some (.array l e') => if e' = e ∧ l = n' then Option.bind (getI xs n) fun _ => K (.el i e n 0) O else none
        | _, _ => none
      | _ => none
    | .c (.sl e xs) =>
      match X.I e, P.underlying t with
      | some ti, some (.slice e') => if e' = e then Option.bind (getI xs n) fun a => K (.rp e (ti.lv a) 0) O else none
      | _, _ => none
    | .c (.own i) =>
      match O[i]? with
      | some (.sl e xs fz _) =>
        match X.I e, P.underlying t with
        | some ti, some (.slice e') => if e' = e then Option.bind (getI xs n) fun a => if fz = true then K (.rp e (ti.lv a) 0) O else K (.el i e n 0) O else none
        | _, _ => none
      | some (.nest e t1 _ xss _ _) =>
        match X.N e t1, P.underlying t with
        | some _, some (.slice e') => if e' = e then Option.bind (getI xss n) fun _ => K (.el i e n 0) O else none
        | _, _ => none
      | _ => none
    | .cut i e lo hi =>
      match O[i]? with
      | some (.sl e1 xs false _) =>
        match X.I e, P.underlying t with
        | some _, some (.slice e') => if e' = e ∧ e1 = e then Option.bind (getI ((xs.take hi).drop lo) n) fun _ => K (.el i e ((lo : Int) + n) 0) O else none
        | _, _ => none
      | _ => none
    | _ => none
  | _ => none
def opFld (t : TypeId) (n : Nat) (a : SV D) (O : List (Ob D)) (K : SV D → List (Ob D) → Option ρ) : Option ρ :=
  match P.underlying t with
  | some (.struct fs) =>
    match fs[n]? with
    | some f =>
      match P.info? f.type with
      | some k =>
        if k.size = 0 then none else
        match a with
        | .box i off => K (.box i (off + f.offset)) O
        | .rp t' cs off => K (.rp t' cs (off + f.offset)) O
        | .el i e ix off => K (.el i e ix (off + f.offset)) O
        | _ => none
      | none => none
    | none => none
  | _ => none
def fillN (O : List (Ob D)) (i : Nat) : Option (List (Ob D)) :=
  match O[i]? with
  | some (.nest _ _ _ _ none _) => some O
  | some (.nest e t up xss (some p) _) =>
    match O[p.2]? with
    | some (.sl t' xs false _) => if h : t' = t then some ((O.set i (.nest e t up (xss.set p.1.toNat (h ▸ xs)) none true)).set p.2 .dead) else none
    | _ => none
  | _ => none
def opLoadN (t : TypeId) (i e : Nat) (ix : Int) (off : Nat) (O : List (Ob D)) (K : SV D → List (Ob D) → Option ρ) : Option ρ :=
  match fillN O i with
  | some O1 =>
    match O1[i]? with
    | some (.nest e1 t1 up xss none w) =>
      match X.N e1 t1 with
      | some _ => if e1 = e ∧ t = e ∧ off = 0 then Option.bind (getI xss ix) fun xs => K (.c (.own O1.length)) (O1.set i (.nest e1 t1 up xss (some (ix, O1.length)) w) ++ [.sl t1 xs false false]) else none
      | none => none
    | _ => none
  | none => none
def isNest : Option (Ob D) → Bool
  | some (.nest _ _ _ _ _ _) => true
  | _ => false
def opLoad (t : TypeId) (a : SV D) (O : List (Ob D)) (K : SV D → List (Ob D) → Option ρ) : Option ρ :=
  match a with
  | .rp _ cs off => loadC (P := P) t cs off fun v => K v O
  | .box i off =>
    match O[i]? with
    | some (.box _ cs _ _) => loadC (P := P) t cs off fun v => K v O
    | some (.recv _ cs _) => loadC (P := P) t cs off fun v => K v O
    | _ => none
  | .el i e ix off =>
    if isNest O[i]? = true then opLoadN X t i e ix off O K else
    match O[i]?, X.I e with
    | some (.sl e' xs _ _), some ti => if h : e' = e then Option.bind (getI (h ▸ xs : List (D e)) ix) fun a => loadC (P := P) t (ti.lv a) off fun v => K v O else none
    | some (.arr e' _ _ xs _), some ti => if h : e' = e then Option.bind (getI (h ▸ xs : List (D e)) ix) fun a => loadC (P := P) t (ti.lv a) off fun v => K v O else none
    | _, _ => none
  | _ => none
def opLoadF (t : TypeId) (a : SV D) (O : List (Ob D)) (K : SV D → List (Ob D) → Option ρ) : Option ρ :=
  opLoad X t a O fun sv O' => match sv with
    | .c (.own j) => (match frzO O' j with | some (c, O2) => K (.c c) O2 | none => none)
    | _ => none
def opStoreN (t : TypeId) (i e : Nat) (ix : Int) (off : Nat) (b : SV D) (O : List (Ob D)) (K : SV D → List (Ob D) → Option ρ) : Option ρ :=
  match b with
  | .c (.own j) =>
    match O[i]?, O[j]? with
    | some (.nest e1 t1 up xss hole _), some (.sl t2 xs false _) =>
      match X.N e1 t1 with
      | some _ =>
        if h : t2 = t1 then
          if e1 = e ∧ t = e ∧ off = 0 then
            match hole with
            | none => Option.bind (getI xss ix) fun _ => K .undef ((O.set i (.nest e1 t1 up (xss.set ix.toNat (h ▸ xs)) none true)).set j .dead)
            | some p => if p.1 = ix then Option.bind (getI xss ix) fun _ => K .undef ((O.set i (.nest e1 t1 up (xss.set ix.toNat (h ▸ xs)) none true)).set j .dead) else none
          else none
        else none
      | none => none
    | _, _ => none
  | .c .nilS =>
    match O[i]? with
    | some (.nest e1 t1 up xss hole _) =>
      match X.N e1 t1 with
      | some _ =>
        if e1 = e ∧ t = e ∧ off = 0 then
          match hole with
          | none => Option.bind (getI xss ix) fun _ => K .undef (O.set i (.nest e1 t1 up (xss.set ix.toNat []) none true))
          | some p => if p.1 = ix then Option.bind (getI xss ix) fun _ => K .undef (O.set i (.nest e1 t1 up (xss.set ix.toNat []) none true)) else none
        else none
      | none => none
    | _ => none
  | _ => none
def opStore (t : TypeId) (a b : SV D) (O : List (Ob D)) (K : SV D → List (Ob D) → Option ρ) : Option ρ :=
  match P.info? t with
  | none => none
  | some k =>
    match a with
    | .box i off =>
      match cellsS b with
      | none => none
      | some new =>
        if new.length = k.size then
          match O[i]? with
          | some (.box u cs false _) => if off + new.length ≤ cs.length then K .undef (O.set i (.box u (setC cs off new) false true)) else none
          | some (.recv u cs _) => if off + new.length ≤ cs.length then K .undef (O.set i (.recv u (setC cs off new) true)) else none
          | _ => none
        else none
    | .el i e ix off =>
      if isNest O[i]? = true then opStoreN X t i e ix off b O K else
      match frzS O b with
      | none => none
      | some (new, O) =>
        if new.length = k.size then
          match O[i]?, X.I e with
          | some (.sl e' xs false _), some ti =>
            if h : e' = e then Option.bind (getI (h ▸ xs : List (D e)) ix) fun a => if off + new.length ≤ (ti.lv a).length then Option.bind (ti.pk (setC (ti.lv a) off new)) fun a' => K .undef (O.set i (.sl e ((h ▸ xs : List (D e)).set ix.toNat a') false true)) else none
            else none
          | some (.arr e' u n xs _), some ti =>
            if h : e' = e then Option.bind (getI (h ▸ xs : List (D e)) ix) fun a => if off + new.length ≤ (ti.lv a).length then Option.bind (ti.pk (setC (ti.lv a) off new)) fun a' => K .undef (O.set i (.arr e u n ((h ▸ xs : List (D e)).set ix.toNat a') true)) else none
            else none
          | _, _ => none
        else none
    | _ => none
def mkAll {e : Nat} (ti : TI P X.G e) (E : List (Nat × SV D)) : Nat → List (Nat × Operand) → List (Ob D) → (List (D e) → List (Ob D) → Option ρ) → Option ρ
  | _, [], O, K => K [] O
  | n, (j, x) :: ps, O, K =>
    if j = n then
      match frzS O (sop E x) with
      | some (cs, O) => Option.bind (ti.pk cs) fun a => mkAll ti E (n + 1) ps O fun as O => K (a :: as) O
      | none => none
    else none
def fillC (pl : List (Option (Nat × Nat))) (E : List (Nat × SV D)) : List (Nat × Operand) → List (CV D) → Option (List (CV D))
  | [], cs => some cs
  | (i, x) :: ps, cs =>
    match (pl[i]?).join, cellsS (sop E x) with
    | some (off, size), some new => if new.length = size ∧ off + size ≤ cs.length then fillC pl E ps (setC cs off new) else none
    | _, _ => none
def lowX (E : List (Nat × SV D)) : Option Operand → Option Int
  | none => some 0
  | some y => match sop E y with | .c (.int _ n) => some n | _ => none
def highX (E : List (Nat × SV D)) (l : Int) : Option Operand → Option Int
  | none => some l
  | some y => match sop E y with | .c (.int _ n) => some n | _ => none
def opCut (t : TypeId) (a : SV D) (E : List (Nat × SV D)) (lo hi : Option Operand) (O : List (Ob D)) (K : SV D → List (Ob D) → Option ρ) : Option ρ :=
  match a with
  | .c (.str s) =>
    match P.underlying t, lowX E lo, highX E (s.length : Int) hi with
    | some .string, some x, some y => Option.bind (cutI s x y) fun r => K (.c (.str r)) O
    | _, _, _ => none
  | .c c =>
    match frzC O c with
    | some (.sl e xs, O) =>
      match P.underlying t, X.I e, lowX E lo, highX E (xs.length : Int) hi with
      | some (.slice e'), some _, some x, some y => if e' = e then Option.bind (cutI xs x y) fun r => K (.c (.sl e r)) O else none
      | _, _, _, _ => none
    | _ => none
  | _ => none
def nilB : SV D → Bool
  | .c .nilS => true
  | _ => false
def opCut' (t : TypeId) (y : Operand) (a : SV D) (E : List (Nat × SV D)) (lo hi : Option Operand) (O : List (Ob D)) (K : SV D → List (Ob D) → Option ρ) : Option ρ :=
  if nilB a = true then
    match P.underlying t, lowX E lo, highX E 0 hi with
    | some (.slice e), some p, some q => (match X.I e with | some _ => if (p == 0 && q == 0) = true then K (.c .nilS) O else none | none => none)
    | _, _, _ => none
  else
  match X.U y lo hi with
  | 0 => opCut X t a E lo hi O K
  | md + 1 =>
    match a with
    | .c (.own i) =>
      match O[i]?, P.underlying t with
      | some (.sl e xs false _), some (.slice e') =>
        match X.I e, lowX E lo, highX E (xs.length : Int) hi with
        | some _, some p, some q =>
          if e' = e then Option.bind (cutI xs p q) fun r =>
            if Nat.beq md 0 = true then K (.cut i e p.toNat q.toNat) O
            else K (.c (.own O.length)) (O.set i .dead ++ [.sl e r false false])
          else none
        | _, _, _ => none
      | _, _ => none
    | _ => none
def cut3I {α : Type} (xs : List α) (p q : Int) : Option (List α) := if 0 ≤ p ∧ p ≤ (xs.length : Int) ∧ p ≤ 4294967296 ∧ p = q then some (xs.take p.toNat) else none
def opCut3 (t : TypeId) (a b c : SV D) (O : List (Ob D)) (K : SV D → List (Ob D) → Option ρ) : Option ρ :=
  match P.underlying t, b, c with
  | some (.slice e'), .c (.int _ p), .c (.int _ q) =>
    match a with
    | .c c =>
      match frzC O c with
      | some (.sl e xs, O) =>
        match X.I e with
        | some _ => if e' = e then Option.bind (cut3I xs p q) fun r => K (.full e r) O else none
        | none => none
      | _ => none
    | _ => none
  | _, _, _ => none
def opConv (s t : TypeId) (a : SV D) (O : List (Ob D)) (K : SV D → List (Ob D) → Option ρ) : Option ρ :=
  match P.underlying s, P.underlying t with
  | some (.int _), some (.int k') => (match a with | .c (.int _ n) => K (.c (.int k' (k'.wrap n))) O | _ => none)
  | some .string, some (.slice e) => (match a, X.B e with | .c (.str s), some bi => Option.bind (appI s []) (fun s' => K (.c (.own O.length)) (O ++ [.sl e (bi.of s') false false])) | _, _ => none)
  | some (.slice e), some .string => (match lookS O a, X.B e with | some ⟨e', xs⟩, some bi => if h : e' = e then K (.c (.str (bi.to (h ▸ xs)))) O else none | _, _ => none)
  | _, _ => none
def lookB (O : List (Ob D)) (s : SV D) : Option ((e : Nat) × List (D e)) :=
  match s with
  | .cut i e lo n =>
    match O[i]? with
    | some (.sl e' xs false _) => if e' = e then some ⟨e', (xs.take n).drop lo⟩ else none
    | _ => none
  | s => lookS O s
def opApp (t u : TypeId) (a b : SV D) (O : List (Ob D)) (K : SV D → List (Ob D) → Option ρ) : Option ρ :=
  match P.underlying t, P.underlying u with
  | some (.slice e), some (.slice _) =>
    match X.I e with
    | none => none
    | some _ =>
      let ys : Option (List (D e)) :=
        match b with
        | .c .nilS => some []
        | b => match lookB O b with | some ⟨e', ys⟩ => if h : e' = e then some (h ▸ ys) else none | none => none
      match ys with
      | none => none
      | some ys =>
        match a with
        | .c .nilS => Option.bind (appI [] ys) fun r => K (.c (.own O.length)) (O ++ [.sl e r false false])
        | .full e' xs => if h : e' = e then (if ys.isEmpty = true then none else Option.bind (appI (h ▸ xs : List (D e)) ys) fun r => K (.c (.own O.length)) (O ++ [.sl e r false false])) else none
        | .c (.own i) =>
          match O[i]? with
          | some (.sl e' xs false _) => if h : e' = e then Option.bind (appI (h ▸ xs : List (D e)) ys) fun r => K (.c (.own O.length)) (O.set i .dead ++ [.sl e r false false]) else none
          | _ => none
        | .cut i e1 lo n =>
          if Nat.beq lo 0 = true then
            if e1 = e then
              match O[i]? with
              | some (.sl e' xs false _) => if h : e' = e then Option.bind (appI ((h ▸ xs : List (D e)).take n) ys) fun r => K (.c (.own O.length)) (O.set i .dead ++ [.sl e r false false]) else none
              | _ => none
            else none
          else none
        | _ => none
  | _, _ => none
def opAppMk (t : TypeId) (a b : SV D) (O : List (Ob D)) (K : SV D → List (Ob D) → Option ρ) : Option ρ :=
  match P.underlying t, a, b with
  | some (.slice e), .c .nilS, .c (.int _ n) =>
    match X.I e with
    | some ti => if (decide (0 < n)) = true then Option.bind (mkI ti.x0 n) fun r => K (.c (.own O.length)) (O ++ [.sl e r false false]) else none
    | none => none
  | some (.slice e), .c (.own i), .c (.int _ n) =>
    match fillN O i with
    | some O1 =>
      match O1[i]? with
      | some (.nest e1 t1 up xa none _) =>
        match X.N e1 t1 with
        | some _ => if e1 = e then Option.bind (mkI ([] : List (D t1)) n) fun ys => Option.bind (appI xa ys) fun r => K (.c (.own O1.length)) (O1.set i .dead ++ [.nest e1 t1 up r none false]) else none
        | none => none
      | _ => none
    | none => none
  | _, _, _ => none
def isIntT : Option TypeDesc → Bool
  | some (.int _) => true
  | _ => false
def opMkN (t : TypeId) (l : Nat) (ps : List (Nat × Operand)) (E : List (Nat × SV D)) (O : List (Ob D)) (K : SV D → List (Ob D) → Option ρ) : Option ρ :=
  match P.underlying t with
  | some (.slice e) =>
    match P.underlying e with
    | some (.slice t1) =>
      match X.N e t1 with
      | some ni =>
        match l, ps with
        | 0, [] => K (.c (.own O.length)) (O ++ [.nest e t1 (some ni.up) [] none false])
        | 1, [(0, y)] =>
          match sop E y with
          | .c (.own j) =>
            match O[j]? with
            | some (.sl t2 _ false _) => if t2 = t1 then K (.c (.own O.length)) (O ++ [.nest e t1 (some ni.up) [[]] (some (0, j)) false]) else none
            | _ => none
          | _ => none
        | _, _ => none
      | none => none
    | _ => none
  | _ => none
def opAppN (t u : TypeId) (i : Nat) (b : SV D) (O : List (Ob D)) (K : SV D → List (Ob D) → Option ρ) : Option ρ :=
  match P.underlying t, P.underlying u with
  | some (.slice e), some (.slice _) =>
    match b with
    | .c (.own j) =>
      if Nat.beq i j = true then none else
      match fillN O i with
      | some O1 =>
        match fillN O1 j with
        | some O2 =>
          match O2[i]?, O2[j]? with
          | some (.nest e1 t1 up xa none _), some (.nest e2 t2 _ xb none _) =>
            match X.N e1 t1 with
            | some ni => if h : t2 = t1 then (if e1 = e ∧ e2 = e then Option.bind (appI xa (h ▸ xb : List (List (D t1)))) fun r => K (.c (.own O2.length)) ((O2.set i .dead).set j .dead ++ [.nest e1 t1 up r none false]) else none) else none
            | none => none
          | _, _ => none
        | none => none
      | none => none
    | _ => none
  | _, _ => none
def opLen (t : TypeId) (a : SV D) (O : List (Ob D)) (K : SV D → List (Ob D) → Option ρ) : Option ρ :=
  match a, P.underlying t with
  | .c (.str s), some .string => K (.c (.int .i64 (s.length : Int))) O
  | .c .nilS, some (.slice _) => K (.c (.int .i64 (([] : List Int).length : Int))) O
  | a, some (.slice _) =>
    match lookS O a with
    | some ⟨_, xs⟩ => K (.c (.int .i64 (xs.length : Int))) O
    | none =>
      match a with
      | .c (.own i) => (match O[i]? with | some (.nest _ _ _ xss _ _) => K (.c (.int .i64 (xss.length : Int))) O | _ => none)
      | .cut i e lo hi => (match O[i]? with | some (.sl e' xs false _) => if e' = e then K (.c (.int .i64 (((xs.take hi).drop lo).length : Int))) O else none | _ => none)
      | _ => none
  | _, _ => none
def noOwn : CV D → Bool
  | .own _ => false
  | _ => true
def capOf (O : List (Ob D)) : SV D → Option ((Nat × List (CV D)) × List (Ob D))
  | .rp t cs off => if off = 0 then some ((t, cs), O) else none
  | .box i off =>
    match O[i]? with
    | some (.box t cs _ w) => if off = 0 ∧ cs.all noOwn = true then some ((t, cs), O.set i (.box t cs true w)) else none
    | _ => none
  | _ => none
def capsOf : List (SV D) → List (Ob D) → Option (List (Nat × List (CV D)) × List (Ob D))
  | [], O => some ([], O)
  | s :: l, O =>
    match capOf O s with
    | some (c, O) => (match capsOf l O with | some (r, O) => some (c :: r, O) | none => none)
    | none => none
def sortG : List (SV D) → Option Nat
  | [_, .fn g []] => some g
  | _ => none
def sgB : Option Nat → Nat → Bool
  | some g, n => Nat.beq g n
  | none, _ => false
def findS : List (SI P X.G) → Nat → List (Nat × List (CV D)) → List (SV D) → Option (SI P X.G)
  | [], _, _, _ => none
  | s :: l, f, caps, svs => if (Nat.beq s.f f && (caps.isEmpty && sgB (sortG svs) s.g)) = true then some s else findS l f caps svs
def opSort (si : SI P X.G) (svs : List (SV D)) (O : List (Ob D)) (K : SV D → List (Ob D) → Option ρ) : Option ρ :=
  match svs with
  | .c .nilS :: _ => K (.tup []) O
  | .c (.own i) :: _ =>
    match O[i]? with
    | some (.sl e xs false _) => if h : e = si.e then Option.bind (si.srt (h ▸ xs : List (D si.e))) fun ys => K (.tup []) (O.set i (.sl si.e ys false true)) else none
    | _ => none
  | _ => none
def opCall (c : Call) (E : List (Nat × SV D)) (O : List (Ob D)) (K : SV D → List (Ob D) → Option ρ) : Option ρ :=
  match c.callee with
  | .builtin .len => match c.args.toList, c.argTypes.toList with | [x], [t] => opLen (P := P) t (sop E x) O K | _, _ => none
  | .builtin .append => match c.args.toList, c.argTypes.toList with | [x, y], [t, u] => if isIntT (P.underlying u) = true then opAppMk X t (sop E x) (sop E y) O K else (match sop E x with | .c (.own i) => if isNest O[i]? = true then opAppN X t u i (sop E y) O K else opApp X t u (sop E x) (sop E y) O K | _ => opApp X t u (sop E x) (sop E y) O K) | _, _ => none
  | .builtin .cap => match c.args.toList, c.argTypes.toList with | [x], [t] => (match sop E x, P.underlying t with | .c .nilS, some (.slice _) => K (.c (.int .i64 0)) O | _, _ => none) | _, _ => none
  | .builtin .max => match c.args.toList with | [x, y] => (match sop E x, sop E y with | .c (.int k a), .c (.int k' b) => if k = k' then K (.c (.int k (max a b))) O else none | _, _ => none) | _ => none
  | .builtin .min => match c.args.toList with | [x, y] => (match sop E x, sop E y with | .c (.int k a), .c (.int k' b) => if k = k' then K (.c (.int k (min a b))) O else none | _, _ => none) | _ => none
  | .value f =>
    match sop E f with
    | .fn f caps =>
      match findS X X.S f caps (c.args.toList.map (sop E)) with
      | some si => opSort X si (c.args.toList.map (sop E)) O K
      | none => X.C f (c.args.toList.map (sop E) ++ caps.map fun p => .rp p.1 p.2 0) O K
    | _ => none
  | _ => none
def opMakeN (e : Nat) (x y : Operand) (n : Int) (O : List (Ob D)) (K : SV D → List (Ob D) → Option ρ) : Option ρ :=
  match P.underlying e with
  | some (.slice t1) =>
    match X.N e t1, sameX x y with
    | some ni, true => Option.bind (mkI ([] : List (D t1)) n) fun r => K (.c (.own O.length)) (O ++ [.nest e t1 (some ni.up) r none false])
    | _, _ => none
  | _ => none
def op1 (o : Op) (E : List (Nat × SV D)) (O : List (Ob D)) (K : SV D → List (Ob D) → Option ρ) : Option ρ :=
  match o with
  | .move x => K (sop E x) O
  | .assign x => K (sop E x) O
  | .nilCheck x => (match sop E x with | .box .. | .arr .. | .el .. | .rp .. => K (sop E x) O | _ => none)
  | .extract x i => (match sop E x with | .tup l => (match l[i]? with | some (.inl c) => K (.c c) O | some (.inr p) => K (.agg p.1 p.2) O | none => none) | _ => none)
  | .pick c a b => (match sop E c with | .c (.bool true) => K (sop E a) O | .c (.bool false) => K (sop E b) O | _ => none)
  | .binOp op t x y u => (match sop E x, sop E y with | .agg t1 c1, .agg t2 c2 => eqA X op t t1 c1 t2 c2 fun c => K (.c c) O | a, b => binX (P := P) op t y O a b fun c => K (.c c) O)
  | .unOp .not t x => (match sop E x with | .c (.bool b) => K (.c (.bool (!b))) O | _ => none)
  | .unOp .neg t x => (match sop E x with | .c (.int k a) => K (.c (.int k (k.wrap (0 - a)))) O | _ => none)
  | .convert s t x => opConv X s t (sop E x) O K
  | .indexAddr t x y => opIdx X t (sop E x) (sop E y) O K
  | .fieldAddr t x n => opFld (P := P) t n (sop E x) O K
  | .load t x => if Nat.beq (X.U x none none) 4 = true then opLoadF X t (sop E x) O K else opLoad X t (sop E x) O K
  | .store t x y => opStore X t (sop E x) (sop E y) O K
  | .alloc t =>
    (match X.A t with
    | some ai => K (.arr O.length) (O ++ [.arr ai.e t ai.n (List.replicate ai.n ai.ti.x0) false])
    | none => match X.I t with | some ti => K (.box O.length 0) (O ++ [.box t ti.zc false false]) | none => none)
  | .box t x =>
    (match P.info? t, cellsS (sop E x) with
    | some i, some cs => if cs.length = i.size then K (.box O.length 0) (O ++ [.box t cs false false]) else none
    | _, _ => none)
  | .makeSlice t x y =>
    (match P.underlying t, sop E x with
    | some (.slice e), .c (.int _ n) =>
      if Nat.beq (X.U x (some x) (some x)) 3 = true then opMakeN X e x y n O K else
      match X.I e, sameX x y with
      | some ti, true => Option.bind (mkI ti.x0 n) fun r => K (.c (.own O.length)) (O ++ [.sl e r false false])
      | _, _ => none
    | _, _ => none)
  | .buildSlice t l ps =>
    if Nat.beq (X.U (.const (.int .i64 (t : Int))) none none) 3 = true then opMkN X t l ps.toList E O K else
    (match P.underlying t with
    | some (.slice e) =>
      match X.I e with
      | some ti => mkAll X ti E 0 ps.toList O fun as O => if as.length = l ∧ Nat.ble (l * (X.G.T e).sz) 16777216 = true then K (.c (.own O.length)) (O ++ [.sl e as false false]) else none
      | none => none
    | _ => none)
  | .build t ps =>
    (match P.underlying t, X.I t with
    | some (.struct fs), some ti => if (places P fs).all Option.isSome = true then (match fillC (places P fs) E ps.toList ti.zc with | some cs => K (.agg t cs) O | none => none) else none
    | _, _ => none)
  | .slice t x lo hi none => opCut' X t x (sop E x) E lo hi O K
  | .slice t x none (some y) (some mx) => opCut3 X t (sop E x) (sop E y) (sop E mx) O K
  | .index t x y => (match P.underlying t, sop E x, sop E y with | some .string, .c (.str s), .c (.int _ n) => Option.bind (getI s n) fun c => K (.c (.int .u8 (UInt8.toNat c : Int))) O | _, _, _ => none)
  | .makeFunc (.func f) first cap => (match first.toList, capsOf (cap.toList.map (sop E)) O with | [], some (caps, O) => K (.fn f caps) O | _, _ => none)
  | .makeMap t none => (match P.underlying t with | some (.map kt vt) => K (.c (.own O.length)) (O ++ [.map t kt vt [] false false]) | _ => none)
  | .lookup t x y ok =>
    (match lookM O (sop E x), sop E y with
    | some ⟨u, kt, vt, es⟩, c =>
      match P.underlying t, P.underlying u with
      | some (.map k v), some (.map k' v') =>
        if k = kt ∧ v = vt ∧ k' = kt ∧ v' = vt then
          match X.J kt vt with
          | some mi =>
            match mi.kget c with
            | some a => AM.lt (@mpGet _ _ mi.dec es a) fun y => if ok = true then K (.tup [.inl (mi.vput (y.getD mi.z0)), .inl (.bool y.isSome)]) O else K (.c (mi.vput (y.getD mi.z0))) O
            | none => none
          | none => none
        else none
      | _, _ => none
    | _, _ => none)
  | .mapUpdate t x y w | .insert t x y w =>
    (match sop E x, sop E y, sop E w with
    | .c (.own i), c, .c d =>
      match O[i]? with
      | some (.map u kt vt es false _) =>
        match P.underlying t, P.underlying u with
        | some (.map k v), some (.map k' v') =>
          if k = kt ∧ v = vt ∧ k' = kt ∧ v' = vt then
            match X.J kt vt with
            | some mi =>
              match mi.kget c, mi.vget d with
              | some a, some b => AM.lt (@mpSet _ _ mi.dec es a b) fun es' => K .undef (O.set i (.map u kt vt es' false true))
              | _, _ => none
            | none => none
          else none
        | _, _ => none
      | _ => none
    | _, _, _ => none)
  | .call c => opCall X c E O K
  | _ => none
def pickOn : Op → Option Nat
  | .pick (.tmp d) _ _ => some d
  | _ => none
def splitE (E : List (Nat × SV D)) (d : Nat) (K : List (Nat × SV D) → Option ρ) : Option ρ :=
  match lkE E d with
  | .c (.bool b) => if b = true then K ((d, .c (.bool true)) :: E) else K ((d, .c (.bool false)) :: E)
  | .undef => K E
  | _ => none
def opP (o : Oper) (E : List (Nat × SV D)) (O : List (Ob D)) (K : List (Nat × SV D) → List (Ob D) → Option ρ) : Option ρ :=
  match pickOn o.op with
  | some d => splitE E d fun E => op1 X o.op E O fun v O => K (putE E o.dst v) O
  | none => op1 X o.op E O fun v O => K (putE E o.dst v) O
def runL (ops : List Oper) : List Oper → List (Nat × SV D) → List (Ob D) → (List (Nat × SV D) → List (Ob D) → Option ρ) → Option ρ
  | [], E, O, K => K E O
  | o :: os, E, O, K =>
    match o.guard with
    | none => opP X o E O fun E O => runL ops os E O K
    | some (j, want) =>
      match (ops[j]?).bind (·.dst) with
      | none => none
      | some d =>
        splitE E d fun E =>
          match lkE E d with
          | .c (.bool b) => if b = want then opP X o E O fun E O => runL ops os E O K else runL ops os (putE E o.dst .undef) O K
          | .undef => runL ops os (putE E o.dst .undef) O K
          | _ => none
inductive RdS where
  | nr | fz | lost
  | ob (j : Nat)
def srcOf (E : List (Nat × SV D)) : Op → Option RdS
  | .load _ x => (match sop E x with | .rp _ (_ :: _) _ => some .fz | .box j _ => some (.ob j) | .el j _ _ _ => some (.ob j) | _ => none)
  | .lookup _ x _ _ => (match sop E x with | .c (.mp _ _ _ _) => some .fz | .c (.own j) => some (.ob j) | _ => none)
  | .convert _ _ x => (match sop E x with | .c (.sl _ _) => some .fz | .c (.own j) => some (.ob j) | .c (.int _ _) => some .nr | .c (.str _) => some .nr | _ => none)
  | .slice _ x _ _ _ => (match sop E x with | .c (.str _) => some .nr | .c (.sl _ _) => some .fz | .c (.own j) => some (.ob j) | _ => none)
  | _ => some .nr
def boxesOf : List (SV D) → List Nat
  | [] => []
  | .box i _ :: l => i :: boxesOf l
  | _ :: l => boxesOf l
def ownsOf : List (SV D) → List Nat
  | [] => []
  | .c (.own i) :: l => i :: ownsOf l
  | _ :: l => ownsOf l
def tgtOf (E : List (Nat × SV D)) : Op → Option (List Nat)
  | .store _ x _ => (match sop E x with | .box j _ => some [j] | .el j _ _ _ => some [j] | _ => none)
  | .mapUpdate _ x _ _ => (match sop E x with | .c (.own j) => some [j] | _ => none)
  | .insert _ x _ _ => (match sop E x with | .c (.own j) => some [j] | _ => none)
  | .call c =>
    match c.callee with
    | .builtin .append => (match c.args.toList with | x :: _ => (match sop E x with | .c .nilS => some [] | .c (.own j) => some [j] | .cut j _ _ _ => some [j] | .full _ _ => some [] | _ => none) | [] => none)
    | .value f => (match sop E f with | .fn f' caps => (match findS X X.S f' caps (c.args.toList.map (sop E)) with | some _ => some (ownsOf (c.args.toList.map (sop E))) | none => if X.W f' = true then none else some (boxesOf (c.args.toList.map (sop E)))) | _ => none)
    | _ => none
  | _ => none
structure Lg where
  rd : List (Nat × RdS)
  ef : List (Nat × (Bool × List Nat))
  nw : List (Nat × Nat)
  fl : List (Nat × Bool)
  yn : List Nat
def isFz : SV D → Bool
  | .c (.sl _ _) => true
  | .rp _ (_ :: _) _ => true
  | _ => false
def oldS (E : List (Nat × SV D)) (L : Lg) : Operand → Bool
  | .tmp d => !(L.yn.any (Nat.beq d)) && isFz (lkE E d)
  | _ => false
def drvS (E : List (Nat × SV D)) (L : Lg) : Op → Bool
  | .move x => oldS E L x
  | .assign x => oldS E L x
  | .nilCheck x => oldS E L x
  | .fieldAddr _ x _ => oldS E L x
  | .indexAddr _ x _ => oldS E L x
  | _ => false
def ldS (E : List (Nat × SV D)) (L : Lg) : Op → Bool
  | .load _ x => oldS E L x
  | .slice _ x _ _ none => oldS E L x
  | _ => false
def ynLg (E : List (Nat × SV D)) (o : Oper) (L : Lg) : Lg :=
  match o.dst with
  | none => L
  | some d => if drvS E L o.op = true then { L with yn := L.yn.filter fun e => !(Nat.beq d e) } else { L with yn := d :: L.yn }
def liveAt (O : List (Ob D)) (j : Nat) : Bool := match O[j]? with | some o => o.live | none => false
def goodAt (O : List (Ob D)) (j : Nat) : Bool := match O[j]? with | some .dead => false | some (.box _ [] true _) => false | some _ => true | none => false
def apartB (O : List (Ob D)) (ts : List Nat) (j : Nat) : Bool := goodAt O j && !(ts.any (Nat.beq j))
def liveIdx (O : List (Ob D)) : Nat → List (Ob D) → List Nat
  | _, [] => []
  | i, o :: l => if o.live = true then i :: liveIdx O (i + 1) l else liveIdx O (i + 1) l
def rdChk (B : Array Nat) (i : Nat) (O : List (Ob D)) (L : Lg) : RdS → Bool
  | .nr => true
  | .fz => L.ef.all fun y => anc B i y.1 || y.2.1
  | .ob j => goodAt O j && L.ef.all fun y => anc B i y.1 || (y.2.1 || y.2.2.any (Nat.beq j))
  | .lost => false
def srcB (O : List (Ob D)) (ts : List Nat) : RdS → Bool
  | .ob j => apartB O ts j
  | .lost => false
  | _ => true
def efChk (B : Array Nat) (i : Nat) (O : List (Ob D)) (L : Lg) (ts : List Nat) : Bool :=
  ts.all (liveAt O) && ((L.rd.all fun y => anc B i y.1 || srcB O ts y.2) && L.nw.all fun y => anc B i y.1 || apartB O ts y.2)
def quietOf (E : List (Nat × SV D)) (O : List (Ob D)) : Op → Bool
  | .call c =>
    match c.callee with
    | .value f => (match sop E f with | .fn f caps => (match findS X X.S f caps (c.args.toList.map (sop E)) with | some _ => false | none => X.F f (c.args.toList.map (sop E) ++ caps.map fun p => .rp p.1 p.2 0) O) | _ => false)
    | _ => false
  | _ => false
def efLg (i : Nat) (O : List (Ob D)) (ts : List Nat) (qt : Bool) (L : Lg) : Lg :=
  { rd := L.rd.map fun y => if srcB O ts y.2 = true then y else (y.1, .lost)
    ef := ((i, true, liveIdx O 0 O) :: L.ef).map fun y => (y.1, y.2.1 && qt, y.2.2.filter (apartB O ts))
    nw := L.nw
    fl := (i, ts.isEmpty) :: L.fl.map fun y => (y.1, y.2 && ts.isEmpty)
    yn := L.yn }
def newOf : SV D → Option (Option Nat)
  | .c (.own j) => some (some j)
  | .box j _ => some (some j)
  | .arr j => some (some j)
  | .c (.int _ _) => some none
  | .c (.str _) => some none
  | _ => none
def nwOf (o : Op) (v : SV D) : Option (Option Nat) := if makes o = true then newOf v else some none
def rdLg (i : Nat) (s : RdS) (n : Option Nat) (L : Lg) : Lg :=
  { rd := match s with | .nr => L.rd | s => (i, s) :: L.rd
    ef := match n with | some _ => L.ef.map fun y => (y.1, false, y.2.2) | none => L.ef
    nw := match n with | some j => (i, j) :: L.nw | none => L.nw
    fl := L.fl
    yn := L.yn }
def fzB : RdS → Bool
  | .fz => true
  | _ => false
def oldChk (B : Array Nat) (i : Nat) (E : List (Nat × SV D)) (L : Lg) (s : RdS) (o : Op) : Bool := fzB s && ldS E L o
def opD1 (B : Array Nat) (i : Nat) (o : Oper) (L : Lg) (E : List (Nat × SV D)) (O : List (Ob D)) (K : Lg → List (Nat × SV D) → List (Ob D) → Option ρ) : Option ρ :=
  if isEff o.op = true then
    match tgtOf X E o.op with
    | some ts => if efChk B i O L ts = true then op1 X o.op E O fun v O' => K (ynLg E o (efLg i O ts (quietOf X E O o.op) L)) (putE E o.dst v) O' else none
    | none => none
  else
    match srcOf E o.op with
    | some s =>
      if (rdChk B i O L s || oldChk B i E L s o.op) = true then
        op1 X o.op E O fun v O' =>
          match nwOf o.op v with
          | some n => K (ynLg E o (rdLg i s n L)) (putE E o.dst v) O'
          | none => none
      else none
    | none => none
def opD (B : Array Nat) (i : Nat) (o : Oper) (L : Lg) (E : List (Nat × SV D)) (O : List (Ob D)) (K : Lg → List (Nat × SV D) → List (Ob D) → Option ρ) : Option ρ :=
  match pickOn o.op with
  | some d => splitE E d fun E => opD1 X B i o L E O K
  | none => opD1 X B i o L E O K
def runD (B : Array Nat) (ops : List Oper) : Nat → List Oper → Lg → List (Nat × SV D) → List (Ob D) → (List (Nat × SV D) → List (Ob D) → Option ρ) → Option ρ
  | _, [], _, E, O, K => K E O
  | i, o :: os, L, E, O, K =>
    match o.guard with
    | none => opD X B i o L E O fun L E O => runD B ops (i + 1) os L E O K
    | some (j, want) =>
      match (ops[j]?).bind (·.dst) with
      | none => none
      | some d =>
        splitE E d fun E =>
          match lkE E d with
          | .c (.bool b) => if b = want then opD X B i o L E O fun L E O => runD B ops (i + 1) os L E O K else runD B ops (i + 1) os L (putE E o.dst .undef) O K
          | .undef => runD B ops (i + 1) os L (putE E o.dst .undef) O K
          | _ => none
structure Pc (D : Nat → Type) where
  path : List Nat
  fits : List (Nat × SV D) → List (Ob D) → Bool
  run : List (Nat × SV D) → List (Ob D) → {ρ : Type} → (AExit → List (Nat × SV D) → List (Ob D) → Option ρ) → Option ρ
def eqP : List Nat → List Nat → Bool
  | [], [] => true
  | a :: p, b :: q => Nat.beq a b && eqP p q
  | _, _ => false
def findP (us : List (Pc D)) (p : List Nat) (E : List (Nat × SV D)) (O : List (Ob D)) : Option (Pc D) :=
  match us with
  | [] => none
  | u :: us => if (eqP u.path p && u.fits E O) = true then some u else findP us p E O
def hasHole : Option (Ob D) → Bool
  | some (.nest _ _ _ _ (some _) _) => true
  | _ => false
def openH (O : List (Ob D)) (n : Nat) : Bool :=
  match O[n]? with
  | some (.nest _ _ _ _ (some p) _) => (match O[p.2]? with | some o => !o.live | none => false)
  | _ => false
def fillA : Nat → List (Ob D) → Option (List (Ob D))
  | 0, O => some O
  | n + 1, O => match fillA n O with | some O1 => if hasHole O1[n]? = true then (if openH O1 n = true then some O1 else fillN O1 n) else some O1 | none => none
def fillK (K : List (Nat × SV D) → List (Ob D) → Option ρ) (E : List (Nat × SV D)) (O : List (Ob D)) : Option ρ := match fillA O.length O with | some O' => K E O' | none => none
def exC (us : List (Pc D)) (calm : Array Oper → Bool) : Bool → List Nat → Code → List (Nat × SV D) → List (Ob D) → (AExit → List (Nat × SV D) → List (Ob D) → Option ρ) → Option ρ
  | top, p, .seq a b, E, O, K =>
    match (if top = true then none else findP us p.reverse E O) with
    | some u => u.run E O K
    | none => exC us calm false (0 :: p) a E O fun e E O => if e = .normal then exC us calm false (1 :: p) b E O K else K e E O
  | top, p, .cond c a b, E, O, K =>
    match (if top = true then none else findP us p.reverse E O) with
    | some u => u.run E O K
    | none =>
      match sop E c with
      | .c (.bool t) => if t = true then exC us calm false (0 :: p) a E O K else exC us calm false (1 :: p) b E O K
      | _ => none
  | top, p, .block id c, E, O, K =>
    match (if top = true then none else findP us p.reverse E O) with
    | some u => u.run E O K
    | none => exC us calm false (0 :: p) c E O fun e E O => K (if e = .exit id then .normal else e) E O
  | top, p, .region _ ops d, E, O, K =>
    match (if top = true then none else findP us p.reverse E O) with
    | some u => u.run E O K
    | none => if d = true then (if calm ops = true then runL X ops.toList ops.toList E O (fillK (K .normal)) else runD X (Region.before ops) ops.toList 0 ops.toList ⟨[], [], [], [], []⟩ E O (fillK (K .normal))) else runL X ops.toList ops.toList E O (fillK (K .normal))
  | top, p, .loop c, E, O, K =>
    match (if top = true then none else findP us p.reverse E O) with
    | some u => u.run E O K
    | none => none
  | _, _, .skip, E, O, K => K .normal E O
  | _, _, .label _, E, O, K => K .normal E O
  | _, _, .exit id, E, O, K => K (.exit id) E O
  | _, _, .ret, E, O, K => K .ret E O
  | _, _, _, _, _, _ => none
end
end
end Go.AM
end
section
set_option linter.unusedSimpArgs false
set_option linter.unusedVariables false
namespace Go.AM
section
variable {P : Program} {D : Nat → Type} {X : Ev P D} {ρ : Type} {z z' : Nat → Blk} {e m m' : Mem} {k : Option Nat} {vs : List Value} {fr : Nat → Value} {E : List (Nat × SV D)} {O : List (Ob D)} {o : Oper} {r : ρ}
def Nxt (X : Ev P D) (O : List (Ob D)) (z : Nat → Blk) (e : Mem) (k : Option Nat) (vs : List Value) (K : SV D → List (Ob D) → Option ρ) (r : ρ) (v : Value) (m' : Mem) : Prop :=
  ∃ z' vs' sv O', Inv O O' ∧ Zx e.next z z' ∧ (∀ (i : Nat) (u : Value), vs[i]? = some u → vs'[i]? = some u) ∧ Mm X.G O' z' e m' k vs' ∧ rel X.G z' vs' sv v ∧ K sv O' = some r
theorem Nxt.here {K : SV D → List (Ob D) → Option ρ} {sv : SV D} {v : Value} (hM : Mm X.G O z e m k vs) (hv : rel X.G z vs sv v) (hK : K sv O = some r) : Nxt X O z e k vs K r v m := ⟨z, vs, sv, O, Inv.refl O, Zx.refl z, fun _ _ h => h, hM, hv, hK⟩
theorem Nxt.from {K : SV D → List (Ob D) → Option ρ} {v : Value} {z1 : Nat → Blk} {O1 : List (Ob D)} (hi : Inv O O1) (hz : Zx e.next z z1) (h : Nxt X O1 z1 e k vs K r v m') : Nxt X O z e k vs K r v m' := by
  obtain ⟨z', vs', sv, O', h0, h1, h2, h3, h4, h5⟩ := h
  exact ⟨z', vs', sv, O', hi.trans h0, hz.trans h1, h2, h3, h4, h5⟩
theorem L2.getB {α β : Type} {R : α → β → Prop} : ∀ {l : List α} {k : List β} (_ : L2 R l k) (i : Nat) (a : α), l[i]? = some a → ∃ b, k[i]? = some b ∧ R a b := fun h i a ha => h.get i a ha
theorem look_rel (hE : ∀ d, rel X.G z vs (lkE E d) (fr d)) (x : Operand) : rel X.G z vs (sop E x) (ev fr x) := by
  cases x with
  | tmp t => exact hE t
  | func f => exact ⟨[], rfl, trivial⟩
  | global g => trivial
  | const v =>
    show rel X.G z vs (ofV v) v
    unfold ofV
    split <;> first | trivial | rfl
theorem frzO_ok {i : Nat} {c : CV D} {O' : List (Ob D)} {v : Value} (hM : Mm X.G O z e m k vs) (h : frzO O i = some (c, O')) (hv : vs[i]? = some v) : ∃ z', Inv O O' ∧ Zx e.next z z' ∧ Mm X.G O' z' e m k vs ∧ rel0 X.G z' vs c v := by
  unfold frzO at h
  split at h
  · rename_i t xs fz w ho
    cases h
    have hob := hM.obj i _ v ho hv
    cases fz with
    | true =>
      have : O.set i (.sl t xs true w) = O := by
        apply List.ext_getElem? 
        intro j
        rw [List.getElem?_set]
        split
        · rename_i hij; subst hij; rw [ho, if_pos (List.getElem?_eq_some_iff.1 ho).1]
        · rfl
      rw [this]
      exact ⟨z, Inv.refl O, Zx.refl z, hM, hob⟩
    | false =>
      have hob : OwF (X.G.T t) z e m k xs v := hob
      obtain ⟨z', h1, h2, h3, h4⟩ := hob.freeze hM.st
      have hb : blkV v = blkOf v := blkV_of (by obtain ⟨a, c, rfl⟩ := hob.ow.len; intro r; simp)
      exact ⟨z', Inv.set O i (.inl rfl), h1, hM.frz ho hv rfl rfl h1.le h2 (by rw [hb]; exact h4) h3, h3⟩
  · rename_i t kt vt es fz w ho
    cases h
    have hob := hM.obj i _ v ho hv
    cases fz with
    | true =>
      have : O.set i (.map t kt vt es true w) = O := by
        apply List.ext_getElem?
        intro j
        rw [List.getElem?_set]
        split
        · rename_i hij; subst hij; rw [ho, if_pos (List.getElem?_eq_some_iff.1 ho).1]
        · rfl
      rw [this]
      exact ⟨z, Inv.refl O, Zx.refl z, hM, hob⟩
    | false =>
      have hob : OwM (X.G.M t kt vt) z e m k es v := hob
      obtain ⟨z', h1, h2, h3, h4⟩ := hob.freeze hM.st
      have hb : blkV v = mapOf v := by obtain ⟨r, rfl, _⟩ := hob.ow; rfl
      exact ⟨z', Inv.set O i (.inl rfl), h1, hM.frz ho hv rfl rfl h1.le h2 (by rw [hb]; exact h4) h3, h3⟩
  · rename_i e0 t up xss w ho
    cases h
    obtain ⟨hu, ws, hob⟩ := hM.obj i _ v ho hv
    obtain ⟨h1, h2, h3⟩ := hu up rfl
    obtain ⟨z', g1, g2, g3, g4⟩ := nest_freeze hob h1 h2 h3 hM.st
    have hvm : ∀ r, v ≠ .map r := by obtain ⟨a, c, rfl⟩ := hob.ow.ow.len; intro r; simp
    exact ⟨z', Inv.set O i (.inl rfl), g1, hM.zchg (p := none) ho hv rfl hvm g1.le ⟨Nat.le_refl _, hM.st.dead, fun _ _ _ => rfl⟩ g2 (fun _ _ _ _ _ _ _ => Ap.none') (fun b hb => by cases hb) (fun b hb _ hl => g4 b hb hl) g3, g3⟩
  · cases h
theorem frzC_ok {c c' : CV D} {O' : List (Ob D)} {v : Value} (hM : Mm X.G O z e m k vs) (h : frzC O c = some (c', O')) (hv : rel0 X.G z vs c v) : ∃ z', Inv O O' ∧ Zx e.next z z' ∧ Mm X.G O' z' e m k vs ∧ rel0 X.G z' vs c' v := by
  cases c with
  | own i => exact frzO_ok hM h hv.1
  | _ => cases h; exact ⟨z, Inv.refl O, Zx.refl z, hM, hv⟩
theorem frzL_ok : ∀ {cs cs' : List (CV D)} {O O' : List (Ob D)} {ds : List Value} {z : Nat → Blk}, Mm X.G O z e m k vs → frzL O cs = some (cs', O') → L2 (rel0 X.G z vs) cs ds → ∃ z', Inv O O' ∧ Zx e.next z z' ∧ Mm X.G O' z' e m k vs ∧ L2 (rel0 X.G z' vs) cs' ds
  | [], cs', O, O', [], z, hM, h, _ => by cases h; exact ⟨z, Inv.refl _, Zx.refl z, hM, trivial⟩
  | c :: cs, cs', O, O', d :: ds, z, hM, h, ⟨h1, h2⟩ => by
    unfold frzL at h
    split at h
    · rename_i c' O1 hc
      split at h
      · rename_i cs1 O2 hcs
        cases h
        obtain ⟨z1, g0, g1, g2, g3⟩ := frzC_ok hM hc h1
        obtain ⟨z2, k0, k1, k2, k3⟩ := frzL_ok g2 hcs (rels.mono h2 g1.le fun _ _ h => h)
        exact ⟨z2, g0.trans k0, g1.trans k1, k2, rel0.mono g3 k1.le fun _ _ h => h, k3⟩
      · cases h
    · cases h
  | [], _, _, _, _ :: _, _, _, _, h => h.elim
  | _ :: _, _, _, _, [], _, _, _, h => h.elim
theorem cells_rel {s : SV D} {cs : List (CV D)} {v : Value} (h : cellsS s = some cs) (hv : rel X.G z vs s v) : storable v = true ∧ L2 (rel0 X.G z vs) cs v.cells.toList := by
  cases s with
  | c c =>
    cases h
    have := rel0.stor hv
    rw [this.2]
    exact ⟨this.1, hv, trivial⟩
  | agg t cs' =>
    cases h
    obtain ⟨ds, rfl, h2⟩ := hv
    exact ⟨rfl, h2⟩
  | _ => cases h
theorem frzS_ok {s : SV D} {cs : List (CV D)} {O' : List (Ob D)} {v : Value} (hM : Mm X.G O z e m k vs) (h : frzS O s = some (cs, O')) (hv : rel X.G z vs s v) : ∃ z', Inv O O' ∧ Zx e.next z z' ∧ Mm X.G O' z' e m k vs ∧ storable v = true ∧ L2 (rel0 X.G z' vs) cs v.cells.toList := by
  unfold frzS at h
  split at h
  · rename_i cs0 hc
    obtain ⟨h1, h2⟩ := cells_rel hc hv
    obtain ⟨z', g0, g1, g2, g3⟩ := frzL_ok hM h h2
    exact ⟨z', g0, g1, g2, h1, g3⟩
  · cases h
variable {x y : Operand} {t u : TypeId}
theorem binI_ok {op : BinOp} {kk : IntKind} {a b : Int} {K : CV D → Option ρ} (ho : o.op = .binOp op t x y u) (hx : ev fr x = .int kk a) (hy : ev fr y = .int kk b) (h : binI op y kk a b K = some r) : ∃ c v, K c = some r ∧ PureR P (ev fr) o v ∧ rel0 X.G z vs c v := by
  have lit : litNZ y = true → b ≠ 0 := fun hl hb => by
    unfold litNZ at hl
    split at hl
    · rename_i kk' n
      have : Value.int kk' n = .int kk b := hy
      cases this
      simp [hb] at hl
    · cases hl
  cases op with
  | add => exact ⟨_, _, h, pAdd ho hx hy, rfl⟩
  | sub => exact ⟨_, _, h, pSub ho hx hy, rfl⟩
  | mul => exact ⟨_, _, h, pMul ho hx hy, rfl⟩
  | and => exact ⟨_, _, h, pAnd ho hx hy, rfl⟩
  | or => exact ⟨_, _, h, pOr ho hx hy, rfl⟩
  | xor => exact ⟨_, _, h, pXor ho hx hy, rfl⟩
  | andNot => exact ⟨_, _, h, pAndNot ho hx hy, rfl⟩
  | eql => exact ⟨_, _, h, pEql ho hx hy, rfl⟩
  | neq => exact ⟨_, _, h, pNeq ho hx hy, rfl⟩
  | lss => exact ⟨_, _, h, pLss ho hx hy, rfl⟩
  | leq => exact ⟨_, _, h, pLeq ho hx hy, rfl⟩
  | gtr => exact ⟨_, _, h, pGtr ho hx hy, rfl⟩
  | geq => exact ⟨_, _, h, pGeq ho hx hy, rfl⟩
  | quo =>
    simp only [binI] at h
    split at h
    · rename_i hl
      exact ⟨_, _, h, pQuo ho hx hy (lit hl), rfl⟩
    · obtain ⟨c, hc, h⟩ := bind_some h
      obtain ⟨h1, rfl⟩ := divI_some hc
      exact ⟨_, _, h, pQuo ho hx hy h1, rfl⟩
  | rem =>
    simp only [binI] at h
    split at h
    · rename_i hl
      exact ⟨_, _, h, pRem ho hx hy (lit hl), rfl⟩
    · obtain ⟨c, hc, h⟩ := bind_some h
      obtain ⟨h1, rfl⟩ := modI_some hc
      exact ⟨_, _, h, pRem ho hx hy h1, rfl⟩
  | shl => cases h
  | shr => cases h
theorem binS_ok {op : BinOp} {s q : List UInt8} {K : CV D → Option ρ} (ho : o.op = .binOp op t x y u) (hx : ev fr x = str s) (hy : ev fr y = str q) (h : binS op s q K = some r) : ∃ c v, K c = some r ∧ PureR P (ev fr) o v ∧ rel0 X.G z vs c v := by
  cases op with
  | add =>
    obtain ⟨c, hc, h⟩ := bind_some h
    obtain ⟨h1, rfl⟩ := appI_some hc
    exact ⟨_, _, h, pAddS ho hx hy (by simp only [LIM] at h1; omega), rfl⟩
  | eql => exact ⟨_, _, h, pEqlS ho hx hy, rfl⟩
  | neq => exact ⟨_, _, h, pNeqS ho hx hy, rfl⟩
  | lss => exact ⟨_, _, h, pLssS ho hx hy, rfl⟩
  | leq => exact ⟨_, _, h, pLeqS ho hx hy, rfl⟩
  | gtr => exact ⟨_, _, h, pGtrS ho hx hy, rfl⟩
  | geq => exact ⟨_, _, h, pGeqS ho hx hy, rfl⟩
  | _ => cases h
theorem binB_ok {op : BinOp} {a b : Bool} {K : CV D → Option ρ} (ho : o.op = .binOp op t x y u) (ht : P.underlying t = some .bool) (hx : ev fr x = .bool a) (hy : ev fr y = .bool b) (h : binB op a b K = some r) : ∃ c v, K c = some r ∧ PureR P (ev fr) o v ∧ rel0 X.G z vs c v := by
  cases op with
  | eql => exact ⟨_, _, h, pEqlB ho ht hx hy, rfl⟩
  | neq => exact ⟨_, _, h, pNeqB ho ht hx hy, rfl⟩
  | _ => cases h
theorem lookS_ok {s : SV D} {v : Value} {p : (t : Nat) × List (D t)} (hM : Mm X.G O z e m k vs) (h : lookS O s = some p) (hv : rel X.G z vs s v) : SlR (X.G.T p.1) z p.2 v ∨ ∃ (w : Value) , OwF (X.G.T p.1) z e m k p.2 v := by
  unfold lookS at h
  split at h
  · cases h; exact .inl hv
  · rename_i i
    split at h
    · rename_i t xs fz w ho
      cases h
      have hob := hM.obj i _ v ho hv.1
      cases fz with
      | true => exact .inl hob
      | false => exact .inr ⟨v, hob⟩
    · cases h
  · cases h
theorem lookS_len {s : SV D} {v : Value} {p : (t : Nat) × List (D t)} (hM : Mm X.G O z e m k vs) (h : lookS O s = some p) (hv : rel X.G z vs s v) : ∃ a c, v = .slice a p.2.length c := by
  rcases lookS_ok hM h hv with h | ⟨_, h⟩
  · exact h.len
  · exact h.ow.len
theorem lookS_nil {s : SV D} {v : Value} {p : (t : Nat) × List (D t)} (hM : Mm X.G O z e m k vs) (h : lookS O s = some p) (hv : rel X.G z vs s v) : (v = .slice none 0 0 ∧ p.2 = []) ∨ ∃ a l c, v = .slice (some a) l c := by
  rcases lookS_ok hM h hv with h | ⟨_, h⟩
  · exact h.nilOr
  · exact h.ow.nilOr
theorem lookS_src {s : SV D} {v : Value} {p : (t : Nat) × List (D t)} (hM : Mm X.G O z e m k vs) (h : lookS O s = some p) (hv : rel X.G z vs s v) : Src (X.G.T p.1) z m p.2 v := by
  rcases lookS_ok hM h hv with h | ⟨_, h⟩
  · exact h.src hM.st.fz
  · exact h.ow.src
theorem CutV.slr {α : Type} {T : Ty α} {z' : Nat → Blk} {xs : List α} {lo n : Nat} {w v : Value} (hc : CutV T.sz lo n w v) (h : SlR T z' xs w) : SlR T z' ((xs.take n).drop lo) v := by
  rcases hc with ⟨rfl, rfl, rfl, rfl⟩ | ⟨b, f0, l, c, off, c', rfl, rfl, h1, h2, h3, h4⟩
  · exact .inl ⟨rfl, by simp⟩
  · rcases h with ⟨h, _⟩ | ⟨b', off', c2, g1, g2, g3, g4⟩
    · cases h
    · cases g1
      have hl : ((xs.take n).drop lo).length = n - lo := by simp; omega
      refine .inr ⟨b, off, c', by rw [hl], g2, ?_, fun i x hi => ?_⟩
      · rw [hl]
        rcases g3 with ⟨k1, L, k2, k3⟩ | ⟨k1, k2⟩
        · rcases h4 with ⟨_, h5⟩ | ⟨h5, _⟩
          · refine .inl ⟨h5, L, k2, ?_⟩
            have e1 : n * T.sz ≤ xs.length * T.sz := Nat.mul_le_mul_right _ h2
            rcases h3 with h3 | ⟨h3, h3'⟩
            · rw [h3, Nat.add_assoc, ← Nat.add_mul, show lo + (n - lo) = n by omega]; omega
            · rw [h3', show n - lo = 0 by omega]; omega
          · omega
        · rcases h4 with ⟨h5, _⟩ | ⟨h5, h6⟩
          · omega
          · exact .inr ⟨by omega, by omega⟩
      · obtain ⟨cs, k1, k2⟩ := g4 _ x (cut_get hi)
        refine ⟨cs, k1, ?_⟩
        rcases h3 with h3 | ⟨h3, h3'⟩
        · rw [h3, Nat.add_assoc, ← Nat.add_mul]; exact k2
        · have := (List.getElem?_eq_some_iff.1 hi).1
          omega
theorem CutV.owd {α : Type} {T : Ty α} {z' : Nat → Blk} {m' : Mem} {xs : List α} {lo n : Nat} {w v : Value} (hc : CutV T.sz lo n w v) (h : Ow T z' m' xs w) : Ow T z' m' ((xs.take n).drop lo) v := by
  rcases hc with ⟨rfl, rfl, _, rfl⟩ | ⟨b, f0, l, c, off, c', rfl, rfl, h1, h2, h3, h4⟩
  · exact .inl ⟨rfl, by simp⟩
  · rcases h with ⟨h, _⟩ | ⟨b', f1, L, c2, g1, g2, g3, g4, g5, g6, g7⟩
    · cases h
    · cases g1
      have hl : ((xs.take n).drop lo).length = n - lo := by simp; omega
      have e1 : n * T.sz ≤ xs.length * T.sz := Nat.mul_le_mul_right _ h2
      have e2 : lo * T.sz + (n - lo) * T.sz = n * T.sz := by rw [← Nat.add_mul, show lo + (n - lo) = n by omega]
      have e3 : n ≤ lo → (n - lo) * T.sz = 0 := fun h => by rw [show n - lo = 0 by omega, Nat.zero_mul]
      refine .inr ⟨b, off, L, c', by rw [hl], g2, g3, g4, ?_, ?_, fun i x hi => ?_⟩
      · rw [hl]
        rcases h3 with h3 | ⟨h3, h3'⟩
        · omega
        · have := e3 h3; omega
      · rw [hl]
        rcases h4 with ⟨_, h5⟩ | ⟨h5, h6⟩
        · exact .inl h5
        · rcases g6 with g6 | ⟨k1, k2, k3⟩
          · omega
          · subst h6
            have e4 : lo * T.sz + (c - lo) * T.sz = c * T.sz := by rw [← Nat.add_mul, show lo + (c - lo) = c by omega]
            refine .inr ⟨by omega, by omega, ?_⟩
            rcases h3 with h3 | ⟨h3, h3'⟩ <;> omega
      · obtain ⟨cs, k1, k2⟩ := g7 _ x (cut_get hi)
        refine ⟨cs, k1, ?_⟩
        rcases h3 with h3 | ⟨h3, h3'⟩
        · rw [h3, Nat.add_assoc, ← Nat.add_mul]; exact k2
        · have := (List.getElem?_eq_some_iff.1 hi).1
          omega
theorem CutV.ow {α : Type} {T : Ty α} {z' : Nat → Blk} {m' : Mem} {xs : List α} {n : Nat} {w v : Value} (hc : CutV T.sz 0 n w v) (h : Ow T z' m' xs w) : Ow T z' m' (xs.take n) v := by simpa using hc.owd h
theorem CutV.src {α : Type} {T : Ty α} {z' : Nat → Blk} {m' : Mem} {xs : List α} {lo n : Nat} {w v : Value} (hc : CutV T.sz lo n w v) (h : Ow T z' m' xs w) : Src T z' m' ((xs.take n).drop lo) v := by
  rcases hc with ⟨rfl, rfl, rfl, rfl⟩ | ⟨b, f0, l, c, off, c', rfl, rfl, h1, h2, h3, h4⟩
  · simpa using (Ow.nil (T := T) (z := z') (m := m')).src
  · rcases h with ⟨h, _⟩ | ⟨b', f1, L, c2, g1, g2, g3, g4, g5, g6, g7⟩
    · cases h
    · cases g1
      have hl : ((xs.take n).drop lo).length = n - lo := by simp; omega
      rw [← hl]
      refine src_of fun i y hy => ?_
      obtain ⟨cs, k1, k2⟩ := g7 _ y (cut_get hy)
      refine ⟨cs, k1, fun k u hk => ?_⟩
      have := (List.getElem?_eq_some_iff.1 hy).1
      have ho : off = f0 + lo * T.sz := by
        rcases h3 with h3 | ⟨h3, _⟩
        · exact h3
        · omega
      rw [ho, Nat.add_assoc f0, ← Nat.add_mul]
      simp only [Mem.load, g2]
      exact k2 k u hk
theorem CutV.blk {sz lo n : Nat} {w v : Value} (hc : CutV sz lo n w v) : blkV v = blkV w := by
  rcases hc with ⟨rfl, rfl, _, _⟩ | ⟨b, f0, l, c, off, c', rfl, rfl, _⟩ <;> rfl
theorem lookB_src {s : SV D} {v : Value} {p : (t : Nat) × List (D t)} (hM : Mm X.G O z e m k vs) (h : lookB O s = some p) (hv : rel X.G z vs s v) : Src (X.G.T p.1) z m p.2 v := by
  unfold lookB at h
  split at h
  · obtain ⟨w, h1, h2⟩ := hv
    split at h
    · rename_i e' xs w1 hO
      split at h
      · rename_i he
        subst he
        cases h
        have hob : OwF _ z e m k xs w := hM.obj _ _ _ hO h1.1
        exact h2.src hob.ow
      · cases h
    · cases h
  · exact lookS_src hM h hv
theorem isNil_ok (h : isNil y = true) : ev fr y = .slice none 0 0 := by
  unfold isNil at h
  split at h
  · rfl
  · cases h
theorem shX_ok {op : BinOp} {left : Bool} {kk kk' : IntKind} {a b : Int} {K : CV D → Option ρ} (ho : o.op = .binOp op t x y u) (ha : ev fr x = .int kk a) (hb : ev fr y = .int kk' b) (hop : (op = .shl ∧ left = true) ∨ (op = .shr ∧ left = false)) (h : shX left y kk a b K = some r) : ∃ c v, K c = some r ∧ PureR P (ev fr) o v ∧ rel0 X.G z vs c v := by
  have fin : ∀ {n : Nat}, 0 ≤ b → min b.toNat kk.bits = n → PureR P (ev fr) o (.int kk (shV left kk a n)) := by
    intro n hb0 hn
    have := pShift (P := P) (op := op) ho ha hb hb0 (by rcases hop with ⟨h, _⟩ | ⟨h, _⟩ <;> simp [h])
    rw [hn] at this
    have e : (if op = .shl then kk.wrap (a * 2 ^ n) else a.fdiv (2 ^ n)) = shV left kk a n := by
      rcases hop with ⟨rfl, rfl⟩ | ⟨rfl, rfl⟩ <;> simp [shV, Int.natCast_pow]
    rw [← e]; exact this
  unfold shX at h
  split at h
  · rename_i n hn
    obtain ⟨hl, h⟩ : Nat.ble n kk.bits = true ∧ K (.int kk (shV left kk a n)) = some r := by
      split at h
      · exact ⟨‹_›, h⟩
      · cases h
    have hbn : b = n := by
      unfold litNat at hn
      split at hn
      · cases hn
        have hb : Value.int _ (Int.ofNat n) = .int kk' b := hb
        cases hb; rfl
      · cases hn
    exact ⟨_, _, h, fin (by omega) (by rw [hbn, Int.toNat_natCast]; exact Nat.min_eq_left (Nat.le_of_ble_eq_true hl)), rfl⟩
  · obtain ⟨n, hn, h⟩ := bind_some h
    unfold shN at hn
    split at hn
    · rename_i hb0
      cases hn
      exact ⟨_, _, h, fin hb0 rfl, rfl⟩
    · cases hn
theorem eqA_ok {op : BinOp} {t1 t2 : Nat} {c1 c2 : List (CV D)} {K : CV D → Option ρ} (ho : o.op = .binOp op t x y u) (ha : rel X.G z vs (.agg t1 c1) (ev fr x)) (hb : rel X.G z vs (.agg t2 c2) (ev fr y)) (h : eqA X op t t1 c1 t2 c2 K = some r) : ∃ c v, K c = some r ∧ PureR P (ev fr) o v ∧ rel0 X.G z vs c v := by
  unfold eqA at h
  split at h
  · rename_i ti qi hti hqi
    split at h
    · rename_i a b h1 h2
      obtain ⟨ds, hx, hr1⟩ := ha
      obtain ⟨ds', hy, hr2⟩ := hb
      have e1 := qi.hv z a ds (ti.pkl z vs c1 a ds h1 hr1)
      have e2 := qi.hv z b ds' (ti.pkl z vs c2 b ds' h2 hr2)
      rw [e1] at hx
      rw [e2] at hy
      split at h
      · exact ⟨_, _, h, pEqA false (by simpa using ho) qi.ht qi.hp qi.hg (qi.hs a b) hx hy (qi.he a b), rfl⟩
      · exact ⟨_, _, h, pEqA true (by simpa using ho) qi.ht qi.hp qi.hg (qi.hs a b) hx hy (qi.he a b), rfl⟩
      · cases h
    · cases h
  · cases h
theorem binX_ok {op : BinOp} {a b : SV D} {K : CV D → Option ρ} (ho : o.op = .binOp op t x y u) (hM : Mm X.G O z e m k vs) (ha : rel X.G z vs a (ev fr x)) (hb : rel X.G z vs b (ev fr y)) (h : binX (P := P) op t y O a b K = some r) : ∃ c v, K c = some r ∧ PureR P (ev fr) o v ∧ rel0 X.G z vs c v := by
  unfold binX at h
  split at h
  · split at h
    · exact shX_ok ho ha hb (.inl ⟨rfl, rfl⟩) h
    · exact shX_ok ho ha hb (.inr ⟨rfl, rfl⟩) h
    · split at h
      · rename_i hk; subst hk
        exact binI_ok ho ha hb h
      · cases h
  · exact binS_ok ho ha hb h
  · split at h
    · rename_i ht
      exact binB_ok ho ht ha hb h
    · cases h
  · split at h
    · rename_i te ht hn
      have hy := isNil_ok (fr := fr) hn
      split at h
      · exact ⟨_, _, h, pEqNil0 false ho ht ha hy, rfl⟩
      · split at h
        · rename_i t' xs hl
          rcases lookS_nil hM hl ha with ⟨hv, hxs⟩ | ⟨a', l', c', hv⟩
          · exact ⟨_, _, nilT_some h true fun _ => hxs, pEqNil0 false ho ht hv hy, rfl⟩
          · exact ⟨_, _, nilT_some h false (by simp), .eqNil false x y t u te a' l' c' ho ht hv hy, rfl⟩
        · cases h
    · rename_i te ht hn
      have hy := isNil_ok (fr := fr) hn
      split at h
      · exact ⟨_, _, h, pEqNil0 true ho ht ha hy, rfl⟩
      · split at h
        · rename_i t' xs hl
          rcases lookS_nil hM hl ha with ⟨hv, hxs⟩ | ⟨a', l', c', hv⟩
          · exact ⟨_, _, nilT_some h true fun _ => hxs, pEqNil0 true ho ht hv hy, rfl⟩
          · exact ⟨_, _, nilT_some h false (by simp), .eqNil true x y t u te a' l' c' ho ht hv hy, rfl⟩
        · cases h
    · cases h
end
end Go.AM
end
section
set_option linter.unusedSimpArgs false
set_option linter.unusedVariables false
namespace Go.AM
section
variable {P : Program} {D : Nat → Type} {X : Ev P D} {ρ : Type} {z z' : Nat → Blk} {e m m' : Mem} {k : Option Nat} {vs : List Value} {fr : Nat → Value} {E : List (Nat × SV D)} {O : List (Ob D)} {o : Oper} {r : ρ}
variable {x y : Operand} {t u : TypeId} {K : SV D → List (Ob D) → Option ρ}
theorem relP_of {b off : Nat} {cs : List (CV D)} {ds : List Value} (h : cellsAt z b off ds) (hr : L2 (rel0 X.G z vs) cs ds) : relP X.G z vs cs 0 (.pointer (some ⟨b, off, none⟩)) := ⟨b, off, ds, rfl, h, hr⟩
theorem pt_here {sv : SV D} {v : Value} (hM : Mm X.G O z e m k vs) (hK : K sv O = some r) (h : PureR P (ev fr) o v) (hv : rel X.G z vs sv v) : StepX P (ev fr) o m fun _ v m' => Nxt X O z e k vs K r v m' :=
  StepX.pure h (Nxt.here hM hv hK)
theorem idx_R {tt : Nat} {ti : TI P X.G tt} {xs : List (D tt)} {n : Int} {kk : IntKind} {a : D tt} (ho : o.op = .indexAddr t x y) (ht : P.underlying t = some (.slice tt)) (hM : Mm X.G O z e m k vs) (hs : SlR (X.G.T tt) z xs (ev fr x)) (hy : ev fr y = .int kk n) (hg : getI xs n = some a)
    (h : K (.rp tt (ti.lv a) 0) O = some r) : StepX P (ev fr) o m fun _ v m' => Nxt X O z e k vs K r v m' := by
  refine kIdxR ho ht ti.hi ti.hsz rfl hy hs hg fun b off cs hrd hc => ?_
  exact Nxt.here (sv := .rp tt (ti.lv a) 0) hM ⟨b, off, cs, rfl, hc, ti.rdl _ _ _ _ hrd⟩ h
theorem opIdx_ok {a b : SV D} (ho : o.op = .indexAddr t x y) (hM : Mm X.G O z e m k vs) (ha : rel X.G z vs a (ev fr x)) (hb : rel X.G z vs b (ev fr y)) (h : opIdx X t a b O K = some r) : StepX P (ev fr) o m fun _ v m' => Nxt X O z e k vs K r v m' := by
  unfold opIdx at h
  split at h
  · rename_i kk n
    have hy : ev fr y = .int kk n := hb
    split at h
    · rename_i i
      split at h
      · rename_i t1 u1 n1 xs w1 hO
        split at h
        · rename_i ti l e' hI ht
          split at h
          · rename_i heq
            obtain ⟨rfl, rfl⟩ := heq
            obtain ⟨a, hg, h⟩ := bind_some h
            obtain ⟨b, l2, hv, hx⟩ := ha
            obtain ⟨⟨b', he⟩, hob⟩ := hM.obj i _ _ hO hv
            cases he
            refine kIdxA ho ht ti.hi (T := (X.G.T e').as u1) ti.hsz hx hy hob hg fun cs hrd hg2 hc => ?_
            exact Nxt.here (sv := .el i e' n 0) hM ⟨b, 0, _, _, hv, by simp; rfl⟩ h
          · cases h
        · cases h
      · cases h
    · rename_i e1 xs
      split at h
      · rename_i ti e' hI ht
        split at h
        · rename_i heq
          subst heq
          obtain ⟨a, hg, h⟩ := bind_some h
          exact idx_R (ti := ti) ho ht hM ha hy hg h
        · cases h
      · cases h
    · rename_i i
      split at h
      · rename_i t1 xs fz w1 hO
        split at h
        · rename_i ti e' hI ht
          split at h
          · rename_i heq
            subst heq
            obtain ⟨a, hg, h⟩ := bind_some h
            have hob := hM.obj i _ _ hO ha.1
            cases fz with
            | true => exact idx_R (ti := ti) ho ht hM hob hy hg h
            | false =>
              have hob : OwF (X.G.T e') z e m k xs (ev fr x) := hob
              refine kIdxO ho ht ti.hi ti.hsz rfl hy hob hg fun b f0 l c cs hv hrd hg2 hc => ?_
              exact Nxt.here (sv := .el i e' n 0) hM ⟨b, f0, l, c, by rw [← hv]; exact ha.1, rfl⟩ h
          · cases h
        · cases h
      · rename_i e1 t1 up xss hole w1 hO
        split at h
        · rename_i ni e' hN ht
          split at h
          · rename_i heq
            subst heq
            obtain ⟨a, hg, h⟩ := bind_some h
            obtain ⟨hu, ws, hob⟩ := hM.obj i _ _ hO ha.1
            obtain ⟨g0, g1, g2⟩ := getI_some hg
            have hlt : n.toNat < ws.length := by rw [hob.len]; exact (List.getElem?_eq_some_iff.1 g2).1
            have hgw : getI ws n = some ws[n.toNat] := by
              unfold getI
              rw [if_pos (by omega)]
              exact List.getElem?_eq_getElem hlt
            refine kIdxO (T := TVal e') ho ht ni.hi (by rw [ni.h1]; rfl) rfl hy hob.ow hgw fun b f0 l c cs hv hrd hg2 hc => ?_
            exact Nxt.here (sv := .el i e' n 0) hM ⟨b, f0, l, c, by rw [← hv]; exact ha.1, by rw [ni.hsz]; rfl⟩ h
          · cases h
        · cases h
      · cases h
    · rename_i i e1 lo hi
      split at h
      · rename_i t1 xs w1 hO
        split at h
        · rename_i ti e' hI ht
          split at h
          · rename_i heq
            obtain ⟨rfl, rfl⟩ := heq
            obtain ⟨a, hg, h⟩ := bind_some h
            obtain ⟨w, hw, hc⟩ := ha
            obtain ⟨g0, g1, g2⟩ := getI_some hg
            have hlen : n.toNat < ((xs.take hi).drop lo).length := (List.getElem?_eq_some_iff.1 g2).1
            rw [List.length_drop, List.length_take] at hlen
            rcases hc with ⟨_, _, rfl, rfl⟩ | ⟨b, f0, l, c, off, c', rfl, hv, h1, h2, h3, h4⟩
            · omega
            · have hoff : off = f0 + lo * (X.G.T t1).sz := by rcases h3 with h3 | h3 <;> omega
              refine StepX.pure (v := .pointer (some ⟨b, off + n.toNat * ti.i.size, none⟩)) (.indexAddr t x y t1 ti.i b off _ c' kk n ho ht ti.hi hv hy g0 (by omega)) (Nxt.here (sv := .el i t1 ((lo : Int) + n) 0) hM ⟨b, f0, l, c, hw.1, ?_⟩ h)
              have e1 : ((lo : Int) + n).toNat = lo + n.toNat := by omega
              rw [e1, hoff, ti.hsz, Nat.add_mul, Nat.add_zero, Nat.add_assoc]
          · cases h
        · cases h
      · cases h
    · cases h
  · cases h
theorem opFld_ok {n : Nat} {a : SV D} (ho : o.op = .fieldAddr t x n) (hM : Mm X.G O z e m k vs) (ha : rel X.G z vs a (ev fr x)) (h : opFld (P := P) t n a O K = some r) : StepX P (ev fr) o m fun _ v m' => Nxt X O z e k vs K r v m' := by
  unfold opFld at h
  split at h
  · rename_i fs ht
    split at h
    · rename_i f hf
      split at h
      · rename_i i hi
        split at h
        · cases h
        · rename_i hs
          have hs' : (i.size == 0) = false := by simpa using hs
          split at h
          · obtain ⟨b, hv, hx⟩ := ha
            exact pt_here hM h (gField ho ht hf hi hs' hx) ⟨b, hv, rfl⟩
          · obtain ⟨b, o1, ds, hx, hc, hr⟩ := ha
            exact pt_here hM h (gField ho ht hf hi hs' hx) ⟨b, o1, ds, by rw [Nat.add_assoc], hc, hr⟩
          · obtain ⟨b, f0, l, c, hv, hx⟩ := ha
            exact pt_here hM h (gField ho ht hf hi hs' hx) ⟨b, f0, l, c, hv, by rw [Nat.add_assoc]⟩
          · cases h
      · cases h
    · cases h
  · cases h
theorem loadC_ok {b off : Nat} {cs : List (CV D)} {ds : List Value} {K : SV D → Option ρ} (ho : o.op = .load t x) (hx : ev fr x = .pointer (some ⟨b, off, none⟩)) {c0 : Nat} (hc : ∀ (j : Nat) (w : Value), ds[j]? = some w → m.load b (c0 + j) = some w) {n : Nat} (hoff : off = c0 + n) (hr : L2 (rel0 X.G z vs) cs ds)
    (h : loadC (P := P) t cs n K = some r) : ∃ sv v, K sv = some r ∧ rel X.G z vs sv v ∧ ReadR P (ev fr) o m v := by
  subst hoff
  unfold loadC at h
  split at h
  · cases h
  · rename_i d hd
    split at h
    · rename_i hag
      split at h
      · cases h
      · rename_i i hi
        split at h
        · rename_i hlen
          have hr' : L2 (rel0 X.G z vs) ((cs.drop n).take i.size) ((ds.drop n).take i.size) := L2.take _ (L2.drop _ hr)
          have hl2 : ((ds.drop n).take i.size).length = i.size := by rw [← hr'.length]; exact hlen
          refine ⟨_, .agg ((ds.drop n).take i.size).toArray, h, ⟨_, rfl, hr'⟩, gLoadA ho hd hag hi hl2 hx fun j w hj => ?_⟩
          rw [List.getElem?_take] at hj
          split at hj
          · rw [List.getElem?_drop] at hj
            rw [Nat.add_assoc]; exact hc _ w hj
          · cases hj
        · cases h
    · rename_i hag
      split at h
      · rename_i c hcs
        obtain ⟨w, hw, hrw⟩ := hr.get n c hcs
        exact ⟨_, w, h, hrw, gLoad ho hd (by simpa using hag) hx (hc n w hw)⟩
      · cases h
theorem Mm.kill (h : Mm X.G O z e m k vs) (i : Nat) : Mm X.G (O.set i .dead) z e m k vs := by
  refine ⟨h.st, by rw [List.length_set]; exact h.len, fun j p w hj hw => ?_, fun a b p q' u w hab ha hb la lb hu hw => ?_⟩
  · rw [List.getElem?_set] at hj
    split at hj
    · split at hj
      · cases hj; trivial
      · cases hj
    · exact h.obj j p w hj hw
  · have key : ∀ (a : Nat) (p : Ob D), (O.set i .dead)[a]? = some p → p.live = true → O[a]? = some p := by
      intro a p ha hp
      rw [List.getElem?_set] at ha
      split at ha
      · split at ha
        · cases ha; cases hp
        · cases ha
      · exact ha
    exact h.ap a b p q' u w hab (key a p ha la) (key b q' hb lb) la lb hu hw
theorem fillN_ok {O1 : List (Ob D)} {i : Nat} (hM : Mm X.G O z e m k vs) (h : fillN O i = some O1) : ∃ z', Inv O O1 ∧ Zx e.next z z' ∧ Mm X.G O1 z' e m k vs := by
  unfold fillN at h
  split at h
  · cases h; exact ⟨z, Inv.refl O, Zx.refl z, hM⟩
  · rename_i e1 t1 up xss p w hO
    split at h
    · rename_i t2 xs w2 hO2
      split at h
      · rename_i heq
        subst heq
        cases h
        obtain ⟨v, hv, hu, ws, hob⟩ := hM.at hO
        obtain ⟨p0, u, hp1, hp2⟩ := hob.out p rfl
        have hsl : OwF (X.G.T t2) z e m k xs u := hM.obj p.2 _ u hO2 hp1
        have hne : i ≠ p.2 := fun hh => by rw [hh, hO2] at hO; cases hO
        have hbv : blkV v = blkOf v := blkV_of (by obtain ⟨a, c, rfl⟩ := hob.ow.ow.len; intro r; simp)
        have hbu : blkV u = blkOf u := blkV_of (by obtain ⟨a, c, rfl⟩ := hsl.ow.len; intro r; simp)
        have hvm : ∀ r, v ≠ .map r := by obtain ⟨a, c, rfl⟩ := hob.ow.ow.len; intro r; simp
        have hap := hM.ap p.2 i _ _ u v (fun hh => hne hh.symm) hO2 hO rfl rfl hp1 hv
        rw [hbv, hbu] at hap
        have hlt : p.1.toNat < ws.length := (List.getElem?_eq_some_iff.1 hp2).1
        have hws : ws = ws.set p.1.toNat u := by
          apply List.ext_getElem?
          intro j
          rw [List.getElem?_set]
          split
          · rename_i hj; subst hj; exact hp2
          · rfl
        obtain ⟨z', g1, g2, g3, g4⟩ := nest_in hob hM.st hob.ow hws hlt (fun q hq => by cases hq; omega) hsl hap
        have hM2 := hM.kill p.2
        have hO' : (O.set p.2 .dead)[i]? = some (.nest e1 t2 up xss (some p) w) := by rw [List.getElem?_set_ne (fun hh => hne hh.symm)]; exact hO
        have hM3 := hM2.zchg (o' := .nest e1 t2 up (xss.set p.1.toNat xs) none true) (p := blkOf u) hO' hv rfl hvm g1.le ⟨Nat.le_refl _, hM.st.dead, fun _ _ _ => rfl⟩ g2 (fun j q w3 hj hq hl hw => ?_) (fun b hb => (hsl.ow.lt b hb).2) (fun b hb hp _ => ?_) ⟨hu, ws, g3⟩
        · have hsc : (O.set i (.nest e1 t2 up (xss.set p.1.toNat xs) none true)).set p.2 .dead = (O.set p.2 .dead).set i (.nest e1 t2 up (xss.set p.1.toNat xs) none true) := List.set_comm _ _ hne
          exact ⟨z', (Inv.set O i (.inr rfl)).trans (Inv.set _ p.2 (.inl rfl)), g1, by rw [hsc]; exact hM3⟩
        · rw [List.getElem?_set] at hq
          split at hq
          · split at hq
            · cases hq; cases hl
            · cases hq
          · rename_i hjp
            have := hM.ap j p.2 q _ w3 u (fun hh => hjp hh.symm) hq hO2 hl rfl hw hp1
            rw [hbu] at this
            exact this
        · rcases g4 b with hc | hc
          · exact hc
          · exact absurd hc hp
      · cases h
    · cases h
  · cases h
theorem loadN_fin {i e2 t1 : Nat} (ni : NI P X.G e2 t1) {up : Option (List (D t1) → D e2)} {xss : List (List (D t1))} {w1 : Bool} {ix : Int} {O1 : List (Ob D)} {z1 : Nat → Blk} (ho : o.op = .load e2 x) (hM : Mm X.G O z e m k vs) (hi1 : Inv O O1) (hz1 : Zx e.next z z1) (hM1 : Mm X.G O1 z1 e m k vs) (hO : O1[i]? = some (.nest e2 t1 up xss none w1)) (ha : rel X.G z vs (.el i e2 ix 0) (ev fr x))
    (h : (Option.bind (getI xss ix) fun xs => K (.c (.own O1.length)) (O1.set i (.nest e2 t1 up xss (some (ix, O1.length)) w1) ++ [.sl t1 xs false false])) = some r) : StepX P (ev fr) o m fun _ v m' => Nxt X O z e k vs K r v m' := by
  obtain ⟨xs, hg, h⟩ := bind_some h
  obtain ⟨b, f0, l, c, hv, hx⟩ := ha
  obtain ⟨hu, ws, hob⟩ := hM1.obj i _ _ hO hv
  obtain ⟨g0, g1, g2⟩ := getI_some hg
  have hlt : ix.toNat < ws.length := by rw [hob.len]; exact (List.getElem?_eq_some_iff.1 g2).1
  have hw := List.getElem?_eq_getElem hlt
  have hgw : getI ws ix = some ws[ix.toNat] := by
    unfold getI
    rw [if_pos (by omega)]
    exact hw
  obtain ⟨cs, hrd, _, hc⟩ := hob.ow.elem rfl hgw
  have hld : m.load b (f0 + ix.toNat * (X.G.T e2).sz + 0) = some ws[ix.toNat] := by
    rw [ni.hsz]
    exact hc 0 _ (by rw [hrd.1]; rfl)
  generalize ws[ix.toNat] = u at *
  obtain ⟨z2, q1, q2, q3, q4, q5, q6⟩ := nest_out (vs' := vs ++ [u]) (jo := O1.length) hob hM1.st hw g2 ext_get (by rw [← hM1.len]; simp)
  have hvm : ∀ r, Value.slice (some ⟨b, f0, none⟩) l c ≠ .map r := fun r hh => by cases hh
  have hix : ((ix.toNat : Nat) : Int) = ix := by omega
  rw [hix] at q3
  have hbu : blkV u = blkOf u := blkV_of (by obtain ⟨a, c, rfl⟩ := q4.ow.len; intro r; simp)
  have hi := (List.getElem?_eq_some_iff.1 hO).1
  have hMa : Mm X.G (O1 ++ [.dead]) z1 e m k (vs ++ [u]) := hM1.pushAt trivial fun hl => by cases hl
  have hMb := hMa.zchg (o := .nest e2 t1 up xss none w1) (o' := .nest e2 t1 up xss (some (ix, O1.length)) w1) (p := none) (by rw [List.getElem?_append_left hi]; exact hO) (ext_get _ _ hv) rfl hvm q1.le ⟨Nat.le_refl _, hM.st.dead, fun _ _ _ => rfl⟩ q2 (fun _ _ _ _ _ _ _ => Ap.none') (fun b hb => by cases hb) (fun b' _ _ hl => by
    rcases q5 b' with hh | ⟨_, h0, L, t, hh⟩
    · exact hh
    · rcases hl with hl | hl
      · exact absurd hl h0
      · exact absurd hh (hl _ _ _)) ⟨hu, ws, q3⟩
  have hlen : ((O1 ++ [(.dead : Ob D)]).set i (.nest e2 t1 up xss (some (ix, O1.length)) w1)).length = O1.length + 1 := by simp
  have hMc := hMb.wake (i := O1.length) (o' := .sl t1 xs false false) (v := u) (by rw [hlen]; omega) (by rw [← hM1.len]; simp) (q4 : OwF (X.G.T t1) z2 e m k xs u) (fun j q w hj hq hl hw => ?_)
  · have hset : ((O1 ++ [(.dead : Ob D)]).set i (.nest e2 t1 up xss (some (ix, O1.length)) w1)).set O1.length (.sl t1 xs false false) = O1.set i (.nest e2 t1 up xss (some (ix, O1.length)) w1) ++ [.sl t1 xs false false] := by
      rw [List.set_append_left _ _ hi, List.set_append_right _ _ (by simp)]
      simp
    rw [hset] at hMc
    refine StepX.read (gLoad ho ni.hu rfl hx hld) ⟨z2, vs ++ [u], .c (.own O1.length), _, hi1.trans ((Inv.set O1 i (.inr ?_)).trans (Inv.push _ _)), hz1.trans q1, ext_get, hMc, ?_, h⟩
    · simp [Ob.tch]
    · obtain ⟨a, c', rfl⟩ := q4.ow.len
      exact ⟨by rw [← hM1.len]; simp, rfl, rfl⟩
  · intro b' hb' hu'
    rw [hbu] at hu'
    refine q6 b' hu' ?_
    have hjlt : j < O1.length := by
      have := (List.getElem?_eq_some_iff.1 hq).1
      rw [hlen] at this
      omega
    by_cases hji : j = i
    · subst hji
      rw [List.getElem?_append_left (by rw [hM1.len]; exact hi)] at hw
      rw [hv] at hw; cases hw
      exact ((hM1.obj _ _ _ hO hv).lt rfl b' hb').2.1
    · rw [List.getElem?_set_ne (fun hh => hji hh.symm), List.getElem?_append_left hjlt] at hq
      rw [List.getElem?_append_left (by rw [hM1.len]; exact hjlt)] at hw
      exact ((hM1.obj j q w hq hw).lt hl b' hb').2.1
theorem opLoadN_ok {i e1 : Nat} {ix : Int} {off : Nat} (ho : o.op = .load t x) (hM : Mm X.G O z e m k vs) (ha : rel X.G z vs (.el i e1 ix off) (ev fr x)) (h : opLoadN X t i e1 ix off O K = some r) : StepX P (ev fr) o m fun _ v m' => Nxt X O z e k vs K r v m' := by
  unfold opLoadN at h
  split at h
  · rename_i O1 hf
    obtain ⟨z1, hi1, hz1, hM1⟩ := fillN_ok hM hf
    split at h
    · rename_i e2 t1 up xss w1 hO
      split at h
      · rename_i ni hN
        split at h
        · rename_i hk
          obtain ⟨rfl, rfl, rfl⟩ := hk
          exact loadN_fin ni ho hM hi1 hz1 hM1 hO ha h
        · cases h
      · cases h
    · cases h
  · cases h
theorem opLoad_ok {a : SV D} (ho : o.op = .load t x) (hM : Mm X.G O z e m k vs) (ha : rel X.G z vs a (ev fr x)) (h : opLoad X t a O K = some r) : StepX P (ev fr) o m fun _ v m' => Nxt X O z e k vs K r v m' := by
  have fin : ∀ {b off : Nat} {cs : List (CV D)} {ds : List Value} {c0 n : Nat}, ev fr x = .pointer (some ⟨b, off, none⟩) → (∀ (j : Nat) (w : Value), ds[j]? = some w → m.load b (c0 + j) = some w) → off = c0 + n → L2 (rel0 X.G z vs) cs ds → loadC (P := P) t cs n (fun v => K v O) = some r → StepX P (ev fr) o m fun _ v m' => Nxt X O z e k vs K r v m' := by
    intro b off cs ds c0 n hx hc hoff hr h
    obtain ⟨sv, v, h1, h2, h3⟩ := loadC_ok ho hx hc hoff hr h
    exact StepX.read h3 (Nxt.here hM h2 h1)
  unfold opLoad at h
  split at h
  · obtain ⟨b, o1, ds, hx, hc, hr⟩ := ha
    exact fin hx (hM.st.loads hc) rfl hr h
  · rename_i i off
    obtain ⟨b, hv, hx⟩ := ha
    split at h
    · rename_i u cs fz w1 hO
      have hob := hM.obj i _ _ hO hv
      cases fz with
      | true =>
        obtain ⟨b', ds, he, hc, hr⟩ := hob
        cases he
        exact fin hx (hM.st.loads hc) (Nat.zero_add _).symm hr h
      | false =>
        obtain ⟨b', ds, he, hb, _, hr⟩ := hob
        cases he
        exact fin hx hb.loads (Nat.zero_add _).symm hr h
    · rename_i u cs w1 hO
      obtain ⟨b', ds, he, hb, hr⟩ := hM.obj i _ _ hO hv
      cases he
      exact fin hx hb.loads (Nat.zero_add _).symm hr h
    · cases h
  · rename_i i e1 ix off
    split at h
    · exact opLoadN_ok ho hM ha h
    obtain ⟨b, f0, l, c, hv, hx⟩ := ha
    split at h
    · rename_i e2 xs fz w1 ti hO hI
      split at h
      · rename_i heq
        subst heq
        obtain ⟨a, hg, h⟩ := bind_some h
        have hob := hM.obj i _ _ hO hv
        cases fz with
        | true =>
          have hob : SlR (X.G.T e2) z xs _ := hob
          obtain ⟨g0, g1, g2⟩ := getI_some hg
          rcases hob with ⟨he, _⟩ | ⟨b', o', c', he, _, _, h4⟩
          · cases he
          · cases he
            obtain ⟨cs, hrd, hc⟩ := h4 _ a g2
            exact fin hx (hM.st.loads hc) rfl (ti.rdl _ _ _ _ hrd) h
        | false =>
          have hob : OwF (X.G.T e2) z e m k xs _ := hob
          obtain ⟨cs, hrd, _, hc⟩ := hob.elem rfl hg
          exact fin hx hc rfl (ti.rdl _ _ _ _ hrd) h
      · cases h
    · rename_i e2 u n xs w1 ti hO hI
      split at h
      · rename_i heq
        subst heq
        obtain ⟨a, hg, h⟩ := bind_some h
        obtain ⟨_, hob⟩ := hM.obj i _ _ hO hv
        obtain ⟨cs, hrd, _, hc⟩ := hob.elem rfl hg
        exact fin hx hc rfl (ti.rdl _ _ _ _ hrd) h
      · cases h
    · cases h
  · cases h
end
end Go.AM
end
section
set_option linter.unusedSimpArgs false
set_option linter.unusedVariables false
namespace Go.AM
section
variable {P : Program} {D : Nat → Type} {X : Ev P D} {ρ : Type} {z z' : Nat → Blk} {e m m' : Mem} {k : Option Nat} {vs : List Value} {fr : Nat → Value} {E : List (Nat × SV D)} {O : List (Ob D)} {o : Oper} {r : ρ}
variable {x y : Operand} {t u : TypeId} {K : SV D → List (Ob D) → Option ρ}
theorem L2.set {α β : Type} {R : α → β → Prop} : ∀ {l : List α} {k : List β} (i : Nat) {a : α} {b : β}, L2 R l k → R a b → L2 R (l.set i a) (k.set i b)
  | [], [], i, a, b, _, _ => by simp [L2]
  | x :: l, y :: k, 0, a, b, ⟨_, h2⟩, hab => ⟨hab, h2⟩
  | x :: l, y :: k, i + 1, a, b, ⟨h1, h2⟩, hab => ⟨h1, L2.set i h2 hab⟩
  | [], _ :: _, _, _, _, h, _ => h.elim
  | _ :: _, [], _, _, _, h, _ => h.elim
theorem setC_rel : ∀ {new : List (CV D)} {nds : List Value} {cs : List (CV D)} {ds : List Value} (off : Nat), L2 (rel0 X.G z vs) cs ds → L2 (rel0 X.G z vs) new nds → L2 (rel0 X.G z vs) (setC cs off new) (setN ds off nds)
  | [], [], cs, ds, off, h, _ => h
  | c :: new, d :: nds, cs, ds, off, h, ⟨h1, h2⟩ => setC_rel (off + 1) (h.set off h1) h2
  | [], _ :: _, _, _, _, _, h => h.elim
  | _ :: _, [], _, _, _, _, h => h.elim
theorem ble_of {a b : Nat} (h : a ≤ b) : Nat.ble a b = true := by rw [Nat.ble_eq]; exact h
theorem push_nxt {ob : Ob D} {sv : SV D} {v w : Value} (hM : Mm X.G O z e m k vs) (st : St z e m' k) (s : Same m m' none) (hap : ∀ p, (∀ b, p = some b → b < m.next) → Ap p (blkV v)) (hK : K sv (O ++ [ob]) = some r) (hob : ObOk X.G z e m' k (vs ++ [v]) ob v) (hv : rel X.G z (vs ++ [v]) sv w) : Nxt X O z e k vs K r w m' :=
  ⟨z, vs ++ [v], sv, O ++ [ob], Inv.push O ob, Zx.refl z, ext_get, hM.push s st (fun _ _ _ _ _ _ => Ap.none') hob fun p hp _ => hap p hp, hv, hK⟩
theorem turn_nxt {i : Nat} {ob ob' : Ob D} {v : Value} (hM : Mm X.G O z e m k vs) (hK : K .undef (O.set i ob') = some r) (hO : O[i]? = some ob) (hv : vs[i]? = some v) (hl : ob.live = true) (ht : ob'.tch = true) (s : Same m m' (blkV v)) (st : St z e m' k) (hn : ObOk X.G z e m' k vs ob' v) : Nxt X O z e k vs K r undef m' :=
  ⟨z, vs, .undef, _, Inv.set O i (.inr ht), Zx.refl z, fun _ _ h => h, hM.turn hO hv hl s st hn, rfl, hK⟩
theorem new_at (hM : Mm X.G O z e m k vs) (v : Value) : (vs ++ [v])[O.length]? = some v := by
  rw [← hM.len]; simp
theorem own_rel {v : Value} {l : Nat} (hM : Mm X.G O z e m k vs) (hv : ∃ a c, v = .slice a l c) : rel X.G z (vs ++ [v]) (.c (.own O.length)) v := by
  obtain ⟨a, c, rfl⟩ := hv
  exact ⟨new_at hM _, rfl, rfl⟩
theorem storeN_fin {i j e1 t1 : Nat} (ni : NI P X.G e1 t1) {up : Option (List (D t1) → D e1)} {xss : List (List (D t1))} {hole : Option (Int × Nat)} {w1 w2 : Bool} {xs : List (D t1)} {ix : Int} (ho : o.op = .store e1 x y) (hM : Mm X.G O z e m k vs) (hO : O[i]? = some (.nest e1 t1 up xss hole w1)) (hj : O[j]? = some (.sl t1 xs false w2)) (ha : rel X.G z vs (.el i e1 ix 0) (ev fr x)) (hb : rel X.G z vs (.c (.own j)) (ev fr y)) (hh : ∀ p, hole = some p → p.1 = ix)
    (h : (Option.bind (getI xss ix) fun _ => K .undef ((O.set i (.nest e1 t1 up (xss.set ix.toNat xs) none true)).set j .dead)) = some r) : StepX P (ev fr) o m fun _ v m' => Nxt X O z e k vs K r v m' := by
  obtain ⟨a, hg, h⟩ := bind_some h
  obtain ⟨b, f0, l, c, hv, hx⟩ := ha
  obtain ⟨hu, hst, hcl⟩ := hb
  obtain ⟨hup, ws, hob⟩ := hM.obj i _ _ hO hv
  obtain ⟨g0, g1, g2⟩ := getI_some hg
  have hlt : ix.toNat < ws.length := by rw [hob.len]; exact (List.getElem?_eq_some_iff.1 g2).1
  have hw := List.getElem?_eq_getElem hlt
  have hgw : getI ws ix = some ws[ix.toNat] := by
    unfold getI
    rw [if_pos (by omega)]
    exact hw
  obtain ⟨cs, hrd, _, hc⟩ := hob.ow.elem rfl hgw
  have hsl : OwF (X.G.T t1) z e m k xs (ev fr y) := hM.obj j _ _ hj hu
  generalize hw' : ev fr y = u at *
  have hne : i ≠ j := fun hh => by rw [hh, hj] at hO; cases hO
  have hvm : ∀ r, Value.slice (some ⟨b, f0, none⟩) l c ≠ .map r := fun r hh => by cases hh
  have hbu : blkV u = blkOf u := blkV_of (by obtain ⟨a, c, rfl⟩ := hsl.ow.len; intro r; simp)
  have hap := hM.ap j i _ _ u _ (fun hh => hne hh.symm) hj hO rfl rfl hu hv
  rw [hbu] at hap
  rw [ni.hsz] at hx
  have hcl' : u.cells.toList = [u] := by rw [hcl]
  refine kSet (T := TVal e1) (f := 0) (n := ix.toNat) ho ni.hi hx rfl hw' hst hcl' (by rw [ni.h1]; rfl) hob.ow rfl hw hrd hc (a' := u) ⟨rfl, hst, hcl⟩ (by rw [hrd.1]; rfl) (by rw [hrd.1]; rfl) hM.st fun m' st' ow' sm => ?_
  have hsl' : OwF (X.G.T t1) z e m' k xs u := hsl.same sm hap
  obtain ⟨z', q1, q2, q3, q4⟩ := nest_in hob st' ow' rfl hlt (fun p hp => by rw [hh p hp]; omega) hsl' hap
  have hM2 := hM.kill j
  have hO' : (O.set j .dead)[i]? = some (.nest e1 t1 up xss hole w1) := by rw [List.getElem?_set_ne (fun hh => hne hh.symm)]; exact hO
  have hM3 := hM2.zchg (o' := .nest e1 t1 up (xss.set ix.toNat xs) none true) (p := blkOf u) hO' hv rfl hvm q1.le sm q2 (fun a q w3 ha hq hl hw => ?_) (fun b hb => (hsl.ow.lt b hb).2) (fun b _ hp _ => ?_) ⟨hup, _, q3⟩
  · have hsc : (O.set i (.nest e1 t1 up (xss.set ix.toNat xs) none true)).set j .dead = (O.set j .dead).set i (.nest e1 t1 up (xss.set ix.toNat xs) none true) := List.set_comm _ _ hne
    exact ⟨z', vs, .undef, _, (Inv.set O i (.inr rfl)).trans (Inv.set _ j (.inl rfl)), q1, fun _ _ h => h, by rw [hsc]; exact hM3, rfl, h⟩
  · rw [List.getElem?_set] at hq
    split at hq
    · split at hq
      · cases hq; cases hl
      · cases hq
    · rename_i hjp
      have := hM.ap a j q _ w3 u (fun hh => hjp hh.symm) hq hj hl rfl hw hu
      rw [hbu] at this
      exact this
  · rcases q4 b with hc | hc
    · exact hc
    · exact absurd hc hp
theorem storeN_nil {i e1 t1 : Nat} (ni : NI P X.G e1 t1) {up : Option (List (D t1) → D e1)} {xss : List (List (D t1))} {hole : Option (Int × Nat)} {w1 : Bool} {ix : Int} (ho : o.op = .store e1 x y) (hM : Mm X.G O z e m k vs) (hO : O[i]? = some (.nest e1 t1 up xss hole w1)) (ha : rel X.G z vs (.el i e1 ix 0) (ev fr x)) (hb : rel X.G z vs (.c .nilS) (ev fr y)) (hh : ∀ p, hole = some p → p.1 = ix)
    (h : (Option.bind (getI xss ix) fun _ => K .undef (O.set i (.nest e1 t1 up (xss.set ix.toNat []) none true))) = some r) : StepX P (ev fr) o m fun _ v m' => Nxt X O z e k vs K r v m' := by
  obtain ⟨a, hg, h⟩ := bind_some h
  obtain ⟨b, f0, l, c, hv, hx⟩ := ha
  obtain ⟨hup, ws, hob⟩ := hM.obj i _ _ hO hv
  obtain ⟨g0, g1, g2⟩ := getI_some hg
  have hlt : ix.toNat < ws.length := by rw [hob.len]; exact (List.getElem?_eq_some_iff.1 g2).1
  have hw := List.getElem?_eq_getElem hlt
  have hgw : getI ws ix = some ws[ix.toNat] := by
    unfold getI
    rw [if_pos (by omega)]
    exact hw
  obtain ⟨cs, hrd, _, hc⟩ := hob.ow.elem rfl hgw
  have hb : ev fr y = .slice none 0 0 := hb
  have hsl : OwF (X.G.T t1) z e m k ([] : List (D t1)) (.slice none 0 0) := ⟨.inl ⟨rfl, rfl⟩, fun b hb => by cases hb⟩
  have hvm : ∀ r, Value.slice (some ⟨b, f0, none⟩) l c ≠ .map r := fun r hh => by cases hh
  have hap : Ap (blkOf (.slice none 0 0)) (blkOf (Value.slice (some ⟨b, f0, none⟩) l c)) := fun b hb => by cases hb
  rw [ni.hsz] at hx
  refine kSet (T := TVal e1) (f := 0) (n := ix.toNat) ho ni.hi hx rfl hb rfl (a' := .slice none 0 0) rfl (by rw [ni.h1]; rfl) hob.ow rfl hw hrd hc ⟨rfl, rfl, rfl⟩ (by rw [hrd.1]; rfl) (by rw [hrd.1]; rfl) hM.st fun m' st' ow' sm => ?_
  have hsl' : OwF (X.G.T t1) z e m' k ([] : List (D t1)) (.slice none 0 0) := ⟨.inl ⟨rfl, rfl⟩, fun b hb => by cases hb⟩
  obtain ⟨z', q1, q2, q3, q4⟩ := nest_in hob st' ow' rfl hlt (fun p hp => by rw [hh p hp]; omega) hsl' hap
  have hM3 := hM.zchg (o' := .nest e1 t1 up (xss.set ix.toNat []) none true) (p := none) hO hv rfl hvm q1.le sm q2 (fun a q w3 ha hq hl hw => fun b hb hb' => by cases hb') (fun b hb => by cases hb) (fun b _ hp _ => ?_) ⟨hup, _, q3⟩
  · exact ⟨z', vs, .undef, _, Inv.set O i (.inr rfl), q1, fun _ _ h => h, hM3, rfl, h⟩
  · rcases q4 b with hc | hc
    · exact hc
    · cases hc
theorem opStoreN_ok {i e1 : Nat} {ix : Int} {off : Nat} {b : SV D} (ho : o.op = .store t x y) (hM : Mm X.G O z e m k vs) (ha : rel X.G z vs (.el i e1 ix off) (ev fr x)) (hb : rel X.G z vs b (ev fr y)) (h : opStoreN X t i e1 ix off b O K = some r) : StepX P (ev fr) o m fun _ v m' => Nxt X O z e k vs K r v m' := by
  unfold opStoreN at h
  split at h
  · rename_i j
    split at h
    · rename_i e2 t1 up xss hole w1 t2 xs w2 hO hj
      split at h
      · rename_i ni hN
        split at h
        · rename_i heq
          subst heq
          split at h
          · rename_i hk
            obtain ⟨rfl, rfl, rfl⟩ := hk
            split at h
            · exact storeN_fin ni ho hM hO hj ha hb (fun p hp => by cases hp) h
            · split at h
              · rename_i p hp
                exact storeN_fin ni ho hM hO hj ha hb (fun q hq => by cases hq; exact hp) h
              · cases h
          · cases h
        · cases h
      · cases h
    · cases h
  · split at h
    · rename_i e2 t1 up xss hole w1 hO
      split at h
      · rename_i ni hN
        split at h
        · rename_i hk
          obtain ⟨rfl, rfl, rfl⟩ := hk
          split at h
          · exact storeN_nil ni ho hM hO ha hb (fun p hp => by cases hp) h
          · split at h
            · rename_i p hp
              exact storeN_nil ni ho hM hO ha hb (fun q hq => by cases hq; exact hp) h
            · cases h
        · cases h
      · cases h
    · cases h
  · cases h
theorem opStore_ok {a b : SV D} (ho : o.op = .store t x y) (hM : Mm X.G O z e m k vs) (ha : rel X.G z vs a (ev fr x)) (hb : rel X.G z vs b (ev fr y)) (h : opStore X t a b O K = some r) : StepX P (ev fr) o m fun _ v m' => Nxt X O z e k vs K r v m' := by
  unfold opStore at h
  split at h
  · cases h
  · rename_i i hi
    split at h
    · rename_i j off
      split at h
      · cases h
      · rename_i new hn
        obtain ⟨hst, hnr⟩ := cells_rel hn hb
        split at h
        · rename_i hsz
          have hsz' : (ev fr y).cells.toList.length = i.size := by rw [← hnr.length]; exact hsz
          obtain ⟨b1, hv, hx⟩ := ha
          split at h
          · rename_i u cs w1 hO
            split at h
            · rename_i hle
              obtain ⟨b2, ds, he, hbx, hfr, hr⟩ := hM.obj j _ _ hO hv
              cases he
              refine kPut ho hi hx rfl hst rfl hsz' hbx (ble_of (by rw [← hr.length, ← hnr.length]; exact hle)) _ rfl hM.st fun m' st' bx' sm => ?_
              exact turn_nxt hM h hO hv rfl rfl sm st' ⟨b1, _, rfl, bx', hfr, setC_rel off hr hnr⟩
            · cases h
          · rename_i u cs w1 hO
            split at h
            · rename_i hle
              obtain ⟨b2, ds, he, hbx, hr⟩ := hM.obj j _ _ hO hv
              cases he
              refine kPut ho hi hx rfl hst rfl hsz' hbx (ble_of (by rw [← hr.length, ← hnr.length]; exact hle)) _ rfl hM.st fun m' st' bx' sm => ?_
              exact turn_nxt hM h hO hv rfl rfl sm st' ⟨b1, _, rfl, bx', setC_rel off hr hnr⟩
            · cases h
          · cases h
        · cases h
    · rename_i j e1 ix off
      split at h
      · exact opStoreN_ok ho hM ha hb h
      split at h
      · cases h
      · rename_i new O1 hn
        obtain ⟨z1, hi1, hz1, hM1, hst, hnr⟩ := frzS_ok hM hn hb
        obtain ⟨b1, f0, l, c, hv, hx⟩ := ha
        split at h
        · rename_i hsz
          have hsz' : (ev fr y).cells.toList.length = i.size := by rw [← hnr.length]; exact hsz
          split at h
          · rename_i e2 xs w1 ti hO hI
            split at h
            · rename_i heq
              subst heq
              obtain ⟨a, hg, h⟩ := bind_some h
              split at h
              · rename_i hle
                obtain ⟨a', hp, h⟩ := bind_some h
                have hob : OwF (X.G.T e2) z1 e m k xs _ := hM1.obj j _ _ hO hv
                obtain ⟨cs, hrd, hg2, hc⟩ := hob.elem rfl hg
                have hr := ti.rdl z1 vs a cs hrd
                refine kSet (T := X.G.T e2) ho hi hx rfl rfl hst rfl hsz' hob rfl hg2 hrd hc (ti.pkl z1 vs _ a' _ hp (setC_rel off hr hnr)) rfl (ble_of (by rw [← hr.length, ← hnr.length]; exact hle)) hM1.st fun m' st' ow' sm => ?_
                exact Nxt.from hi1 hz1 (turn_nxt hM1 h hO hv rfl rfl sm st' ow')
              · cases h
            · cases h
          · rename_i e2 u n xs w1 ti hO hI
            split at h
            · rename_i heq
              subst heq
              obtain ⟨a, hg, h⟩ := bind_some h
              split at h
              · rename_i hle
                obtain ⟨a', hp, h⟩ := bind_some h
                obtain ⟨⟨b2, he⟩, hob⟩ := hM1.obj j _ _ hO hv
                obtain ⟨cs, hrd, hg2, hc⟩ := hob.elem rfl hg
                have hr := ti.rdl z1 vs a cs hrd
                refine kSet (T := (X.G.T e2).as u) ho hi hx rfl rfl hst rfl hsz' hob rfl hg2 hrd hc (ti.pkl z1 vs _ a' _ hp (setC_rel off hr hnr)) rfl (ble_of (by rw [← hr.length, ← hnr.length]; exact hle)) hM1.st fun m' st' ow' sm => ?_
                exact Nxt.from hi1 hz1 (turn_nxt hM1 h hO hv rfl rfl sm st' ⟨⟨b2, he⟩, ow'⟩)
              · cases h
            · cases h
          · cases h
        · cases h
    · cases h
theorem opAlloc_ok (ho : o.op = .alloc t) (hM : Mm X.G O z e m k vs)
    (h : (match X.A t with
    | some ai => K (.arr O.length) (O ++ [.arr ai.e t ai.n (List.replicate ai.n ai.ti.x0) false])
    | none => match X.I t with | some ti => K (.box O.length 0) (O ++ [.box t ti.zc false false]) | none => none) = some r) : StepX P (ev fr) o m fun _ v m' => Nxt X O z e k vs K r v m' := by
  split at h
  · rename_i ai hA
    refine kAllocA (T := X.G.T ai.e) (x0 := ai.ti.x0) ho ai.hi ai.hz ai.hzf ai.hzs ai.hzc (ai.ti.rd0 z) ai.hn hM.st fun b m' st' ow sm hap => ?_
    exact push_nxt (v := .slice (some ⟨b, 0, none⟩) ai.n ai.n) hM st' sm hap h ⟨⟨b, rfl⟩, ow⟩ ⟨b, ai.n, new_at hM _, rfl⟩
  · split at h
    · rename_i ti hI
      refine kAllocN ho ti.hi ti.hz ti.hzf ti.hzs _ rfl hM.st fun b m' hn st' bx sm hap => ?_
      exact push_nxt (v := .pointer (some ⟨b, 0, none⟩)) hM st' sm hap h ⟨b, _, rfl, bx, hn, ti.hzc _ _⟩ ⟨b, new_at hM _, rfl⟩
    · cases h
theorem opBox_ok {i : TypeInfo} {cs : List (CV D)} (ho : o.op = .box t x) (hM : Mm X.G O z e m k vs) (hE : rel X.G z vs (sop E x) (ev fr x)) (hi : P.info? t = some i) (hc : cellsS (sop E x) = some cs) (hl : cs.length = i.size)
    (h : K (.box O.length 0) (O ++ [.box t cs false false]) = some r) : StepX P (ev fr) o m fun _ v m' => Nxt X O z e k vs K r v m' := by
  obtain ⟨hst, hr⟩ := cells_rel hc hE
  refine kBoxN ho hi rfl hst _ rfl (by rw [← hr.length]; exact hl) hM.st fun b m' hn st' bx sm hap => ?_
  exact push_nxt (v := .pointer (some ⟨b, 0, none⟩)) hM st' sm hap h ⟨b, _, rfl, bx, hn, rels.mono hr (Zle.refl z) ext_get⟩ ⟨b, new_at hM _, rfl⟩
theorem sameX_ok {kk : IntKind} {n : Int} (h : sameX x y = true) (hx : ev fr x = .int kk n) : ∃ k2, ev fr y = .int k2 n := by
  unfold sameX at h
  split at h
  · rename_i a b
    have : a = b := Nat.eq_of_beq_eq_true h
    subst this
    exact ⟨kk, hx⟩
  · rename_i k1 a k2 b
    have hx' : Value.int k1 a = .int kk n := hx
    cases hx'
    have : n = b := by simpa using h
    subst this
    exact ⟨k2, rfl⟩
  · cases h
theorem opMakeN_ok {tt : Nat} {kk : IntKind} {n : Int} (ho : o.op = .makeSlice t x y) (ht : P.underlying t = some (.slice tt)) (hM : Mm X.G O z e m k vs) (hx : ev fr x = .int kk n) (h : opMakeN X tt x y n O K = some r) : StepX P (ev fr) o m fun _ v m' => Nxt X O z e k vs K r v m' := by
  unfold opMakeN at h
  split at h
  · rename_i t1 hu
    split at h
    · rename_i ni hN hxy
      obtain ⟨xss, hm, h⟩ := bind_some h
      obtain ⟨k2, hy⟩ := sameX_ok hxy hx
      obtain ⟨n0, n1, rfl⟩ := mkI_some hm
      have hm2 : mkI (Value.slice none 0 0) n = some (List.replicate n.toNat (Value.slice none 0 0)) := by
        unfold mkI
        rw [if_pos ⟨n0, n1⟩]
      refine kMake (T := TVal tt) (x0 := Value.slice none 0 0) ho ht ni.hi ni.hz rfl (by rw [ni.h1]; rfl) (by rw [ni.h1]; rfl) ni.hby ⟨rfl, rfl, rfl⟩ hx hy hM.st hm2 fun v' m' st' ow sm hap => ?_
      have hb : blkV v' = blkOf v' := blkV_of (by obtain ⟨a, c, rfl⟩ := ow.ow.len; intro r; simp)
      refine push_nxt (v := v') hM st' sm (by rw [hb]; exact hap) h ⟨fun f hf => by cases hf; exact ⟨ni.hsz, ni.tid, ni.hr⟩, _, ow, by simp, fun j w xs g1 g2 _ => .inl ?_, fun p hp => by cases hp⟩ (own_rel hM ow.ow.len)
      rw [List.getElem?_replicate] at g1 g2
      split at g1
      · rename_i hj
        rw [if_pos hj] at g2
        cases g1; cases g2
        exact ⟨rfl, rfl⟩
      · cases g1
    · cases h
  · cases h
theorem opMake_ok {tt : Nat} {ti : TI P X.G tt} {kk : IntKind} {n : Int} (ho : o.op = .makeSlice t x y) (ht : P.underlying t = some (.slice tt)) (hM : Mm X.G O z e m k vs) (hx : ev fr x = .int kk n) (hxy : sameX x y = true)
    (h : (Option.bind (mkI ti.x0 n) fun r => K (.c (.own O.length)) (O ++ [.sl tt r false false])) = some r) : StepX P (ev fr) o m fun _ v m' => Nxt X O z e k vs K r v m' := by
  obtain ⟨xs, hm, h⟩ := bind_some h
  have hy := sameX_ok hxy hx
  obtain ⟨k2, hy⟩ := hy
  refine kMake (T := X.G.T tt) ho (by rw [ti.tid]; exact ht) (by rw [ti.tid]; exact ti.hi) ti.hz ti.hzf ti.hzs ti.hsz ti.hby (ti.rd0 z) hx hy hM.st hm fun v' m' st' ow sm hap => ?_
  have hb : blkV v' = blkOf v' := blkV_of (by obtain ⟨a, c, rfl⟩ := ow.ow.len; intro r; simp)
  exact push_nxt (v := v') hM st' sm (by rw [hb]; exact hap) h ow (own_rel hM ow.ow.len)
theorem BuildOk.mono {α : Type} {T : Ty α} {ρ : Operand → Value} (hz : Zle z z') : ∀ {ps : List (Nat × Operand)} {n : Nat} {as : List α} {css : List (List Value)}, BuildOk T z ρ ps n as css → BuildOk T z' ρ ps n as css
  | [], _, [], [], _ => trivial
  | (_, _) :: _, _, _ :: _, _ :: _, ⟨h1, h2, h3, h4, h5⟩ => ⟨h1, h2, h3, T.mono _ _ hz _ _ h4, BuildOk.mono hz h5⟩
  | [], _, _ :: _, _, h => h.elim
  | [], _, [], _ :: _, h => h.elim
  | _ :: _, _, [], _, h => h.elim
  | _ :: _, _, _ :: _, [], h => h.elim
theorem mkAll_ok {tt : Nat} {ti : TI P X.G tt} : ∀ {ps : List (Nat × Operand)} {n : Nat} {O : List (Ob D)} {z : Nat → Blk} {K : List (D tt) → List (Ob D) → Option ρ}, Mm X.G O z e m k vs → (∀ x, rel X.G z vs (sop E x) (ev fr x)) → mkAll X ti E n ps O K = some r →
    ∃ z' O' as css, Inv O O' ∧ Zx e.next z z' ∧ Mm X.G O' z' e m k vs ∧ BuildOk (X.G.T tt) z' (ev fr) ps n as css ∧ K as O' = some r
  | [], n, O, z, K, hM, hE, h => ⟨z, O, [], [], Inv.refl O, Zx.refl z, hM, trivial, h⟩
  | (j, x) :: ps, n, O, z, K, hM, hE, h => by
    unfold mkAll at h
    split at h
    · rename_i hj
      split at h
      · rename_i cs O1 hc
        obtain ⟨a, ha, h⟩ := bind_some h
        obtain ⟨z1, hi1, hz1, hM1, hst, hr⟩ := frzS_ok hM hc (hE x)
        obtain ⟨z2, O2, as, css, g0, g1, g2, g3, g4⟩ := mkAll_ok hM1 (fun x => (hE x).mono hz1.le fun _ _ h => h) h
        exact ⟨z2, O2, a :: as, (ev fr x).cells.toList :: css, hi1.trans g0, hz1.trans g1, g2, ⟨hj, hst, rfl, (X.G.T tt).mono _ _ g1.le _ _ (ti.pkl _ _ _ _ _ ha hr), g3⟩, g4⟩
      · cases h
    · cases h
theorem opBuild_ok {tt l : Nat} {ti : TI P X.G tt} {ps : Array (Nat × Operand)} (ho : o.op = .buildSlice t l ps) (ht : P.underlying t = some (.slice tt)) (hM : Mm X.G O z e m k vs) (hE : ∀ x, rel X.G z vs (sop E x) (ev fr x))
    (h : (mkAll X ti E 0 ps.toList O fun as O => if as.length = l ∧ Nat.ble (l * (X.G.T tt).sz) 16777216 = true then K (.c (.own O.length)) (O ++ [.sl tt as false false]) else none) = some r) : StepX P (ev fr) o m fun _ v m' => Nxt X O z e k vs K r v m' := by
  obtain ⟨z1, O1, as, css, g0, g1, g2, g3, g4⟩ := mkAll_ok hM hE h
  split at g4
  · rename_i hl
    have hpos : 0 < (X.G.T tt).sz := Nat.pos_of_ne_zero fun h0 => by have := ti.hpos; rw [h0] at this; cases this
    have h24 := Nat.le_of_ble_eq_true hl.2
    have hll : l ≤ l * (X.G.T tt).sz := Nat.le_mul_of_pos_right _ hpos
    refine kBuild (T := X.G.T tt) ho (by rw [ti.tid]; exact ht) (by rw [ti.tid]; exact ti.hi) ti.hz ti.hzf ti.hzs ti.hsz as css hl.1 hl.2 (ble_of (show l + 1 ≤ 9223372036854775808 by omega)) g3 g2.st fun v' m' st' ow sm hap => ?_
    have hb : blkV v' = blkOf v' := blkV_of (by obtain ⟨a, c, rfl⟩ := ow.ow.len; intro r; simp)
    exact Nxt.from g0 g1 (push_nxt (v := v') g2 st' sm (by rw [hb]; exact hap) g4 ow (own_rel g2 ow.ow.len))
  · cases g4
theorem fill_ok {pl : List (Option (Nat × Nat))} (hE : ∀ x, rel X.G z vs (sop E x) (ev fr x)) : ∀ {ps : List (Nat × Operand)} {cs cs' : List (CV D)} {ds : List Value}, fillC pl E ps cs = some cs' → L2 (rel0 X.G z vs) cs ds →
    ∃ ds', fillL (fun k => (pl[k]?).join) ds (ps.map fun p => (p.1, ev fr p.2)) = some ds' ∧ L2 (rel0 X.G z vs) cs' ds'
  | [], cs, cs', ds, h, hr => by cases h; exact ⟨ds, rfl, hr⟩
  | (i, x) :: ps, cs, cs', ds, h, hr => by
    unfold fillC at h
    split at h
    · rename_i off size new hp hc
      split at h
      · rename_i hcond
        obtain ⟨hst, hnr⟩ := cells_rel hc (hE x)
        obtain ⟨ds', g1, g2⟩ := fill_ok hE h (setC_rel off hr hnr)
        refine ⟨ds', ?_, g2⟩
        have hsz : (ev fr x).cells.size = size := by
          have h1 : new.length = (ev fr x).cells.toList.length := hnr.length
          have h2 : (ev fr x).cells.toList.length = (ev fr x).cells.size := Array.length_toList
          have h3 : new.length = size := hcond.1
          omega
        simp only [List.map_cons, fillL, hp]
        rw [if_pos ⟨hst, hsz, by rw [← hr.length]; exact hcond.2⟩]
        exact g1
      · cases h
    · cases h
theorem opStruct_ok {ti : TI P X.G t} {fs : Array Field} {ps : Array (Nat × Operand)} {cs : List (CV D)} (ho : o.op = .build t ps) (ht : P.underlying t = some (.struct fs)) (hM : Mm X.G O z e m k vs) (hE : ∀ x, rel X.G z vs (sop E x) (ev fr x)) (hp : (places P fs).all Option.isSome = true)
    (hc : fillC (places P fs) E ps.toList ti.zc = some cs) (h : K (.agg t cs) O = some r) : StepX P (ev fr) o m fun _ v m' => Nxt X O z e k vs K r v m' := by
  obtain ⟨ds, g1, g2⟩ := fill_ok hE hc (ti.hzc z vs)
  exact kBuildS _ ds ho ht ti.hi ti.hz ti.hzf rfl hp rfl g1 (Nxt.here (sv := .agg t cs) hM ⟨ds, rfl, g2⟩ h)
end
end Go.AM
end
section
set_option linter.unusedSimpArgs false
set_option linter.unusedVariables false
namespace Go.AM
section
variable {P : Program} {D : Nat → Type} {X : Ev P D} {ρ : Type} {z z' : Nat → Blk} {e m m' : Mem} {k : Option Nat} {vs : List Value} {fr : Nat → Value} {E : List (Nat × SV D)} {O : List (Ob D)} {o : Oper} {r : ρ}
variable {x y : Operand} {t u : TypeId} {K : SV D → List (Ob D) → Option ρ}
theorem lowX_ok {lo : Option Operand} {a : Int} (hE : ∀ x, rel X.G z vs (sop E x) (ev fr x)) (h : lowX E lo = some a) : lowI (ev fr) lo a := by
  cases lo with
  | none => cases h; rfl
  | some y =>
    simp only [lowX] at h
    split at h
    · rename_i kk n hs
      cases h
      have := hE y
      rw [hs] at this
      exact ⟨kk, this⟩
    · cases h
theorem highX_ok {hi : Option Operand} {a : Int} {l : Nat} (hE : ∀ x, rel X.G z vs (sop E x) (ev fr x)) (h : highX E (l : Int) hi = some a) : highI (ev fr) hi l a := by
  cases hi with
  | none => cases h; rfl
  | some y =>
    simp only [highX] at h
    split at h
    · rename_i kk n hs
      cases h
      have := hE y
      rw [hs] at this
      exact ⟨kk, this⟩
    · cases h
theorem opCut_ok {a : SV D} {lo hi : Option Operand} (ho : o.op = .slice t x lo hi none) (hM : Mm X.G O z e m k vs) (hE : ∀ x, rel X.G z vs (sop E x) (ev fr x)) (ha : rel X.G z vs a (ev fr x)) (h : opCut X t a E lo hi O K = some r) : StepX P (ev fr) o m fun _ v m' => Nxt X O z e k vs K r v m' := by
  unfold opCut at h
  split at h
  · split at h
    · rename_i s x1 y1 ht hlo hhi
      obtain ⟨q, hq, h⟩ := bind_some h
      exact kCutS ho ht ha (lowX_ok hE hlo) (highX_ok hE hhi) hq (Nxt.here (sv := .c (.str q)) hM rfl h)
    · cases h
  · rename_i c hns
    split at h
    · rename_i e1 xs O1 hc
      obtain ⟨z1, hi1, hz1, hM1, hr⟩ := frzC_ok hM hc ha
      split at h
      · rename_i e2 ti x1 y1 ht hI hlo hhi
        split at h
        · rename_i heq
          subst heq
          obtain ⟨q, hq, h⟩ := bind_some h
          refine kCut (T := X.G.T e2) ho (by rw [ti.tid]; exact ht) (by rw [ti.tid]; exact ti.hi) ti.hsz rfl (lowX_ok hE hlo) (highX_ok hE hhi) hr hM1.st hq fun v' I _ hs => ?_
          exact Nxt.from hi1 hz1 (Nxt.here (sv := .c (.sl e2 q)) hM1 hs h)
        · cases h
      · cases h
    · cases h
  · cases h
theorem oCut {α : Type} {T : Ty α} {xs : List α} {v : Value} {lo hi : Option Operand} {a n : Nat} {i : TypeInfo} {ρ : Operand → Value} (h : o.op = .slice t x lo hi none) (ht : P.underlying t = some (.slice T.tid)) (hi' : P.info? T.tid = some i) (hsz : i.size = T.sz) (hx : ρ x = v) (hlo : lowIs ρ lo a) (hhi : highIs ρ hi xs.length n)
    (hs : Ow T z m xs v) (ha : a ≤ n) (hn : n ≤ xs.length) : ∃ v', (PureR P ρ o v' ∨ ReadR P ρ o m v') ∧ CutV T.sz a n v v' := by
  rcases hs with ⟨rfl, rfl⟩ | ⟨b, f0, L, c, rfl, g1, g2, g3, g4, g5, g6⟩
  · have hn0 : n = 0 := by simpa using hn
    subst hn0
    obtain rfl : a = 0 := by omega
    exact ⟨.slice none 0 0, .inl (.sliceNil t x lo hi T.tid i h ht hi' hx hlo hhi), .inl ⟨rfl, rfl, rfl, rfl⟩⟩
  · rcases g5 with rfl | ⟨hc, h1, h2⟩
    · refine ⟨_, .inr (.slice t x lo hi T.tid i L b f0 xs.length a n h ht hi' hx g1 hlo hhi ha hn (by rw [hsz]; exact g4)), .inr ⟨b, f0, xs.length, BIG, _, BIG, rfl, rfl, ha, hn, .inl (by rw [hsz]), .inl ⟨rfl, rfl⟩⟩⟩
    · refine ⟨_, .inl (.slice t x lo hi T.tid i b f0 xs.length c a n h ht hi' hx (by simp only [BIG] at hc ⊢; omega) hlo hhi ha (by omega) (fun _ => trivial)), .inr ⟨b, f0, xs.length, c, _, _, rfl, rfl, ha, hn, ?_, .inr ⟨hc, rfl⟩⟩⟩
      by_cases hca : c = a
      · exact .inr ⟨by omega, if_pos hca⟩
      · exact .inl (by rw [if_neg hca, hsz])
theorem opCut'_ok {a : SV D} {lo hi : Option Operand} (ho : o.op = .slice t x lo hi none) (hM : Mm X.G O z e m k vs) (hE : ∀ x, rel X.G z vs (sop E x) (ev fr x)) (ha : rel X.G z vs a (ev fr x)) (h : opCut' X t x a E lo hi O K = some r) : StepX P (ev fr) o m fun _ v m' => Nxt X O z e k vs K r v m' := by
  unfold opCut' at h
  split at h
  · rename_i hnil
    have hv : ev fr x = .slice none 0 0 := by
      unfold nilB at hnil
      split at hnil
      · exact ha
      · cases hnil
    split at h
    · rename_i e1 p q ht hlo hhi
      split at h
      · rename_i ti hI
        split at h
        · rename_i h0
          simp only [Bool.and_eq_true, beq_iff_eq] at h0
          obtain ⟨rfl, rfl⟩ := h0
          exact StepX.pure (.sliceNil t x lo hi e1 ti.i ho ht ti.hi hv (lowI_is (n := 0) (lowX_ok hE hlo)) (highI_is (n := 0) (highX_ok (l := 0) hE hhi))) (Nxt.here (sv := .c .nilS) hM rfl h)
        · cases h
      · cases h
    · cases h
  rename_i hnn
  split at h
  · exact opCut_ok ho hM hE ha h
  · rename_i md hmd
    split at h
    · rename_i i
      have ha : rel0 X.G z vs (.own i) (ev fr x) := ha
      split at h
      · rename_i e1 xs w e2 hO hu
        split at h
        · rename_i ti p q hti hlo hhi
          by_cases heq : e2 = e1
          case neg => rw [if_neg heq] at h; cases h
          rw [if_pos heq] at h
          subst heq
          obtain ⟨rr, hr, h⟩ := bind_some h
          obtain ⟨c0, c1, c2, rfl⟩ := cutI_some hr
          obtain ⟨p, rfl⟩ := Int.eq_ofNat_of_zero_le c0
          obtain ⟨q, rfl⟩ := Int.eq_ofNat_of_zero_le (Int.le_trans c0 c1)
          simp only [Int.toNat_natCast] at h
          have hob : OwF (X.G.T e2) z e m k xs (ev fr x) := hM.obj i _ _ hO ha.1
          obtain ⟨v', h1, h2⟩ := oCut (T := X.G.T e2) ho (by rw [ti.tid]; exact hu) (by rw [ti.tid]; exact ti.hi) ti.hsz rfl (lowI_is (lowX_ok hE hlo)) (highI_is (highX_ok hE hhi)) hob.ow (by omega) (by omega)
          have hk : Nxt X O z e k vs K r v' m := by
            by_cases hmo : Nat.beq md 0 = true
            · rw [if_pos hmo] at h
              exact Nxt.here (sv := .cut i e2 p q) hM ⟨_, ha, h2⟩ h
            · rw [if_neg hmo] at h
              have ow : OwF (X.G.T e2) z e m k ((xs.take q).drop p) v' := ⟨h2.owd hob.ow, fun b hb => hob.fresh b (by
                have hbx : blkV (ev fr x) = blkOf (ev fr x) := blkV_of (by obtain ⟨a, c, hh⟩ := hob.ow.len; intro r; rw [hh]; simp)
                have hbv : blkV v' = blkOf v' := blkV_of (by obtain ⟨a, c, hh⟩ := (h2.owd hob.ow).len; intro r; rw [hh]; simp)
                rw [← hbx, ← h2.blk, hbv]; exact hb)⟩
              have hbk : blkV v' = blkV (ev fr x) := h2.blk
              have hap := fun j p' w hij hj hl hw => hM.ap j i p' _ w _ hij hj hO hl rfl hw ha.1
              exact ⟨z, vs ++ [v'], .c (.own O.length), O.set i .dead ++ [.sl e2 ((xs.take q).drop p) false false], (Inv.set O i (.inl rfl)).trans (Inv.push _ _), Zx.refl z, ext_get,
                (hM.kill i).push (q := blkV (ev fr x)) (o' := .sl e2 ((xs.take q).drop p) false false) ⟨Nat.le_refl _, hM.st.dead, fun _ _ _ => rfl⟩ hM.st (fun j p w hj hw hl => by
                  rw [List.getElem?_set] at hj
                  split at hj
                  · split at hj
                    · cases hj; cases hl
                    · cases hj
                  · rename_i hij
                    exact hap j p w (fun e => hij e.symm) hj hl hw) ow (fun p hp ha2 => by rw [hbk]; exact ha2), own_rel hM (by obtain ⟨a, c, hh⟩ := ow.ow.len; exact ⟨a, c, hh⟩), h⟩
          rcases h1 with h1 | h1
          · exact StepX.pureR (D := fun _ v m' => Nxt X O z e k vs K r v m') (I := fun _ => True) h1 hk
          · exact StepX.read (D := fun _ v m' => Nxt X O z e k vs K r v m') h1 hk
        · cases h
      · cases h
    · cases h
theorem opCut3_ok {y mx : Operand} (ho : o.op = .slice t x none (some y) (some mx)) (hM : Mm X.G O z e m k vs) (hE : ∀ x, rel X.G z vs (sop E x) (ev fr x)) (h : opCut3 X t (sop E x) (sop E y) (sop E mx) O K = some r) : StepX P (ev fr) o m fun _ v m' => Nxt X O z e k vs K r v m' := by
  unfold opCut3 at h
  have ite_some : ∀ {α : Type} {p : Prop} [Decidable p] {x : Option α} {r : α}, (if p then x else none) = some r → p ∧ x = some r := by
    intro α p _ x r h
    split at h
    · exact ⟨‹_›, h⟩
    · cases h
  split at h
  · rename_i e' k1 p k2 q ht hp hq
    have hy := hE y
    rw [hp] at hy
    have hy : ev fr y = .int k1 p := hy
    have hmx := hE mx
    rw [hq] at hmx
    have hmx : ev fr mx = .int k2 q := hmx
    have ha := hE x
    split at h
    · rename_i c hx
      rw [hx] at ha
      split at h
      · rename_i e2 xs O1 hf
        split at h
        · rename_i ti hI
          obtain ⟨he, h⟩ := ite_some h
          subst he
          obtain ⟨rr, hr, h⟩ := bind_some h
          unfold cut3I at hr
          obtain ⟨hcc0, hr2⟩ := ite_some hr
          obtain ⟨h0, h1, h2, hpq⟩ := hcc0
          subst hpq
          cases hr2
          obtain ⟨z1, g0, g1, g2, g3⟩ := frzC_ok hM hf ha
          obtain ⟨n, rfl⟩ := Int.eq_ofNat_of_zero_le h0
          have hn : n ≤ xs.length := by omega
          have hnB : n < BIG := by simp only [BIG]; omega
          have key : ∃ v, PureR P (ev fr) o v ∧ rel X.G z1 vs (.full e' (xs.take n)) v := by
            rcases (g3 : SlR (X.G.T e') z1 xs (ev fr x)) with ⟨hv, rfl⟩ | ⟨b, off, c', hv, k1', k2', k3'⟩
            · have hn0 : n = 0 := by simpa using hn
              subst hn0
              exact ⟨_, .slice3Nil t x mx (some y) e' ti.i k2 ho ht ti.hi hv ⟨y, k1, rfl, hy⟩ hmx, .inl ⟨rfl, by simp⟩, by simp [BIG], none, by simp⟩
            · have hcc : (c' ≠ BIG ∧ n ≤ c') ∨ (c' = BIG ∧ n ≤ xs.length) := by
                rcases k2' with ⟨hc, _⟩ | ⟨hc, hl⟩
                · exact .inr ⟨hc, hn⟩
                · exact .inl ⟨by omega, by omega⟩
              have hlen : (xs.take n).length = n := by rw [List.length_take]; omega
              refine ⟨_, .slice3 t x mx (some y) e' ti.i b off xs.length c' n n k2 ho ht ti.hi hv hcc ⟨y, k1, rfl, hy⟩ hmx (Nat.le_refl _), ?_⟩
              refine ⟨.inr ⟨b, off, n, by rw [hlen], k1', .inr ⟨hnB, by rw [hlen]; exact Nat.le_refl _⟩, fun i a hi => ?_⟩, by rw [hlen]; exact hnB, some ⟨b, off, none⟩, by rw [hlen]⟩
              rw [List.getElem?_take] at hi
              split at hi
              · exact k3' i a hi
              · cases hi
          obtain ⟨v, hv, hr2⟩ := key
          exact StepX.pure hv (Nxt.from g0 g1 (Nxt.here g2 hr2 h))
        · cases h
      · cases h
    · cases h
  · cases h
theorem lookS_cs {a : SV D} {v : Value} {t : Nat} {xs : List (D t)} (hM : Mm X.G O z e m k vs) (h : lookS O a = some ⟨t, xs⟩) (hv : rel X.G z vs a v) : SlR (X.G.T t) z xs v ∨ OwF (X.G.T t) z e m k xs v := by
  unfold lookS at h
  split at h
  · cases h; exact .inl hv
  · split at h
    · rename_i t' xs' fz w1 ho
      cases h
      have hob := hM.obj _ _ v ho hv.1
      cases fz with
      | true => exact .inl hob
      | false => exact .inr hob
    · cases h
  · cases h
theorem opConv_ok {a : SV D} (ho : o.op = .convert u t x) (hM : Mm X.G O z e m k vs) (ha : rel X.G z vs a (ev fr x)) (h : opConv X u t a O K = some r) : StepX P (ev fr) o m fun _ v m' => Nxt X O z e k vs K r v m' := by
  unfold opConv at h
  split at h
  · rename_i k1 k2 hu ht
    split at h
    · exact pt_here hM h (pConv ho hu ht ha) rfl
    · cases h
  · rename_i te hu ht
    split at h
    · rename_i s bi hB
      obtain ⟨s', hs, h⟩ := bind_some h
      refine kBytes ho hu ht bi.hu bi.hi bi.hi1 ha hs hM.st ?_
      intro v' m' st ow s0 hap
      have ow' := bi.hb _ _ _ _ _ _ ow
      have hb : blkV v' = blkOf v' := blkV_of (by obtain ⟨a, c, rfl⟩ := ow.ow.len; intro r; simp)
      refine ⟨z, vs ++ [v'], .c (.own O.length), _, Inv.push O _, Zx.refl z, ext_get, hM.push (q := none) s0 st (fun _ _ _ _ _ _ => Ap.none') ?_ (fun p hp _ => by rw [hb]; exact hap p hp), ?_, h⟩
      · exact ow'
      · refine ⟨?_, ?_⟩
        · rw [← hM.len]; simp
        · obtain ⟨a, c, rfl⟩ := ow.ow.len; exact ⟨rfl, rfl⟩
    · cases h
  · rename_i te hu ht
    split at h
    · rename_i e' xs bi hl hB
      split at h
      · rename_i he
        subst he
        rcases lookS_cs hM hl ha with hs | hs
        · exact kStrR ho hu bi.hu ht rfl (bi.hr _ _ _ hs) hM.st (Nxt.here (sv := .c (.str (bi.to xs))) hM rfl h)
        · exact kStrO ho hu bi.hu ht rfl (bi.ho _ _ _ _ _ _ hs) (Nxt.here (sv := .c (.str (bi.to xs))) hM rfl h)
      · cases h
    · cases h
  · cases h
theorem opLen_ok {a : SV D} {ts : Array TypeId} (ho : o.op = .call { callee := .builtin .len, args := #[x], argTypes := #[t] }) (hM : Mm X.G O z e m k vs) (ha : rel X.G z vs a (ev fr x)) (h : opLen (P := P) t a O K = some r) : StepX P (ev fr) o m fun _ v m' => Nxt X O z e k vs K r v m' := by
  unfold opLen at h
  split at h
  · rename_i s ht
    exact pt_here hM h (pLenS ho rfl ht ha) rfl
  · rename_i te ht
    have hv : ev fr x = .slice none 0 0 := ha
    exact pt_here hM h (pLenG (xs := ([] : List Int)) ho ht rfl ⟨none, 0, hv⟩) rfl
  · rename_i te hn1 ht
    split at h
    · rename_i e1 xs hl
      exact pt_here hM h (pLenG ho ht rfl (lookS_len hM hl ha)) rfl
    · split at h
      · split at h
        · rename_i e1 t1 up xss hole w hO
          obtain ⟨hu, ws, hob⟩ := hM.obj _ _ _ hO ha.1
          exact pt_here hM h (pLenG (xs := xss) ho ht rfl (by obtain ⟨a, c, hh⟩ := hob.ow.ow.len; exact ⟨a, c, by rw [hh, hob.len]⟩)) rfl
        · cases h
      · split at h
        · rename_i i e1 lo hi hls xo e2 xs w1 hO
          split at h
          · rename_i he
            subst he
            obtain ⟨w, hw, hc⟩ := ha
            have hob : OwF _ z e m k xs w := hM.obj _ _ _ hO hw.1
            obtain ⟨a1, c1, hl⟩ := hob.ow.len
            refine pt_here hM h (pLenG (xs := (xs.take hi).drop lo) ho ht rfl ?_) rfl
            rcases hc with ⟨_, hv, rfl, rfl⟩ | ⟨b, f0, l, c, off, c', h0, hv, h1, h2, h3, h4⟩
            · exact ⟨none, 0, by rw [hv]; simp⟩
            · rw [hl] at h0
              cases h0
              exact ⟨_, c', by rw [hv, List.length_drop, List.length_take, Nat.min_eq_left h2]⟩
          · cases h
        · cases h
      · cases h
  · cases h
theorem kAppendF {α : Type} {T : Ty α} {Dg : Tag → Value → Mem → Prop} {xs ys : List α} {w : Value} {a : Option Addr} {ρ : Operand → Value} {i : TypeInfo} (h : o.op = .call { callee := .builtin .append, args := #[x, y], argTypes := #[t, u] }) (ht : P.underlying t = some (.slice T.tid)) (hi : P.info? T.tid = some i) {zv : Value} (hzv : i.zero = some zv) (hzf : zv.cells.toList.all flat0 = true) (hzs : zv.cells.size = i.size)
    (hsz : i.size = T.sz) (hpos : (T.sz == 0) = false) (hby : Nat.ble i.bytes 32768 = true) (hu : (∃ e', P.underlying u = some (.slice e')) ∨ P.underlying u = some .string) (hx : ρ x = .slice a xs.length xs.length) (hs : Src T z m xs (.slice a xs.length xs.length)) (hy : ρ y = w) (hsrc : Src T z m ys w) (hne : ys.isEmpty = false)
    (st : St z e m k) {r : List α} (hr : appI xs ys = some r)
    (hk : ∀ v' m', St z e m' k → OwF T z e m' k r v' → Same m m' none → (∀ p, (∀ b, p = some b → b < m.next) → Ap p (blkOf v')) → Dg .eff v' m') : StepX P ρ o m Dg := by
  obtain ⟨hlim, rfl⟩ := appI_some hr
  simp only [LIM] at hlim
  have hby := Nat.le_of_ble_eq_true hby
  have hp : 0 < T.sz := by rcases Nat.eq_zero_or_pos T.sz with h0 | h0; · rw [h0] at hpos; cases hpos
                           · exact h0
  obtain ⟨hlen, cs, hel, hcl, hrd⟩ := hsrc
  obtain ⟨hlx, os, hex, hol, hro⟩ := hs
  have hlw : lenV (ρ y) = ys.length := by rw [hy]; exact hlen
  have hy0 : 0 < ys.length := by cases ys with
    | nil => cases hne
    | cons _ _ => simp
  have hmul : (xs.length + ys.length) * i.bytes ≤ 4294967296 * 32768 := Nat.mul_le_mul hlim hby
  have hnz : z m.next = .dead := by
    have hz := st.fz
    cases hzz : z m.next with
    | dead => rfl
    | ro rd => have := (hz m.next (by rw [hzz]; simp)).2; omega
    | own L t => have := (hz m.next (by rw [hzz]; simp)).2; omega
    | map L t => have := (hz m.next (by rw [hzz]; simp)).2; omega
    | lock _ _ _ _ => have := (hz m.next (by rw [hzz]; simp)).2; omega
  have hE : EffR P (callR P 0) ρ o m (.slice (some ⟨m.next, 0, none⟩) (xs.length + lenV (ρ y)) BIG) (m.push (.own (os ++ cs) T.tid)) :=
    .appendNew x y t u T.tid i zv a xs.length xs.length (lenV (ρ y)) os cs h ht hi hzv hzf hzs (by rw [hsz]; exact hp) hx (by rw [hlw]; omega) (by rw [hx, hsz]; exact hex) (by rw [hsz]; exact hol) (.el hu rfl (by rw [hy, hsz]; exact hel)) (by rw [hlw, hsz]; exact hcl) (by rw [hlw]; omega) (by rw [hlw]; omega)
  rw [hlw] at hE
  have how : Ow T z (m.push (.own (os ++ cs) T.tid)) (xs ++ ys) (.slice (some ⟨m.next, 0, none⟩) (xs.length + ys.length) BIG) := by
    refine Ow.at0 ⟨m.next, os ++ cs, BIG, by simp, by simp [Mem.push], by simp [Mem.push], hnz, by simp [hol, hcl, Nat.add_mul], .inl rfl, fun n q ha => ?_⟩
    rw [List.getElem?_append] at ha
    split at ha
    · obtain ⟨c, g1, g2⟩ := hro n q ha
      refine ⟨c, g1, fun k q hk => ?_⟩
      have := g2 k q hk
      rw [List.getElem?_append_left (List.getElem?_eq_some_iff.1 this).1]
      exact this
    · rename_i hge
      obtain ⟨c, g1, g2⟩ := hrd _ q ha
      refine ⟨c, g1, fun k q hk => ?_⟩
      have := g2 k q hk
      have h1 : n * T.sz = os.length + (n - xs.length) * T.sz := by
        rw [hol, ← Nat.add_mul]; congr 1; omega
      rw [h1, Nat.add_assoc, List.getElem?_append_right (by omega), Nat.add_sub_cancel_left]
      exact this
  obtain ⟨g1, g2, g3, g4⟩ := gOwn (k := k) st how rfl
  exact StepX.eff hE (hk _ _ g1 g2 g3 g4)
theorem opApp_ok {a b : SV D} (ho : o.op = .call { callee := .builtin .append, args := #[x, y], argTypes := #[t, u] }) (hM : Mm X.G O z e m k vs) (ha : rel X.G z vs a (ev fr x)) (hb : rel X.G z vs b (ev fr y)) (h : opApp X t u a b O K = some r) : StepX P (ev fr) o m fun _ v m' => Nxt X O z e k vs K r v m' := by
  unfold opApp at h
  split at h
  · rename_i tt uu ht hu
    split at h
    · cases h
    · rename_i ti hI
      dsimp only at h
      split at h
      · cases h
      · rename_i ys hys
        have hsrc : Src (X.G.T tt) z m ys (ev fr y) := by
          split at hys
          · cases hys
            have hv : ev fr y = .slice none 0 0 := hb
            rw [hv]
            exact (SlR.nil (T := X.G.T tt)).src hM.st.fz
          · split at hys
            · rename_i e2 ys2 hl
              split at hys
              · rename_i heq
                subst heq
                cases hys
                exact lookB_src hM hl hb
              · cases hys
            · cases hys
        have ht' : P.underlying t = some (.slice (X.G.T tt).tid) := by rw [ti.tid]; exact ht
        have hi' : P.info? (X.G.T tt).tid = some ti.i := by rw [ti.tid]; exact ti.hi
        split at h
        · obtain ⟨q, hq, h⟩ := bind_some h
          have hv : ev fr x = .slice none 0 0 := ha
          refine kAppend (T := X.G.T tt) (z := z) ho ht' hi' ti.hz ti.hzf ti.hzs ti.hsz ti.hpos ti.hby (.inl ⟨_, hu⟩) hv OwF.nil rfl hsrc hM.st hq fun v' m' st' ow sm hap => ?_
          have hbv : blkV v' = blkOf v' := blkV_of (by obtain ⟨a, c, rfl⟩ := ow.ow.len; intro r; simp)
          exact push_nxt (v := v') hM st' sm (fun p hp => by rw [hbv]; exact hap p hp Ap.none') h ow (own_rel hM ow.ow.len)
        · rename_i e2 xs
          by_cases heq : e2 = tt
          case neg => rw [dif_neg heq] at h; cases h
          rw [dif_pos heq] at h
          subst heq
          by_cases hne : ys.isEmpty = true
          case pos => rw [if_pos hne] at h; cases h
          rw [if_neg hne] at h
          obtain ⟨q, hq, h⟩ := bind_some h
          obtain ⟨f1, f2, a0, f3⟩ := ha
          refine kAppendF (T := X.G.T e2) (z := z) ho ht' hi' ti.hz ti.hzf ti.hzs ti.hsz ti.hpos ti.hby (.inl ⟨_, hu⟩) f3 (by rw [← f3]; exact SlR.src f1 hM.st.fz) rfl hsrc (by simpa using hne) hM.st hq fun v' m' st' ow sm hap => ?_
          have hbv : blkV v' = blkOf v' := blkV_of (by obtain ⟨a, c, rfl⟩ := ow.ow.len; intro r; simp)
          exact push_nxt (v := v') hM st' sm (fun p hp => by rw [hbv]; exact hap p hp) h ow (own_rel hM ow.ow.len)
        · rename_i i
          split at h
          · rename_i e2 xs w1 hO
            split at h
            · rename_i heq
              subst heq
              obtain ⟨q, hq, h⟩ := bind_some h
              have hob : OwF (X.G.T e2) z e m k xs (ev fr x) := hM.obj i _ _ hO ha.1
              refine kAppend (T := X.G.T e2) ho ht' hi' ti.hz ti.hzf ti.hzs ti.hsz ti.hpos ti.hby (.inl ⟨_, hu⟩) rfl hob rfl hsrc hM.st hq fun v' m' st' ow sm hap => ?_
              have hbv : blkV v' = blkOf v' := blkV_of (by obtain ⟨a, c, rfl⟩ := ow.ow.len; intro r; simp)
              have hbx : blkV (ev fr x) = blkOf (ev fr x) := blkV_of (by obtain ⟨a, c, hh⟩ := hob.ow.len; intro r; rw [hh]; simp)
              have hM1 := hM.kill i
              have hlen : (O.set i .dead).length = O.length := List.length_set
              refine ⟨z, vs ++ [v'], .c (.own O.length), O.set i .dead ++ [.sl e2 q false false], (Inv.set O i (.inl rfl)).trans (Inv.push _ _), Zx.refl z, ext_get, hM1.push (o' := .sl e2 q false false) sm st' (fun j p w hj hw hl => ?_) ow (fun p hp ha2 => by rw [hbv]; exact hap p hp ha2), ?_, h⟩
              · rw [List.getElem?_set] at hj
                split at hj
                · split at hj
                  · cases hj; cases hl
                  · cases hj
                · rename_i hij
                  rw [← hbx]
                  exact hM.ap j i p _ w _ (fun e => hij e.symm) hj hO hl rfl hw ha.1
              · exact own_rel hM ow.ow.len
            · cases h
          · cases h
        · rename_i i e1 lo n
          by_cases hlo : Nat.beq lo 0 = true
          case neg => rw [if_neg hlo] at h; cases h
          rw [if_pos hlo] at h
          obtain rfl := Nat.eq_of_beq_eq_true hlo
          by_cases he1 : e1 = tt
          case neg => rw [if_neg he1] at h; cases h
          rw [if_pos he1] at h
          subst he1
          split at h
          · rename_i e2 xs w1 hO
            split at h
            · rename_i heq
              subst heq
              obtain ⟨q, hq, h⟩ := bind_some h
              obtain ⟨wv, hw1, hcv⟩ := ha
              have hob0 : OwF (X.G.T e2) z e m k xs wv := hM.obj i _ _ hO hw1.1
              have hbx0 : blkV wv = blkOf wv := blkV_of (by obtain ⟨a, c, hh⟩ := hob0.ow.len; intro r; rw [hh]; simp)
              have how := hcv.ow hob0.ow
              have hbx : blkV (ev fr x) = blkOf (ev fr x) := blkV_of (by obtain ⟨a, c, hh⟩ := how.len; intro r; rw [hh]; simp)
              have hob : OwF (X.G.T e2) z e m k (xs.take n) (ev fr x) := ⟨how, fun b hb => hob0.fresh b (by rw [← hbx0, ← hcv.blk, hbx]; exact hb)⟩
              refine kAppend (T := X.G.T e2) ho ht' hi' ti.hz ti.hzf ti.hzs ti.hsz ti.hpos ti.hby (.inl ⟨_, hu⟩) rfl hob rfl hsrc hM.st hq fun v' m' st' ow sm hap => ?_
              have hbv : blkV v' = blkOf v' := blkV_of (by obtain ⟨a, c, rfl⟩ := ow.ow.len; intro r; simp)
              have hM1 := hM.kill i
              refine ⟨z, vs ++ [v'], .c (.own O.length), O.set i .dead ++ [.sl e2 q false false], (Inv.set O i (.inl rfl)).trans (Inv.push _ _), Zx.refl z, ext_get, hM1.push (o' := .sl e2 q false false) sm st' (fun j p w hj hw hl => ?_) ow (fun p hp ha2 => by rw [hbv]; exact hap p hp ha2), ?_, h⟩
              · rw [List.getElem?_set] at hj
                split at hj
                · split at hj
                  · cases hj; cases hl
                  · cases hj
                · rename_i hij
                  rw [← hbx, hcv.blk]
                  exact hM.ap j i p _ w _ (fun e => hij e.symm) hj hO hl rfl hw hw1.1
              · exact own_rel hM ow.ow.len
            · cases h
          · cases h
        · cases h
  · cases h
theorem opMap_ok {kt vt : Nat} (ho : o.op = .makeMap t none) (ht : P.underlying t = some (.map kt vt)) (hM : Mm X.G O z e m k vs) (h : K (.c (.own O.length)) (O ++ [.map t kt vt [] false false]) = some r) : StepX P (ev fr) o m fun _ v m' => Nxt X O z e k vs K r v m' := by
  refine kMakeMap (X.G.M t kt vt) ho ht rfl hM.st fun v' m' st' ow sm hap => ?_
  obtain ⟨q, rfl, hq⟩ := ow.ow
  exact push_nxt (v := .map (some q)) hM st' sm hap h ow ⟨new_at hM _, rfl, rfl⟩
theorem opLook_ok {u kt vt : Nat} {es : List (D kt × D vt)} {a : D kt} {mi : MI P X.G kt vt} {ok : Bool} {c : SV D} (ho : o.op = .lookup t x y ok) (ht : P.underlying t = some (.map kt vt)) (hu : P.underlying u = some (.map kt vt)) (hM : Mm X.G O z e m k vs)
    (hx : MpR (X.G.M u kt vt) z es (ev fr x) ∨ OwM (X.G.M u kt vt) z e m k es (ev fr x)) (hy : rel X.G z vs c (ev fr y)) (hk : mi.kget c = some a)
    (h : (AM.lt (@mpGet _ _ mi.dec es a) fun y => if ok = true then K (.tup [.inl (mi.vput (y.getD mi.z0)), .inl (.bool y.isSome)]) O else K (.c (mi.vput (y.getD mi.z0))) O) = some r) : StepX P (ev fr) o m fun _ v m' => Nxt X O z e k vs K r v m' := by
  letI hd := mi.dec
  obtain ⟨w, hw, h⟩ := lt_some h
  have hkv := mi.hkg z vs c a _ hk hy
  have hvp := mi.hvp z vs (w.getD mi.z0)
  cases ok with
  | true =>
    rw [if_pos rfl] at h
    have hrel : rel X.G z vs (.tup [.inl (mi.vput (w.getD mi.z0)), .inl (.bool w.isSome)]) (.tuple #[cellV (tyAgg P vt) (X.G.kc vt (w.getD mi.z0)), .bool w.isSome]) := ⟨[_, _], rfl, hvp, rfl, trivial⟩
    rcases hx with hx | hx
    · exact kLookR (M := X.G.M u kt vt) (a := a) (z0 := mi.z0) ho ht hu mi.K mi.V mi.hi mi.hz rfl hx hM.st rfl hkv hw (if_pos rfl) (Nxt.here hM hrel h)
    · exact kLookO (M := X.G.M u kt vt) (a := a) (z0 := mi.z0) ho ht hu mi.K mi.V mi.hi mi.hz rfl hx rfl hkv hw (if_pos rfl) (Nxt.here hM hrel h)
  | false =>
    rw [if_neg (by simp)] at h
    have hrel : rel X.G z vs (.c (mi.vput (w.getD mi.z0))) (cellV (tyAgg P vt) (X.G.kc vt (w.getD mi.z0))) := hvp
    rcases hx with hx | hx
    · exact kLookR (M := X.G.M u kt vt) (a := a) (z0 := mi.z0) ho ht hu mi.K mi.V mi.hi mi.hz rfl hx hM.st rfl hkv hw (if_neg (by simp)) (Nxt.here hM hrel h)
    · exact kLookO (M := X.G.M u kt vt) (a := a) (z0 := mi.z0) ho ht hu mi.K mi.V mi.hi mi.hz rfl hx rfl hkv hw (if_neg (by simp)) (Nxt.here hM hrel h)
theorem opUpd_ok {u kt vt i : Nat} {es : List (D kt × D vt)} {a : D kt} {b : D vt} {mi : MI P X.G kt vt} {c : SV D} {d : CV D} {w : Operand} (ho : o.op = .mapUpdate t x y w ∨ o.op = .insert t x y w) (ht : P.underlying t = some (.map kt vt)) (hu : P.underlying u = some (.map kt vt)) (hM : Mm X.G O z e m k vs)
    {w1 : Bool} (hO : O[i]? = some (.map u kt vt es false w1)) (hx : vs[i]? = some (ev fr x)) (hy : rel X.G z vs c (ev fr y)) (hw : rel0 X.G z vs d (ev fr w)) (hk : mi.kget c = some a) (hv : mi.vget d = some b)
    (h : (AM.lt (@mpSet _ _ mi.dec es a b) fun es' => K .undef (O.set i (.map u kt vt es' false true))) = some r) : StepX P (ev fr) o m fun _ v m' => Nxt X O z e k vs K r v m' := by
  letI hd := mi.dec
  obtain ⟨es', hes, h⟩ := lt_some h
  have hob : OwM (X.G.M u kt vt) z e m k es (ev fr x) := hM.obj i _ _ hO hx
  refine kMapSet (M := X.G.M u kt vt) (a := a) (b := b) ho ht hu mi.K mi.V rfl hob rfl (mi.hkg z vs c a _ hk hy) rfl (mi.hvg z vs d b _ hv hw) hM.st hes fun m' st' ow sm => ?_
  have hbv : blkV (ev fr x) = mapOf (ev fr x) := by obtain ⟨q, hq, _⟩ := hob.ow; rw [hq]; rfl
  exact turn_nxt hM h hO hx rfl rfl (by rw [hbv]; exact sm) st' ow
theorem capOf_ok {s : SV D} {g : Value} {c : Nat × List (CV D)} {O' : List (Ob D)} (hM : Mm X.G O z e m k vs) (hs : rel X.G z vs s g) (h : capOf O s = some (c, O')) : ∃ z', Inv O O' ∧ Zx e.next z z' ∧ Mm X.G O' z' e m k vs ∧ relP X.G z' vs c.2 0 g := by
  cases s with
  | rp t cs off =>
    simp only [capOf] at h
    split at h
    · rename_i h0; subst h0; cases h; exact ⟨z, Inv.refl _, Zx.refl z, hM, hs⟩
    · cases h
  | box i off =>
    simp only [capOf] at h
    obtain ⟨b, hv, hg⟩ := hs
    split at h
    · rename_i t cs fz w1 hO
      split at h
      · rename_i h0
        obtain ⟨h0, _⟩ := h0
        subst h0
        cases h
        have hob := hM.obj i _ _ hO hv
        rw [hg]
        cases fz with
        | true =>
          obtain ⟨b2, ds, he, hc, hr⟩ := hob
          cases he
          have : O.set i (.box t cs true w1) = O := by
            apply List.ext_getElem?
            intro j
            rw [List.getElem?_set]
            split
            · rename_i hij; subst hij; rw [hO, if_pos (List.getElem?_eq_some_iff.1 hO).1]
            · rfl
          rw [this]
          exact ⟨z, Inv.refl _, Zx.refl z, hM, b, 0, ds, rfl, hc, hr⟩
        | false =>
          obtain ⟨b2, ds, he, hbx, hfr, hr⟩ := hob
          cases he
          obtain ⟨z1, k1, k2, k3, k4⟩ := hbx.freeze hfr hM.st
          have hr1 := rels.mono hr k1.le fun _ _ h => h
          exact ⟨z1, Inv.set O i (.inl rfl), k1, hM.frz hO hv rfl rfl k1.le k2 k4 ⟨b, ds, rfl, k3, hr1⟩, b, 0, ds, rfl, k3, hr1⟩
      · cases h
    · cases h
  | _ => cases h
theorem capsOf_ok : ∀ {l : List (SV D)} {gs : List Value} {caps : List (Nat × List (CV D))} {O O' : List (Ob D)} {z : Nat → Blk}, Mm X.G O z e m k vs → L2 (rel X.G z vs) l gs → capsOf l O = some (caps, O') → ∃ z', Inv O O' ∧ Zx e.next z z' ∧ Mm X.G O' z' e m k vs ∧ L2 (fun c g => relP X.G z' vs c.2 0 g) caps gs
  | [], [], caps, O, O', z, hM, _, h => by cases h; exact ⟨z, Inv.refl _, Zx.refl z, hM, trivial⟩
  | s :: l, g :: gs, caps, O, O', z, hM, ⟨h1, h2⟩, h => by
    unfold capsOf at h
    split at h
    · rename_i c O1 hc
      split at h
      · rename_i r O2 hr
        cases h
        obtain ⟨z1, k0, k1, k2, k3⟩ := capOf_ok hM h1 hc
        obtain ⟨z2, g0, g1, g2, g3⟩ := capsOf_ok k2 (L2.mono (fun _ _ h => rel.mono h k1.le fun _ _ h => h) h2) hr
        exact ⟨z2, k0.trans g0, k1.trans g1, g2, relP.mono k3 g1.le fun _ _ h => h, g3⟩
      · cases h
    · cases h
  | [], _ :: _, _, _, _, _, _, h, _ => h.elim
  | _ :: _, [], _, _, _, _, _, h, _ => h.elim
theorem map_rel {xs : List Operand} (hE : ∀ x, rel X.G z vs (sop E x) (ev fr x)) : L2 (rel X.G z vs) (xs.map (sop E)) (xs.map (ev fr)) := by
  induction xs with
  | nil => trivial
  | cons x xs ih => exact ⟨hE x, ih⟩
theorem opFn_ok {f : FuncId} {first cap : Array Operand} {caps : List (Nat × List (CV D))} {O' : List (Ob D)} (ho : o.op = .makeFunc (.func f) first cap) (hf : first.toList = []) (hM : Mm X.G O z e m k vs) (hE : ∀ x, rel X.G z vs (sop E x) (ev fr x)) (hc : capsOf (cap.toList.map (sop E)) O = some (caps, O')) (h : K (.fn f caps) O' = some r) :
    StepX P (ev fr) o m fun _ v m' => Nxt X O z e k vs K r v m' := by
  obtain ⟨z1, g0, g1, g2, g3⟩ := capsOf_ok hM (map_rel hE) hc
  have hf' : first = #[] := by cases first; simp at hf; subst hf; rfl
  subst hf'
  have hst : (cap.map (ev fr)).toList.all storable = true := by
    rw [List.all_eq_true]
    intro v hv
    rw [Array.toList_map] at hv
    have : ∀ (cs : List (Nat × List (CV D))) (gs : List Value), L2 (fun c g => relP X.G z1 vs c.2 0 g) cs gs → ∀ v ∈ gs, storable v = true := by
      intro cs
      induction cs with
      | nil => intro gs hg v hv; cases gs with
        | nil => cases hv
        | cons _ _ => exact hg.elim
      | cons c cs ih => intro gs hg v hv; cases gs with
        | nil => cases hv
        | cons g gs =>
          rcases List.mem_cons.1 hv with rfl | hv
          · obtain ⟨b, o1, ds, he, _⟩ := hg.1; rw [he]; rfl
          · exact ih gs hg.2 v hv
    exact this _ _ g3 v hv
  refine StepX.pure (pFunc ho rfl hst) (Nxt.from g0 g1 (Nxt.here (sv := .fn f caps) g2 ⟨cap.toList.map (ev fr), ?_, g3⟩ h))
  congr 1
  apply Array.ext'
  simp
end
end Go.AM
end
section
set_option linter.unusedSimpArgs false
set_option linter.unusedVariables false
namespace Go.AM
section
variable {P : Program} {D : Nat → Type} {X : Ev P D} {ρ : Type} {z z' : Nat → Blk} {e m m' : Mem} {k : Option Nat} {vs : List Value} {fr : Nat → Value} {E : List (Nat × SV D)} {O : List (Ob D)} {o : Oper} {r : ρ}
variable {x y : Operand} {t u : TypeId} {K : SV D → List (Ob D) → Option ρ}
theorem opMkN_ok {l : Nat} {ps : Array (Nat × Operand)} (ho : o.op = .buildSlice t l ps) (hM : Mm X.G O z e m k vs) (hE : ∀ x, rel X.G z vs (sop E x) (ev fr x)) (h : opMkN X t l ps.toList E O K = some r) : StepX P (ev fr) o m fun _ v m' => Nxt X O z e k vs K r v m' := by
  unfold opMkN at h
  split at h
  · rename_i e1 ht
    split at h
    · rename_i t1 hu
      split at h
      · rename_i ni hN
        split at h
        · rename_i hps
          refine kBuild (T := TVal e1) ho ht ni.hi ni.hz rfl (by rw [ni.h1]; rfl) (by rw [ni.h1]; rfl) [] [] rfl rfl rfl (by rw [hps]; trivial) hM.st fun v' m' st' ow sm hap => ?_
          have hb : blkV v' = blkOf v' := blkV_of (by obtain ⟨a, c, rfl⟩ := ow.ow.len; intro r; simp)
          exact push_nxt (v := v') hM st' sm (by rw [hb]; exact hap) h ⟨fun f hf => by cases hf; exact ⟨ni.hsz, ni.tid, ni.hr⟩, _, ow, rfl, fun j w xs g1 g2 _ => by simp at g1, fun p hp => by cases hp⟩ (own_rel hM ow.ow.len)
        · rename_i y hps
          split at h
          · rename_i j hj
            split at h
            · rename_i t2 xs w hO
              split at h
              · rename_i h2
                have hy := hE y
                rw [hj] at hy
                obtain ⟨hv, hs, hc⟩ := hy
                refine kBuild (T := TVal e1) ho ht ni.hi ni.hz rfl (by rw [ni.h1]; rfl) (by rw [ni.h1]; rfl) [ev fr y] [[ev fr y]] rfl rfl rfl (by rw [hps]; exact ⟨rfl, hs, by rw [hc], ⟨rfl, hs, hc⟩, trivial⟩) hM.st fun v' m' st' ow sm hap => ?_
                have hb : blkV v' = blkOf v' := blkV_of (by obtain ⟨a, c, rfl⟩ := ow.ow.len; intro r; simp)
                refine push_nxt (v := v') hM st' sm (by rw [hb]; exact hap) h ⟨fun f hf => by cases hf; exact ⟨ni.hsz, ni.tid, ni.hr⟩, _, ow, rfl, fun j w xs g1 g2 g3 => ?_, fun p hp => ?_⟩ (own_rel hM ow.ow.len)
                · have := (List.getElem?_eq_some_iff.1 g1).1
                  simp at this
                  subst this
                  exact absurd rfl (g3 _ rfl)
                · cases hp
                  exact ⟨Int.le_refl _, _, ext_get _ _ hv, rfl⟩
              · cases h
            · cases h
          · cases h
        · cases h
      · cases h
    · cases h
  · cases h
theorem Mm.zlk (h : Mm X.G O z e m k vs) (hz : Zle z z') (st : St z' e m k) (hd : ∀ b, z b = .dead → z' b = .dead) (hk : ∀ (j : Nat) (q : Ob D) (w : Value), O[j]? = some q → vs[j]? = some w → q.live = true → Lke z z' (bkV w)) : Mm X.G O z' e m k vs where
  st := st
  len := h.len
  obj := fun j q w hj hw => (h.obj j q w hj hw).zle hz (fun hl b hb => by
    have := ((h.obj j q w hj hw).lt hl b hb).2.1
    rw [this, hd b this]) fun hl => hk j q w hj hw hl
  ap := h.ap
noncomputable def zre (z : Nat → Blk) (n0 na nb la n' : Nat) : Nat → Blk := fun b =>
  match z b with
  | .lock n j L t => if n0 ≤ b ∧ n ≠ 0 ∧ n = na then .lock n' j L t else if n0 ≤ b ∧ n ≠ 0 ∧ n = nb then .lock n' (la + j) L t else .lock n j L t
  | x => x
theorem zre_nl {n0 na nb la n' b : Nat} (h : ∀ n j L t, z b ≠ .lock n j L t) : zre z n0 na nb la n' b = z b := by
  unfold zre
  split
  · rename_i n j L t hz; exact absurd hz (h n j L t)
  · rfl
theorem zre_l {n0 na nb la n' b n j : Nat} {L : List Value} {t : TypeId} (h : z b = .lock n j L t) : zre z n0 na nb la n' b = if n0 ≤ b ∧ n ≠ 0 ∧ n = na then .lock n' j L t else if n0 ≤ b ∧ n ≠ 0 ∧ n = nb then .lock n' (la + j) L t else .lock n j L t := by
  unfold zre
  rw [h]
theorem bk_pos {α : Type} {T : Ty α} {xs : List α} {v : Value} (h : OwF T z e m k xs v) (hx : xs ≠ []) : bkV v ≠ 0 := by
  intro h0
  unfold bkV at h0
  rcases h.ow with ⟨rfl, hws⟩ | ⟨b', o', L', c', rfl, _⟩
  · exact hx hws
  · simp [blkOf] at h0
theorem kAppendZ {α : Type} {T : Ty α} {x0 : α} {Dg : Tag → Value → Mem → Prop} {ρ : Operand → Value} {i : TypeInfo} {kk k1 : IntKind} {n : Int} {v : Value} {xs : List α} (h : o.op = .call { callee := .builtin .append, args := #[x, y], argTypes := #[t, u] }) (ht : P.underlying t = some (.slice T.tid)) (hi : P.info? T.tid = some i) {zv : Value} (hzv : i.zero = some zv) (hzf : zv.cells.toList.all flat0 = true) (hzs : zv.cells.size = i.size)
    (hsz : i.size = T.sz) (hpos : (T.sz == 0) = false) (hby : Nat.ble i.bytes 32768 = true) (hu : P.underlying u = some (.int kk)) (hx : ρ x = v) (hs : OwF T z e m k xs v) (hy : ρ y = .int k1 n) (hrd : T.rd z x0 zv.cells.toList) (st : St z e m k) {ys r : List α} (hm : mkI x0 n = some ys) (hr : appI xs ys = some r)
    (hk : ∀ v' m', St z e m' k → OwF T z e m' k r v' → Same m m' (blkOf v) → (∀ p, (∀ b, p = some b → b < m.next) → Ap p (blkOf v) → Ap p (blkOf v')) → Dg .eff v' m') : StepX P ρ o m Dg := by
  obtain ⟨h0, h1, rfl⟩ := mkI_some hm
  obtain ⟨c, rfl⟩ := Int.eq_ofNat_of_zero_le h0
  have hp : 0 < T.sz := by rcases Nat.eq_zero_or_pos T.sz with h0 | h0; · rw [h0] at hpos; cases hpos
                           · exact h0
  rw [Int.toNat_natCast] at hr
  obtain ⟨v', m', h1, h2, h3, h4⟩ := eAppendZ (C := callR P 0) (k := k1) h ht hi hzv hzf hzs hsz hp (Nat.le_of_ble_eq_true hby) hu hx hs.ow hy hrd st.fz st.dead hr
  refine StepX.eff h1 (hk _ _ (st.same h3 hs.hq) ⟨h2, fun b hb => ?_⟩ h3 fun p hp ha b hb hb' => ?_)
  · rcases h4 b hb with h4 | h4
    · exact hs.fresh b h4
    · have := st.next; omega
  · rcases h4 b hb' with h4 | h4
    · exact ha b hb h4
    · have := hp b hb; omega
theorem opAppMk_ok {a b : SV D} (ho : o.op = .call { callee := .builtin .append, args := #[x, y], argTypes := #[t, u] }) (hu : isIntT (P.underlying u) = true) (hM : Mm X.G O z e m k vs) (ha : rel X.G z vs a (ev fr x)) (hb : rel X.G z vs b (ev fr y)) (h : opAppMk X t a b O K = some r) : StepX P (ev fr) o m fun _ v m' => Nxt X O z e k vs K r v m' := by
  have hui : ∃ kk, P.underlying u = some (.int kk) := by
    unfold isIntT at hu
    split at hu
    · rename_i kk hh; exact ⟨kk, hh⟩
    · cases hu
  obtain ⟨kk, hui⟩ := hui
  unfold opAppMk at h
  split at h
  · rename_i e1 k1 n ht
    split at h
    · rename_i ti hI
      split at h
      · rename_i hn
        obtain ⟨xs, hm, h⟩ := bind_some h
        have hr : appI ([] : List (D e1)) xs = some xs := by
          obtain ⟨h0, h1, rfl⟩ := mkI_some hm
          unfold appI
          rw [if_pos (by simp only [List.length_replicate, List.length_nil, LIM] at *; omega), List.nil_append]
        refine kAppendZ (T := X.G.T e1) (xs := []) ho (by rw [ti.tid]; exact ht) (by rw [ti.tid]; exact ti.hi) ti.hz ti.hzf ti.hzs ti.hsz ti.hpos ti.hby hui ha ⟨.inl ⟨rfl, rfl⟩, fun b hb => by cases hb⟩ hb (ti.rd0 z) hM.st hm hr fun v' m' st' ow sm hap => ?_
        have hbv : blkV v' = blkOf v' := blkV_of (by obtain ⟨a, c, rfl⟩ := ow.ow.len; intro r; simp)
        exact push_nxt (v := v') hM st' sm (by rw [hbv]; exact fun p hp => hap p hp (by intro b hb hb'; cases hb')) h ow (own_rel hM ow.ow.len)
      · cases h
    · cases h
  · rename_i te i k1 n ht
    split at h
    · rename_i O1 hf1
      split at h
      · rename_i e1 t1 up xa w1 hOi
        split at h
        · rename_i ni hN
          split at h
          · rename_i he
            subst he
            obtain ⟨ys, hm, h⟩ := bind_some h
            obtain ⟨q, hq, h⟩ := bind_some h
            obtain ⟨z1, i1, x1, M1⟩ := fillN_ok hM hf1
            obtain ⟨hm0, hm1, rfl⟩ := mkI_some hm
            have hlim := (appI_some hq).1
            have hqe := (appI_some hq).2
            subst hqe
            have hva := ha.1
            obtain ⟨up1, wa, na⟩ := M1.obj i _ _ hOi hva
            have hmw : mkI (Value.slice none 0 0) n = some (List.replicate n.toNat (Value.slice none 0 0)) := by
              unfold mkI; rw [if_pos ⟨hm0, hm1⟩]
            have hqw : appI wa (List.replicate n.toNat (Value.slice none 0 0)) = some (wa ++ List.replicate n.toNat (Value.slice none 0 0)) := by
              unfold appI
              rw [na.len, List.length_replicate, if_pos (by simpa using hlim)]
            refine kAppendZ (T := TVal e1) ho ht ni.hi ni.hz rfl (by rw [ni.h1]; rfl) (by rw [ni.h1]; rfl) rfl ni.hby hui rfl na.ow hb ⟨rfl, rfl, rfl⟩ M1.st hmw hqw fun v' m' st' ow sm hap => ?_
            have hba : blkV (ev fr x) = blkOf (ev fr x) := blkV_of (by obtain ⟨a, c, hh⟩ := na.ow.ow.len; rw [hh]; intro r; simp)
            have hbv : blkV v' = blkOf v' := blkV_of (by obtain ⟨a, c, rfl⟩ := ow.ow.len; intro r; simp)
            have M3 := M1.turn (o' := .dead) hOi hva rfl (by rw [hba]; exact sm) st' trivial
            have left : ∀ (l : Nat) (p : Ob D) (w : Value), (O1.set i (.dead : Ob D))[l]? = some p → vs[l]? = some w → p.live = true → O1[l]? = some p ∧ l ≠ i := by
              intro l p w hl hw hp
              rw [List.getElem?_set] at hl
              split at hl
              · split at hl
                · cases hl; cases hp
                · cases hl
              · rename_i h1
                exact ⟨hl, fun hh => h1 hh.symm⟩
            generalize hzq : zre z1 e.next (bkV (ev fr x)) 0 xa.length (bkV v') = z3
            have e1' : ∀ b, (∀ n j L t, z1 b ≠ .lock n j L t) → z3 b = z1 b := fun b hh => by rw [← hzq]; exact zre_nl hh
            have hle : Zle z1 z3 := fun b hf => e1' b fun n j L t hh => by rw [hh] at hf; exact hf
            have hdd : ∀ b, z1 b = .dead → z3 b = .dead := fun b hd => by rw [e1' b (fun n j L t hh => by rw [hd] at hh; cases hh), hd]
            have hzx : Zx e.next z1 z3 := ⟨hle, fun b hlt => by
              cases hz : z1 b with
              | lock n j L t => rw [← hzq, zre_l hz, if_neg (by omega), if_neg (by omega)]
              | _ => rw [e1' b (fun n j L t hh => by rw [hz] at hh; cases hh), hz]⟩
            have hst : St z3 e m' k := ⟨fun b hb => by
              cases hz : z1 b with
              | lock n j L t =>
                have h4 := st'.fz b (by rw [hz]; simp)
                rw [hz] at h4
                rw [← hzq, zre_l hz]
                split
                · exact h4
                · split
                  · exact h4
                  · exact h4
              | _ =>
                have h3 := e1' b (fun n j L t hh => by rw [hz] at hh; cases hh)
                rw [h3] at hb ⊢
                exact st'.fz b hb, st'.dead, st'.dead0, st'.next, st'.kept⟩
            have M5 := M3.zlk hle hst hdd fun l p w hl hw hp b j' L t' hlk => by
              obtain ⟨h1, h2⟩ := left l p w hl hw hp
              have ne : bkV w ≠ 0 → bkV w ≠ bkV (ev fr x) := by
                intro h8
                have hap := M1.ap l i _ _ _ _ h2 h1 hOi hp rfl hw hva
                by_cases hwm : ∃ r, w = .map r
                · obtain ⟨r, rfl⟩ := hwm
                  exact absurd bkV_map h8
                · rw [blkV_of (fun r hr => hwm ⟨r, hr⟩), hba] at hap
                  rcases bk_ne hap with hh | hh
                  · exact hh
                  · exact absurd hh h8
              rw [← hzq, zre_l hlk, hlk, if_neg fun hh => ne hh.2.1 hh.2.2, if_neg fun hh => hh.2.1 hh.2.2]
            have hnew : ObOk X.G z3 e m' k (vs ++ [v']) (.nest e1 t1 up (xa ++ List.replicate n.toNat []) none false : Ob D) v' := by
              refine ⟨up1, _, ow.zle hle (fun b hb => hdd b (ow.ow.lt b hb).2 ▸ ((ow.ow.lt b hb).2).symm), by rw [List.length_append, List.length_append, na.len, List.length_replicate, List.length_replicate], fun l w xs g1 g2 _ => ?_, fun p hp => by cases hp⟩
              by_cases hl : l < xa.length
              · rw [List.getElem?_append_left (by rw [na.len]; exact hl)] at g1
                rw [List.getElem?_append_left hl] at g2
                rcases na.inn l w xs g1 g2 (fun p hp => by cases hp) with hh | ⟨b, f0, L, c, q1, q2, q3, q4, q5, q6⟩
                · exact .inl hh
                · have h0 := bk_pos na.ow (fun hh => by rw [hh] at g1; simp at g1)
                  refine .inr ⟨b, f0, L, c, q1, by rw [← hzq, zre_l q2, if_pos ⟨q3, h0, rfl⟩], q3, q4, q5, fun i x hi => ?_⟩
                  obtain ⟨cs, r1, r2⟩ := q6 i x hi
                  exact ⟨cs, (X.G.T t1).mono _ _ hle _ _ r1, r2⟩
              · rw [List.getElem?_append_right (by rw [na.len]; omega)] at g1
                rw [List.getElem?_append_right (by omega)] at g2
                have h1 := List.mem_of_getElem? g1
                have h2 := List.mem_of_getElem? g2
                exact .inl ⟨List.eq_of_mem_replicate h1, List.eq_of_mem_replicate h2⟩
            have M6 := M5.pushAt hnew fun _ l p w hl hp hw => by
              obtain ⟨h1, h2⟩ := left l p w hl hw hp
              rw [hbv]
              refine hap _ (fun b hb => ((M1.obj l p w h1 hw).lt hp b hb).1) ?_
              have := M1.ap l i _ _ _ _ h2 h1 hOi hp rfl hw hva
              rwa [hba] at this
            have hl6 : (O1.set i (.dead : Ob D)).length = O1.length := by simp
            refine ⟨z3, vs ++ [v'], _, _, i1.trans ((Inv.set O1 i (.inl rfl)).trans (Inv.push _ _)), x1.trans hzx, ext_get, M6, ?_, h⟩
            have := own_rel M5 ow.ow.len
            rwa [hl6] at this
          · cases h
        · cases h
      · cases h
    · cases h
  · cases h
theorem opAppN_ok {i : Nat} {b : SV D} (ho : o.op = .call { callee := .builtin .append, args := #[x, y], argTypes := #[t, u] }) (hM : Mm X.G O z e m k vs) (ha : rel X.G z vs (.c (.own i)) (ev fr x)) (hb : rel X.G z vs b (ev fr y)) (h : opAppN X t u i b O K = some r) : StepX P (ev fr) o m fun _ v m' => Nxt X O z e k vs K r v m' := by
  unfold opAppN at h
  split at h
  · rename_i te ue ht hu
    split at h
    · rename_i j
      split at h
      · cases h
      · rename_i hij
        have hij : i ≠ j := fun hh => hij (by rw [hh]; simp)
        split at h
        · rename_i O1 hf1
          split at h
          · rename_i O2 hf2
            split at h
            · rename_i e1 t1 up xa w1 e2 t2 up2 xb w2 hOi hOj
              split at h
              · rename_i ni hN
                split at h
                · rename_i heq
                  subst heq
                  split at h
                  · rename_i he
                    obtain ⟨rfl, rfl⟩ := he
                    obtain ⟨q, hq, h⟩ := bind_some h
                    have hq : appI xa xb = some q := hq
                    obtain ⟨z1, i1, x1, M1⟩ := fillN_ok hM hf1
                    obtain ⟨z2, i2, x2, M2⟩ := fillN_ok M1 hf2
                    obtain ⟨hlim, rfl⟩ := appI_some hq
                    have hva := ha.1
                    have hvb := hb.1
                    obtain ⟨up1, wa, na⟩ := M2.obj i _ _ hOi hva
                    obtain ⟨_, wb, nb⟩ := M2.obj j _ _ hOj hvb
                    have hqw : appI wa wb = some (wa ++ wb) := by
                      unfold appI
                      rw [na.len, nb.len, if_pos hlim]
                    refine kAppend (T := TVal e2) ho ht ni.hi ni.hz rfl (by rw [ni.h1]; rfl) (by rw [ni.h1]; rfl) rfl ni.hby (.inl ⟨_, hu⟩) rfl na.ow rfl nb.ow.ow.src M2.st hqw fun v' m' st' ow sm hap => ?_
                    have hba : blkV (ev fr x) = blkOf (ev fr x) := blkV_of (by obtain ⟨a, c, hh⟩ := na.ow.ow.len; rw [hh]; intro r; simp)
                    have hbb : blkV (ev fr y) = blkOf (ev fr y) := blkV_of (by obtain ⟨a, c, hh⟩ := nb.ow.ow.len; rw [hh]; intro r; simp)
                    have hbv : blkV v' = blkOf v' := blkV_of (by obtain ⟨a, c, rfl⟩ := ow.ow.len; intro r; simp)
                    have hapab := M2.ap i j _ _ _ _ hij hOi hOj rfl rfl hva hvb
                    rw [hba, hbb] at hapab
                    -- both are given up
                    have M3 := M2.turn (o' := .dead) hOi hva rfl (by rw [hba]; exact sm) st' trivial
                    have hOj' : (O2.set i (.dead : Ob D))[j]? = some (.nest e2 t2 up2 xb none w2) := by rw [List.getElem?_set_ne hij]; exact hOj
                    have M4 := M3.turn (m' := m') (o' := .dead) hOj' hvb rfl ⟨Nat.le_refl _, st'.dead, fun _ _ _ => rfl⟩ st' trivial
                    -- what is left lies apart from them
                    have left : ∀ (l : Nat) (p : Ob D) (w : Value), ((O2.set i (.dead : Ob D)).set j .dead)[l]? = some p → vs[l]? = some w → p.live = true → O2[l]? = some p ∧ l ≠ i ∧ l ≠ j := by
                      intro l p w hl hw hp
                      rw [List.getElem?_set] at hl
                      split at hl
                      · split at hl
                        · cases hl; cases hp
                        · cases hl
                      · rename_i h1
                        rw [List.getElem?_set] at hl
                        split at hl
                        · split at hl
                          · cases hl; cases hp
                          · cases hl
                        · rename_i h2
                          exact ⟨hl, fun hh => h2 hh.symm, fun hh => h1 hh.symm⟩
                    generalize hzq : zre z2 e.next (bkV (ev fr x)) (bkV (ev fr y)) xa.length (bkV v') = z3
                    have e1 : ∀ b, (∀ n j L t, z2 b ≠ .lock n j L t) → z3 b = z2 b := fun b hh => by rw [← hzq]; exact zre_nl hh
                    have hle : Zle z2 z3 := fun b hf => e1 b fun n j L t hh => by rw [hh] at hf; exact hf
                    have hdd : ∀ b, z2 b = .dead → z3 b = .dead := fun b hd => by rw [e1 b (fun n j L t hh => by rw [hd] at hh; cases hh), hd]
                    have hzx : Zx e.next z2 z3 := ⟨hle, fun b hlt => by
                      cases hz : z2 b with
                      | lock n j L t => rw [← hzq, zre_l hz, if_neg (by omega), if_neg (by omega)]
                      | _ => rw [e1 b (fun n j L t hh => by rw [hz] at hh; cases hh), hz]⟩
                    have hst : St z3 e m' k := ⟨fun b hb => by
                      cases hz : z2 b with
                      | lock n j L t =>
                        have h4 := st'.fz b (by rw [hz]; simp)
                        rw [hz] at h4
                        rw [← hzq, zre_l hz]
                        split
                        · exact h4
                        · split
                          · exact h4
                          · exact h4
                      | _ =>
                        have h3 := e1 b (fun n j L t hh => by rw [hz] at hh; cases hh)
                        rw [h3] at hb ⊢
                        exact st'.fz b hb, st'.dead, st'.dead0, st'.next, st'.kept⟩
                    have M5 := M4.zlk hle hst hdd fun l p w hl hw hp b j' L t' hlk => by
                      obtain ⟨h1, h2, h3⟩ := left l p w hl hw hp
                      have ne : ∀ {w0 : Value} {l0 : Nat} {p0 : Ob D}, l ≠ l0 → O2[l0]? = some p0 → p0.live = true → vs[l0]? = some w0 → (∀ r, w0 ≠ .map r) → bkV w ≠ 0 → bkV w ≠ bkV w0 := by
                        intro w0 l0 p0 hne h4 h5 h6 h7 h8
                        have hap := M2.ap l l0 _ _ _ _ hne h1 h4 hp h5 hw h6
                        by_cases hwm : ∃ r, w = .map r
                        · obtain ⟨r, rfl⟩ := hwm
                          exact absurd bkV_map h8
                        · rw [blkV_of (fun r hr => hwm ⟨r, hr⟩), blkV_of h7] at hap
                          rcases bk_ne hap with hh | hh
                          · exact hh
                          · exact absurd hh h8
                      have m1 : ∀ r, ev fr x ≠ .map r := by obtain ⟨a, c, hh⟩ := na.ow.ow.len; rw [hh]; intro r; simp
                      have m2 : ∀ r, ev fr y ≠ .map r := by obtain ⟨a, c, hh⟩ := nb.ow.ow.len; rw [hh]; intro r; simp
                      rw [← hzq, zre_l hlk, hlk, if_neg fun hh => ne h2 hOi rfl hva m1 hh.2.1 hh.2.2, if_neg fun hh => ne h3 hOj rfl hvb m2 hh.2.1 hh.2.2]
                    -- the new one
                    have hnew : ObOk X.G z3 e m' k (vs ++ [v']) (.nest e2 t2 up (xa ++ xb) none false : Ob D) v' := by
                      refine ⟨up1, wa ++ wb, ow.zle hle (fun b hb => hdd b (ow.ow.lt b hb).2 ▸ ((ow.ow.lt b hb).2).symm), by rw [List.length_append, List.length_append, na.len, nb.len], fun l w xs g1 g2 _ => ?_, fun p hp => by cases hp⟩
                      by_cases hl : l < xa.length
                      · rw [List.getElem?_append_left (by rw [na.len]; exact hl)] at g1
                        rw [List.getElem?_append_left hl] at g2
                        rcases na.inn l w xs g1 g2 (fun p hp => by cases hp) with hh | ⟨b, f0, L, c, q1, q2, q3, q4, q5, q6⟩
                        · exact .inl hh
                        · have h0 := bk_pos na.ow (fun hh => by rw [hh] at g1; simp at g1)
                          refine .inr ⟨b, f0, L, c, q1, by rw [← hzq, zre_l q2, if_pos ⟨q3, h0, rfl⟩], q3, q4, q5, fun i x hi => ?_⟩
                          obtain ⟨cs, r1, r2⟩ := q6 i x hi
                          exact ⟨cs, (X.G.T t2).mono _ _ hle _ _ r1, r2⟩
                      · rw [List.getElem?_append_right (by rw [na.len]; omega), na.len] at g1
                        rw [List.getElem?_append_right (by omega)] at g2
                        rcases nb.inn (l - xa.length) w xs g1 g2 (fun p hp => by cases hp) with hh | ⟨b, f0, L, c, q1, q2, q3, q4, q5, q6⟩
                        · exact .inl hh
                        · have h0 := bk_pos nb.ow (fun hh => by rw [hh] at g1; simp at g1)
                          have hne : bkV (ev fr y) ≠ bkV (ev fr x) := by
                            rcases bk_ne hapab.symm with hh | hh
                            · exact hh
                            · exact absurd hh h0
                          refine .inr ⟨b, f0, L, c, q1, by rw [← hzq, zre_l q2, if_neg (fun hh => hne hh.2.2), if_pos ⟨q3, h0, rfl⟩, show xa.length + (l - xa.length) = l by omega], q3, q4, q5, fun i x hi => ?_⟩
                          obtain ⟨cs, r1, r2⟩ := q6 i x hi
                          exact ⟨cs, (X.G.T t2).mono _ _ hle _ _ r1, r2⟩
                    have M6 := M5.pushAt hnew fun _ l p w hl hp hw => by
                      obtain ⟨h1, h2, h3⟩ := left l p w hl hw hp
                      rw [hbv]
                      refine hap _ (fun b hb => ((M2.obj l p w h1 hw).lt hp b hb).1) ?_
                      have := M2.ap l i _ _ _ _ h2 h1 hOi hp rfl hw hva
                      rwa [hba] at this
                    have hl6 : ((O2.set i (.dead : Ob D)).set j .dead).length = O2.length := by simp
                    refine ⟨z3, vs ++ [v'], _, _, (i1.trans i2).trans ((Inv.set O2 i (.inl rfl)).trans ((Inv.set _ j (.inl rfl)).trans (Inv.push _ _))), (x1.trans x2).trans hzx, ext_get, M6, ?_, h⟩
                    have := own_rel M5 ow.ow.len
                    rwa [hl6] at this
                  · cases h
                · cases h
              · cases h
            · cases h
          · cases h
        · cases h
    · cases h
  · cases h
end
end Go.AM
end
section
set_option linter.unusedSimpArgs false
set_option linter.unusedVariables false
namespace Go.AM
section
variable {P : Program} {D : Nat → Type} {X : Ev P D} {ρ : Type} {z z' : Nat → Blk} {e m m' : Mem} {k : Option Nat} {vs : List Value} {fr : Nat → Value} {E : List (Nat × SV D)} {O : List (Ob D)} {o : Oper} {r : ρ}
variable {x y : Operand} {t u : TypeId} {K : SV D → List (Ob D) → Option ρ}
def Chg (m m' : Mem) (q : Option Nat) : Prop := m.next ≤ m'.next ∧ ∀ b, b < m.next → q ≠ some b → m'.blk b = m.blk b
def TgtQ (vs : List Value) (ts : List Nat) (q : Option Nat) : Prop := q = none ∨ ∃ i, i ∈ ts ∧ ∃ v, vs[i]? = some v ∧ q = blkV v
theorem StepX.mono {ρ : Operand → Value} {K K' : Tag → Value → Mem → Prop} (h : StepX P ρ o m K) (hk : ∀ t v m', K t v m' → K' t v m') : StepX P ρ o m K' := by
  rcases h with ⟨v, h, g⟩ | ⟨v, I, h, g⟩ | ⟨v, h, g⟩ | ⟨Y, v, h, g⟩ | ⟨n, v, m', h, g⟩
  · exact .inl ⟨v, h, hk _ _ _ g⟩
  · exact .inr (.inl ⟨v, I, h, hk _ _ _ g⟩)
  · exact .inr (.inr (.inl ⟨v, h, hk _ _ _ g⟩))
  · exact .inr (.inr (.inr (.inl ⟨Y, v, h, hk _ _ _ g⟩)))
  · exact .inr (.inr (.inr (.inr ⟨n, v, m', h, hk _ _ _ g⟩)))
def COk (X : Ev P D) : Prop := ∀ (f : Nat) (svs : List (SV D)) (O : List (Ob D)) {ρ : Type} (K : SV D → List (Ob D) → Option ρ) (r : ρ) {z : Nat → Blk} {e m : Mem} {k : Option Nat} {vs : List Value} (args : List Value),
  Mm X.G O z e m k vs → L2 (rel X.G z vs) svs args → X.C f svs O K = some r → CallW P f args.toArray m fun v m' => Nxt X O z e k vs K r v m' ∧ (X.F f svs O = true → m' = m) ∧ (X.W f = false → ∃ q, Chg m m' q ∧ TgtQ vs (boxesOf svs) q)
theorem L2.caps {caps : List (Nat × List (CV D))} {gs : List Value} (h : L2 (fun c g => relP X.G z vs c.2 0 g) caps gs) : L2 (rel X.G z vs) (caps.map fun p => SV.rp p.1 p.2 0) gs := by
  induction caps generalizing gs with
  | nil => cases gs with
    | nil => trivial
    | cons _ _ => exact h.elim
  | cons c caps ih => cases gs with
    | nil => exact h.elim
    | cons g gs => exact ⟨h.1, ih h.2⟩
theorem flat_cells {α : Type} {T : Ty α} {va : α → List Value} (hv : ∀ z x ds, T.rd z x ds → ds = va x) {L : List Value} : ∀ {xs : List α} {o : Nat}, (∀ (i : Nat) (x : α), xs[i]? = some x → ∃ cs, T.rd z x cs ∧ cellsIn L (o + i * T.sz) cs) → (∀ x ∈ xs, (va x).length = T.sz) →
    ∀ (i : Nat) (v : Value), (xs.flatMap va)[i]? = some v → L[o + i]? = some v
  | [], o, _, _, i, v, h => by simp at h
  | x :: xs, o, h, hl, i, v, hi => by
    obtain ⟨cs, h1, h2⟩ := h 0 x rfl
    have := hv _ _ _ h1
    subst this
    have hlx := hl x List.mem_cons_self
    rw [List.flatMap_cons, List.getElem?_append] at hi
    split at hi
    · have := h2 i v hi
      rwa [Nat.zero_mul, Nat.add_zero] at this
    · rename_i hge
      have := flat_cells hv (xs := xs) (o := o + T.sz) (L := L) (fun j y hj => by
        obtain ⟨cs, g1, g2⟩ := h (j + 1) y (by simpa using hj)
        exact ⟨cs, g1, by rw [Nat.add_mul, Nat.one_mul] at g2; rw [show o + T.sz + j * T.sz = o + (j * T.sz + T.sz) by omega]; exact g2⟩) (fun y hy => hl y (List.mem_cons_of_mem _ hy)) _ v hi
      rw [hlx] at this hge
      rw [show o + i = o + T.sz + (i - T.sz) by omega]
      exact this
theorem flat_at {α : Type} {va : α → List Value} {n : Nat} : ∀ {xs : List α}, (∀ x ∈ xs, (va x).length = n) → ∀ (i j : Nat) (x : α) (v : Value), xs[i]? = some x → (va x)[j]? = some v → (xs.flatMap va)[i * n + j]? = some v
  | [], _, i, j, x, v, h, _ => by simp at h
  | y :: xs, hl, 0, j, x, v, h, hj => by
    simp at h
    subst h
    rw [List.flatMap_cons, Nat.zero_mul, Nat.zero_add, List.getElem?_append_left (List.getElem?_eq_some_iff.1 hj).1]
    exact hj
  | y :: xs, hl, i + 1, j, x, v, h, hj => by
    have hy := hl y List.mem_cons_self
    rw [List.flatMap_cons, Nat.add_mul, Nat.one_mul, List.getElem?_append_right (by omega), show i * n + n + j - (va y).length = i * n + j by omega]
    exact flat_at (fun x hx => hl x (List.mem_cons_of_mem _ hx)) i j x v (by simpa using h) hj
theorem flat_len {α : Type} {va : α → List Value} {n : Nat} : ∀ {xs : List α}, (∀ x ∈ xs, (va x).length = n) → (xs.flatMap va).length = xs.length * n
  | [], _ => by simp
  | x :: xs, h => by
    rw [List.flatMap_cons, List.length_append, h x List.mem_cons_self, flat_len fun y hy => h y (List.mem_cons_of_mem _ hy), List.length_cons, Nat.add_mul]; omega
theorem sortG_ok {svs : List (SV D)} {n : Nat} (h : sgB (sortG svs) n = true) : ∃ s, svs = [s, .fn n []] := by
  unfold sortG at h
  split at h
  · rename_i s g
    obtain rfl := Nat.eq_of_beq_eq_true h
    exact ⟨s, rfl⟩
  · cases h
theorem findS_ok {f : Nat} {caps : List (Nat × List (CV D))} {svs : List (SV D)} {si : SI P X.G} : ∀ {l : List (SI P X.G)}, findS X l f caps svs = some si → si.f = f ∧ caps = [] ∧ ∃ s, svs = [s, .fn si.g []]
  | [], h => by cases h
  | s :: l, h => by
    unfold findS at h
    by_cases hc : (Nat.beq s.f f && (caps.isEmpty && sgB (sortG svs) s.g)) = true
    · rw [if_pos hc] at h
      cases h
      simp only [Bool.and_eq_true] at hc
      exact ⟨Nat.eq_of_beq_eq_true hc.1, by simpa using hc.2.1, sortG_ok hc.2.2⟩
    · rw [if_neg hc] at h
      exact findS_ok h
theorem opSort_ok {f : Nat} {svs : List (SV D)} {si : SI P X.G} {args : List Value} {caps : List (Nat × List (CV D))} (hf : findS X X.S f caps svs = some si) (hM : Mm X.G O z e m k vs) (hL : L2 (rel X.G z vs) svs args) (h : opSort X si svs O K = some r) :
    CallW P f args.toArray m fun v m' => Nxt X O z e k vs K r v m' ∧ ∃ q, Chg m m' q ∧ TgtQ vs (ownsOf svs) q := by
  obtain ⟨rfl, _, s, rfl⟩ := findS_ok hf
  match args, hL with
  | [a1, a2], ⟨h1, ⟨gs, h2, h3⟩, _⟩ =>
    have hgs : gs = [] := by cases gs with
      | nil => rfl
      | cons _ _ => exact h3.elim
    subst hgs
    subst h2
    unfold opSort at h
    split at h
    · rename_i s' l hs
      cases hs
      have h1 : a1 = .slice none 0 0 := h1
      subst h1
      exact CallW.sort si.ok (.none none 0 si.g si.h0 rfl) ⟨Nxt.here (sv := .tup []) hM ⟨[], rfl, trivial⟩ h, none, ⟨Nat.le_refl _, fun _ _ _ => rfl⟩, .inl rfl⟩
    · rename_i i l hs
      cases hs
      split at h
      · rename_i t xs w ho
        split at h
        · rename_i he
          subst he
          obtain ⟨ys, hy, h⟩ := bind_some h
          have hob : OwF (X.G.T si.e) z e m k xs a1 := hM.obj i _ a1 ho h1.1
          have hvl : ∀ x ∈ xs, (si.va x).length = (X.G.T si.e).sz := fun x _ => (X.G.T si.e).len z x _ (si.hr z x)
          have hvl2 : ∀ x ∈ ys, (si.va x).length = (X.G.T si.e).sz := fun x _ => (X.G.T si.e).len z x _ (si.hr z x)
          have hn := si.hn xs ys hy
          have hfl : ∀ l : List (D si.e), (l.flatMap si.va).all flat0 = true := fun l => by
            rw [List.all_eq_true]
            intro v hv
            obtain ⟨x, _, hx⟩ := List.mem_flatMap.1 hv
            exact List.all_eq_true.1 (si.hf x) v hx
          rcases hob.ow with ⟨rfl, rfl⟩ | ⟨b, f0, L, c, rfl, g1, g2, g3, g4, g5, g6⟩
          · have hy0 : ys = [] := List.eq_nil_of_length_eq_zero (by rw [hn]; rfl)
            subst hy0
            refine CallW.sort si.ok (.none none 0 si.g si.h0 rfl) ⟨⟨z, vs, .tup [], _, Inv.set O i (.inr rfl), Zx.refl z, fun _ _ h => h, ?_, ⟨[], rfl, trivial⟩, h⟩, none, ⟨Nat.le_refl _, fun _ _ _ => rfl⟩, .inl rfl⟩
            exact hM.turn (m' := m) ho h1.1 rfl ⟨Nat.le_refl _, hM.st.dead, fun _ _ _ => rfl⟩ hM.st hob
          · by_cases hl0 : xs.length = 0
            · have hx0 : xs = [] := List.eq_nil_of_length_eq_zero hl0
              subst hx0
              have hy0 : ys = [] := List.eq_nil_of_length_eq_zero (by rw [hn]; rfl)
              subst hy0
              refine CallW.sort si.ok (.none _ c si.g si.h0 rfl) ⟨⟨z, vs, .tup [], _, Inv.set O i (.inr rfl), Zx.refl z, fun _ _ h => h, ?_, ⟨[], rfl, trivial⟩, h⟩, none, ⟨Nat.le_refl _, fun _ _ _ => rfl⟩, .inl rfl⟩
              exact hM.turn (m' := m) ho h1.1 rfl ⟨Nat.le_refl _, hM.st.dead, fun _ _ _ => rfl⟩ hM.st hob
            · have hlF := flat_len hvl
              have hlF' := flat_len hvl2
              have hlen : (setN L f0 (ys.flatMap si.va)).length = L.length := setN_length _ _ _
              have hq := hob.hq b rfl
              have hsame : Same m (m.put b (.own (setN L f0 (ys.flatMap si.va)) (X.G.T si.e).tid)) (some b) := by
                refine ⟨Nat.le_refl _, fun c hc => ?_, fun c hc hk => ?_⟩
                · have hc : m.next ≤ c := hc
                  simp only [Mem.put]
                  rw [if_neg (by omega)]
                  exact hM.st.dead c hc
                · simp only [Mem.put]
                  rw [if_neg (fun hcb => hk (by rw [hcb]))]
              refine CallW.sort si.ok (.row b f0 xs.length c si.g L (X.G.T si.e).tid (xs.flatMap si.va) (ys.flatMap si.va) (si.hs xs ys hy (by omega)) rfl (by omega) g1 ?_ (by rw [hlF]; exact g4) (by rw [hlF, hlF', hn]) (hfl _) (hfl _)) ⟨⟨z, vs, .tup [], _, Inv.set O i (.inr rfl), Zx.refl z, fun _ _ h => h, ?_, ⟨[], rfl, trivial⟩, h⟩, some b, ⟨Nat.le_refl _, hsame.blk⟩, .inr ⟨i, by simp [ownsOf], _, h1.1, rfl⟩⟩
              · refine List.ext_getElem? fun j => ?_
                rw [List.getElem?_take]
                split
                · rename_i hj
                  rw [List.getElem?_drop]
                  have hv := List.getElem?_eq_getElem hj
                  rw [hv]
                  exact flat_cells si.hv (fun i x hx => g6 i x hx) hvl j _ hv
                · rename_i hj
                  rw [List.getElem?_eq_none (by omega)]
              · refine hM.turn ho h1.1 rfl hsame (hM.st.put _ g3 g2 hq.2) ⟨.inr ⟨b, f0, setN L f0 (ys.flatMap si.va), c, by rw [hn], by simp [Mem.put], g2, g3, by rw [hn, hlen]; exact g4, by rw [hn, hlen]; exact g5, fun i x hx => ?_⟩, hob.fresh⟩
                refine ⟨si.va x, si.hr z x, fun j v hj => ?_⟩
                have hk := flat_at hvl2 i j x v hx hj
                rw [setN_get _ _ _ _ (by rw [hlF', hn]; exact g4)]
                have hlt := (List.getElem?_eq_some_iff.1 hk).1
                rw [if_pos (by omega), show f0 + i * (X.G.T si.e).sz + j - f0 = i * (X.G.T si.e).sz + j by omega]
                exact hk
        · cases h
      · cases h
    · cases h
  | [], h => exact h.elim
  | [_], ⟨_, h⟩ => exact h.elim
  | _ :: _ :: _ :: _, ⟨_, _, h⟩ => exact h.elim
theorem opCall_ok (hC : COk X) {c : Call} (ho : o.op = .call c) (hM : Mm X.G O z e m k vs) (hE : ∀ x, rel X.G z vs (sop E x) (ev fr x)) (h : opCall X c E O K = some r) : StepX P (ev fr) o m fun _ v m' => Nxt X O z e k vs K r v m' := by
  obtain ⟨ce, as, ts⟩ := c
  cases ce with
  | invoke r m => cases h
  | value f =>
    simp only [opCall] at h
    split at h
    · rename_i f' caps hf
      have hfr := hE f
      rw [hf] at hfr
      obtain ⟨gs, hfv, hg⟩ := hfr
      split at h
      · rename_i si hsi
        have hcaps : caps = [] := (findS_ok hsi).2.1
        subst hcaps
        have hgs : gs = [] := by cases gs with
          | nil => rfl
          | cons _ _ => exact hg.elim
        subst hgs
        refine StepX.call (gCalleeV (args := (as.toList.map (ev fr)).toArray) (caps := #[]) ho hfv (by apply Array.ext'; simp) rfl) ?_
        have := (opSort_ok hsi hM (map_rel hE) h).mono fun _ _ h => h.1
        simpa using this
      refine StepX.call (gCalleeV (args := (as.toList.map (ev fr)).toArray) (caps := gs.toArray) ho hfv (by apply Array.ext'; simp) rfl) ?_
      have := (hC f' _ O K r (as.toList.map (ev fr) ++ gs) hM ((map_rel hE).append hg.caps) h).mono fun _ _ h => h.1
      simpa using this
    · cases h
  | builtin b =>
    cases b with
    | len =>
      simp only [opCall] at h
      split at h
      · rename_i x t ha ht
        have ha' : as = #[x] := by cases as; simp at ha; subst ha; rfl
        have ht' : ts = #[t] := by cases ts; simp at ht; subst ht; rfl
        subst ha' ht'
        exact opLen_ok (ts := #[t]) ho hM (hE x) h
      · cases h
    | append =>
      simp only [opCall] at h
      split at h
      · rename_i x y t u ha ht
        have ha' : as = #[x, y] := by cases as; simp at ha; subst ha; rfl
        have ht' : ts = #[t, u] := by cases ts; simp at ht; subst ht; rfl
        subst ha' ht'
        split at h
        · rename_i hu
          exact opAppMk_ok ho hu hM (hE x) (hE y) h
        have hx := hE x
        split at h
        · rename_i i hi
          rw [hi] at hx
          split at h
          · exact opAppN_ok ho hM hx (hE y) h
          · rw [hi] at h
            exact opApp_ok ho hM hx (hE y) h
        · exact opApp_ok ho hM hx (hE y) h
      · cases h
    | cap =>
      simp only [opCall] at h
      split at h
      · rename_i x t ha ht
        have ha' : as = #[x] := by cases as; simp at ha; subst ha; rfl
        have ht' : ts = #[t] := by cases ts; simp at ht; subst ht; rfl
        subst ha' ht'
        split at h
        · rename_i te hx hu
          have hv := hE x
          rw [hx] at hv
          exact StepX.pure (.capNil x t te ho hu hv) (Nxt.here (sv := .c (.int .i64 0)) hM rfl h)
        · cases h
      · cases h
    | max =>
      simp only [opCall] at h
      split at h
      · rename_i x y ha
        have ha' : as = #[x, y] := by cases as; simp at ha; subst ha; rfl
        subst ha'
        have hx := hE x
        have hy := hE y
        split at h
        · rename_i k1 a k2 b h1 h2
          rw [h1] at hx
          rw [h2] at hy
          split at h
          · rename_i hk
            subst hk
            exact pt_here hM h (pMax2 ho hx hy) rfl
          · cases h
        · cases h
      · cases h
    | min =>
      simp only [opCall] at h
      split at h
      · rename_i x y ha
        have ha' : as = #[x, y] := by cases as; simp at ha; subst ha; rfl
        subst ha'
        have hx := hE x
        have hy := hE y
        split at h
        · rename_i k1 a k2 b h1 h2
          rw [h1] at hx
          rw [h2] at hy
          split at h
          · rename_i hk
            subst hk
            exact pt_here hM h (pMin2 ho hx hy) rfl
          · cases h
        · cases h
      · cases h
    | _ => cases h
theorem lookM_ok {s : SV D} {v : Value} {p : LM D} (hM : Mm X.G O z e m k vs) (h : lookM O s = some p) (hv : rel X.G z vs s v) : MpR (X.G.M p.u p.kt p.vt) z p.es v ∨ OwM (X.G.M p.u p.kt p.vt) z e m k p.es v := by
  unfold lookM at h
  split at h
  · cases h; exact .inl hv
  · split at h
    · rename_i u kt vt es fz w1 ho
      cases h
      have hob := hM.obj _ _ v ho hv.1
      cases fz with
      | true => exact .inl hob
      | false => exact .inr hob
    · cases h
  · cases h
theorem op1_ok (hC : COk X) {op : Op} (ho : o.op = op) (hM : Mm X.G O z e m k vs) (hE : ∀ x, rel X.G z vs (sop E x) (ev fr x)) (h : op1 X op E O K = some r) : StepX P (ev fr) o m fun _ v m' => Nxt X O z e k vs K r v m' := by
  cases op with
  | move x => exact pt_here hM h (pMove ho rfl) (hE x)
  | assign x => exact pt_here hM h (pAssign ho rfl) (hE x)
  | nilCheck x =>
    have hx := hE x
    simp only [op1] at h
    split at h
    · rename_i i off hs
      have hx' := hx
      rw [hs] at hx'
      obtain ⟨b, _, hv⟩ := hx'
      exact pt_here hM h (by rw [hv]; exact .nilCheck x _ ho hv) hx
    · rename_i i hs
      have hx' := hx
      rw [hs] at hx'
      obtain ⟨b, l, _, hv⟩ := hx'
      exact pt_here hM h (by rw [hv]; exact .nilCheck x _ ho hv) hx
    · rename_i i e1 ix off hs
      have hx' := hx
      rw [hs] at hx'
      obtain ⟨b, f0, l, c, _, hv⟩ := hx'
      exact pt_here hM h (by rw [hv]; exact .nilCheck x _ ho hv) hx
    · rename_i t cs off hs
      have hx' := hx
      rw [hs] at hx'
      obtain ⟨b, o1, ds, hv, _⟩ := hx'
      exact pt_here hM h (by rw [hv]; exact .nilCheck x _ ho hv) hx
    · cases h
  | extract x i =>
    have hx := hE x
    simp only [op1] at h
    split at h
    · rename_i l hs
      rw [hs] at hx
      obtain ⟨ds, hv, hl⟩ := hx
      split at h
      · rename_i c hc
        obtain ⟨w, hw, hr⟩ := hl.get i _ hc
        exact pt_here hM h (pExtract ho hv hw) hr
      · rename_i p hc
        obtain ⟨w, hw, hr⟩ := hl.get i _ hc
        exact pt_here hM h (pExtract ho hv hw) hr
      · cases h
    · cases h
  | pick c a b =>
    have hc := hE c
    simp only [op1] at h
    split at h
    · rename_i hs
      rw [hs] at hc
      exact pt_here hM h (pPick (t := true) ho hc (if_pos rfl)) (hE a)
    · rename_i hs
      rw [hs] at hc
      exact pt_here hM h (pPick (t := false) ho hc (if_neg (by simp))) (hE b)
    · cases h
  | binOp op t x y u =>
    simp only [op1] at h
    have hx := hE x
    have hy := hE y
    split at h
    · rename_i t1 c1 t2 c2 h1 h2
      rw [h1] at hx
      rw [h2] at hy
      obtain ⟨c, v, hK, hp, hr⟩ := eqA_ok ho hx hy h
      exact pt_here hM hK hp hr
    · obtain ⟨c, v, hK, hp, hr⟩ := binX_ok ho hM hx hy h
      exact pt_here hM hK hp hr
  | unOp op t x =>
    have hx := hE x
    cases op with
    | not =>
      simp only [op1] at h
      split at h
      · rename_i b hs
        rw [hs] at hx
        exact pt_here hM h (pNot ho hx) rfl
      · cases h
    | neg =>
      simp only [op1] at h
      split at h
      · rename_i kk a hs
        rw [hs] at hx
        exact pt_here hM h (pNeg ho hx) rfl
      · cases h
    | _ => simp [op1] at h
  | convert s t x => exact opConv_ok ho hM (hE x) h
  | indexAddr t x y => exact opIdx_ok ho hM (hE x) (hE y) h
  | fieldAddr t x n => exact opFld_ok ho hM (hE x) h
  | load t x =>
    simp only [op1] at h
    split at h
    · unfold opLoadF at h
      refine (opLoad_ok ho hM (hE x) h).mono fun _ v m' hn => ?_
      obtain ⟨z1, vs1, sv, O1, h0, h1, h2, h3, h4, h5⟩ := hn
      dsimp only at h5
      split at h5
      · rename_i j
        split at h5
        · rename_i c O2 hf
          obtain ⟨z2, a1, a2, a3, a4⟩ := frzO_ok h3 hf h4.1
          exact ⟨z2, vs1, .c c, O2, h0.trans a1, h1.trans a2, h2, a3, a4, h5⟩
        · cases h5
      · cases h5
    · exact opLoad_ok ho hM (hE x) h
  | store t x y => exact opStore_ok ho hM (hE x) (hE y) h
  | alloc t => exact opAlloc_ok ho hM h
  | box t x =>
    simp only [op1] at h
    split at h
    · rename_i i cs hi hc
      split at h
      · rename_i hl
        exact opBox_ok ho hM (hE x) hi hc hl h
      · cases h
    · cases h
  | makeSlice t x y =>
    have hx := hE x
    simp only [op1] at h
    split at h
    · rename_i tt kk n ht hs
      rw [hs] at hx
      split at h
      · exact opMakeN_ok ho ht hM hx h
      · split at h
        · rename_i ti hI hxy
          exact opMake_ok ho ht hM hx hxy h
        · cases h
    · cases h
  | buildSlice t l ps =>
    simp only [op1] at h
    split at h
    · exact opMkN_ok ho hM hE h
    · split at h
      · rename_i tt ht
        split at h
        · rename_i ti hI
          exact opBuild_ok ho ht hM hE h
        · cases h
      · cases h
  | build t ps =>
    simp only [op1] at h
    split at h
    · rename_i fs ti ht hI
      split at h
      · rename_i hp
        split at h
        · rename_i cs hc
          exact opStruct_ok ho ht hM hE hp hc h
        · cases h
      · cases h
    · cases h
  | slice t x lo hi mx =>
    cases mx with
    | none => exact opCut'_ok ho hM hE (hE x) h
    | some mx =>
      cases lo with
      | some _ => simp [op1] at h
      | none =>
        cases hi with
        | none => simp [op1] at h
        | some y => exact opCut3_ok ho hM hE h
  | index t x y =>
    have hx := hE x
    have hy := hE y
    simp only [op1] at h
    split at h
    · rename_i s kk n ht h1 h2
      rw [h1] at hx
      rw [h2] at hy
      obtain ⟨c, hc, h⟩ := bind_some h
      exact kIndexS ho ht hx hy hc (Nxt.here (sv := .c (.int .u8 (UInt8.toNat c : Int))) hM rfl h)
    · cases h
  | makeFunc fn first cap =>
    cases fn with
    | func f =>
      simp only [op1] at h
      split at h
      · rename_i caps O1 hf hc
        exact opFn_ok ho hf hM hE hc h
      · cases h
    | _ => simp [op1] at h
  | makeMap t rs =>
    cases rs with
    | none =>
      simp only [op1] at h
      split at h
      · rename_i kt vt ht
        exact opMap_ok ho ht hM h
      · cases h
    | some _ => simp [op1] at h
  | lookup t x y ok =>
    have hx := hE x
    have hy := hE y
    simp only [op1] at h
    split at h
    · rename_i u kt vt es hl
      have hm := lookM_ok hM hl hx
      split at h
      · rename_i k1 v1 k2 v2 ht hu
        split at h
        · rename_i heq
          obtain ⟨rfl, rfl, rfl, rfl⟩ := heq
          split at h
          · rename_i mi hJ
            split at h
            · rename_i a ha
              exact opLook_ok ho ht hu hM hm hy ha h
            · cases h
          · cases h
        · cases h
      · cases h
    · cases h
  | mapUpdate t x y w =>
    have hx := hE x
    have hy := hE y
    have hw := hE w
    simp only [op1] at h
    split at h
    · rename_i i d h1 h3
      rw [h1] at hx
      rw [h3] at hw
      split at h
      · rename_i u kt vt es w1 hO
        split at h
        · rename_i k1 v1 k2 v2 ht hu
          split at h
          · rename_i heq
            obtain ⟨rfl, rfl, rfl, rfl⟩ := heq
            split at h
            · rename_i mi hJ
              split at h
              · rename_i a b ha hb
                exact opUpd_ok (.inl ho) ht hu hM hO hx.1 hy hw ha hb h
              · cases h
            · cases h
          · cases h
        · cases h
      · cases h
    · cases h
  | insert t x y w =>
    have hx := hE x
    have hy := hE y
    have hw := hE w
    simp only [op1] at h
    split at h
    · rename_i i d h1 h3
      rw [h1] at hx
      rw [h3] at hw
      split at h
      · rename_i u kt vt es w1 hO
        split at h
        · rename_i k1 v1 k2 v2 ht hu
          split at h
          · rename_i heq
            obtain ⟨rfl, rfl, rfl, rfl⟩ := heq
            split at h
            · rename_i mi hJ
              split at h
              · rename_i a b ha hb
                exact opUpd_ok (.inr ho) ht hu hM hO hx.1 hy hw ha hb h
              · cases h
            · cases h
          · cases h
        · cases h
      · cases h
    · cases h
  | call c => exact opCall_ok hC ho hM hE h
  | _ => simp [op1] at h
end
end Go.AM
end
section
set_option linter.unusedSimpArgs false
set_option linter.unusedVariables false
namespace Go.AM
section
variable {P : Program} {D : Nat → Type} {X : Ev P D} {ρ : Type} {z z' : Nat → Blk} {e m m' : Mem} {k : Option Nat} {vs vs' : List Value} {fr : Nat → Value} {E : List (Nat × SV D)} {O O' : List (Ob D)} {o : Oper} {r : ρ}
theorem ite_some {α : Type} {p : Prop} [Decidable p] {a : Option α} {x : α} (h : (if p then a else none) = some x) : p ∧ a = some x := by
  split at h
  · exact ⟨‹_›, h⟩
  · cases h
theorem Chg.refl (m : Mem) : Chg m m none := ⟨Nat.le_refl _, fun _ _ _ => rfl⟩
theorem Chg.push (m : Mem) (Y : Blk) : Chg m (m.push Y) none := ⟨Nat.le_succ _, fun b hb _ => if_neg (by omega)⟩
theorem Chg.put (m : Mem) (c : Nat) (Y : Blk) : Chg m (m.put c Y) (some c) := ⟨Nat.le_refl _, fun b hb hn => if_neg (fun h => hn (by rw [h]))⟩
theorem Chg.any (h : Chg m m' none) (q : Option Nat) : Chg m m' q := ⟨h.1, fun b hb _ => h.2 b hb (by simp)⟩
theorem StepX.monoE {ρ : Operand → Value} {K K' : Tag → Value → Mem → Prop} (h : StepX P ρ o m K)
    (h1 : ∀ v, PureR P ρ o v → (∃ t, K t v m) → K' .pure v m) (h2 : ∀ v, ReadR P ρ o m v → K (.read fun m => ReadR P ρ o m v) v m → K' (.read fun m => ReadR P ρ o m v) v m)
    (h3 : ∀ Y v, NewR P ρ o m.next Y v → K .new v (m.push Y) → K' .new v (m.push Y)) (h4 : ∀ n v m', EffR P (callR P n) ρ o m v m' → K .eff v m' → K' .eff v m') : StepX P ρ o m K' := by
  rcases h with ⟨v, h, g⟩ | ⟨v, I, h, g⟩ | ⟨v, h, g⟩ | ⟨Y, v, h, g⟩ | ⟨n, v, m', h, g⟩
  · exact .inl ⟨v, h, h1 v h ⟨_, g⟩⟩
  · exact .inl ⟨v, h, h1 v h ⟨_, g⟩⟩
  · exact .inr (.inr (.inl ⟨v, h, h2 v h g⟩))
  · exact .inr (.inr (.inr (.inl ⟨Y, v, h, h3 Y v h g⟩)))
  · exact .inr (.inr (.inr (.inr ⟨n, v, m', h, h4 n v m' h g⟩)))
theorem eff_chg {C : FuncId → Array Value → Mem → Value → Mem → Prop} {v : Value} (hE : ∀ x, rel X.G z vs (sop E x) (ev fr x)) (h : EffR P C (ev fr) o m v m') {ts : List Nat} (ht : tgtOf X E o.op = some ts)
    (hv : ∀ x as tys, o.op ≠ .call { callee := .value x, args := as, argTypes := tys }) : ∃ q, Chg m m' q ∧ TgtQ vs ts q := by
  cases h with
  | store t x y b off i L e h hx hi hm hv hs hl =>
    simp only [tgtOf, h] at ht
    have hr := hE x
    split at ht
    · rename_i j p hs
      cases ht
      rw [hs] at hr
      obtain ⟨b', g1, g2⟩ := hr
      rw [hx] at g2; cases g2
      exact ⟨_, Chg.put m b _, .inr ⟨j, by simp, _, g1, rfl⟩⟩
    · rename_i j u ix p hs
      cases ht
      rw [hs] at hr
      obtain ⟨b', f0, l, c, g1, g2⟩ := hr
      rw [hx] at g2; cases g2
      exact ⟨_, Chg.put m b _, .inr ⟨j, by simp, _, g1, rfl⟩⟩
    · cases ht
  | call f args v m' h hC =>
    obtain ⟨x, as, tys, first, cap, h, _⟩ := h
    exact absurd h (hv x as tys)
  | appendNone x y t u e i a l c h _ _ _ _ _ _ => exact ⟨none, Chg.refl _, .inl rfl⟩
  | appendNew x y t u e i z a l c n old new h _ _ _ _ _ _ _ _ _ _ _ _ _ _ => exact ⟨none, Chg.push _ _, .inl rfl⟩
  | appendIn x y t u e i b off l c n L new h _ _ hx _ hcl hmL _ hnl _ =>
    simp only [tgtOf, h] at ht
    have hr := hE x
    split at ht
    · rename_i hs
      rw [hs] at hr
      have hr : ev fr x = .slice none 0 0 := hr
      rw [hx] at hr; cases hr
    · rename_i j hs
      cases ht
      rw [hs] at hr
      exact ⟨_, Chg.put m b _, .inr ⟨j, by simp, _, hr.1, by rw [hx]; rfl⟩⟩
    · rename_i j _ _ _ hs
      cases ht
      rw [hs] at hr
      obtain ⟨w, g1, g2⟩ := hr
      exact ⟨_, Chg.put m b _, .inr ⟨j, by simp, _, g1.1, by rw [← g2.blk, hx]; rfl⟩⟩
    · rename_i hs
      cases ht
      rw [hs] at hr
      obtain ⟨_, _, a, ha⟩ := hr
      rw [hx] at ha
      cases ha
      have h0 : n = 0 := by omega
      have hnil : new = [] := List.eq_nil_of_length_eq_zero (by rw [hnl, h0, Nat.zero_mul])
      subst hnil
      refine ⟨none, ⟨Nat.le_refl _, fun c _ _ => ?_⟩, .inl rfl⟩
      simp only [Mem.put, setN]
      split
      · rename_i hcb; rw [hcb, hmL]
      · rfl
    · cases ht
  | append x y t u e i z b off l n L new h _ _ _ _ _ _ hx _ _ _ _ _ _ =>
    simp only [tgtOf, h] at ht
    have hr := hE x
    have hc : Chg m ((m.put b .dead).push (.own ((L.drop off).take (l * i.size) ++ new) e)) (some b) := by
      have := Chg.put m b .dead
      exact ⟨Nat.le_succ _, fun c hc hn => by rw [show ((m.put b .dead).push _).blk c = (m.put b .dead).blk c from if_neg (by show c ≠ m.next; omega)]; exact this.2 c hc hn⟩
    split at ht
    · rename_i hs
      rw [hs] at hr
      have hr : ev fr x = .slice none 0 0 := hr
      rw [hx] at hr; cases hr
    · rename_i j hs
      cases ht
      rw [hs] at hr
      exact ⟨_, hc, .inr ⟨j, by simp, _, hr.1, by rw [hx]; rfl⟩⟩
    · rename_i j _ _ _ hs
      cases ht
      rw [hs] at hr
      obtain ⟨w, g1, g2⟩ := hr
      exact ⟨_, hc, .inr ⟨j, by simp, _, g1.1, by rw [← g2.blk, hx]; rfl⟩⟩
    · rename_i hs
      cases ht
      rw [hs] at hr
      obtain ⟨_, hB, a, ha⟩ := hr
      rw [hx] at ha
      injection ha with _ h1 h2
      rw [← h2] at hB
      exact absurd hB (Nat.lt_irrefl _)
    · cases ht
  | copy x y t u e i b off l c L cs h _ _ _ _ _ _ _ => simp [tgtOf, h] at ht
  | mapUpdate xt x kx vx u kt vt b L kc vc F F' good h _ _ hx _ _ _ _ _ _ _ _ _ _ _ _ _ _ _ =>
    have hr := hE x
    have ht : (match sop E x with | .c (.own j) => some [j] | _ => none) = some ts := by rcases h with h | h <;> (rw [h] at ht; exact ht)
    split at ht
    · rename_i j hs
      cases ht
      rw [hs] at hr
      exact ⟨_, Chg.put m b _, .inr ⟨j, by simp, _, hr.1, by rw [hx]; rfl⟩⟩
    · cases ht
theorem boxesOf_rp {caps : List (Nat × List (CV D))} : ∀ {l : List (SV D)}, boxesOf (l ++ caps.map fun p => SV.rp p.1 p.2 0) = boxesOf l
  | [] => by
    induction caps with
    | nil => rfl
    | cons c caps ih => exact ih
  | s :: l => by
    cases s <;> simp only [List.cons_append, boxesOf, boxesOf_rp (l := l)]
theorem opT_ok (hC : COk X) {K : SV D → List (Ob D) → Option ρ} (hM : Mm X.G O z e m k vs) (hE : ∀ x, rel X.G z vs (sop E x) (ev fr x)) (hef : isEff o.op = true) {ts : List Nat} (ht : tgtOf X E o.op = some ts) (h : op1 X o.op E O K = some r) :
    StepX P (ev fr) o m fun _ v m' => Nxt X O z e k vs K r v m' ∧ (quietOf X E O o.op = true → m' = m) ∧ ∃ q, Chg m m' q ∧ TgtQ vs ts q := by
  have nq : (∀ x as tys, o.op ≠ .call { callee := .value x, args := as, argTypes := tys }) → ∀ {p : Prop}, quietOf X E O o.op = true → p := fun hv p hq => by
    unfold quietOf at hq
    split at hq
    · rename_i c hc
      split at hq
      · rename_i f hf
        obtain ⟨ce, as, ts⟩ := c
        exact absurd (by rw [hc]; simp only at hf; rw [hf]) (hv f as ts)
      · cases hq
    · cases hq
  have gen : (∀ x as tys, o.op ≠ .call { callee := .value x, args := as, argTypes := tys }) → StepX P (ev fr) o m fun _ v m' => Nxt X O z e k vs K r v m' ∧ (quietOf X E O o.op = true → m' = m) ∧ ∃ q, Chg m m' q ∧ TgtQ vs ts q := fun hv =>
    (op1_ok hC rfl hM hE h).monoE (fun v _ ⟨_, hk⟩ => ⟨hk, fun _ => rfl, none, Chg.refl _, .inl rfl⟩) (fun v _ hk => ⟨hk, fun _ => rfl, none, Chg.refl _, .inl rfl⟩) (fun Y v _ hk => ⟨hk, nq hv, none, Chg.push _ _, .inl rfl⟩) fun n v m' he hk => ⟨hk, nq hv, eff_chg hE he ht hv⟩
  by_cases hv : ∀ x as tys, o.op ≠ .call { callee := .value x, args := as, argTypes := tys }
  · exact gen hv
  · simp only [Classical.not_forall, ne_eq, Classical.not_not] at hv
    obtain ⟨f, as, tys, ho⟩ := hv
    rw [ho] at h ht
    simp only [tgtOf] at ht
    have h : opCall X { callee := .value f, args := as, argTypes := tys } E O K = some r := h
    simp only [opCall] at h
    split at h
    · rename_i f' caps hf
      rw [hf] at ht
      simp only at ht
      have hfr := hE f
      rw [hf] at hfr
      obtain ⟨gs, hfv, hg⟩ := hfr
      split at h
      · rename_i si hsi
        rw [hsi] at ht
        cases ht
        have hcaps : caps = [] := (findS_ok hsi).2.1
        subst hcaps
        have hgs : gs = [] := by cases gs with
          | nil => rfl
          | cons _ _ => exact hg.elim
        subst hgs
        refine StepX.call (gCalleeV (args := (as.toList.map (ev fr)).toArray) (caps := #[]) ho hfv (by apply Array.ext'; simp) rfl) ?_
        have hq : quietOf X E O o.op = false := by
          rw [ho]
          simp only [quietOf, hf, hsi]
        rw [hq]
        have := (opSort_ok hsi hM (map_rel hE) h).mono fun v m' (h : _ ∧ _) => (⟨h.1, fun hh => Bool.noConfusion hh, h.2⟩ : Nxt X O z e k vs K r v m' ∧ (false = true → m' = m) ∧ ∃ q, Chg m m' q ∧ TgtQ vs (ownsOf (as.toList.map (sop E))) q)
        simpa using this
      rename_i hsn
      rw [hsn] at ht
      simp only at ht
      split at ht
      · cases ht
      rename_i hw
      have hw : X.W f' = false := by simpa using hw
      cases ht
      refine StepX.call (gCalleeV (args := (as.toList.map (ev fr)).toArray) (caps := gs.toArray) ho hfv (by apply Array.ext'; simp) rfl) ?_
      have := (hC f' _ O K r (as.toList.map (ev fr) ++ gs) hM ((map_rel hE).append hg.caps) h).mono fun v m' hh => (⟨hh.1, hh.2.1, hh.2.2 hw⟩ : _ ∧ _ ∧ _)
      rw [boxesOf_rp] at this
      have hq : quietOf X E O o.op = X.F f' (as.toList.map (sop E) ++ caps.map fun p => .rp p.1 p.2 0) O := by
        rw [ho]
        simp only [quietOf, hf, hsn]
      rw [hq]
      simpa using this
    · cases h
def Stb (m : Mem) (I : Mem → Prop) (ob : Option Nat) : Prop := ∀ m', (∀ b, ob = some b → m'.blk b = m.blk b) → I m'
theorem load_stb {b off : Nat} {v : Value} (h : m.load b off = some v) (hb : m'.blk b = m.blk b) : m'.load b off = some v := by
  unfold Mem.load at h ⊢
  rw [hb]; exact h
theorem rdN_stb {b : Nat} (hb : m'.blk b = m.blk b) : ∀ (n off : Nat), rdN m' b off n = rdN m b off n
  | 0, _ => rfl
  | n + 1, off => by
    have : ∀ o, m'.load b o = m.load b o := fun o => by unfold Mem.load; rw [hb]
    simp only [rdN, this, rdN_stb hb n]
def SrcAt (z : Nat → Blk) (vs : List Value) (ob : Option Nat) : RdS → Prop
  | .nr => False
  | .lost => False
  | .fz => ∀ b, ob = some b → (z b).fzn
  | .ob j => ∀ b, ob = some b → ∃ u, vs[j]? = some u ∧ blkV u = some b
def SrcB (z : Nat → Blk) (vs : List Value) (b : Nat) : RdS → Prop
  | .nr => False
  | .lost => False
  | .fz => (z b).fzn
  | .ob j => ∃ u, vs[j]? = some u ∧ blkV u = some b
theorem SrcB.at {b : Nat} {s : RdS} (h : SrcB z vs b s) : SrcAt z vs (some b) s := by
  cases s with
  | nr => exact h
  | lost => exact h
  | fz => intro c hc; cases hc; exact h
  | ob j => intro c hc; cases hc; exact h
theorem src_ok {s : RdS} {v : Value} (hM : Mm X.G O z e m k vs) (hE : ∀ x, rel X.G z vs (sop E x) (ev fr x)) (hs : srcOf E o.op = some s) (h : ReadR P (ev fr) o m v) :
    ∃ ob, Stb m (fun m => ReadR P (ev fr) o m v) ob ∧ SrcAt z vs ob s := by
  have fzl : ∀ {t : Nat} {c : CV D} {cs : List (CV D)} {off b off' : Nat}, rel X.G z vs (.rp t (c :: cs) off) (.pointer (some ⟨b, off', none⟩)) → (z b).fzn := by
    rintro t c cs off b off' ⟨b', o', ds, h1, h2, h3⟩
    cases h1
    cases ds with
    | nil => exact h3.elim
    | cons d ds =>
      exact ldz_live (h2 0 d rfl)
  have ptr : ∀ {x : Operand} {b off : Nat}, ev fr x = .pointer (some ⟨b, off, none⟩) → (match sop E x with | .rp _ (_ :: _) _ => some RdS.fz | .box j _ => some (.ob j) | .el j _ _ _ => some (.ob j) | _ => none) = some s → SrcB z vs b s := by
    intro x b off hx hs
    have hr := hE x
    split at hs
    · rename_i h1
      cases hs
      rw [h1, hx] at hr
      exact fzl hr
    · rename_i h1
      cases hs
      rw [h1, hx] at hr
      obtain ⟨b', g1, g2⟩ := hr
      cases g2
      exact ⟨_, g1, rfl⟩
    · rename_i h1
      cases hs
      rw [h1, hx] at hr
      obtain ⟨b', f0, l, c, g1, g2⟩ := hr
      cases g2
      exact ⟨_, g1, rfl⟩
    · cases hs
  have sl : ∀ {t : Nat} {xs : List (D t)} {b off l c : Nat}, SlR (X.G.T t) z xs (.slice (some ⟨b, off, none⟩) l c) → (z b).fzn := by
    rintro t xs b off l c (⟨h1, _⟩ | ⟨b', o', c', h1, h2, _⟩)
    · cases h1
    · cases h1; exact h2
  cases h with
  | load t x b off d v h hx ht hd hv =>
    simp only [srcOf, h] at hs
    exact ⟨some b, fun m' hm => .load t x b off d v h hx ht hd (load_stb hv (hm b rfl)), (ptr hx hs).at⟩
  | loadA t x b off d i cs h hx ht hd hi hv =>
    simp only [srcOf, h] at hs
    exact ⟨some b, fun m' hm => .loadA t x b off d i cs h hx ht hd hi (by rw [rdN_stb (hm b rfl)]; exact hv), (ptr hx hs).at⟩
  | slice t x lo hi e' i L b off l n h' h ht hi' hx hm hlo hhi h1 h2 h3 =>
    simp only [srcOf, h] at hs
    refine ⟨some b, fun m' hm' => .slice t x lo hi e' i L b off l n h' h ht hi' hx (by rw [hm' b rfl]; exact hm) hlo hhi h1 h2 h3, SrcB.at ?_⟩
    have hr := hE x
    split at hs
    · rename_i g
      rw [g, hx] at hr
      cases hr
    · rename_i g
      cases hs
      rw [g, hx] at hr
      exact sl hr
    · rename_i g
      cases hs
      rw [g, hx] at hr
      exact ⟨_, hr.1, rfl⟩
    · cases hs
  | str s' t x e' b off l c cs h hs' he ht hx hv =>
    simp only [srcOf, h] at hs
    refine ⟨some b, fun m' hm' => .str s' t x e' b off l c cs h hs' he ht hx (by rw [rdN_stb (hm' b rfl)]; exact hv), SrcB.at ?_⟩
    have hr := hE x
    split at hs
    · rename_i g
      cases hs
      rw [g, hx] at hr
      exact sl hr
    · rename_i g
      cases hs
      rw [g, hx] at hr
      exact ⟨_, hr.1, rfl⟩
    · rename_i g
      rw [g, hx] at hr
      cases hr
    · rename_i g
      rw [g, hx] at hr
      cases hr
    · cases hs
  | strNil s' t x e' l c h hs' he ht hx =>
    simp only [srcOf, h] at hs
    refine ⟨none, fun m' hm' => .strNil s' t x e' l c h hs' he ht hx, ?_⟩
    have hr := hE x
    split at hs
    · cases hs; intro b hb; cases hb
    · cases hs; intro b hb; cases hb
    · rename_i g
      rw [g, hx] at hr
      cases hr
    · rename_i g
      rw [g, hx] at hr
      cases hr
    · cases hs
  | lookup xt x ix ok u kt vt b L F i z' v0 t good h hxt hu hx hks hv1 K' hf hk hg hi hz hzf hl =>
    simp only [srcOf, h] at hs
    rcases hx with ⟨hx, hm, hE'⟩ | ⟨hx, hE'⟩
    · refine ⟨some b, fun m' hm' => .lookup xt x ix ok u kt vt b L F i z' v0 t good h hxt hu (.inl ⟨hx, by rw [hm' b rfl]; exact hm, hE'⟩) hks hv1 K' hf hk hg hi hz hzf hl, SrcB.at ?_⟩
      have hr := hE x
      split at hs
      · rename_i g
        cases hs
        rw [g, hx] at hr
        rcases hr with ⟨h1, _⟩ | ⟨r, h1, h2⟩
        · cases h1
        · cases h1
          show (z _).fzn
          rw [h2]; exact True.intro
      · rename_i g
        cases hs
        rw [g, hx] at hr
        exact ⟨_, hr.1, rfl⟩
      · cases hs
    · refine ⟨none, fun m' hm' => .lookup xt x ix ok u kt vt b L F i z' v0 t good h hxt hu (.inr ⟨hx, hE'⟩) hks hv1 K' hf hk hg hi hz hzf hl, ?_⟩
      split at hs
      · cases hs; intro b hb; cases hb
      · cases hs; intro b hb; cases hb
      · cases hs
def RdI (z : Nat → Blk) (m : Mem) (vs : List Value) (I : Mem → Prop) (s : RdS) : Prop :=
  s = .lost ∨ ∃ ob, Stb m I ob ∧ (∀ b, ob = some b → b < m.next) ∧ SrcAt z vs ob s
structure LgOk (z : Nat → Blk) (m : Mem) (vs : List Value) (A : Acc) (L : Lg) : Prop where
  rd : ∀ x ∈ A.reads, ∃ y ∈ L.rd, y.1 = x.1 ∧ RdI z m vs x.2 y.2
  ef : ∀ x ∈ A.effs, ∃ y ∈ L.ef, y.1 = x.1 ∧ (y.2.1 = true → m = x.2) ∧ ∀ j ∈ y.2.2, ∃ v, vs[j]? = some v ∧ ∀ b, blkV v = some b → b < m.next ∧ m.blk b = x.2.blk b
  nw : ∀ x ∈ A.news, ∃ y ∈ L.nw, y.1 = x.1 ∧ x.2 < m.next ∧ ∃ v, vs[y.2]? = some v ∧ blkV v = some x.2
theorem Stb.step {I : Mem → Prop} {ob q : Option Nat} (h : Stb m I ob) (hb : ∀ b, ob = some b → b < m.next) (hc : Chg m m' q) (hq : ∀ b, ob = some b → q ≠ some b) : Stb m' I ob := fun m2 hm => h m2 fun b hb' => by
  rw [hm b hb', hc.2 b (hb b hb') (hq b hb')]
theorem SrcAt.mono {ob : Option Nat} {s : RdS} (h : SrcAt z vs ob s) (hz : Zle z z') (hv : ∀ (i : Nat) (u : Value), vs[i]? = some u → vs'[i]? = some u) : SrcAt z' vs' ob s := by
  cases s with
  | nr => exact h
  | lost => exact h
  | fz => intro b hb; rw [hz b (h b hb)]; exact h b hb
  | ob j => intro b hb; obtain ⟨u, g1, g2⟩ := h b hb; exact ⟨u, hv _ _ g1, g2⟩
theorem LgOk.step {A : Acc} {L : Lg} {q : Option Nat} (h : LgOk z m vs A L) (hz : Zle z z') (hv : ∀ (i : Nat) (u : Value), vs[i]? = some u → vs'[i]? = some u) (hc : Chg m m' q)
    (L' : Lg) (hr : ∀ y ∈ L.rd, ∃ y' ∈ L'.rd, y'.1 = y.1 ∧ (y'.2 = .lost ∨ y'.2 = y.2 ∧ ∀ ob, SrcAt z vs ob y.2 → ∀ b, ob = some b → q ≠ some b))
    (he : ∀ y ∈ L.ef, ∃ y' ∈ L'.ef, y'.1 = y.1 ∧ (y'.2.1 = true → y.2.1 = true ∧ m' = m) ∧ ∀ j ∈ y'.2.2, j ∈ y.2.2 ∧ ∀ v b, vs[j]? = some v → blkV v = some b → q ≠ some b) (hn : ∀ y ∈ L.nw, y ∈ L'.nw) : LgOk z' m' vs' A L' where
  rd := fun x hx => by
    obtain ⟨y, hy, h1, h2⟩ := h.rd x hx
    obtain ⟨y', hy', g1, g2⟩ := hr y hy
    refine ⟨y', hy', by rw [g1, h1], ?_⟩
    rcases g2 with g2 | ⟨g2, g3⟩
    · exact .inl g2
    · rcases h2 with h2 | ⟨ob, k1, k2, k3⟩
      · exact .inl (by rw [g2, h2])
      · exact .inr ⟨ob, k1.step k2 hc (g3 ob k3), fun b hb => Nat.lt_of_lt_of_le (k2 b hb) hc.1, by rw [g2]; exact k3.mono hz hv⟩
  ef := fun x hx => by
    obtain ⟨y, hy, h1, h0, h2⟩ := h.ef x hx
    obtain ⟨y', hy', g1, g0, g2⟩ := he y hy
    refine ⟨y', hy', by rw [g1, h1], fun hf => by rw [(g0 hf).2]; exact h0 (g0 hf).1, fun j hj => ?_⟩
    obtain ⟨g3, g4⟩ := g2 j hj
    obtain ⟨v, k1, k2⟩ := h2 j g3
    refine ⟨v, hv _ _ k1, fun b hb => ?_⟩
    obtain ⟨k3, k4⟩ := k2 b hb
    exact ⟨Nat.lt_of_lt_of_le k3 hc.1, by rw [hc.2 b k3 (g4 v b k1 hb)]; exact k4⟩
  nw := fun x hx => by
    obtain ⟨y, hy, h1, h2, v, h3, h4⟩ := h.nw x hx
    exact ⟨y, hn y hy, h1, Nat.lt_of_lt_of_le h2 hc.1, v, hv _ _ h3, h4⟩
theorem LgOk.quiet {A : Acc} {L : Lg} (h : LgOk z m vs A L) (hz : Zle z z') (hv : ∀ (i : Nat) (u : Value), vs[i]? = some u → vs'[i]? = some u) (hm : m' = m) : LgOk z' m' vs' A L :=
  h.step (q := none) hz hv (by rw [hm]; exact Chg.refl m) L (fun y hy => ⟨y, hy, rfl, .inr ⟨rfl, fun _ _ _ _ => by simp⟩⟩) (fun y hy => ⟨y, hy, rfl, fun h => ⟨h, hm⟩, fun j hj => ⟨hj, fun _ _ _ _ => by simp⟩⟩) fun y hy => hy
theorem good_at {j : Nat} (hM : Mm X.G O z e m k vs) (h : goodAt O j = true) : ∃ v, vs[j]? = some v ∧ ∀ b, blkV v = some b → b < m.next ∧ (z b ≠ .dead ∨ ∃ o, O[j]? = some o ∧ o.live = true) := by
  unfold goodAt at h
  have fin : ∀ {o : Ob D}, O[j]? = some o → o ≠ .dead → (∀ t w, o ≠ .box t [] true w) → ∃ v, vs[j]? = some v ∧ ∀ b, blkV v = some b → b < m.next ∧ (z b ≠ .dead ∨ ∃ o, O[j]? = some o ∧ o.live = true) := by
    intro o ho hd hbx
    obtain ⟨v, hv, hob⟩ := hM.at ho
    refine ⟨v, hv, fun b hb => ?_⟩
    cases hl : o.live with
    | true => exact ⟨(hob.lt hl b hb).1, .inr ⟨o, ho, hl⟩⟩
    | false =>
      have hz : z b ≠ .dead := by
        cases o with
        | dead => exact absurd rfl hd
        | sl t xs fz w =>
          cases fz with
          | false => cases hl
          | true =>
            rcases (hob : SlR (X.G.T t) z xs v) with ⟨rfl, _⟩ | ⟨b', o', c', rfl, h2, _⟩
            · cases hb
            · cases hb; exact h2.ne
        | box t cs fz w =>
          cases fz with
          | false => cases hl
          | true =>
            obtain ⟨b', ds, rfl, h2, h3⟩ := hob
            cases hb
            cases cs with
            | nil => exact absurd rfl (hbx t w)
            | cons c cs =>
              cases ds with
              | nil => exact h3.elim
              | cons d ds =>
                have := h2 0 d rfl
                intro hd
                unfold ldz at this
                rw [hd] at this
                cases this
        | recv t cs w => cases hl
        | arr _ _ _ _ _ => cases hl
        | nest _ _ _ _ _ _ => cases hl
        | map t kt vt es fz w =>
          cases fz with
          | false => cases hl
          | true =>
            rcases (hob : MpR (X.G.M t kt vt) z es v) with ⟨rfl, _⟩ | ⟨r, rfl, h2⟩
            · cases hb
            · cases hb
              intro hd
              rw [hd] at h2; cases h2
      refine ⟨?_, .inl hz⟩
      exact (hM.st.fz b hz).2
  split at h
  · cases h
  · cases h
  · rename_i o h1 h2 ho
    exact fin ho (fun hh => h1 hh) fun t w hh => h2 t w hh
  · cases h
theorem any_beq {l : List Nat} {j : Nat} : l.any (Nat.beq j) = true ↔ j ∈ l := by
  simp only [List.any_eq_true]
  constructor
  · rintro ⟨x, hx, h⟩
    have := Nat.eq_of_beq_eq_true h
    subst this; exact hx
  · intro h; exact ⟨j, h, by simp⟩
theorem live_at {j : Nat} (h : liveAt O j = true) : ∃ o, O[j]? = some o ∧ o.live = true := by
  unfold liveAt at h
  split at h
  · exact ⟨_, ‹_›, h⟩
  · cases h
theorem apart_ok {ts : List Nat} {q : Option Nat} (hM : Mm X.G O z e m k vs) (hl : ts.all (liveAt O) = true) (hq : TgtQ vs ts q) {j : Nat} (h : apartB O ts j = true) {v : Value} {b : Nat} (hv : vs[j]? = some v) (hb : blkV v = some b) : q ≠ some b := by
  simp only [apartB, Bool.and_eq_true, Bool.not_eq_true'] at h
  rcases hq with rfl | ⟨i, hi, w, hw, rfl⟩
  · simp
  · intro hqb
    have hij : i ≠ j := by
      rintro rfl
      rw [any_beq.2 hi] at h; cases h.2
    obtain ⟨o, ho, hol⟩ := live_at (List.all_eq_true.1 hl i hi)
    have hd := ((hM.obj i o w ho hw).lt hol b hqb).2.1
    obtain ⟨v', hv', h1⟩ := good_at hM h.1
    rw [hv] at hv'; cases hv'
    rcases (h1 b hb).2 with h2 | ⟨p, hp, hpl⟩
    · exact h2 hd
    · exact hM.ap i j o p w v hij ho hp hol hpl hw hv b hqb hb
theorem fz_apart {ts : List Nat} {q : Option Nat} (hM : Mm X.G O z e m k vs) (hl : ts.all (liveAt O) = true) (hq : TgtQ vs ts q) {b : Nat} (hz : z b ≠ .dead) : q ≠ some b := by
  rcases hq with rfl | ⟨i, hi, w, hw, rfl⟩
  · simp
  · intro hqb
    obtain ⟨o, ho, hol⟩ := live_at (List.all_eq_true.1 hl i hi)
    exact hz ((hM.obj i o w ho hw).lt hol b hqb).2.1
theorem src_apart {ts : List Nat} {q : Option Nat} (hM : Mm X.G O z e m k vs) (hl : ts.all (liveAt O) = true) (hq : TgtQ vs ts q) {s : RdS} (h : srcB O ts s = true) {ob : Option Nat} (hs : SrcAt z vs ob s) : ∀ b, ob = some b → q ≠ some b := by
  intro b hb
  cases s with
  | nr => exact hs.elim
  | lost => exact hs.elim
  | fz => exact fz_apart hM hl hq (hs b hb).ne
  | ob j =>
    obtain ⟨u, g1, g2⟩ := hs b hb
    exact apart_ok hM hl hq h g1 g2
theorem liveIdx_at : ∀ {l : List (Ob D)} {i j : Nat}, j ∈ liveIdx O i l → ∃ n o, j = i + n ∧ l[n]? = some o ∧ o.live = true
  | [], i, j, h => by simp [liveIdx] at h
  | o :: l, i, j, h => by
    simp only [liveIdx] at h
    have tail : j ∈ liveIdx O (i + 1) l → ∃ n p, j = i + n ∧ (o :: l)[n]? = some p ∧ p.live = true := fun h => by
      obtain ⟨n, p, h1, h2, h3⟩ := liveIdx_at h
      exact ⟨n + 1, p, by omega, h2, h3⟩
    split at h
    · rename_i ho
      rcases List.mem_cons.1 h with rfl | h
      · exact ⟨0, o, rfl, rfl, ho⟩
      · exact tail h
    · exact tail h
theorem LgOk.eff {A : Acc} {L : Lg} {q : Option Nat} {B : Array Nat} {i : Nat} {ts : List Nat} {qt : Bool} (h : LgOk z m vs A L) (hM : Mm X.G O z e m k vs) (hz : Zle z z') (hv : ∀ (i : Nat) (u : Value), vs[i]? = some u → vs'[i]? = some u) (hc : Chg m m' q) (hq : TgtQ vs ts q) (hqt : qt = true → m' = m)
    (hk : efChk B i O L ts = true) : obl B i A m .eff m' ∧ LgOk z' m' vs' (accT A i m .eff) (efLg i O ts qt L) := by
  simp only [efChk, Bool.and_eq_true, List.all_eq_true, Bool.or_eq_true] at hk
  obtain ⟨hl, hk1, hk2⟩ := hk
  have hl : ts.all (liveAt O) = true := List.all_eq_true.2 hl
  refine ⟨⟨fun x hx ha => ?_, fun x hx ha => ?_⟩, ?_⟩
  · obtain ⟨y, hy, h1, h2⟩ := h.rd x hx
    have := hk1 y hy
    rw [h1, ha] at this
    have hs : srcB O ts y.2 = true := by simpa using this
    rcases h2 with h2 | ⟨ob, k1, k2, k3⟩
    · rw [h2] at hs; cases hs
    · exact k1 m' fun b hb => hc.2 b (k2 b hb) (src_apart hM hl hq hs k3 b hb)
  · obtain ⟨y, hy, h1, h2, v, h3, h4⟩ := h.nw x hx
    have := hk2 y hy
    rw [h1, ha] at this
    have hs : apartB O ts y.2 = true := by simpa using this
    exact hc.2 _ h2 (apart_ok hM hl hq hs h3 h4)
  · have st := h.step (L' := efLg i O ts qt L) hz hv hc (fun y hy => ?_) (fun y hy => ?_) fun y hy => hy
    · refine ⟨st.rd, fun x hx => ?_, st.nw⟩
      rcases List.mem_cons.1 hx with rfl | hx
      · refine ⟨(i, true && qt, (liveIdx O 0 O).filter (apartB O ts)), by simp [efLg], rfl, fun hf => hqt (by simpa using hf), fun j hj => ?_⟩
        obtain ⟨hj1, hj2⟩ := List.mem_filter.1 hj
        obtain ⟨n, o, g1, g2, g3⟩ := liveIdx_at hj1
        rw [Nat.zero_add] at g1
        subst g1
        obtain ⟨v, g4, g5⟩ := hM.at g2
        refine ⟨v, hv _ _ g4, fun b hb => ?_⟩
        have hlt := (g5.lt g3 b hb).1
        exact ⟨Nat.lt_of_lt_of_le hlt hc.1, hc.2 b hlt (apart_ok hM hl hq hj2 g4 hb)⟩
      · exact st.ef x hx
    · refine ⟨if srcB O ts y.2 = true then y else (y.1, .lost), List.mem_map.2 ⟨y, hy, rfl⟩, by split <;> rfl, ?_⟩
      split
      · rename_i hs
        exact .inr ⟨rfl, fun ob ho => src_apart hM hl hq hs ho⟩
      · exact .inl rfl
    · refine ⟨(y.1, y.2.1 && qt, y.2.2.filter (apartB O ts)), List.mem_map.2 ⟨y, List.mem_cons_of_mem _ hy, rfl⟩, rfl, fun hf => by simp only [Bool.and_eq_true] at hf; exact ⟨hf.1, hqt hf.2⟩, fun j hj => ?_⟩
      obtain ⟨hj1, hj2⟩ := List.mem_filter.1 hj
      exact ⟨hj1, fun v b h1 h2 => apart_ok hM hl hq hj2 h1 h2⟩
theorem LgOk.sup {A : Acc} {L : Lg} (h : LgOk z m vs A L) (i : Nat) (s : RdS) (n : Option Nat) : LgOk z m vs A (rdLg i s n L) where
  rd := fun x hx => by
    obtain ⟨y, hy, h1, h2⟩ := h.rd x hx
    refine ⟨y, ?_, h1, h2⟩
    unfold rdLg
    cases s <;> first | exact hy | exact List.mem_cons_of_mem _ hy
  ef := fun x hx => by
    obtain ⟨y, hy, h1, h2, h3⟩ := h.ef x hx
    cases n with
    | none => exact ⟨y, hy, h1, h2, h3⟩
    | some j => exact ⟨(y.1, false, y.2.2), List.mem_map.2 ⟨y, hy, rfl⟩, h1, (by simp), h3⟩
  nw := fun x hx => by
    obtain ⟨y, hy, h1⟩ := h.nw x hx
    refine ⟨y, ?_, h1⟩
    unfold rdLg
    cases n with
    | none => exact hy
    | some j => exact List.mem_cons_of_mem _ hy
structure Lg2 (n0 : Nat) (z0 z : Nat → Blk) (fr : Nat → Value) (E : List (Nat × SV D)) (m : Mem) (A : Acc) (L : Lg) : Prop where
  le : Zle z0 z
  n : n0 ≤ m.next
  lt : ∀ b, (z0 b).fzn → b < n0
  fl : ∀ x ∈ A.effs, ∀ b, (z0 b).fzn → m.blk b = x.2.blk b
  old : ∀ d, (L.yn.any (Nat.beq d)) = false → isFz (lkE E d) = true → ∀ b, blkV (fr d) = some b → (z0 b).fzn
variable {z0 : Nat → Blk}
theorem Lg2.at {n0 : Nat} {A : Acc} {L : Lg} (h : Lg2 n0 z0 z fr E m A L) {x : Operand} (hx : oldS E L x = true) : ∀ b, blkV (ev fr x) = some b → (z0 b).fzn := by
  unfold oldS at hx
  split at hx
  · rename_i d
    simp only [Bool.and_eq_true, Bool.not_eq_true'] at hx
    exact h.old d hx.1 hx.2
  · cases hx
theorem Lg2.read {n0 : Nat} {A : Acc} {L : Lg} {B : Array Nat} {i : Nat} {v : Value} (h : Lg2 n0 z0 z fr E m A L) (hl : ldS E L o.op = true) (hr : ReadR P (ev fr) o m v) : ∀ x ∈ A.effs, anc B i x.1 = false → ReadR P (ev fr) o x.2 v := by
  intro x hx ha
  have hb := h.fl x hx
  cases hr with
  | load t q b off d v h' hq ht hd hv =>
    rw [h'] at hl
    have := h.at hl b (by rw [hq]; rfl)
    exact .load t q b off d v h' hq ht hd (load_stb hv (hb b this).symm)
  | loadA t q b off d i cs h' hq ht hd hi hv =>
    rw [h'] at hl
    have := h.at hl b (by rw [hq]; rfl)
    exact .loadA t q b off d i cs h' hq ht hd hi (by rw [rdN_stb (hb b this).symm]; exact hv)
  | slice t q lo hi e' i L' b off l n h' h0 ht hi' hq hm hlo hhi g1 g2 g3 =>
    rw [h0] at hl
    have := h.at hl b (by rw [hq]; rfl)
    exact .slice t q lo hi e' i L' b off l n h' h0 ht hi' hq (by rw [← hb b this]; exact hm) hlo hhi g1 g2 g3
  | str s' t q e' b off l c cs h0 hs' he ht hq hv => rw [h0] at hl; cases hl
  | strNil s' t q e' l c h0 hs' he ht hq => rw [h0] at hl; cases hl
  | lookup xt q ix ok u kt vt b L' F i z' v0 t good h0 hxt hu hq hks hv1 K' hf hk hg hi hz hzf hl' => rw [h0] at hl; cases hl
theorem Lg2.zle {n0 : Nat} {A : Acc} {L : Lg} (h : Lg2 n0 z0 z fr E m A L) (hz : Zle z z') : Lg2 n0 z0 z' fr E m A L := ⟨h.le.trans hz, h.n, h.lt, h.fl, h.old⟩
theorem pure_drv {L : Lg} {v : Value} {n0 : Nat} {A : Acc} (h : Lg2 n0 z0 z fr E m A L) (hd : drvS E L o.op = true) (hp : PureR P (ev fr) o v) : ∀ b, blkV v = some b → (z0 b).fzn := by
  have fl : ∀ {w : Value}, flat w = true → ∀ b, blkV w = some b → (z0 b).fzn := by
    intro w hw b hb
    cases w with
    | pointer a => cases a with
      | none => cases hb
      | some a => cases hw
    | slice a l c => cases a with
      | none => cases hb
      | some a => cases hw
    | map r => cases r with
      | none => cases hb
      | some r => cases hw
    | _ => cases hb
  cases hp with
  | flat v hs hx hv hr => exact fl hv
  | move x ho =>
    rcases ho with ho | ho
    · rw [ho] at hd; exact h.at hd
    · rw [ho] at hd; exact h.at hd
  | nilCheck x a ho hx =>
    rw [ho] at hd
    intro b hb
    exact h.at hd b (by rw [hx]; exact hb)
  | fieldAddr t x i fs f k b off ho ht hf hk hs hx =>
    rw [ho] at hd
    intro c hc
    exact h.at hd c (by rw [hx]; exact hc)
  | indexAddr t x y e i b off l c k n ho ht hi hx hy h0 h1 =>
    rw [ho] at hd
    intro c hc
    exact h.at hd c (by rw [hx]; exact hc)
  | indexAddrA t x y e i b off l k n ho ht hi hx hy h0 h1 =>
    rw [ho] at hd
    intro c hc
    exact h.at hd c (by rw [hx]; exact hc)
  | pick c a b t ho hc => rw [ho] at hd; cases hd
  | extract x i us v ho hx hv => rw [ho] at hd; cases hd
  | field t x i fs f d cs v ho _ _ _ _ _ => rw [ho] at hd; cases hd
  | build t ps fs i z cs ho _ _ _ _ _ _ => rw [ho] at hd; cases hd
  | buildA t ps n e i k z cs ho _ _ _ _ _ _ => rw [ho] at hd; cases hd
  | slice t x lo hi e i b off l c n h' ho _ _ _ _ _ _ _ _ _ => rw [ho] at hd; cases hd
  | sliceNil t x lo hi e i ho _ _ _ _ _ => rw [ho] at hd; cases hd
  | slice3 t x mx hi e i b off l c h' k' km ho _ _ _ _ _ _ _ => rw [ho] at hd; cases hd
  | slice3Nil t x mx hi e i km ho _ _ _ _ _ => rw [ho] at hd; cases hd
  | len x t e a l c ho _ _ => rw [ho] at hd; cases hd
  | capNil x t e ho _ _ => rw [ho] at hd; cases hd
  | eqNil neq x y t u e a l c ho _ _ _ => rw [ho] at hd; cases neq <;> cases hd
  | func fn first captured ho _ => rw [ho] at hd; cases hd
theorem Lg2.put {n0 : Nat} {A : Acc} {L : Lg} {v : Value} {sv : SV D} (h : Lg2 n0 z0 z fr E m A L) (hv : drvS E L o.op = true → ∀ b, blkV v = some b → (z0 b).fzn) : Lg2 n0 z0 z (set fr o.dst v) (putE E o.dst sv) m A (ynLg E o L) := by
  cases hd : o.dst with
  | none =>
    have e : ynLg E o L = L := by unfold ynLg; rw [hd]
    rw [e]
    exact ⟨h.le, h.n, h.lt, h.fl, h.old⟩
  | some d =>
    refine ⟨h.le, h.n, h.lt, h.fl, fun c hc hf b hb => ?_⟩
    by_cases hcd : c = d
    · subst hcd
      simp only [set, if_true] at hb
      by_cases hdv : drvS E L o.op = true
      · exact hv hdv b hb
      · have e : (ynLg E o L).yn = c :: L.yn := by unfold ynLg; rw [hd]; dsimp only; rw [if_neg hdv]
        rw [e] at hc
        simp at hc
    · simp only [set, if_neg hcd] at hb
      have hl : lkE (putE E (some d) sv) c = lkE E c := by
        simp only [putE, lkE]
        rw [if_neg]
        intro hh
        exact hcd (Nat.eq_of_beq_eq_true hh).symm
      rw [hl] at hf
      refine h.old c ?_ hf b hb
      unfold ynLg at hc
      rw [hd] at hc
      dsimp only at hc
      split at hc
      · rw [List.any_eq_false] at hc ⊢
        intro y hy hyc
        have hyc := Nat.eq_of_beq_eq_true hyc
        subst hyc
        refine hc c (List.mem_filter.2 ⟨hy, ?_⟩) (by simp)
        simp only [Bool.not_eq_true']
        cases hq : Nat.beq d c with
        | false => rfl
        | true => exact absurd (Nat.eq_of_beq_eq_true hq).symm hcd
      · simp only [List.any_cons, Bool.or_eq_false_iff] at hc
        exact hc.2
theorem Lg2.log {n0 : Nat} {A A' : Acc} {L L' : Lg} (h : Lg2 n0 z0 z fr E m A L) (hA : A'.effs = A.effs) (hy : L'.yn = L.yn) : Lg2 n0 z0 z fr E m A' L' := ⟨h.le, h.n, h.lt, by rw [hA]; exact h.fl, by rw [hy]; exact h.old⟩
theorem Lg2.grow {n0 : Nat} {A : Acc} {L : Lg} (h : Lg2 n0 z0 z fr E m A L) (hc : Chg m m' none) : Lg2 n0 z0 z fr E m' A L := ⟨h.le, Nat.le_trans h.n hc.1, h.lt, fun x hx b hb => by
  rw [hc.2 b (Nat.lt_of_lt_of_le (h.lt b hb) h.n) (by simp)]; exact h.fl x hx b hb, h.old⟩
theorem Lg2.eff {n0 i : Nat} {A : Acc} {L : Lg} {q : Option Nat} {ts : List Nat} {qt : Bool} (h : Lg2 n0 z0 z fr E m A L) (hc : Chg m m' q) (hq : ∀ b, (z0 b).fzn → q ≠ some b) : Lg2 n0 z0 z fr E m' (accT A i m .eff) (efLg i O ts qt L) := by
  have key : ∀ b, (z0 b).fzn → m'.blk b = m.blk b := fun b hb => hc.2 b (Nat.lt_of_lt_of_le (h.lt b hb) h.n) (fun hh => hq b hb hh)
  refine ⟨h.le, Nat.le_trans h.n hc.1, h.lt, fun x hx b hb => ?_, h.old⟩
  rcases List.mem_cons.1 hx with rfl | hx
  · exact key b hb
  · rw [key b hb]
    exact h.fl x hx b hb
theorem tgt_dead {ts : List Nat} {q : Option Nat} (hM : Mm X.G O z e m k vs) (hl : ts.all (liveAt O) = true) (hq : TgtQ vs ts q) (hz : Zle z0 z) : ∀ b, (z0 b).fzn → q ≠ some b := by
  intro b hb hqb
  rcases hq with hq | ⟨i, hi, v, hv, he⟩
  · rw [hq] at hqb; cases hqb
  · have := List.all_eq_true.1 hl i hi
    unfold liveAt at this
    split at this
    · rename_i p hp
      have := ((hM.obj i p v hp hv).lt this b (by rw [← he]; exact hqb)).2.1
      rw [hz b hb] at this
      rw [this] at hb
      exact hb.elim
    · cases this
theorem Lg2.start {E : List (Nat × SV D)} (hM : Mm X.G O z e m k vs) (hE : ∀ d, rel X.G z vs (lkE E d) (fr d)) : Lg2 m.next z z fr E m ⟨[], [], []⟩ ⟨[], [], [], [], []⟩ := by
  refine ⟨Zle.refl z, Nat.le_refl _, fun b hb => (hM.st.fz b hb.ne).2, by simp, fun d _ hf b hb => ?_⟩
  have hr := hE d
  unfold isFz at hf
  split at hf
  · rename_i e1 xs hs
    rw [hs] at hr
    rcases (hr : SlR (X.G.T e1) z xs (fr d)) with ⟨h1, _⟩ | ⟨b', o', c', h1, h2, _⟩
    · rw [h1] at hb; cases hb
    · rw [h1] at hb; cases hb
      exact h2
  · rename_i t c cs off hs
    rw [hs] at hr
    obtain ⟨b, o', ds, h1, h2, h3⟩ := hr
    rw [h1] at hb; cases hb
    cases ds with
    | nil => exact h3.elim
    | cons d ds =>
      have h4 := h2 0 d rfl
      exact ldz_live h4
  · cases hf
theorem ynLg_ok {A : Acc} {L : Lg} {E : List (Nat × SV D)} (h : LgOk z m vs A L) : LgOk z m vs A (ynLg E o L) := by
  unfold ynLg
  split
  · exact h
  · split <;> exact ⟨h.rd, h.ef, h.nw⟩
theorem LgOk.read {A : Acc} {L : Lg} {B : Array Nat} {i : Nat} {s : RdS} {v : Value} {n : Option Nat} (h : LgOk z m vs A L) (hM : Mm X.G O z e m k vs) (hE : ∀ x, rel X.G z vs (sop E x) (ev fr x)) (hz : Zle z z') (hv : ∀ (i : Nat) (u : Value), vs[i]? = some u → vs'[i]? = some u)
    {n0 : Nat} (hs : srcOf E o.op = some s) (hk : (rdChk B i O L s || oldChk B i E L s o.op) = true) (hr : ReadR P (ev fr) o m v) (hg : Lg2 (D := D) n0 z0 z fr E m A L) :
    obl B i A m (.read fun m => ReadR P (ev fr) o m v) m ∧ LgOk z' m vs' (accT A i m (.read fun m => ReadR P (ev fr) o m v)) (rdLg i s n L) := by
  obtain ⟨ob, h1, h2⟩ := src_ok hM hE hs hr
  rw [Bool.or_eq_true] at hk
  have lt : ∀ b, ob = some b → b < m.next := by
    intro b hb
    cases s with
    | nr => exact h2.elim
    | lost => exact h2.elim
    | fz =>
      have hz := h2 b hb
      exact (hM.st.fz b hz.ne).2
    | ob j =>
      have hk : rdChk B i O L (.ob j) = true := hk.resolve_right (by simp [oldChk, fzB])
      simp only [rdChk, Bool.and_eq_true] at hk
      obtain ⟨u, g1, g2⟩ := h2 b hb
      obtain ⟨v', g3, g4⟩ := good_at hM hk.1
      rw [g1] at g3; cases g3
      exact (g4 b g2).1
  refine ⟨fun x hx ha => ?_, ?_⟩
  · rcases hk with hk | hk
    case inr =>
      simp only [oldChk, Bool.and_eq_true] at hk
      exact hg.read (B := B) hk.2 hr x hx ha
    obtain ⟨y, hy, k1, k0, k2⟩ := h.ef x hx
    refine h1 x.2 fun b hb => ?_
    cases s with
    | nr => exact h2.elim
    | lost => exact h2.elim
    | fz =>
      simp only [rdChk, List.all_eq_true] at hk
      have := hk y hy
      rw [k1, ha, Bool.false_or] at this
      rw [k0 this]
    | ob j =>
      simp only [rdChk, Bool.and_eq_true, List.all_eq_true, Bool.or_eq_true] at hk
      have := hk.2 y hy
      rw [k1, ha] at this
      have hj : y.2.1 = true ∨ j ∈ y.2.2 := by
        rcases this with h | h | h
        · cases h
        · exact .inl h
        · exact .inr (any_beq.1 h)
      rcases hj with hj | hj
      · rw [k0 hj]
      obtain ⟨v', g1, g2⟩ := k2 j hj
      obtain ⟨u, g3, g4⟩ := h2 b hb
      rw [g3] at g1; cases g1
      exact (g2 b g4).2.symm
  · have st := ((h.quiet (Zle.refl z) (fun _ _ h => h) rfl).sup i s n).quiet (m' := m) hz hv rfl
    refine ⟨fun x hx => ?_, st.ef, st.nw⟩
    rcases List.mem_cons.1 hx with rfl | hx
    · refine ⟨(i, s), ?_, rfl, .inr ⟨ob, h1, lt, h2.mono hz hv⟩⟩
      unfold rdLg
      cases s <;> first | exact h2.elim | exact List.mem_cons_self
    · exact st.rd x hx
theorem new_of {Y : Blk} {v : Value} {sv : SV D} {n : Option Nat} {N : Nat} (h : NewR P (ev fr) o N Y v) (hr : rel X.G z vs sv v) (hn : newOf sv = some n) : ∃ j, n = some j ∧ ∃ u, vs[j]? = some u ∧ blkV u = some N := by
  have hv : blkV v = some N := by cases h <;> rfl
  unfold newOf at hn
  split at hn
  · cases hn; exact ⟨_, rfl, v, hr.1, hv⟩
  · cases hn
    obtain ⟨b, g1, rfl⟩ := hr
    exact ⟨_, rfl, _, g1, hv⟩
  · cases hn
    obtain ⟨b, l, g1, rfl⟩ := hr
    exact ⟨_, rfl, _, g1, hv⟩
  · have hr : v = .int _ _ := hr
    rw [hr] at hv; cases hv
  · have hr : v = AM.str _ := hr
    rw [hr] at hv; cases hv
  · cases hn
theorem LgOk.new {A : Acc} {L : Lg} {i : Nat} {s : RdS} {j : Nat} {Y : Blk} (h : LgOk z m vs A L) (hz : Zle z z') (hv : ∀ (i : Nat) (u : Value), vs[i]? = some u → vs'[i]? = some u) (hj : ∃ u, vs'[j]? = some u ∧ blkV u = some m.next) :
    LgOk z' (m.push Y) vs' (accT A i m .new) (rdLg i s (some j) L) := by
  have st := h.step (m' := m.push Y) (q := none) hz hv (Chg.push m Y) (rdLg i s (some j) L) (fun y hy => ⟨y, by unfold rdLg; cases s <;> first | exact hy | exact List.mem_cons_of_mem _ hy, rfl, .inr ⟨rfl, fun _ _ _ _ => by simp⟩⟩)
    (fun y hy => ⟨(y.1, false, y.2.2), List.mem_map.2 ⟨y, hy, rfl⟩, rfl, by simp, fun j hj => ⟨hj, fun _ _ _ _ => by simp⟩⟩) fun y hy => List.mem_cons_of_mem _ hy
  refine ⟨st.rd, st.ef, fun x hx => ?_⟩
  rcases List.mem_cons.1 hx with rfl | hx
  · obtain ⟨u, g1, g2⟩ := hj
    exact ⟨(i, j), by simp [rdLg], rfl, Nat.lt_succ_self _, u, g1, g2⟩
  · exact st.nw x hx
end
end Go.AM
end
section
set_option linter.unusedSimpArgs false
set_option linter.unusedVariables false
namespace Go.AM
section
variable {P : Program} {D : Nat → Type} {X : Ev P D} {ρ : Type} {z z' : Nat → Blk} {e m m' : Mem} {k : Option Nat} {vs : List Value} {fr : Nat → Value} {E : List (Nat × SV D)} {O : List (Ob D)} {o : Oper} {r : ρ}
def Rl (X : Ev P D) (z : Nat → Blk) (vs : List Value) (E : List (Nat × SV D)) (fr : Nat → Value) : Prop := ∀ d, rel X.G z vs (lkE E d) (fr d)
theorem Rl.mono (h : Rl X z vs E fr) {vs' : List Value} (hz : Zle z z') (hv : ∀ (i : Nat) (u : Value), vs[i]? = some u → vs'[i]? = some u) : Rl X z' vs' E fr := fun d => rel.mono (h d) hz hv
theorem Rl.cons (h : Rl X z vs E fr) {d : Nat} {s : SV D} (hs : rel X.G z vs s (fr d)) : Rl X z vs ((d, s) :: E) fr := fun i => by
  simp only [lkE]
  split
  · rename_i hi
    have : d = i := Nat.eq_of_beq_eq_true hi
    subst this; exact hs
  · exact h i
theorem Rl.put (h : Rl X z vs E fr) {d : Option Nat} {s : SV D} {v : Value} (hs : rel X.G z vs s v) : Rl X z vs (putE E d s) (set fr d v) := by
  cases d with
  | none => exact h
  | some d =>
    intro i
    simp only [putE, lkE, set]
    split
    · rename_i hi
      have : d = i := Nat.eq_of_beq_eq_true hi
      subst this; rw [if_pos rfl]; exact hs
    · rename_i hi
      rw [if_neg]
      · exact h i
      · intro hh; subst hh; simp at hi
def Nx (X : Ev P D) (O : List (Ob D)) (z : Nat → Blk) (e : Mem) (k : Option Nat) (vs : List Value) (K : List (Nat × SV D) → List (Ob D) → Option ρ) (r : ρ) (fr' : Nat → Value) (m' : Mem) : Prop :=
  ∃ z' vs' E' O', Inv O O' ∧ Zx e.next z z' ∧ (∀ (i : Nat) (u : Value), vs[i]? = some u → vs'[i]? = some u) ∧ Mm X.G O' z' e m' k vs' ∧ Rl X z' vs' E' fr' ∧ K E' O' = some r
theorem Nx.from {K : List (Nat × SV D) → List (Ob D) → Option ρ} {fr' : Nat → Value} {z1 : Nat → Blk} {vs1 : List Value} {O1 : List (Ob D)} (hi : Inv O O1) (hz : Zx e.next z z1) (hv : ∀ (i : Nat) (u : Value), vs[i]? = some u → vs1[i]? = some u) (h : Nx X O1 z1 e k vs1 K r fr' m') : Nx X O z e k vs K r fr' m' := by
  obtain ⟨z', vs', sv, O', h0, h1, h2, h3, h4, h5⟩ := h
  exact ⟨z', vs', sv, O', hi.trans h0, hz.trans h1, fun i u hu => h2 i u (hv i u hu), h3, h4, h5⟩
theorem Nx.here {K : List (Nat × SV D) → List (Ob D) → Option ρ} (hM : Mm X.G O z e m k vs) (hE : Rl X z vs E fr) (hK : K E O = some r) : Nx X O z e k vs K r fr m := ⟨z, vs, E, O, Inv.refl O, Zx.refl z, fun _ _ h => h, hM, hE, hK⟩
theorem splitE_ok {d : Nat} {K : List (Nat × SV D) → Option ρ} (hE : Rl X z vs E fr) (h : splitE E d K = some r) : ∃ E', Rl X z vs E' fr ∧ K E' = some r := by
  unfold splitE at h
  have hd := hE d
  split at h
  · rename_i b hs
    rw [hs] at hd
    cases b with
    | true => rw [if_pos rfl] at h; exact ⟨_, hE.cons (s := .c (.bool true)) hd, h⟩
    | false => rw [if_neg (by simp)] at h; exact ⟨_, hE.cons (s := .c (.bool false)) hd, h⟩
  · exact ⟨_, hE, h⟩
  · cases h
theorem opP_ok (hC : COk X) {K : List (Nat × SV D) → List (Ob D) → Option ρ} (hM : Mm X.G O z e m k vs) (hE : Rl X z vs E fr) (h : opP X o E O K = some r) : StepX P (ev fr) o m fun _ v m' => Nx X O z e k vs K r (set fr o.dst v) m' := by
  have go : ∀ {E : List (Nat × SV D)}, Rl X z vs E fr → op1 X o.op E O (fun v O => K (putE E o.dst v) O) = some r → StepX P (ev fr) o m fun _ v m' => Nx X O z e k vs K r (set fr o.dst v) m' := by
    intro E hE h
    refine StepX.mono (op1_ok hC rfl hM (look_rel hE) h) ?_
    rintro t v m' ⟨z', vs', sv, O', h0, h1, h2, h3, h4, h5⟩
    exact ⟨z', vs', _, O', h0, h1, h2, h3, (hE.mono h1.le h2).put h4, h5⟩
  unfold opP at h
  split at h
  · obtain ⟨E', hE', h⟩ := splitE_ok hE h
    exact go hE' h
  · exact go hE h
theorem runL_ok (hC : COk X) {ops : List Oper} {K : List (Nat × SV D) → List (Ob D) → Option ρ} : ∀ {l : List Oper} {E : List (Nat × SV D)} {O : List (Ob D)} {z : Nat → Blk} {vs : List Value} {m : Mem} {fr : Nat → Value}, Mm X.G O z e m k vs → Rl X z vs E fr → runL X ops l E O K = some r → SeqW P ops l (Nx X O z e k vs K r) fr m
  | [], E, O, z, vs, m, fr, hM, hE, h => SeqW.nil (Nx.here hM hE h)
  | o :: l, E, O, z, vs, m, fr, hM, hE, h => by
    unfold runL at h
    have step : ∀ {E : List (Nat × SV D)}, Rl X z vs E fr → (opP X o E O fun E O => runL X ops l E O K) = some r → StepX P (ev fr) o m fun _ v m1 => SeqW P ops l (Nx X O z e k vs K r) (set fr o.dst v) m1 := by
      intro E hE h
      refine StepX.mono (opP_ok hC hM hE h) ?_
      rintro t v m1 ⟨z', vs', E', O', h0, h1, h2, h3, h4, h5⟩
      exact SeqW.mono (runL_ok hC h3 h4 h5) fun _ _ hn => hn.from h0 h1 h2
    split at h
    · rename_i hg
      exact SeqW.consX (by simp only [wanted, hg]) (step hE h)
    · rename_i j want hg
      split at h
      · cases h
      · rename_i d hd
        obtain ⟨E1, hE1, h⟩ := splitE_ok hE h
        have hv := hE1 d
        split at h
        · rename_i b hs
          rw [hs] at hv
          split at h
          · rename_i hb
            exact SeqW.consG hg hd hv hb (step hE1 h)
          · rename_i hb
            exact SeqW.skipG hg hd hv (by cases b <;> cases want <;> simp at hb ⊢) (runL_ok hC hM (hE1.put (s := .undef) rfl) h)
        · rename_i hs
          rw [hs] at hv
          exact SeqW.skipU hg hd hv (runL_ok hC hM (hE1.put (s := .undef) rfl) h)
        · cases h
variable {z0 : Nat → Blk}
theorem splitE_ok2 {d : Nat} {K : List (Nat × SV D) → Option ρ} (hE : Rl X z vs E fr) (h : splitE E d K = some r) : ∃ E', Rl X z vs E' fr ∧ (∀ c, lkE E' c = lkE E c ∨ isFz (lkE E' c) = false) ∧ K E' = some r := by
  have hd := hE d
  have nz : ∀ {b : Bool} (c : Nat), lkE ((d, .c (.bool b)) :: E) c = lkE E c ∨ isFz (lkE ((d, .c (.bool b)) :: E) c) = false := by
    intro b c
    simp only [lkE]
    split
    · exact .inr rfl
    · exact .inl rfl
  unfold splitE at h
  split at h
  · rename_i b hb
    rw [hb] at hd
    have hd : fr d = .bool b := hd
    split at h
    · rename_i ht
      exact ⟨_, hE.cons (by rw [hd, ht]; exact rfl), nz, h⟩
    · rename_i ht
      exact ⟨_, hE.cons (by rw [hd]; cases b with | true => exact absurd rfl ht | false => exact rfl), nz, h⟩
  · exact ⟨E, hE, fun _ => .inl rfl, h⟩
  · cases h
theorem Lg2.split {n0 : Nat} {A : Acc} {L : Lg} {E' : List (Nat × SV D)} (h : Lg2 n0 z0 z fr E m A L) (hq : ∀ c, lkE E' c = lkE E c ∨ isFz (lkE E' c) = false) : Lg2 n0 z0 z fr E' m A L := ⟨h.le, h.n, h.lt, h.fl, fun d hd hf => by
  rcases hq d with hq | hq
  · rw [hq] at hf; exact h.old d hd hf
  · rw [hq] at hf; cases hf⟩
theorem Lg2.skip {n0 : Nat} {A : Acc} {L : Lg} {dst : Option Nat} (h : Lg2 n0 z0 z fr E m A L) : Lg2 n0 z0 z (set fr dst undef) (putE E dst .undef) m A L := by
  cases dst with
  | none => exact h
  | some d =>
    refine ⟨h.le, h.n, h.lt, h.fl, fun c hc hf b hb => ?_⟩
    simp only [putE, lkE] at hf
    split at hf
    · cases hf
    · rename_i hcd
      have : c ≠ d := by rintro rfl; simp at hcd
      simp only [set, if_neg this] at hb
      exact h.old c hc hf b hb
theorem opD1_ok (hC : COk X) {B : Array Nat} {ops l : List Oper} {i : Nat} {A : Acc} {L : Lg} {n0 : Nat} {Q : (Nat → Value) → Mem → Prop} {K : Lg → List (Nat × SV D) → List (Ob D) → Option ρ} (hM : Mm X.G O z e m k vs) (hE : Rl X z vs E fr) (hL : LgOk z m vs A L) (hg : Lg2 n0 z0 z fr E m A L) (h : opD1 X B i o L E O K = some r)
    (hk : ∀ {z' : Nat → Blk} {vs' : List Value} {m' : Mem} {A' : Acc} {L' : Lg} {E' : List (Nat × SV D)} {O' : List (Ob D)} {v : Value}, Inv O O' → Zx e.next z z' → (∀ (i : Nat) (u : Value), vs[i]? = some u → vs'[i]? = some u) → Mm X.G O' z' e m' k vs' → Rl X z' vs' E' (set fr o.dst v) → LgOk z' m' vs' A' L' → Lg2 n0 z0 z' (set fr o.dst v) E' m' A' L' → K L' E' O' = some r → DrawW P ops B (i + 1) l A' Q (set fr o.dst v) m') :
    StepX P (ev fr) o m fun t v m1 => obl B i A m t m1 ∧ DrawW P ops B (i + 1) l (accT A i m t) Q (set fr o.dst v) m1 := by
  have hR := look_rel hE
  unfold opD1 at h
  split at h
  · rename_i hef
    split at h
    · rename_i ts ht
      obtain ⟨hchk, h⟩ := ite_some h
      have clash : ∀ {v : Value}, ReadR P (ev fr) o m v → False := fun hr => by
        have := read_looks hr
        revert this hef
        cases o.op <;> simp [isEff, looks]
      have clash' : ∀ {Y : Blk} {v : Value}, NewR P (ev fr) o m.next Y v → False := fun hr => by
        have := new_makes hr
        revert this hef
        cases o.op <;> simp [isEff, makes]
      have nd : drvS E L o.op = true → False := fun hd => by
        revert hd hef
        cases o.op <;> simp [isEff, drvS]
      refine (opT_ok hC hM hR hef ht h).monoE (fun v _ hh => ?_) (fun v hr _ => (clash hr).elim) (fun Y v hr _ => (clash' hr).elim) fun n v m' he hh => ?_
      · obtain ⟨_, ⟨z', vs', sv, O', h0, h1, h2, h3, h4, h5⟩, hqt, q, hc, hq⟩ := hh
        obtain ⟨g1, g2⟩ := hL.eff (B := B) (qt := quietOf X E O o.op) hM h1.le h2 (Chg.any (Chg.refl m) none) (.inl rfl) (fun _ => rfl) hchk
        have e2 := (hg.eff (O := O) (ts := ts) (q := none) (i := i) (qt := quietOf X E O o.op) (Chg.refl m) (fun b _ => by simp)).zle h1.le
        exact ⟨trivial, hk h0 h1 h2 h3 ((hE.mono h1.le h2).put h4) (ynLg_ok ⟨g2.rd, fun x hx => g2.ef x (List.mem_cons_of_mem _ hx), g2.nw⟩) (Lg2.put ⟨e2.le, e2.n, e2.lt, fun x hx => e2.fl x (List.mem_cons_of_mem _ hx), e2.old⟩ fun hd => (nd hd).elim) h5⟩
      · obtain ⟨⟨z', vs', sv, O', h0, h1, h2, h3, h4, h5⟩, hqt, q, hc, hq⟩ := hh
        obtain ⟨g1, g2⟩ := hL.eff (B := B) hM h1.le h2 hc hq hqt hchk
        exact ⟨g1, hk h0 h1 h2 h3 ((hE.mono h1.le h2).put h4) (ynLg_ok g2) (Lg2.put ((hg.eff hc (tgt_dead hM (Bool.and_eq_true_iff.1 hchk).1 hq hg.le)).zle h1.le) fun hd => (nd hd).elim) h5⟩
    · cases h
  · rename_i hef
    split at h
    · rename_i s hs
      obtain ⟨hchk, h⟩ := ite_some h
      refine (op1_ok hC rfl hM hR h).monoE (fun v hp hh => ?_) (fun v hr hh => ?_) (fun Y v hr hh => ?_) fun n v m' he _ => absurd (eff_isEff he) hef
      · obtain ⟨_, z', vs', sv, O', h0, h1, h2, h3, h4, h5⟩ := hh
        dsimp only at h5
        split at h5
        · rename_i n hn
          exact ⟨trivial, hk h0 h1 h2 h3 ((hE.mono h1.le h2).put h4) (ynLg_ok ((hL.quiet h1.le h2 rfl).sup i s n)) (Lg2.put (L := rdLg i s n L) ((hg.zle h1.le).log rfl rfl) fun hd => pure_drv hg hd hp) h5⟩
        · cases h5
      · obtain ⟨z', vs', sv, O', h0, h1, h2, h3, h4, h5⟩ := hh
        dsimp only at h5
        split at h5
        · rename_i n hn
          obtain ⟨g1, g2⟩ := hL.read (n := n) (B := B) (i := i) hM hR h1.le h2 hs hchk hr hg
          exact ⟨g1, hk h0 h1 h2 h3 ((hE.mono h1.le h2).put h4) (ynLg_ok g2) (Lg2.put (L := rdLg i s n L) ((hg.zle h1.le).log rfl rfl) fun hd => (by
            have := read_looks hr
            revert this hd
            cases o.op <;> simp [drvS, looks])) h5⟩
        · cases h5
      · obtain ⟨z', vs', sv, O', h0, h1, h2, h3, h4, h5⟩ := hh
        dsimp only at h5
        split at h5
        · rename_i n hn
          rw [nwOf, if_pos (new_makes hr)] at hn
          obtain ⟨j, rfl, hj⟩ := new_of hr h4 hn
          exact ⟨trivial, hk h0 h1 h2 h3 ((hE.mono h1.le h2).put h4) (ynLg_ok (hL.new (i := i) (s := s) (Y := Y) h1.le h2 hj)) (Lg2.put (L := rdLg i s (some j) L) (((hg.grow (Chg.push m Y)).zle h1.le).log rfl rfl) fun hd => (by
            have := new_makes hr
            revert this hd
            cases o.op <;> simp [drvS, makes])) h5⟩
        · cases h5
    · cases h
theorem opD_ok (hC : COk X) {B : Array Nat} {ops l : List Oper} {i : Nat} {A : Acc} {L : Lg} {n0 : Nat} {Q : (Nat → Value) → Mem → Prop} {K : Lg → List (Nat × SV D) → List (Ob D) → Option ρ} (hM : Mm X.G O z e m k vs) (hE : Rl X z vs E fr) (hL : LgOk z m vs A L) (hg : Lg2 n0 z0 z fr E m A L) (h : opD X B i o L E O K = some r)
    (hk : ∀ {z' : Nat → Blk} {vs' : List Value} {m' : Mem} {A' : Acc} {L' : Lg} {E' : List (Nat × SV D)} {O' : List (Ob D)} {v : Value}, Inv O O' → Zx e.next z z' → (∀ (i : Nat) (u : Value), vs[i]? = some u → vs'[i]? = some u) → Mm X.G O' z' e m' k vs' → Rl X z' vs' E' (set fr o.dst v) → LgOk z' m' vs' A' L' → Lg2 n0 z0 z' (set fr o.dst v) E' m' A' L' → K L' E' O' = some r → DrawW P ops B (i + 1) l A' Q (set fr o.dst v) m') :
    StepX P (ev fr) o m fun t v m1 => obl B i A m t m1 ∧ DrawW P ops B (i + 1) l (accT A i m t) Q (set fr o.dst v) m1 := by
  unfold opD at h
  split at h
  · rename_i dd hpd
    obtain ⟨E', hE', hq, h⟩ := splitE_ok2 hE h
    have hg' := hg.split hq
    exact opD1_ok hC hM hE' hL hg' h hk
  · exact opD1_ok hC hM hE hL hg h hk
theorem DrawW.mono {ops l : List Oper} {B : Array Nat} {i : Nat} {A : Acc} {K K' : (Nat → Value) → Mem → Prop} (h : DrawW P ops B i l A K fr m) (hk : ∀ fr m, K fr m → K' fr m) : DrawW P ops B i l A K' fr m :=
  let ⟨n, fr', m', h1, h2⟩ := h; ⟨n, fr', m', h1, hk _ _ h2⟩
theorem runD_ok (hC : COk X) {B : Array Nat} {ops : List Oper} {n0 : Nat} {K : List (Nat × SV D) → List (Ob D) → Option ρ} : ∀ {l : List Oper} {i : Nat} {A : Acc} {L : Lg} {E : List (Nat × SV D)} {O : List (Ob D)} {z : Nat → Blk} {vs : List Value} {m : Mem} {fr : Nat → Value}, Mm X.G O z e m k vs → Rl X z vs E fr → LgOk z m vs A L → Lg2 n0 z0 z fr E m A L → runD X B ops i l L E O K = some r → DrawW P ops B i l A (Nx X O z e k vs K r) fr m
  | [], i, A, L, E, O, z, vs, m, fr, hM, hE, hL, hG, h => DrawW.done fun fr' hf => by rw [hf]; exact Nx.here hM hE h
  | o :: l, i, A, L, E, O, z, vs, m, fr, hM, hE, hL, hG, h => by
    unfold runD at h
    have step : ∀ {E : List (Nat × SV D)}, Rl X z vs E fr → Lg2 n0 z0 z fr E m A L → (opD X B i o L E O fun L E O => runD X B ops (i + 1) l L E O K) = some r → StepX P (ev fr) o m fun t v m1 => obl B i A m t m1 ∧ DrawW P ops B (i + 1) l (accT A i m t) (Nx X O z e k vs K r) (set fr o.dst v) m1 := by
      intro E hE hg h
      refine opD_ok hC hM hE hL hg h ?_
      intro z' vs' m' A' L' E' O' v h0 h1 h2 h3 h4 h5 h7 h6
      exact DrawW.mono (runD_ok hC h3 h4 h5 h7 h6) fun _ _ hn => hn.from h0 h1 h2
    split at h
    · rename_i hg
      exact DrawW.cons (by simp only [wanted, hg]) (step hE hG h)
    · rename_i j want hg
      split at h
      · cases h
      · rename_i d hd
        obtain ⟨E1, hE1, hq1, h⟩ := splitE_ok2 hE h
        have hg1 := hG.split hq1
        have hv := hE1 d
        split at h
        · rename_i b hs
          rw [hs] at hv
          split at h
          · rename_i hb
            exact DrawW.consG hg hd hv hb (step hE1 hg1 h)
          · rename_i hb
            exact DrawW.skipG hg hd hv (by cases b <;> cases want <;> simp at hb ⊢) (runD_ok hC hM (hE1.put (s := .undef) rfl) hL hg1.skip h)
        · rename_i hs
          rw [hs] at hv
          exact DrawW.skipU hg hd hv (runD_ok hC hM (hE1.put (s := .undef) rfl) hL hg1.skip h)
        · cases h
theorem LgOk.start : LgOk z m vs ⟨[], [], []⟩ ⟨[], [], [], [], []⟩ := ⟨by simp, by simp, by simp⟩
def PcOk (X : Ev P D) (B : Code) (u : Pc D) : Prop := ∀ {ρ : Type} (E : List (Nat × SV D)) (O : List (Ob D)) (K : AExit → List (Nat × SV D) → List (Ob D) → Option ρ) (r : ρ) {z : Nat → Blk} {e m : Mem} {k : Option Nat} {vs : List Value} {fr : Nat → Value},
  u.fits E O = true → Mm X.G O z e m k vs → Rl X z vs E fr → u.run E O K = some r → W P (sub B u.path) (fun x => Nx X O z e k vs (K x) r) fr m
theorem sub_app : ∀ (c : Code) (p q : List Nat), sub (sub c p) q = sub c (p ++ q) := by
  intro c p
  induction p generalizing c with
  | nil => intro q; cases c <;> rfl
  | cons i p ih =>
    intro q
    cases c with
    | seq a b => cases i with
      | zero => exact ih a q
      | succ i => exact ih b q
    | cond x a b => cases i with
      | zero => exact ih a q
      | succ i => exact ih b q
    | block n c => cases i with
      | zero => exact ih c q
      | succ i => exact ih c q
    | loop c => cases i with
      | zero => exact ih c q
      | succ i => exact ih c q
    | _ => rcases q with _ | ⟨_ | j, q⟩ <;> cases i <;> rfl
theorem sub_snoc {B c : Code} {p : List Nat} {i : Nat} (h : sub B p.reverse = c) : sub B (i :: p).reverse = sub c [i] := by rw [List.reverse_cons, ← sub_app, h]
theorem sub_nil (c : Code) : sub c [] = c := by cases c <;> rfl
theorem eqP_eq : ∀ {p q : List Nat}, eqP p q = true → p = q
  | [], [], _ => rfl
  | a :: p, b :: q, h => by
    simp only [eqP, Bool.and_eq_true] at h
    rw [Nat.eq_of_beq_eq_true h.1, eqP_eq h.2]
  | [], _ :: _, h => by cases h
  | _ :: _, [], h => by cases h
theorem findP_some {us : List (Pc D)} {p : List Nat} {u : Pc D} (h : findP us p E O = some u) : u ∈ us ∧ u.path = p ∧ u.fits E O = true := by
  induction us with
  | nil => cases h
  | cons w us ih =>
    simp only [findP] at h
    split at h
    · rename_i hw
      cases h
      simp only [Bool.and_eq_true] at hw
      exact ⟨List.mem_cons_self, eqP_eq hw.1, hw.2⟩
    · obtain ⟨h1, h2⟩ := ih h
      exact ⟨List.mem_cons_of_mem _ h1, h2⟩
theorem fillA_ok : ∀ {n : Nat} {O O1 : List (Ob D)} {z : Nat → Blk} {m : Mem} {vs : List Value}, Mm X.G O z e m k vs → fillA n O = some O1 → ∃ z', Inv O O1 ∧ Zx e.next z z' ∧ Mm X.G O1 z' e m k vs
  | 0, O, O1, z, m, vs, hM, h => by cases h; exact ⟨z, Inv.refl O, Zx.refl z, hM⟩
  | n + 1, O, O1, z, m, vs, hM, h => by
    simp only [fillA] at h
    split at h
    · rename_i O2 h2
      obtain ⟨z1, a1, a2, a3⟩ := fillA_ok hM h2
      split at h
      · split at h
        · cases h; exact ⟨z1, a1, a2, a3⟩
        · obtain ⟨z2, b1, b2, b3⟩ := fillN_ok a3 h
          exact ⟨z2, a1.trans b1, a2.trans b2, b3⟩
      · cases h; exact ⟨z1, a1, a2, a3⟩
    · cases h
theorem Nx.fill {K : List (Nat × SV D) → List (Ob D) → Option ρ} {r : ρ} {vs : List Value} {m' : Mem} {fr' : Nat → Value} (h : Nx X O z e k vs (fillK K) r fr' m') : Nx X O z e k vs K r fr' m' := by
  obtain ⟨z1, vs1, E1, O1, h0, h1, h2, h3, h4, h5⟩ := h
  unfold fillK at h5
  split at h5
  · rename_i O2 hf
    obtain ⟨z2, a1, a2, a3⟩ := fillA_ok h3 hf
    exact ⟨z2, vs1, E1, O2, h0.trans a1, h1.trans a2, h2, a3, h4.mono a2.le fun _ _ h => h, h5⟩
  · cases h5
theorem exC_ok (hC : COk X) {B : Code} {us : List (Pc D)} {L : Nat} (hus : ∀ u ∈ us, L < u.path.length → PcOk X B u) :
    ∀ (c : Code) (top : Bool) (p : List Nat) (E : List (Nat × SV D)) (O : List (Ob D)) (K : AExit → List (Nat × SV D) → List (Ob D) → Option ρ) (r : ρ) {z : Nat → Blk} {vs : List Value} {m : Mem} {fr : Nat → Value},
      sub B p.reverse = c → L ≤ p.length → (top = false → L < p.length) → Mm X.G O z e m k vs → Rl X z vs E fr → exC X us calm top p c E O K = some r → W P c (fun x => Nx X O z e k vs (K x) r) fr m := by
  intro c
  have piece : ∀ {c : Code} {top : Bool} {p : List Nat} {E : List (Nat × SV D)} {O : List (Ob D)} {K : AExit → List (Nat × SV D) → List (Ob D) → Option ρ} {r : ρ} {z : Nat → Blk} {vs : List Value} {m : Mem} {fr : Nat → Value} {u : Pc D},
      sub B p.reverse = c → (top = false → L < p.length) → Mm X.G O z e m k vs → Rl X z vs E fr → (if top = true then none else findP us p.reverse E O) = some u → u.run E O K = some r → W P c (fun x => Nx X O z e k vs (K x) r) fr m := by
    intro c top p E O K r z vs m fr u hp ht hM hE hu h
    cases top with
    | true => cases hu
    | false =>
      obtain ⟨h1, h2, h3⟩ := findP_some hu
      have := hus u h1 (by rw [h2, List.length_reverse]; exact ht rfl) E O K r h3 hM hE h
      rw [h2, hp] at this
      exact this
  induction c with
  | seq a b iha ihb =>
    intro top p E O K r z vs m fr hp hL ht hM hE h
    simp only [exC] at h
    split at h
    · rename_i u hu
      exact piece hp ht hM hE hu h
    · refine W.seq ((iha false (0 :: p) E O _ r (by rw [sub_snoc hp]; exact sub_nil a) (by simp; omega) (fun _ => by simp; omega) hM hE h).mono ?_)
      rintro x fr1 m1 ⟨z1, vs1, E1, O1, h0, h1, h2, h3, h4, h5⟩
      cases x with
      | normal =>
        have h5 := (if_pos rfl).symm.trans h5
        exact (ihb false (1 :: p) E1 O1 K r (by rw [sub_snoc hp]; exact sub_nil b) (by simp; omega) (fun _ => by simp; omega) h3 h4 h5).mono fun _ _ _ hn => hn.from h0 h1 h2
      | exit i => exact ⟨z1, vs1, E1, O1, h0, h1, h2, h3, h4, (if_neg (by simp)).symm.trans h5⟩
      | ret => exact ⟨z1, vs1, E1, O1, h0, h1, h2, h3, h4, (if_neg (by simp)).symm.trans h5⟩
  | cond x a b iha ihb =>
    intro top p E O K r z vs m fr hp hL ht hM hE h
    simp only [exC] at h
    split at h
    · rename_i u hu
      exact piece hp ht hM hE hu h
    · split at h
      · rename_i t hs
        have hx := look_rel hE x
        rw [hs] at hx
        cases t with
        | true =>
          rw [if_pos rfl] at h
          exact W.condT hx rfl (iha false (0 :: p) E O K r (by rw [sub_snoc hp]; exact sub_nil a) (by simp; omega) (fun _ => by simp; omega) hM hE h)
        | false =>
          rw [if_neg (by simp)] at h
          exact W.condF hx rfl (ihb false (1 :: p) E O K r (by rw [sub_snoc hp]; exact sub_nil b) (by simp; omega) (fun _ => by simp; omega) hM hE h)
      · cases h
  | block i c ih =>
    intro top p E O K r z vs m fr hp hL ht hM hE h
    simp only [exC] at h
    split at h
    · rename_i u hu
      exact piece hp ht hM hE hu h
    · refine W.block ((ih false (0 :: p) E O _ r (by rw [sub_snoc hp]; exact sub_nil c) (by simp; omega) (fun _ => by simp; omega) hM hE h).mono ?_)
      rintro x fr1 m1 hn
      obtain ⟨z1, vs1, E1, O1, h0, h1, h2, h3, h4, h5⟩ := hn
      cases x with
      | normal => exact ⟨z1, vs1, E1, O1, h0, h1, h2, h3, h4, by simpa using h5⟩
      | exit j =>
        by_cases hij : j = i
        · subst hij; exact blockQ.hit ⟨z1, vs1, E1, O1, h0, h1, h2, h3, h4, by simpa using h5⟩
        · exact blockQ.miss (by simpa using hij) ⟨z1, vs1, E1, O1, h0, h1, h2, h3, h4, by simpa [hij] using h5⟩
      | ret => exact ⟨z1, vs1, E1, O1, h0, h1, h2, h3, h4, by simpa using h5⟩
  | region id ops d =>
    intro top p E O K r z vs m fr hp hL ht hM hE h
    simp only [exC] at h
    split at h
    · rename_i u hu
      exact piece hp ht hM hE hu h
    · cases d with
      | true =>
        rw [if_pos rfl] at h
        split at h
        · rename_i hc
          exact (W.calm (Q := fun x => Nx X O z e k vs (fillK (K x)) r) hc (runL_ok hC hM hE h)).mono fun _ _ _ hn => hn.fill
        · exact (W.draw (Q := fun x => Nx X O z e k vs (fillK (K x)) r) (runD_ok hC hM hE LgOk.start (Lg2.start hM hE) h)).mono fun _ _ _ hn => hn.fill
      | false =>
        rw [if_neg (by simp)] at h
        exact (W.region (Q := fun x => Nx X O z e k vs (fillK (K x)) r) (runL_ok hC hM hE h)).mono fun _ _ _ hn => hn.fill
  | loop c ih =>
    intro top p E O K r z vs m fr hp hL ht hM hE h
    simp only [exC] at h
    split at h
    · rename_i u hu
      exact piece hp ht hM hE hu h
    · cases h
  | skip => intro top p E O K r z vs m fr hp hL ht hM hE h; exact W.skip (Nx.here hM hE h)
  | label l => intro top p E O K r z vs m fr hp hL ht hM hE h; exact W.label (Nx.here hM hE h)
  | exit i => intro top p E O K r z vs m fr hp hL ht hM hE h; exact W.exit (Nx.here hM hE h)
  | ret => intro top p E O K r z vs m fr hp hL ht hM hE h; exact W.ret (Nx.here hM hE h)
  | _ => intro top p E O K r z vs m fr hp hL ht hM hE h; simp [exC] at h
end
end Go.AM
end
