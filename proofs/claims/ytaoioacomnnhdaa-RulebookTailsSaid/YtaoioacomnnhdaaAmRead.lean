/- The abstract machine's reads are those of the model. -/
import Derived.Test.YtaoioacomnnhdaaAmPure2
set_option linter.unusedSimpArgs false
set_option linter.unusedVariables false
namespace Go.AM

/-- What a read needs of the world. -/
structure RdOk (P : Program) (j : Emb) (m : Mem) (w : World) : Prop where
  load : ∀ b e o v, j b = some e → m.load b o = some v → ∃ cv, w.cell? ⟨e.blk, o, none⟩ = some cv ∧ VR0 j v cv
  own : ∀ b e L t, j b = some e → m.blk b = .own L t → P.cellsOf t = e.es ∧ L.length ≤ e.cap * e.es
  map : ∀ b e L u, j b = some e → m.blk b = .map L u → ObjR P j e w.heap[e.blk]? (.map L u)

theorem Rel.load {P : Program} {j : Emb} {m : Mem} {w : World} (h : Rel P j m w) (b : Nat) (e : Emb1) (o : Nat) (v : Value) (hj : j b = some e) (hl : m.load b o = some v) : ∃ cv, w.cell? ⟨e.blk, o, none⟩ = some cv ∧ VR0 j v cv := by
  unfold Mem.load at hl
  have ho := h.obj b e hj
  cases hb : m.blk b with
  | dead => simp [hb] at hl
  | map L u => simp [hb] at hl
  | ro rd =>
    simp only [hb] at hl ho
    obtain ⟨cs, t, fz, cv, h1, h2, h3⟩ := ho o v hl
    exact ⟨cv, by simp [World.cell?, h1, h2], h3⟩
  | own L t =>
    simp only [hb] at hl
    obtain ⟨cs, fz, hw, hf, h1, h2, h3, h4⟩ := h.own b e L t hj hb
    obtain ⟨cv, hc, hr⟩ := h4 o v hl
    exact ⟨cv, by simp [World.cell?, hw, hc], hr⟩

theorem Rel.rdOk {P : Program} {j : Emb} {m : Mem} {w : World} (h : Rel P j m w) : RdOk P j m w :=
  ⟨h.load, fun b e L t hj hb => by
    obtain ⟨cs, fz, hw, hf, h1, h2, h3, h4⟩ := h.own b e L t hj hb
    exact ⟨h1, by omega⟩, fun b e L u hj hb => by have := h.obj b e hj; rw [hb] at this; exact this⟩

theorem rdN_sound {P : Program} {j : Emb} {m : Mem} {w : World} (h : RdOk P j m w) {b : Nat} {e : Emb1} (hj : j b = some e) : ∀ (n o : Nat) (cs : List Value), rdN m b o n = some cs →
    ∃ ds : List Value, L2 (VR0 j) cs ds ∧ ds.length = n ∧ ∀ (i : Nat) (u : Value), ds[i]? = some u → w.cell? ⟨e.blk, o + i, none⟩ = some u
  | 0, o, cs, hr => by simp only [rdN, Option.some.injEq] at hr; subst hr; exact ⟨[], True.intro, rfl, fun i u hu => by simp at hu⟩
  | n + 1, o, cs, hr => by
    simp only [rdN] at hr
    cases h1 : m.load b o with
    | none => simp [h1] at hr
    | some v =>
      cases h2 : rdN m b (o + 1) n with
      | none => simp [h1, h2] at hr
      | some l =>
        simp only [h1, h2, Option.some.injEq] at hr
        subst hr
        obtain ⟨cv, hc, hv⟩ := h.load b e o v hj h1
        obtain ⟨ds, hl, hn, hd⟩ := rdN_sound h hj n (o + 1) l h2
        refine ⟨cv :: ds, ⟨hv, hl⟩, by simp [hn], fun i u hu => ?_⟩
        cases i with
        | zero => simp at hu; subst hu; simpa using hc
        | succ i =>
          have := hd i u (by simpa using hu)
          rw [show o + (i + 1) = o + 1 + i by omega]; exact this

theorem rdN_length {m : Mem} {b : Nat} : ∀ (n o : Nat) (cs : List Value), rdN m b o n = some cs → cs.length = n
  | 0, o, cs, hr => by simp only [rdN, Option.some.injEq] at hr; subst hr; rfl
  | n + 1, o, cs, hr => by
    simp only [rdN] at hr
    cases h1 : m.load b o with
    | none => simp [h1] at hr
    | some v =>
      cases h2 : rdN m b (o + 1) n with
      | none => simp [h1, h2] at hr
      | some l =>
        simp only [h1, h2, Option.some.injEq] at hr
        subst hr
        simp [rdN_length n (o + 1) l h2]

theorem run_cells {P : Program} {w : World} {c o n : Nat} {ds : List Value} (hn : ds.length = n) (hd : ∀ (i : Nat) (u : Value), ds[i]? = some u → w.cell? ⟨c, o + i, none⟩ = some u) : (loadCells ⟨c, o, none⟩ n).run P w = .ok ds.toArray w := by
  rw [← hn]
  exact run_loadCells_list w ⟨c, o, none⟩ ds (fun i u hu => by rw [add_none]; exact hd i u hu)

theorem run_cells0 {P : Program} {w : World} {a : Addr} : (loadCells a 0).run P w = .ok #[] w := rfl

theorem bytes_push {P : Program} (w : World) : ∀ (cs : List UInt8) (s : ByteArray) (f : Value → ByteArray → Sem (ForInStep ByteArray)),
    (∀ u s, f (.int .u8 (u : UInt8).toNat) s = pure (.yield (s.push u))) →
    (forIn (cs.map fun u => Value.int .u8 (u.toNat : Int)) s f).run P w = .ok (⟨s.data ++ cs.toArray⟩ : ByteArray) w
  | [], s, f, hf => by simp
  | u :: cs, s, f, hf => by
    simp only [List.map_cons, List.forIn_cons, hf, pure_bind, bytes_push w cs (s.push u) f hf]
    congr 1
    simp [ByteArray.push]

theorem u8_back (u : UInt8) : UInt8.ofNat ((u.toNat : Int).toNat) = u := by simp

theorem run_gm {P : Program} {w : World} {r : Nat} {es : Array MapEntry} {clock : Nat} (hb : w.heap[r]? = some (.map es clock)) : (getObj r).run P w = .ok (.map es clock) w := by
  simp [getObj, Sem.run, hb]
theorem run_sm {P : Program} {w : World} {r : Nat} {es : Array MapEntry} {clock : Nat} (o : Obj) (hb : w.heap[r]? = some (.map es clock)) : (setObj r o).run P w = .ok () { w with heap := w.heap.setIfInBounds r o } := by
  simp [setObj, Sem.run, hb]

theorem EntL.uniq {ks vs : Nat} (hk : 0 < ks) : ∀ {L : List Value} {E E' : List (List Value × List Value)}, EntL ks vs L E → EntL ks vs L E' → E = E'
  | L, [], [], _, _ => rfl
  | L, [], p :: E', h, h' => by
    have h1 := h.eq
    rw [h'.eq] at h1
    have := (h'.len p (by simp)).1
    have h2 := congrArg List.length h1
    rw [List.flatMap_cons, List.length_append, List.length_append] at h2
    simp only [List.flatMap_nil, List.length_nil] at h2
    omega
  | L, p :: E, [], h, h' => by
    have h1 := h'.eq
    rw [h.eq] at h1
    have := (h.len p (by simp)).1
    have h2 := congrArg List.length h1
    rw [List.flatMap_cons, List.length_append, List.length_append] at h2
    simp only [List.flatMap_nil, List.length_nil] at h2
    omega
  | L, p :: E, q :: E', h, h' => by
    have h1 := h.eq
    rw [h'.eq] at h1
    simp only [List.flatMap_cons, List.append_assoc] at h1
    obtain ⟨e1, h1⟩ := List.append_inj h1 (by rw [(h.len p (by simp)).1, (h'.len q (by simp)).1])
    obtain ⟨e2, h1⟩ := List.append_inj h1 (by rw [(h.len p (by simp)).2, (h'.len q (by simp)).2])
    have ih := EntL.uniq hk (L := E.flatMap fun p => p.1 ++ p.2) (E := E) (E' := E') ⟨rfl, fun r hr => h.len r (by simp [hr])⟩ ⟨h1.symm, fun r hr => h'.len r (by simp [hr])⟩
    rw [ih]
    congr 1
    exact (Prod.ext e1 e2).symm

theorem Look.find {P : Program} {j : Emb} {kt vt : TypeId} {key z v : Value} {t : Bool} {E : List (List Value × List Value)} (h : Look (tyAgg P kt) (tyAgg P vt) key z E v t) : ∀ {es : List MapEntry} (i : Nat), L2 (EntW P j kt vt) E es →
    (t = true ∧ ∃ n cv, findV key es i = some (n, cv) ∧ VR1 j v cv) ∨ (t = false ∧ v = z ∧ findV key es i = none) := by
  induction h with
  | miss =>
    intro es i hE
    cases es with
    | nil => exact .inr ⟨rfl, rfl, rfl⟩
    | cons _ _ => exact hE.elim
  | hit p E h =>
    intro es i hE
    cases es with
    | nil => exact hE.elim
    | cons x es =>
      obtain ⟨⟨h1, h2, h3⟩, _⟩ := hE
      exact .inl ⟨rfl, i, x.val, by rw [findV, if_pos (h1.trans h)], h3⟩
  | next p E v b h hE ih =>
    intro es i hE
    cases es with
    | nil => exact hE.elim
    | cons x es =>
      obtain ⟨⟨h1, h2, h3⟩, hE⟩ := hE
      have := ih (i + 1) hE
      rw [findV, if_neg (fun hh => h (h1.symm.trans hh))]
      exact this

theorem good_keys {P : Program} {j : Emb} {kt vt : TypeId} {good : Value → Prop} : ∀ {E : List (List Value × List Value)} {es : List MapEntry}, L2 (EntW P j kt vt) E es → (∀ p ∈ E, good (cellV (tyAgg P kt) p.1)) → ∀ x ∈ es, good x.key
  | [], [], _, _, x, hx => by simp at hx
  | p :: E, y :: es, ⟨h1, h2⟩, hg, x, hx => by
    rcases List.mem_cons.1 hx with rfl | hx
    · rw [h1.1]; exact hg p (by simp)
    · exact good_keys h2 (fun q hq => hg q (by simp [hq])) x hx
  | [], _ :: _, h, _, _, _ => h.elim
  | _ :: _, [], h, _, _, _ => h.elim

theorem read_sound {P : Program} {j : Emb} {ρ cρ : Operand → Value} {o : Oper} {m : Mem} {v : Value} (h : ReadR P ρ o m v) (hO : OpsR j ρ cρ o) {w : World} (hR : RdOk P j m w) : ∃ cv, (execOp cρ o).run P w = .ok (.value cv) w ∧ VR j v cv := by
  cases h with
  | load t x b off d v h hx ht hd hv =>
    have hX := hO x (by simp [h, Op.operands])
    rw [hx] at hX
    obtain ⟨q, _, hj, hc⟩ := hX.ptr
    obtain ⟨cv, hcc, hr⟩ := hR.load b q off v hj hv
    exact ⟨cv, by simp [execOp, h, Instr.loadAt, hc, Instr.sureAddr, loadVar, run_ia ht, hd, hcc], VR.of0 hr⟩
  | loadA t x b off d i cs h hx ht hd hi hv =>
    have hX := hO x (by simp [h, Op.operands])
    rw [hx] at hX
    obtain ⟨q, _, hj, hc⟩ := hX.ptr
    obtain ⟨ds, hl, hn, hdd⟩ := rdN_sound hR hj _ _ _ hv
    exact ⟨.agg ds.toArray, by simp [execOp, h, Instr.loadAt, hc, Instr.sureAddr, loadVar, run_ia ht, hd, run_so hi, run_cells hn hdd], ⟨_, rfl, by simpa using hl⟩⟩
  | slice t x lo hi e i L b off l n h' h ht hi' hx hm hlo hhi h1 h2 h3 =>
    have hX := hO x (by simp [h, Op.operands])
    rw [hx] at hX
    obtain ⟨q, _, hj, hc⟩ := hX.slice
    obtain ⟨hes, _⟩ := hR.own b q L e hj hm
    have hsz : i.size = q.es := by simpa [Program.cellsOf, hi'] using hes
    have key : ∀ (o' cc : Nat), cρ x = .slice (some ⟨q.blk, o', none⟩) l cc → l ≤ cc →
        (execOp cρ o).run P w = .ok (.value (.slice (some ⟨q.blk, if cc = n then o' else o' + n * i.size, none⟩) (h' - n) (cc - n))) w := by
      intro o' cc hcx hle
      have hbnd : (Instr.sliceBounds true l cc (lo.map cρ) (hi.map cρ) none).run P w = .ok (n, h', cc) w := by
        cases lo with
        | none =>
          simp only [lowIs] at hlo
          subst hlo
          cases hi with
          | none => simp only [highIs] at hhi; subst hhi; simp [Instr.sliceBounds]
          | some y =>
            obtain ⟨k, hy⟩ := hhi
            have := OpsR.nums (hO y (by simp [h, Op.operands])) hy
            simp [Instr.sliceBounds, this, Instr.sliceBound, asIntOf, show h' ≤ cc by omega]
        | some u =>
          obtain ⟨k, hu⟩ := hlo
          have hu' := OpsR.nums (hO u (by simp [h, Op.operands])) hu
          cases hi with
          | none => simp only [highIs] at hhi; subst hhi; simp [Instr.sliceBounds, hu', Instr.sliceBound, asIntOf, h1]
          | some y =>
            obtain ⟨k', hy⟩ := hhi
            have := OpsR.nums (hO y (by simp [h, Op.operands])) hy
            simp [Instr.sliceBounds, this, hu', Instr.sliceBound, asIntOf, h1, show h' ≤ cc by omega]
      simp only [execOp, h, Instr.sliceAt, Sem.run_bind, run_u ht, Result.andThen_ok, Option.map_none, Instr.slice, hcx, hbnd, run_so hi', Sem.run_pure]
      congr 3
      split <;> simp [add_none]
    rcases hc with ⟨hlt, _⟩ | ⟨_, hpos, hle, hcap, hmod, hdiv, hc⟩ | ⟨_, hl0, o', hc⟩ | ⟨hc0, _⟩
    rotate_left 3
    · simp [BIG] at hc0
    · exact absurd hlt (Nat.lt_irrefl _)
    · have hle : l ≤ q.cap - off / q.es := hle
      have hmod : off % q.es = 0 := hmod
      have hdiv : off / q.es ≤ q.cap := hdiv
      refine ⟨_, key _ _ hc hle, ⟨q, rfl, hj, ?_⟩⟩
      by_cases hz : q.cap - off / q.es = n
      · have : h' - n = 0 := by omega
        right; right; left
        refine ⟨rfl, this, off, ?_⟩
        simp [hz, this]
      · right; left
        have hdv : (off + n * i.size) / q.es = off / q.es + n := by rw [hsz]; exact Nat.add_mul_div_right _ _ hpos
        refine ⟨rfl, hpos, ?_, hcap, ?_, ?_, ?_⟩
        · simp only [hdv]; omega
        · simp only [hsz, Nat.add_mul_mod_self_right]; exact hmod
        · simp only [hdv]; omega
        · simp only [hdv, if_neg hz]
          congr 1
          omega
    · subst hl0
      refine ⟨_, key _ _ hc (Nat.le_refl _), ⟨q, rfl, hj, ?_⟩⟩
      right; right; left
      refine ⟨rfl, by omega, o', ?_⟩
      have : n = 0 := by omega
      have : h' = 0 := by omega
      simp [*]
  | str s t x e b off l c cs h hs he ht hx hv =>
    have hX := hO x (by simp [h, Op.operands])
    rw [hx] at hX
    obtain ⟨q, _, hj, hc⟩ := hX.slice
    obtain ⟨ds, hl, hn, hdd⟩ := rdN_sound hR hj _ _ _ hv
    have hds : ds = cs.map fun u => .int .u8 u.toNat := L2.eq_of (p := flat0) (fun a b => flat0_eq (j := j)) (by simp [flat0]) hl
    subst hds
    refine ⟨.string ⟨cs.toArray⟩, ?_, rfl⟩
    have key : ∀ (a' : Addr) (cc : Nat), cρ x = .slice (some a') l cc → (a' = ⟨q.blk, off, none⟩ ∨ l = 0) → (execOp cρ o).run P w = .ok (.value (.string ⟨cs.toArray⟩)) w := by
      intro a' cc hcx ho
      have hlc : (loadCells a' l).run P w = .ok ((cs.map fun u => Value.int .u8 (u.toNat : Int)).toArray) w := by
        rcases ho with rfl | ho
        · exact run_cells hn hdd
        · subst ho
          have : cs = [] := by simpa using hn
          subst this
          exact run_cells0
      have hb : (Conv.bytesToString (.slice (some a') l cc)).run P w = .ok (.string ⟨cs.toArray⟩) w := by
        simp only [Conv.bytesToString, Sem.run_bind, hlc, Result.andThen_ok, List.forIn_toArray]
        rw [bytes_push (P := P) w cs ByteArray.empty _ (fun u s => by simp [u8_back])]
        simp [ByteArray.empty, ByteArray.emptyWithCapacity]
        rfl
      simp [execOp, h, convert, run_u hs, run_u ht, hcx, run_u he, hb]
    rcases hc with ⟨_, hc⟩ | ⟨_, _, _, _, _, _, hc⟩ | ⟨_, hl0, o', hc⟩ | ⟨_, hl0, a', hc⟩
    · exact key _ _ hc (.inl rfl)
    · exact key _ _ hc (.inl rfl)
    · exact key _ 0 (by rw [hc, hl0]) (.inr hl0)
    · exact key a' 0 (by rw [hc, hl0]) (.inr hl0)
  | strNil s t x e l c h hs he ht hx =>
    have hX := hO x (by simp [h, Op.operands])
    rw [hx] at hX
    have hcx := hX.sliceNil
    refine ⟨.string .empty, ?_, rfl⟩
    simp [execOp, h, convert, run_u hs, run_u ht, hcx, run_u he, Conv.bytesToString]
  | lookup xt x ix ok u kt vt b L E i z v0 t good h hxt hu hx hks hv1 K hf hk hg hi hz hzf hl =>
    have hX := hO x (by simp [h, Op.operands])
    have hcx := flat_eq hf (hO ix (by simp [h, Op.operands]))
    have core : ∃ (es : Array MapEntry), L2 (EntW P j kt vt) E es.toList ∧ ((∃ r clock, cρ x = .map (some r) ∧ w.heap[r]? = some (.map es clock)) ∨ (cρ x = .map none ∧ es = #[])) := by
      rcases hx with ⟨hx, hm, hE⟩ | ⟨hx, rfl⟩
      · rw [hx] at hX
        obtain ⟨q, hj, hc⟩ : ∃ q, j b = some q ∧ cρ x = .map (some q.blk) := hX
        obtain ⟨kt', vt', cs, clock, E', g1, g2, g3, g4⟩ := hR.map b q L u hj hm
        have hkv : kt' = kt ∧ vt' = vt := by rw [hu] at g2; simpa using g2.symm
        obtain ⟨rfl, rfl⟩ := hkv
        have := EntL.uniq hks hE g3
        subst this
        exact ⟨cs, g4, .inl ⟨_, _, hc, g1⟩⟩
      · rw [hx] at hX
        exact ⟨#[], True.intro, .inr ⟨hX, rfl⟩⟩
    obtain ⟨es, g4, hc⟩ := core
    have hfind := K.find (ρ ix) es.toList w hk (good_keys g4 hg)
    have hchk := K.check es.isEmpty (ρ ix) w hk
    have hf0 := hl.find 0 g4
    rcases hc with ⟨r, clock, hc, g1⟩ | ⟨hc, rfl⟩
    · rcases hf0 with ⟨rfl, n, cv, h1, h2⟩ | ⟨rfl, rfl, h1⟩
      · rw [h1] at hfind
        cases ok with
        | false => exact ⟨cv, by simp [execOp, h, Instr.lookup, run_u hxt, hc, run_gm g1, hcx, hchk, hfind], VR.of1 h2⟩
        | true => exact ⟨.tuple #[cv, .bool true], by simp [execOp, h, Instr.lookup, run_u hxt, hc, run_gm g1, hcx, hchk, hfind], ⟨_, rfl, h2, VR1.of0 rfl, True.intro⟩⟩
      · rw [h1] at hfind
        cases ok with
        | false => exact ⟨v0, by simp [execOp, h, Instr.lookup, run_u hxt, hc, run_gm g1, hcx, hchk, hfind, run_zv hi hz], VR.of1 (flat1_self hzf)⟩
        | true => exact ⟨.tuple #[v0, .bool false], by simp [execOp, h, Instr.lookup, run_u hxt, hc, run_gm g1, hcx, hchk, hfind, run_zv hi hz], ⟨_, rfl, flat1_self hzf, VR1.of0 rfl, True.intro⟩⟩
    · rcases hf0 with ⟨rfl, n, cv, h1, h2⟩ | ⟨rfl, rfl, h1⟩
      · simp [findV] at h1
      · rw [h1] at hfind
        simp only [List.isEmpty_toArray, List.isEmpty_nil] at hchk hfind
        have hchk := K.check true (ρ ix) w hk
        cases ok with
        | false => exact ⟨v0, by simp [execOp, h, Instr.lookup, run_u hxt, hc, hcx, hchk, hfind, run_zv hi hz], VR.of1 (flat1_self hzf)⟩
        | true => exact ⟨.tuple #[v0, .bool false], by simp [execOp, h, Instr.lookup, run_u hxt, hc, hcx, hchk, hfind, run_zv hi hz], ⟨_, rfl, flat1_self hzf, VR1.of0 rfl, True.intro⟩⟩

end Go.AM
