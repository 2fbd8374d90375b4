/- The abstract machine's reads are those of the model. -/
import Derived.Test.YthlaohffhjlkbaaAmPure2
set_option linter.unusedSimpArgs false
set_option linter.unusedVariables false
namespace Go.AM

/-- What a read needs of the world. -/
structure RdOk (P : Program) (j : Emb) (m : Mem) (w : World) : Prop where
  load : ∀ b e o v, j b = some e → m.load b o = some v → ∃ cv, w.cell? ⟨e.blk, o, none⟩ = some cv ∧ VR0 j v cv
  own : ∀ b e L t, j b = some e → m.blk b = .own L t → P.cellsOf t = e.es ∧ L.length ≤ e.cap * e.es

theorem Rel.load {P : Program} {j : Emb} {m : Mem} {w : World} (h : Rel P j m w) (b : Nat) (e : Emb1) (o : Nat) (v : Value) (hj : j b = some e) (hl : m.load b o = some v) : ∃ cv, w.cell? ⟨e.blk, o, none⟩ = some cv ∧ VR0 j v cv := by
  unfold Mem.load at hl
  cases hb : m.blk b with
  | dead => simp [hb] at hl
  | ro rd => simp only [hb] at hl; exact h.ro b e rd hj hb o v hl
  | own L t =>
    simp only [hb] at hl
    obtain ⟨cs, fz, hw, hf, h1, h2, h3, h4⟩ := h.own b e L t hj hb
    obtain ⟨cv, hc, hr⟩ := h4 o v hl
    exact ⟨cv, by simp [World.cell?, hw, hc], hr⟩

theorem Rel.rdOk {P : Program} {j : Emb} {m : Mem} {w : World} (h : Rel P j m w) : RdOk P j m w :=
  ⟨h.load, fun b e L t hj hb => by
    obtain ⟨cs, fz, hw, hf, h1, h2, h3, h4⟩ := h.own b e L t hj hb
    exact ⟨h1, by omega⟩⟩

theorem rdN_sound {P : Program} {j : Emb} {m : Mem} {w : World} (h : RdOk P j m w) {b : Nat} {e : Emb1} (hj : j b = some e) : ∀ (n o : Nat) (cs : List Value), rdN m b o n = some cs →
    ∃ ds : List Value, L2 (VR0 j) cs ds ∧ ds.length = n ∧ ∀ (i : Nat) (u : Value), ds[i]? = some u → w.cell? ⟨e.blk, o + i, none⟩ = some u
  | 0, o, cs, hr => by simp only [rdN, Option.some.injEq] at hr; subst hr; exact ⟨[], True.intro, rfl, fun i u hu => by simp at hu⟩
  | n + 1, o, cs, hr => by
    simp only [rdN] at hr
    cases h1 : m.load b o with
    | none => simp [h1] at hr
    | some v =>
      cases h2 : rdN m b (o + 1) n with
      | none => simp [h1, h2] at hr
      | some l =>
        simp only [h1, h2, Option.some.injEq] at hr
        subst hr
        obtain ⟨cv, hc, hv⟩ := h.load b e o v hj h1
        obtain ⟨ds, hl, hn, hd⟩ := rdN_sound h hj n (o + 1) l h2
        refine ⟨cv :: ds, ⟨hv, hl⟩, by simp [hn], fun i u hu => ?_⟩
        cases i with
        | zero => simp at hu; subst hu; simpa using hc
        | succ i =>
          have := hd i u (by simpa using hu)
          rw [show o + (i + 1) = o + 1 + i by omega]; exact this

theorem rdN_length {m : Mem} {b : Nat} : ∀ (n o : Nat) (cs : List Value), rdN m b o n = some cs → cs.length = n
  | 0, o, cs, hr => by simp only [rdN, Option.some.injEq] at hr; subst hr; rfl
  | n + 1, o, cs, hr => by
    simp only [rdN] at hr
    cases h1 : m.load b o with
    | none => simp [h1] at hr
    | some v =>
      cases h2 : rdN m b (o + 1) n with
      | none => simp [h1, h2] at hr
      | some l =>
        simp only [h1, h2, Option.some.injEq] at hr
        subst hr
        simp [rdN_length n (o + 1) l h2]

theorem run_cells {P : Program} {w : World} {c o n : Nat} {ds : List Value} (hn : ds.length = n) (hd : ∀ (i : Nat) (u : Value), ds[i]? = some u → w.cell? ⟨c, o + i, none⟩ = some u) : (loadCells ⟨c, o, none⟩ n).run P w = .ok ds.toArray w := by
  rw [← hn]
  exact run_loadCells_list w ⟨c, o, none⟩ ds (fun i u hu => by rw [add_none]; exact hd i u hu)

theorem bytes_push {P : Program} (w : World) : ∀ (cs : List UInt8) (s : ByteArray) (f : Value → ByteArray → Sem (ForInStep ByteArray)),
    (∀ u s, f (.int .u8 (u : UInt8).toNat) s = pure (.yield (s.push u))) →
    (forIn (cs.map fun u => Value.int .u8 (u.toNat : Int)) s f).run P w = .ok (⟨s.data ++ cs.toArray⟩ : ByteArray) w
  | [], s, f, hf => by simp
  | u :: cs, s, f, hf => by
    simp only [List.map_cons, List.forIn_cons, hf, pure_bind, bytes_push w cs (s.push u) f hf]
    congr 1
    simp [ByteArray.push]

theorem u8_back (u : UInt8) : UInt8.ofNat ((u.toNat : Int).toNat) = u := by simp

theorem read_sound {P : Program} {j : Emb} {ρ cρ : Operand → Value} {o : Oper} {m : Mem} {v : Value} (h : ReadR P ρ o m v) (hO : OpsR j ρ cρ o) {w : World} (hR : RdOk P j m w) : ∃ cv, (execOp cρ o).run P w = .ok (.value cv) w ∧ VR j v cv := by
  cases h with
  | load t x b off d v h hx ht hd hv =>
    have hX := hO x (by simp [h, Op.operands])
    rw [hx] at hX
    obtain ⟨q, _, hj, hc⟩ := hX.ptr
    obtain ⟨cv, hcc, hr⟩ := hR.load b q off v hj hv
    exact ⟨cv, by simp [execOp, h, Instr.loadAt, hc, Instr.sureAddr, loadVar, run_ia ht, hd, hcc], VR.of0 hr⟩
  | loadA t x b off d i cs h hx ht hd hi hv =>
    have hX := hO x (by simp [h, Op.operands])
    rw [hx] at hX
    obtain ⟨q, _, hj, hc⟩ := hX.ptr
    obtain ⟨ds, hl, hn, hdd⟩ := rdN_sound hR hj _ _ _ hv
    exact ⟨.agg ds.toArray, by simp [execOp, h, Instr.loadAt, hc, Instr.sureAddr, loadVar, run_ia ht, hd, run_so hi, run_cells hn hdd], ⟨_, rfl, by simpa using hl⟩⟩
  | slice t x lo hi e i L b off l n h' h ht hi' hx hm hlo hhi h1 h2 h3 =>
    have hX := hO x (by simp [h, Op.operands])
    rw [hx] at hX
    obtain ⟨q, _, hj, hc⟩ := hX.slice
    obtain ⟨hes, _⟩ := hR.own b q L e hj hm
    have hsz : i.size = q.es := by simpa [Program.cellsOf, hi'] using hes
    have key : ∀ (o' cc : Nat), cρ x = .slice (some ⟨q.blk, o', none⟩) l cc → l ≤ cc →
        (execOp cρ o).run P w = .ok (.value (.slice (some ⟨q.blk, if cc = n then o' else o' + n * i.size, none⟩) (h' - n) (cc - n))) w := by
      intro o' cc hcx hle
      have hbnd : (Instr.sliceBounds true l cc (lo.map cρ) (hi.map cρ) none).run P w = .ok (n, h', cc) w := by
        cases lo with
        | none =>
          simp only [lowIs] at hlo
          subst hlo
          cases hi with
          | none => simp only [highIs] at hhi; subst hhi; simp [Instr.sliceBounds]
          | some y =>
            obtain ⟨k, hy⟩ := hhi
            have := OpsR.nums (hO y (by simp [h, Op.operands])) hy
            simp [Instr.sliceBounds, this, Instr.sliceBound, asIntOf, show h' ≤ cc by omega]
        | some u =>
          obtain ⟨k, hu⟩ := hlo
          have hu' := OpsR.nums (hO u (by simp [h, Op.operands])) hu
          cases hi with
          | none => simp only [highIs] at hhi; subst hhi; simp [Instr.sliceBounds, hu', Instr.sliceBound, asIntOf, h1]
          | some y =>
            obtain ⟨k', hy⟩ := hhi
            have := OpsR.nums (hO y (by simp [h, Op.operands])) hy
            simp [Instr.sliceBounds, this, hu', Instr.sliceBound, asIntOf, h1, show h' ≤ cc by omega]
      simp only [execOp, h, Instr.sliceAt, Sem.run_bind, run_u ht, Result.andThen_ok, Option.map_none, Instr.slice, hcx, hbnd, run_so hi', Sem.run_pure]
      congr 3
      split <;> simp [add_none]
    rcases hc with ⟨hlt, _⟩ | ⟨_, hpos, hle, hcap, hmod, hdiv, hc⟩ | ⟨_, hl0, o', hc⟩
    · exact absurd hlt (Nat.lt_irrefl _)
    · have hle : l ≤ q.cap - off / q.es := hle
      have hmod : off % q.es = 0 := hmod
      have hdiv : off / q.es ≤ q.cap := hdiv
      refine ⟨_, key _ _ hc hle, ⟨q, rfl, hj, ?_⟩⟩
      by_cases hz : q.cap - off / q.es = n
      · have : h' - n = 0 := by omega
        right; right
        refine ⟨rfl, this, off, ?_⟩
        simp [hz, this]
      · right; left
        have hdv : (off + n * i.size) / q.es = off / q.es + n := by rw [hsz]; exact Nat.add_mul_div_right _ _ hpos
        refine ⟨rfl, hpos, ?_, hcap, ?_, ?_, ?_⟩
        · simp only [hdv]; omega
        · simp only [hsz, Nat.add_mul_mod_self_right]; exact hmod
        · simp only [hdv]; omega
        · simp only [hdv, if_neg hz]
          congr 1
          omega
    · subst hl0
      refine ⟨_, key _ _ hc (Nat.le_refl _), ⟨q, rfl, hj, ?_⟩⟩
      right; right
      refine ⟨rfl, by omega, o', ?_⟩
      have : n = 0 := by omega
      have : h' = 0 := by omega
      simp [*]
  | str s t x e b off l c cs h hs he ht hx hv =>
    have hX := hO x (by simp [h, Op.operands])
    rw [hx] at hX
    obtain ⟨q, _, hj, hc⟩ := hX.slice
    obtain ⟨ds, hl, hn, hdd⟩ := rdN_sound hR hj _ _ _ hv
    have hds : ds = cs.map fun u => .int .u8 u.toNat := L2.eq_of (p := flat0) (fun a b => flat0_eq (j := j)) (by simp [flat0]) hl
    subst hds
    refine ⟨.string ⟨cs.toArray⟩, ?_, rfl⟩
    have key : ∀ (o' cc : Nat), cρ x = .slice (some ⟨q.blk, o', none⟩) l cc → (o' = off ∨ l = 0) → (execOp cρ o).run P w = .ok (.value (.string ⟨cs.toArray⟩)) w := by
      intro o' cc hcx ho
      have hlc : (loadCells ⟨q.blk, o', none⟩ l).run P w = .ok ((cs.map fun u => Value.int .u8 (u.toNat : Int)).toArray) w := by
        rcases ho with rfl | ho
        · exact run_cells hn hdd
        · subst ho
          have : cs = [] := by simpa using hn
          subst this
          exact run_cells (ds := []) rfl (fun i u hu => by simp at hu)
      have hb : (Conv.bytesToString (.slice (some ⟨q.blk, o', none⟩) l cc)).run P w = .ok (.string ⟨cs.toArray⟩) w := by
        simp only [Conv.bytesToString, Sem.run_bind, hlc, Result.andThen_ok, List.forIn_toArray]
        rw [bytes_push (P := P) w cs ByteArray.empty _ (fun u s => by simp [u8_back])]
        simp [ByteArray.empty, ByteArray.emptyWithCapacity]
        rfl
      simp [execOp, h, convert, run_u hs, run_u ht, hcx, run_u he, hb]
    rcases hc with ⟨_, hc⟩ | ⟨_, _, _, _, _, _, hc⟩ | ⟨_, hl0, o', hc⟩
    · exact key _ _ hc (.inl rfl)
    · exact key _ _ hc (.inl rfl)
    · exact key o' 0 (by rw [hc, hl0]) (.inr hl0)
  | strNil s t x e l c h hs he ht hx =>
    have hX := hO x (by simp [h, Op.operands])
    rw [hx] at hX
    have hcx := hX.sliceNil
    refine ⟨.string .empty, ?_, rfl⟩
    simp [execOp, h, convert, run_u hs, run_u ht, hcx, run_u he, Conv.bytesToString]

end Go.AM
