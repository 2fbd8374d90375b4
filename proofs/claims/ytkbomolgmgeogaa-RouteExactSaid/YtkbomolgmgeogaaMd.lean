/- AmXD AmXE AmXF AmSortK WM WS -/
import Derived.Shelf.SlSortCmp.NoneTotal
import Derived.Shelf.SlicesG.Cmp
import Derived.Test.YtkbomolgmgeogaaProg
import Derived.WalkKit
import Derived.Test.YtkbomolgmgeogaaMc
section
set_option linter.unusedSimpArgs false
set_option linter.unusedVariables false
namespace Go.AM
/-- A function, as data. 'rcv': the slot and type of the pointer it may write through; 'rk': 1 it leaves it alone, 2 it turns it. -/
structure FD (D : Nat → Type) where
  f : Nat
  np : Nat
  ins : List It
  fx : List (Nat × SV D)
  rcv : Option (Nat × Nat)
  rk : Nat
  outs : List It
  ofx : List (Nat × SV D)
  rvs : List ResultVar
  flat : Bool
/-- Results that lie in memory are looked up at the end, as if they were slots from here on. -/
def VB : Nat := 1000000
def resOf : Nat → List ResultVar → List Nat
  | _, [] => []
  | n, .tmp d :: rs => d :: resOf (n + 1) rs
  | n, .cell _ _ :: rs => n :: resOf (n + 1) rs
def FD.res {D : Nat → Type} (d : FD D) : List Nat := resOf VB d.rvs
noncomputable section
section
variable {P : Program} {D : Nat → Type}
def loadB (P : Program) (t : Nat) (a : SV D) (O : List (Ob D)) : Option (SV D) :=
  match a with
  | .box i off =>
    match O[i]? with
    | some (.box _ cs _ _) => loadC (P := P) t cs off some
    | some (.recv _ cs _) => loadC (P := P) t cs off some
    | _ => none
  | _ => none
def rvE (P : Program) (E : List (Nat × SV D)) (O : List (Ob D)) : Nat → List ResultVar → Option (List (Nat × SV D))
  | _, [] => some []
  | n, .tmp d :: rs => if Nat.blt d VB = true then rvE P E O (n + 1) rs else none
  | n, .cell a t :: rs => match loadB P t (lkE E a) O, rvE P E O (n + 1) rs with | some V, some l => some ((n, V) :: l) | _, _ => none
def rT (D : Nat → Type) : Option (Nat × Nat) → Type
  | none => Unit
  | some p => D p.2
def FD.F (d : FD D) : Type := rT D d.rcv → inT D d.ins → Option (outT D d.outs)
variable (X : Ev P D)
/-- The objects, the slots that a call starts with. -/
def rO : (c : Option (Nat × Nat)) → rT D c → List (Ob D)
  | none, _ => []
  | some p, x => [.recv p.2 (lvX X p.2 x) false]
def rE : Option (Nat × Nat) → List (Nat × SV D)
  | none => []
  | some p => [(p.1, .box 0 0)]
def rks (d : FD D) : List Nat := match d.rcv with | none => [] | some _ => [d.rk]
def FD.xx (d : FD D) : Ex D := ⟨.ret, d.outs, d.ofx⟩
def retK (d : FD D) (ex : AExit) (E : List (Nat × SV D)) (O : List (Ob D)) : Option (outT D d.outs) :=
  if ex = .normal ∨ ex = .ret then Option.bind (rvE P E O VB d.rvs) fun l => rdX X (rks d).length (rks d) d.xx (l ++ E) O else none
def enumE : Nat → List (SV D) → List (Nat × SV D)
  | _, [] => []
  | i, s :: l => (i, s) :: enumE (i + 1) l
def tupE (E : List (Nat × SV D)) : List Nat → Option (List (CV D ⊕ (Nat × List (CV D))))
  | [] => some []
  | d :: ds =>
    match lkE E d, tupE E ds with
    | .c c, some l => some (.inl c :: l)
    | .agg t cs, some l => some (.inr (t, cs) :: l)
    | _, _ => none
def resE (E : List (Nat × SV D)) : List Nat → Option (SV D)
  | [d] => some (lkE E d)
  | ds => match tupE E ds with | some l => some (.tup l) | none => none
def flatC : CV D → Option Value
  | .int k n => some (.int k n)
  | .bool b => some (.bool b)
  | .str s => some (AM.str s)
  | _ => none
def flatL : List (CV D) → Option (List Value)
  | [] => some []
  | c :: cs => match flatC c, flatL cs with | some v, some l => some (v :: l) | _, _ => none
def flatT : List (CV D ⊕ (Nat × List (CV D))) → Option (List Value)
  | [] => some []
  | .inl c :: l => (match flatC c, flatT l with | some v, some vs => some (v :: vs) | _, _ => none)
  | .inr p :: l => (match flatL p.2, flatT l with | some ds, some vs => some (.agg ds.toArray :: vs) | _, _ => none)
def flatS : SV D → Option Value
  | .c c => flatC c
  | .agg _ cs => (match flatL cs with | some ds => some (.agg ds.toArray) | none => none)
  | .tup l => (match flatT l with | some vs => some (.tuple vs.toArray) | none => none)
  | _ => none
/-- The receiver's contents; what it turns to. -/
def rcvG (t : Nat) : Option (Ob D) → Option (D t)
  | some (.box t' cs false _) => if t' = t then pkX X t cs else none
  | some (.recv t' cs _) => if t' = t then pkX X t cs else none
  | _ => none
def rcvP (t : Nat) (cs : List (CV D)) : Ob D → Ob D
  | .box _ _ _ _ => .box t cs false true
  | _ => .recv t cs true
def newOk : List It → Bool
  | [] => true
  | .o _ (.recv _) :: _ => false
  | .o _ (.bx _ _) :: _ => false
  | _ :: its => newOk its
/-- What stands for a call. -/
def num1 (i N j : Nat) : Nat := if Nat.beq j 0 = true then i else N + (j - 1)
def goCall (outs : List It) (ofx : List (Nat × SV D)) (res : List Nat) (flat : Bool) (rk : Nat) (svs : List (SV D)) (O O1 : List (Ob D)) {ρ : Type} (K : SV D → List (Ob D) → Option ρ) : (rcv : Option (Nat × Nat)) → (rT D rcv → Option (outT D outs)) → Option ρ
  | none, G =>
    Option.bind (G ()) fun y =>
      match resE (mkE X outs (ofOut _ y) ++ ofx.map fun q => (q.1, rnS (fun j => O1.length + j) q.2)) res with
      | some sv => if flat = true then (match flatS sv with | some _ => K sv O | none => none) else K sv (O1 ++ mkO X outs (ofOut _ y))
      | none => none
  | some p, G =>
    match lkE (enumE 0 svs) p.1 with
    | .box i 0 =>
      match O1[i]? with
      | some o =>
        Option.bind (rcvG X p.2 (some o)) fun r =>
        Option.bind (G r) fun y =>
          match resE (mkE X outs (ofOut _ y) ++ ofx.map fun q => (q.1, rnS (num1 i O1.length) q.2)) res with
          | some sv =>
            if rk = 2 then
              match updOf X idN outs (ofOut _ y) 0 with
              | .recv t cs _ => if t = p.2 then K sv (O1.set i (rcvP p.2 cs o) ++ mkO X outs (ofOut _ y)) else none
              | _ => none
            else if rk = 1 then (if o.clean = true then K sv (O1 ++ mkO X outs (ofOut _ y)) else K sv (O1.set i (rcvP p.2 (lvX X p.2 r) o) ++ mkO X outs (ofOut _ y))) else none
          | none => none
      | none => none
    | _ => none
def FD.call (d : FD D) (F : d.F) (svs : List (SV D)) (O : List (Ob D)) {ρ : Type} (K : SV D → List (Ob D) → Option ρ) : Option ρ :=
  if Nat.beq svs.length d.np = true then
    match frzA (enumE 0 svs) d.ins O with
    | some (avs, O1) =>
      if (d.fx.all fun p => fxT [] p.2 (lkE (enumE 0 svs) p.1)) = true then
        match rdB X [] O1 d.ins avs [] with
        | some x => goCall X d.outs d.ofx d.res d.flat d.rk svs O O1 K d.rcv fun r => F r x
        | none => none
      else none
    | none => none
  else none
end
section
variable {P : Program} {D : Nat → Type} {X : Ev P D} {z z1 z2 : Nat → Blk} {e m m1 : Mem} {k q : Option Nat} {vs : List Value} {fr : Nat → Value} {E : List (Nat × SV D)} {O O' : List (Ob D)}
/-- What a call leaves of the caller's objects. -/
theorem Mm.call (h : Mm X.G O z1 e m k vs) (hz : Zx m.next z1 z2) (s : Same m m1 q) (st : St z2 e m1 k) (hl : O'.length = O.length)
    (ho : ∀ (j : Nat) (o' : Ob D), O'[j]? = some o' → (O[j]? = some o' ∧ (o'.live = true → ∀ v, vs[j]? = some v → Ap (blkV v) q)) ∨ (∃ o, O[j]? = some o ∧ o.live = true ∧ ∀ v, vs[j]? = some v → ObOk X.G z2 e m1 k vs o' v)) : Mm X.G O' z2 e m1 k vs where
  st := st
  len := by rw [hl]; exact h.len
  obj := fun j o' v hj hv => by
    rcases ho j o' hj with ⟨h1, h2⟩ | ⟨o, h1, h2, h3⟩
    · have hob := h.obj j o' v h1 hv
      cases hL : o'.live with
      | false => exact hob.frozen hL hz.le fun _ _ h => h
      | true => exact (hob.same s (fun _ => h2 hL v hv) fun _ _ h => h).zle hz.le fun _ b hb => hz.low b (hob.lt hL b hb).1
    · exact h3 v hv
  ap := fun a b o p v w hab ha hb la lb hv hw => by
    have key : ∀ (j : Nat) (o' : Ob D), O'[j]? = some o' → o'.live = true → ∃ o, O[j]? = some o ∧ o.live = true := by
      intro j o' hj hl
      rcases ho j o' hj with ⟨h1, _⟩ | ⟨o, h1, h2, _⟩
      · exact ⟨o', h1, hl⟩
      · exact ⟨o, h1, h2⟩
    obtain ⟨o1, g1, g2⟩ := key a o ha la
    obtain ⟨o2, g3, g4⟩ := key b p hb lb
    exact h.ap a b o1 o2 v w hab g1 g3 g2 g4 hv hw
/-- Several new objects. -/
theorem Mm.adds {N : List (Ob D)} {nv : List Value} {lim : Nat} (h : Mm X.G O z e m k vs) (hl : nv.length = N.length)
    (hlt : ∀ (j : Nat) (o : Ob D) (v : Value), O[j]? = some o → vs[j]? = some v → o.live = true → ∀ b, blkV v = some b → b < lim)
    (hn : ∀ (j : Nat) (o : Ob D) (v : Value), N[j]? = some o → nv[j]? = some v → ObOk X.G z e m k (vs ++ nv) o v ∧ ∀ b, blkV v = some b → lim ≤ b)
    (ha : ∀ (i j : Nat) (o p : Ob D) (v w : Value), i ≠ j → N[i]? = some o → N[j]? = some p → nv[i]? = some v → nv[j]? = some w → Ap (blkV v) (blkV w)) : Mm X.G (O ++ N) z e m k (vs ++ nv) := by
  have cs : ∀ (j : Nat) (o : Ob D) (v : Value), (O ++ N)[j]? = some o → (vs ++ nv)[j]? = some v → (j < O.length ∧ O[j]? = some o ∧ vs[j]? = some v) ∨ (O.length ≤ j ∧ N[j - O.length]? = some o ∧ nv[j - O.length]? = some v) := by
    intro j o v ho hv
    by_cases hj : j < O.length
    · rw [List.getElem?_append_left hj] at ho
      rw [List.getElem?_append_left (by rw [h.len]; exact hj)] at hv
      exact .inl ⟨hj, ho, hv⟩
    · rw [List.getElem?_append_right (by omega)] at ho
      rw [List.getElem?_append_right (by rw [h.len]; omega), h.len] at hv
      exact .inr ⟨by omega, ho, hv⟩
  refine ⟨h.st, by rw [List.length_append, List.length_append, h.len, hl], fun j o v ho hv => ?_, fun i j o p v w hij ho hp lo lp hv hw => ?_⟩
  · rcases cs j o v ho hv with ⟨_, h1, h2⟩ | ⟨_, h1, h2⟩
    · exact (h.obj j o v h1 h2).same (m' := m) (q := none) ⟨Nat.le_refl _, h.st.dead, fun _ _ _ => rfl⟩ (fun _ => Ap.none') ext_get
    · exact (hn _ o v h1 h2).1
  · have mix : ∀ (i j : Nat) (o p : Ob D) (v w : Value), O[i]? = some o → vs[i]? = some v → o.live = true → N[j]? = some p → nv[j]? = some w → Ap (blkV v) (blkV w) := by
      intro i j o p v w ho hv lo hp hw b hb hb'
      have := hlt i o v ho hv lo b hb
      have := (hn j p w hp hw).2 b hb'
      omega
    rcases cs i o v ho hv with ⟨_, h1, h2⟩ | ⟨_, h1, h2⟩
    · rcases cs j p w hp hw with ⟨_, h3, h4⟩ | ⟨_, h3, h4⟩
      · exact h.ap i j o p v w hij h1 h3 lo lp h2 h4
      · exact mix i _ o p v w h1 h2 lo h3 h4
    · rcases cs j p w hp hw with ⟨_, h3, h4⟩ | ⟨_, h3, h4⟩
      · exact (mix j _ p o w v h3 h4 lp h1 h2).symm
      · exact ha _ _ o p v w (by omega) h1 h3 h2 h4
theorem newOk_at : ∀ {its : List It} {x : inT D its} {o : Ob D}, newOk its = true → o ∈ mkO X its x → ∃ c y, o = OC.mk X c y false ∧ (∀ t, c ≠ .recv t) ∧ ∀ t l, c ≠ .bx t l
  | [], _, _, _, h => by simp [mkO] at h
  | .v d c :: its, x, o, hn, h => newOk_at (its := its) (x := x.2) hn h
  | .u d c :: its, x, o, hn, h => newOk_at (its := its) (x := x.2) hn h
  | .o d c :: its, x, o, hn, h => by
    simp only [mkO, List.mem_cons] at h
    have hn' : ((∀ t, c ≠ .recv t) ∧ ∀ t l, c ≠ .bx t l) ∧ newOk its = true := by
      cases c with
      | recv t => cases hn
      | bx t l => cases hn
      | _ => exact ⟨⟨fun t h => (by cases h), fun t l h => (by cases h)⟩, hn⟩
    rcases h with rfl | h
    · exact ⟨c, x.1, rfl, hn'.1⟩
    · exact newOk_at (its := its) (x := x.2) hn'.2 h
/-- A new object of a call is a new object of its caller's. -/
theorem born {c : OC} {x : c.ty D} {w : Bool} {v : Value} {kk : Option Nat} {ws : List Value} (hc : (∀ t, c ≠ .recv t) ∧ ∀ t l, c ≠ .bx t l) (he : e.next ≤ m.next) (h : ObOk X.G z m m1 kk ws (OC.mk X c x w) v) : ObOk X.G z e m1 k vs (OC.mk X c x w) v ∧ ∀ b, blkV v = some b → m.next ≤ b := by
  cases c with
  | recv t => exact absurd rfl (hc.1 t)
  | bx t l => exact absurd rfl (hc.2 t l)
  | sl t =>
    have h : OwF (X.G.T t) z m m1 kk x v := h
    refine ⟨(⟨h.ow, fun b hb => Nat.le_trans he (h.fresh b hb)⟩ : OwF (X.G.T t) z e m1 k x v), ?_⟩
    rw [blkV_of (by obtain ⟨a, c, rfl⟩ := h.ow.len; intro r; simp)]
    exact h.fresh
  | box t =>
    obtain ⟨b, ds, rfl, h1, h2, h3⟩ := h
    exact ⟨⟨b, ds, rfl, ⟨h1.blk, h1.lt, h1.dead, .inl (Nat.le_trans he h2)⟩, Nat.le_trans he h2, lvX_vs h3⟩, fun c hc => by cases hc; exact h2⟩
  | arr t u n =>
    obtain ⟨⟨b, rfl⟩, h⟩ := h
    exact ⟨⟨⟨b, rfl⟩, h.ow, fun b hb => Nat.le_trans he (h.fresh b hb)⟩, fun c hc => h.fresh c hc⟩
  | map t kt vt =>
    have h : OwM (X.G.M t kt vt) z m m1 kk x v := h
    obtain ⟨r, rfl, h1, h2, h3, h4⟩ := h.ow
    exact ⟨(⟨⟨r, rfl, h1, h2, h3, Nat.le_trans he h4⟩⟩ : OwM (X.G.M t kt vt) z e m1 k x _), fun c hc => by cases hc; exact h4⟩
/-! ### Results -/
theorem tupE_ok : ∀ {res : List Nat} {l : List (CV D ⊕ (Nat × List (CV D)))}, Rl X z vs E fr → tupE E res = some l → L2 (relT X.G z vs) l (res.map fr) ∧ ∀ x ∈ res.map fr, storable x = true
  | [], l, hE, h => by cases h; exact ⟨trivial, by simp⟩
  | d :: ds, l, hE, h => by
    simp only [tupE] at h
    have hd := hE d
    split at h
    · rename_i c l1 hc hl
      cases h
      rw [hc] at hd
      obtain ⟨g1, g2⟩ := tupE_ok hE hl
      refine ⟨⟨hd, g1⟩, fun x hx => ?_⟩
      rcases List.mem_cons.1 hx with rfl | hx
      · exact (rel0.stor hd).1
      · exact g2 x hx
    · rename_i t cs l1 hc hl
      cases h
      rw [hc] at hd
      obtain ⟨g1, g2⟩ := tupE_ok hE hl
      refine ⟨⟨hd, g1⟩, fun x hx => ?_⟩
      rcases List.mem_cons.1 hx with rfl | hx
      · obtain ⟨ds, hd, _⟩ := hd; rw [hd]; rfl
      · exact g2 x hx
    · cases h
theorem resE_ok {res : List Nat} {sv : SV D} (hE : Rl X z vs E fr) (h : resE E res = some sv) : rel X.G z vs sv (pack (res.map fr)) ∧ ((res.map fr).length = 1 ∨ ∀ x ∈ res.map fr, storable x = true) := by
  unfold resE at h
  split at h
  · cases h; exact ⟨hE _, .inl rfl⟩
  · rename_i ds hds
    split at h
    · rename_i l hl
      cases h
      obtain ⟨g1, g2⟩ := tupE_ok hE hl
      refine ⟨?_, .inr g2⟩
      have : pack (res.map fr) = .tuple (res.map fr).toArray := by
        unfold pack
        split
        · rename_i x hx
          match res, hds, hx with
          | [d], hds, _ => exact absurd rfl (hds d)
        · rfl
      rw [this]
      exact ⟨_, rfl, g1⟩
    · cases h
theorem flatC_ok {c : CV D} {v w : Value} (h : flatC c = some w) (hr : rel0 X.G z vs c v) : v = w ∧ flat0 w = true := by
  cases c <;> first | (cases h; done) | (cases h; exact ⟨hr, rfl⟩)
theorem flatL_ok : ∀ {cs : List (CV D)} {ds ws : List Value}, flatL cs = some ws → L2 (rel0 X.G z vs) cs ds → ds = ws ∧ ws.all flat0 = true
  | [], [], _, h, _ => by cases h; exact ⟨rfl, rfl⟩
  | c :: cs, d :: ds, ws, h, ⟨h1, h2⟩ => by
    simp only [flatL] at h
    split at h
    · rename_i v l hv hl
      cases h
      obtain ⟨rfl, g1⟩ := flatC_ok hv h1
      obtain ⟨rfl, g2⟩ := flatL_ok hl h2
      exact ⟨rfl, by simp only [List.all_cons, g1, g2, Bool.and_self]⟩
    · cases h
  | [], _ :: _, _, _, h => h.elim
  | _ :: _, [], _, _, h => h.elim
theorem flatT_ok : ∀ {l : List (CV D ⊕ (Nat × List (CV D)))} {ds ws : List Value}, flatT l = some ws → L2 (relT X.G z vs) l ds → ds = ws ∧ ws.all flat1 = true
  | [], [], _, h, _ => by cases h; exact ⟨rfl, rfl⟩
  | .inl c :: l, d :: ds, ws, h, ⟨h1, h2⟩ => by
    simp only [flatT] at h
    split at h
    · rename_i v l1 hv hl
      cases h
      obtain ⟨rfl, g1⟩ := flatC_ok hv h1
      obtain ⟨rfl, g2⟩ := flatT_ok hl h2
      have : flat1 d = true := by cases d <;> first | exact g1 | cases g1
      exact ⟨rfl, by simp only [List.all_cons, this, g2, Bool.and_self]⟩
    · cases h
  | .inr p :: l, d :: ds, ws, h, ⟨⟨cs, h0, h1⟩, h2⟩ => by
    simp only [flatT] at h
    split at h
    · rename_i v l1 hv hl
      cases h
      obtain ⟨rfl, g1⟩ := flatL_ok hv h1
      obtain ⟨rfl, g2⟩ := flatT_ok hl h2
      subst h0
      exact ⟨rfl, by simp only [List.all_cons, g2, Bool.and_true]; exact g1⟩
    · cases h
  | [], _ :: _, _, _, h => h.elim
  | _ :: _, [], _, _, h => h.elim
theorem flatS_ok {s : SV D} {v w : Value} (h : flatS s = some w) (hr : rel X.G z vs s v) : v = w ∧ AM.flat w = true := by
  unfold flatS at h
  split at h
  · obtain ⟨rfl, g⟩ := flatC_ok h hr
    refine ⟨rfl, ?_⟩
    cases v <;> first | exact g | cases g
  · split at h
    · rename_i ds hd
      cases h
      obtain ⟨es, rfl, h2⟩ := hr
      obtain ⟨rfl, g⟩ := flatL_ok hd h2
      exact ⟨rfl, g⟩
    · cases h
  · split at h
    · rename_i ws hd
      cases h
      obtain ⟨es, rfl, h2⟩ := hr
      obtain ⟨rfl, g⟩ := flatT_ok hd h2
      exact ⟨rfl, g⟩
    · cases h
  · cases h
/-! ### The body -/
def rIns : Option (Nat × Nat) → List It
  | none => []
  | some p => [.o p.1 (.recv p.2)]
def rX : (c : Option (Nat × Nat)) → rT D c → inT D (rIns c)
  | none, _ => ()
  | some _, r => (r, ())
theorem rO_eq (c : Option (Nat × Nat)) (r : rT D c) : mkO X (rIns c) (rX c r) = rO X c r := by cases c <;> rfl
theorem rO_len {c : Option (Nat × Nat)} {r : rT D c} {n : Nat} : (match c with | none => [] | some _ => [n]).length = (rO X c r).length := by cases c <;> rfl
theorem rks_len {d : FD D} {r : rT D d.rcv} : (rO X d.rcv r).length = (rks d).length := by
  unfold rks
  rw [← rO_len (X := X) (r := r) (n := d.rk)]
/-- What the body of a function leads to. -/
def PostF (X : Ev P D) (d : FD D) (r : rT D d.rcv) (y : outT D d.outs) (z : Nat → Blk) (m : Mem) (kk : Option Nat) (vs0 : List Value) (ex : AExit) (fr' : Nat → Value) (m1 : Mem) : Prop :=
  (ex = .normal ∨ ex = .ret) ∧ ∃ fr2, resultsR P fr' m1 d.rvs (d.res.map fr2) ∧ ∃ z2 nv, Zx m.next z z2 ∧ Mm X.G (postO X (rks d) (rO X d.rcv r) d.outs (ofOut _ y)) z2 m m1 kk (vs0 ++ nv) ∧ ∀ q ∈ mkE X d.outs (ofOut _ y) ++ d.ofx, rel X.G z2 (vs0 ++ nv) q.2 (fr2 q.1)
def FC (X : Ev P D) (B : Code) (d : FD D) (F : d.F) : Prop := ∀ (r : rT D d.rcv) (x : inT D d.ins) (y : outT D d.outs) {z : Nat → Blk} {m : Mem} {kk : Option Nat} {vs0 : List Value} {fr : Nat → Value},
  F r x = some y → Mm X.G (rO X d.rcv r) z m m kk vs0 → Rl X z vs0 (mkE X d.ins x ++ (d.fx ++ rE d.rcv)) fr → W P B (PostF X d r y z m kk vs0) fr m
theorem loadB_ok {t : Nat} {a : SV D} {V : SV D} {v : Value} (hM : Mm X.G O z e m k vs) (ha : rel X.G z vs a v) (h : loadB P t a O = some V) : ∃ b off w, v = .pointer (some ⟨b, off, none⟩) ∧ rel X.G z vs V w ∧ ∃ d, P.underlying t = some d ∧
    (if aggT d = true then ∃ i cs, P.info? t = some i ∧ rdN m b off i.size = some cs ∧ w = .agg cs.toArray else m.load b off = some w) := by
  have fin : ∀ {b n : Nat} {cs : List (CV D)} {ds : List Value}, (∀ (j : Nat) (w : Value), ds[j]? = some w → m.load b (0 + j) = some w) → L2 (rel0 X.G z vs) cs ds → loadC (P := P) t cs n some = some V → ∃ w, rel X.G z vs V w ∧ ∃ d, P.underlying t = some d ∧ (if aggT d = true then ∃ i cs, P.info? t = some i ∧ rdN m b n i.size = some cs ∧ w = .agg cs.toArray else m.load b n = some w) := by
    intro b n cs ds hc hr h
    unfold loadC at h
    split at h
    · cases h
    · rename_i d hd
      split at h
      · rename_i hag
        split at h
        · cases h
        · rename_i i hi
          split at h
          · rename_i hlen
            cases h
            have hr' : L2 (rel0 X.G z vs) ((cs.drop n).take i.size) ((ds.drop n).take i.size) := L2.take _ (L2.drop _ hr)
            have hl2 : ((ds.drop n).take i.size).length = i.size := by rw [← hr'.length]; exact hlen
            refine ⟨.agg ((ds.drop n).take i.size).toArray, ⟨_, rfl, hr'⟩, d, hd, ?_⟩
            rw [if_pos hag]
            refine ⟨i, _, hi, rdN_of _ _ _ hl2 fun j w hj => ?_, rfl⟩
            rw [List.getElem?_take] at hj
            split at hj
            · rw [List.getElem?_drop] at hj
              have := hc _ w hj
              rwa [Nat.zero_add] at this
            · cases hj
          · cases h
      · rename_i hag
        split at h
        · rename_i c hcs
          cases h
          obtain ⟨w, hw, hrw⟩ := hr.get n c hcs
          refine ⟨w, hrw, d, hd, ?_⟩
          rw [if_neg hag]
          have := hc n w hw
          rwa [Nat.zero_add] at this
        · cases h
  unfold loadB at h
  split at h
  · rename_i i off
    obtain ⟨b, hv, hx⟩ := ha
    split at h
    · rename_i u cs fz w1 hO
      have hob := hM.obj i _ _ hO hv
      cases fz with
      | true =>
        obtain ⟨b', ds, he, hc, hr⟩ := hob
        cases he
        obtain ⟨w, h1, h2⟩ := fin (b := b) (hM.st.loads hc) hr h
        exact ⟨b, off, w, hx, h1, h2⟩
      | false =>
        obtain ⟨b', ds, he, hb, _, hr⟩ := hob
        cases he
        obtain ⟨w, h1, h2⟩ := fin (b := b) hb.loads hr h
        exact ⟨b, off, w, hx, h1, h2⟩
    · rename_i u cs w1 hO
      obtain ⟨b', ds, he, hb, hr⟩ := hM.obj i _ _ hO hv
      cases he
      obtain ⟨w, h1, h2⟩ := fin (b := b) hb.loads hr h
      exact ⟨b, off, w, hx, h1, h2⟩
    · cases h
  · cases h
theorem rvE_lt : ∀ {rs : List ResultVar} {n : Nat} {l : List (Nat × SV D)}, rvE P E O n rs = some l → ∀ x ∈ resOf n rs, x < VB ∨ n ≤ x
  | [], n, l, _, x, hx => by simp [resOf] at hx
  | .tmp d :: rs, n, l, h, x, hx => by
    obtain ⟨h1, h2⟩ := ite_some h
    simp only [resOf, List.mem_cons] at hx
    rcases hx with rfl | hx
    · exact .inl (by simpa [Nat.blt_eq] using h1)
    · rcases rvE_lt h2 x hx with h | h
      · exact .inl h
      · exact .inr (by omega)
  | .cell a t :: rs, n, l, h, x, hx => by
    simp only [rvE] at h
    split at h
    · rename_i V l' _ h2
      simp only [resOf, List.mem_cons] at hx
      rcases hx with rfl | hx
      · exact .inr (Nat.le_refl _)
      · rcases rvE_lt h2 x hx with h | h
        · exact .inl h
        · exact .inr (by omega)
    · cases h
theorem rvE_ok (hM : Mm X.G O z e m k vs) (hE : Rl X z vs E fr) : ∀ {rs : List ResultVar} {n : Nat} {l : List (Nat × SV D)}, VB ≤ n → rvE P E O n rs = some l → ∃ fr2, (∀ d, d < n → fr2 d = fr d) ∧ Rl X z vs (l ++ E) fr2 ∧ resultsR P fr m rs ((resOf n rs).map fr2)
  | [], n, l, _, h => by cases h; exact ⟨fr, fun _ _ => rfl, hE, trivial⟩
  | .tmp d :: rs, n, l, hn, h => by
    obtain ⟨h1, h2⟩ := ite_some h
    have hd : d < VB := by simpa [Nat.blt_eq] using h1
    obtain ⟨fr2, g1, g2, g3⟩ := rvE_ok hM hE (Nat.le_succ_of_le hn) h2
    exact ⟨fr2, fun d hd => g1 d (Nat.lt_succ_of_lt hd), g2, g1 d (Nat.lt_succ_of_lt (Nat.lt_of_lt_of_le hd hn)), g3⟩
  | .cell a t :: rs, n, l, hn, h => by
    simp only [rvE] at h
    split at h
    · rename_i V l' h1 h2
      cases h
      obtain ⟨fr2, g1, g2, g3⟩ := rvE_ok hM hE (Nat.le_succ_of_le hn) h2
      obtain ⟨b, off, w, w1, w2, w3⟩ := loadB_ok hM (hE a) h1
      refine ⟨fun i => if i = n then w else fr2 i, fun d hd => ?_, fun i => ?_, ?_⟩
      · show (if d = n then w else fr2 d) = fr d
        rw [if_neg (by omega)]; exact g1 d (by omega)
      · show rel X.G z vs (lkE ((n, V) :: (l' ++ E)) i) (if i = n then w else fr2 i)
        simp only [lkE]
        split
        · rename_i hi
          rw [if_pos (Nat.eq_of_beq_eq_true hi).symm]; exact w2
        · rename_i hi
          rw [if_neg (by rintro rfl; simp at hi)]; exact g2 i
      · have hm : (resOf (n + 1) rs).map (fun i => if i = n then w else fr2 i) = (resOf (n + 1) rs).map fr2 := by
          apply List.map_congr_left
          intro x hx
          rw [if_neg]
          rintro rfl
          rcases rvE_lt h2 _ hx with h | h <;> omega
        refine ⟨⟨b, off, w1, ?_⟩, ?_⟩
        · show ∃ d, _
          simp only [if_true]
          exact w3
        · show resultsR P fr m rs ((resOf (n + 1) rs).map _)
          rw [hm]; exact g3
    · cases h
theorem FC.of (hC : COk X) {B : Code} {us : List (Pc D)} {d : FD D} {F : d.F} (hus : ∀ u ∈ us, 0 < u.path.length → PcOk X B u)
    (heq : ∀ r x, exC X us calm true [] B (mkE X d.ins x ++ (d.fx ++ rE d.rcv)) (rO X d.rcv r) (retK X d) = F r x) : FC X B d F := by
  intro r x y z m kk vs0 fr hF hM hE
  have h := heq r x
  rw [hF] at h
  refine (exC_ok hC (L := 0) hus B true [] _ _ _ y (sub_nil B) (by simp) (by simp) hM hE h).mono ?_
  rintro ex fr1 m1 ⟨z1, vs1, E1, O1, h0, h1, h2, h3, h4, h5⟩
  obtain ⟨hx, h5⟩ := ite_some h5
  obtain ⟨l, hl0, h6⟩ := bind_some h5
  obtain ⟨fr2, q1, q2, q3⟩ := rvE_ok h3 h4 (Nat.le_refl _) hl0
  have hl : (rks d).length = vs0.length := by
    rw [hM.len, rks_len]
  rw [hl] at h6
  have hr := rO_eq (X := X) d.rcv r
  obtain ⟨z2, nv, k1, k2, k3⟩ := post_of (ks := rks d) (ins := rIns d.rcv) (x := rX d.rcv r) (xx := d.xx) (by rw [hr]; exact h0) h2 (by rw [hr]; exact hM.len) h3 q2 h6
  rw [hr] at k2
  exact ⟨hx, fr2, q3, z2, nv, h1.trans k1, k2, k3⟩
end
end
end Go.AM
end
section
set_option linter.unusedSimpArgs false
set_option linter.unusedVariables false
namespace Go.AM
noncomputable section
section
variable {P : Program} {D : Nat → Type} {X : Ev P D} {z z1 z2 : Nat → Blk} {e m m1 : Mem} {k q : Option Nat} {vs : List Value} {fr : Nat → Value} {E : List (Nat × SV D)} {O O' : List (Ob D)} {ρ : Type} {r : ρ}
theorem enumE_at : ∀ {l : List (SV D)} {args : List Value} {i : Nat}, L2 (rel X.G z vs) l args → (∀ (j : Nat) (v : Value), args[j]? = some v → fr (i + j) = v) → Rl X z vs (enumE i l) fr
  | [], [], i, _, _ => fun d => trivial
  | s :: l, a :: args, i, ⟨h1, h2⟩, hf => by
    refine (enumE_at (i := i + 1) h2 fun j v hj => ?_).cons ?_
    · rw [show i + 1 + j = i + (j + 1) by omega]
      exact hf (j + 1) v hj
    · have := hf 0 a rfl
      rw [Nat.add_zero] at this
      rw [this]; exact h1
  | [], _ :: _, _, h, _ => h.elim
  | _ :: _, [], _, h, _ => h.elim
/-- What is known of a function: its text, its contract. -/
structure FOk (P : Program) (X : Ev P D) (d : FD D) (F : d.F) : Prop where
  ex : ∃ fn c, P.funcs[d.f]? = some fn ∧ fn.body = some c ∧ okFn P d.f = true ∧ Nat.ble d.np fn.ntmps = true ∧ fn.results.toList = d.rvs ∧ FC X c d F
  new : newOk d.outs = true
  sf : (d.fx.all fun p => simpS p.2) = true
  so : (d.ofx.all fun p => simpS p.2) = true
  sx : (d.fx.all fun p => (refS p.2).isNone) = true
theorem flatC_self {c : CV D} {w : Value} (h : flatC c = some w) : rel0 X.G z vs c w ∧ flat0 w = true ∧ flat1 w = true ∧ AM.flat w = true := by
  cases c <;> first | (cases h; done) | (cases h; exact ⟨rfl, rfl, rfl, rfl⟩)
theorem flatL_self : ∀ {cs : List (CV D)} {ws : List Value}, flatL cs = some ws → L2 (rel0 X.G z vs) cs ws ∧ ws.all flat0 = true
  | [], _, h => by cases h; exact ⟨trivial, rfl⟩
  | c :: cs, ws, h => by
    simp only [flatL] at h
    split at h
    · rename_i v l hv hl
      cases h
      obtain ⟨g1, g2, _⟩ := flatC_self (X := X) (z := z) (vs := vs) hv
      obtain ⟨g3, g4⟩ := flatL_self hl
      exact ⟨⟨g1, g3⟩, by simp only [List.all_cons, g2, g4, Bool.and_self]⟩
    · cases h
theorem flatT_self : ∀ {l : List (CV D ⊕ (Nat × List (CV D)))} {ws : List Value}, flatT l = some ws → L2 (relT X.G z vs) l ws ∧ ws.all flat1 = true
  | [], _, h => by cases h; exact ⟨trivial, rfl⟩
  | .inl c :: l, ws, h => by
    simp only [flatT] at h
    split at h
    · rename_i v l1 hv hl
      cases h
      obtain ⟨g1, _, g2, _⟩ := flatC_self (X := X) (z := z) (vs := vs) hv
      obtain ⟨g3, g4⟩ := flatT_self hl
      exact ⟨⟨g1, g3⟩, by simp only [List.all_cons, g2, g4, Bool.and_self]⟩
    · cases h
  | .inr p :: l, ws, h => by
    simp only [flatT] at h
    split at h
    · rename_i v l1 hv hl
      cases h
      obtain ⟨g1, g2⟩ := flatL_self (X := X) (z := z) (vs := vs) hv
      obtain ⟨g3, g4⟩ := flatT_self hl
      exact ⟨⟨⟨v, rfl, g1⟩, g3⟩, by simp only [List.all_cons, g4, Bool.and_true]; exact g2⟩
    · cases h
theorem flatS_self {s : SV D} {w : Value} (h : flatS s = some w) : rel X.G z vs s w ∧ AM.flat w = true := by
  unfold flatS at h
  split at h
  · obtain ⟨g1, _, _, g2⟩ := flatC_self (X := X) (z := z) (vs := vs) h
    exact ⟨g1, g2⟩
  · split at h
    · rename_i ds hd
      cases h
      obtain ⟨g1, g2⟩ := flatL_self (X := X) (z := z) (vs := vs) hd
      exact ⟨⟨ds, rfl, g1⟩, g2⟩
    · cases h
  · split at h
    · rename_i ws hd
      cases h
      obtain ⟨g1, g2⟩ := flatT_self (X := X) (z := z) (vs := vs) hd
      exact ⟨⟨ws, rfl, g1⟩, g2⟩
    · cases h
  · cases h
theorem Inv.app (O N : List (Ob D)) : Inv O (O ++ N) := ⟨by simp, fun i p hi hp _ _ => by rw [List.getElem?_append_left hi] at hp; exact hp⟩
theorem Mm.nil (hM : Mm X.G O z e m k vs) : Mm X.G ([] : List (Ob D)) z m m none [] := ⟨St.start hM.st.fz hM.st.dead, rfl, by simp, by simp⟩
/-- The caller's state after a call. -/
theorem st_call {kk : Option Nat} (h : St z1 e m k) (h2 : St z2 m m1 kk) (hk : ∀ b, kk = some b → e.next ≤ b ∨ k = some b) : St z2 e m1 k ∧ Same m m1 kk :=
  ⟨⟨h2.fz, h2.dead, h.dead0, Nat.le_trans h.next h2.next, fun b hb hn => by
    rw [h2.kept b (Nat.lt_of_lt_of_le hb h.next) (fun hh => by rcases hk b hh with h3 | h3; omega; exact hn h3)]
    exact h.kept b hb hn⟩, ⟨h2.next, h2.dead, h2.kept⟩⟩
/-- The slots of a call's start. -/
theorem start_rl {ins : List It} {fx : List (Nat × SV D)} {svs avs : List (SV D)} {O1 : List (Ob D)} {x : inT D ins} {vs0 : List Value} (hE : Rl X z vs (enumE 0 svs) fr) (ha : AOk X z vs fr ins avs) (hb : rdB X [] O1 ins avs [] = some x)
    (hx : (fx.all fun p => fxT [] p.2 (lkE (enumE 0 svs) p.1)) = true) : ∀ p ∈ mkE X ins x ++ fx, rel X.G z vs0 p.2 (fr p.1) := by
  intro p hp
  rcases List.mem_append.1 hp with hp | hp
  · exact rdB_v hb ha p hp
  · have ht := List.all_eq_true.1 hx p hp
    have := fxT_ok (X := X) (vs' := vs0) id ht (hE p.1) (by simp)
    rwa [rnS_id] at this
/-- The objects after a call: what was there, what is new. -/
theorem after {outs : List It} {y : inT D outs} {O0 : List (Ob D)} {vs0 nv : List Value} {kk : Option Nat} {O2 O3 : List (Ob D)} (h1 : Mm X.G O2 z1 e m k vs) (h3 : Mm X.G O3 z2 e m1 k vs) (h0 : Mm X.G (O0 ++ mkO X outs y) z2 m m1 kk (vs0 ++ nv)) (hl : vs0.length = O0.length) (hn : newOk outs = true)
    (hlt : ∀ (j : Nat) (o : Ob D) (v : Value), O3[j]? = some o → vs[j]? = some v → o.live = true → ∀ b, blkV v = some b → b < m.next) : Mm X.G (O3 ++ mkO X outs y) z2 e m1 k (vs ++ nv) := by
  have hnl : nv.length = (mkO X outs y).length := by
    have := h0.len
    simp only [List.length_append] at this
    omega
  have up : ∀ (j : Nat) (o : Ob D) (v : Value), (mkO X outs y)[j]? = some o → nv[j]? = some v → (O0 ++ mkO X outs y)[O0.length + j]? = some o ∧ (vs0 ++ nv)[O0.length + j]? = some v := by
    intro j o v ho hv
    rw [List.getElem?_append_right (by omega), List.getElem?_append_right (by omega), hl]
    rw [show O0.length + j - O0.length = j by omega]
    exact ⟨ho, hv⟩
  refine h3.adds hnl hlt (fun j o v ho hv => ?_) (fun i j o p v w hij ho hp hv hw => ?_)
  · obtain ⟨g1, g2⟩ := up j o v ho hv
    have hob := h0.obj _ o v g1 g2
    obtain ⟨c, a, rfl, hc⟩ := newOk_at hn (List.mem_of_getElem? ho)
    exact born hc h1.st.next hob
  · obtain ⟨g1, g2⟩ := up i o v ho hv
    obtain ⟨g3, g4⟩ := up j p w hp hw
    obtain ⟨_, c, a, _, h5⟩ := mkO_mk (List.mem_of_getElem? ho)
    obtain ⟨_, c', a', _, h6⟩ := mkO_mk (List.mem_of_getElem? hp)
    exact h0.ap _ _ o p v w (by omega) g1 g3 (by rw [h5]; exact OC.mk_live) (by rw [h6]; exact OC.mk_live) g2 g4
/-- The slots of the results, under the caller's numbers. -/
theorem out_rl {outs : List It} {y : inT D outs} {ofx : List (Nat × SV D)} {vs0 vs1 : List Value} {τ : Nat → Nat} (ho : (ofx.all fun p => simpS p.2) = true) (h : ∀ q ∈ mkE X outs y ++ ofx, rel X.G z vs0 q.2 (fr q.1)) (hv : ∀ (j : Nat) (u : Value), vs0[j]? = some u → vs1[τ j]? = some u) :
    Rl X z vs1 (mkE X outs y ++ ofx.map fun q => (q.1, rnS τ q.2)) fr := by
  refine Rl_of fun q hq => ?_
  rcases List.mem_append.1 hq with hq | hq
  · obtain ⟨c, a, hc⟩ := mkE_mk hq
    have := h q (List.mem_append.2 (.inl hq))
    rw [hc] at this ⊢
    exact Cl.mk_vs this
  · obtain ⟨q0, hq0, rfl⟩ := List.mem_map.1 hq
    exact rn_ok (List.all_eq_true.1 ho q0 hq0) (h q0 (List.mem_append.2 (.inr hq0))) fun j u _ hu => hv j u hu
theorem rcvG_ok {t b : Nat} {o : Ob D} {x : D t} (hg : rcvG X t (some o) = some x) (ho : ObOk X.G z e m k vs o (.pointer (some ⟨b, 0, none⟩))) :
    o.live = true ∧ (e.next ≤ b ∨ k = some b) ∧ (∀ vs', ObOk X.G z m m (some b) vs' (.recv t (lvX X t x) false : Ob D) (.pointer (some ⟨b, 0, none⟩))) ∧
    (∀ {z2 : Nat → Blk} {m1 : Mem} {w : Bool} {a : D t} {ws : List Value}, ObOk X.G z2 m m1 (some b) ws (.recv t (lvX X t a) w : Ob D) (.pointer (some ⟨b, 0, none⟩)) → ObOk X.G z2 e m1 k vs (rcvP t (lvX X t a) o) (.pointer (some ⟨b, 0, none⟩)) ∧ (o.clean = true → a = x → ObOk X.G z2 e m1 k vs o (.pointer (some ⟨b, 0, none⟩)))) := by
  unfold rcvG at hg
  split at hg
  · rename_i t' cs w heq
    cases heq
    obtain ⟨ht, hg⟩ := ite_some hg
    subst ht
    obtain ⟨c, ds, h1, h2, h3, h4⟩ := ho
    cases h1
    refine ⟨rfl, .inl h3, fun vs' => ⟨b, ds, rfl, ⟨h2.blk, h2.lt, h2.dead, .inr rfl⟩, pkX_lv hg h4⟩, ?_⟩
    intro z2 m1 w a ws hr
    obtain ⟨c, ds', g1, g2, g3⟩ := hr
    cases g1
    refine ⟨⟨b, ds', rfl, ⟨g2.blk, g2.lt, g2.dead, .inl h3⟩, h3, lvX_vs g3⟩, fun hc ha => ?_⟩
    subst ha
    rw [pkX_n hg hc]
    exact ⟨b, ds', rfl, ⟨g2.blk, g2.lt, g2.dead, .inl h3⟩, h3, lvX_vs g3⟩
  · rename_i t' cs w heq
    cases heq
    obtain ⟨ht, hg⟩ := ite_some hg
    subst ht
    obtain ⟨c, ds, h1, h2, h4⟩ := ho
    cases h1
    refine ⟨rfl, h2.fresh, fun vs' => ⟨b, ds, rfl, ⟨h2.blk, h2.lt, h2.dead, .inr rfl⟩, pkX_lv hg h4⟩, ?_⟩
    intro z2 m1 w a ws hr
    obtain ⟨c, ds', g1, g2, g3⟩ := hr
    cases g1
    refine ⟨⟨b, ds', rfl, ⟨g2.blk, g2.lt, g2.dead, h2.fresh⟩, lvX_vs g3⟩, fun hc ha => ?_⟩
    subst ha
    rw [pkX_n hg hc]
    exact ⟨b, ds', rfl, ⟨g2.blk, g2.lt, g2.dead, h2.fresh⟩, lvX_vs g3⟩
  · cases hg
/-- Does it leave memory alone? -/
def FD.quiet (d : FD D) : Bool := d.flat && d.rcv.isNone
/-- What is asked of one function. -/
def CallOk (X : Ev P D) (d : FD D) (F : d.F) : Prop := ∀ (svs : List (SV D)) (O : List (Ob D)) {ρ : Type} (K : SV D → List (Ob D) → Option ρ) (r : ρ) {z : Nat → Blk} {e m : Mem} {k : Option Nat} {vs : List Value} (args : List Value),
  Mm X.G O z e m k vs → L2 (rel X.G z vs) svs args → d.call X F svs O K = some r → CallW P d.f args.toArray m fun v m' => Nxt X O z e k vs K r v m' ∧ (d.quiet = true → m' = m) ∧ ∃ q, Chg m m' q ∧ TgtQ vs (boxesOf svs) q
theorem Same.chg {q : Option Nat} (h : Same m m1 q) : Chg m m1 q := ⟨h.next, h.blk⟩
theorem boxes_at {i off d : Nat} : ∀ {l : List (SV D)} {n : Nat}, lkE (enumE n l) d = .box i off → i ∈ boxesOf l
  | [], n, h => by cases h
  | s :: l, n, h => by
    simp only [enumE, lkE] at h
    split at h
    · subst h; exact List.mem_cons_self
    · have := boxes_at h
      cases s <;> first | exact this | exact List.mem_cons_of_mem _ this
theorem FOk.call {d : FD D} {F : d.F} (hF : FOk P X d F) : CallOk X d F := by
  intro svs O ρ K r z e m k vs args hM hL h
  obtain ⟨fn, c, f1, f2, f3, f4, f5, hB⟩ := hF.ex
  have hnew := hF.new
  have hso := hF.so
  unfold FD.call at h
  obtain ⟨hlen, h⟩ := ite_some h
  have hlen := Nat.eq_of_beq_eq_true hlen
  split at h
  · rename_i avs O1 hf
    obtain ⟨hx, h⟩ := ite_some h
    split at h
    · rename_i x hb
      have hsz : args.toArray.size ≤ fn.ntmps := by
        rw [List.size_toArray, ← hL.length, hlen]
        exact Nat.le_of_ble_eq_true f4
      have hE : ∀ fr : Nat → Value, (∀ i v, args.toArray.toList[i]? = some v → fr i = v) → Rl X z vs (enumE 0 svs) fr := fun fr hfr => enumE_at hL fun j v hj => by rw [Nat.zero_add]; exact hfr j v (by simpa using hj)
      obtain ⟨f, np, ins, fx, rcv, rk, outs, ofx, rvs, flat⟩ := d
      cases rcv with
      | none =>
        obtain ⟨y, hy, h⟩ := bind_some h
        split at h
        · rename_i sv hsv
          have body : ∀ fr : Nat → Value, (∀ i v, args.toArray.toList[i]? = some v → fr i = v) → W P c (fun ex fr1 m1 => (ex = .normal ∨ ex = .ret) ∧ ∃ z1 z2 nv, Inv O O1 ∧ Zx e.next z z1 ∧ Mm X.G O1 z1 e m k vs ∧ Zx m.next z1 z2 ∧ Mm X.G (mkO X outs (ofOut outs y)) z2 m m1 none nv ∧ ∃ fr2, resultsR P fr1 m1 rvs ((resOf VB rvs).map fr2) ∧ (rel X.G z2 (vs ++ nv) sv (pack ((resOf VB rvs).map fr2)) ∧ (((resOf VB rvs).map fr2).length = 1 ∨ ∀ x ∈ (resOf VB rvs).map fr2, storable x = true))) fr m := by
            intro fr hfr
            obtain ⟨z1, g0, g1, g2, g3⟩ := frzA_ok hM (hE fr hfr) hf
            have hrl := start_rl (vs0 := []) ((hE fr hfr).mono g1.le fun _ _ h => h) g3 hb hx
            refine (hB () x y (z := z1) (m := m) (kk := none) (vs0 := []) hy g2.nil (Rl_of fun p hp => hrl p (by simpa [rE] using hp))).mono ?_
            rintro ex fr1 m1 ⟨he, fr2, q1, z2, nv, k1, k2, k3⟩
            have k2 : Mm X.G (mkO X outs (ofOut outs y)) z2 m m1 none nv := k2
            refine ⟨he, z1, z2, nv, g0, g1, g2, k1, k2, fr2, q1, resE_ok (out_rl (vs0 := nv) hso k3 fun j u hu => ?_) hsv⟩
            show (vs ++ nv)[O1.length + j]? = some u
            rw [List.getElem?_append_right (by rw [g2.len]; omega), g2.len, show O1.length + j - O1.length = j by omega]
            exact hu
          split at h
          · split at h
            · rename_i w hw
              obtain ⟨w1, w2⟩ := flatS_self (X := X) (z := z) (vs := vs) hw
              refine (CallW.flat (z := z) f1 f2 f3 hsz w2 fun fr hfr => (body fr hfr).mono ?_).mono ?_
              · rintro ex fr1 m1 ⟨he, z1, z2, nv, _, _, _, _, k2, fr2, q1, k3, k4⟩
                exact ⟨he, z2, k2.st, _, by rw [f5]; exact q1, k4, (flatS_ok hw k3).1⟩
              · rintro v m' ⟨rfl, rfl⟩
                exact ⟨Nxt.here hM w1 h, fun _ => rfl, none, Chg.refl _, .inl rfl⟩
            · cases h
          · rename_i hnf
            refine CallW.any f1 f2 f3 hsz fun fr hfr => (body fr hfr).mono ?_
            rintro ex fr1 m1 ⟨he, z1, z2, nv, g0, g1, g2, k1, k2, fr2, q1, k3, k4⟩
            obtain ⟨s1, s2⟩ := st_call (e := e) (k := k) g2.st k2.st (by simp)
            refine ⟨he, _, by rw [f5]; exact q1, k4, ⟨z2, vs ++ nv, sv, _, g0.trans (Inv.app _ _), g1.trans (k1.anti hM.st.next), ext_get, ?_, k3, h⟩, fun hq => absurd (by simpa [FD.quiet] using hq) hnf, none, s2.chg, .inl rfl⟩
            have h3 := g2.call k1 s2 s1 rfl fun j o' hj => .inl ⟨hj, fun _ v _ => Ap.none'⟩
            exact after (O0 := []) (vs0 := []) g2 h3 k2 rfl hnew fun j o v ho hv hl b hb => ((g2.obj j o v ho hv).lt hl b hb).1
        · cases h
      | some p =>
        unfold goCall at h
        dsimp only at h
        split at h
        · rename_i i hi
          split at h
          · rename_i o ho
            obtain ⟨rr, hrr, h⟩ := bind_some h
            obtain ⟨y, hy, h⟩ := bind_some h
            split at h
            · rename_i sv hsv
              refine CallW.any f1 f2 f3 hsz fun fr hfr => ?_
              obtain ⟨z1, g0, g1, g2, g3⟩ := frzA_ok hM (hE fr hfr) hf
              have hrl := fun vs0 => start_rl (vs0 := vs0) ((hE fr hfr).mono g1.le fun _ _ h => h) g3 hb hx
              have hp := hE fr hfr p.1
              rw [hi] at hp
              obtain ⟨b, b1, b2⟩ := hp
              have hob := g2.obj i o _ ho b1
              obtain ⟨r1, r2, r3, r4⟩ := rcvG_ok hrr hob
              have hM0 : Mm X.G (rO X (some p) rr) z1 m m (some b) [.pointer (some ⟨b, 0, none⟩)] := by
                refine ⟨St.start g2.st.fz g2.st.dead, rfl, fun j o' v hj hv => ?_, fun a b' o' p' v w hab ha hb' => ?_⟩
                · cases j with
                  | zero => simp [rO] at hj hv; subst hj hv; exact r3 _
                  | succ j => simp [rO] at hj
                · cases a with
                  | zero => cases b' with
                    | zero => exact absurd rfl hab
                    | succ b' => simp [rO] at hb'
                  | succ a => simp [rO] at ha
              refine (hB rr x y (z := z1) (m := m) (kk := some b) (vs0 := [.pointer (some ⟨b, 0, none⟩)]) hy hM0 (Rl_of fun q hq => ?_)).mono ?_
              · rcases List.mem_append.1 hq with hq | hq
                · exact hrl _ q (List.mem_append.2 (.inl hq))
                · rcases List.mem_append.1 hq with hq | hq
                  · exact hrl _ q (List.mem_append.2 (.inr hq))
                  · simp only [rE, List.mem_cons, List.not_mem_nil, or_false] at hq
                    subst hq
                    exact ⟨b, rfl, b2⟩
              rintro ex fr1 m1 ⟨he, fr2, q1, z2, nv, k1, k2, k3⟩
              obtain ⟨s1, s2⟩ := st_call (e := e) (k := k) g2.st k2.st (fun c hc => by cases hc; exact r2)
              have hi0 : i < O1.length := (List.getElem?_eq_some_iff.1 ho).1
              have hnum : ∀ (j : Nat) (u : Value), ([Value.pointer (some ⟨b, 0, none⟩)] ++ nv)[j]? = some u → (vs ++ nv)[num1 i O1.length j]? = some u := by
                intro j u hu
                cases j with
                | zero =>
                  simp at hu; subst hu
                  show (vs ++ nv)[i]? = _
                  exact ext_get _ _ b1
                | succ j =>
                  simp at hu
                  show (vs ++ nv)[O1.length + (j + 1 - 1)]? = _
                  rw [List.getElem?_append_right (by rw [g2.len]; omega), g2.len, show O1.length + (j + 1 - 1) - O1.length = j by omega]
                  exact hu
              have hres := resE_ok (out_rl hso k3 hnum) hsv
              have k2 : Mm X.G (([if rk = 1 then (.recv p.2 (lvX X p.2 rr) false : Ob D) else if rk = 2 then updOf X idN outs (ofOut outs y) 0 else .dead] : List (Ob D)) ++ mkO X outs (ofOut outs y)) z2 m m1 (some b) ([.pointer (some ⟨b, 0, none⟩)] ++ nv) := k2
              have hh := k2.obj 0 _ (.pointer (some ⟨b, 0, none⟩)) rfl rfl
              have apart : ∀ (j : Nat) (o' : Ob D), j ≠ i → O1[j]? = some o' → o'.live = true → ∀ v, vs[j]? = some v → Ap (blkV v) (some b) := fun j o' hji hj hl v hv => g2.ap j i o' o v _ hji hj ho hl r1 hv b1
              have lt1 : ∀ (j : Nat) (o' : Ob D) (v : Value), O1[j]? = some o' → vs[j]? = some v → o'.live = true → ∀ c, blkV v = some c → c < m.next := fun j o' v ho hv hl c hc => ((g2.obj j o' v ho hv).lt hl c hc).1
              have fin : ∀ {O3 : List (Ob D)}, Inv O1 O3 → Mm X.G O3 z2 e m1 k vs → (∀ (j : Nat) (o' : Ob D) (v : Value), O3[j]? = some o' → vs[j]? = some v → o'.live = true → ∀ c, blkV v = some c → c < m.next) → K sv (O3 ++ mkO X outs (ofOut outs y)) = some r → Nxt X O z e k vs K r (pack ((resOf VB rvs).map fr2)) m1 := by
                intro O3 hi3 h3 hlt hK
                exact ⟨z2, vs ++ nv, sv, _, (g0.trans hi3).trans (Inv.app _ _), g1.trans (k1.anti hM.st.next), ext_get, after g2 h3 k2 rfl hnew hlt, hres.1, hK⟩
              have turn : ∀ {o3 : Ob D}, o3.tch = true → (∀ v, vs[i]? = some v → ObOk X.G z2 e m1 k vs o3 v) → K sv (O1.set i o3 ++ mkO X outs (ofOut outs y)) = some r → Nxt X O z e k vs K r (pack ((resOf VB rvs).map fr2)) m1 := by
                intro o3 ht h3 hK
                refine fin (Inv.set O1 i (.inr ht)) (g2.call k1 s2 s1 (by simp) fun j o' hj => ?_) (fun j o' v hj hv hl c hc => ?_) hK
                · rw [List.getElem?_set] at hj
                  split at hj
                  · rename_i hij
                    subst hij
                    simp [hi0] at hj
                    subst hj
                    exact .inr ⟨o, ho, r1, h3⟩
                  · rename_i hij
                    exact .inl ⟨hj, fun hl v hv => apart j o' (fun e => hij e.symm) hj hl v hv⟩
                · rw [List.getElem?_set] at hj
                  split at hj
                  · rename_i hij
                    subst hij
                    exact lt1 i o v ho hv r1 c hc
                  · exact lt1 j o' v hj hv hl c hc
              refine ⟨he, _, by rw [f5]; exact q1, hres.2, ?_, fun hq => absurd hq (by simp [FD.quiet]), some b, s2.chg, .inr ⟨i, boxes_at hi, _, b1, rfl⟩⟩
              split at h
              · rename_i hk2
                rw [if_neg (by omega), if_pos hk2] at hh
                split at h
                · rename_i t cs w hu
                  obtain ⟨ht, h⟩ := ite_some h
                  rcases updOf_mk (X := X) (its := outs) (x := ofOut outs y) (j := 0) with hd | ⟨_, c', a', _, hd⟩
                  · rw [hd] at hu; cases hu
                  · cases c' with
                    | recv t' =>
                      have hd := hd idN
                      have hd' := hd
                      rw [hu] at hd
                      simp only [OC.mkr] at hd
                      cases hd
                      subst ht
                      rw [hd'] at hh
                      refine turn ?_ (fun v hv => ?_) h
                      · unfold rcvP; split <;> rfl
                      · rw [b1] at hv; cases hv
                        exact (r4 hh).1
                    | _ => rw [hd] at hu; cases hu
                · cases h
              · obtain ⟨hk1, h⟩ := ite_some h
                rw [if_pos hk1] at hh
                split at h
                · rename_i hcl
                  refine fin (Inv.refl O1) (g2.call k1 s2 s1 rfl fun j o' hj => ?_) lt1 h
                  by_cases hji : j = i
                  · subst hji
                    rw [ho] at hj; cases hj
                    exact .inr ⟨o, ho, r1, fun v hv => by rw [b1] at hv; cases hv; exact (r4 hh).2 hcl rfl⟩
                  · exact .inl ⟨hj, fun hl v hv => apart j o' hji hj hl v hv⟩
                · refine turn ?_ (fun v hv => ?_) h
                  · unfold rcvP; split <;> rfl
                  · rw [b1] at hv; cases hv
                    exact (r4 hh).1
            · cases h
          · cases h
        · cases h
    · cases h
  · cases h
/-- Functions, the earlier ones at the end. -/
structure FE (D : Nat → Type) where
  d : FD D
  F : d.F
def FD.fits (X : Ev P D) (d : FD D) (svs : List (SV D)) (O : List (Ob D)) : Bool :=
  Nat.beq svs.length d.np && match frzA (enumE 0 svs) d.ins O with
  | some (avs, O1) => (d.fx.all fun p => fxT [] p.2 (lkE (enumE 0 svs) p.1)) && (rdB X [] O1 d.ins avs []).isSome
  | none => false
def goCalls (X : Ev P D) : List (FE D) → Nat → List (SV D) → List (Ob D) → {ρ : Type} → (SV D → List (Ob D) → Option ρ) → Option ρ
  | [], _, _, _, _, _ => none
  | x :: l, f, svs, O, _, K => if (Nat.beq x.d.f f && x.d.fits X svs O) = true then x.d.call X x.F svs O K else goCalls X l f svs O K
/-- The tables, with these functions. -/
def goFlat (X : Ev P D) : List (FE D) → Nat → List (SV D) → List (Ob D) → Bool
  | [], _, _, _ => false
  | x :: l, f, svs, O => if (Nat.beq x.d.f f && x.d.fits X svs O) = true then x.d.quiet else goFlat X l f svs O
/-- What may change of an evaluator while its data stay. -/
structure ChQ (D : Nat → Type) where
  F : (f : Nat) → List (SV D) → List (Ob D) → Bool
  U : Operand → Option Operand → Option Operand → Nat
  C : (f : Nat) → List (SV D) → List (Ob D) → {ρ : Type} → (SV D → List (Ob D) → Option ρ) → Option ρ
def Ev.ch (X : Ev P D) (q : ChQ D) : Ev P D := { X with C := q.C, F := q.F, U := q.U }
def Ev.with (X : Ev P D) (l : List (FE D)) : Ev P D := X.ch ⟨goFlat X l, X.U, goCalls X l⟩
def Ev.cuts (X : Ev P D) (f : Operand → Option Operand → Option Operand → Nat) : Ev P D := X.ch ⟨X.F, f, X.C⟩
theorem lvX_with (l : ChQ D) (t : Nat) (x : D t) : lvX (X.ch l) t x = lvX X t x := by
  cases hI : X.I t with
  | none =>
    have h2 : (X.ch l).I t = none := hI
    unfold lvX
    rw [hI, h2]
  | some ti =>
    have h2 : (X.ch l).I t = some ti := hI
    unfold lvX
    rw [hI, h2]
theorem pkX_with (l : ChQ D) (t : Nat) (cs : List (CV D)) : pkX (X.ch l) t cs = pkX X t cs := by
  cases hI : X.I t with
  | none =>
    have h2 : (X.ch l).I t = none := hI
    unfold pkX
    rw [hI, h2]
  | some ti =>
    have h2 : (X.ch l).I t = some ti := hI
    unfold pkX
    rw [hI, h2]
theorem mkCaps_with (l : ChQ D) : ∀ (ts : List Nat) (x : inDs D ts), mkCaps (X.ch l) ts x = mkCaps X ts x
  | [], _ => rfl
  | t :: ts, x => by
    show (t, lvX (X.ch l) t x.1) :: mkCaps (X.ch l) ts x.2 = (t, lvX X t x.1) :: mkCaps X ts x.2
    rw [mkCaps_with l ts x.2, lvX_with l t x.1]
theorem gtCaps_with (l : ChQ D) : ∀ (ts : List Nat) (x : List (Nat × List (CV D))), gtCaps (X.ch l) ts x = gtCaps X ts x
  | [], [] => rfl
  | [], _ :: _ => rfl
  | _ :: _, [] => rfl
  | t :: ts, p :: x => by
    simp only [gtCaps, gtCaps_with l ts x, pkX_with]
theorem Cl.mk_with (l : ChQ D) (c : Cl) (x : c.ty D) : Cl.mk (X.ch l) c x = Cl.mk X c x := by
  cases c with
  | fn f ts => exact congrArg (SV.fn f) (mkCaps_with l ts x)
  | agg t => exact congrArg (SV.agg t) (lvX_with l t x)
  | rp t => exact congrArg (fun cs => SV.rp t cs 0) (lvX_with l t x)
  | _ => rfl
theorem Cl.get_with (l : ChQ D) (c : Cl) (s : SV D) : Cl.get (X.ch l) c s = Cl.get X c s := by
  unfold Cl.get
  split
  · rfl
  · rfl
  · rfl
  · rfl
  · rfl
  · rfl
  · rfl
  · rename_i t t' cs
    exact congrArg (fun q : Option (D t) => if t' = t then q else none) (pkX_with l t cs)
  · rename_i t t' cs off
    exact congrArg (fun q : Option (D t) => if t' = t ∧ off = 0 then q else none) (pkX_with l t cs)
  · rename_i f ts f' cs
    exact congrArg (fun q : Option (inDs D ts) => if f' = f then q else none) (gtCaps_with l ts cs)
  · rfl
theorem OC.mkr_with (l : ChQ D) (τ : Nat → Nat) (c : OC) (x : c.ty D) (w : Bool) : OC.mkr (X.ch l) τ c x w = OC.mkr X τ c x w := by
  cases c with
  | box t => exact congrArg (fun cs => Ob.box t cs false w) (lvX_with l t x)
  | recv t => exact congrArg (fun cs => Ob.recv t cs w) (lvX_with l t x)
  | bx t p => exact congrArg (fun cs => Ob.box t (ownG τ p 0 cs) false w) (lvX_with l t x)
  | _ => rfl
theorem OC.mk_with (l : ChQ D) (c : OC) (x : c.ty D) (w : Bool) : OC.mk (X.ch l) c x w = OC.mk X c x w := OC.mkr_with l _ c x w
theorem OC.get_with (l : ChQ D) (σ : List Nat) (c : OC) (o : Ob D) : OC.get (X.ch l) σ c o = OC.get X σ c o := by
  unfold OC.get
  split
  · rfl
  · rename_i t t' cs w
    exact congrArg (fun q : Option (D t) => if t' = t then q else none) (pkX_with l t cs)
  · rename_i t t' cs w
    exact congrArg (fun q : Option (D t) => if t' = t then q else none) (pkX_with l t cs)
  · rfl
  · rfl
  · rename_i t p t' cs w
    exact congrArg (fun q : Option (D t) => if t' = t ∧ linkB σ cs p = true then q else none) (pkX_with l t (nilG p 0 cs))
  · rfl
theorem rcvG_with (l : ChQ D) (t : Nat) (o : Option (Ob D)) : rcvG (X.ch l) t o = rcvG X t o := by
  unfold rcvG
  split
  · rw [pkX_with]
  · rw [pkX_with]
  · rfl
theorem rdB_with (l : ChQ D) {σ0 : List Nat} : ∀ (its : List It) (avs : List (SV D)) (σ : List Nat), rdB (X.ch l) σ0 O its avs σ = rdB X σ0 O its avs σ
  | [], _, [] => rfl
  | [], _, _ :: _ => by simp [rdB]
  | .v _ _ :: _, [], _ => by simp [rdB]
  | .o _ _ :: _, [], _ => by simp [rdB]
  | .u _ _ :: _, [], _ => by simp [rdB]
  | .v d c :: its, s :: avs, σ => by simp only [rdB, Cl.get_with, rdB_with l its avs σ]
  | .o d c :: its, s :: avs, [] => rfl
  | .o d c :: its, s :: avs, i :: σ => by simp only [rdB, OC.get_with, rdB_with l its avs σ]
  | .u d c :: its, s :: avs, σ => by simp only [rdB, OC.get_with, rdB_with l its avs σ]
theorem mkO_with (l : ChQ D) : ∀ (its : List It) (x : inT D its), mkO (X.ch l) its x = mkO X its x
  | [], _ => rfl
  | .v d c :: its, x => mkO_with l its x.2
  | .u d c :: its, x => mkO_with l its x.2
  | .o d c :: its, x => by
    show OC.mk (X.ch l) c x.1 false :: mkO (X.ch l) its x.2 = OC.mk X c x.1 false :: mkO X its x.2
    rw [mkO_with l its x.2]
    exact congrArg (fun q => q :: mkO X its x.2) (OC.mk_with l c x.1 false)
theorem mkE_with (l : ChQ D) : ∀ (its : List It) (x : inT D its), mkE (X.ch l) its x = mkE X its x
  | [], _ => rfl
  | .v d c :: its, x => by
    show (d, Cl.mk (X.ch l) c x.1) :: mkE (X.ch l) its x.2 = (d, Cl.mk X c x.1) :: mkE X its x.2
    rw [mkE_with l its x.2]
    exact congrArg (fun q => (d, q) :: mkE X its x.2) (Cl.mk_with l c x.1)
  | .u d c :: its, x => mkE_with l its x.2
  | .o d c :: its, x => mkE_with l its x.2
theorem updOf_with (l : ChQ D) {τ : Nat → Nat} : ∀ (its : List It) (x : inT D its) (j : Nat), updOf (X.ch l) τ its x j = updOf X τ its x j
  | [], _, _ => rfl
  | .v d c :: its, x, j => updOf_with l its x.2 j
  | .u d c :: its, x, j => by
    show (if Nat.beq d j = true then OC.mkr (X.ch l) τ c x.1 true else updOf (X.ch l) τ its x.2 j) = (if Nat.beq d j = true then OC.mkr X τ c x.1 true else updOf X τ its x.2 j)
    rw [updOf_with l its x.2 j]
    exact congrArg (fun q => if Nat.beq d j = true then q else updOf X τ its x.2 j) (OC.mkr_with l τ c x.1 true)
  | .o d c :: its, x, j => updOf_with l its x.2 j
theorem call_with (l : ChQ D) (d : FD D) (F : d.F) (svs : List (SV D)) (O : List (Ob D)) {ρ : Type} (K : SV D → List (Ob D) → Option ρ) : d.call (X.ch l) F svs O K = d.call X F svs O K := by
  obtain ⟨f, np, ins, fx, rcv, rk, outs, ofx, res, flat⟩ := d
  unfold FD.call
  dsimp only
  simp only [rdB_with]
  cases rcv with
  | none => simp only [goCall, mkE_with, mkO_with]
  | some p =>
    simp only [goCall, mkE_with, mkO_with, updOf_with, rcvG_with, lvX_with]
theorem CallOk.base {l : List (FE D)} {d : FD D} {F : d.F} (h : CallOk (X.with l) d F) : CallOk X d F := by
  intro svs O ρ K r z e m k vs args hM hL hc
  rw [← call_with ⟨goFlat X l, X.U, goCalls X l⟩] at hc
  exact h svs O K r args hM hL hc
theorem COk.cuts {f : Operand → Option Operand → Option Operand → Nat} (h : COk X) : COk (X.cuts f) := h
theorem CallOk.cuts {f : Operand → Option Operand → Option Operand → Nat} {d : FD D} {F : d.F} (h : CallOk (X.cuts f) d F) : CallOk X d F := by
  intro svs O ρ K r z e m k vs args hM hL hc
  rw [← call_with ⟨X.F, f, X.C⟩] at hc
  exact h svs O K r args hM hL hc
/-- A function that goes by another description. -/
def Ev.sub (X : Ev P D) (x : FE D) : Ev P D := X.ch ⟨fun f svs O => if Nat.beq x.d.f f = true then false else X.F f svs O, X.U, fun f svs O _ K => if Nat.beq x.d.f f = true then x.d.call X x.F svs O K else X.C f svs O K⟩
theorem COk.sub {x : FE D} (h : COk X) (hx : CallOk X x.d x.F) : COk (X.sub x) := by
  intro f svs O ρ K r z e m k vs args hM hL hc
  have hc : (if Nat.beq x.d.f f = true then x.d.call X x.F svs O K else X.C f svs O K) = some r := hc
  have hF : (X.sub x).F f svs O = if Nat.beq x.d.f f = true then false else X.F f svs O := rfl
  rw [hF]
  split at hc
  · rename_i hf
    rw [if_pos hf]
    have hf := Nat.eq_of_beq_eq_true hf
    rw [← hf]
    exact (hx svs O K r args hM hL hc).mono fun v m' h => ⟨h.1, fun hh => Bool.noConfusion hh, h.2.2⟩
  · rename_i hf
    rw [if_neg hf]
    exact h f svs O K r args hM hL hc
theorem CallOk.sub {x : FE D} {d : FD D} {F : d.F} (h : CallOk (X.sub x) d F) : CallOk X d F := by
  intro svs O ρ K r z e m k vs args hM hL hc
  unfold Ev.sub at h
  rw [← call_with ⟨fun f svs O => if Nat.beq x.d.f f = true then false else X.F f svs O, X.U, fun f svs O _ K => if Nat.beq x.d.f f = true then x.d.call X x.F svs O K else X.C f svs O K⟩] at hc
  exact h svs O K r args hM hL hc
/-- Two descriptions of one function, each for a part of its arguments. -/
def orI {α : Type} (a b : Option α) : Option α := match a with | some r => some r | none => b
theorem orI_or {α : Type} {a b : Option α} {y : α} (h : orI a b = some y) : a = some y ∨ b = some y := by
  unfold orI at h
  split at h
  · exact .inl h
  · exact .inr h
theorem CallOk.or {d : FD D} {F F1 F2 : d.F} (hr : d.rcv = none) (hF : ∀ r x y, F r x = some y → F1 r x = some y ∨ F2 r x = some y) (h1 : CallOk X d F1) (h2 : CallOk X d F2) : CallOk X d F := by
  intro svs O ρ K r z e m k vs args hM hL hc
  have key : d.call X F1 svs O K = some r ∨ d.call X F2 svs O K = some r := by
    obtain ⟨f, np, ins, fx, rcv, rk, outs, ofx, rvs, flat⟩ := d
    unfold FD.call at hc ⊢
    obtain ⟨hn, hc⟩ := ite_some hc
    rw [if_pos hn, if_pos hn]
    split at hc
    · rename_i avs O1 hf
      obtain ⟨hx, hc⟩ := ite_some hc
      simp only [hf, if_pos hx]
      split at hc
      · rename_i x hb
        simp only [hb]
        cases rcv with
        | none =>
          unfold goCall at hc ⊢
          obtain ⟨y, hy, hc⟩ := bind_some hc
          rcases hF () x y hy with g | g
          · left
            show Option.bind (F1 () x) _ = some r
            rw [g]; exact hc
          · right
            show Option.bind (F2 () x) _ = some r
            rw [g]; exact hc
        | some p => cases hr
      · cases hc
    · cases hc
  rcases key with hk | hk
  · exact h1 svs O K r args hM hL hk
  · exact h2 svs O K r args hM hL hk
theorem CallOk.up {l : List (FE D)} {d : FD D} {F : d.F} (h : CallOk X d F) : CallOk (X.with l) d F := by
  intro svs O ρ K r z e m k vs args hM hL hc
  have hc : d.call (X.ch ⟨goFlat X l, X.U, goCalls X l⟩) F svs O K = some r := hc
  rw [call_with] at hc
  exact h svs O K r args hM hL hc
theorem goCalls_ok {f : Nat} {svs : List (SV D)} {K : SV D → List (Ob D) → Option ρ} {args : List Value} (hM : Mm X.G O z e m k vs) (hL : L2 (rel X.G z vs) svs args) : ∀ {l : List (FE D)}, (∀ x ∈ l, CallOk X x.d x.F) → goCalls X l f svs O K = some r → CallW P f args.toArray m fun v m' => Nxt X O z e k vs K r v m' ∧ (goFlat X l f svs O = true → m' = m) ∧ ∃ q, Chg m m' q ∧ TgtQ vs (boxesOf svs) q
  | [], _, hc => by cases hc
  | x :: l, h, hc => by
    unfold goCalls at hc
    unfold goFlat
    split at hc
    · rename_i hx
      rw [if_pos hx]
      simp only [Bool.and_eq_true] at hx
      have := Nat.eq_of_beq_eq_true hx.1
      subst this
      exact h x List.mem_cons_self svs O K r args hM hL hc
    · rename_i hx
      rw [if_neg hx]
      exact goCalls_ok hM hL (fun y hy => h y (List.mem_cons_of_mem _ hy)) hc
theorem COk.of {l : List (FE D)} (h : ∀ x ∈ l, CallOk X x.d x.F) : COk (X.with l) := by
  intro f svs O ρ K r z e m k vs args hM hL hc
  exact goCalls_ok (X := X) hM hL h hc
/-- One function more. -/
theorem all_call {l : List (FE D)} {x : FE D} (h : CallOk (X.with l) x.d x.F) (hl : ∀ y ∈ l, CallOk X y.d y.F) : ∀ y ∈ x :: l, CallOk X y.d y.F := by
  intro y hy
  rcases List.mem_cons.1 hy with rfl | hy
  · exact h.base
  · exact hl y hy
theorem all_call0 {l : List (FE D)} {x : FE D} (h : CallOk X x.d x.F) (hl : ∀ y ∈ l, CallOk X y.d y.F) : ∀ y ∈ x :: l, CallOk X y.d y.F := by
  intro y hy
  rcases List.mem_cons.1 hy with rfl | hy
  · exact h
  · exact hl y hy
theorem all_cons {l : List (FE D)} {x : FE D} (h : FOk P (X.with l) x.d x.F) (hl : ∀ y ∈ l, CallOk X y.d y.F) : ∀ y ∈ x :: l, CallOk X y.d y.F := by
  intro y hy
  rcases List.mem_cons.1 hy with rfl | hy
  · exact h.call.base
  · exact hl y hy
end
end
end Go.AM
end
section
set_option linter.unusedSimpArgs false
set_option linter.unusedVariables false
namespace Go.AM
/-- A cell of a type, with what its elements are. -/
inductive LT : Type 1 where
  | int (k : IntKind) | bool | str
  | sl (α : Type) (T : Ty α)
def LT.ty : LT → Type
  | .int _ => Int
  | .bool => Bool
  | .str => List UInt8
  | .sl α _ => List α
def LT.rd (z : Nat → Blk) : (l : LT) → l.ty → Value → Prop
  | .int k, n, v => v = .int k n
  | .bool, b, v => v = .bool b
  | .str, s, v => v = AM.str s
  | .sl _ T, xs, v => SlR T z xs v
def inL : List LT → Type
  | [] => Unit
  | l :: ls => l.ty × inL ls
def rdL (z : Nat → Blk) : (ls : List LT) → inL ls → List Value → Prop
  | [], _, [] => True
  | l :: ls, x, v :: vs => l.rd z x.1 v ∧ rdL z ls x.2 vs
  | _, _, _ => False
theorem rdL_len {z : Nat → Blk} : ∀ {ls : List LT} {x : inL ls} {cs : List Value}, rdL z ls x cs → cs.length = ls.length
  | [], _, [], _ => rfl
  | l :: ls, x, v :: vs, h => by simp [rdL_len h.2]
  | [], _, _ :: _, h => h.elim
  | _ :: _, _, [], h => h.elim
theorem rdL_mono {z z' : Nat → Blk} (hz : Zle z z') : ∀ {ls : List LT} {x : inL ls} {cs : List Value}, rdL z ls x cs → rdL z' ls x cs
  | [], _, [], _ => trivial
  | l :: ls, x, v :: vs, h => ⟨by
    have h1 := h.1
    cases l with
    | sl α T => exact SlR.mono hz h1
    | _ => exact h1, rdL_mono hz h.2⟩
  | [], _, _ :: _, h => h.elim
  | _ :: _, _, [], h => h.elim
theorem rdL_one {z : Nat → Blk} : ∀ {ls : List LT} {x : inL ls} {cs : List Value}, rdL z ls x cs → ∀ c ∈ cs, storable c = true ∧ c.cells = #[c]
  | [], _, [], _, c, hc => by simp at hc
  | l :: ls, x, v :: vs, h, c, hc => by
    rcases List.mem_cons.1 hc with rfl | hc
    · have h1 := h.1
      cases l with
      | sl α T => obtain ⟨a, c, rfl⟩ := SlR.len h1; exact ⟨rfl, rfl⟩
      | _ => obtain rfl := h1; exact ⟨rfl, rfl⟩
    · exact rdL_one h.2 c hc
  | [], _, _ :: _, h, _, _ => h.elim
  | _ :: _, _, [], h, _, _ => h.elim
/-- A type of plain cells. -/
def TyOf (t : TypeId) (ls : List LT) {α : Type} (to : α → inL ls) : Ty α where
  sz := ls.length
  tid := t
  rd := fun z x cs => rdL z ls (to x) cs
  len := fun _ _ _ h => rdL_len h
  mono := fun _ _ hz _ _ h => rdL_mono hz h
  one := fun _ _ _ h => rdL_one h
noncomputable section
/-- A cell by its type's number. -/
inductive LC where
  | int (k : IntKind) | bool | str
  | sl (e : Nat)
section
variable {P : Program} {D : Nat → Type} (G : Tab D)
def LC.lt : LC → LT
  | .int k => .int k
  | .bool => .bool
  | .str => .str
  | .sl e => .sl (D e) (G.T e)
def toT : List LC → List LT
  | [] => []
  | c :: cs => c.lt G :: toT cs
def lvL : (ls : List LC) → inL (toT G ls) → List (CV D)
  | [], _ => []
  | .int k :: ls, x => .int k x.1 :: lvL ls x.2
  | .bool :: ls, x => .bool x.1 :: lvL ls x.2
  | .str :: ls, x => .str x.1 :: lvL ls x.2
  | .sl e :: ls, x => .sl e x.1 :: lvL ls x.2
def pkL : (ls : List LC) → List (CV D) → Option (inL (toT G ls))
  | [], [] => some ()
  | .int k :: ls, .int k' n :: cs => if k' = k then (match pkL ls cs with | some y => some (n, y) | none => none) else none
  | .bool :: ls, .bool b :: cs => (match pkL ls cs with | some y => some (b, y) | none => none)
  | .str :: ls, .str s :: cs => (match pkL ls cs with | some y => some (s, y) | none => none)
  | .sl e :: ls, .sl e' xs :: cs => if h : e' = e then (match pkL ls cs with | some y => some ((h ▸ xs : List (D e)), y) | none => none) else none
  | .sl e :: ls, .nilS :: cs => (match pkL ls cs with | some y => some (([] : List (D e)), y) | none => none)
  | _, _ => none
variable {G}
theorem lvL_ok {z : Nat → Blk} {vs : List Value} : ∀ {ls : List LC} {x : inL (toT G ls)} {cs : List Value}, rdL z (toT G ls) x cs → L2 (rel0 G z vs) (lvL G ls x) cs
  | [], _, [], _ => trivial
  | .int k :: ls, x, v :: w, h => ⟨h.1, lvL_ok h.2⟩
  | .bool :: ls, x, v :: w, h => ⟨h.1, lvL_ok h.2⟩
  | .str :: ls, x, v :: w, h => ⟨h.1, lvL_ok h.2⟩
  | .sl e :: ls, x, v :: w, h => ⟨h.1, lvL_ok h.2⟩
  | [], _, _ :: _, h => h.elim
  | .int _ :: _, _, [], h => h.elim
  | .bool :: _, _, [], h => h.elim
  | .str :: _, _, [], h => h.elim
  | .sl _ :: _, _, [], h => h.elim
theorem pkL_lv : ∀ {ls : List LC} (x : inL (toT G ls)), pkL G ls (lvL G ls x) = some x
  | [], _ => rfl
  | .int k :: ls, x => by
    show (if k = k then (match pkL G ls (lvL G ls x.2) with | some y => some (x.1, y) | none => none) else none) = _
    rw [pkL_lv x.2, if_pos rfl]; rfl
  | .bool :: ls, x => by
    show (match pkL G ls (lvL G ls x.2) with | some y => some (x.1, y) | none => none) = _
    rw [pkL_lv x.2]; rfl
  | .str :: ls, x => by
    show (match pkL G ls (lvL G ls x.2) with | some y => some (x.1, y) | none => none) = _
    rw [pkL_lv x.2]; rfl
  | .sl e :: ls, x => by
    show (if h : e = e then (match pkL G ls (lvL G ls x.2) with | some y => some ((h ▸ x.1 : List (D e)), y) | none => none) else none) = _
    rw [pkL_lv x.2, dif_pos rfl]; rfl
theorem pkL_ok {z : Nat → Blk} {vs : List Value} : ∀ {ls : List LC} {cs : List (CV D)} {x : inL (toT G ls)} {ds : List Value}, pkL G ls cs = some x → L2 (rel0 G z vs) cs ds → rdL z (toT G ls) x ds := by
  intro ls
  induction ls with
  | nil =>
    intro cs x ds h hr
    cases cs with
    | nil => cases ds with
      | nil => trivial
      | cons _ _ => exact hr.elim
    | cons c cs => cases h
  | cons l ls ih =>
    intro cs x ds h hr
    cases cs with
    | nil => cases l <;> cases h
    | cons c cs =>
      cases ds with
      | nil => exact hr.elim
      | cons d ds =>
        obtain ⟨h1, h2⟩ := hr
        have fin : ∀ {α : Type} {f : inL (toT G ls) → α} {o : Option (inL (toT G ls))} {r : α}, (match o with | some y => some (f y) | none => none) = some r → ∃ y, o = some y ∧ r = f y := by
          intro α f o r h
          cases o with
          | none => cases h
          | some y => cases h; exact ⟨y, rfl, rfl⟩
        cases l with
        | int k =>
          cases c with
          | int k' n =>
            obtain ⟨hk, h⟩ := ite_some (α := inL (toT G (.int k :: ls))) h
            subst hk
            obtain ⟨y, hy, rfl⟩ := fin h
            exact ⟨h1, ih hy h2⟩
          | _ => cases h
        | bool =>
          cases c with
          | bool n =>
            obtain ⟨y, hy, rfl⟩ := fin h
            exact ⟨h1, ih hy h2⟩
          | _ => cases h
        | str =>
          cases c with
          | str n =>
            obtain ⟨y, hy, rfl⟩ := fin h
            exact ⟨h1, ih hy h2⟩
          | _ => cases h
        | sl t =>
          cases c with
          | sl e' xs =>
            by_cases hk : e' = t
            · subst hk
              have h : (if h : e' = e' then (match pkL G ls cs with | some y => some ((h ▸ xs : List (D e')), y) | none => none) else none) = some x := h
              rw [dif_pos rfl] at h
              obtain ⟨y, hy, rfl⟩ := fin h
              exact ⟨h1, ih hy h2⟩
            · have h : (if h : e' = t then (match pkL G ls cs with | some y => some ((h ▸ xs : List (D t)), y) | none => none) else none) = some x := h
              rw [dif_neg hk] at h
              cases h
          | nilS =>
            obtain ⟨y, hy, rfl⟩ := fin h
            exact ⟨.inl ⟨h1, rfl⟩, ih hy h2⟩
          | _ => cases h
theorem pkL_n : ∀ {ls : List LC} {cs : List (CV D)} {x : inL (toT G ls)}, pkL G ls cs = some x → cs.all noNil = true → cs = lvL G ls x := by
  intro ls
  induction ls with
  | nil =>
    intro cs x h hr
    cases cs with
    | nil => rfl
    | cons c cs => cases h
  | cons l ls ih =>
    intro cs x h hr
    cases cs with
    | nil => cases l <;> cases h
    | cons c cs =>
      simp only [List.all_cons, Bool.and_eq_true] at hr
      obtain ⟨h1, h2⟩ := hr
      have fin : ∀ {α : Type} {f : inL (toT G ls) → α} {o : Option (inL (toT G ls))} {r : α}, (match o with | some y => some (f y) | none => none) = some r → ∃ y, o = some y ∧ r = f y := by
        intro α f o r h
        cases o with
        | none => cases h
        | some y => cases h; exact ⟨y, rfl, rfl⟩
      cases l with
      | int k =>
        cases c with
        | int k' n =>
          obtain ⟨hk, h⟩ := ite_some (α := inL (toT G (.int k :: ls))) h
          subst hk
          obtain ⟨y, hy, rfl⟩ := fin h
          exact congrArg (CV.int k' n :: ·) (ih hy h2)
        | _ => cases h
      | bool =>
        cases c with
        | bool n =>
          obtain ⟨y, hy, rfl⟩ := fin h
          exact congrArg (CV.bool n :: ·) (ih hy h2)
        | _ => cases h
      | str =>
        cases c with
        | str n =>
          obtain ⟨y, hy, rfl⟩ := fin h
          exact congrArg (CV.str n :: ·) (ih hy h2)
        | _ => cases h
      | sl t =>
        cases c with
        | sl e' xs =>
          by_cases hk : e' = t
          · subst hk
            have h : (if h : e' = e' then (match pkL G ls cs with | some y => some ((h ▸ xs : List (D e')), y) | none => none) else none) = some x := h
            rw [dif_pos rfl] at h
            obtain ⟨y, hy, rfl⟩ := fin h
            exact congrArg (CV.sl e' xs :: ·) (ih hy h2)
          · have h : (if h : e' = t then (match pkL G ls cs with | some y => some ((h ▸ xs : List (D t)), y) | none => none) else none) = some x := h
            rw [dif_neg hk] at h
            cases h
        | nilS => cases h1
        | _ => cases h
theorem toT_len : ∀ {ls : List LC}, (toT G ls).length = ls.length
  | [] => rfl
  | l :: ls => by simp [toT, toT_len]
def zcL : List LC → List (CV D)
  | [] => []
  | .int k :: ls => .int k 0 :: zcL ls
  | .bool :: ls => .bool false :: zcL ls
  | .str :: ls => .str [] :: zcL ls
  | .sl _ :: ls => .nilS :: zcL ls
def zvL : List LC → List Value
  | [] => []
  | .int k :: ls => .int k 0 :: zvL ls
  | .bool :: ls => .bool false :: zvL ls
  | .str :: ls => .string ⟨#[]⟩ :: zvL ls
  | .sl _ :: ls => .slice none 0 0 :: zvL ls
theorem zcL_ok {z : Nat → Blk} {vs : List Value} : ∀ {ls : List LC}, L2 (rel0 G z vs) (zcL ls : List (CV D)) (zvL ls)
  | [] => trivial
  | .int k :: ls => ⟨rfl, zcL_ok⟩
  | .bool :: ls => ⟨rfl, zcL_ok⟩
  | .str :: ls => ⟨rfl, zcL_ok⟩
  | .sl _ :: ls => ⟨rfl, zcL_ok⟩
theorem lvL_own : ∀ {ls : List LC} {x : inL (toT G ls)}, (lvL G ls x).all nOwn = true
  | [], _ => rfl
  | .int k :: ls, x => by simp only [lvL, List.all_cons, lvL_own, nOwn, Bool.and_self]
  | .bool :: ls, x => by simp only [lvL, List.all_cons, lvL_own, nOwn, Bool.and_self]
  | .str :: ls, x => by simp only [lvL, List.all_cons, lvL_own, nOwn, Bool.and_self]
  | .sl _ :: ls, x => by simp only [lvL, List.all_cons, lvL_own, nOwn, Bool.and_self]
/-- What the evaluator knows of a type of plain cells. -/
def tiOf {t : Nat} (ls : List LC) (to : D t → inL (toT G ls)) (of : inL (toT G ls) → D t) (h1 : ∀ x, of (to x) = x) (h2 : ∀ y, to (of y) = y) (x0 : D t) (i : TypeInfo) (zv : Value)
    (hT : G.T t = TyOf t (toT G ls) to) (hi : P.info? t = some i) (hsz : i.size = ls.length) (hpos : (ls.length == 0) = false) (hby : Nat.ble i.bytes 32768 = true) (hz : i.zero = some zv) (hzf : zv.cells.toList.all flat0 = true) (hzs : zv.cells.size = i.size)
    (rd0 : ∀ z, rdL z (toT G ls) (to x0) zv.cells.toList) (hzv : zv.cells.toList = zvL ls) : TI P G t where
  zc := zcL ls
  hzc := fun z vs => by rw [hzv]; exact zcL_ok
  lvo := fun x => lvL_own
  lv := fun x => lvL G ls (to x)
  pk := fun cs => match pkL G ls cs with | some y => some (of y) | none => none
  x0 := x0
  i := i
  zv := zv
  tid := by rw [hT]; rfl
  hi := hi
  hsz := by rw [hT, hsz]; exact toT_len.symm
  hpos := by
    rw [hT]
    show ((toT G ls).length == 0) = false
    rw [toT_len]; exact hpos
  hby := hby
  hz := hz
  hzf := hzf
  hzs := hzs
  rd0 := fun z => by rw [hT]; exact rd0 z
  rdl := fun z vs x cs h => by rw [hT] at h; exact lvL_ok h
  pkl := fun z vs cs x ds h hr => by
    rw [hT]
    split at h
    · rename_i y hy
      cases h
      show rdL z (toT G ls) (to (of y)) ds
      rw [h2]; exact pkL_ok hy hr
    · cases h
  pklv := fun x => by
    show (match pkL G ls (lvL G ls (to x)) with | some y => some (of y) | none => none) = some x
    rw [pkL_lv]; exact congrArg some (h1 x)
  pkn := fun cs x h hn => by
    split at h
    · rename_i y hy
      cases h
      rw [h2]; exact pkL_n hy hn
    · cases h
/-- Bytes. -/
theorem toU8_back (u : UInt8) : toU8 (u.toNat : Int) = some u := by
  unfold toU8
  have := u.toNat_lt
  rw [if_pos (by omega)]
  simp
def tiU8 {t : Nat} (to : D t → UInt8) (of : UInt8 → D t) (oo : Option UInt8 → Option (D t)) (hoo : ∀ o, oo o = o.map of) (h1 : ∀ x, of (to x) = x) (h2 : ∀ y, to (of y) = y) (i : TypeInfo) (htid : (G.T t).tid = t) (hsz' : (G.T t).sz = 1) (hrd : ∀ z x cs, (G.T t).rd z x cs ↔ cs = [.int .u8 (to x).toNat])
    (hi : P.info? t = some i) (hsz : i.size = 1) (hby : Nat.ble i.bytes 32768 = true) (hz : i.zero = some (.int .u8 0)) : TI P G t where
  zc := [.int .u8 0]
  hzc := fun z vs => ⟨rfl, trivial⟩
  lvo := fun x => rfl
  lv := fun x => [.int .u8 (to x).toNat]
  pk := fun cs => match cs with | [.int .u8 n] => oo (toU8 n) | _ => none
  x0 := of 0
  i := i
  zv := .int .u8 0
  tid := htid
  hi := hi
  hsz := by rw [hsz', hsz]
  hpos := by rw [hsz']; rfl
  hby := hby
  hz := hz
  hzf := rfl
  hzs := by rw [hsz]; rfl
  rd0 := fun z => (hrd z _ _).2 (by rw [h2]; rfl)
  rdl := fun z vs x cs h => by rw [(hrd z x cs).1 h]; exact ⟨rfl, trivial⟩
  pkl := fun z vs cs x ds h hr => by
    split at h
    · rename_i n
      cases ds with
      | nil => exact hr.elim
      | cons d ds =>
        cases ds with
        | cons _ _ => exact hr.2.elim
        | nil =>
          rw [hoo] at h
          cases hu : toU8 n with
          | none => rw [hu] at h; cases h
          | some u =>
            rw [hu] at h
            cases h
            have : d = .int .u8 n := hr.1
            rw [this, toU8_some hu]
            exact (hrd z _ _).2 (by rw [h2])
    · cases h
  pklv := fun x => by
    simp only [toU8_back, hoo, Option.map_some, h1]
  pkn := fun cs x h hn => by
    split at h
    · rename_i n
      rw [hoo] at h
      cases hu : toU8 n with
      | none => rw [hu] at h; cases h
      | some u =>
        rw [hu] at h
        cases h
        rw [h2, toU8_some hu]
    · cases h
/-- Structs of plain cells are compared cell by cell. -/
def lvV : (ls : List LC) → inL (toT G ls) → List Value
  | [], _ => []
  | .int k :: ls, x => .int k x.1 :: lvV ls x.2
  | .bool :: ls, x => .bool x.1 :: lvV ls x.2
  | .str :: ls, x => AM.str x.1 :: lvV ls x.2
  | .sl _ :: ls, x => undef :: lvV ls x.2
def scalLC (P : Program) : List Field → Nat → List LC → Bool
  | [], _, [] => true
  | f :: fs, i, .int _ :: ls => (f.offset == i && f.name != "_") && ((match P.underlying f.type with | some (.int _) => true | _ => false) && scalLC P fs (i + 1) ls)
  | f :: fs, i, .bool :: ls => (f.offset == i && f.name != "_") && ((match P.underlying f.type with | some .bool => true | _ => false) && scalLC P fs (i + 1) ls)
  | f :: fs, i, .str :: ls => (f.offset == i && f.name != "_") && ((match P.underlying f.type with | some .string => true | _ => false) && scalLC P fs (i + 1) ls)
  | _, _, _ => false
theorem scalLC_ok : ∀ {fs : List Field} {i : Nat} {ls : List LC} {x y : inL (toT G ls)}, scalLC P fs i ls = true → ScalF P fs i (lvV ls x) (lvV ls y)
  | [], _, [], _, _, _ => trivial
  | f :: fs, i, .int k :: ls, x, y, h => by
    simp only [scalLC, Bool.and_eq_true, beq_iff_eq, bne_iff_ne] at h
    obtain ⟨⟨h1, h2⟩, h3, h4⟩ := h
    refine ⟨h1, h2, .inl ?_, scalLC_ok h4⟩
    split at h3
    · exact ⟨k, _, _, _, ‹_›, rfl, rfl⟩
    · cases h3
  | f :: fs, i, .bool :: ls, x, y, h => by
    simp only [scalLC, Bool.and_eq_true, beq_iff_eq, bne_iff_ne] at h
    obtain ⟨⟨h1, h2⟩, h3, h4⟩ := h
    refine ⟨h1, h2, .inr (.inl ?_), scalLC_ok h4⟩
    split at h3
    · exact ⟨_, _, ‹_›, rfl, rfl⟩
    · cases h3
  | f :: fs, i, .str :: ls, x, y, h => by
    simp only [scalLC, Bool.and_eq_true, beq_iff_eq, bne_iff_ne] at h
    obtain ⟨⟨h1, h2⟩, h3, h4⟩ := h
    refine ⟨h1, h2, .inr (.inr ?_), scalLC_ok h4⟩
    split at h3
    · exact ⟨_, _, ‹_›, rfl, rfl⟩
    · cases h3
  | _ :: _, _, .sl _ :: _, _, _, h => by cases h
  | [], _, _ :: _, _, _, h => by cases h
  | _ :: _, _, [], _, _, h => by cases h
theorem lvV_inj : ∀ {fs : List Field} {i : Nat} {ls : List LC} {x y : inL (toT G ls)}, scalLC P fs i ls = true → lvV ls x = lvV ls y → x = y
  | _, _, [], _, _, _, _ => rfl
  | f :: fs, i, .int k :: ls, x, y, h, e => by
    simp only [scalLC, Bool.and_eq_true] at h
    simp only [lvV, List.cons.injEq] at e
    exact Prod.ext (Value.int.inj e.1).2 (lvV_inj h.2.2 e.2)
  | f :: fs, i, .bool :: ls, x, y, h, e => by
    simp only [scalLC, Bool.and_eq_true] at h
    simp only [lvV, List.cons.injEq] at e
    exact Prod.ext (Value.bool.inj e.1) (lvV_inj h.2.2 e.2)
  | f :: fs, i, .str :: ls, x, y, h, e => by
    simp only [scalLC, Bool.and_eq_true] at h
    simp only [lvV, List.cons.injEq] at e
    exact Prod.ext (str_inj e.1) (lvV_inj h.2.2 e.2)
  | _ :: _, _, .sl _ :: _, _, _, h, _ => by cases h
  | [], _, .sl _ :: _, _, _, h, _ => by cases h
  | [], _, .int _ :: _, _, _, h, _ => by cases h
  | [], _, .bool :: _, _, _, h, _ => by cases h
  | [], _, .str :: _, _, _, h, _ => by cases h
theorem lvV_rd {z : Nat → Blk} : ∀ {fs : List Field} {i : Nat} {ls : List LC} {x : inL (toT G ls)} {ds : List Value}, scalLC P fs i ls = true → rdL z (toT G ls) x ds → ds = lvV ls x
  | _, _, [], _, [], _, _ => rfl
  | _, _, [], _, _ :: _, _, h => h.elim
  | f :: fs, i, .int k :: ls, x, d :: ds, h, e => by
    simp only [scalLC, Bool.and_eq_true] at h
    have h1 : d = .int k x.1 := e.1
    rw [lvV, h1, ← lvV_rd h.2.2 e.2]
  | f :: fs, i, .bool :: ls, x, d :: ds, h, e => by
    simp only [scalLC, Bool.and_eq_true] at h
    have h1 : d = .bool x.1 := e.1
    rw [lvV, h1, ← lvV_rd h.2.2 e.2]
  | f :: fs, i, .str :: ls, x, d :: ds, h, e => by
    simp only [scalLC, Bool.and_eq_true] at h
    have h1 : d = AM.str x.1 := e.1
    rw [lvV, h1, ← lvV_rd h.2.2 e.2]
  | _ :: _, _, .sl _ :: _, _, _, h, _ => by cases h
  | [], _, _ :: _, _, _, h, _ => by cases h
  | _ :: _, _, .int _ :: _, _, [], _, h => h.elim
  | _ :: _, _, .bool :: _, _, [], _, h => h.elim
  | _ :: _, _, .str :: _, _, [], _, h => h.elim
def qiOf {t : Nat} (ls : List LC) (to : D t → inL (toT G ls)) (of : inL (toT G ls) → D t) (h1 : ∀ x, of (to x) = x) (fs : Array Field) (eq : D t → D t → Bool) (hT : G.T t = TyOf t (toT G ls) to) (he : ∀ x y, eq x y = true ↔ x = y)
    (ht : P.underlying t = some (.struct fs)) (hp : P.stoodInHeld t = false) (hg : P.eqGuardType P.depth t = false) (hs : scalLC P fs.toList 0 ls = true) : QI P G t where
  fs := fs
  eq := eq
  va := fun x => lvV ls (to x)
  ht := ht
  hp := hp
  hg := hg
  hs := fun x y => scalLC_ok hs
  hv := fun z x ds h => by rw [hT] at h; exact lvV_rd hs h
  he := fun x y => by
    rw [he]
    constructor
    · rintro rfl; rfl
    · intro h
      have := lvV_inj hs h
      rw [← h1 x, ← h1 y, this]
/-- Keys and values of maps. -/
def kgI {α : Type} (k : IntKind) (of : Int → α) : SV D → Option α := fun s => match s with | .c (.int k' n) => if k' = k then some (of n) else none | _ => none
def kgS {α : Type} (of : List UInt8 → α) : SV D → Option α := fun s => match s with | .c (.str n) => some (of n) | _ => none
def kgA {t : Nat} (ti : TI P G t) : SV D → Option (D t) := fun s => match s with | .agg t' cs => if t' = t then ti.pk cs else none | _ => none
def vgI {α : Type} (k : IntKind) (of : Int → α) : CV D → Option α := fun s => match s with | .int k' n => if k' = k then some (of n) else none | _ => none
def vgB {α : Type} (of : Bool → α) : CV D → Option α := fun s => match s with | .bool n => some (of n) | _ => none
theorem kgI_ok {z : Nat → Blk} {vs : List Value} {α : Type} {k : IntKind} {of : Int → α} {s : SV D} {a : α} {v : Value} (h : kgI k of s = some a) (hr : rel G z vs s v) : ∃ n, a = of n ∧ v = .int k n := by
  unfold kgI at h
  split at h
  · split at h
    · rename_i hk
      cases h; subst hk
      exact ⟨_, rfl, hr⟩
    · cases h
  · cases h
theorem kgS_ok {z : Nat → Blk} {vs : List Value} {α : Type} {of : List UInt8 → α} {s : SV D} {a : α} {v : Value} (h : kgS of s = some a) (hr : rel G z vs s v) : ∃ n, a = of n ∧ v = AM.str n := by
  unfold kgS at h
  split at h
  · cases h
    exact ⟨_, rfl, hr⟩
  · cases h
theorem kgA_ok {z : Nat → Blk} {vs : List Value} {t : Nat} {ti : TI P G t} {s : SV D} {a : D t} {v : Value} (h : kgA ti s = some a) (hr : rel G z vs s v) : ∃ ds : List Value, (G.T t).rd z a ds ∧ v = .agg ds.toArray := by
  unfold kgA at h
  split at h
  · obtain ⟨_, h⟩ := ite_some h
    obtain ⟨ds, h1, h2⟩ := hr
    exact ⟨ds, ti.pkl z vs _ _ _ h h2, h1⟩
  · cases h
theorem vgI_ok {z : Nat → Blk} {vs : List Value} {α : Type} {k : IntKind} {of : Int → α} {s : CV D} {a : α} {v : Value} (h : vgI k of s = some a) (hr : rel0 G z vs s v) : ∃ n, a = of n ∧ v = .int k n := by
  unfold vgI at h
  split at h
  · split at h
    · rename_i hk
      cases h; subst hk
      exact ⟨_, rfl, hr⟩
    · cases h
  · cases h
theorem vgB_ok {z : Nat → Blk} {vs : List Value} {α : Type} {of : Bool → α} {s : CV D} {a : α} {v : Value} (h : vgB of s = some a) (hr : rel0 G z vs s v) : ∃ n, a = of n ∧ v = .bool n := by
  unfold vgB at h
  split at h
  · cases h
    exact ⟨_, rfl, hr⟩
  · cases h
/-- What the evaluator needs of a key type, of a value type. -/
structure KI (P : Program) (G : Tab D) (kt : Nat) where
  dec : DecidableEq (D kt)
  K : KeyOk P kt (G.kc kt)
  kget : SV D → Option (D kt)
  hkg : ∀ z vs s a v, kget s = some a → rel G z vs s v → v = cellV (tyAgg P kt) (G.kc kt a)
structure VI (P : Program) (G : Tab D) (vt : Nat) where
  V : ValOk P vt (G.kc vt)
  vget : CV D → Option (D vt)
  vput : D vt → CV D
  z0 : D vt
  i : TypeInfo
  hi : P.info? vt = some i
  hvn : tyAgg P vt = false
  hz : i.zero = some (cellV false (G.kc vt z0))
  hvg : ∀ z vs c a v, vget c = some a → rel0 G z vs c v → v = cellV false (G.kc vt a)
  hvp : ∀ z vs a, rel0 G z vs (vput a) (cellV false (G.kc vt a))
def miOf {kt vt : Nat} (a : KI P G kt) (b : VI P G vt) : MI P G kt vt where
  dec := a.dec
  K := a.K
  V := b.V
  kget := a.kget
  vget := b.vget
  vput := b.vput
  z0 := b.z0
  i := b.i
  hi := b.hi
  hz := by rw [b.hvn]; exact b.hz
  hkg := a.hkg
  hvg := by rw [b.hvn]; exact b.hvg
  hvp := by rw [b.hvn]; exact b.hvp
  hvn := b.hvn
def kiI {kt : Nat} (k : IntKind) (of : Int → D kt) (dec : DecidableEq (D kt)) (i : TypeInfo) (h : P.underlying kt = some (.int k)) (K : KeyOk P kt (G.kc kt)) (hk : ∀ n, G.kc kt (of n) = [.int k n]) : KI P G kt where
  dec := dec
  K := K
  kget := kgI k of
  hkg := fun z vs s a v h1 h2 => by
    obtain ⟨n, rfl, rfl⟩ := kgI_ok h1 h2
    rw [hk, noAgg h rfl]; rfl
def kiS {kt : Nat} (of : List UInt8 → D kt) (dec : DecidableEq (D kt)) (h : P.underlying kt = some .string) (K : KeyOk P kt (G.kc kt)) (hk : ∀ n, G.kc kt (of n) = [AM.str n]) : KI P G kt where
  dec := dec
  K := K
  kget := kgS of
  hkg := fun z vs s a v h1 h2 => by
    obtain ⟨n, rfl, rfl⟩ := kgS_ok h1 h2
    rw [hk, noAgg h rfl]; rfl
def kiA {t : Nat} (dec : DecidableEq (D t)) (ti : TI P G t) (ls : List LC) (to : D t → inL (toT G ls)) (of : inL (toT G ls) → D t) (h1 : ∀ x, of (to x) = x) (fs : Array Field) (i : TypeInfo) (hT : G.T t = TyOf t (toT G ls) to)
    (ht : P.underlying t = some (.struct fs)) (hi : P.info? t = some i) (hp : P.stoodInHeld t = false) (hpos : (i.size == 0) = false) (hs : scalLC P fs.toList 0 ls = true) (hlen : ∀ a, (G.kc t a).length = i.size) (hk : ∀ a, G.kc t a = lvV ls (to a)) : KI P G t where
  dec := dec
  K := keyStruct ht hi hp hpos hlen (fun a b => by rw [hk, hk]; exact scalLC_ok hs) (fun a b h => by
    rw [hk, hk] at h
    have := lvV_inj hs h
    rw [← h1 a, ← h1 b, this])
  kget := kgA ti
  hkg := fun z vs s a v h2 h3 => by
    obtain ⟨ds, g1, rfl⟩ := kgA_ok h2 h3
    rw [hT] at g1
    rw [lvV_rd hs g1, hk]
    simp only [tyAgg, ht, aggT, cellV]
def viI {vt : Nat} (k : IntKind) (of : Int → D vt) (to : D vt → Int) (h1 : ∀ x, of (to x) = x) (i : TypeInfo) (h : P.underlying vt = some (.int k)) (hi : P.info? vt = some i) (V : ValOk P vt (G.kc vt)) (hk : ∀ n, G.kc vt (of n) = [.int k n]) (hz : i.zero = some (.int k 0)) : VI P G vt where
  V := V
  vget := vgI k of
  vput := fun x => .int k (to x)
  z0 := of 0
  i := i
  hi := hi
  hvn := noAgg h rfl
  hz := by rw [hk]; exact hz
  hvg := fun z vs c a v g1 g2 => by
    obtain ⟨n, rfl, rfl⟩ := vgI_ok g1 g2
    rw [hk]; rfl
  hvp := fun z vs a => by
    have := hk (to a)
    rw [h1] at this
    rw [this]; rfl
def viB {vt : Nat} (of : Bool → D vt) (to : D vt → Bool) (h1 : ∀ x, of (to x) = x) (i : TypeInfo) (h : P.underlying vt = some .bool) (hi : P.info? vt = some i) (V : ValOk P vt (G.kc vt)) (hk : ∀ n, G.kc vt (of n) = [.bool n]) (hz : i.zero = some (.bool false)) : VI P G vt where
  V := V
  vget := vgB of
  vput := fun x => .bool (to x)
  z0 := of false
  i := i
  hi := hi
  hvn := noAgg h rfl
  hz := by rw [hk]; exact hz
  hvg := fun z vs c a v g1 g2 => by
    obtain ⟨n, rfl, rfl⟩ := vgB_ok g1 g2
    rw [hk]; rfl
  hvp := fun z vs a => by
    have := hk (to a)
    rw [h1] at this
    rw [this]; rfl
theorem pc_cons {X : Ev P D} {B : Code} {u : Pc D} {us : List (Pc D)} (h : PcOk X B u) (hs : ∀ v ∈ us, PcOk X B v) : ∀ v ∈ u :: us, PcOk X B v := by
  intro v hv
  rcases List.mem_cons.1 hv with rfl | hv
  · exact h
  · exact hs v hv
theorem pc_nil {X : Ev P D} {B : Code} : ∀ v ∈ ([] : List (Pc D)), PcOk X B v := by simp
/-- A law: what the machine needs to know of it. -/
theorem CallOk.law {X : Ev P D} {d : FD D} {F : d.F} (hF : CallOk X d F) {m : Mem} {z : Nat → Blk} (hz : Fz z m) (hd : ∀ b, m.next ≤ b → m.blk b = .dead) {svs : List (SV D)} {args : List Value} (hL : L2 (rel X.G z []) svs args)
    (h : d.call X F svs [] (fun sv _ => some sv) = some (.c (.bool true))) : CallW P d.f args.toArray m fun v _ => v = .bool true := by
  have hM : Mm X.G ([] : List (Ob D)) z m m none [] := ⟨St.start hz hd, rfl, by simp, by simp⟩
  refine (hF svs [] (fun sv _ => some sv) _ args hM hL h).mono fun v m' hv => ?_
  obtain ⟨⟨z', vs', sv, O', _, _, _, _, hr, hK⟩, _⟩ := hv
  cases hK
  exact hr
end
end
end Go.AM
end
section
set_option linter.unusedSimpArgs false
set_option linter.unusedVariables false
set_option linter.unusedSectionVars false
namespace Go.AM
open Go.Sort Go.Shelf Go.Proofs
/-- What a sort by a comparison answers. -/
noncomputable def srtL {α : Type} [Inhabited α] (cf : α → α → Int) (xs : List α) : List α := (pdq (ltOf cf) xs.toArray 0 xs.toArray.size (Lib.bitLen xs.toArray.size) true true).toList
noncomputable def srtI {α : Type} [Inhabited α] (cf : α → α → Int) (xs : List α) : Option (List α) := if xs.length < 4611686018427387904 then some (srtL cf xs) else none
/-- A comparison of two numbers. -/
def cmpI (x y : Int) : Int := Lib.compareInt x y
section
variable {α : Type} [Inhabited α]
theorem cmpI_lt (x y : Int) : decide (cmpI x y < 0) = decide (x < y) := by
  unfold cmpI Lib.compareInt
  by_cases h1 : x < y
  · simp [h1]
  · by_cases h2 : x > y <;> simp [h1, h2]
/-- A comparison by a number is a strict weak order. -/
theorem swo_key (f : α → Int) : SWO (ltOf fun x y => cmpI (f x) (f y)) := by
  have e : ∀ x y, ltOf (fun x y => cmpI (f x) (f y)) x y = decide (f x < f y) := fun x y => cmpI_lt _ _
  refine ⟨fun x => ?_, fun x y z h1 h2 => ?_, fun x y z h1 h2 => ?_⟩
  · rw [e]; simp
  · rw [e] at *; simp at *; omega
  · rw [e] at *; simp at *; omega
theorem srtL_sorts (cf : α → α → Int) (hO : SWO (ltOf cf)) (xs : List α) : PermIn 0 xs.length xs.toArray (srtL cf xs).toArray ∧ SortedIn (ltOf cf) 0 xs.length (srtL cf xs).toArray := by
  have h := pdq_sorts (ltOf cf) hO xs.toArray 0 xs.toArray.size (Lib.bitLen xs.toArray.size) true true (Nat.zero_le _) (Nat.le_refl _) (Or.inl rfl)
  have e : (srtL cf xs).toArray = pdq (ltOf cf) xs.toArray 0 xs.toArray.size (Lib.bitLen xs.toArray.size) true true := by unfold srtL; simp
  rw [e]
  simpa using h
theorem srtL_len (cf : α → α → Int) (hO : SWO (ltOf cf)) (xs : List α) : (srtL cf xs).length = xs.length := by
  have := (srtL_sorts cf hO xs).1.1
  simpa using this
theorem srtL_perm (cf : α → α → Int) (hO : SWO (ltOf cf)) (xs : List α) : (srtL cf xs).Perm xs := by
  have h := (srtL_sorts cf hO xs).1
  have hl := srtL_len cf hO xs
  have h2 := h.2.2
  have e1 : ((srtL cf xs).toArray.extract 0 xs.length).toList = srtL cf xs := by simp [← hl]
  have e2 : (xs.toArray.extract 0 xs.length).toList = xs := by simp
  rw [e1, e2] at h2
  exact h2
theorem srtL_sorted (f : α → Int) (xs : List α) : (srtL (fun x y => cmpI (f x) (f y)) xs).Pairwise fun x y => f x ≤ f y := by
  have hO := swo_key f
  have h := (srtL_sorts _ hO xs).2
  have hl := srtL_len _ hO xs
  rw [List.pairwise_iff_getElem]
  intro i j hi hj hij
  have := h i j (Nat.zero_le _) hij (by omega)
  have e : ∀ x y, ltOf (fun x y => cmpI (f x) (f y)) x y = decide (f x < f y) := fun x y => cmpI_lt _ _
  rw [e] at this
  have hi' : (srtL (fun x y => cmpI (f x) (f y)) xs).toArray[i]! = (srtL (fun x y => cmpI (f x) (f y)) xs)[i] := by rw [getElem!_pos _ _ (by simpa using hi)]; simp
  have hj' : (srtL (fun x y => cmpI (f x) (f y)) xs).toArray[j]! = (srtL (fun x y => cmpI (f x) (f y)) xs)[j] := by rw [getElem!_pos _ _ (by simpa using hj)]; simp
  rw [hi', hj'] at this
  simp at this
  omega
/-! ### The row -/
theorem flatK_get {enc : α → List Value} {k : Nat} (hk : ∀ x, (enc x).length = k) : ∀ (xs : List α) (t : Nat), t < xs.length * k → (xs.flatMap enc)[t]? = some ((enc xs.toArray[t / k]!)[t % k]!)
  | [], t, h => by simp at h
  | x :: xs, t, h => by
    have k0 : 0 < k := by rcases Nat.eq_zero_or_pos k with h0 | h0; · subst h0; simp at h
                          · exact h0
    rw [List.flatMap_cons, List.getElem?_append]
    split
    · rename_i hlt
      rw [hk] at hlt
      have h1 : t / k = 0 := Nat.div_eq_of_lt hlt
      have h2 : t % k = t := Nat.mod_eq_of_lt hlt
      rw [h1, h2]
      have : t < (enc x).length := by rw [hk]; exact hlt
      simp [List.getElem?_eq_getElem this, getElem!_pos (enc x) t this]
    · rename_i hge
      rw [hk] at hge ⊢
      have hge : k ≤ t := by omega
      rw [flatK_get hk xs (t - k) (by simp only [List.length_cons, Nat.add_mul] at h; omega)]
      have h1 : t / k = (t - k) / k + 1 := by rw [← Nat.sub_add_cancel hge, Nat.add_div_right _ k0]; simp
      have h2 : t % k = (t - k) % k := by rw [← Nat.sub_add_cancel hge, Nat.add_mod_right]; simp
      have hlt : (t - k) / k < xs.length := by
        rw [Nat.div_lt_iff_lt_mul k0]
        simp only [List.length_cons, Nat.add_mul] at h; omega
      rw [h1, h2]
      congr 3
      simp [getElem!_pos xs.toArray ((t - k) / k) (by simpa using hlt), getElem!_pos (x :: xs).toArray ((t - k) / k + 1) (by simpa using hlt)]
theorem flatK_len {enc : α → List Value} {k : Nat} (hk : ∀ x, (enc x).length = k) (xs : List α) : (xs.flatMap enc).length = xs.length * k := by
  induction xs with
  | nil => simp
  | cons x xs ih => rw [List.flatMap_cons, List.length_append, hk, ih, List.length_cons, Nat.add_mul]; omega
variable {P : Program} {ρ : Ren}
theorem sortW_of (L : SlLaysF0.n6 P ρ) {f g k : Nat} (hf : ρ.f 6 = f) (aE : ∀ w, (isAgg (ρ.t 24)).run P w = .ok true w) (zE : ∀ w, (Go.sizeOf (ρ.t 24)).run P w = .ok k w) (enc : α → List Value) (hk : ∀ x, (enc x).length = k) (h1 : ∀ x, (enc x).all flat0 = true)
    (cf : α → α → Int) (hO : SWO (ltOf cf)) (eg : ∀ args w, (callFunc g args).run P w = .ok (.enter g args) w)
    (hcl : ∀ (x y : α) (W : World), Calls P g #[.agg (enc x).toArray, .agg (enc y).toArray] W fun e w' => e = .returned (.int .i64 (cf x y)) ∧ ∃ q os', w' = grow (W.drewN q) os')
    (xs : List α) (hsz : xs.length < 4611686018427387904) (hk0 : 0 < k) (hx0 : 0 < xs.length) : sortW P f (.func (.func g) #[] #[]) xs.length (xs.flatMap enc) ((srtL cf xs).flatMap enc) := by
  subst hf
  intro w blk off cap cs t fz hw hF hfz
  have hlF := flatK_len hk xs
  have hH : HoldsK enc k w blk off xs.toArray := by
    intro j hj
    rw [size_flatK] at hj
    have hj : j < xs.length * k := by simpa using hj
    have hg := flatK_get hk xs j hj
    have hc := hF j _ hg
    have hlt : off + j < cs.size := (Array.getElem?_eq_some_iff.1 hc).1
    refine ⟨?_, ?_⟩
    · rw [get_flatK enc k xs.toArray j (by simpa using hj)]
      simp [World.cell?, hw, hc]
    · simp only [World.frozen?, hw]
      have := hfz (off + j) hlt
      simp only [Bool.and_eq_false_iff, decide_eq_false_iff_not]
      by_cases h1 : fz.1 ≤ off + j
      · right; exact fun h2 => this ⟨h1, h2⟩
      · left; exact h1
  have hblk : blk < w.heap.size := by
    rcases Nat.lt_or_ge blk w.heap.size with h | h
    · exact h
    · rw [Array.getElem?_eq_none h] at hw; cases hw
  have hcell : ∀ x, ∀ v ∈ enc x, v.oneCell' = true := fun x v hv => (flat0_VR0 (j := fun _ => none) (List.all_eq_true.1 (h1 x) v hv)).one
  refine (AnyQ.slices_SortFunc_eq L k aE zE enc hk hcell cf hO g #[] blk off cap xs.toArray w eg (fun m os dk _ x y => hcl x y _) hH hblk (by simpa using hsz)).mono ?_
  rintro e w' ⟨rfl, n, os, rfl⟩
  have hp : (pdq (ltOf cf) xs.toArray 0 xs.toArray.size (Lib.bitLen xs.toArray.size) true true) = (srtL cf xs).toArray := by unfold srtL; simp
  rw [hp]
  have hls := srtL_len cf hO xs
  have hsize : (sortWorldK enc k w blk off n (srtL cf xs).toArray os).heap.size = w.heap.size + os.size := by
    simp [sortWorldK, grow, putRowK, putRow, mapBlock, Sort.ahead]
  have hget : ∀ c, c < w.heap.size → (sortWorldK enc k w blk off n (srtL cf xs).toArray os).heap[c]? = (w.heap.modify blk (onCells (putCells id off (flatK enc k (srtL cf xs).toArray))))[c]? := by
    intro c hc
    simp only [sortWorldK, grow, putRowK, putRow, mapBlock, Sort.ahead]
    rw [Array.getElem?_append_left (by simpa using hc)]
  refine ⟨rfl, rfl, rfl, rfl, by rw [hsize]; omega, fun c hc hcb => ?_, ?_⟩
  · rw [hget c hc, Array.getElem?_modify, if_neg (by omega)]
  · rw [hget blk hblk, Array.getElem?_modify, if_pos rfl, hw]
    simp only [Option.map_some, onCells]
    congr 2
    have hle : off + (xs.flatMap enc).length ≤ cs.size := by
      have hpos : 0 < xs.length * k := Nat.mul_pos hx0 hk0
      have hlast := List.getElem?_eq_getElem (l := xs.flatMap enc) (i := (xs.flatMap enc).length - 1) (by omega)
      have := (Array.getElem?_eq_some_iff.1 (hF _ _ hlast)).1
      omega
    apply Array.ext_getElem?
    intro i
    have hle2 : off + ((srtL cf xs).flatMap enc).length ≤ cs.toList.length := by rw [flatK_len hk, hls, ← hlF, Array.length_toList]; exact hle
    have e1 : ((setN cs.toList off ((srtL cf xs).flatMap enc)).toArray)[i]? = if off ≤ i ∧ i < off + ((srtL cf xs).flatMap enc).length then ((srtL cf xs).flatMap enc)[i - off]? else cs.toList[i]? := by
      rw [← setN_get _ _ _ _ hle2]; simp
    rw [e1]
    simp only [putCells]
    rw [Array.getElem?_mapIdx, size_flatK]
    by_cases hin : off ≤ i ∧ i < off + ((srtL cf xs).flatMap enc).length
    · rw [if_pos hin]
      have hl2 := flatK_len hk (srtL cf xs)
      have hics : i < cs.size := by rw [hl2, hls, ← hlF] at hin; omega
      rw [Array.getElem?_eq_getElem hics]
      simp only [Option.map_some]
      rw [if_pos ⟨hin.1, by rw [hl2] at hin; simpa using hin.2⟩]
      have := flatK_get hk (srtL cf xs) (i - off) (by rw [← hl2]; omega)
      rw [this, get_flatK enc k _ _ (by rw [hl2] at hin; simp; omega)]
      rfl
    · rw [if_neg hin]
      have hl2 := flatK_len hk (srtL cf xs)
      have : ¬ (off ≤ i ∧ i < off + (srtL cf xs).toArray.size * k) := by rw [hl2] at hin; simpa using hin
      simp only [this, if_false]
      cases hc : cs[i]? with
      | none => simp [hc]
      | some v => simp [hc]
end
noncomputable section
section
variable {P : Program} {D : Nat → Type} {G : Tab D}
/-- Cells without addresses, all of them. -/
def allS : List LC → Bool
  | [] => true
  | .sl _ :: _ => false
  | _ :: ls => allS ls
theorem allS_rd {z : Nat → Blk} : ∀ {ls : List LC} {x : inL (toT G ls)} {ds : List Value}, allS ls = true → rdL z (toT G ls) x ds → ds = lvV ls x
  | [], _, [], _, _ => rfl
  | [], _, _ :: _, _, h => h.elim
  | .int k :: ls, x, d :: ds, h, e => by
    have h1 : d = .int k x.1 := e.1
    rw [lvV, h1, ← allS_rd (ls := ls) h e.2]
  | .bool :: ls, x, d :: ds, h, e => by
    have h1 : d = .bool x.1 := e.1
    rw [lvV, h1, ← allS_rd (ls := ls) h e.2]
  | .str :: ls, x, d :: ds, h, e => by
    have h1 : d = AM.str x.1 := e.1
    rw [lvV, h1, ← allS_rd (ls := ls) h e.2]
  | .sl _ :: _, _, _, h, _ => by cases h
  | .int _ :: _, _, [], _, h => h.elim
  | .bool :: _, _, [], _, h => h.elim
  | .str :: _, _, [], _, h => h.elim
theorem allS_of {z : Nat → Blk} : ∀ {ls : List LC} {x : inL (toT G ls)}, allS ls = true → rdL z (toT G ls) x (lvV ls x)
  | [], _, _ => trivial
  | .int k :: ls, x, h => ⟨rfl, allS_of (ls := ls) h⟩
  | .bool :: ls, x, h => ⟨rfl, allS_of (ls := ls) h⟩
  | .str :: ls, x, h => ⟨rfl, allS_of (ls := ls) h⟩
  | .sl _ :: _, _, h => by cases h
theorem allS_flat : ∀ {ls : List LC} {x : inL (toT G ls)}, allS ls = true → (lvV ls x).all flat0 = true
  | [], _, _ => rfl
  | .int k :: ls, x, h => by simp only [lvV, List.all_cons, allS_flat (ls := ls) (x := x.2) h]; rfl
  | .bool :: ls, x, h => by simp only [lvV, List.all_cons, allS_flat (ls := ls) (x := x.2) h]; rfl
  | .str :: ls, x, h => by simp only [lvV, List.all_cons, allS_flat (ls := ls) (x := x.2) h]; rfl
  | .sl _ :: _, _, h => by cases h
theorem allS_len : ∀ {ls : List LC} {x : inL (toT G ls)}, (lvV ls x).length = ls.length
  | [], _ => rfl
  | .int k :: ls, x => by simp only [lvV, List.length_cons, allS_len (ls := ls)]
  | .bool :: ls, x => by simp only [lvV, List.length_cons, allS_len (ls := ls)]
  | .str :: ls, x => by simp only [lvV, List.length_cons, allS_len (ls := ls)]
  | .sl _ :: ls, x => by simp only [lvV, List.length_cons, allS_len (ls := ls)]
/-- A sort by a number. -/
def siOf {t : Nat} (ls : List LC) (to : D t → inL (toT G ls)) (hT : G.T t = TyOf t (toT G ls) to) (ha : allS ls = true) (x0 : D t) (key : D t → Int) {ρ : Ren} (L : SlLaysF0.n6 P ρ) (f g : Nat) (hf : ρ.f 6 = f) (ok : okFn P f = true)
    (aE : ∀ w, (isAgg (ρ.t 24)).run P w = .ok true w) (zE : ∀ w, (Go.sizeOf (ρ.t 24)).run P w = .ok ls.length w) (eg : ∀ args w, (callFunc g args).run P w = .ok (.enter g args) w) (hpos : Nat.blt 0 ls.length = true)
    (hcl : ∀ (x y : D t) (W : World), Calls P g #[.agg (lvV ls (to x)).toArray, .agg (lvV ls (to y)).toArray] W fun e w' => e = .returned (.int .i64 (cmpI (key x) (key y))) ∧ ∃ q os', w' = grow (W.drewN q) os') : SI P G where
  f := f
  g := g
  e := t
  srt := @srtI (D t) ⟨x0⟩ fun x y => cmpI (key x) (key y)
  va := fun x => lvV ls (to x)
  hv := fun z x ds h => by rw [hT] at h; exact allS_rd ha h
  hr := fun z x => by rw [hT]; exact allS_of ha
  hf := fun x => allS_flat ha
  ok := ok
  h0 := fun p cap w => by subst hf; exact AnyF.slices_SortFunc_none L p cap _ w
  hn := fun xs ys h => by
    letI : Inhabited (D t) := ⟨x0⟩
    unfold srtI at h
    split at h
    · cases h; exact srtL_len _ (swo_key key) xs
    · cases h
  hs := fun xs ys h h0 => by
    letI : Inhabited (D t) := ⟨x0⟩
    unfold srtI at h
    split at h
    · rename_i hlt
      cases h
      exact sortW_of L hf aE zE (fun x => lvV ls (to x)) (fun _ => allS_len) (fun _ => allS_flat ha) (fun x y => cmpI (key x) (key y)) (swo_key key) eg hcl xs hlt (Nat.le_of_ble_eq_true hpos) h0
    · cases h
end
end
end Go.AM
end
section
set_option linter.unusedVariables false
set_option linter.unusedSimpArgs false
set_option maxRecDepth 100000
set_option maxHeartbeats 1000000
namespace Go.W
open Go.AM
noncomputable section
/-- api.PlantElement -/
structure PlantElement where
  kind : Int
  name : (List UInt8)
  a : Int
  b : Int
  c : Int
  length : Int
deriving DecidableEq
/-- api.Visit -/
structure Visit where
  element : Int
  in_ : Int
  out : Int
deriving DecidableEq
/-- humpgen.Maker -/
structure Maker where
  l : (List Int)
  n : Int
deriving DecidableEq
/-- route.place -/
structure Place where
  element : Int
  in_ : Int
deriving DecidableEq
/-- humpyardref27.step -/
structure Step where
  element : Int
  in_ : Int
deriving DecidableEq
/-- api.Setting -/
structure Setting where
  element : Int
  position : Int
deriving DecidableEq
/-! ### humpyard/humpgen.New -/
def gen_New (N : Nat) (x0 : List Int) : Option Maker :=
  some (Maker.mk x0 0)
/-! ### humpyard/yardgen.name -/
def yardgen_name (N : Nat) (x0 : Int) : Option (List UInt8) :=
  Option.bind (toU8 112) fun y1 =>
  Option.bind (toU8 (IntKind.wrap .u8 ((IntKind.wrap .i64 (48 + (Int.tmod (IntKind.wrap .i64 (Int.tdiv x0 10)) 10)))))) fun y2 =>
  Option.bind (toU8 (IntKind.wrap .u8 ((IntKind.wrap .i64 (48 + (Int.tmod x0 10)))))) fun y3 =>
  AM.lt ([y1, y2, y3] : List UInt8) fun y4 =>
  some y4
/-! ### (*humpyard/humpgen.Maker).Next -/
def Maker_Next_0 (N : Nat) (x0 : Maker) (x5 : Int) (x11 : Bool) : Option Int :=
  if x11 = true then
    Option.bind (modI x0.n (x0.l.length : Int)) fun y1 =>
    Option.bind (getI x0.l y1) fun y2 =>
    Option.bind (divI x0.n (x0.l.length : Int)) fun y3 =>
    AM.lt (IntKind.wrap .i64 (y2 + (IntKind.wrap .i64 ((IntKind.wrap .i64 (y3)) * 7919)))) fun y4 =>
    some y4
  else
    some x5
def Maker_Next_1 (N : Nat) (x1 : Int) (x5 : Int) (x51 : Bool) : Option Int :=
  if x51 = true then
    AM.lt (IntKind.wrap .i64 (x5 + x1)) fun y7 =>
    some y7
  else
    some x5
def Maker_Next (N : Nat) (x0 : Maker) (x1 : Int) : Option (Int × Maker) :=
  Option.bind (Maker_Next_0 N x0 0 (decide (0 < (x0.l.length : Int)))) fun y5 =>
  Option.bind (modI y5 x1) fun y6 =>
  Option.bind (Maker_Next_1 N x1 y6 (decide (y6 < 0))) fun y8 =>
  some (y8, (Maker.mk x0.l (IntKind.wrap .i64 (x0.n + 1))))
/-! ### (*humpyard/humpgen.Maker).Pick -/
def Maker_Pick (N : Nat) (x0 : Maker) (x1 : List Int) : Option (Int × Maker) :=
  Option.bind (Maker_Next N x0 (x1.length : Int)) fun y1 =>
  Option.bind (getI x1 y1.1) fun y2 =>
  some (y2, y1.2)
/-! ### humpyard/yardgen.Plant -/
def yardgen_Plant_0 (N : Nat) (x6 : List Int) (x17 : Bool) : Option (List Int) :=
  if x17 = true then
    Option.bind (appI x6 ([0] : List Int)) fun y3 =>
    some y3
  else
    some x6
def yardgen_Plant_2 (N : Nat) (x1 : Int) (x5 : List PlantElement) (x6 : List Int) (x7 : Int) : Option Bool :=
  if (decide ((x5.length : Int) < x1)) = true then
    if (decide (0 < (x6.length : Int))) = true then
      some (decide (x7 < 62))
    else
      some false
  else
    some false
def yardgen_Plant_4 (N : Nat) (x55 : Int) (x96 : Bool) : Option Bool :=
  if x96 = true then
    some x96
  else
    AM.lt (x55 == 1) fun y15 =>
    some y15
def yardgen_Plant_5 (N : Nat) (x0 : Maker) (x6 : List Int) : Option (Maker × Bool) :=
  Option.bind (Maker_Next N x0 3) fun y26 =>
  if (y26.1 == 0) = true then
    some (y26.2, (decide (0 < (x6.length : Int))))
  else
    some (y26.2, false)
def yardgen_Plant_3 (N : Nat) (x0 : Maker) (x6 : List Int) (x7 : Int) (x9 : Int) (x10 : PlantElement) (x55 : Int) : Option (Maker × List Int × Int × PlantElement) :=
  AM.lt (x55 == 0) fun y14 =>
  Option.bind (yardgen_Plant_4 N x55 y14) fun y16 =>
  if y16 = true then
    Option.bind (appI x6 ([x7, (IntKind.wrap .i64 (x7 + 1))] : List Int)) fun y17 =>
    AM.lt (IntKind.wrap .i64 (x7 + 2)) fun y18 =>
    some (x0, y17, y18, (PlantElement.mk 2 x10.name x9 x7 (IntKind.wrap .i64 (x7 + 1)) x10.length))
  else
    AM.lt (x55 == 2) fun y19 =>
    if y19 = true then
      Option.bind (appI x6 ([x7, (IntKind.wrap .i64 (x7 + 1))] : List Int)) fun y20 =>
      AM.lt (IntKind.wrap .i64 (x7 + 2)) fun y21 =>
      some (x0, y20, y21, (PlantElement.mk 2 x10.name x7 x9 (IntKind.wrap .i64 (x7 + 1)) x10.length))
    else
      AM.lt (x55 == 3) fun y22 =>
      if y22 = true then
        Option.bind (appI x6 ([x7] : List Int)) fun y23 =>
        AM.lt (IntKind.wrap .i64 (x7 + 1)) fun y24 =>
        some (x0, y23, y24, (PlantElement.mk 3 x10.name x9 x7 x10.c x10.length))
      else
        Option.bind (Maker_Pick N x0 ([1, 300, 100000] : List Int)) fun y25 =>
        Option.bind (yardgen_Plant_5 N y25.2 x6) fun y27 =>
        if y27.2 = true then
          Option.bind (getI x6 (IntKind.wrap .i64 ((x6.length : Int) - 1))) fun y28 =>
          Option.bind (getI x6 (IntKind.wrap .i64 ((x6.length : Int) - 1))) fun y29 =>
          Option.bind (cutI x6 0 (IntKind.wrap .i64 ((x6.length : Int) - 1))) fun y30 =>
          some (y27.1, y30, x7, (PlantElement.mk 1 x10.name x9 y29 x10.c y25.1))
        else
          Option.bind (Maker_Next N y27.1 2) fun y31 =>
          if (y31.1 == 0) = true then
            Option.bind (appI x6 ([x7] : List Int)) fun y32 =>
            AM.lt (IntKind.wrap .i64 (x7 + 1)) fun y33 =>
            some (y31.2, y32, y33, (PlantElement.mk 1 x10.name x9 x7 x10.c y25.1))
          else
            AM.lt (IntKind.wrap .i64 (x7 + 1)) fun y34 =>
            some (y31.2, x6, y34, (PlantElement.mk 1 x10.name x9 x7 x10.c y25.1))
def yardgen_Plant_1 (N : Nat) (x1 : Int) : Nat → Maker → (List PlantElement) → (List Int) → Int → Option (Maker × List PlantElement × List Int × Int)
  | 0, _, _, _, _ => none
  | n + 1, x0, x5, x6, x7 =>
    Option.bind (yardgen_Plant_2 N x1 x5 x6 x7) fun y5 =>
    if y5 = true then
      Option.bind (Maker_Next N x0 (x6.length : Int)) fun y6 =>
      Option.bind (getI x6 y6.1) fun y7 =>
      Option.bind (getI x6 y6.1) fun y8 =>
      Option.bind (cutI x6 0 y6.1) fun y9 =>
      Option.bind (cutI x6 (IntKind.wrap .i64 (y6.1 + 1)) (x6.length : Int)) fun y10 =>
      Option.bind (appI (List.take (Int.toNat y6.1) x6) (List.drop (Int.toNat (IntKind.wrap .i64 (y6.1 + 1))) (List.take (Int.toNat (x6.length : Int)) x6))) fun y11 =>
      Option.bind (yardgen_name N (x5.length : Int)) fun y12 =>
      Option.bind (Maker_Next N y6.2 6) fun y13 =>
      Option.bind (yardgen_Plant_3 N y13.2 y11 x7 y8 (PlantElement.mk 0 y12 0 0 0 0) y13.1) fun y35 =>
      Option.bind (appI x5 ([y35.2.2.2] : List PlantElement)) fun y36 =>
      yardgen_Plant_1 N x1 n y35.1 y36 y35.2.1 y35.2.2.1
    else
      some (x0, x5, x6, x7)
def yardgen_Plant_7 (N : Nat) (x5 : List PlantElement) (x6 : List Int) (x7 : Int) : Option Bool :=
  if (decide (0 < (x6.length : Int))) = true then
    if (decide ((x5.length : Int) < 96)) = true then
      some (decide (x7 < 64))
    else
      some false
  else
    some false
def yardgen_Plant_8 (N : Nat) (x5 : List PlantElement) (x6 : List Int) (x7 : Int) (x164 : Bool) : Option (List PlantElement × Int) :=
  if x164 = true then
    Option.bind (yardgen_name N (x5.length : Int)) fun y40 =>
    Option.bind (getI x6 0) fun y41 =>
    Option.bind (getI x6 0) fun y42 =>
    Option.bind (appI x5 ([(PlantElement.mk 1 y40 y42 x7 0 200)] : List PlantElement)) fun y43 =>
    AM.lt (IntKind.wrap .i64 (x7 + 1)) fun y44 =>
    some (y43, y44)
  else
    some (x5, x7)
def yardgen_Plant_6 (N : Nat) : Nat → Maker → (List PlantElement) → (List Int) → Int → Option (Maker × List PlantElement)
  | 0, _, _, _, _ => none
  | n + 1, x0, x5, x6, x7 =>
    Option.bind (yardgen_Plant_7 N x5 x6 x7) fun y38 =>
    if y38 = true then
      Option.bind (Maker_Next N x0 5) fun y39 =>
      Option.bind (yardgen_Plant_8 N x5 x6 x7 (decide (0 < y39.1))) fun y45 =>
      Option.bind (cutI x6 1 (x6.length : Int)) fun y46 =>
      yardgen_Plant_6 N n y39.2 y45.1 y46 y45.2
    else
      some (x0, x5)
def yardgen_Plant (N : Nat) (x0 : Maker) (x1 : Int) : Option (List PlantElement × Maker) :=
  Option.bind (yardgen_name N 0) fun y1 =>
  Option.bind (Maker_Next N x0 2) fun y2 =>
  Option.bind (yardgen_Plant_0 N ([1] : List Int) (y2.1 == 0)) fun y4 =>
  Option.bind (yardgen_Plant_1 N x1 N y2.2 ([(PlantElement.mk 1 y1 0 1 0 500)] : List PlantElement) y4 2) fun y37 =>
  Option.bind (yardgen_Plant_6 N N y37.1 y37.2.1 y37.2.2.1 y37.2.2.2) fun y47 =>
  some (y47.2, y47.1)
/-! ### humpyard/yardgen.Tracks -/
def yardgen_Tracks_1 (N : Nat) (x0 : List PlantElement) (x3 : List Int) (x4 : Int) : Option (List Int) :=
  Option.bind (getI x0 x4) fun y1 =>
  if (y1.kind == 1) = true then
    Option.bind (appI x3 ([x4] : List Int)) fun y2 =>
    some y2
  else
    some x3
def yardgen_Tracks_0 (N : Nat) (x0 : List PlantElement) : Nat → (List Int) → Int → Option (List Int)
  | 0, _, _ => none
  | n + 1, x3, x4 =>
    if (decide (x4 < (x0.length : Int))) = true then
      Option.bind (yardgen_Tracks_1 N x0 x3 x4) fun y3 =>
      AM.lt (IntKind.wrap .i64 (x4 + 1)) fun y4 =>
      yardgen_Tracks_0 N x0 n y3 y4
    else
      some x3
def yardgen_Tracks (N : Nat) (x0 : List PlantElement) : Option (List Int) :=
  Option.bind (yardgen_Tracks_0 N x0 N [] 0) fun y5 =>
  some y5
/-! ### humpyard/humpyardref26.Ends -/
def r26_Ends_0 (N : Nat) (x0 : List PlantElement) (x1 : Int) : Option Bool :=
  if (decide (x1 < 0)) = true then
    some true
  else
    some (decide ((x0.length : Int) ≤ x1))
def r26_Ends_1 (N : Nat) (x17 : Int) (x18 : Bool) : Option Bool :=
  if x18 = true then
    some x18
  else
    AM.lt (x17 == 3) fun y4 =>
    some y4
def r26_Ends (N : Nat) (x0 : List PlantElement) (x1 : Int) : Option (List Int) :=
  Option.bind (r26_Ends_0 N x0 x1) fun y1 =>
  if y1 = true then
    some []
  else
    Option.bind (getI x0 x1) fun y2 =>
    AM.lt (y2.kind == 1) fun y3 =>
    Option.bind (r26_Ends_1 N y2.kind y3) fun y5 =>
    if y5 = true then
      Option.bind (getI x0 x1) fun y6 =>
      Option.bind (getI x0 x1) fun y7 =>
      some ([y6.a, y7.b] : List Int)
    else
      AM.lt (y2.kind == 2) fun y8 =>
      if y8 = true then
        Option.bind (getI x0 x1) fun y9 =>
        Option.bind (getI x0 x1) fun y10 =>
        Option.bind (getI x0 x1) fun y11 =>
        some ([y9.a, y10.b, y11.c] : List Int)
      else
        some []
/-! ### humpyard/humpyardref26.has -/
def r26_has_0 (N : Nat) (x0 : List Int) (x1 : Int) : Nat → Int → Option (Sum (Unit) (Bool))
  | 0, _ => none
  | n + 1, x5 =>
    if (decide (x5 < (x0.length : Int))) = true then
      Option.bind (getI x0 x5) fun y1 =>
      if (y1 == x1) = true then
        some (Sum.inr true)
      else
        AM.lt (IntKind.wrap .i64 (x5 + 1)) fun y2 =>
        r26_has_0 N x0 x1 n y2
    else
      some (Sum.inl ())
def r26_has (N : Nat) (x0 : List Int) (x1 : Int) : Option Bool :=
  Option.bind (r26_has_0 N x0 x1 N 0) fun y3 =>
  match y3 with
  | Sum.inl y4 =>
    some false
  | Sum.inr y5 =>
    some y5
/-! ### humpyard/humpyardref26.Neighbour -/
def r26_Neighbour_1 (N : Nat) (x0 : List PlantElement) (x1 : Int) (x2 : Int) (x7 : Int) : Option Bool :=
  if (x7 != x1) = true then
    Option.bind (r26_Ends N x0 x7) fun y1 =>
    Option.bind (r26_has N y1 x2) fun y2 =>
    some y2
  else
    some false
def r26_Neighbour_0 (N : Nat) (x0 : List PlantElement) (x1 : Int) (x2 : Int) : Nat → Int → Option (Sum (Unit) (Int))
  | 0, _ => none
  | n + 1, x7 =>
    if (decide (x7 < (x0.length : Int))) = true then
      Option.bind (r26_Neighbour_1 N x0 x1 x2 x7) fun y3 =>
      if y3 = true then
        some (Sum.inr x7)
      else
        AM.lt (IntKind.wrap .i64 (x7 + 1)) fun y4 =>
        r26_Neighbour_0 N x0 x1 x2 n y4
    else
      some (Sum.inl ())
def r26_Neighbour (N : Nat) (x0 : List PlantElement) (x1 : Int) (x2 : Int) : Option Int :=
  Option.bind (r26_Neighbour_0 N x0 x1 x2 N 0) fun y5 =>
  match y5 with
  | Sum.inl y6 =>
    some (-1)
  | Sum.inr y7 =>
    some y7
/-! ### humpyard/humpyardref26.Through -/
def r26_Through (N : Nat) (x0 : List PlantElement) (x1 : Int) (x2 : Int) : Option (List Int) :=
  Option.bind (r26_Ends N x0 x1) fun y1 =>
  Option.bind (r26_has N y1 x2) fun y2 =>
  AM.lt (!y2) fun y3 =>
  if y3 = true then
    some []
  else
    Option.bind (getI y1 0) fun y4 =>
    Option.bind (getI y1 0) fun y5 =>
    AM.lt (y5 == x2) fun y6 =>
    if y6 = true then
      Option.bind (cutI y1 1 (y1.length : Int)) fun y7 =>
      Option.bind (appI ([] : List Int) y7) fun y8 =>
      some y8
    else
      Option.bind (getI y1 0) fun y9 =>
      Option.bind (getI y1 0) fun y10 =>
      some ([y10] : List Int)
/-! ### humpyard/yardgen.Walk -/
def yardgen_Walk_1 (N : Nat) (x0 : Maker) (x1 : List PlantElement) (x10 : Int) (x11 : List Int) : Option (Maker × Bool) :=
  Option.bind (getI x1 x10) fun y11 =>
  if (y11.kind == 1) = true then
    Option.bind (Maker_Next N x0 2) fun y12 =>
    if (y12.1 == 0) = true then
      some (y12.2, true)
    else
      Option.bind (getI x11 0) fun y13 =>
      Option.bind (getI x11 0) fun y14 =>
      Option.bind (r26_Neighbour N x1 x10 y14) fun y15 =>
      some (y12.2, (decide (y15 < 0)))
  else
    some (x0, false)
def yardgen_Walk_0 (N : Nat) (x1 : List PlantElement) : Nat → Maker → Visit → (List Visit) → Int → Option (Sum (Maker × List Visit) (Maker × List Visit))
  | 0, _, _, _, _ => none
  | n + 1, x0, x6, x8, x9 =>
    if (decide (x9 < 12)) = true then
      Option.bind (r26_Neighbour N x1 x6.element x6.out) fun y9 =>
      if (decide (y9 < 0)) = true then
        some (Sum.inl (x0, x8))
      else
        Option.bind (r26_Through N x1 y9 x6.out) fun y10 =>
        Option.bind (yardgen_Walk_1 N x0 x1 y9 y10) fun y16 =>
        if y16.2 = true then
          Option.bind (appI x8 ([(Visit.mk y9 x6.out (-1))] : List Visit)) fun y17 =>
          some (Sum.inr (y16.1, y17))
        else
          Option.bind (Maker_Next N y16.1 (y10.length : Int)) fun y18 =>
          Option.bind (getI y10 y18.1) fun y19 =>
          Option.bind (getI y10 y18.1) fun y20 =>
          Option.bind (appI x8 ([(Visit.mk y9 x6.out y20)] : List Visit)) fun y21 =>
          AM.lt (IntKind.wrap .i64 (x9 + 1)) fun y22 =>
          yardgen_Walk_0 N x1 n y18.2 (Visit.mk y9 x6.out y20) y21 y22
    else
      some (Sum.inl (x0, x8))
def yardgen_Walk (N : Nat) (x0 : Maker) (x1 : List PlantElement) : Option (List Visit × Maker) :=
  Option.bind (yardgen_Tracks N x1) fun y1 =>
  Option.bind (Maker_Next N x0 (y1.length : Int)) fun y2 =>
  Option.bind (getI y1 y2.1) fun y3 =>
  Option.bind (getI y1 y2.1) fun y4 =>
  Option.bind (r26_Ends N x1 y4) fun y5 =>
  Option.bind (Maker_Next N y2.2 (y5.length : Int)) fun y6 =>
  Option.bind (getI y5 y6.1) fun y7 =>
  Option.bind (getI y5 y6.1) fun y8 =>
  Option.bind (yardgen_Walk_0 N x1 N y6.2 (Visit.mk y4 (-1) y8) ([(Visit.mk y4 (-1) y8)] : List Visit) 0) fun y23 =>
  match y23 with
  | Sum.inl y24 =>
    some (y24.2, y24.1)
  | Sum.inr y25 =>
    some (y25.2, y25.1)
/-! ### humpyard/yardgen.SpoilPlant -/
def yardgen_SpoilPlant (N : Nat) (x0 : Maker) (x1 : List PlantElement) : Option (List PlantElement × Maker) :=
  Option.bind (appI ([] : List PlantElement) x1) fun y1 =>
  Option.bind (Maker_Next N x0 (y1.length : Int)) fun y2 =>
  Option.bind (getI y1 y2.1) fun y3 =>
  Option.bind (Maker_Next N y2.2 7) fun y4 =>
  AM.lt (y4.1 == 0) fun y5 =>
  if y5 = true then
    Option.bind (Maker_Pick N y4.2 ([0, 1, 2, 3, 4] : List Int)) fun y6 =>
    Option.bind (getI y1 y2.1) fun y7 =>
    AM.lt (y1.set ((y2.1 : Int).toNat) (PlantElement.mk y6.1 y7.name y7.a y7.b y7.c y7.length)) fun y8 =>
    some (y8, y6.2)
  else
    AM.lt (y4.1 == 1) fun y9 =>
    if y9 = true then
      Option.bind (Maker_Next N y4.2 5) fun y10 =>
      Option.bind (getI ([[], [112, 48, 48], [80], [97, 98, 99, 100, 101, 102, 103, 104, 105, 106, 107, 108, 109], [97, 32, 98]] : List (List UInt8)) y10.1) fun y11 =>
      Option.bind (getI ([[], [112, 48, 48], [80], [97, 98, 99, 100, 101, 102, 103, 104, 105, 106, 107, 108, 109], [97, 32, 98]] : List (List UInt8)) y10.1) fun y12 =>
      Option.bind (getI y1 y2.1) fun y13 =>
      AM.lt (y1.set ((y2.1 : Int).toNat) (PlantElement.mk y13.kind y12 y13.a y13.b y13.c y13.length)) fun y14 =>
      some (y14, y10.2)
    else
      AM.lt (y4.1 == 2) fun y15 =>
      if y15 = true then
        Option.bind (getI y1 y2.1) fun y16 =>
        Option.bind (Maker_Pick N y4.2 ([(-1), 0, 1, 2, 63, 64, y16.b] : List Int)) fun y17 =>
        Option.bind (getI y1 y2.1) fun y18 =>
        AM.lt (y1.set ((y2.1 : Int).toNat) (PlantElement.mk y18.kind y18.name y17.1 y18.b y18.c y18.length)) fun y19 =>
        some (y19, y17.2)
      else
        AM.lt (y4.1 == 3) fun y20 =>
        if y20 = true then
          Option.bind (Maker_Pick N y4.2 ([(-1), 0, 1, 2, 63, 64] : List Int)) fun y21 =>
          Option.bind (getI y1 y2.1) fun y22 =>
          AM.lt (y1.set ((y2.1 : Int).toNat) (PlantElement.mk y22.kind y22.name y22.a y21.1 y22.c y22.length)) fun y23 =>
          some (y23, y21.2)
        else
          AM.lt (y4.1 == 4) fun y24 =>
          if y24 = true then
            Option.bind (Maker_Pick N y4.2 ([0, 1, 5, 64] : List Int)) fun y25 =>
            Option.bind (getI y1 y2.1) fun y26 =>
            AM.lt (y1.set ((y2.1 : Int).toNat) (PlantElement.mk y26.kind y26.name y26.a y26.b y25.1 y26.length)) fun y27 =>
            some (y27, y25.2)
          else
            AM.lt (y4.1 == 5) fun y28 =>
            if y28 = true then
              Option.bind (Maker_Pick N y4.2 ([0, 1, 100000, 100001] : List Int)) fun y29 =>
              Option.bind (getI y1 y2.1) fun y30 =>
              AM.lt (y1.set ((y2.1 : Int).toNat) (PlantElement.mk y30.kind y30.name y30.a y30.b y30.c y29.1)) fun y31 =>
              some (y31, y29.2)
            else
              some (y1, y4.2)
/-! ### humpyard/plant.ends -/
def plant_ends_0 (N : Nat) (x4 : Int) (x5 : Bool) : Option Bool :=
  if x5 = true then
    some x5
  else
    AM.lt (x4 == 3) fun y2 =>
    some y2
def plant_ends (N : Nat) (x0 : PlantElement) : Option (List Int) :=
  AM.lt (x0.kind == 1) fun y1 =>
  Option.bind (plant_ends_0 N x0.kind y1) fun y3 =>
  if y3 = true then
    some ([x0.a, x0.b] : List Int)
  else
    AM.lt (x0.kind == 2) fun y4 =>
    if y4 = true then
      some ([x0.a, x0.b, x0.c] : List Int)
    else
      some []
/-! ### humpyard/plant.name -/
def plant_name_0 (N : Nat) (x0 : List UInt8) : Option Bool :=
  if (decide ((x0.length : Int) < 1)) = true then
    some true
  else
    some (decide (12 < (x0.length : Int)))
def plant_name_2 (N : Nat) (x0 : List UInt8) (x3 : Int) : Option Bool :=
  Option.bind (getI x0 x3) fun y2 =>
  if (decide ((UInt8.toNat y2 : Int) < 97)) = true then
    Option.bind (getI x0 x3) fun y3 =>
    if (decide ((UInt8.toNat y3 : Int) < 48)) = true then
      some true
    else
      Option.bind (getI x0 x3) fun y4 =>
      some (decide (57 < (UInt8.toNat y4 : Int)))
  else
    Option.bind (getI x0 x3) fun y5 =>
    if (decide (122 < (UInt8.toNat y5 : Int))) = true then
      Option.bind (getI x0 x3) fun y6 =>
      if (decide ((UInt8.toNat y6 : Int) < 48)) = true then
        some true
      else
        Option.bind (getI x0 x3) fun y7 =>
        some (decide (57 < (UInt8.toNat y7 : Int)))
    else
      some false
def plant_name_1 (N : Nat) (x0 : List UInt8) (x13 : Int) : Nat → Int → Option (Sum (Unit) (Bool))
  | 0, _ => none
  | n + 1, x14 =>
    if (decide (x14 < x13)) = true then
      Option.bind (plant_name_2 N x0 x14) fun y8 =>
      if y8 = true then
        some (Sum.inr false)
      else
        plant_name_1 N x0 x13 n (IntKind.wrap .i64 (x14 + 1))
    else
      some (Sum.inl ())
def plant_name (N : Nat) (x0 : List UInt8) : Option Bool :=
  Option.bind (plant_name_0 N x0) fun y1 =>
  if y1 = true then
    some false
  else
    Option.bind (plant_name_1 N x0 (x0.length : Int) N 0) fun y9 =>
    match y9 with
    | Sum.inl y10 =>
      some true
    | Sum.inr y11 =>
      some y11
/-! ### humpyard/plant.sound -/
def plant_sound_o_0 (N : Nat) (x1 : PlantElement) (x3 : List Int) : Option Bool :=
  nilT x3 fun y2 =>
  if y2 = true then
    some true
  else
    Option.bind (plant_name N x1.name) fun y3 =>
    some (!y3)
def plant_sound_o_2 (N : Nat) (x5 : Int) : Option Bool :=
  if (decide (x5 < 0)) = true then
    some true
  else
    some (decide (64 ≤ x5))
def plant_sound_o_3 (N : Nat) (x5 : Int) (x33 : List Int) (x34 : Int) : Nat → Int → Option (Sum (Unit) (Bool))
  | 0, _ => none
  | n + 1, x35 =>
    if (decide (x35 < x34)) = true then
      Option.bind (getI x33 x35) fun y8 =>
      if (x5 == y8) = true then
        some (Sum.inr false)
      else
        plant_sound_o_3 N x5 x33 x34 n (IntKind.wrap .i64 (x35 + 1))
    else
      some (Sum.inl ())
def plant_sound_o_1 (N : Nat) (x3 : List Int) (x18 : List Int) (x19 : Int) : Nat → Int → Option (Sum (Unit) (Bool))
  | 0, _ => none
  | n + 1, x20 =>
    if (decide (x20 < x19)) = true then
      Option.bind (getI x18 x20) fun y5 =>
      Option.bind (plant_sound_o_2 N y5) fun y6 =>
      if y6 = true then
        some (Sum.inr false)
      else
        Option.bind (cutI x3 0 x20) fun y7 =>
        Option.bind (plant_sound_o_3 N y5 y7 (y7.length : Int) N 0) fun y9 =>
        match y9 with
        | Sum.inl y10 =>
          plant_sound_o_1 N x3 x18 x19 n (IntKind.wrap .i64 (x20 + 1))
        | Sum.inr y11 =>
          some (Sum.inr y11)
    else
      some (Sum.inl ())
def plant_sound_o_4 (N : Nat) (x1 : PlantElement) : Option Bool :=
  if (x1.c == 0) = true then
    if (decide (1 ≤ x1.length)) = true then
      AM.lt (decide (x1.length ≤ 100000)) fun y14 =>
      some y14
    else
      some false
  else
    some false
def plant_sound_o_5 (N : Nat) (x1 : PlantElement) : Option Bool :=
  if (x1.length == 0) = true then
    if (x1.kind == 2) = true then
      some true
    else
      AM.lt (x1.c == 0) fun y16 =>
      some y16
  else
    some false
def plant_sound_o (N : Nat) (x0 : PlantElement) : Option Bool :=
  Option.bind (plant_ends N x0) fun y1 =>
  Option.bind (plant_sound_o_0 N x0 y1) fun y4 =>
  if y4 = true then
    some false
  else
    Option.bind (plant_sound_o_1 N y1 y1 (y1.length : Int) N 0) fun y12 =>
    match y12 with
    | Sum.inl y13 =>
      if (x0.kind == 1) = true then
        Option.bind (plant_sound_o_4 N x0) fun y15 =>
        some y15
      else
        Option.bind (plant_sound_o_5 N x0) fun y17 =>
        some y17
    | Sum.inr y18 =>
      some y18
/-! ### humpyard/plant.ends -/
def plant_ends_nil_0 (N : Nat) (x4 : Int) (x5 : Bool) : Option Bool :=
  if x5 = true then
    some x5
  else
    AM.lt (x4 == 3) fun y2 =>
    some y2
def plant_ends_nil (N : Nat) (x0 : PlantElement) : Option Unit :=
  AM.lt (x0.kind == 1) fun y1 =>
  Option.bind (plant_ends_nil_0 N x0.kind y1) fun y3 =>
  if y3 = true then
    none
  else
    AM.lt (x0.kind == 2) fun y4 =>
    if y4 = true then
      none
    else
      some ()
/-! ### humpyard/plant.sound -/
def plant_sound_n_0 (N : Nat) : Option Bool :=
  some true
def plant_sound_n_1 (N : Nat) (x19 : Int) : Nat → Int → Option Unit
  | 0, _ => none
  | n + 1, x20 =>
    if (decide (x20 < x19)) = true then
      none
    else
      some ()
def plant_sound_n_2 (N : Nat) (x1 : PlantElement) : Option Bool :=
  if (x1.c == 0) = true then
    if (decide (1 ≤ x1.length)) = true then
      AM.lt (decide (x1.length ≤ 100000)) fun y4 =>
      some y4
    else
      some false
  else
    some false
def plant_sound_n_3 (N : Nat) (x1 : PlantElement) : Option Bool :=
  if (x1.length == 0) = true then
    if (x1.kind == 2) = true then
      some true
    else
      AM.lt (x1.c == 0) fun y6 =>
      some y6
  else
    some false
def plant_sound_n (N : Nat) (x0 : PlantElement) : Option Bool :=
  Option.bind (plant_ends_nil N x0) fun y1 =>
  Option.bind (plant_sound_n_0 N) fun y2 =>
  if y2 = true then
    some false
  else
    Option.bind (plant_sound_n_1 N (([] : List Int).length : Int) N 0) fun y3 =>
    if (x0.kind == 1) = true then
      Option.bind (plant_sound_n_2 N x0) fun y5 =>
      some y5
    else
      Option.bind (plant_sound_n_3 N x0) fun y7 =>
      some y7
/-! ### humpyard/plant.sound -/
def plant_sound (N : Nat) (x0 : PlantElement) : Option Bool :=
  orI (plant_sound_n N x0) (plant_sound_o N x0)
/-! ### humpyard/plant.Valid -/
def plant_Valid_1 (N : Nat) (x31 : List Int) (x32 : Int) : Nat → (List (Int × Int)) → Int → Option (Sum ((List (Int × Int))) (Int))
  | 0, _, _ => none
  | n + 1, x4, x33 =>
    if (decide (x33 < x32)) = true then
      Option.bind (getI x31 x33) fun y6 =>
      Option.bind (getI x31 x33) fun y7 =>
      AM.lt (mpGet x4 y7) fun y8 =>
      if ((y8.getD 0) == 2) = true then
        some (Sum.inr 17)
      else
        AM.lt (mpGet x4 y7) fun y9 =>
        AM.lt (mpSet x4 y7 (IntKind.wrap .i64 ((y9.getD 0) + 1))) fun y10 =>
        plant_Valid_1 N x31 x32 n y10 (IntKind.wrap .i64 (x33 + 1))
    else
      some (Sum.inl x4)
def plant_Valid_0 (N : Nat) (x14 : List PlantElement) (x15 : Int) : Nat → (List ((List UInt8) × Bool)) → (List (Int × Int)) → Int → Option (Sum (Unit) (Int))
  | 0, _, _, _ => none
  | n + 1, x3, x4, x16 =>
    if (decide (x16 < x15)) = true then
      Option.bind (getI x14 x16) fun y1 =>
      Option.bind (plant_sound N y1) fun y2 =>
      if (!y2) = true then
        some (Sum.inr 1)
      else
        AM.lt (mpGet x3 y1.name) fun y3 =>
        if (y3.getD false) = true then
          some (Sum.inr 8)
        else
          AM.lt (mpSet x3 y1.name true) fun y4 =>
          Option.bind (plant_ends N y1) fun y5 =>
          Option.bind (plant_Valid_1 N y5 (y5.length : Int) N x4 0) fun y11 =>
          match y11 with
          | Sum.inl y12 =>
            plant_Valid_0 N x14 x15 n y4 y12 (IntKind.wrap .i64 (x16 + 1))
          | Sum.inr y13 =>
            some (Sum.inr y13)
    else
      some (Sum.inl ())
def plant_Valid (N : Nat) (x0 : List PlantElement) : Option Int :=
  if (decide (96 < (x0.length : Int))) = true then
    some 3
  else
    Option.bind (plant_Valid_0 N x0 (x0.length : Int) N [] [] 0) fun y14 =>
    match y14 with
    | Sum.inl y15 =>
      some 0
    | Sum.inr y16 =>
      some y16
/-! ### humpyard/route.track -/
def route_track_0 (N : Nat) (x0 : List PlantElement) (x1 : Int) : Option Bool :=
  if (decide (0 ≤ x1)) = true then
    if (decide (x1 < (x0.length : Int))) = true then
      Option.bind (getI x0 x1) fun y1 =>
      AM.lt (y1.kind == 1) fun y2 =>
      some y2
    else
      some false
  else
    some false
def route_track (N : Nat) (x0 : List PlantElement) (x1 : Int) : Option Bool :=
  Option.bind (route_track_0 N x0 x1) fun y3 =>
  some y3
/-! ### humpyard/plant.Ends -/
def plant_Ends_0 (N : Nat) (x0 : List PlantElement) (x1 : Int) : Option Bool :=
  if (decide (x1 < 0)) = true then
    some true
  else
    some (decide ((x0.length : Int) ≤ x1))
def plant_Ends (N : Nat) (x0 : List PlantElement) (x1 : Int) : Option (List Int) :=
  Option.bind (plant_Ends_0 N x0 x1) fun y1 =>
  if y1 = true then
    some []
  else
    Option.bind (getI x0 x1) fun y2 =>
    Option.bind (plant_ends N y2) fun y3 =>
    some y3
/-! ### humpyard/plant.Neighbour -/
def plant_Neighbour_2 (N : Nat) (x2 : Int) (x7 : Int) (x22 : List Int) (x23 : Int) : Nat → Int → Option (Sum (Unit) (Int))
  | 0, _ => none
  | n + 1, x24 =>
    if (decide (x24 < x23)) = true then
      Option.bind (getI x22 x24) fun y3 =>
      Option.bind (getI x22 x24) fun y4 =>
      if (y4 == x2) = true then
        some (Sum.inr x7)
      else
        plant_Neighbour_2 N x2 x7 x22 x23 n (IntKind.wrap .i64 (x24 + 1))
    else
      some (Sum.inl ())
def plant_Neighbour_1 (N : Nat) (x1 : Int) (x2 : Int) (x11 : List PlantElement) (x13 : Int) : Option (Sum (Unit) (Int)) :=
  Option.bind (getI x11 x13) fun y1 =>
  if (x13 == x1) = true then
    some (Sum.inl ())
  else
    Option.bind (plant_ends N y1) fun y2 =>
    Option.bind (plant_Neighbour_2 N x2 x13 y2 (y2.length : Int) N 0) fun y5 =>
    match y5 with
    | Sum.inl y6 =>
      some (Sum.inl ())
    | Sum.inr y7 =>
      some (Sum.inr y7)
def plant_Neighbour_0 (N : Nat) (x1 : Int) (x2 : Int) (x11 : List PlantElement) (x12 : Int) : Nat → Int → Option (Sum (Unit) (Int))
  | 0, _ => none
  | n + 1, x13 =>
    if (decide (x13 < x12)) = true then
      Option.bind (plant_Neighbour_1 N x1 x2 x11 x13) fun y8 =>
      match y8 with
      | Sum.inl y9 =>
        plant_Neighbour_0 N x1 x2 x11 x12 n (IntKind.wrap .i64 (x13 + 1))
      | Sum.inr y10 =>
        some (Sum.inr y10)
    else
      some (Sum.inl ())
def plant_Neighbour (N : Nat) (x0 : List PlantElement) (x1 : Int) (x2 : Int) : Option Int :=
  Option.bind (plant_Neighbour_0 N x1 x2 x0 (x0.length : Int) N 0) fun y11 =>
  match y11 with
  | Sum.inl y12 =>
    some (-1)
  | Sum.inr y13 =>
    some y13
/-! ### humpyard/plant.Through -/
def plant_Through_0 (N : Nat) (x2 : Int) (x14 : Int) : Nat → (List Int) → Int → Option (Sum (Unit) (List Int))
  | 0, _, _ => none
  | n + 1, x7, x15 =>
    if (decide (x15 < x14)) = true then
      Option.bind (getI x7 x15) fun y2 =>
      Option.bind (getI x7 x15) fun y3 =>
      if (y3 != x2) = true then
        plant_Through_0 N x2 x14 n x7 (IntKind.wrap .i64 (x15 + 1))
      else
        AM.lt (decide (0 < x15)) fun y4 =>
        if y4 = true then
          Option.bind (getI x7 0) fun y5 =>
          Option.bind (getI x7 0) fun y6 =>
          some (Sum.inr ([y6] : List Int))
        else
          Option.bind (cutI x7 1 (x7.length : Int)) fun y7 =>
          some (Sum.inr y7)
    else
      some (Sum.inl ())
def plant_Through (N : Nat) (x0 : List PlantElement) (x1 : Int) (x2 : Int) : Option (List Int) :=
  Option.bind (plant_Ends N x0 x1) fun y1 =>
  Option.bind (plant_Through_0 N x2 (y1.length : Int) N y1 0) fun y8 =>
  match y8 with
  | Sum.inl y9 =>
    some []
  | Sum.inr y10 =>
    some y10
/-! ### humpyard/route.distances -/
def route_distances_0 (N : Nat) (x1 : Int) (x20 : List Int) (x21 : Int) : Nat → (List (Place × Int)) → (List Place) → Int → Option ((List (Place × Int)) × List Place)
  | 0, _, _, _ => none
  | n + 1, x5, x6, x22 =>
    if (decide (x22 < x21)) = true then
      Option.bind (getI x20 x22) fun y2 =>
      Option.bind (getI x20 x22) fun y3 =>
      AM.lt (mpSet x5 (Place.mk x1 y3) 0) fun y4 =>
      Option.bind (appI x6 ([(Place.mk x1 y3)] : List Place)) fun y5 =>
      route_distances_0 N x1 x20 x21 n y4 y5 (IntKind.wrap .i64 (x22 + 1))
    else
      some (x5, x6)
def route_distances_3 (N : Nat) (x5 : List (Place × Int)) (x6 : List Place) (x10 : Place) (x11 : Int) (x54 : List Int) (x56 : Int) : Option ((List (Place × Int)) × List Place) :=
  Option.bind (getI x54 x56) fun y12 =>
  AM.lt (mpGet x5 (Place.mk x11 y12)) fun y13 =>
  AM.lt (y13.getD 0) fun y14 =>
  if (!y13.isSome) = true then
    AM.lt (mpGet x5 x10) fun y15 =>
    AM.lt (mpSet x5 (Place.mk x11 y12) (IntKind.wrap .i64 ((y15.getD 0) + 1))) fun y16 =>
    Option.bind (appI x6 ([(Place.mk x11 y12)] : List Place)) fun y17 =>
    some (y16, y17)
  else
    some (x5, x6)
def route_distances_2 (N : Nat) (x10 : Place) (x11 : Int) (x54 : List Int) (x55 : Int) : Nat → (List (Place × Int)) → (List Place) → Int → Option ((List (Place × Int)) × List Place)
  | 0, _, _, _ => none
  | n + 1, x5, x6, x56 =>
    if (decide (x56 < x55)) = true then
      Option.bind (route_distances_3 N x5 x6 x10 x11 x54 x56) fun y18 =>
      route_distances_2 N x10 x11 x54 x55 n y18.1 y18.2 (IntKind.wrap .i64 (x56 + 1))
    else
      some (x5, x6)
def route_distances_1 (N : Nat) (x0 : List PlantElement) : Nat → (List (Place × Int)) → (List Place) → Option (List (Place × Int))
  | 0, _, _ => none
  | n + 1, x5, x6 =>
    if (decide (0 < (x6.length : Int))) = true then
      Option.bind (getI x6 0) fun y7 =>
      Option.bind (getI x6 0) fun y8 =>
      Option.bind (cutI x6 1 (x6.length : Int)) fun y9 =>
      Option.bind (plant_Neighbour N x0 y8.element y8.in_) fun y10 =>
      Option.bind (plant_Through N x0 y10 y8.in_) fun y11 =>
      Option.bind (route_distances_2 N y8 y10 y11 (y11.length : Int) N x5 y9 0) fun y19 =>
      route_distances_1 N x0 n y19.1 y19.2
    else
      some x5
def route_distances (N : Nat) (x0 : List PlantElement) (x1 : Int) : Option ((List (Place × Int))) :=
  Option.bind (plant_Ends N x0 x1) fun y1 =>
  Option.bind (route_distances_0 N x1 y1 (y1.length : Int) N [] [] 0) fun y6 =>
  Option.bind (route_distances_1 N x0 N y6.1 y6.2) fun y20 =>
  some y20
/-! ### cmp.isNaN[int] -/
def cmp_isNaN_int (N : Nat) (x0 : Int) : Option Bool :=
  AM.lt (x0 != x0) fun y1 =>
  some y1
/-! ### cmp.Compare[int] -/
def cmp_Compare_int (N : Nat) (x0 : Int) (x1 : Int) : Option Int :=
  Option.bind (cmp_isNaN_int N x0) fun y1 =>
  Option.bind (cmp_isNaN_int N x1) fun y2 =>
  if y1 = true then
    if y2 = true then
      some 0
    else
      some (-1)
  else
    if y2 = true then
      some 1
    else
      if (decide (x0 < x1)) = true then
        some (-1)
      else
        if (decide (x1 < x0)) = true then
          some 1
        else
          some 0
/-! ### cmp.Or[int] -/
def cmp_Or_int_0 (N : Nat) (x3 : Int) (x6 : List Int) (x7 : Int) : Nat → Int → Option (Sum (Unit) (Int))
  | 0, _ => none
  | n + 1, x8 =>
    if (decide (x8 < x7)) = true then
      Option.bind (getI x6 x8) fun y1 =>
      if (y1 != x3) = true then
        some (Sum.inr y1)
      else
        cmp_Or_int_0 N x3 x6 x7 n (IntKind.wrap .i64 (x8 + 1))
    else
      some (Sum.inl ())
def cmp_Or_int (N : Nat) (x0 : List Int) : Option Int :=
  Option.bind (cmp_Or_int_0 N 0 x0 (x0.length : Int) N 0) fun y2 =>
  match y2 with
  | Sum.inl y3 =>
    some 0
  | Sum.inr y4 =>
    some y4
/-! ### humpyard/route.next -/
def route_next_2 (N : Nat) (x1 : List (Place × Int)) (x11 : Int) (x12 : Place) (x13 : Bool) (x15 : Int) (x16 : Place) (x17 : Int) : Option Bool :=
  if (!x13) = true then
    some true
  else
    AM.lt (mpGet x1 x12) fun y5 =>
    Option.bind (cmp_Compare_int N x17 (y5.getD 0)) fun y6 =>
    Option.bind (cmp_Compare_int N x16.element x12.element) fun y7 =>
    Option.bind (cmp_Compare_int N x15 x11) fun y8 =>
    Option.bind (cmp_Or_int N ([y6, y7, y8] : List Int)) fun y9 =>
    some (decide (y9 < 0))
def route_next_1 (N : Nat) (x0 : List PlantElement) (x1 : List (Place × Int)) (x2 : Int) (x11 : Int) (x12 : Place) (x13 : Bool) (x20 : List Int) (x22 : Int) : Option (Int × Place × Bool) :=
  Option.bind (getI x20 x22) fun y1 =>
  Option.bind (plant_Neighbour N x0 x2 y1) fun y2 =>
  AM.lt (mpGet x1 (Place.mk y2 y1)) fun y3 =>
  AM.lt (y3.getD 0) fun y4 =>
  if (!y3.isSome) = true then
    some (x11, x12, x13)
  else
    Option.bind (route_next_2 N x1 x11 x12 x13 y1 (Place.mk y2 y1) y4) fun y10 =>
    if y10 = true then
      some (y1, (Place.mk y2 y1), true)
    else
      some (x11, x12, x13)
def route_next_0 (N : Nat) (x0 : List PlantElement) (x1 : List (Place × Int)) (x2 : Int) (x20 : List Int) (x21 : Int) : Nat → Int → Place → Bool → Int → Option (Int × Place × Bool)
  | 0, _, _, _, _ => none
  | n + 1, x11, x12, x13, x22 =>
    if (decide (x22 < x21)) = true then
      Option.bind (route_next_1 N x0 x1 x2 x11 x12 x13 x20 x22) fun y11 =>
      route_next_0 N x0 x1 x2 x20 x21 n y11.1 y11.2.1 y11.2.2 (IntKind.wrap .i64 (x22 + 1))
    else
      some (x11, x12, x13)
def route_next (N : Nat) (x0 : List PlantElement) (x1 : List (Place × Int)) (x2 : Int) (x3 : List Int) : Option (Int × Place × Bool) :=
  Option.bind (route_next_0 N x0 x1 x2 x3 (x3.length : Int) N 0 (Place.mk 0 0) false 0) fun y12 =>
  some (y12.1, y12.2.1, y12.2.2)
/-! ### humpyard/route.twice -/
def route_twice_0 (N : Nat) (x7 : List Visit) (x8 : Int) : Nat → (List (Int × Bool)) → Int → Option (Sum (Unit) (Bool))
  | 0, _, _ => none
  | n + 1, x3, x9 =>
    if (decide (x9 < x8)) = true then
      Option.bind (getI x7 x9) fun y1 =>
      AM.lt (mpGet x3 y1.element) fun y2 =>
      if (y2.getD false) = true then
        some (Sum.inr true)
      else
        AM.lt (mpSet x3 y1.element true) fun y3 =>
        route_twice_0 N x7 x8 n y3 (IntKind.wrap .i64 (x9 + 1))
    else
      some (Sum.inl ())
def route_twice (N : Nat) (x0 : List Visit) : Option Bool :=
  Option.bind (route_twice_0 N x0 (x0.length : Int) N [] 0) fun y4 =>
  match y4 with
  | Sum.inl y5 =>
    some false
  | Sum.inr y6 =>
    some y6
/-! ### humpyard/route.Find -/
def route_Find_0 (N : Nat) (x0 : List PlantElement) (x1 : Int) (x2 : Int) : Option Bool :=
  Option.bind (route_track N x0 x1) fun y2 =>
  if (!y2) = true then
    some true
  else
    Option.bind (route_track N x0 x2) fun y3 =>
    if (!y3) = true then
      some true
    else
      some (x1 == x2)
def route_Find_1 (N : Nat) (x0 : List PlantElement) (x9 : List (Place × Int)) : Nat → (List Visit) → (List Int) → Option (Sum (List Visit) (Int))
  | 0, _, _ => none
  | n + 1, x10, x11 =>
    Option.bind (getI x10 (IntKind.wrap .i64 ((x10.length : Int) - 1))) fun y7 =>
    Option.bind (getI x10 (IntKind.wrap .i64 ((x10.length : Int) - 1))) fun y8 =>
    Option.bind (route_next N x0 x9 y8.element x11) fun y9 =>
    if (!y9.2.2) = true then
      some (Sum.inr 15)
    else
      Option.bind (getI x10 (IntKind.wrap .i64 ((x10.length : Int) - 1))) fun y10 =>
      AM.lt (x10.set (((IntKind.wrap .i64 ((x10.length : Int) - 1)) : Int).toNat) (Visit.mk y10.element y10.in_ y9.1)) fun y11 =>
      Option.bind (appI y11 ([(Visit.mk y9.2.1.element y9.2.1.in_ (-1))] : List Visit)) fun y12 =>
      AM.lt (mpGet x9 y9.2.1) fun y13 =>
      if ((y13.getD 0) == 0) = true then
        some (Sum.inl y12)
      else
        Option.bind (plant_Through N x0 y9.2.1.element y9.2.1.in_) fun y14 =>
        route_Find_1 N x0 x9 n y12 y14
def route_Find (N : Nat) (x0 : List PlantElement) (x1 : Int) (x2 : Int) : Option (List Visit × Int) :=
  Option.bind (plant_Valid N x0) fun y1 =>
  if (y1 != 0) = true then
    some ([], y1)
  else
    Option.bind (route_Find_0 N x0 x1 x2) fun y4 =>
    if y4 = true then
      some ([], 2)
    else
      Option.bind (route_distances N x0 x2) fun y5 =>
      Option.bind (plant_Ends N x0 x1) fun y6 =>
      Option.bind (route_Find_1 N x0 y5 N ([(Visit.mk x1 (-1) 0)] : List Visit) y6) fun y15 =>
      match y15 with
      | Sum.inl y16 =>
        Option.bind (route_twice N y16) fun y17 =>
        if y17 = true then
          some ([], 17)
        else
          some (y16, 0)
      | Sum.inr y18 =>
        some ([], y18)
/-! ### humpyard/humpyardref06.Name -/
def r06_Name_1 (N : Nat) (x0 : List UInt8) (x3 : Int) : Option Bool :=
  Option.bind (getI x0 x3) fun y1 =>
  if (decide (97 ≤ (UInt8.toNat y1 : Int))) = true then
    Option.bind (getI x0 x3) fun y2 =>
    if (decide ((UInt8.toNat y2 : Int) ≤ 122)) = true then
      some (!true)
    else
      Option.bind (getI x0 x3) fun y3 =>
      if (decide (48 ≤ (UInt8.toNat y3 : Int))) = true then
        Option.bind (getI x0 x3) fun y4 =>
        some (!(decide ((UInt8.toNat y4 : Int) ≤ 57)))
      else
        some (!false)
  else
    Option.bind (getI x0 x3) fun y5 =>
    if (decide (48 ≤ (UInt8.toNat y5 : Int))) = true then
      Option.bind (getI x0 x3) fun y6 =>
      some (!(decide ((UInt8.toNat y6 : Int) ≤ 57)))
    else
      some (!false)
def r06_Name_0 (N : Nat) (x0 : List UInt8) : Nat → Int → Option (Sum (Unit) (Bool))
  | 0, _ => none
  | n + 1, x3 =>
    if (decide (x3 < (x0.length : Int))) = true then
      Option.bind (r06_Name_1 N x0 x3) fun y7 =>
      if y7 = true then
        some (Sum.inr false)
      else
        AM.lt (IntKind.wrap .i64 (x3 + 1)) fun y8 =>
        r06_Name_0 N x0 n y8
    else
      some (Sum.inl ())
def r06_Name_2 (N : Nat) (x0 : List UInt8) : Option Bool :=
  if (decide (1 ≤ (x0.length : Int))) = true then
    AM.lt (decide ((x0.length : Int) ≤ 12)) fun y11 =>
    some y11
  else
    some false
def r06_Name (N : Nat) (x0 : List UInt8) : Option Bool :=
  Option.bind (r06_Name_0 N x0 N 0) fun y9 =>
  match y9 with
  | Sum.inl y10 =>
    Option.bind (r06_Name_2 N x0) fun y12 =>
    some y12
  | Sum.inr y13 =>
    some y13
/-! ### humpyard/humpyardref26.sound -/
def r26_sound_0 (N : Nat) (x5 : PlantElement) (x6 : List Int) : Option Bool :=
  if ((x6.length : Int) == 0) = true then
    some true
  else
    Option.bind (r06_Name N x5.name) fun y3 =>
    some (!y3)
def r26_sound_2 (N : Nat) (x6 : List Int) (x7 : Int) : Option Bool :=
  Option.bind (getI x6 x7) fun y5 =>
  if (decide (y5 < 0)) = true then
    some true
  else
    Option.bind (getI x6 x7) fun y6 =>
    if (decide (64 ≤ y6)) = true then
      some true
    else
      Option.bind (cutI x6 0 x7) fun y7 =>
      Option.bind (getI x6 x7) fun y8 =>
      Option.bind (r26_has N y7 y8) fun y9 =>
      some y9
def r26_sound_1 (N : Nat) (x6 : List Int) : Nat → Int → Option (Sum (Unit) (Bool))
  | 0, _ => none
  | n + 1, x7 =>
    if (decide (x7 < (x6.length : Int))) = true then
      Option.bind (r26_sound_2 N x6 x7) fun y10 =>
      if y10 = true then
        some (Sum.inr false)
      else
        AM.lt (IntKind.wrap .i64 (x7 + 1)) fun y11 =>
        r26_sound_1 N x6 n y11
    else
      some (Sum.inl ())
def r26_sound_3 (N : Nat) (x5 : PlantElement) (x6 : List Int) : Option Bool :=
  if ((x6.length : Int) == 2) = true then
    some (x5.c != 0)
  else
    some false
def r26_sound_4 (N : Nat) (x5 : PlantElement) : Option Bool :=
  if (decide (1 ≤ x5.length)) = true then
    AM.lt (decide (x5.length ≤ 100000)) fun y15 =>
    some y15
  else
    some false
def r26_sound (N : Nat) (x0 : List PlantElement) (x1 : Int) : Option Bool :=
  Option.bind (getI x0 x1) fun y1 =>
  Option.bind (r26_Ends N x0 x1) fun y2 =>
  Option.bind (r26_sound_0 N y1 y2) fun y4 =>
  if y4 = true then
    some false
  else
    Option.bind (r26_sound_1 N y2 N 0) fun y12 =>
    match y12 with
    | Sum.inl y13 =>
      Option.bind (r26_sound_3 N y1 y2) fun y14 =>
      if y14 = true then
        some false
      else
        if (y1.kind == 1) = true then
          Option.bind (r26_sound_4 N y1) fun y16 =>
          some y16
        else
          AM.lt (y1.length == 0) fun y17 =>
          some y17
    | Sum.inr y18 =>
      some y18
/-! ### humpyard/humpyardref26.Valid -/
def r26_Valid_1 (N : Nat) (x0 : List PlantElement) (x4 : Int) : Nat → Int → Option (Sum (Unit) (Int))
  | 0, _ => none
  | n + 1, x5 =>
    if (decide (x5 < x4)) = true then
      Option.bind (getI x0 x5) fun y2 =>
      Option.bind (getI x0 x4) fun y3 =>
      if (y2.name == y3.name) = true then
        some (Sum.inr 8)
      else
        AM.lt (IntKind.wrap .i64 (x5 + 1)) fun y4 =>
        r26_Valid_1 N x0 x4 n y4
    else
      some (Sum.inl ())
def r26_Valid_2 (N : Nat) (x3 : List Int) (x6 : List Int) : Nat → Int → Option (Sum (Unit) (Int))
  | 0, _ => none
  | n + 1, x7 =>
    if (decide (x7 < (x6.length : Int))) = true then
      Option.bind (getI x6 x7) fun y8 =>
      Option.bind (getI x6 x7) fun y9 =>
      Option.bind (getI x3 y9) fun y10 =>
      Option.bind (getI x3 y9) fun y11 =>
      if (y11 == 2) = true then
        some (Sum.inr 17)
      else
        AM.lt (IntKind.wrap .i64 (x7 + 1)) fun y12 =>
        r26_Valid_2 N x3 x6 n y12
    else
      some (Sum.inl ())
def r26_Valid_3 (N : Nat) (x6 : List Int) : Nat → (List Int) → Int → Option (List Int)
  | 0, _, _ => none
  | n + 1, x3, x8 =>
    if (decide (x8 < (x6.length : Int))) = true then
      Option.bind (getI x6 x8) fun y15 =>
      Option.bind (getI x6 x8) fun y16 =>
      Option.bind (getI x3 y16) fun y17 =>
      Option.bind (getI x3 y16) fun y18 =>
      Option.bind (getI x3 y16) fun y19 =>
      Option.bind (getI x3 y16) fun y20 =>
      AM.lt (x3.set ((y16 : Int).toNat) (IntKind.wrap .i64 (y18 + 1))) fun y21 =>
      AM.lt (IntKind.wrap .i64 (x8 + 1)) fun y22 =>
      r26_Valid_3 N x6 n y21 y22
    else
      some x3
def r26_Valid_0 (N : Nat) (x0 : List PlantElement) : Nat → (List Int) → Int → Option (Sum (Unit) (Int))
  | 0, _, _ => none
  | n + 1, x3, x4 =>
    if (decide (x4 < (x0.length : Int))) = true then
      Option.bind (r26_sound N x0 x4) fun y1 =>
      if (!y1) = true then
        some (Sum.inr 1)
      else
        Option.bind (r26_Valid_1 N x0 x4 N 0) fun y5 =>
        match y5 with
        | Sum.inl y6 =>
          Option.bind (r26_Ends N x0 x4) fun y7 =>
          Option.bind (r26_Valid_2 N x3 y7 N 0) fun y13 =>
          match y13 with
          | Sum.inl y14 =>
            Option.bind (r26_Valid_3 N y7 N x3 0) fun y23 =>
            AM.lt (IntKind.wrap .i64 (x4 + 1)) fun y24 =>
            r26_Valid_0 N x0 n y23 y24
          | Sum.inr y25 =>
            some (Sum.inr y25)
        | Sum.inr y26 =>
          some (Sum.inr y26)
    else
      some (Sum.inl ())
def r26_Valid (N : Nat) (x0 : List PlantElement) : Option Int :=
  if (decide (96 < (x0.length : Int))) = true then
    some 3
  else
    Option.bind (r26_Valid_0 N x0 N (List.replicate 64 0) 0) fun y27 =>
    match y27 with
    | Sum.inl y28 =>
      some 0
    | Sum.inr y29 =>
      some y29
/-! ### humpyard/humpyardref27.track -/
def r27_track_0 (N : Nat) (x0 : List PlantElement) (x1 : Int) : Option Bool :=
  if (decide (0 ≤ x1)) = true then
    if (decide (x1 < (x0.length : Int))) = true then
      Option.bind (getI x0 x1) fun y1 =>
      AM.lt (y1.kind == 1) fun y2 =>
      some y2
    else
      some false
  else
    some false
def r27_track (N : Nat) (x0 : List PlantElement) (x1 : Int) : Option Bool :=
  Option.bind (r27_track_0 N x0 x1) fun y3 =>
  some y3
/-! ### humpyard/humpyardref27.outs -/
def r27_outs (N : Nat) (x0 : List PlantElement) (x1 : Visit) : Option (List Int) :=
  if (decide (x1.in_ < 0)) = true then
    Option.bind (r26_Ends N x0 x1.element) fun y1 =>
    some y1
  else
    Option.bind (r26_Through N x0 x1.element x1.in_) fun y2 =>
    some y2
/-! ### humpyard/humpyardref27.next -/
def r27_next_2 (N : Nat) (x8 : Int) (x9 : Bool) (x12 : Int) (x13 : Bool) : Option Bool :=
  if x13 = true then
    if (!x9) = true then
      some true
    else
      some (decide (x12 < x8))
  else
    some false
def r27_next_1 (N : Nat) (x0 : List PlantElement) (x1 : List (Step × Int)) (x5 : Visit) (x8 : Int) (x9 : Bool) (x10 : List Int) (x11 : Int) : Option (Int × Bool) :=
  Option.bind (getI x10 x11) fun y2 =>
  Option.bind (getI x10 x11) fun y3 =>
  Option.bind (r26_Neighbour N x0 x5.element y3) fun y4 =>
  Option.bind (getI x10 x11) fun y5 =>
  Option.bind (getI x10 x11) fun y6 =>
  AM.lt (mpGet x1 (Step.mk y4 y6)) fun y7 =>
  AM.lt (y7.getD 0) fun y8 =>
  Option.bind (r27_next_2 N x8 x9 y8 y7.isSome) fun y9 =>
  if y9 = true then
    some (y8, true)
  else
    some (x8, x9)
def r27_next_0 (N : Nat) (x0 : List PlantElement) (x1 : List (Step × Int)) (x5 : Visit) (x10 : List Int) : Nat → Int → Bool → Int → Option (Int × Bool)
  | 0, _, _, _ => none
  | n + 1, x8, x9, x11 =>
    if (decide (x11 < (x10.length : Int))) = true then
      Option.bind (r27_next_1 N x0 x1 x5 x8 x9 x10 x11) fun y10 =>
      AM.lt (IntKind.wrap .i64 (x11 + 1)) fun y11 =>
      r27_next_0 N x0 x1 x5 x10 n y10.1 y10.2 y11
    else
      some (x8, x9)
def r27_next (N : Nat) (x0 : List PlantElement) (x1 : List (Step × Int)) (x2 : Visit) : Option (Int × Bool) :=
  Option.bind (r27_outs N x0 x2) fun y1 =>
  Option.bind (r27_next_0 N x0 x1 x2 y1 N 0 false 0) fun y12 =>
  some (y12.1, y12.2)
/-! ### humpyard/humpyardref27.distances -/
def r27_distances_0 (N : Nat) (x1 : Int) (x6 : List Int) : Nat → (List (Step × Int)) → Int → Option (List (Step × Int))
  | 0, _, _ => none
  | n + 1, x5, x7 =>
    if (decide (x7 < (x6.length : Int))) = true then
      Option.bind (getI x6 x7) fun y2 =>
      Option.bind (getI x6 x7) fun y3 =>
      AM.lt (mpSet x5 (Step.mk x1 y3) 0) fun y4 =>
      AM.lt (IntKind.wrap .i64 (x7 + 1)) fun y5 =>
      r27_distances_0 N x1 x6 n y4 y5
    else
      some x5
def r27_distances_5 (N : Nat) (x12 : Int) (x13 : Bool) (x14 : Int) (x15 : Bool) : Option Bool :=
  if x13 = true then
    if (!x15) = true then
      some true
    else
      some (decide ((IntKind.wrap .i64 (x12 + 1)) < x14))
  else
    some false
def r27_distances_4 (N : Nat) (x0 : List PlantElement) (x1 : Int) (x5 : List (Step × Int)) (x8 : Bool) (x9 : Int) (x10 : List Int) (x11 : Int) : Option ((List (Step × Int)) × Bool) :=
  if (x9 == x1) = true then
    some (x5, x8)
  else
    Option.bind (getI x10 x11) fun y8 =>
    Option.bind (getI x10 x11) fun y9 =>
    Option.bind (r27_next N x0 x5 (Visit.mk x9 y9 0)) fun y10 =>
    Option.bind (getI x10 x11) fun y11 =>
    Option.bind (getI x10 x11) fun y12 =>
    AM.lt (mpGet x5 (Step.mk x9 y12)) fun y13 =>
    AM.lt (y13.getD 0) fun y14 =>
    Option.bind (r27_distances_5 N y10.1 y10.2 y14 y13.isSome) fun y15 =>
    if y15 = true then
      Option.bind (getI x10 x11) fun y16 =>
      Option.bind (getI x10 x11) fun y17 =>
      AM.lt (mpSet x5 (Step.mk x9 y17) (IntKind.wrap .i64 (y10.1 + 1))) fun y18 =>
      some (y18, true)
    else
      some (x5, x8)
def r27_distances_3 (N : Nat) (x0 : List PlantElement) (x1 : Int) (x9 : Int) (x10 : List Int) : Nat → (List (Step × Int)) → Bool → Int → Option ((List (Step × Int)) × Bool)
  | 0, _, _, _ => none
  | n + 1, x5, x8, x11 =>
    if (decide (x11 < (x10.length : Int))) = true then
      Option.bind (r27_distances_4 N x0 x1 x5 x8 x9 x10 x11) fun y19 =>
      AM.lt (IntKind.wrap .i64 (x11 + 1)) fun y20 =>
      r27_distances_3 N x0 x1 x9 x10 n y19.1 y19.2 y20
    else
      some (x5, x8)
def r27_distances_2 (N : Nat) (x0 : List PlantElement) (x1 : Int) : Nat → (List (Step × Int)) → Bool → Int → Option ((List (Step × Int)) × Bool)
  | 0, _, _, _ => none
  | n + 1, x5, x8, x9 =>
    if (decide (x9 < (x0.length : Int))) = true then
      Option.bind (r26_Ends N x0 x9) fun y7 =>
      Option.bind (r27_distances_3 N x0 x1 x9 y7 N x5 x8 0) fun y21 =>
      AM.lt (IntKind.wrap .i64 (x9 + 1)) fun y22 =>
      r27_distances_2 N x0 x1 n y21.1 y21.2 y22
    else
      some (x5, x8)
def r27_distances_1 (N : Nat) (x0 : List PlantElement) (x1 : Int) : Nat → (List (Step × Int)) → Bool → Option (List (Step × Int))
  | 0, _, _ => none
  | n + 1, x5, x8 =>
    if x8 = true then
      Option.bind (r27_distances_2 N x0 x1 N x5 false 0) fun y23 =>
      r27_distances_1 N x0 x1 n y23.1 y23.2
    else
      some x5
def r27_distances (N : Nat) (x0 : List PlantElement) (x1 : Int) : Option ((List (Step × Int))) :=
  Option.bind (r26_Ends N x0 x1) fun y1 =>
  Option.bind (r27_distances_0 N x1 y1 N [] 0) fun y6 =>
  Option.bind (r27_distances_1 N x0 x1 N y6 true) fun y24 =>
  some y24
/-! ### humpyard/humpyardref27.Visits -/
def r27_Visits_0 (N : Nat) (x0 : List Visit) (x1 : Int) : Nat → Int → Option (Sum (Unit) (Bool))
  | 0, _ => none
  | n + 1, x5 =>
    if (decide (x5 < (x0.length : Int))) = true then
      Option.bind (getI x0 x5) fun y1 =>
      if (y1.element == x1) = true then
        some (Sum.inr true)
      else
        AM.lt (IntKind.wrap .i64 (x5 + 1)) fun y2 =>
        r27_Visits_0 N x0 x1 n y2
    else
      some (Sum.inl ())
def r27_Visits (N : Nat) (x0 : List Visit) (x1 : Int) : Option Bool :=
  Option.bind (r27_Visits_0 N x0 x1 N 0) fun y3 =>
  match y3 with
  | Sum.inl y4 =>
    some false
  | Sum.inr y5 =>
    some y5
/-! ### humpyard/humpyardref27.Find -/
def r27_Find_0 (N : Nat) (x0 : List PlantElement) (x1 : Int) (x2 : Int) : Option Bool :=
  Option.bind (r27_track N x0 x1) fun y2 =>
  if (!y2) = true then
    some true
  else
    Option.bind (r27_track N x0 x2) fun y3 =>
    if (!y3) = true then
      some true
    else
      some (x1 == x2)
def r27_Find_4 (N : Nat) (x10 : Visit) (x11 : Int) (x14 : List Int) (x15 : Int) (x16 : Int) (x17 : Int) (x18 : Int) (x19 : Bool) : Option Bool :=
  if x19 = true then
    if (x18 == x11) = true then
      if (decide (x15 < 0)) = true then
        some true
      else
        if (decide (x17 < x15)) = true then
          some true
        else
          if (x17 == x15) = true then
            Option.bind (getI x14 x16) fun y15 =>
            Option.bind (getI x14 x16) fun y16 =>
            some (decide (y16 < x10.out))
          else
            some false
    else
      some false
  else
    some false
def r27_Find_3 (N : Nat) (x0 : List PlantElement) (x9 : List (Step × Int)) (x10 : Visit) (x11 : Int) (x14 : List Int) (x15 : Int) (x16 : Int) : Option (Visit × Int) :=
  Option.bind (getI x14 x16) fun y8 =>
  Option.bind (getI x14 x16) fun y9 =>
  Option.bind (r26_Neighbour N x0 x10.element y9) fun y10 =>
  Option.bind (getI x14 x16) fun y11 =>
  Option.bind (getI x14 x16) fun y12 =>
  AM.lt (mpGet x9 (Step.mk y10 y12)) fun y13 =>
  AM.lt (y13.getD 0) fun y14 =>
  Option.bind (r27_Find_4 N x10 x11 x14 x15 x16 y10 y14 y13.isSome) fun y17 =>
  if y17 = true then
    Option.bind (getI x14 x16) fun y18 =>
    Option.bind (getI x14 x16) fun y19 =>
    some ((Visit.mk x10.element x10.in_ y19), y10)
  else
    some (x10, x15)
def r27_Find_2 (N : Nat) (x0 : List PlantElement) (x9 : List (Step × Int)) (x11 : Int) (x14 : List Int) : Nat → Visit → Int → Int → Option (Visit × Int)
  | 0, _, _, _ => none
  | n + 1, x10, x15, x16 =>
    if (decide (x16 < (x14.length : Int))) = true then
      Option.bind (r27_Find_3 N x0 x9 x10 x11 x14 x15 x16) fun y20 =>
      AM.lt (IntKind.wrap .i64 (x16 + 1)) fun y21 =>
      r27_Find_2 N x0 x9 x11 x14 n y20.1 y20.2 y21
    else
      some (x10, x15)
def r27_Find_1 (N : Nat) (x0 : List PlantElement) (x9 : List (Step × Int)) : Nat → Visit → Int → (List Visit) → Option (Sum (Visit × List Visit) (Int))
  | 0, _, _, _ => none
  | n + 1, x10, x11, x13 =>
    if (decide (0 ≤ x11)) = true then
      Option.bind (r27_outs N x0 (Visit.mk x10.element x10.in_ (-1))) fun y7 =>
      Option.bind (r27_Find_2 N x0 x9 x11 y7 N (Visit.mk x10.element x10.in_ (-1)) (-1) 0) fun y22 =>
      Option.bind (r27_Visits N x13 y22.1.element) fun y23 =>
      if y23 = true then
        some (Sum.inr 17)
      else
        Option.bind (appI x13 ([y22.1] : List Visit)) fun y24 =>
        AM.lt (IntKind.wrap .i64 (x11 - 1)) fun y25 =>
        r27_Find_1 N x0 x9 n (Visit.mk y22.2 y22.1.out 0) y25 y24
    else
      some (Sum.inl (x10, x13))
def r27_Find (N : Nat) (x0 : List PlantElement) (x1 : Int) (x2 : Int) : Option (List Visit × Int) :=
  Option.bind (r26_Valid N x0) fun y1 =>
  if (y1 != 0) = true then
    some ([], y1)
  else
    Option.bind (r27_Find_0 N x0 x1 x2) fun y4 =>
    if y4 = true then
      some ([], 2)
    else
      Option.bind (r27_distances N x0 x2) fun y5 =>
      Option.bind (r27_next N x0 y5 (Visit.mk x1 (-1) 0)) fun y6 =>
      if (!y6.2) = true then
        some ([], 15)
      else
        Option.bind (r27_Find_1 N x0 y5 N (Visit.mk x1 (-1) 0) y6.1 []) fun y26 =>
        match y26 with
        | Sum.inl y27 =>
          Option.bind (r27_Visits N y27.2 x2) fun y28 =>
          if y28 = true then
            some ([], 17)
          else
            Option.bind (appI y27.2 ([(Visit.mk x2 y27.1.in_ (-1))] : List Visit)) fun y29 =>
            some (y29, 0)
        | Sum.inr y30 =>
          some ([], y30)
/-! ### slices.Index[[]int,int] -/
def slices_Index_int_int_0 (N : Nat) (x0 : List Int) (x1 : Int) (x7 : Int) : Nat → Int → Option (Sum (Unit) (Int))
  | 0, _ => none
  | n + 1, x8 =>
    if (decide (x8 < x7)) = true then
      Option.bind (getI x0 x8) fun y1 =>
      if (x1 == y1) = true then
        some (Sum.inr x8)
      else
        slices_Index_int_int_0 N x0 x1 x7 n (IntKind.wrap .i64 (x8 + 1))
    else
      some (Sum.inl ())
def slices_Index_int_int (N : Nat) (x0 : List Int) (x1 : Int) : Option Int :=
  Option.bind (slices_Index_int_int_0 N x0 x1 (x0.length : Int) N 0) fun y2 =>
  match y2 with
  | Sum.inl y3 =>
    some (-1)
  | Sum.inr y4 =>
    some y4
/-! ### slices.Contains[[]int,int] -/
def slices_Contains_int_int (N : Nat) (x0 : List Int) (x1 : Int) : Option Bool :=
  Option.bind (slices_Index_int_int N x0 x1) fun y1 =>
  AM.lt (decide (0 ≤ y1)) fun y2 =>
  some y2
/-! ### humpyard/route.way -/
def route_way_0 (N : Nat) (x0 : List PlantElement) (x1 : List Visit) (x5 : Int) : Option Bool :=
  if (decide (x5 < 1)) = true then
    some true
  else
    Option.bind (getI x1 0) fun y2 =>
    Option.bind (route_track N x0 y2.element) fun y3 =>
    if (!y3) = true then
      some true
    else
      Option.bind (getI x1 x5) fun y4 =>
      Option.bind (route_track N x0 y4.element) fun y5 =>
      if (!y5) = true then
        some true
      else
        Option.bind (getI x1 0) fun y6 =>
        if (y6.in_ != (-1)) = true then
          some true
        else
          Option.bind (getI x1 x5) fun y7 =>
          some (y7.out != (-1))
def route_way_1 (N : Nat) (x0 : List PlantElement) (x1 : List Visit) (x5 : Int) : Option Bool :=
  Option.bind (getI x1 0) fun y9 =>
  Option.bind (plant_Ends N x0 y9.element) fun y10 =>
  Option.bind (getI x1 0) fun y11 =>
  Option.bind (slices_Contains_int_int N y10 y11.out) fun y12 =>
  if (!y12) = true then
    some true
  else
    Option.bind (getI x1 x5) fun y13 =>
    Option.bind (plant_Ends N x0 y13.element) fun y14 =>
    Option.bind (getI x1 x5) fun y15 =>
    Option.bind (slices_Contains_int_int N y14 y15.in_) fun y16 =>
    some (!y16)
def route_way_3 (N : Nat) (x0 : List PlantElement) (x7 : Visit) (x8 : Visit) : Option Bool :=
  if (x7.in_ != x8.out) = true then
    some true
  else
    if (decide (x7.element < 0)) = true then
      some true
    else
      Option.bind (plant_Neighbour N x0 x8.element x8.out) fun y21 =>
      some (y21 != x7.element)
def route_way_4 (N : Nat) (x0 : List PlantElement) (x5 : Int) (x6 : Int) (x7 : Visit) : Option Bool :=
  if (decide ((IntKind.wrap .i64 (x6 + 1)) < x5)) = true then
    Option.bind (plant_Through N x0 x7.element x7.in_) fun y23 =>
    Option.bind (slices_Contains_int_int N y23 x7.out) fun y24 =>
    some (!y24)
  else
    some false
def route_way_2 (N : Nat) (x0 : List PlantElement) (x1 : List Visit) (x5 : Int) (x77 : List Visit) (x78 : Int) : Nat → Int → Option (Sum (Unit) (Bool))
  | 0, _ => none
  | n + 1, x79 =>
    if (decide (x79 < x78)) = true then
      Option.bind (getI x77 x79) fun y19 =>
      Option.bind (getI x1 x79) fun y20 =>
      Option.bind (route_way_3 N x0 y19 y20) fun y22 =>
      if y22 = true then
        some (Sum.inr false)
      else
        Option.bind (route_way_4 N x0 x5 x79 y19) fun y25 =>
        if y25 = true then
          some (Sum.inr false)
        else
          route_way_2 N x0 x1 x5 x77 x78 n (IntKind.wrap .i64 (x79 + 1))
    else
      some (Sum.inl ())
def route_way (N : Nat) (x0 : List PlantElement) (x1 : List Visit) : Option Bool :=
  AM.lt (IntKind.wrap .i64 ((x1.length : Int) - 1)) fun y1 =>
  Option.bind (route_way_0 N x0 x1 y1) fun y8 =>
  if y8 = true then
    some false
  else
    Option.bind (route_way_1 N x0 x1 y1) fun y17 =>
    if y17 = true then
      some false
    else
      Option.bind (cutI x1 1 (x1.length : Int)) fun y18 =>
      Option.bind (route_way_2 N x0 x1 y1 y18 (y18.length : Int) N 0) fun y26 =>
      match y26 with
      | Sum.inl y27 =>
        some true
      | Sum.inr y28 =>
        some y28
/-! ### humpyard/route.Valid -/
def route_Valid_0 (N : Nat) (x0 : List PlantElement) (x1 : List Visit) : Option Bool :=
  Option.bind (plant_Valid N x0) fun y1 =>
  if (y1 == 0) = true then
    Option.bind (route_way N x0 x1) fun y2 =>
    if y2 = true then
      Option.bind (route_twice N x1) fun y3 =>
      AM.lt (!y3) fun y4 =>
      some y4
    else
      some false
  else
    some false
def route_Valid (N : Nat) (x0 : List PlantElement) (x1 : List Visit) : Option Bool :=
  Option.bind (route_Valid_0 N x0 x1) fun y5 =>
  some y5
/-! ### humpyard/route.Settings$1 -/
def route_Settings_1_f47 (N : Nat) (x0 : Setting) (x1 : Setting) : Option Int :=
  Option.bind (cmp_Compare_int N x0.element x1.element) fun y1 =>
  some y1
/-! ### humpyard/route.Settings -/
def route_Settings_2 (N : Nat) (x8 : Visit) (x9 : PlantElement) : Option Bool :=
  if (x9.kind == 2) = true then
    if (x8.in_ == x9.b) = true then
      some true
    else
      AM.lt (x8.out == x9.b) fun y6 =>
      some y6
  else
    some false
def route_Settings_1 (N : Nat) (x0 : List PlantElement) (x6 : List Setting) (x14 : List Visit) (x16 : Int) : Option (List Setting) :=
  Option.bind (getI x14 x16) fun y2 =>
  Option.bind (getI x0 y2.element) fun y3 =>
  AM.lt (y3.kind == 3) fun y4 =>
  if y4 = true then
    Option.bind (appI x6 ([(Setting.mk y2.element 3)] : List Setting)) fun y5 =>
    some y5
  else
    Option.bind (route_Settings_2 N y2 y3) fun y7 =>
    if y7 = true then
      Option.bind (appI x6 ([(Setting.mk y2.element 1)] : List Setting)) fun y8 =>
      some y8
    else
      AM.lt (y3.kind == 2) fun y9 =>
      if y9 = true then
        Option.bind (appI x6 ([(Setting.mk y2.element 2)] : List Setting)) fun y10 =>
        some y10
      else
        some x6
def route_Settings_0 (N : Nat) (x0 : List PlantElement) (x14 : List Visit) (x15 : Int) : Nat → (List Setting) → Int → Option (List Setting)
  | 0, _, _ => none
  | n + 1, x6, x16 =>
    if (decide (x16 < x15)) = true then
      Option.bind (route_Settings_1 N x0 x6 x14 x16) fun y11 =>
      route_Settings_0 N x0 x14 x15 n y11 (IntKind.wrap .i64 (x16 + 1))
    else
      some x6
def route_Settings (N : Nat) (x0 : List PlantElement) (x1 : List Visit) : Option (List Setting × Int) :=
  Option.bind (route_Valid N x0 x1) fun y1 =>
  if (!y1) = true then
    some ([], 1)
  else
    Option.bind (route_Settings_0 N x0 x1 (x1.length : Int) N [] 0) fun y12 =>
    Option.bind (@srtI Setting ⟨(Setting.mk 0 0)⟩ (fun (a b : Setting) => cmpI a.element b.element) y12) fun y13 =>
    some (y13, 0)
/-! ### humpyard/humpyardref27.Has -/
def r27_Has_0 (N : Nat) (x0 : List Int) (x1 : Int) : Nat → Int → Option (Sum (Unit) (Bool))
  | 0, _ => none
  | n + 1, x5 =>
    if (decide (x5 < (x0.length : Int))) = true then
      Option.bind (getI x0 x5) fun y1 =>
      if (y1 == x1) = true then
        some (Sum.inr true)
      else
        AM.lt (IntKind.wrap .i64 (x5 + 1)) fun y2 =>
        r27_Has_0 N x0 x1 n y2
    else
      some (Sum.inl ())
def r27_Has (N : Nat) (x0 : List Int) (x1 : Int) : Option Bool :=
  Option.bind (r27_Has_0 N x0 x1 N 0) fun y3 =>
  match y3 with
  | Sum.inl y4 =>
    some false
  | Sum.inr y5 =>
    some y5
/-! ### humpyard/humpyardref27.Valid -/
def r27_Valid_0 (N : Nat) (x0 : List PlantElement) (x1 : List Visit) (x5 : Int) : Option Bool :=
  Option.bind (r26_Valid N x0) fun y2 =>
  if (y2 != 0) = true then
    some true
  else
    if (decide (x5 < 1)) = true then
      some true
    else
      Option.bind (getI x1 0) fun y3 =>
      Option.bind (r27_track N x0 y3.element) fun y4 =>
      if (!y4) = true then
        some true
      else
        Option.bind (getI x1 x5) fun y5 =>
        Option.bind (r27_track N x0 y5.element) fun y6 =>
        if (!y6) = true then
          some true
        else
          Option.bind (getI x1 0) fun y7 =>
          if (y7.in_ != (-1)) = true then
            some true
          else
            Option.bind (getI x1 x5) fun y8 =>
            some (y8.out != (-1))
def r27_Valid_2 (N : Nat) (x0 : List PlantElement) (x1 : List Visit) (x6 : Int) : Option Bool :=
  Option.bind (getI x1 x6) fun y10 =>
  if (decide (y10.element < 0)) = true then
    some true
  else
    Option.bind (getI x1 x6) fun y11 =>
    if (decide ((x0.length : Int) ≤ y11.element)) = true then
      some true
    else
      Option.bind (cutI x1 0 x6) fun y12 =>
      Option.bind (getI x1 x6) fun y13 =>
      Option.bind (r27_Visits N y12 y13.element) fun y14 =>
      some y14
def r27_Valid_3 (N : Nat) (x0 : List PlantElement) (x1 : List Visit) (x5 : Int) (x6 : Int) : Option Bool :=
  if (decide (x6 < x5)) = true then
    Option.bind (getI x1 x6) fun y16 =>
    Option.bind (r26_Ends N x0 y16.element) fun y17 =>
    Option.bind (getI x1 x6) fun y18 =>
    Option.bind (r27_Has N y17 y18.out) fun y19 =>
    if (!y19) = true then
      some true
    else
      Option.bind (getI x1 (IntKind.wrap .i64 (x6 + 1))) fun y20 =>
      Option.bind (getI x1 x6) fun y21 =>
      if (y20.in_ != y21.out) = true then
        some true
      else
        Option.bind (getI x1 (IntKind.wrap .i64 (x6 + 1))) fun y22 =>
        Option.bind (getI x1 x6) fun y23 =>
        Option.bind (getI x1 x6) fun y24 =>
        Option.bind (r26_Neighbour N x0 y23.element y24.out) fun y25 =>
        some (y22.element != y25)
  else
    some false
def r27_Valid_4 (N : Nat) (x0 : List PlantElement) (x1 : List Visit) (x5 : Int) (x6 : Int) : Option Bool :=
  if (decide (0 < x6)) = true then
    if (decide (x6 < x5)) = true then
      Option.bind (getI x1 x6) fun y27 =>
      Option.bind (getI x1 x6) fun y28 =>
      Option.bind (r26_Through N x0 y27.element y28.in_) fun y29 =>
      Option.bind (getI x1 x6) fun y30 =>
      Option.bind (r27_Has N y29 y30.out) fun y31 =>
      some (!y31)
    else
      some false
  else
    some false
def r27_Valid_1 (N : Nat) (x0 : List PlantElement) (x1 : List Visit) (x5 : Int) : Nat → Int → Option (Sum (Unit) (Bool))
  | 0, _ => none
  | n + 1, x6 =>
    if (decide (x6 ≤ x5)) = true then
      Option.bind (r27_Valid_2 N x0 x1 x6) fun y15 =>
      if y15 = true then
        some (Sum.inr false)
      else
        Option.bind (r27_Valid_3 N x0 x1 x5 x6) fun y26 =>
        if y26 = true then
          some (Sum.inr false)
        else
          Option.bind (r27_Valid_4 N x0 x1 x5 x6) fun y32 =>
          if y32 = true then
            some (Sum.inr false)
          else
            AM.lt (IntKind.wrap .i64 (x6 + 1)) fun y33 =>
            r27_Valid_1 N x0 x1 x5 n y33
    else
      some (Sum.inl ())
def r27_Valid (N : Nat) (x0 : List PlantElement) (x1 : List Visit) : Option Bool :=
  AM.lt (IntKind.wrap .i64 ((x1.length : Int) - 1)) fun y1 =>
  Option.bind (r27_Valid_0 N x0 x1 y1) fun y9 =>
  if y9 = true then
    some false
  else
    Option.bind (r27_Valid_1 N x0 x1 y1 N 0) fun y34 =>
    match y34 with
    | Sum.inl y35 =>
      some true
    | Sum.inr y36 =>
      some y36
/-! ### humpyard/humpyardref27.Position -/
def r27_Position_0 (N : Nat) (x3 : Visit) (x5 : PlantElement) : Option Bool :=
  if (x5.kind == 2) = true then
    if (x3.in_ == x5.b) = true then
      some true
    else
      AM.lt (x3.out == x5.b) fun y3 =>
      some y3
  else
    some false
def r27_Position (N : Nat) (x0 : List PlantElement) (x1 : Visit) : Option Int :=
  Option.bind (getI x0 x1.element) fun y1 =>
  AM.lt (y1.kind == 3) fun y2 =>
  if y2 = true then
    some 3
  else
    Option.bind (r27_Position_0 N x1 y1) fun y4 =>
    if y4 = true then
      some 1
    else
      AM.lt (y1.kind == 2) fun y5 =>
      if y5 = true then
        some 2
      else
        some 0
/-! ### humpyard/humpyardref27.Put -/
def r27_Put_1 (N : Nat) (x0 : List Setting) (x3 : Setting) (x5 : Int) : Option Bool :=
  if (decide (0 < x5)) = true then
    Option.bind (getI x0 (IntKind.wrap .i64 (x5 - 1))) fun y2 =>
    some (decide (x3.element ≤ y2.element))
  else
    some false
def r27_Put_0 (N : Nat) (x0 : List Setting) (x3 : Setting) : Nat → Int → Option Int
  | 0, _ => none
  | n + 1, x5 =>
    Option.bind (r27_Put_1 N x0 x3 x5) fun y3 =>
    if y3 = true then
      AM.lt (IntKind.wrap .i64 (x5 - 1)) fun y4 =>
      r27_Put_0 N x0 x3 n y4
    else
      some x5
def r27_Put_2 (N : Nat) (x0 : List Setting) (x3 : Setting) (x5 : Int) : Option Bool :=
  if (decide (x5 < (x0.length : Int))) = true then
    Option.bind (getI x0 x5) fun y6 =>
    some (y6.element == x3.element)
  else
    some false
def r27_Put (N : Nat) (x0 : List Setting) (x1 : Setting) : Option (List Setting) :=
  AM.lt (x0.length : Int) fun y1 =>
  Option.bind (r27_Put_0 N x0 x1 N y1) fun y5 =>
  Option.bind (r27_Put_2 N x0 x1 y5) fun y7 =>
  if y7 = true then
    some x0
  else
    Option.bind (cut3I x0 y5 y5) fun y8 =>
    Option.bind (cutI x0 y5 (x0.length : Int)) fun y9 =>
    Option.bind (appI ([x1] : List Setting) y9) fun y10 =>
    if y10.isEmpty = true then
      none
    else
      Option.bind (appI y8 y10) fun y11 =>
      some y11
/-! ### humpyard/humpyardref27.Settings -/
def r27_Settings_1 (N : Nat) (x0 : List PlantElement) (x1 : List Visit) (x6 : List Setting) (x7 : Int) : Option (List Setting) :=
  Option.bind (getI x1 x7) fun y2 =>
  Option.bind (r27_Position N x0 y2) fun y3 =>
  if (y3 != 0) = true then
    Option.bind (getI x1 x7) fun y4 =>
    Option.bind (r27_Put N x6 (Setting.mk y4.element y3)) fun y5 =>
    some y5
  else
    some x6
def r27_Settings_0 (N : Nat) (x0 : List PlantElement) (x1 : List Visit) : Nat → (List Setting) → Int → Option (List Setting)
  | 0, _, _ => none
  | n + 1, x6, x7 =>
    if (decide (x7 < (x1.length : Int))) = true then
      Option.bind (r27_Settings_1 N x0 x1 x6 x7) fun y6 =>
      AM.lt (IntKind.wrap .i64 (x7 + 1)) fun y7 =>
      r27_Settings_0 N x0 x1 n y6 y7
    else
      some x6
def r27_Settings (N : Nat) (x0 : List PlantElement) (x1 : List Visit) : Option (List Setting × Int) :=
  Option.bind (r27_Valid N x0 x1) fun y1 =>
  if (!y1) = true then
    some ([], 1)
  else
    Option.bind (r27_Settings_0 N x0 x1 N [] 0) fun y8 =>
    some (y8, 0)
/-! ### humpyard/humpyardref29.SameVisits -/
def r29_SameVisits_0 (N : Nat) (x0 : List Visit) (x1 : List Visit) : Nat → Int → Option (Sum (Unit) (Bool))
  | 0, _ => none
  | n + 1, x5 =>
    if (decide (x5 < (x0.length : Int))) = true then
      Option.bind (getI x0 x5) fun y1 =>
      Option.bind (getI x1 x5) fun y2 =>
      if (!(decide (y1 = y2))) = true then
        some (Sum.inr false)
      else
        AM.lt (IntKind.wrap .i64 (x5 + 1)) fun y3 =>
        r29_SameVisits_0 N x0 x1 n y3
    else
      some (Sum.inl ())
def r29_SameVisits (N : Nat) (x0 : List Visit) (x1 : List Visit) : Option Bool :=
  if ((x0.length : Int) != (x1.length : Int)) = true then
    some false
  else
    Option.bind (r29_SameVisits_0 N x0 x1 N 0) fun y4 =>
    match y4 with
    | Sum.inl y5 =>
      some true
    | Sum.inr y6 =>
      some y6
/-! ### humpyard/yardgen.SameVisits -/
def yardgen_SameVisits (N : Nat) (x0 : List Visit) (x1 : List Visit) : Option Bool :=
  Option.bind (r29_SameVisits N x0 x1) fun y1 =>
  some y1
/-! ### humpyard/humpyardref29.SameSettings -/
def r29_SameSettings_0 (N : Nat) (x0 : List Setting) (x1 : List Setting) : Nat → Int → Option (Sum (Unit) (Bool))
  | 0, _ => none
  | n + 1, x5 =>
    if (decide (x5 < (x0.length : Int))) = true then
      Option.bind (getI x0 x5) fun y1 =>
      Option.bind (getI x1 x5) fun y2 =>
      if (!(decide (y1 = y2))) = true then
        some (Sum.inr false)
      else
        AM.lt (IntKind.wrap .i64 (x5 + 1)) fun y3 =>
        r29_SameSettings_0 N x0 x1 n y3
    else
      some (Sum.inl ())
def r29_SameSettings (N : Nat) (x0 : List Setting) (x1 : List Setting) : Option Bool :=
  if ((x0.length : Int) != (x1.length : Int)) = true then
    some false
  else
    Option.bind (r29_SameSettings_0 N x0 x1 N 0) fun y4 =>
    match y4 with
    | Sum.inl y5 =>
      some true
    | Sum.inr y6 =>
      some y6
/-! ### humpyard/yardgen.SameSettings -/
def yardgen_SameSettings (N : Nat) (x0 : List Setting) (x1 : List Setting) : Option Bool :=
  Option.bind (r29_SameSettings N x0 x1) fun y1 =>
  some y1
/-! ### humpyard/humpyardlaw27.exact -/
def l27_exact_0 (N : Nat) (x0 : List PlantElement) (x3 : List Visit) (x9 : List Visit) (x10 : Int) (x11 : List Visit) (x12 : Int) (x13 : List Setting) (x14 : Int) (x15 : List Setting) (x16 : Int) : Option Bool :=
  Option.bind (yardgen_SameVisits N x9 x11) fun y5 =>
  if y5 = true then
    if (x10 == x12) = true then
      Option.bind (route_Valid N x0 x3) fun y6 =>
      Option.bind (r27_Valid N x0 x3) fun y7 =>
      if (y6 == y7) = true then
        Option.bind (yardgen_SameSettings N x13 x15) fun y8 =>
        if y8 = true then
          AM.lt (x14 == x16) fun y9 =>
          some y9
        else
          some false
      else
        some false
    else
      some false
  else
    some false
def l27_exact (N : Nat) (x0 : List PlantElement) (x1 : Int) (x2 : Int) (x3 : List Visit) : Option Bool :=
  Option.bind (route_Find N x0 x1 x2) fun y1 =>
  Option.bind (r27_Find N x0 x1 x2) fun y2 =>
  Option.bind (route_Settings N x0 x3) fun y3 =>
  Option.bind (r27_Settings N x0 x3) fun y4 =>
  Option.bind (l27_exact_0 N x0 x3 y1.1 y1.2 y2.1 y2.2 y3.1 y3.2 y4.1 y4.2) fun y10 =>
  some y10
/-! ### humpyard/humpyardlaw27.small -/
def l27_small (N : Nat) : Option (List PlantElement) :=
  some ([(PlantElement.mk 1 [116, 49] 0 1 0 9), (PlantElement.mk 2 [119] 1 2 3 0), (PlantElement.mk 1 [116, 50] 2 4 0 9), (PlantElement.mk 1 [116, 51] 3 5 0 9)] : List PlantElement)
/-! ### humpyard/humpyardlaw27.sane -/
def l27_sane_0 (N : Nat) (x1 : List Visit) (x2 : Int) (x3 : List Setting) (x4 : Int) (x6 : Int) : Option Bool :=
  if (x2 == 0) = true then
    Option.bind (yardgen_SameVisits N x1 ([(Visit.mk 0 (-1) 1), (Visit.mk 1 1 3), (Visit.mk 3 3 (-1))] : List Visit)) fun y7 =>
    if y7 = true then
      Option.bind (l27_small N) fun y8 =>
      Option.bind (route_Valid N y8 x1) fun y9 =>
      if y9 = true then
        if (x4 == 0) = true then
          Option.bind (yardgen_SameSettings N x3 ([(Setting.mk 1 2)] : List Setting)) fun y10 =>
          if y10 = true then
            AM.lt (x6 == 15) fun y11 =>
            some y11
          else
            some false
        else
          some false
      else
        some false
    else
      some false
  else
    some false
def l27_sane (N : Nat) : Option Bool :=
  Option.bind (l27_small N) fun y1 =>
  Option.bind (route_Find N y1 0 3) fun y2 =>
  Option.bind (l27_small N) fun y3 =>
  Option.bind (route_Settings N y3 y2.1) fun y4 =>
  Option.bind (l27_small N) fun y5 =>
  Option.bind (route_Find N y5 2 3) fun y6 =>
  Option.bind (l27_sane_0 N y2.1 y2.2 y4.1 y4.2 y6.2) fun y12 =>
  some y12
/-! ### humpyard/humpyardlaw27.RouteExact -/
def l27_RouteExact_1 (N : Nat) (x11 : Maker) (x14 : List Visit) (x31 : Bool) : Option (Maker × List Visit) :=
  if x31 = true then
    Option.bind (Maker_Next N x11 (x14.length : Int)) fun y5 =>
    Option.bind (getI x14 y5.1) fun y6 =>
    Option.bind (getI x14 y5.1) fun y7 =>
    Option.bind (getI x14 y5.1) fun y8 =>
    Option.bind (Maker_Pick N y5.2 ([y7.in_, (-1), y8.out] : List Int)) fun y9 =>
    Option.bind (getI x14 y5.1) fun y10 =>
    Option.bind (getI x14 y5.1) fun y11 =>
    Option.bind (Maker_Pick N y9.2 ([y10.out, (-1), y11.in_] : List Int)) fun y12 =>
    Option.bind (getI x14 y5.1) fun y13 =>
    AM.lt (x14.set ((y5.1 : Int).toNat) (Visit.mk y13.element y9.1 y13.out)) fun y14 =>
    Option.bind (getI y14 y5.1) fun y15 =>
    AM.lt (y14.set ((y5.1 : Int).toNat) (Visit.mk y15.element y15.in_ y12.1)) fun y16 =>
    some (y12.2, y16)
  else
    some (x11, x14)
def l27_RouteExact_2 (N : Nat) (x11 : Maker) (x13 : List PlantElement) (x67 : Bool) : Option (Maker × List PlantElement) :=
  if x67 = true then
    Option.bind (yardgen_SpoilPlant N x11 x13) fun y18 =>
    some (y18.2, y18.1)
  else
    some (x11, x13)
def l27_RouteExact_3 (N : Nat) (x4 : List Visit) (x13 : List PlantElement) (x14 : List Visit) (x16 : Int) (x17 : Int) : Option Bool :=
  Option.bind (l27_exact N x13 x16 x17 x14) fun y24 =>
  if (!y24) = true then
    some true
  else
    Option.bind (getI x14 0) fun y25 =>
    Option.bind (getI x14 0) fun y26 =>
    Option.bind (getI x14 (IntKind.wrap .i64 ((x14.length : Int) - 1))) fun y27 =>
    Option.bind (getI x14 (IntKind.wrap .i64 ((x14.length : Int) - 1))) fun y28 =>
    Option.bind (l27_exact N x13 y26.element y28.element x4) fun y29 =>
    some (!y29)
def l27_RouteExact_0 (N : Nat) (x4 : List Visit) : Nat → Maker → Int → Option (Sum (Unit) (Bool))
  | 0, _, _ => none
  | n + 1, x11, x12 =>
    if (decide (x12 < 3)) = true then
      Option.bind (yardgen_Plant N x11 12) fun y2 =>
      Option.bind (yardgen_Walk N y2.2 y2.1) fun y3 =>
      Option.bind (Maker_Next N y3.2 3) fun y4 =>
      Option.bind (l27_RouteExact_1 N y4.2 y3.1 (y4.1 == 0)) fun y17 =>
      Option.bind (l27_RouteExact_2 N y17.1 y2.1 (x12 == 2)) fun y19 =>
      Option.bind (Maker_Next N y19.1 (IntKind.wrap .i64 ((y19.2.length : Int) + 2))) fun y20 =>
      Option.bind (Maker_Next N y20.2 (IntKind.wrap .i64 ((y19.2.length : Int) + 2))) fun y21 =>
      AM.lt (IntKind.wrap .i64 (y20.1 - 1)) fun y22 =>
      AM.lt (IntKind.wrap .i64 (y21.1 - 1)) fun y23 =>
      Option.bind (l27_RouteExact_3 N x4 y19.2 y17.2 y22 y23) fun y30 =>
      if y30 = true then
        some (Sum.inr false)
      else
        AM.lt (IntKind.wrap .i64 (x12 + 1)) fun y31 =>
        l27_RouteExact_0 N x4 n y21.2 y31
    else
      some (Sum.inl ())
def l27_RouteExact_4 (N : Nat) (x1 : List PlantElement) (x2 : Int) (x3 : Int) (x4 : List Visit) : Option Bool :=
  if (decide (60 < (x1.length : Int))) = true then
    some true
  else
    if (decide (100 < (x4.length : Int))) = true then
      some true
    else
      Option.bind (l27_exact N x1 x2 x3 x4) fun y34 =>
      if y34 = true then
        Option.bind (l27_sane N) fun y35 =>
        some y35
      else
        some false
def l27_RouteExact (N : Nat) (x0 : List Int) (x1 : List PlantElement) (x2 : Int) (x3 : Int) (x4 : List Visit) : Option Bool :=
  Option.bind (gen_New N x0) fun y1 =>
  Option.bind (l27_RouteExact_0 N x4 N y1 0) fun y32 =>
  match y32 with
  | Sum.inl y33 =>
    Option.bind (l27_RouteExact_4 N x1 x2 x3 x4) fun y36 =>
    some y36
  | Sum.inr y37 =>
    some y37
end
end Go.W
end
section
set_option linter.unusedVariables false
set_option linter.unusedSimpArgs false
set_option maxRecDepth 100000
set_option maxHeartbeats 1000000
namespace Go.W
open Go.AM Go.Proofs Go.Sort Go.Shelf Go.RowKit Go.Lib
def sortL46_ren : Go.Shelf.Ren := ⟨fun | 6 => 46 | 15 => 61 | 14 => 60 | 28 => 74 | 29 => 75 | 20 => 66 | 21 => 67 | 22 => 68 | 23 => 69 | 24 => 70 | 25 => 71 | 26 => 72 | 27 => 73 | 46 => 76 | 47 => 77 | 48 => 78 | 49 => 79 | 50 => 80 | 57 => 81 | n => n, fun | 22 => 47 | 24 => 52 | 25 => 84 | 3 => 3 | 39 => 97 | 0 => 0 | 53 => 109 | 55 => 111 | 4 => 4 | 46 => 103 | 45 => 102 | 50 => 77 | 5 => 5 | 9 => 9 | 66 => 112 | 70 => 116 | 76 => 118 | 77 => 38 | n => n, fun | n => n⟩
theorem sortL46 : Go.Proofs.SlLaysF0.n6 Try.prog sortL46_ren := {
  mixed := by kernel_rfl,
  f6 := ⟨Try.f46.name, by decide, Try.func46.trans (congrArg some (by kernel_rfl))⟩,
  f14 := ⟨Try.f60.name, by decide, Try.func60.trans (congrArg some (by kernel_rfl))⟩,
  f15 := Try.func61.trans (congrArg some (by kernel_rfl)),
  f20 := ⟨Try.f66.name, by decide, Try.func66.trans (congrArg some (by kernel_rfl))⟩,
  f21 := ⟨Try.f67.name, by decide, Try.func67.trans (congrArg some (by kernel_rfl))⟩,
  f22 := ⟨Try.f68.name, by decide, Try.func68.trans (congrArg some (by kernel_rfl))⟩,
  f23 := ⟨Try.f69.name, by decide, Try.func69.trans (congrArg some (by kernel_rfl))⟩,
  f24 := ⟨Try.f70.name, by decide, Try.func70.trans (congrArg some (by kernel_rfl))⟩,
  f25 := ⟨Try.f71.name, by decide, Try.func71.trans (congrArg some (by kernel_rfl))⟩,
  f26 := ⟨Try.f72.name, by decide, Try.func72.trans (congrArg some (by kernel_rfl))⟩,
  f27 := ⟨Try.f73.name, by decide, Try.func73.trans (congrArg some (by kernel_rfl))⟩,
  f28 := Try.func74.trans (congrArg some (by kernel_rfl)),
  f29 := Try.func75.trans (congrArg some (by kernel_rfl)),
  f46 := ⟨Try.f76.name, by decide, Try.func76.trans (congrArg some (by kernel_rfl))⟩,
  f47 := Try.func77.trans (congrArg some (by kernel_rfl)),
  f48 := Try.func78.trans (congrArg some (by kernel_rfl)),
  f49 := ⟨Try.f79.name, by decide, Try.func79.trans (congrArg some (by kernel_rfl))⟩,
  f50 := ⟨Try.f80.name, by decide, Try.func80.trans (congrArg some (by kernel_rfl))⟩,
  f57 := ⟨Try.f81.name, by decide, Try.func81.trans (congrArg some (by kernel_rfl))⟩,
  t0 := Try.underlying0,
  a0 := Try.isAgg0,
  z0 := Try.sizeOf0,
  v0 := Try.zeroValue0,
  t3 := Try.underlying3,
  a3 := Try.isAgg3,
  z3 := Try.sizeOf3,
  v3 := Try.zeroValue3,
  t4 := Try.underlying4,
  a4 := Try.isAgg4,
  z4 := Try.sizeOf4,
  v4 := Try.zeroValue4,
  t5 := Try.underlying5,
  a5 := Try.isAgg5,
  z5 := Try.sizeOf5,
  v5 := Try.zeroValue5,
  t9 := Try.underlying9,
  a9 := Try.isAgg9,
  z9 := Try.sizeOf9,
  v9 := Try.zeroValue9,
  t22 := Try.underlying47,
  a22 := Try.isAgg47,
  z22 := Try.sizeOf47,
  v22 := Try.zeroValue47,
  t25 := Try.underlying84,
  a25 := Try.isAgg84,
  z25 := Try.sizeOf84,
  v25 := Try.zeroValue84,
  t39 := Try.underlying97,
  a39 := Try.isAgg97,
  z39 := Try.sizeOf97,
  v39 := Try.zeroValue97,
  t45 := Try.underlying102,
  a45 := Try.isAgg102,
  z45 := Try.sizeOf102,
  v45 := Try.zeroValue102,
  t46 := Try.underlying103,
  a46 := Try.isAgg103,
  z46 := Try.sizeOf103,
  v46 := Try.zeroValue103,
  t50 := Try.underlying77,
  a50 := Try.isAgg77,
  z50 := Try.sizeOf77,
  v50 := Try.zeroValue77,
  t53 := Try.underlying109,
  a53 := Try.isAgg109,
  z53 := Try.sizeOf109,
  v53 := Try.zeroValue109,
  t55 := Try.underlying111,
  a55 := Try.isAgg111,
  z55 := Try.sizeOf111,
  v55 := Try.zeroValue111,
  t66 := Try.underlying112,
  a66 := Try.isAgg112,
  z66 := Try.sizeOf112,
  v66 := Try.zeroValue112,
  t70 := Try.underlying116,
  a70 := Try.isAgg116,
  z70 := Try.sizeOf116,
  v70 := Try.zeroValue116,
  t76 := Try.underlying118,
  a76 := Try.isAgg118,
  z76 := Try.sizeOf118,
  v76 := Try.zeroValue118,
  t77 := Try.underlying38,
  a77 := Try.isAgg38,
  z77 := Try.sizeOf38,
  v77 := Try.zeroValue38 }
def cmpL48_ren : Go.Shelf.Ren := ⟨fun | 5 => 48 | 7 => 62 | n => n, fun | 22 => 3 | 3 => 3 | 4 => 4 | n => n, fun | n => n⟩
theorem cmpL48 : Go.Proofs.SlLaysC2.n5 Try.prog cmpL48_ren := {
  mixed := by kernel_rfl,
  f5 := ⟨Try.f48.name, by decide, Try.func48.trans (congrArg some (by kernel_rfl))⟩,
  f7 := ⟨Try.f62.name, by decide, Try.func62.trans (congrArg some (by kernel_rfl))⟩,
  t3 := Try.underlying3,
  a3 := Try.isAgg3,
  z3 := Try.sizeOf3,
  v3 := Try.zeroValue3,
  t4 := Try.underlying4,
  a4 := Try.isAgg4,
  z4 := Try.sizeOf4,
  v4 := Try.zeroValue4,
  t22 := Try.underlying3,
  a22 := Try.isAgg3,
  z22 := Try.sizeOf3,
  v22 := Try.zeroValue3 }
set_option maxHeartbeats 1000000 in
theorem clos47 (x y : Setting) (W : World) : Calls Try.prog 47 #[.agg #[.int .i64 x.element, .int .i64 x.position], .agg #[.int .i64 y.element, .int .i64 y.position]] W fun e w' => e = .returned (.int .i64 (cmpI x.element y.element)) ∧ ∃ q os', w' = grow (W.drewN q) os' := by
  have hcon := fun W' => AnyG.cmp_Compare_int cmpL48 x.element y.element W'
  change ∀ W', Calls Try.prog 48 _ _ _ at hcon
  unfold cmpI
  generalize Lib.compareInt x.element y.element = r at hcon ⊢
  go_enter Try.func47, Try.ntmps47
  go_wp2_with (go_at_call 48; refine (hcon _).mono ?_; rintro e w' ⟨rfl, rfl⟩)
  go_ret
  exact ⟨rfl, 0, _, by rw [alloc_eq_grow, alloc_eq_grow, grow_grow]; rfl⟩
end Go.W
end
