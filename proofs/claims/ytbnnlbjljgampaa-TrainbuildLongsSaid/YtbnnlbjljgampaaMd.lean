/- AmXD AmXE AmXF WM -/
import Derived.Test.YtbnnlbjljgampaaMc
section
set_option linter.unusedSimpArgs false
set_option linter.unusedVariables false
namespace Go.AM
/-- A function, as data. 'rcv': the slot and type of the pointer it may write through; 'rk': 1 it leaves it alone, 2 it turns it. -/
structure FD (D : Nat → Type) where
  f : Nat
  np : Nat
  ins : List It
  fx : List (Nat × SV D)
  rcv : Option (Nat × Nat)
  rk : Nat
  outs : List It
  ofx : List (Nat × SV D)
  rvs : List ResultVar
  flat : Bool
/-- Results that lie in memory are looked up at the end, as if they were slots from here on. -/
def VB : Nat := 1000000
def resOf : Nat → List ResultVar → List Nat
  | _, [] => []
  | n, .tmp d :: rs => d :: resOf (n + 1) rs
  | n, .cell _ _ :: rs => n :: resOf (n + 1) rs
def FD.res {D : Nat → Type} (d : FD D) : List Nat := resOf VB d.rvs
noncomputable section
section
variable {P : Program} {D : Nat → Type}
def loadB (P : Program) (t : Nat) (a : SV D) (O : List (Ob D)) : Option (SV D) :=
  match a with
  | .box i off =>
    match O[i]? with
    | some (.box _ cs _ _) => loadC (P := P) t cs off some
    | some (.recv _ cs _) => loadC (P := P) t cs off some
    | _ => none
  | _ => none
def rvE (P : Program) (E : List (Nat × SV D)) (O : List (Ob D)) : Nat → List ResultVar → Option (List (Nat × SV D))
  | _, [] => some []
  | n, .tmp d :: rs => if Nat.blt d VB = true then rvE P E O (n + 1) rs else none
  | n, .cell a t :: rs => match loadB P t (lkE E a) O, rvE P E O (n + 1) rs with | some V, some l => some ((n, V) :: l) | _, _ => none
def rT (D : Nat → Type) : Option (Nat × Nat) → Type
  | none => Unit
  | some p => D p.2
def FD.F (d : FD D) : Type := rT D d.rcv → inT D d.ins → Option (outT D d.outs)
variable (X : Ev P D)
/-- The objects, the slots that a call starts with. -/
def rO : (c : Option (Nat × Nat)) → rT D c → List (Ob D)
  | none, _ => []
  | some p, x => [.recv p.2 (lvX X p.2 x) false]
def rE : Option (Nat × Nat) → List (Nat × SV D)
  | none => []
  | some p => [(p.1, .box 0 0)]
def rks (d : FD D) : List Nat := match d.rcv with | none => [] | some _ => [d.rk]
def FD.xx (d : FD D) : Ex D := ⟨.ret, d.outs, d.ofx⟩
def retK (d : FD D) (ex : AExit) (E : List (Nat × SV D)) (O : List (Ob D)) : Option (outT D d.outs) :=
  if ex = .normal ∨ ex = .ret then Option.bind (rvE P E O VB d.rvs) fun l => rdX X (rks d).length (rks d) d.xx (l ++ E) O else none
def enumE : Nat → List (SV D) → List (Nat × SV D)
  | _, [] => []
  | i, s :: l => (i, s) :: enumE (i + 1) l
def tupE (E : List (Nat × SV D)) : List Nat → Option (List (CV D ⊕ (Nat × List (CV D))))
  | [] => some []
  | d :: ds =>
    match lkE E d, tupE E ds with
    | .c c, some l => some (.inl c :: l)
    | .agg t cs, some l => some (.inr (t, cs) :: l)
    | _, _ => none
def resE (E : List (Nat × SV D)) : List Nat → Option (SV D)
  | [d] => some (lkE E d)
  | ds => match tupE E ds with | some l => some (.tup l) | none => none
def flatC : CV D → Option Value
  | .int k n => some (.int k n)
  | .bool b => some (.bool b)
  | .str s => some (AM.str s)
  | _ => none
def flatL : List (CV D) → Option (List Value)
  | [] => some []
  | c :: cs => match flatC c, flatL cs with | some v, some l => some (v :: l) | _, _ => none
def flatT : List (CV D ⊕ (Nat × List (CV D))) → Option (List Value)
  | [] => some []
  | .inl c :: l => (match flatC c, flatT l with | some v, some vs => some (v :: vs) | _, _ => none)
  | .inr p :: l => (match flatL p.2, flatT l with | some ds, some vs => some (.agg ds.toArray :: vs) | _, _ => none)
def flatS : SV D → Option Value
  | .c c => flatC c
  | .agg _ cs => (match flatL cs with | some ds => some (.agg ds.toArray) | none => none)
  | .tup l => (match flatT l with | some vs => some (.tuple vs.toArray) | none => none)
  | _ => none
/-- The receiver's contents; what it turns to. -/
def rcvG (t : Nat) : Option (Ob D) → Option (D t)
  | some (.box t' cs false _) => if t' = t then pkX X t cs else none
  | some (.recv t' cs _) => if t' = t then pkX X t cs else none
  | _ => none
def rcvP (t : Nat) (cs : List (CV D)) : Ob D → Ob D
  | .box _ _ _ _ => .box t cs false true
  | _ => .recv t cs true
def newOk : List It → Bool
  | [] => true
  | .o _ (.recv _) :: _ => false
  | .o _ (.bx _ _) :: _ => false
  | _ :: its => newOk its
/-- What stands for a call. -/
def num1 (i N j : Nat) : Nat := if Nat.beq j 0 = true then i else N + (j - 1)
def goCall (outs : List It) (ofx : List (Nat × SV D)) (res : List Nat) (flat : Bool) (rk : Nat) (svs : List (SV D)) (O O1 : List (Ob D)) {ρ : Type} (K : SV D → List (Ob D) → Option ρ) : (rcv : Option (Nat × Nat)) → (rT D rcv → Option (outT D outs)) → Option ρ
  | none, G =>
    Option.bind (G ()) fun y =>
      match resE (mkE X outs (ofOut _ y) ++ ofx.map fun q => (q.1, rnS (fun j => O1.length + j) q.2)) res with
      | some sv => if flat = true then (match flatS sv with | some _ => K sv O | none => none) else K sv (O1 ++ mkO X outs (ofOut _ y))
      | none => none
  | some p, G =>
    match lkE (enumE 0 svs) p.1 with
    | .box i 0 =>
      match O1[i]? with
      | some o =>
        Option.bind (rcvG X p.2 (some o)) fun r =>
        Option.bind (G r) fun y =>
          match resE (mkE X outs (ofOut _ y) ++ ofx.map fun q => (q.1, rnS (num1 i O1.length) q.2)) res with
          | some sv =>
            if rk = 2 then
              match updOf X idN outs (ofOut _ y) 0 with
              | .recv t cs _ => if t = p.2 then K sv (O1.set i (rcvP p.2 cs o) ++ mkO X outs (ofOut _ y)) else none
              | _ => none
            else if rk = 1 then (if o.clean = true then K sv (O1 ++ mkO X outs (ofOut _ y)) else K sv (O1.set i (rcvP p.2 (lvX X p.2 r) o) ++ mkO X outs (ofOut _ y))) else none
          | none => none
      | none => none
    | _ => none
def FD.call (d : FD D) (F : d.F) (svs : List (SV D)) (O : List (Ob D)) {ρ : Type} (K : SV D → List (Ob D) → Option ρ) : Option ρ :=
  if Nat.beq svs.length d.np = true then
    match frzA (enumE 0 svs) d.ins O with
    | some (as, O1) =>
      if (d.fx.all fun p => fxT [] p.2 (lkE (enumE 0 svs) p.1)) = true then
        match rdB X [] O1 d.ins as [] with
        | some x => goCall X d.outs d.ofx d.res d.flat d.rk svs O O1 K d.rcv fun r => F r x
        | none => none
      else none
    | none => none
  else none
end
section
variable {P : Program} {D : Nat → Type} {X : Ev P D} {z z1 z2 : Nat → Blk} {e m m1 : Mem} {k q : Option Nat} {vs : List Value} {fr : Nat → Value} {E : List (Nat × SV D)} {O O' : List (Ob D)}
/-- What a call leaves of the caller's objects. -/
theorem Mm.call (h : Mm X.G O z1 e m k vs) (hz : Zx m.next z1 z2) (s : Same m m1 q) (st : St z2 e m1 k) (hl : O'.length = O.length)
    (ho : ∀ (j : Nat) (o' : Ob D), O'[j]? = some o' → (O[j]? = some o' ∧ (o'.live = true → ∀ v, vs[j]? = some v → Ap (blkV v) q)) ∨ (∃ o, O[j]? = some o ∧ o.live = true ∧ ∀ v, vs[j]? = some v → ObOk X.G z2 e m1 k vs o' v)) : Mm X.G O' z2 e m1 k vs where
  st := st
  len := by rw [hl]; exact h.len
  obj := fun j o' v hj hv => by
    rcases ho j o' hj with ⟨h1, h2⟩ | ⟨o, h1, h2, h3⟩
    · have hob := h.obj j o' v h1 hv
      cases hL : o'.live with
      | false => exact hob.frozen hL hz.le fun _ _ h => h
      | true => exact (hob.same s (fun _ => h2 hL v hv) fun _ _ h => h).zle hz.le fun _ b hb => hz.low b (hob.lt hL b hb).1
    · exact h3 v hv
  ap := fun a b o p v w hab ha hb la lb hv hw => by
    have key : ∀ (j : Nat) (o' : Ob D), O'[j]? = some o' → o'.live = true → ∃ o, O[j]? = some o ∧ o.live = true := by
      intro j o' hj hl
      rcases ho j o' hj with ⟨h1, _⟩ | ⟨o, h1, h2, _⟩
      · exact ⟨o', h1, hl⟩
      · exact ⟨o, h1, h2⟩
    obtain ⟨o1, g1, g2⟩ := key a o ha la
    obtain ⟨o2, g3, g4⟩ := key b p hb lb
    exact h.ap a b o1 o2 v w hab g1 g3 g2 g4 hv hw
/-- Several new objects. -/
theorem Mm.adds {N : List (Ob D)} {nv : List Value} {lim : Nat} (h : Mm X.G O z e m k vs) (hl : nv.length = N.length)
    (hlt : ∀ (j : Nat) (o : Ob D) (v : Value), O[j]? = some o → vs[j]? = some v → o.live = true → ∀ b, blkV v = some b → b < lim)
    (hn : ∀ (j : Nat) (o : Ob D) (v : Value), N[j]? = some o → nv[j]? = some v → ObOk X.G z e m k (vs ++ nv) o v ∧ ∀ b, blkV v = some b → lim ≤ b)
    (ha : ∀ (i j : Nat) (o p : Ob D) (v w : Value), i ≠ j → N[i]? = some o → N[j]? = some p → nv[i]? = some v → nv[j]? = some w → Ap (blkV v) (blkV w)) : Mm X.G (O ++ N) z e m k (vs ++ nv) := by
  have cs : ∀ (j : Nat) (o : Ob D) (v : Value), (O ++ N)[j]? = some o → (vs ++ nv)[j]? = some v → (j < O.length ∧ O[j]? = some o ∧ vs[j]? = some v) ∨ (O.length ≤ j ∧ N[j - O.length]? = some o ∧ nv[j - O.length]? = some v) := by
    intro j o v ho hv
    by_cases hj : j < O.length
    · rw [List.getElem?_append_left hj] at ho
      rw [List.getElem?_append_left (by rw [h.len]; exact hj)] at hv
      exact .inl ⟨hj, ho, hv⟩
    · rw [List.getElem?_append_right (by omega)] at ho
      rw [List.getElem?_append_right (by rw [h.len]; omega), h.len] at hv
      exact .inr ⟨by omega, ho, hv⟩
  refine ⟨h.st, by rw [List.length_append, List.length_append, h.len, hl], fun j o v ho hv => ?_, fun i j o p v w hij ho hp lo lp hv hw => ?_⟩
  · rcases cs j o v ho hv with ⟨_, h1, h2⟩ | ⟨_, h1, h2⟩
    · exact (h.obj j o v h1 h2).same (m' := m) (q := none) ⟨Nat.le_refl _, h.st.dead, fun _ _ _ => rfl⟩ (fun _ => Ap.none') ext_get
    · exact (hn _ o v h1 h2).1
  · have mix : ∀ (i j : Nat) (o p : Ob D) (v w : Value), O[i]? = some o → vs[i]? = some v → o.live = true → N[j]? = some p → nv[j]? = some w → Ap (blkV v) (blkV w) := by
      intro i j o p v w ho hv lo hp hw b hb hb'
      have := hlt i o v ho hv lo b hb
      have := (hn j p w hp hw).2 b hb'
      omega
    rcases cs i o v ho hv with ⟨_, h1, h2⟩ | ⟨_, h1, h2⟩
    · rcases cs j p w hp hw with ⟨_, h3, h4⟩ | ⟨_, h3, h4⟩
      · exact h.ap i j o p v w hij h1 h3 lo lp h2 h4
      · exact mix i _ o p v w h1 h2 lo h3 h4
    · rcases cs j p w hp hw with ⟨_, h3, h4⟩ | ⟨_, h3, h4⟩
      · exact (mix j _ p o w v h3 h4 lp h1 h2).symm
      · exact ha _ _ o p v w (by omega) h1 h3 h2 h4
theorem newOk_at : ∀ {its : List It} {x : inT D its} {o : Ob D}, newOk its = true → o ∈ mkO X its x → ∃ c y, o = OC.mk X c y false ∧ (∀ t, c ≠ .recv t) ∧ ∀ t l, c ≠ .bx t l
  | [], _, _, _, h => by simp [mkO] at h
  | .v d c :: its, x, o, hn, h => newOk_at (its := its) (x := x.2) hn h
  | .u d c :: its, x, o, hn, h => newOk_at (its := its) (x := x.2) hn h
  | .o d c :: its, x, o, hn, h => by
    simp only [mkO, List.mem_cons] at h
    have hn' : ((∀ t, c ≠ .recv t) ∧ ∀ t l, c ≠ .bx t l) ∧ newOk its = true := by
      cases c with
      | recv t => cases hn
      | bx t l => cases hn
      | _ => exact ⟨⟨fun t h => (by cases h), fun t l h => (by cases h)⟩, hn⟩
    rcases h with rfl | h
    · exact ⟨c, x.1, rfl, hn'.1⟩
    · exact newOk_at (its := its) (x := x.2) hn'.2 h
/-- A new object of a call is a new object of its caller's. -/
theorem born {c : OC} {x : c.ty D} {w : Bool} {v : Value} {kk : Option Nat} {ws : List Value} (hc : (∀ t, c ≠ .recv t) ∧ ∀ t l, c ≠ .bx t l) (he : e.next ≤ m.next) (h : ObOk X.G z m m1 kk ws (OC.mk X c x w) v) : ObOk X.G z e m1 k vs (OC.mk X c x w) v ∧ ∀ b, blkV v = some b → m.next ≤ b := by
  cases c with
  | recv t => exact absurd rfl (hc.1 t)
  | bx t l => exact absurd rfl (hc.2 t l)
  | sl t =>
    have h : OwF (X.G.T t) z m m1 kk x v := h
    refine ⟨(⟨h.ow, fun b hb => Nat.le_trans he (h.fresh b hb)⟩ : OwF (X.G.T t) z e m1 k x v), ?_⟩
    rw [blkV_of (by obtain ⟨a, c, rfl⟩ := h.ow.len; intro r; simp)]
    exact h.fresh
  | box t =>
    obtain ⟨b, ds, rfl, h1, h2, h3⟩ := h
    exact ⟨⟨b, ds, rfl, ⟨h1.blk, h1.lt, h1.dead, .inl (Nat.le_trans he h2)⟩, Nat.le_trans he h2, lvX_vs h3⟩, fun c hc => by cases hc; exact h2⟩
  | arr t u n =>
    obtain ⟨⟨b, rfl⟩, h⟩ := h
    exact ⟨⟨⟨b, rfl⟩, h.ow, fun b hb => Nat.le_trans he (h.fresh b hb)⟩, fun c hc => h.fresh c hc⟩
  | map t kt vt =>
    have h : OwM (X.G.M t kt vt) z m m1 kk x v := h
    obtain ⟨r, rfl, h1, h2, h3, h4⟩ := h.ow
    exact ⟨(⟨⟨r, rfl, h1, h2, h3, Nat.le_trans he h4⟩⟩ : OwM (X.G.M t kt vt) z e m1 k x _), fun c hc => by cases hc; exact h4⟩
/-! ### Results -/
theorem tupE_ok : ∀ {res : List Nat} {l : List (CV D ⊕ (Nat × List (CV D)))}, Rl X z vs E fr → tupE E res = some l → L2 (relT X.G z vs) l (res.map fr) ∧ ∀ x ∈ res.map fr, storable x = true
  | [], l, hE, h => by cases h; exact ⟨trivial, by simp⟩
  | d :: ds, l, hE, h => by
    simp only [tupE] at h
    have hd := hE d
    split at h
    · rename_i c l1 hc hl
      cases h
      rw [hc] at hd
      obtain ⟨g1, g2⟩ := tupE_ok hE hl
      refine ⟨⟨hd, g1⟩, fun x hx => ?_⟩
      rcases List.mem_cons.1 hx with rfl | hx
      · exact (rel0.stor hd).1
      · exact g2 x hx
    · rename_i t cs l1 hc hl
      cases h
      rw [hc] at hd
      obtain ⟨g1, g2⟩ := tupE_ok hE hl
      refine ⟨⟨hd, g1⟩, fun x hx => ?_⟩
      rcases List.mem_cons.1 hx with rfl | hx
      · obtain ⟨ds, hd, _⟩ := hd; rw [hd]; rfl
      · exact g2 x hx
    · cases h
theorem resE_ok {res : List Nat} {sv : SV D} (hE : Rl X z vs E fr) (h : resE E res = some sv) : rel X.G z vs sv (pack (res.map fr)) ∧ ((res.map fr).length = 1 ∨ ∀ x ∈ res.map fr, storable x = true) := by
  unfold resE at h
  split at h
  · cases h; exact ⟨hE _, .inl rfl⟩
  · rename_i ds hds
    split at h
    · rename_i l hl
      cases h
      obtain ⟨g1, g2⟩ := tupE_ok hE hl
      refine ⟨?_, .inr g2⟩
      have : pack (res.map fr) = .tuple (res.map fr).toArray := by
        unfold pack
        split
        · rename_i x hx
          match res, hds, hx with
          | [d], hds, _ => exact absurd rfl (hds d)
        · rfl
      rw [this]
      exact ⟨_, rfl, g1⟩
    · cases h
theorem results_tmp {res : List Nat} : resultsR P fr m (res.map .tmp) (res.map fr) := by
  induction res with
  | nil => trivial
  | cons d ds ih => exact ⟨rfl, ih⟩
theorem flatC_ok {c : CV D} {v w : Value} (h : flatC c = some w) (hr : rel0 X.G z vs c v) : v = w ∧ flat0 w = true := by
  cases c <;> first | (cases h; done) | (cases h; exact ⟨hr, rfl⟩)
theorem flatL_ok : ∀ {cs : List (CV D)} {ds ws : List Value}, flatL cs = some ws → L2 (rel0 X.G z vs) cs ds → ds = ws ∧ ws.all flat0 = true
  | [], [], _, h, _ => by cases h; exact ⟨rfl, rfl⟩
  | c :: cs, d :: ds, ws, h, ⟨h1, h2⟩ => by
    simp only [flatL] at h
    split at h
    · rename_i v l hv hl
      cases h
      obtain ⟨rfl, g1⟩ := flatC_ok hv h1
      obtain ⟨rfl, g2⟩ := flatL_ok hl h2
      exact ⟨rfl, by simp only [List.all_cons, g1, g2, Bool.and_self]⟩
    · cases h
  | [], _ :: _, _, _, h => h.elim
  | _ :: _, [], _, _, h => h.elim
theorem flatT_ok : ∀ {l : List (CV D ⊕ (Nat × List (CV D)))} {ds ws : List Value}, flatT l = some ws → L2 (relT X.G z vs) l ds → ds = ws ∧ ws.all flat1 = true
  | [], [], _, h, _ => by cases h; exact ⟨rfl, rfl⟩
  | .inl c :: l, d :: ds, ws, h, ⟨h1, h2⟩ => by
    simp only [flatT] at h
    split at h
    · rename_i v l1 hv hl
      cases h
      obtain ⟨rfl, g1⟩ := flatC_ok hv h1
      obtain ⟨rfl, g2⟩ := flatT_ok hl h2
      have : flat1 d = true := by cases d <;> first | exact g1 | cases g1
      exact ⟨rfl, by simp only [List.all_cons, this, g2, Bool.and_self]⟩
    · cases h
  | .inr p :: l, d :: ds, ws, h, ⟨⟨cs, h0, h1⟩, h2⟩ => by
    simp only [flatT] at h
    split at h
    · rename_i v l1 hv hl
      cases h
      obtain ⟨rfl, g1⟩ := flatL_ok hv h1
      obtain ⟨rfl, g2⟩ := flatT_ok hl h2
      subst h0
      exact ⟨rfl, by simp only [List.all_cons, g2, Bool.and_true]; exact g1⟩
    · cases h
  | [], _ :: _, _, _, h => h.elim
  | _ :: _, [], _, _, h => h.elim
theorem flatS_ok {s : SV D} {v w : Value} (h : flatS s = some w) (hr : rel X.G z vs s v) : v = w ∧ AM.flat w = true := by
  unfold flatS at h
  split at h
  · obtain ⟨rfl, g⟩ := flatC_ok h hr
    refine ⟨rfl, ?_⟩
    cases v <;> first | exact g | cases g
  · split at h
    · rename_i ds hd
      cases h
      obtain ⟨es, rfl, h2⟩ := hr
      obtain ⟨rfl, g⟩ := flatL_ok hd h2
      exact ⟨rfl, g⟩
    · cases h
  · split at h
    · rename_i ws hd
      cases h
      obtain ⟨es, rfl, h2⟩ := hr
      obtain ⟨rfl, g⟩ := flatT_ok hd h2
      exact ⟨rfl, g⟩
    · cases h
  · cases h
/-! ### The body -/
def rIns : Option (Nat × Nat) → List It
  | none => []
  | some p => [.o p.1 (.recv p.2)]
def rX : (c : Option (Nat × Nat)) → rT D c → inT D (rIns c)
  | none, _ => ()
  | some _, r => (r, ())
theorem rO_eq (c : Option (Nat × Nat)) (r : rT D c) : mkO X (rIns c) (rX c r) = rO X c r := by cases c <;> rfl
theorem rO_len {c : Option (Nat × Nat)} {r : rT D c} {n : Nat} : (match c with | none => [] | some _ => [n]).length = (rO X c r).length := by cases c <;> rfl
theorem rks_len {d : FD D} {r : rT D d.rcv} : (rO X d.rcv r).length = (rks d).length := by
  unfold rks
  rw [← rO_len (X := X) (r := r) (n := d.rk)]
/-- What the body of a function leads to. -/
def PostF (X : Ev P D) (d : FD D) (r : rT D d.rcv) (y : outT D d.outs) (z : Nat → Blk) (m : Mem) (kk : Option Nat) (vs0 : List Value) (ex : AExit) (fr' : Nat → Value) (m1 : Mem) : Prop :=
  (ex = .normal ∨ ex = .ret) ∧ ∃ fr2, resultsR P fr' m1 d.rvs (d.res.map fr2) ∧ ∃ z2 nv, Zx m.next z z2 ∧ Mm X.G (postO X (rks d) (rO X d.rcv r) d.outs (ofOut _ y)) z2 m m1 kk (vs0 ++ nv) ∧ ∀ q ∈ mkE X d.outs (ofOut _ y) ++ d.ofx, rel X.G z2 (vs0 ++ nv) q.2 (fr2 q.1)
def FC (X : Ev P D) (B : Code) (d : FD D) (F : d.F) : Prop := ∀ (r : rT D d.rcv) (x : inT D d.ins) (y : outT D d.outs) {z : Nat → Blk} {m : Mem} {kk : Option Nat} {vs0 : List Value} {fr : Nat → Value},
  F r x = some y → Mm X.G (rO X d.rcv r) z m m kk vs0 → Rl X z vs0 (mkE X d.ins x ++ (d.fx ++ rE d.rcv)) fr → W P B (PostF X d r y z m kk vs0) fr m
theorem loadB_ok {t : Nat} {a : SV D} {V : SV D} {v : Value} (hM : Mm X.G O z e m k vs) (ha : rel X.G z vs a v) (h : loadB P t a O = some V) : ∃ b off w, v = .pointer (some ⟨b, off, none⟩) ∧ rel X.G z vs V w ∧ ∃ d, P.underlying t = some d ∧
    (if aggT d = true then ∃ i cs, P.info? t = some i ∧ rdN m b off i.size = some cs ∧ w = .agg cs.toArray else m.load b off = some w) := by
  have fin : ∀ {b n : Nat} {cs : List (CV D)} {ds : List Value}, (∀ (j : Nat) (w : Value), ds[j]? = some w → m.load b (0 + j) = some w) → L2 (rel0 X.G z vs) cs ds → loadC (P := P) t cs n some = some V → ∃ w, rel X.G z vs V w ∧ ∃ d, P.underlying t = some d ∧ (if aggT d = true then ∃ i cs, P.info? t = some i ∧ rdN m b n i.size = some cs ∧ w = .agg cs.toArray else m.load b n = some w) := by
    intro b n cs ds hc hr h
    unfold loadC at h
    split at h
    · cases h
    · rename_i d hd
      split at h
      · rename_i hag
        split at h
        · cases h
        · rename_i i hi
          split at h
          · rename_i hlen
            cases h
            have hr' : L2 (rel0 X.G z vs) ((cs.drop n).take i.size) ((ds.drop n).take i.size) := L2.take _ (L2.drop _ hr)
            have hl2 : ((ds.drop n).take i.size).length = i.size := by rw [← hr'.length]; exact hlen
            refine ⟨.agg ((ds.drop n).take i.size).toArray, ⟨_, rfl, hr'⟩, d, hd, ?_⟩
            rw [if_pos hag]
            refine ⟨i, _, hi, rdN_of _ _ _ hl2 fun j w hj => ?_, rfl⟩
            rw [List.getElem?_take] at hj
            split at hj
            · rw [List.getElem?_drop] at hj
              have := hc _ w hj
              rwa [Nat.zero_add] at this
            · cases hj
          · cases h
      · rename_i hag
        split at h
        · rename_i c hcs
          cases h
          obtain ⟨w, hw, hrw⟩ := hr.get n c hcs
          refine ⟨w, hrw, d, hd, ?_⟩
          rw [if_neg hag]
          have := hc n w hw
          rwa [Nat.zero_add] at this
        · cases h
  unfold loadB at h
  split at h
  · rename_i i off
    obtain ⟨b, hv, hx⟩ := ha
    split at h
    · rename_i u cs fz w1 hO
      have hob := hM.obj i _ _ hO hv
      cases fz with
      | true =>
        obtain ⟨b', ds, he, hc, hr⟩ := hob
        cases he
        obtain ⟨w, h1, h2⟩ := fin (b := b) (hM.st.loads hc) hr h
        exact ⟨b, off, w, hx, h1, h2⟩
      | false =>
        obtain ⟨b', ds, he, hb, _, hr⟩ := hob
        cases he
        obtain ⟨w, h1, h2⟩ := fin (b := b) hb.loads hr h
        exact ⟨b, off, w, hx, h1, h2⟩
    · rename_i u cs w1 hO
      obtain ⟨b', ds, he, hb, hr⟩ := hM.obj i _ _ hO hv
      cases he
      obtain ⟨w, h1, h2⟩ := fin (b := b) hb.loads hr h
      exact ⟨b, off, w, hx, h1, h2⟩
    · cases h
  · cases h
theorem rvE_lt : ∀ {rs : List ResultVar} {n : Nat} {l : List (Nat × SV D)}, rvE P E O n rs = some l → ∀ x ∈ resOf n rs, x < VB ∨ n ≤ x
  | [], n, l, _, x, hx => by simp [resOf] at hx
  | .tmp d :: rs, n, l, h, x, hx => by
    obtain ⟨h1, h2⟩ := ite_some h
    simp only [resOf, List.mem_cons] at hx
    rcases hx with rfl | hx
    · exact .inl (by simpa [Nat.blt_eq] using h1)
    · rcases rvE_lt h2 x hx with h | h
      · exact .inl h
      · exact .inr (by omega)
  | .cell a t :: rs, n, l, h, x, hx => by
    simp only [rvE] at h
    split at h
    · rename_i V l' _ h2
      simp only [resOf, List.mem_cons] at hx
      rcases hx with rfl | hx
      · exact .inr (Nat.le_refl _)
      · rcases rvE_lt h2 x hx with h | h
        · exact .inl h
        · exact .inr (by omega)
    · cases h
theorem rvE_ok (hM : Mm X.G O z e m k vs) (hE : Rl X z vs E fr) : ∀ {rs : List ResultVar} {n : Nat} {l : List (Nat × SV D)}, VB ≤ n → rvE P E O n rs = some l → ∃ fr2, (∀ d, d < n → fr2 d = fr d) ∧ Rl X z vs (l ++ E) fr2 ∧ resultsR P fr m rs ((resOf n rs).map fr2)
  | [], n, l, _, h => by cases h; exact ⟨fr, fun _ _ => rfl, hE, trivial⟩
  | .tmp d :: rs, n, l, hn, h => by
    obtain ⟨h1, h2⟩ := ite_some h
    have hd : d < VB := by simpa [Nat.blt_eq] using h1
    obtain ⟨fr2, g1, g2, g3⟩ := rvE_ok hM hE (Nat.le_succ_of_le hn) h2
    exact ⟨fr2, fun d hd => g1 d (Nat.lt_succ_of_lt hd), g2, g1 d (Nat.lt_succ_of_lt (Nat.lt_of_lt_of_le hd hn)), g3⟩
  | .cell a t :: rs, n, l, hn, h => by
    simp only [rvE] at h
    split at h
    · rename_i V l' h1 h2
      cases h
      obtain ⟨fr2, g1, g2, g3⟩ := rvE_ok hM hE (Nat.le_succ_of_le hn) h2
      obtain ⟨b, off, w, w1, w2, w3⟩ := loadB_ok hM (hE a) h1
      refine ⟨fun i => if i = n then w else fr2 i, fun d hd => ?_, fun i => ?_, ?_⟩
      · show (if d = n then w else fr2 d) = fr d
        rw [if_neg (by omega)]; exact g1 d (by omega)
      · show rel X.G z vs (lkE ((n, V) :: (l' ++ E)) i) (if i = n then w else fr2 i)
        simp only [lkE]
        split
        · rename_i hi
          rw [if_pos (Nat.eq_of_beq_eq_true hi).symm]; exact w2
        · rename_i hi
          rw [if_neg (by rintro rfl; simp at hi)]; exact g2 i
      · have hm : (resOf (n + 1) rs).map (fun i => if i = n then w else fr2 i) = (resOf (n + 1) rs).map fr2 := by
          apply List.map_congr_left
          intro x hx
          rw [if_neg]
          rintro rfl
          rcases rvE_lt h2 _ hx with h | h <;> omega
        refine ⟨⟨b, off, w1, ?_⟩, ?_⟩
        · show ∃ d, _
          simp only [if_true]
          exact w3
        · show resultsR P fr m rs ((resOf (n + 1) rs).map _)
          rw [hm]; exact g3
    · cases h
theorem FC.of (hC : COk X) {B : Code} {us : List (Pc D)} {d : FD D} {F : d.F} (hus : ∀ u ∈ us, 0 < u.path.length → PcOk X B u)
    (heq : ∀ r x, exC X us calm true [] B (mkE X d.ins x ++ (d.fx ++ rE d.rcv)) (rO X d.rcv r) (retK X d) = F r x) : FC X B d F := by
  intro r x y z m kk vs0 fr hF hM hE
  have h := heq r x
  rw [hF] at h
  refine (exC_ok hC (L := 0) hus B true [] _ _ _ y (sub_nil B) (by simp) (by simp) hM hE h).mono ?_
  rintro ex fr1 m1 ⟨z1, vs1, E1, O1, h0, h1, h2, h3, h4, h5⟩
  obtain ⟨hx, h5⟩ := ite_some h5
  obtain ⟨l, hl0, h6⟩ := bind_some h5
  obtain ⟨fr2, q1, q2, q3⟩ := rvE_ok h3 h4 (Nat.le_refl _) hl0
  have hl : (rks d).length = vs0.length := by
    rw [hM.len, rks_len]
  rw [hl] at h6
  have hr := rO_eq (X := X) d.rcv r
  obtain ⟨z2, nv, k1, k2, k3⟩ := post_of (ks := rks d) (ins := rIns d.rcv) (x := rX d.rcv r) (xx := d.xx) (by rw [hr]; exact h0) h2 (by rw [hr]; exact hM.len) h3 q2 h6
  rw [hr] at k2
  exact ⟨hx, fr2, q3, z2, nv, h1.trans k1, k2, k3⟩
end
end
end Go.AM
end
section
set_option linter.unusedSimpArgs false
set_option linter.unusedVariables false
namespace Go.AM
noncomputable section
section
variable {P : Program} {D : Nat → Type} {X : Ev P D} {z z1 z2 : Nat → Blk} {e m m1 : Mem} {k q : Option Nat} {vs : List Value} {fr : Nat → Value} {E : List (Nat × SV D)} {O O' : List (Ob D)} {ρ : Type} {r : ρ}
theorem enumE_at : ∀ {l : List (SV D)} {args : List Value} {i : Nat}, L2 (rel X.G z vs) l args → (∀ (j : Nat) (v : Value), args[j]? = some v → fr (i + j) = v) → Rl X z vs (enumE i l) fr
  | [], [], i, _, _ => fun d => trivial
  | s :: l, a :: args, i, ⟨h1, h2⟩, hf => by
    refine (enumE_at (i := i + 1) h2 fun j v hj => ?_).cons ?_
    · rw [show i + 1 + j = i + (j + 1) by omega]
      exact hf (j + 1) v hj
    · have := hf 0 a rfl
      rw [Nat.add_zero] at this
      rw [this]; exact h1
  | [], _ :: _, _, h, _ => h.elim
  | _ :: _, [], _, h, _ => h.elim
/-- What is known of a function: its text, its contract. -/
structure FOk (P : Program) (X : Ev P D) (d : FD D) (F : d.F) : Prop where
  ex : ∃ fn c, P.funcs[d.f]? = some fn ∧ fn.body = some c ∧ okFn P d.f = true ∧ Nat.ble d.np fn.ntmps = true ∧ fn.results.toList = d.rvs ∧ FC X c d F
  new : newOk d.outs = true
  sf : (d.fx.all fun p => simpS p.2) = true
  so : (d.ofx.all fun p => simpS p.2) = true
  sx : (d.fx.all fun p => (refS p.2).isNone) = true
theorem simp_vs {s : SV D} {v : Value} {vs' : List Value} (h : simpS s = true) (h2 : (refS s).isNone = true) (hr : rel X.G z vs s v) : rel X.G z vs' s v := by
  have := rn_ok (X := X) (vs' := vs') (τ := id) h hr fun j u hj _ => by rw [hj] at h2; cases h2
  rwa [rnS_id] at this
theorem flatC_self {c : CV D} {w : Value} (h : flatC c = some w) : rel0 X.G z vs c w ∧ flat0 w = true ∧ flat1 w = true ∧ AM.flat w = true := by
  cases c <;> first | (cases h; done) | (cases h; exact ⟨rfl, rfl, rfl, rfl⟩)
theorem flatL_self : ∀ {cs : List (CV D)} {ws : List Value}, flatL cs = some ws → L2 (rel0 X.G z vs) cs ws ∧ ws.all flat0 = true
  | [], _, h => by cases h; exact ⟨trivial, rfl⟩
  | c :: cs, ws, h => by
    simp only [flatL] at h
    split at h
    · rename_i v l hv hl
      cases h
      obtain ⟨g1, g2, _⟩ := flatC_self (X := X) (z := z) (vs := vs) hv
      obtain ⟨g3, g4⟩ := flatL_self hl
      exact ⟨⟨g1, g3⟩, by simp only [List.all_cons, g2, g4, Bool.and_self]⟩
    · cases h
theorem flatT_self : ∀ {l : List (CV D ⊕ (Nat × List (CV D)))} {ws : List Value}, flatT l = some ws → L2 (relT X.G z vs) l ws ∧ ws.all flat1 = true
  | [], _, h => by cases h; exact ⟨trivial, rfl⟩
  | .inl c :: l, ws, h => by
    simp only [flatT] at h
    split at h
    · rename_i v l1 hv hl
      cases h
      obtain ⟨g1, _, g2, _⟩ := flatC_self (X := X) (z := z) (vs := vs) hv
      obtain ⟨g3, g4⟩ := flatT_self hl
      exact ⟨⟨g1, g3⟩, by simp only [List.all_cons, g2, g4, Bool.and_self]⟩
    · cases h
  | .inr p :: l, ws, h => by
    simp only [flatT] at h
    split at h
    · rename_i v l1 hv hl
      cases h
      obtain ⟨g1, g2⟩ := flatL_self (X := X) (z := z) (vs := vs) hv
      obtain ⟨g3, g4⟩ := flatT_self hl
      exact ⟨⟨⟨v, rfl, g1⟩, g3⟩, by simp only [List.all_cons, g4, Bool.and_true]; exact g2⟩
    · cases h
theorem flatS_self {s : SV D} {w : Value} (h : flatS s = some w) : rel X.G z vs s w ∧ AM.flat w = true := by
  unfold flatS at h
  split at h
  · obtain ⟨g1, _, _, g2⟩ := flatC_self (X := X) (z := z) (vs := vs) h
    exact ⟨g1, g2⟩
  · split at h
    · rename_i ds hd
      cases h
      obtain ⟨g1, g2⟩ := flatL_self (X := X) (z := z) (vs := vs) hd
      exact ⟨⟨ds, rfl, g1⟩, g2⟩
    · cases h
  · split at h
    · rename_i ws hd
      cases h
      obtain ⟨g1, g2⟩ := flatT_self (X := X) (z := z) (vs := vs) hd
      exact ⟨⟨ws, rfl, g1⟩, g2⟩
    · cases h
  · cases h
theorem Inv.app (O N : List (Ob D)) : Inv O (O ++ N) := ⟨by simp, fun i p hi hp _ _ => by rw [List.getElem?_append_left hi] at hp; exact hp⟩
theorem Mm.nil (hM : Mm X.G O z e m k vs) : Mm X.G ([] : List (Ob D)) z m m none [] := ⟨St.start hM.st.fz hM.st.dead, rfl, by simp, by simp⟩
/-- The caller's state after a call. -/
theorem st_call {kk : Option Nat} (h : St z1 e m k) (h2 : St z2 m m1 kk) (hk : ∀ b, kk = some b → e.next ≤ b ∨ k = some b) : St z2 e m1 k ∧ Same m m1 kk :=
  ⟨⟨h2.fz, h2.dead, h.dead0, Nat.le_trans h.next h2.next, fun b hb hn => by
    rw [h2.kept b (Nat.lt_of_lt_of_le hb h.next) (fun hh => by rcases hk b hh with h3 | h3; omega; exact hn h3)]
    exact h.kept b hb hn⟩, ⟨h2.next, h2.dead, h2.kept⟩⟩
/-- The slots of a call's start. -/
theorem start_rl {ins : List It} {fx : List (Nat × SV D)} {svs as : List (SV D)} {O1 : List (Ob D)} {x : inT D ins} {vs0 : List Value} (hE : Rl X z vs (enumE 0 svs) fr) (ha : AOk X z vs fr ins as) (hb : rdB X [] O1 ins as [] = some x)
    (hx : (fx.all fun p => fxT [] p.2 (lkE (enumE 0 svs) p.1)) = true) : ∀ p ∈ mkE X ins x ++ fx, rel X.G z vs0 p.2 (fr p.1) := by
  intro p hp
  rcases List.mem_append.1 hp with hp | hp
  · exact rdB_v hb ha p hp
  · have ht := List.all_eq_true.1 hx p hp
    have := fxT_ok (X := X) (vs' := vs0) id ht (hE p.1) (by simp)
    rwa [rnS_id] at this
/-- The objects after a call: what was there, what is new. -/
theorem after {outs : List It} {y : inT D outs} {O0 : List (Ob D)} {vs0 nv : List Value} {kk : Option Nat} {O2 O3 : List (Ob D)} (h1 : Mm X.G O2 z1 e m k vs) (h3 : Mm X.G O3 z2 e m1 k vs) (h0 : Mm X.G (O0 ++ mkO X outs y) z2 m m1 kk (vs0 ++ nv)) (hl : vs0.length = O0.length) (hn : newOk outs = true)
    (hlt : ∀ (j : Nat) (o : Ob D) (v : Value), O3[j]? = some o → vs[j]? = some v → o.live = true → ∀ b, blkV v = some b → b < m.next) : Mm X.G (O3 ++ mkO X outs y) z2 e m1 k (vs ++ nv) := by
  have hnl : nv.length = (mkO X outs y).length := by
    have := h0.len
    simp only [List.length_append] at this
    omega
  have up : ∀ (j : Nat) (o : Ob D) (v : Value), (mkO X outs y)[j]? = some o → nv[j]? = some v → (O0 ++ mkO X outs y)[O0.length + j]? = some o ∧ (vs0 ++ nv)[O0.length + j]? = some v := by
    intro j o v ho hv
    rw [List.getElem?_append_right (by omega), List.getElem?_append_right (by omega), hl]
    rw [show O0.length + j - O0.length = j by omega]
    exact ⟨ho, hv⟩
  refine h3.adds hnl hlt (fun j o v ho hv => ?_) (fun i j o p v w hij ho hp hv hw => ?_)
  · obtain ⟨g1, g2⟩ := up j o v ho hv
    have hob := h0.obj _ o v g1 g2
    obtain ⟨c, a, rfl, hc⟩ := newOk_at hn (List.mem_of_getElem? ho)
    exact born hc h1.st.next hob
  · obtain ⟨g1, g2⟩ := up i o v ho hv
    obtain ⟨g3, g4⟩ := up j p w hp hw
    obtain ⟨_, c, a, _, h5⟩ := mkO_mk (List.mem_of_getElem? ho)
    obtain ⟨_, c', a', _, h6⟩ := mkO_mk (List.mem_of_getElem? hp)
    exact h0.ap _ _ o p v w (by omega) g1 g3 (by rw [h5]; exact OC.mk_live) (by rw [h6]; exact OC.mk_live) g2 g4
/-- The slots of the results, under the caller's numbers. -/
theorem out_rl {outs : List It} {y : inT D outs} {ofx : List (Nat × SV D)} {vs0 vs1 : List Value} {τ : Nat → Nat} (ho : (ofx.all fun p => simpS p.2) = true) (h : ∀ q ∈ mkE X outs y ++ ofx, rel X.G z vs0 q.2 (fr q.1)) (hv : ∀ (j : Nat) (u : Value), vs0[j]? = some u → vs1[τ j]? = some u) :
    Rl X z vs1 (mkE X outs y ++ ofx.map fun q => (q.1, rnS τ q.2)) fr := by
  refine Rl_of fun q hq => ?_
  rcases List.mem_append.1 hq with hq | hq
  · obtain ⟨c, a, hc⟩ := mkE_mk hq
    have := h q (List.mem_append.2 (.inl hq))
    rw [hc] at this ⊢
    exact Cl.mk_vs this
  · obtain ⟨q0, hq0, rfl⟩ := List.mem_map.1 hq
    exact rn_ok (List.all_eq_true.1 ho q0 hq0) (h q0 (List.mem_append.2 (.inr hq0))) fun j u _ hu => hv j u hu
theorem rcvG_ok {t b : Nat} {o : Ob D} {x : D t} (hg : rcvG X t (some o) = some x) (ho : ObOk X.G z e m k vs o (.pointer (some ⟨b, 0, none⟩))) :
    o.live = true ∧ (e.next ≤ b ∨ k = some b) ∧ (∀ vs', ObOk X.G z m m (some b) vs' (.recv t (lvX X t x) false : Ob D) (.pointer (some ⟨b, 0, none⟩))) ∧
    (∀ {z2 : Nat → Blk} {m1 : Mem} {w : Bool} {a : D t} {ws : List Value}, ObOk X.G z2 m m1 (some b) ws (.recv t (lvX X t a) w : Ob D) (.pointer (some ⟨b, 0, none⟩)) → ObOk X.G z2 e m1 k vs (rcvP t (lvX X t a) o) (.pointer (some ⟨b, 0, none⟩)) ∧ (o.clean = true → a = x → ObOk X.G z2 e m1 k vs o (.pointer (some ⟨b, 0, none⟩)))) := by
  unfold rcvG at hg
  split at hg
  · rename_i t' cs w heq
    cases heq
    obtain ⟨ht, hg⟩ := ite_some hg
    subst ht
    obtain ⟨c, ds, h1, h2, h3, h4⟩ := ho
    cases h1
    refine ⟨rfl, .inl h3, fun vs' => ⟨b, ds, rfl, ⟨h2.blk, h2.lt, h2.dead, .inr rfl⟩, pkX_lv hg h4⟩, ?_⟩
    intro z2 m1 w a ws hr
    obtain ⟨c, ds', g1, g2, g3⟩ := hr
    cases g1
    refine ⟨⟨b, ds', rfl, ⟨g2.blk, g2.lt, g2.dead, .inl h3⟩, h3, lvX_vs g3⟩, fun hc ha => ?_⟩
    subst ha
    rw [pkX_n hg hc]
    exact ⟨b, ds', rfl, ⟨g2.blk, g2.lt, g2.dead, .inl h3⟩, h3, lvX_vs g3⟩
  · rename_i t' cs w heq
    cases heq
    obtain ⟨ht, hg⟩ := ite_some hg
    subst ht
    obtain ⟨c, ds, h1, h2, h4⟩ := ho
    cases h1
    refine ⟨rfl, h2.fresh, fun vs' => ⟨b, ds, rfl, ⟨h2.blk, h2.lt, h2.dead, .inr rfl⟩, pkX_lv hg h4⟩, ?_⟩
    intro z2 m1 w a ws hr
    obtain ⟨c, ds', g1, g2, g3⟩ := hr
    cases g1
    refine ⟨⟨b, ds', rfl, ⟨g2.blk, g2.lt, g2.dead, h2.fresh⟩, lvX_vs g3⟩, fun hc ha => ?_⟩
    subst ha
    rw [pkX_n hg hc]
    exact ⟨b, ds', rfl, ⟨g2.blk, g2.lt, g2.dead, h2.fresh⟩, lvX_vs g3⟩
  · cases hg
/-- Does it leave memory alone? -/
def FD.quiet (d : FD D) : Bool := d.flat && d.rcv.isNone
/-- What is asked of one function. -/
def CallOk (X : Ev P D) (d : FD D) (F : d.F) : Prop := ∀ (svs : List (SV D)) (O : List (Ob D)) {ρ : Type} (K : SV D → List (Ob D) → Option ρ) (r : ρ) {z : Nat → Blk} {e m : Mem} {k : Option Nat} {vs : List Value} (args : List Value),
  Mm X.G O z e m k vs → L2 (rel X.G z vs) svs args → d.call X F svs O K = some r → CallW P d.f args.toArray m fun v m' => Nxt X O z e k vs K r v m' ∧ (d.quiet = true → m' = m) ∧ ∃ q, Chg m m' q ∧ TgtQ vs (boxesOf svs) q
theorem Same.chg {q : Option Nat} (h : Same m m1 q) : Chg m m1 q := ⟨h.next, h.blk⟩
theorem boxes_at {i off d : Nat} : ∀ {l : List (SV D)} {n : Nat}, lkE (enumE n l) d = .box i off → i ∈ boxesOf l
  | [], n, h => by cases h
  | s :: l, n, h => by
    simp only [enumE, lkE] at h
    split at h
    · subst h; exact List.mem_cons_self
    · have := boxes_at h
      cases s <;> first | exact this | exact List.mem_cons_of_mem _ this
theorem FOk.call {d : FD D} {F : d.F} (hF : FOk P X d F) : CallOk X d F := by
  intro svs O ρ K r z e m k vs args hM hL h
  obtain ⟨fn, c, f1, f2, f3, f4, f5, hB⟩ := hF.ex
  have hnew := hF.new
  have hso := hF.so
  unfold FD.call at h
  obtain ⟨hlen, h⟩ := ite_some h
  have hlen := Nat.eq_of_beq_eq_true hlen
  split at h
  · rename_i as O1 hf
    obtain ⟨hx, h⟩ := ite_some h
    split at h
    · rename_i x hb
      have hsz : args.toArray.size ≤ fn.ntmps := by
        rw [List.size_toArray, ← hL.length, hlen]
        exact Nat.le_of_ble_eq_true f4
      have hE : ∀ fr : Nat → Value, (∀ i v, args.toArray.toList[i]? = some v → fr i = v) → Rl X z vs (enumE 0 svs) fr := fun fr hfr => enumE_at hL fun j v hj => by rw [Nat.zero_add]; exact hfr j v (by simpa using hj)
      obtain ⟨f, np, ins, fx, rcv, rk, outs, ofx, rvs, flat⟩ := d
      cases rcv with
      | none =>
        obtain ⟨y, hy, h⟩ := bind_some h
        split at h
        · rename_i sv hsv
          have body : ∀ fr : Nat → Value, (∀ i v, args.toArray.toList[i]? = some v → fr i = v) → W P c (fun ex fr1 m1 => (ex = .normal ∨ ex = .ret) ∧ ∃ z1 z2 nv, Inv O O1 ∧ Zx e.next z z1 ∧ Mm X.G O1 z1 e m k vs ∧ Zx m.next z1 z2 ∧ Mm X.G (mkO X outs (ofOut outs y)) z2 m m1 none nv ∧ ∃ fr2, resultsR P fr1 m1 rvs ((resOf VB rvs).map fr2) ∧ (rel X.G z2 (vs ++ nv) sv (pack ((resOf VB rvs).map fr2)) ∧ (((resOf VB rvs).map fr2).length = 1 ∨ ∀ x ∈ (resOf VB rvs).map fr2, storable x = true))) fr m := by
            intro fr hfr
            obtain ⟨z1, g0, g1, g2, g3⟩ := frzA_ok hM (hE fr hfr) hf
            have hrl := start_rl (vs0 := []) ((hE fr hfr).mono g1.le fun _ _ h => h) g3 hb hx
            refine (hB () x y (z := z1) (m := m) (kk := none) (vs0 := []) hy g2.nil (Rl_of fun p hp => hrl p (by simpa [rE] using hp))).mono ?_
            rintro ex fr1 m1 ⟨he, fr2, q1, z2, nv, k1, k2, k3⟩
            have k2 : Mm X.G (mkO X outs (ofOut outs y)) z2 m m1 none nv := k2
            refine ⟨he, z1, z2, nv, g0, g1, g2, k1, k2, fr2, q1, resE_ok (out_rl (vs0 := nv) hso k3 fun j u hu => ?_) hsv⟩
            show (vs ++ nv)[O1.length + j]? = some u
            rw [List.getElem?_append_right (by rw [g2.len]; omega), g2.len, show O1.length + j - O1.length = j by omega]
            exact hu
          split at h
          · split at h
            · rename_i w hw
              obtain ⟨w1, w2⟩ := flatS_self (X := X) (z := z) (vs := vs) hw
              refine (CallW.flat (z := z) f1 f2 f3 hsz w2 fun fr hfr => (body fr hfr).mono ?_).mono ?_
              · rintro ex fr1 m1 ⟨he, z1, z2, nv, _, _, _, _, k2, fr2, q1, k3, k4⟩
                exact ⟨he, z2, k2.st, _, by rw [f5]; exact q1, k4, (flatS_ok hw k3).1⟩
              · rintro v m' ⟨rfl, rfl⟩
                exact ⟨Nxt.here hM w1 h, fun _ => rfl, none, Chg.refl _, .inl rfl⟩
            · cases h
          · rename_i hnf
            refine CallW.any f1 f2 f3 hsz fun fr hfr => (body fr hfr).mono ?_
            rintro ex fr1 m1 ⟨he, z1, z2, nv, g0, g1, g2, k1, k2, fr2, q1, k3, k4⟩
            obtain ⟨s1, s2⟩ := st_call (e := e) (k := k) g2.st k2.st (by simp)
            refine ⟨he, _, by rw [f5]; exact q1, k4, ⟨z2, vs ++ nv, sv, _, g0.trans (Inv.app _ _), g1.trans (k1.anti hM.st.next), ext_get, ?_, k3, h⟩, fun hq => absurd (by simpa [FD.quiet] using hq) hnf, none, s2.chg, .inl rfl⟩
            have h3 := g2.call k1 s2 s1 rfl fun j o' hj => .inl ⟨hj, fun _ v _ => Ap.none'⟩
            exact after (O0 := []) (vs0 := []) g2 h3 k2 rfl hnew fun j o v ho hv hl b hb => ((g2.obj j o v ho hv).lt hl b hb).1
        · cases h
      | some p =>
        unfold goCall at h
        dsimp only at h
        split at h
        · rename_i i hi
          split at h
          · rename_i o ho
            obtain ⟨rr, hrr, h⟩ := bind_some h
            obtain ⟨y, hy, h⟩ := bind_some h
            split at h
            · rename_i sv hsv
              refine CallW.any f1 f2 f3 hsz fun fr hfr => ?_
              obtain ⟨z1, g0, g1, g2, g3⟩ := frzA_ok hM (hE fr hfr) hf
              have hrl := fun vs0 => start_rl (vs0 := vs0) ((hE fr hfr).mono g1.le fun _ _ h => h) g3 hb hx
              have hp := hE fr hfr p.1
              rw [hi] at hp
              obtain ⟨b, b1, b2⟩ := hp
              have hob := g2.obj i o _ ho b1
              obtain ⟨r1, r2, r3, r4⟩ := rcvG_ok hrr hob
              have hM0 : Mm X.G (rO X (some p) rr) z1 m m (some b) [.pointer (some ⟨b, 0, none⟩)] := by
                refine ⟨St.start g2.st.fz g2.st.dead, rfl, fun j o' v hj hv => ?_, fun a b' o' p' v w hab ha hb' => ?_⟩
                · cases j with
                  | zero => simp [rO] at hj hv; subst hj hv; exact r3 _
                  | succ j => simp [rO] at hj
                · cases a with
                  | zero => cases b' with
                    | zero => exact absurd rfl hab
                    | succ b' => simp [rO] at hb'
                  | succ a => simp [rO] at ha
              refine (hB rr x y (z := z1) (m := m) (kk := some b) (vs0 := [.pointer (some ⟨b, 0, none⟩)]) hy hM0 (Rl_of fun q hq => ?_)).mono ?_
              · rcases List.mem_append.1 hq with hq | hq
                · exact hrl _ q (List.mem_append.2 (.inl hq))
                · rcases List.mem_append.1 hq with hq | hq
                  · exact hrl _ q (List.mem_append.2 (.inr hq))
                  · simp only [rE, List.mem_cons, List.not_mem_nil, or_false] at hq
                    subst hq
                    exact ⟨b, rfl, b2⟩
              rintro ex fr1 m1 ⟨he, fr2, q1, z2, nv, k1, k2, k3⟩
              obtain ⟨s1, s2⟩ := st_call (e := e) (k := k) g2.st k2.st (fun c hc => by cases hc; exact r2)
              have hi0 : i < O1.length := (List.getElem?_eq_some_iff.1 ho).1
              have hnum : ∀ (j : Nat) (u : Value), ([Value.pointer (some ⟨b, 0, none⟩)] ++ nv)[j]? = some u → (vs ++ nv)[num1 i O1.length j]? = some u := by
                intro j u hu
                cases j with
                | zero =>
                  simp at hu; subst hu
                  show (vs ++ nv)[i]? = _
                  exact ext_get _ _ b1
                | succ j =>
                  simp at hu
                  show (vs ++ nv)[O1.length + (j + 1 - 1)]? = _
                  rw [List.getElem?_append_right (by rw [g2.len]; omega), g2.len, show O1.length + (j + 1 - 1) - O1.length = j by omega]
                  exact hu
              have hres := resE_ok (out_rl hso k3 hnum) hsv
              have k2 : Mm X.G (([if rk = 1 then (.recv p.2 (lvX X p.2 rr) false : Ob D) else if rk = 2 then updOf X idN outs (ofOut outs y) 0 else .dead] : List (Ob D)) ++ mkO X outs (ofOut outs y)) z2 m m1 (some b) ([.pointer (some ⟨b, 0, none⟩)] ++ nv) := k2
              have hh := k2.obj 0 _ (.pointer (some ⟨b, 0, none⟩)) rfl rfl
              have apart : ∀ (j : Nat) (o' : Ob D), j ≠ i → O1[j]? = some o' → o'.live = true → ∀ v, vs[j]? = some v → Ap (blkV v) (some b) := fun j o' hji hj hl v hv => g2.ap j i o' o v _ hji hj ho hl r1 hv b1
              have lt1 : ∀ (j : Nat) (o' : Ob D) (v : Value), O1[j]? = some o' → vs[j]? = some v → o'.live = true → ∀ c, blkV v = some c → c < m.next := fun j o' v ho hv hl c hc => ((g2.obj j o' v ho hv).lt hl c hc).1
              have fin : ∀ {O3 : List (Ob D)}, Inv O1 O3 → Mm X.G O3 z2 e m1 k vs → (∀ (j : Nat) (o' : Ob D) (v : Value), O3[j]? = some o' → vs[j]? = some v → o'.live = true → ∀ c, blkV v = some c → c < m.next) → K sv (O3 ++ mkO X outs (ofOut outs y)) = some r → Nxt X O z e k vs K r (pack ((resOf VB rvs).map fr2)) m1 := by
                intro O3 hi3 h3 hlt hK
                exact ⟨z2, vs ++ nv, sv, _, (g0.trans hi3).trans (Inv.app _ _), g1.trans (k1.anti hM.st.next), ext_get, after g2 h3 k2 rfl hnew hlt, hres.1, hK⟩
              have turn : ∀ {o3 : Ob D}, o3.tch = true → (∀ v, vs[i]? = some v → ObOk X.G z2 e m1 k vs o3 v) → K sv (O1.set i o3 ++ mkO X outs (ofOut outs y)) = some r → Nxt X O z e k vs K r (pack ((resOf VB rvs).map fr2)) m1 := by
                intro o3 ht h3 hK
                refine fin (Inv.set O1 i (.inr ht)) (g2.call k1 s2 s1 (by simp) fun j o' hj => ?_) (fun j o' v hj hv hl c hc => ?_) hK
                · rw [List.getElem?_set] at hj
                  split at hj
                  · rename_i hij
                    subst hij
                    simp [hi0] at hj
                    subst hj
                    exact .inr ⟨o, ho, r1, h3⟩
                  · rename_i hij
                    exact .inl ⟨hj, fun hl v hv => apart j o' (fun e => hij e.symm) hj hl v hv⟩
                · rw [List.getElem?_set] at hj
                  split at hj
                  · rename_i hij
                    subst hij
                    exact lt1 i o v ho hv r1 c hc
                  · exact lt1 j o' v hj hv hl c hc
              refine ⟨he, _, by rw [f5]; exact q1, hres.2, ?_, fun hq => absurd hq (by simp [FD.quiet]), some b, s2.chg, .inr ⟨i, boxes_at hi, _, b1, rfl⟩⟩
              split at h
              · rename_i hk2
                rw [if_neg (by omega), if_pos hk2] at hh
                split at h
                · rename_i t cs w hu
                  obtain ⟨ht, h⟩ := ite_some h
                  rcases updOf_mk (X := X) (its := outs) (x := ofOut outs y) (j := 0) with hd | ⟨_, c', a', _, hd⟩
                  · rw [hd] at hu; cases hu
                  · cases c' with
                    | recv t' =>
                      have hd := hd idN
                      have hd' := hd
                      rw [hu] at hd
                      simp only [OC.mkr] at hd
                      cases hd
                      subst ht
                      rw [hd'] at hh
                      refine turn ?_ (fun v hv => ?_) h
                      · unfold rcvP; split <;> rfl
                      · rw [b1] at hv; cases hv
                        exact (r4 hh).1
                    | _ => rw [hd] at hu; cases hu
                · cases h
              · obtain ⟨hk1, h⟩ := ite_some h
                rw [if_pos hk1] at hh
                split at h
                · rename_i hcl
                  refine fin (Inv.refl O1) (g2.call k1 s2 s1 rfl fun j o' hj => ?_) lt1 h
                  by_cases hji : j = i
                  · subst hji
                    rw [ho] at hj; cases hj
                    exact .inr ⟨o, ho, r1, fun v hv => by rw [b1] at hv; cases hv; exact (r4 hh).2 hcl rfl⟩
                  · exact .inl ⟨hj, fun hl v hv => apart j o' hji hj hl v hv⟩
                · refine turn ?_ (fun v hv => ?_) h
                  · unfold rcvP; split <;> rfl
                  · rw [b1] at hv; cases hv
                    exact (r4 hh).1
            · cases h
          · cases h
        · cases h
    · cases h
  · cases h
/-- Functions, the earlier ones at the end. -/
structure FE (D : Nat → Type) where
  d : FD D
  F : d.F
def FD.fits (X : Ev P D) (d : FD D) (svs : List (SV D)) (O : List (Ob D)) : Bool :=
  Nat.beq svs.length d.np && match frzA (enumE 0 svs) d.ins O with
  | some (as, O1) => (d.fx.all fun p => fxT [] p.2 (lkE (enumE 0 svs) p.1)) && (rdB X [] O1 d.ins as []).isSome
  | none => false
def goCalls (X : Ev P D) : List (FE D) → Nat → List (SV D) → List (Ob D) → {ρ : Type} → (SV D → List (Ob D) → Option ρ) → Option ρ
  | [], _, _, _, _, _ => none
  | x :: l, f, svs, O, _, K => if (Nat.beq x.d.f f && x.d.fits X svs O) = true then x.d.call X x.F svs O K else goCalls X l f svs O K
/-- The tables, with these functions. -/
def goFlat (X : Ev P D) : List (FE D) → Nat → List (SV D) → List (Ob D) → Bool
  | [], _, _, _ => false
  | x :: l, f, svs, O => if (Nat.beq x.d.f f && x.d.fits X svs O) = true then x.d.quiet else goFlat X l f svs O
def Ev.with (X : Ev P D) (l : List (FE D)) : Ev P D := { X with C := goCalls X l, F := goFlat X l }
theorem lvX_with (l : List (FE D)) (t : Nat) (x : D t) : lvX (X.with l) t x = lvX X t x := by
  cases hI : X.I t with
  | none =>
    have h2 : (X.with l).I t = none := hI
    unfold lvX
    rw [hI, h2]
  | some ti =>
    have h2 : (X.with l).I t = some ti := hI
    unfold lvX
    rw [hI, h2]
theorem pkX_with (l : List (FE D)) (t : Nat) (cs : List (CV D)) : pkX (X.with l) t cs = pkX X t cs := by
  cases hI : X.I t with
  | none =>
    have h2 : (X.with l).I t = none := hI
    unfold pkX
    rw [hI, h2]
  | some ti =>
    have h2 : (X.with l).I t = some ti := hI
    unfold pkX
    rw [hI, h2]
theorem mkCaps_with (l : List (FE D)) : ∀ (ts : List Nat) (x : inDs D ts), mkCaps (X.with l) ts x = mkCaps X ts x
  | [], _ => rfl
  | t :: ts, x => by
    show (t, lvX (X.with l) t x.1) :: mkCaps (X.with l) ts x.2 = (t, lvX X t x.1) :: mkCaps X ts x.2
    rw [mkCaps_with l ts x.2, lvX_with l t x.1]
theorem gtCaps_with (l : List (FE D)) : ∀ (ts : List Nat) (x : List (Nat × List (CV D))), gtCaps (X.with l) ts x = gtCaps X ts x
  | [], [] => rfl
  | [], _ :: _ => rfl
  | _ :: _, [] => rfl
  | t :: ts, p :: x => by
    simp only [gtCaps, gtCaps_with l ts x, pkX_with]
theorem Cl.mk_with (l : List (FE D)) (c : Cl) (x : c.ty D) : Cl.mk (X.with l) c x = Cl.mk X c x := by
  cases c with
  | fn f ts => exact congrArg (SV.fn f) (mkCaps_with l ts x)
  | agg t => exact congrArg (SV.agg t) (lvX_with l t x)
  | rp t => exact congrArg (fun cs => SV.rp t cs 0) (lvX_with l t x)
  | _ => rfl
theorem Cl.get_with (l : List (FE D)) (c : Cl) (s : SV D) : Cl.get (X.with l) c s = Cl.get X c s := by
  unfold Cl.get
  split
  · rfl
  · rfl
  · rfl
  · rfl
  · rfl
  · rfl
  · rename_i t t' cs
    exact congrArg (fun q : Option (D t) => if t' = t then q else none) (pkX_with l t cs)
  · rename_i t t' cs off
    exact congrArg (fun q : Option (D t) => if t' = t ∧ off = 0 then q else none) (pkX_with l t cs)
  · rename_i f ts f' cs
    exact congrArg (fun q : Option (inDs D ts) => if f' = f then q else none) (gtCaps_with l ts cs)
  · rfl
theorem OC.mkr_with (l : List (FE D)) (τ : Nat → Nat) (c : OC) (x : c.ty D) (w : Bool) : OC.mkr (X.with l) τ c x w = OC.mkr X τ c x w := by
  cases c with
  | box t => exact congrArg (fun cs => Ob.box t cs false w) (lvX_with l t x)
  | recv t => exact congrArg (fun cs => Ob.recv t cs w) (lvX_with l t x)
  | bx t p => exact congrArg (fun cs => Ob.box t (ownG τ p 0 cs) false w) (lvX_with l t x)
  | _ => rfl
theorem OC.mk_with (l : List (FE D)) (c : OC) (x : c.ty D) (w : Bool) : OC.mk (X.with l) c x w = OC.mk X c x w := OC.mkr_with l _ c x w
theorem OC.get_with (l : List (FE D)) (σ : List Nat) (c : OC) (o : Ob D) : OC.get (X.with l) σ c o = OC.get X σ c o := by
  unfold OC.get
  split
  · rfl
  · rename_i t t' cs w
    exact congrArg (fun q : Option (D t) => if t' = t then q else none) (pkX_with l t cs)
  · rename_i t t' cs w
    exact congrArg (fun q : Option (D t) => if t' = t then q else none) (pkX_with l t cs)
  · rfl
  · rfl
  · rename_i t p t' cs w
    exact congrArg (fun q : Option (D t) => if t' = t ∧ linkB σ cs p = true then q else none) (pkX_with l t (nilG p 0 cs))
  · rfl
theorem rcvG_with (l : List (FE D)) (t : Nat) (o : Option (Ob D)) : rcvG (X.with l) t o = rcvG X t o := by
  unfold rcvG
  split
  · rw [pkX_with]
  · rw [pkX_with]
  · rfl
theorem rdB_with (l : List (FE D)) {σ0 : List Nat} : ∀ (its : List It) (as : List (SV D)) (σ : List Nat), rdB (X.with l) σ0 O its as σ = rdB X σ0 O its as σ
  | [], _, [] => rfl
  | [], _, _ :: _ => by simp [rdB]
  | .v _ _ :: _, [], _ => by simp [rdB]
  | .o _ _ :: _, [], _ => by simp [rdB]
  | .u _ _ :: _, [], _ => by simp [rdB]
  | .v d c :: its, s :: as, σ => by simp only [rdB, Cl.get_with, rdB_with l its as σ]
  | .o d c :: its, s :: as, [] => rfl
  | .o d c :: its, s :: as, i :: σ => by simp only [rdB, OC.get_with, rdB_with l its as σ]
  | .u d c :: its, s :: as, σ => by simp only [rdB, OC.get_with, rdB_with l its as σ]
theorem mkO_with (l : List (FE D)) : ∀ (its : List It) (x : inT D its), mkO (X.with l) its x = mkO X its x
  | [], _ => rfl
  | .v d c :: its, x => mkO_with l its x.2
  | .u d c :: its, x => mkO_with l its x.2
  | .o d c :: its, x => by
    show OC.mk (X.with l) c x.1 false :: mkO (X.with l) its x.2 = OC.mk X c x.1 false :: mkO X its x.2
    rw [mkO_with l its x.2]
    exact congrArg (fun q => q :: mkO X its x.2) (OC.mk_with l c x.1 false)
theorem mkE_with (l : List (FE D)) : ∀ (its : List It) (x : inT D its), mkE (X.with l) its x = mkE X its x
  | [], _ => rfl
  | .v d c :: its, x => by
    show (d, Cl.mk (X.with l) c x.1) :: mkE (X.with l) its x.2 = (d, Cl.mk X c x.1) :: mkE X its x.2
    rw [mkE_with l its x.2]
    exact congrArg (fun q => (d, q) :: mkE X its x.2) (Cl.mk_with l c x.1)
  | .u d c :: its, x => mkE_with l its x.2
  | .o d c :: its, x => mkE_with l its x.2
theorem updOf_with (l : List (FE D)) {τ : Nat → Nat} : ∀ (its : List It) (x : inT D its) (j : Nat), updOf (X.with l) τ its x j = updOf X τ its x j
  | [], _, _ => rfl
  | .v d c :: its, x, j => updOf_with l its x.2 j
  | .u d c :: its, x, j => by
    show (if Nat.beq d j = true then OC.mkr (X.with l) τ c x.1 true else updOf (X.with l) τ its x.2 j) = (if Nat.beq d j = true then OC.mkr X τ c x.1 true else updOf X τ its x.2 j)
    rw [updOf_with l its x.2 j]
    exact congrArg (fun q => if Nat.beq d j = true then q else updOf X τ its x.2 j) (OC.mkr_with l τ c x.1 true)
  | .o d c :: its, x, j => updOf_with l its x.2 j
theorem call_with (l : List (FE D)) (d : FD D) (F : d.F) (svs : List (SV D)) (O : List (Ob D)) {ρ : Type} (K : SV D → List (Ob D) → Option ρ) : d.call (X.with l) F svs O K = d.call X F svs O K := by
  obtain ⟨f, np, ins, fx, rcv, rk, outs, ofx, res, flat⟩ := d
  unfold FD.call
  dsimp only
  simp only [rdB_with]
  cases rcv with
  | none => simp only [goCall, mkE_with, mkO_with]
  | some p =>
    simp only [goCall, mkE_with, mkO_with, updOf_with, rcvG_with, lvX_with]
theorem CallOk.base {l : List (FE D)} {d : FD D} {F : d.F} (h : CallOk (X.with l) d F) : CallOk X d F := by
  intro svs O ρ K r z e m k vs args hM hL hc
  rw [← call_with l] at hc
  exact h svs O K r args hM hL hc
theorem goCalls_ok {f : Nat} {svs : List (SV D)} {K : SV D → List (Ob D) → Option ρ} {args : List Value} (hM : Mm X.G O z e m k vs) (hL : L2 (rel X.G z vs) svs args) : ∀ {l : List (FE D)}, (∀ x ∈ l, CallOk X x.d x.F) → goCalls X l f svs O K = some r → CallW P f args.toArray m fun v m' => Nxt X O z e k vs K r v m' ∧ (goFlat X l f svs O = true → m' = m) ∧ ∃ q, Chg m m' q ∧ TgtQ vs (boxesOf svs) q
  | [], _, hc => by cases hc
  | x :: l, h, hc => by
    unfold goCalls at hc
    unfold goFlat
    split at hc
    · rename_i hx
      rw [if_pos hx]
      simp only [Bool.and_eq_true] at hx
      have := Nat.eq_of_beq_eq_true hx.1
      subst this
      exact h x List.mem_cons_self svs O K r args hM hL hc
    · rename_i hx
      rw [if_neg hx]
      exact goCalls_ok hM hL (fun y hy => h y (List.mem_cons_of_mem _ hy)) hc
theorem COk.of {l : List (FE D)} (h : ∀ x ∈ l, CallOk X x.d x.F) : COk (X.with l) := by
  intro f svs O ρ K r z e m k vs args hM hL hc
  exact goCalls_ok (X := X) hM hL h hc
/-- One function more. -/
theorem all_cons {l : List (FE D)} {x : FE D} (h : FOk P (X.with l) x.d x.F) (hl : ∀ y ∈ l, CallOk X y.d y.F) : ∀ y ∈ x :: l, CallOk X y.d y.F := by
  intro y hy
  rcases List.mem_cons.1 hy with rfl | hy
  · exact h.call.base
  · exact hl y hy
end
end
end Go.AM
end
section
set_option linter.unusedSimpArgs false
set_option linter.unusedVariables false
namespace Go.AM
/-- A cell of a type, with what its elements are. -/
inductive LT : Type 1 where
  | int (k : IntKind) | bool | str
  | sl (α : Type) (T : Ty α)
def LT.ty : LT → Type
  | .int _ => Int
  | .bool => Bool
  | .str => List UInt8
  | .sl α _ => List α
def LT.rd (z : Nat → Blk) : (l : LT) → l.ty → Value → Prop
  | .int k, n, v => v = .int k n
  | .bool, b, v => v = .bool b
  | .str, s, v => v = AM.str s
  | .sl _ T, xs, v => SlR T z xs v
def inL : List LT → Type
  | [] => Unit
  | l :: ls => l.ty × inL ls
def rdL (z : Nat → Blk) : (ls : List LT) → inL ls → List Value → Prop
  | [], _, [] => True
  | l :: ls, x, v :: vs => l.rd z x.1 v ∧ rdL z ls x.2 vs
  | _, _, _ => False
theorem rdL_len {z : Nat → Blk} : ∀ {ls : List LT} {x : inL ls} {cs : List Value}, rdL z ls x cs → cs.length = ls.length
  | [], _, [], _ => rfl
  | l :: ls, x, v :: vs, h => by simp [rdL_len h.2]
  | [], _, _ :: _, h => h.elim
  | _ :: _, _, [], h => h.elim
theorem rdL_mono {z z' : Nat → Blk} (hz : Zle z z') : ∀ {ls : List LT} {x : inL ls} {cs : List Value}, rdL z ls x cs → rdL z' ls x cs
  | [], _, [], _ => trivial
  | l :: ls, x, v :: vs, h => ⟨by
    have h1 := h.1
    cases l with
    | sl α T => exact SlR.mono hz h1
    | _ => exact h1, rdL_mono hz h.2⟩
  | [], _, _ :: _, h => h.elim
  | _ :: _, _, [], h => h.elim
theorem rdL_one {z : Nat → Blk} : ∀ {ls : List LT} {x : inL ls} {cs : List Value}, rdL z ls x cs → ∀ c ∈ cs, storable c = true ∧ c.cells = #[c]
  | [], _, [], _, c, hc => by simp at hc
  | l :: ls, x, v :: vs, h, c, hc => by
    rcases List.mem_cons.1 hc with rfl | hc
    · have h1 := h.1
      cases l with
      | sl α T => obtain ⟨a, c, rfl⟩ := SlR.len h1; exact ⟨rfl, rfl⟩
      | _ => obtain rfl := h1; exact ⟨rfl, rfl⟩
    · exact rdL_one h.2 c hc
  | [], _, _ :: _, h, _, _ => h.elim
  | _ :: _, _, [], h, _, _ => h.elim
/-- A type of plain cells. -/
def TyOf (t : TypeId) (ls : List LT) {α : Type} (to : α → inL ls) : Ty α where
  sz := ls.length
  tid := t
  rd := fun z x cs => rdL z ls (to x) cs
  len := fun _ _ _ h => rdL_len h
  mono := fun _ _ hz _ _ h => rdL_mono hz h
  one := fun _ _ _ h => rdL_one h
noncomputable section
/-- A cell by its type's number. -/
inductive LC where
  | int (k : IntKind) | bool | str
  | sl (e : Nat)
section
variable {P : Program} {D : Nat → Type} (G : Tab D)
def LC.lt : LC → LT
  | .int k => .int k
  | .bool => .bool
  | .str => .str
  | .sl e => .sl (D e) (G.T e)
def toT : List LC → List LT
  | [] => []
  | c :: cs => c.lt G :: toT cs
def lvL : (ls : List LC) → inL (toT G ls) → List (CV D)
  | [], _ => []
  | .int k :: ls, x => .int k x.1 :: lvL ls x.2
  | .bool :: ls, x => .bool x.1 :: lvL ls x.2
  | .str :: ls, x => .str x.1 :: lvL ls x.2
  | .sl e :: ls, x => .sl e x.1 :: lvL ls x.2
def pkL : (ls : List LC) → List (CV D) → Option (inL (toT G ls))
  | [], [] => some ()
  | .int k :: ls, .int k' n :: cs => if k' = k then (match pkL ls cs with | some y => some (n, y) | none => none) else none
  | .bool :: ls, .bool b :: cs => (match pkL ls cs with | some y => some (b, y) | none => none)
  | .str :: ls, .str s :: cs => (match pkL ls cs with | some y => some (s, y) | none => none)
  | .sl e :: ls, .sl e' xs :: cs => if h : e' = e then (match pkL ls cs with | some y => some ((h ▸ xs : List (D e)), y) | none => none) else none
  | .sl e :: ls, .nilS :: cs => (match pkL ls cs with | some y => some (([] : List (D e)), y) | none => none)
  | _, _ => none
variable {G}
theorem lvL_ok {z : Nat → Blk} {vs : List Value} : ∀ {ls : List LC} {x : inL (toT G ls)} {cs : List Value}, rdL z (toT G ls) x cs → L2 (rel0 G z vs) (lvL G ls x) cs
  | [], _, [], _ => trivial
  | .int k :: ls, x, v :: w, h => ⟨h.1, lvL_ok h.2⟩
  | .bool :: ls, x, v :: w, h => ⟨h.1, lvL_ok h.2⟩
  | .str :: ls, x, v :: w, h => ⟨h.1, lvL_ok h.2⟩
  | .sl e :: ls, x, v :: w, h => ⟨h.1, lvL_ok h.2⟩
  | [], _, _ :: _, h => h.elim
  | .int _ :: _, _, [], h => h.elim
  | .bool :: _, _, [], h => h.elim
  | .str :: _, _, [], h => h.elim
  | .sl _ :: _, _, [], h => h.elim
theorem pkL_lv : ∀ {ls : List LC} (x : inL (toT G ls)), pkL G ls (lvL G ls x) = some x
  | [], _ => rfl
  | .int k :: ls, x => by
    show (if k = k then (match pkL G ls (lvL G ls x.2) with | some y => some (x.1, y) | none => none) else none) = _
    rw [pkL_lv x.2, if_pos rfl]; rfl
  | .bool :: ls, x => by
    show (match pkL G ls (lvL G ls x.2) with | some y => some (x.1, y) | none => none) = _
    rw [pkL_lv x.2]; rfl
  | .str :: ls, x => by
    show (match pkL G ls (lvL G ls x.2) with | some y => some (x.1, y) | none => none) = _
    rw [pkL_lv x.2]; rfl
  | .sl e :: ls, x => by
    show (if h : e = e then (match pkL G ls (lvL G ls x.2) with | some y => some ((h ▸ x.1 : List (D e)), y) | none => none) else none) = _
    rw [pkL_lv x.2, dif_pos rfl]; rfl
theorem pkL_ok {z : Nat → Blk} {vs : List Value} : ∀ {ls : List LC} {cs : List (CV D)} {x : inL (toT G ls)} {ds : List Value}, pkL G ls cs = some x → L2 (rel0 G z vs) cs ds → rdL z (toT G ls) x ds := by
  intro ls
  induction ls with
  | nil =>
    intro cs x ds h hr
    cases cs with
    | nil => cases ds with
      | nil => trivial
      | cons _ _ => exact hr.elim
    | cons c cs => cases h
  | cons l ls ih =>
    intro cs x ds h hr
    cases cs with
    | nil => cases l <;> cases h
    | cons c cs =>
      cases ds with
      | nil => exact hr.elim
      | cons d ds =>
        obtain ⟨h1, h2⟩ := hr
        have fin : ∀ {α : Type} {f : inL (toT G ls) → α} {o : Option (inL (toT G ls))} {r : α}, (match o with | some y => some (f y) | none => none) = some r → ∃ y, o = some y ∧ r = f y := by
          intro α f o r h
          cases o with
          | none => cases h
          | some y => cases h; exact ⟨y, rfl, rfl⟩
        cases l with
        | int k =>
          cases c with
          | int k' n =>
            obtain ⟨hk, h⟩ := ite_some (α := inL (toT G (.int k :: ls))) h
            subst hk
            obtain ⟨y, hy, rfl⟩ := fin h
            exact ⟨h1, ih hy h2⟩
          | _ => cases h
        | bool =>
          cases c with
          | bool n =>
            obtain ⟨y, hy, rfl⟩ := fin h
            exact ⟨h1, ih hy h2⟩
          | _ => cases h
        | str =>
          cases c with
          | str n =>
            obtain ⟨y, hy, rfl⟩ := fin h
            exact ⟨h1, ih hy h2⟩
          | _ => cases h
        | sl t =>
          cases c with
          | sl e' xs =>
            by_cases hk : e' = t
            · subst hk
              have h : (if h : e' = e' then (match pkL G ls cs with | some y => some ((h ▸ xs : List (D e')), y) | none => none) else none) = some x := h
              rw [dif_pos rfl] at h
              obtain ⟨y, hy, rfl⟩ := fin h
              exact ⟨h1, ih hy h2⟩
            · have h : (if h : e' = t then (match pkL G ls cs with | some y => some ((h ▸ xs : List (D t)), y) | none => none) else none) = some x := h
              rw [dif_neg hk] at h
              cases h
          | nilS =>
            obtain ⟨y, hy, rfl⟩ := fin h
            exact ⟨.inl ⟨h1, rfl⟩, ih hy h2⟩
          | _ => cases h
theorem pkL_n : ∀ {ls : List LC} {cs : List (CV D)} {x : inL (toT G ls)}, pkL G ls cs = some x → cs.all noNil = true → cs = lvL G ls x := by
  intro ls
  induction ls with
  | nil =>
    intro cs x h hr
    cases cs with
    | nil => rfl
    | cons c cs => cases h
  | cons l ls ih =>
    intro cs x h hr
    cases cs with
    | nil => cases l <;> cases h
    | cons c cs =>
      simp only [List.all_cons, Bool.and_eq_true] at hr
      obtain ⟨h1, h2⟩ := hr
      have fin : ∀ {α : Type} {f : inL (toT G ls) → α} {o : Option (inL (toT G ls))} {r : α}, (match o with | some y => some (f y) | none => none) = some r → ∃ y, o = some y ∧ r = f y := by
        intro α f o r h
        cases o with
        | none => cases h
        | some y => cases h; exact ⟨y, rfl, rfl⟩
      cases l with
      | int k =>
        cases c with
        | int k' n =>
          obtain ⟨hk, h⟩ := ite_some (α := inL (toT G (.int k :: ls))) h
          subst hk
          obtain ⟨y, hy, rfl⟩ := fin h
          exact congrArg (CV.int k' n :: ·) (ih hy h2)
        | _ => cases h
      | bool =>
        cases c with
        | bool n =>
          obtain ⟨y, hy, rfl⟩ := fin h
          exact congrArg (CV.bool n :: ·) (ih hy h2)
        | _ => cases h
      | str =>
        cases c with
        | str n =>
          obtain ⟨y, hy, rfl⟩ := fin h
          exact congrArg (CV.str n :: ·) (ih hy h2)
        | _ => cases h
      | sl t =>
        cases c with
        | sl e' xs =>
          by_cases hk : e' = t
          · subst hk
            have h : (if h : e' = e' then (match pkL G ls cs with | some y => some ((h ▸ xs : List (D e')), y) | none => none) else none) = some x := h
            rw [dif_pos rfl] at h
            obtain ⟨y, hy, rfl⟩ := fin h
            exact congrArg (CV.sl e' xs :: ·) (ih hy h2)
          · have h : (if h : e' = t then (match pkL G ls cs with | some y => some ((h ▸ xs : List (D t)), y) | none => none) else none) = some x := h
            rw [dif_neg hk] at h
            cases h
        | nilS => cases h1
        | _ => cases h
theorem toT_len : ∀ {ls : List LC}, (toT G ls).length = ls.length
  | [] => rfl
  | l :: ls => by simp [toT, toT_len]
def zcL : List LC → List (CV D)
  | [] => []
  | .int k :: ls => .int k 0 :: zcL ls
  | .bool :: ls => .bool false :: zcL ls
  | .str :: ls => .str [] :: zcL ls
  | .sl _ :: ls => .nilS :: zcL ls
def zvL : List LC → List Value
  | [] => []
  | .int k :: ls => .int k 0 :: zvL ls
  | .bool :: ls => .bool false :: zvL ls
  | .str :: ls => .string ⟨#[]⟩ :: zvL ls
  | .sl _ :: ls => .slice none 0 0 :: zvL ls
theorem zcL_ok {z : Nat → Blk} {vs : List Value} : ∀ {ls : List LC}, L2 (rel0 G z vs) (zcL ls : List (CV D)) (zvL ls)
  | [] => trivial
  | .int k :: ls => ⟨rfl, zcL_ok⟩
  | .bool :: ls => ⟨rfl, zcL_ok⟩
  | .str :: ls => ⟨rfl, zcL_ok⟩
  | .sl _ :: ls => ⟨rfl, zcL_ok⟩
theorem lvL_own : ∀ {ls : List LC} {x : inL (toT G ls)}, (lvL G ls x).all nOwn = true
  | [], _ => rfl
  | .int k :: ls, x => by simp only [lvL, List.all_cons, lvL_own, nOwn, Bool.and_self]
  | .bool :: ls, x => by simp only [lvL, List.all_cons, lvL_own, nOwn, Bool.and_self]
  | .str :: ls, x => by simp only [lvL, List.all_cons, lvL_own, nOwn, Bool.and_self]
  | .sl _ :: ls, x => by simp only [lvL, List.all_cons, lvL_own, nOwn, Bool.and_self]
/-- What the evaluator knows of a type of plain cells. -/
def tiOf {t : Nat} (ls : List LC) (to : D t → inL (toT G ls)) (of : inL (toT G ls) → D t) (h1 : ∀ x, of (to x) = x) (h2 : ∀ y, to (of y) = y) (x0 : D t) (i : TypeInfo) (zv : Value)
    (hT : G.T t = TyOf t (toT G ls) to) (hi : P.info? t = some i) (hsz : i.size = ls.length) (hpos : (ls.length == 0) = false) (hby : Nat.ble i.bytes 32768 = true) (hz : i.zero = some zv) (hzf : zv.cells.toList.all flat0 = true) (hzs : zv.cells.size = i.size)
    (rd0 : ∀ z, rdL z (toT G ls) (to x0) zv.cells.toList) (hzv : zv.cells.toList = zvL ls) : TI P G t where
  zc := zcL ls
  hzc := fun z vs => by rw [hzv]; exact zcL_ok
  lvo := fun x => lvL_own
  lv := fun x => lvL G ls (to x)
  pk := fun cs => match pkL G ls cs with | some y => some (of y) | none => none
  x0 := x0
  i := i
  zv := zv
  tid := by rw [hT]; rfl
  hi := hi
  hsz := by rw [hT, hsz]; exact toT_len.symm
  hpos := by
    rw [hT]
    show ((toT G ls).length == 0) = false
    rw [toT_len]; exact hpos
  hby := hby
  hz := hz
  hzf := hzf
  hzs := hzs
  rd0 := fun z => by rw [hT]; exact rd0 z
  rdl := fun z vs x cs h => by rw [hT] at h; exact lvL_ok h
  pkl := fun z vs cs x ds h hr => by
    rw [hT]
    split at h
    · rename_i y hy
      cases h
      show rdL z (toT G ls) (to (of y)) ds
      rw [h2]; exact pkL_ok hy hr
    · cases h
  pklv := fun x => by
    show (match pkL G ls (lvL G ls (to x)) with | some y => some (of y) | none => none) = some x
    rw [pkL_lv]; exact congrArg some (h1 x)
  pkn := fun cs x h hn => by
    split at h
    · rename_i y hy
      cases h
      rw [h2]; exact pkL_n hy hn
    · cases h
/-- Bytes. -/
theorem toU8_back (u : UInt8) : toU8 (u.toNat : Int) = some u := by
  unfold toU8
  have := u.toNat_lt
  rw [if_pos (by omega)]
  simp
def tiU8 {t : Nat} (to : D t → UInt8) (of : UInt8 → D t) (oo : Option UInt8 → Option (D t)) (hoo : ∀ o, oo o = o.map of) (h1 : ∀ x, of (to x) = x) (h2 : ∀ y, to (of y) = y) (i : TypeInfo) (htid : (G.T t).tid = t) (hsz' : (G.T t).sz = 1) (hrd : ∀ z x cs, (G.T t).rd z x cs ↔ cs = [.int .u8 (to x).toNat])
    (hi : P.info? t = some i) (hsz : i.size = 1) (hby : Nat.ble i.bytes 32768 = true) (hz : i.zero = some (.int .u8 0)) : TI P G t where
  zc := [.int .u8 0]
  hzc := fun z vs => ⟨rfl, trivial⟩
  lvo := fun x => rfl
  lv := fun x => [.int .u8 (to x).toNat]
  pk := fun cs => match cs with | [.int .u8 n] => oo (toU8 n) | _ => none
  x0 := of 0
  i := i
  zv := .int .u8 0
  tid := htid
  hi := hi
  hsz := by rw [hsz', hsz]
  hpos := by rw [hsz']; rfl
  hby := hby
  hz := hz
  hzf := rfl
  hzs := by rw [hsz]; rfl
  rd0 := fun z => (hrd z _ _).2 (by rw [h2]; rfl)
  rdl := fun z vs x cs h => by rw [(hrd z x cs).1 h]; exact ⟨rfl, trivial⟩
  pkl := fun z vs cs x ds h hr => by
    split at h
    · rename_i n
      cases ds with
      | nil => exact hr.elim
      | cons d ds =>
        cases ds with
        | cons _ _ => exact hr.2.elim
        | nil =>
          rw [hoo] at h
          cases hu : toU8 n with
          | none => rw [hu] at h; cases h
          | some u =>
            rw [hu] at h
            cases h
            have : d = .int .u8 n := hr.1
            rw [this, toU8_some hu]
            exact (hrd z _ _).2 (by rw [h2])
    · cases h
  pklv := fun x => by
    simp only [toU8_back, hoo, Option.map_some, h1]
  pkn := fun cs x h hn => by
    split at h
    · rename_i n
      rw [hoo] at h
      cases hu : toU8 n with
      | none => rw [hu] at h; cases h
      | some u =>
        rw [hu] at h
        cases h
        rw [h2, toU8_some hu]
    · cases h
/-- Structs of plain cells are compared cell by cell. -/
def lvV : (ls : List LC) → inL (toT G ls) → List Value
  | [], _ => []
  | .int k :: ls, x => .int k x.1 :: lvV ls x.2
  | .bool :: ls, x => .bool x.1 :: lvV ls x.2
  | .str :: ls, x => AM.str x.1 :: lvV ls x.2
  | .sl _ :: ls, x => undef :: lvV ls x.2
def scalLC (P : Program) : List Field → Nat → List LC → Bool
  | [], _, [] => true
  | f :: fs, i, .int _ :: ls => (f.offset == i && f.name != "_") && ((match P.underlying f.type with | some (.int _) => true | _ => false) && scalLC P fs (i + 1) ls)
  | f :: fs, i, .bool :: ls => (f.offset == i && f.name != "_") && ((match P.underlying f.type with | some .bool => true | _ => false) && scalLC P fs (i + 1) ls)
  | f :: fs, i, .str :: ls => (f.offset == i && f.name != "_") && ((match P.underlying f.type with | some .string => true | _ => false) && scalLC P fs (i + 1) ls)
  | _, _, _ => false
theorem scalLC_ok : ∀ {fs : List Field} {i : Nat} {ls : List LC} {x y : inL (toT G ls)}, scalLC P fs i ls = true → ScalF P fs i (lvV ls x) (lvV ls y)
  | [], _, [], _, _, _ => trivial
  | f :: fs, i, .int k :: ls, x, y, h => by
    simp only [scalLC, Bool.and_eq_true, beq_iff_eq, bne_iff_ne] at h
    obtain ⟨⟨h1, h2⟩, h3, h4⟩ := h
    refine ⟨h1, h2, .inl ?_, scalLC_ok h4⟩
    split at h3
    · exact ⟨k, _, _, _, ‹_›, rfl, rfl⟩
    · cases h3
  | f :: fs, i, .bool :: ls, x, y, h => by
    simp only [scalLC, Bool.and_eq_true, beq_iff_eq, bne_iff_ne] at h
    obtain ⟨⟨h1, h2⟩, h3, h4⟩ := h
    refine ⟨h1, h2, .inr (.inl ?_), scalLC_ok h4⟩
    split at h3
    · exact ⟨_, _, ‹_›, rfl, rfl⟩
    · cases h3
  | f :: fs, i, .str :: ls, x, y, h => by
    simp only [scalLC, Bool.and_eq_true, beq_iff_eq, bne_iff_ne] at h
    obtain ⟨⟨h1, h2⟩, h3, h4⟩ := h
    refine ⟨h1, h2, .inr (.inr ?_), scalLC_ok h4⟩
    split at h3
    · exact ⟨_, _, ‹_›, rfl, rfl⟩
    · cases h3
  | _ :: _, _, .sl _ :: _, _, _, h => by cases h
  | [], _, _ :: _, _, _, h => by cases h
  | _ :: _, _, [], _, _, h => by cases h
theorem lvV_inj : ∀ {fs : List Field} {i : Nat} {ls : List LC} {x y : inL (toT G ls)}, scalLC P fs i ls = true → lvV ls x = lvV ls y → x = y
  | _, _, [], _, _, _, _ => rfl
  | f :: fs, i, .int k :: ls, x, y, h, e => by
    simp only [scalLC, Bool.and_eq_true] at h
    simp only [lvV, List.cons.injEq] at e
    exact Prod.ext (Value.int.inj e.1).2 (lvV_inj h.2.2 e.2)
  | f :: fs, i, .bool :: ls, x, y, h, e => by
    simp only [scalLC, Bool.and_eq_true] at h
    simp only [lvV, List.cons.injEq] at e
    exact Prod.ext (Value.bool.inj e.1) (lvV_inj h.2.2 e.2)
  | f :: fs, i, .str :: ls, x, y, h, e => by
    simp only [scalLC, Bool.and_eq_true] at h
    simp only [lvV, List.cons.injEq] at e
    exact Prod.ext (str_inj e.1) (lvV_inj h.2.2 e.2)
  | _ :: _, _, .sl _ :: _, _, _, h, _ => by cases h
  | [], _, .sl _ :: _, _, _, h, _ => by cases h
  | [], _, .int _ :: _, _, _, h, _ => by cases h
  | [], _, .bool :: _, _, _, h, _ => by cases h
  | [], _, .str :: _, _, _, h, _ => by cases h
theorem lvV_rd {z : Nat → Blk} : ∀ {fs : List Field} {i : Nat} {ls : List LC} {x : inL (toT G ls)} {ds : List Value}, scalLC P fs i ls = true → rdL z (toT G ls) x ds → ds = lvV ls x
  | _, _, [], _, [], _, _ => rfl
  | _, _, [], _, _ :: _, _, h => h.elim
  | f :: fs, i, .int k :: ls, x, d :: ds, h, e => by
    simp only [scalLC, Bool.and_eq_true] at h
    have h1 : d = .int k x.1 := e.1
    rw [lvV, h1, ← lvV_rd h.2.2 e.2]
  | f :: fs, i, .bool :: ls, x, d :: ds, h, e => by
    simp only [scalLC, Bool.and_eq_true] at h
    have h1 : d = .bool x.1 := e.1
    rw [lvV, h1, ← lvV_rd h.2.2 e.2]
  | f :: fs, i, .str :: ls, x, d :: ds, h, e => by
    simp only [scalLC, Bool.and_eq_true] at h
    have h1 : d = AM.str x.1 := e.1
    rw [lvV, h1, ← lvV_rd h.2.2 e.2]
  | _ :: _, _, .sl _ :: _, _, _, h, _ => by cases h
  | [], _, _ :: _, _, _, h, _ => by cases h
  | _ :: _, _, .int _ :: _, _, [], _, h => h.elim
  | _ :: _, _, .bool :: _, _, [], _, h => h.elim
  | _ :: _, _, .str :: _, _, [], _, h => h.elim
def qiOf {t : Nat} (ls : List LC) (to : D t → inL (toT G ls)) (of : inL (toT G ls) → D t) (h1 : ∀ x, of (to x) = x) (fs : Array Field) (eq : D t → D t → Bool) (hT : G.T t = TyOf t (toT G ls) to) (he : ∀ x y, eq x y = true ↔ x = y)
    (ht : P.underlying t = some (.struct fs)) (hp : P.stoodInHeld t = false) (hg : P.eqGuardType P.depth t = false) (hs : scalLC P fs.toList 0 ls = true) : QI P G t where
  fs := fs
  eq := eq
  va := fun x => lvV ls (to x)
  ht := ht
  hp := hp
  hg := hg
  hs := fun x y => scalLC_ok hs
  hv := fun z x ds h => by rw [hT] at h; exact lvV_rd hs h
  he := fun x y => by
    rw [he]
    constructor
    · rintro rfl; rfl
    · intro h
      have := lvV_inj hs h
      rw [← h1 x, ← h1 y, this]
/-- Keys and values of maps. -/
def kgI {α : Type} (k : IntKind) (of : Int → α) : SV D → Option α := fun s => match s with | .c (.int k' n) => if k' = k then some (of n) else none | _ => none
def kgS {α : Type} (of : List UInt8 → α) : SV D → Option α := fun s => match s with | .c (.str n) => some (of n) | _ => none
def kgA {t : Nat} (ti : TI P G t) : SV D → Option (D t) := fun s => match s with | .agg t' cs => if t' = t then ti.pk cs else none | _ => none
def vgI {α : Type} (k : IntKind) (of : Int → α) : CV D → Option α := fun s => match s with | .int k' n => if k' = k then some (of n) else none | _ => none
def vgB {α : Type} (of : Bool → α) : CV D → Option α := fun s => match s with | .bool n => some (of n) | _ => none
theorem kgI_ok {z : Nat → Blk} {vs : List Value} {α : Type} {k : IntKind} {of : Int → α} {s : SV D} {a : α} {v : Value} (h : kgI k of s = some a) (hr : rel G z vs s v) : ∃ n, a = of n ∧ v = .int k n := by
  unfold kgI at h
  split at h
  · split at h
    · rename_i hk
      cases h; subst hk
      exact ⟨_, rfl, hr⟩
    · cases h
  · cases h
theorem kgS_ok {z : Nat → Blk} {vs : List Value} {α : Type} {of : List UInt8 → α} {s : SV D} {a : α} {v : Value} (h : kgS of s = some a) (hr : rel G z vs s v) : ∃ n, a = of n ∧ v = AM.str n := by
  unfold kgS at h
  split at h
  · cases h
    exact ⟨_, rfl, hr⟩
  · cases h
theorem kgA_ok {z : Nat → Blk} {vs : List Value} {t : Nat} {ti : TI P G t} {s : SV D} {a : D t} {v : Value} (h : kgA ti s = some a) (hr : rel G z vs s v) : ∃ ds : List Value, (G.T t).rd z a ds ∧ v = .agg ds.toArray := by
  unfold kgA at h
  split at h
  · obtain ⟨_, h⟩ := ite_some h
    obtain ⟨ds, h1, h2⟩ := hr
    exact ⟨ds, ti.pkl z vs _ _ _ h h2, h1⟩
  · cases h
theorem vgI_ok {z : Nat → Blk} {vs : List Value} {α : Type} {k : IntKind} {of : Int → α} {s : CV D} {a : α} {v : Value} (h : vgI k of s = some a) (hr : rel0 G z vs s v) : ∃ n, a = of n ∧ v = .int k n := by
  unfold vgI at h
  split at h
  · split at h
    · rename_i hk
      cases h; subst hk
      exact ⟨_, rfl, hr⟩
    · cases h
  · cases h
theorem vgB_ok {z : Nat → Blk} {vs : List Value} {α : Type} {of : Bool → α} {s : CV D} {a : α} {v : Value} (h : vgB of s = some a) (hr : rel0 G z vs s v) : ∃ n, a = of n ∧ v = .bool n := by
  unfold vgB at h
  split at h
  · cases h
    exact ⟨_, rfl, hr⟩
  · cases h
/-- What the evaluator needs of a key type, of a value type. -/
structure KI (P : Program) (G : Tab D) (kt : Nat) where
  dec : DecidableEq (D kt)
  K : KeyOk P kt (G.kc kt)
  kget : SV D → Option (D kt)
  hkg : ∀ z vs s a v, kget s = some a → rel G z vs s v → v = cellV (tyAgg P kt) (G.kc kt a)
structure VI (P : Program) (G : Tab D) (vt : Nat) where
  V : ValOk P vt (G.kc vt)
  vget : CV D → Option (D vt)
  vput : D vt → CV D
  z0 : D vt
  i : TypeInfo
  hi : P.info? vt = some i
  hvn : tyAgg P vt = false
  hz : i.zero = some (cellV false (G.kc vt z0))
  hvg : ∀ z vs c a v, vget c = some a → rel0 G z vs c v → v = cellV false (G.kc vt a)
  hvp : ∀ z vs a, rel0 G z vs (vput a) (cellV false (G.kc vt a))
def miOf {kt vt : Nat} (a : KI P G kt) (b : VI P G vt) : MI P G kt vt where
  dec := a.dec
  K := a.K
  V := b.V
  kget := a.kget
  vget := b.vget
  vput := b.vput
  z0 := b.z0
  i := b.i
  hi := b.hi
  hz := by rw [b.hvn]; exact b.hz
  hkg := a.hkg
  hvg := by rw [b.hvn]; exact b.hvg
  hvp := by rw [b.hvn]; exact b.hvp
  hvn := b.hvn
def kiI {kt : Nat} (k : IntKind) (of : Int → D kt) (dec : DecidableEq (D kt)) (i : TypeInfo) (h : P.underlying kt = some (.int k)) (K : KeyOk P kt (G.kc kt)) (hk : ∀ n, G.kc kt (of n) = [.int k n]) : KI P G kt where
  dec := dec
  K := K
  kget := kgI k of
  hkg := fun z vs s a v h1 h2 => by
    obtain ⟨n, rfl, rfl⟩ := kgI_ok h1 h2
    rw [hk, noAgg h rfl]; rfl
def kiS {kt : Nat} (of : List UInt8 → D kt) (dec : DecidableEq (D kt)) (h : P.underlying kt = some .string) (K : KeyOk P kt (G.kc kt)) (hk : ∀ n, G.kc kt (of n) = [AM.str n]) : KI P G kt where
  dec := dec
  K := K
  kget := kgS of
  hkg := fun z vs s a v h1 h2 => by
    obtain ⟨n, rfl, rfl⟩ := kgS_ok h1 h2
    rw [hk, noAgg h rfl]; rfl
def kiA {t : Nat} (dec : DecidableEq (D t)) (ti : TI P G t) (ls : List LC) (to : D t → inL (toT G ls)) (of : inL (toT G ls) → D t) (h1 : ∀ x, of (to x) = x) (fs : Array Field) (i : TypeInfo) (hT : G.T t = TyOf t (toT G ls) to)
    (ht : P.underlying t = some (.struct fs)) (hi : P.info? t = some i) (hp : P.stoodInHeld t = false) (hpos : (i.size == 0) = false) (hs : scalLC P fs.toList 0 ls = true) (hlen : ∀ a, (G.kc t a).length = i.size) (hk : ∀ a, G.kc t a = lvV ls (to a)) : KI P G t where
  dec := dec
  K := keyStruct ht hi hp hpos hlen (fun a b => by rw [hk, hk]; exact scalLC_ok hs) (fun a b h => by
    rw [hk, hk] at h
    have := lvV_inj hs h
    rw [← h1 a, ← h1 b, this])
  kget := kgA ti
  hkg := fun z vs s a v h2 h3 => by
    obtain ⟨ds, g1, rfl⟩ := kgA_ok h2 h3
    rw [hT] at g1
    rw [lvV_rd hs g1, hk]
    simp only [tyAgg, ht, aggT, cellV]
def viI {vt : Nat} (k : IntKind) (of : Int → D vt) (to : D vt → Int) (h1 : ∀ x, of (to x) = x) (i : TypeInfo) (h : P.underlying vt = some (.int k)) (hi : P.info? vt = some i) (V : ValOk P vt (G.kc vt)) (hk : ∀ n, G.kc vt (of n) = [.int k n]) (hz : i.zero = some (.int k 0)) : VI P G vt where
  V := V
  vget := vgI k of
  vput := fun x => .int k (to x)
  z0 := of 0
  i := i
  hi := hi
  hvn := noAgg h rfl
  hz := by rw [hk]; exact hz
  hvg := fun z vs c a v g1 g2 => by
    obtain ⟨n, rfl, rfl⟩ := vgI_ok g1 g2
    rw [hk]; rfl
  hvp := fun z vs a => by
    have := hk (to a)
    rw [h1] at this
    rw [this]; rfl
def viB {vt : Nat} (of : Bool → D vt) (to : D vt → Bool) (h1 : ∀ x, of (to x) = x) (i : TypeInfo) (h : P.underlying vt = some .bool) (hi : P.info? vt = some i) (V : ValOk P vt (G.kc vt)) (hk : ∀ n, G.kc vt (of n) = [.bool n]) (hz : i.zero = some (.bool false)) : VI P G vt where
  V := V
  vget := vgB of
  vput := fun x => .bool (to x)
  z0 := of false
  i := i
  hi := hi
  hvn := noAgg h rfl
  hz := by rw [hk]; exact hz
  hvg := fun z vs c a v g1 g2 => by
    obtain ⟨n, rfl, rfl⟩ := vgB_ok g1 g2
    rw [hk]; rfl
  hvp := fun z vs a => by
    have := hk (to a)
    rw [h1] at this
    rw [this]; rfl
theorem pc_cons {X : Ev P D} {B : Code} {u : Pc D} {us : List (Pc D)} (h : PcOk X B u) (hs : ∀ v ∈ us, PcOk X B v) : ∀ v ∈ u :: us, PcOk X B v := by
  intro v hv
  rcases List.mem_cons.1 hv with rfl | hv
  · exact h
  · exact hs v hv
theorem pc_nil {X : Ev P D} {B : Code} : ∀ v ∈ ([] : List (Pc D)), PcOk X B v := by simp
/-- A law: what the machine needs to know of it. -/
theorem CallOk.law {X : Ev P D} {d : FD D} {F : d.F} (hF : CallOk X d F) {m : Mem} {z : Nat → Blk} (hz : Fz z m) (hd : ∀ b, m.next ≤ b → m.blk b = .dead) {svs : List (SV D)} {args : List Value} (hL : L2 (rel X.G z []) svs args)
    (h : d.call X F svs [] (fun sv _ => some sv) = some (.c (.bool true))) : CallW P d.f args.toArray m fun v _ => v = .bool true := by
  have hM : Mm X.G ([] : List (Ob D)) z m m none [] := ⟨St.start hz hd, rfl, by simp, by simp⟩
  refine (hF svs [] (fun sv _ => some sv) _ args hM hL h).mono fun v m' hv => ?_
  obtain ⟨⟨z', vs', sv, O', _, _, _, _, hr, hK⟩, _⟩ := hv
  cases hK
  exact hr
end
end
end Go.AM
end
section
set_option linter.unusedVariables false
set_option linter.unusedSimpArgs false
set_option maxRecDepth 100000
set_option maxHeartbeats 1000000
namespace Go.W
open Go.AM
noncomputable section
/-- humpgen.Maker -/
structure Maker where
  l : (List Int)
  n : Int
deriving DecidableEq
/-- api.Track -/
structure Track where
  name : (List UInt8)
  length : Int
deriving DecidableEq
/-- api.Rule -/
structure Rule where
  number : Int
  kind : Int
  a : Int
  b : Int
  c : Int
deriving DecidableEq
/-- api.BrakeRow -/
structure BrakeRow where
  speed : Int
  grade : Int
  percent : Int
deriving DecidableEq
/-- api.YardConfig -/
structure YardConfig where
  tracks : (List Track)
  rules : (List Rule)
  table : (List BrakeRow)
  speed : Int
  grade : Int
deriving DecidableEq
/-- api.TrainOrder -/
structure TrainOrder where
  name : (List UInt8)
  track : Int
  dests : (List (List UInt8))
deriving DecidableEq
/-- api.Wagon -/
structure Wagon where
  number : (List UInt8)
  length : Int
  axles : Int
  mass : Int
  brake : Int
  goods : Int
  gentle : Bool
  dest : (List UInt8)
deriving DecidableEq
/-- api.Brakes -/
structure Brakes where
  length : Int
  axles : Int
  mass : Int
  braked : Int
  percent : Int
  required : Int
  missing : Int
deriving DecidableEq
/-- api.SetOut -/
structure SetOut where
  stop : Int
  wagons : Int
  groups : Int
deriving DecidableEq
/-- api.Final -/
structure Final where
  name : (List UInt8)
  wagons : (List Wagon)
  brakes : Brakes
  setOuts : (List SetOut)
deriving DecidableEq
/-- rulebook.train -/
structure Train where
  l : (List Wagon)
  off : (List Int)
  total : Brakes
deriving DecidableEq
/-! ### humpyard/humpgen.New -/
def gen_New (N : Nat) (x0 : List Int) : Option Maker :=
  some (Maker.mk x0 0)
/-! ### (*humpyard/humpgen.Maker).Next -/
def Maker_Next_0 (N : Nat) (x0 : Maker) (x5 : Int) (x11 : Bool) : Option Int :=
  if x11 = true then
    Option.bind (modI x0.n (x0.l.length : Int)) fun y1 =>
    Option.bind (getI x0.l y1) fun y2 =>
    Option.bind (divI x0.n (x0.l.length : Int)) fun y3 =>
    AM.lt (IntKind.wrap .i64 (y2 + (IntKind.wrap .i64 ((IntKind.wrap .i64 (y3)) * 7919)))) fun y4 =>
    some y4
  else
    some x5
def Maker_Next_1 (N : Nat) (x1 : Int) (x5 : Int) (x51 : Bool) : Option Int :=
  if x51 = true then
    AM.lt (IntKind.wrap .i64 (x5 + x1)) fun y7 =>
    some y7
  else
    some x5
def Maker_Next (N : Nat) (x0 : Maker) (x1 : Int) : Option (Int × Maker) :=
  Option.bind (Maker_Next_0 N x0 0 (decide (0 < (x0.l.length : Int)))) fun y5 =>
  Option.bind (modI y5 x1) fun y6 =>
  Option.bind (Maker_Next_1 N x1 y6 (decide (y6 < 0))) fun y8 =>
  some (y8, (Maker.mk x0.l (IntKind.wrap .i64 (x0.n + 1))))
/-! ### (*humpyard/humpgen.Maker).Pick -/
def Maker_Pick (N : Nat) (x0 : Maker) (x1 : List Int) : Option (Int × Maker) :=
  Option.bind (Maker_Next N x0 (x1.length : Int)) fun y1 =>
  Option.bind (getI x1 y1.1) fun y2 =>
  some (y2, y1.2)
/-! ### humpyard/yardgen.name -/
def yardgen_name (N : Nat) (x0 : Int) : Option (List UInt8) :=
  Option.bind (toU8 112) fun y1 =>
  Option.bind (toU8 (IntKind.wrap .u8 ((IntKind.wrap .i64 (48 + (Int.tmod (IntKind.wrap .i64 (Int.tdiv x0 10)) 10)))))) fun y2 =>
  Option.bind (toU8 (IntKind.wrap .u8 ((IntKind.wrap .i64 (48 + (Int.tmod x0 10)))))) fun y3 =>
  AM.lt ([y1, y2, y3] : List UInt8) fun y4 =>
  some y4
/-! ### humpyard/yardgen.Table -/
def yardgen_Table_0 (N : Nat) : Nat → Maker → (List BrakeRow) → Int → Option (Maker × List BrakeRow)
  | 0, _, _, _ => none
  | n + 1, x0, x3, x4 =>
    if (decide (0 < x4)) = true then
      Option.bind (Maker_Pick N x0 ([60, 80, 100, 120, 200] : List Int)) fun y2 =>
      Option.bind (Maker_Pick N y2.2 ([0, 50, 100, 250, 500] : List Int)) fun y3 =>
      Option.bind (Maker_Pick N y3.2 ([0, 10, 30, 50, 65, 100] : List Int)) fun y4 =>
      Option.bind (appI x3 ([(BrakeRow.mk y2.1 y3.1 y4.1)] : List BrakeRow)) fun y5 =>
      AM.lt (IntKind.wrap .i64 (x4 - 1)) fun y6 =>
      yardgen_Table_0 N n y4.2 y5 y6
    else
      some (x0, x3)
def yardgen_Table (N : Nat) (x0 : Maker) : Option (List BrakeRow × Maker) :=
  Option.bind (Maker_Next N x0 5) fun y1 =>
  Option.bind (yardgen_Table_0 N N y1.2 [] y1.1) fun y7 =>
  some (y7.2, y7.1)
/-! ### humpyard/yardgen.Rule -/
def yardgen_Rule_0 (N : Nat) (x0 : Maker) (x5 : Rule) (x12 : Int) : Option (Maker × Rule) :=
  AM.lt (x12 == 1) fun y2 =>
  if y2 = true then
    Option.bind (Maker_Pick N x0 ([0, 262, 700, 1500, 10000] : List Int)) fun y3 =>
    some (y3.2, (Rule.mk x5.number x5.kind y3.1 x5.b x5.c))
  else
    AM.lt (x12 == 2) fun y4 =>
    if y4 = true then
      Option.bind (Maker_Pick N x0 ([3, 8, 16, 40] : List Int)) fun y5 =>
      some (y5.2, (Rule.mk x5.number x5.kind y5.1 x5.b x5.c))
    else
      AM.lt (x12 == 3) fun y6 =>
      if y6 = true then
        Option.bind (Maker_Pick N x0 ([400, 1600, 4000, 20000] : List Int)) fun y7 =>
        some (y7.2, (Rule.mk x5.number x5.kind y7.1 x5.b x5.c))
      else
        AM.lt (x12 == 4) fun y8 =>
        if y8 = true then
          Option.bind (Maker_Pick N x0 ([0, 30, 50, 80] : List Int)) fun y9 =>
          some (y9.2, (Rule.mk x5.number x5.kind y9.1 x5.b x5.c))
        else
          AM.lt (x12 == 5) fun y10 =>
          if y10 = true then
            Option.bind (Maker_Pick N x0 ([1, 3, 9] : List Int)) fun y11 =>
            Option.bind (Maker_Pick N y11.2 ([0, 1, 3] : List Int)) fun y12 =>
            Option.bind (Maker_Next N y12.2 4) fun y13 =>
            some (y13.2, (Rule.mk x5.number x5.kind y11.1 y12.1 y13.1))
          else
            AM.lt (x12 == 6) fun y14 =>
            if y14 = true then
              Option.bind (Maker_Pick N x0 ([0, 1, 3] : List Int)) fun y15 =>
              Option.bind (Maker_Next N y15.2 4) fun y16 =>
              some (y16.2, (Rule.mk x5.number x5.kind y15.1 y16.1 x5.c))
            else
              AM.lt (x12 == 7) fun y17 =>
              if y17 = true then
                Option.bind (Maker_Next N x0 5) fun y18 =>
                Option.bind (Maker_Next N y18.2 4) fun y19 =>
                some (y19.2, (Rule.mk x5.number x5.kind y18.1 y19.1 x5.c))
              else
                AM.lt (x12 == 8) fun y20 =>
                if y20 = true then
                  Option.bind (Maker_Pick N x0 ([50, 200, 500] : List Int)) fun y21 =>
                  some (y21.2, (Rule.mk x5.number x5.kind y21.1 x5.b x5.c))
                else
                  Option.bind (Maker_Pick N x0 ([100, 400] : List Int)) fun y22 =>
                  Option.bind (Maker_Pick N y22.2 ([0, 800, 3000] : List Int)) fun y23 =>
                  some (y23.2, (Rule.mk x5.number x5.kind y22.1 y23.1 x5.c))
def yardgen_Rule (N : Nat) (x0 : Maker) (x1 : Int) : Option (Rule × Maker) :=
  Option.bind (Maker_Next N x0 9) fun y1 =>
  Option.bind (yardgen_Rule_0 N y1.2 (Rule.mk x1 (IntKind.wrap .i64 (1 + y1.1)) 0 0 0) (IntKind.wrap .i64 (1 + y1.1))) fun y24 =>
  some (y24.2, y24.1)
/-! ### humpyard/yardgen.Rules -/
def yardgen_Rules_0 (N : Nat) : Nat → Maker → (List Rule) → Int → Option (Maker × List Rule)
  | 0, _, _, _ => none
  | n + 1, x0, x5, x6 =>
    if (decide (0 < x6)) = true then
      Option.bind (Maker_Next N x0 9) fun y2 =>
      Option.bind (yardgen_Rule N y2.2 (IntKind.wrap .i64 ((IntKind.wrap .i64 ((IntKind.wrap .i64 (10 * (x5.length : Int))) + 1)) + y2.1))) fun y3 =>
      Option.bind (appI x5 ([y3.1] : List Rule)) fun y4 =>
      AM.lt (IntKind.wrap .i64 (x6 - 1)) fun y5 =>
      yardgen_Rules_0 N n y3.2 y4 y5
    else
      some (x0, x5)
def yardgen_Rules (N : Nat) (x0 : Maker) (x1 : Int) : Option (List Rule × Maker) :=
  Option.bind (Maker_Next N x0 (IntKind.wrap .i64 (x1 + 1))) fun y1 =>
  Option.bind (yardgen_Rules_0 N N y1.2 [] y1.1) fun y6 =>
  some (y6.2, y6.1)
/-! ### humpyard/yardgen.Config -/
def yardgen_Config_0 (N : Nat) : Nat → Maker → YardConfig → Int → (List Track) → Option (Maker × YardConfig × List Track)
  | 0, _, _, _, _ => none
  | n + 1, x0, x5, x6, x2005000 =>
    if (decide (0 < x6)) = true then
      Option.bind (yardgen_name N (x2005000.length : Int)) fun y6 =>
      Option.bind (Maker_Pick N x0 ([500, 1500, 3000, 8000, 100000] : List Int)) fun y7 =>
      Option.bind (appI x2005000 ([(Track.mk y6 y7.1)] : List Track)) fun y8 =>
      AM.lt (IntKind.wrap .i64 (x6 - 1)) fun y9 =>
      yardgen_Config_0 N n y7.2 (YardConfig.mk [] x5.rules [] x5.speed x5.grade) y9 y8
    else
      some (x0, (YardConfig.mk [] x5.rules [] x5.speed x5.grade), x2005000)
def yardgen_Config_1 (N : Nat) (x0 : Maker) (x1 : Bool) : Option (Maker × Bool) :=
  if (!x1) = true then
    some (x0, true)
  else
    Option.bind (Maker_Next N x0 3) fun y13 =>
    some (y13.2, (y13.1 == 0))
def yardgen_Config_2 (N : Nat) (x0 : Maker) (x5 : YardConfig) (x51 : Bool) (x2005000 : List Track) (x2005002 : List BrakeRow) : Option (Maker × YardConfig × List Track × List BrakeRow) :=
  if x51 = true then
    Option.bind (yardgen_Rules N x0 3) fun y15 =>
    some (y15.2, (YardConfig.mk [] y15.1 [] x5.speed x5.grade), x2005000, x2005002)
  else
    some (x0, (YardConfig.mk [] x5.rules [] x5.speed x5.grade), x2005000, x2005002)
def yardgen_Config (N : Nat) (x0 : Maker) (x1 : Bool) : Option (YardConfig × Maker) :=
  Option.bind (Maker_Pick N x0 ([60, 80, 100] : List Int)) fun y1 =>
  Option.bind (Maker_Pick N y1.2 ([0, 50, 100] : List Int)) fun y2 =>
  Option.bind (Maker_Pick N y2.2 ([0, 0, 10, 40] : List Int)) fun y3 =>
  Option.bind (Maker_Next N y3.2 5) fun y4 =>
  AM.lt (IntKind.wrap .i64 (4 + y4.1)) fun y5 =>
  Option.bind (yardgen_Config_0 N N y4.2 (YardConfig.mk [] [] [] y1.1 y2.1) y5 []) fun y10 =>
  Option.bind (yardgen_Table N y10.1) fun y11 =>
  Option.bind (appI ([(BrakeRow.mk 200 500 y3.1)] : List BrakeRow) y11.1) fun y12 =>
  Option.bind (yardgen_Config_1 N y11.2 x1) fun y14 =>
  Option.bind (yardgen_Config_2 N y14.1 (YardConfig.mk [] y10.2.1.rules [] y10.2.1.speed y10.2.1.grade) y14.2 y10.2.2 y12) fun y16 =>
  some ((YardConfig.mk y16.2.2.1 y16.2.1.rules y16.2.2.2 y16.2.1.speed y16.2.1.grade), y16.1)
/-! ### (*humpyard/humpgen.Maker).Digits -/
def Maker_Digits_0 (N : Nat) (x1 : Int) : Nat → Maker → (List UInt8) → Int → Option (Maker × List UInt8)
  | 0, _, _, _ => none
  | n + 1, x0, x5, x6 =>
    if (decide (x6 < x1)) = true then
      Option.bind (Maker_Next N x0 10) fun y2 =>
      Option.bind (getI x5 x6) fun y3 =>
      Option.bind (getI x5 x6) fun y4 =>
      Option.bind (toU8 (IntKind.wrap .u8 ((IntKind.wrap .i64 (48 + y2.1))))) fun y5 =>
      AM.lt (x5.set ((x6 : Int).toNat) y5) fun y6 =>
      AM.lt (IntKind.wrap .i64 (x6 + 1)) fun y7 =>
      Maker_Digits_0 N x1 n y2.2 y6 y7
    else
      some (x0, x5)
def Maker_Digits (N : Nat) (x0 : Maker) (x1 : Int) : Option (List UInt8 × Maker) :=
  Option.bind (mkI 0 x1) fun y1 =>
  Option.bind (Maker_Digits_0 N x1 N x0 y1 0) fun y8 =>
  some (y8.2, y8.1)
/-! ### humpyard/humpyardref02.digits -/
def r02_digits_1 (N : Nat) (x0 : List UInt8) (x5 : Int) : Option Bool :=
  Option.bind (getI x0 x5) fun y1 =>
  if (decide ((UInt8.toNat y1 : Int) < 48)) = true then
    some true
  else
    Option.bind (getI x0 x5) fun y2 =>
    some (decide (57 < (UInt8.toNat y2 : Int)))
def r02_digits_0 (N : Nat) (x0 : List UInt8) (x1 : Int) : Nat → Int → Option (Sum (Unit) (Bool))
  | 0, _ => none
  | n + 1, x5 =>
    if (decide (x5 < x1)) = true then
      Option.bind (r02_digits_1 N x0 x5) fun y3 =>
      if y3 = true then
        some (Sum.inr false)
      else
        AM.lt (IntKind.wrap .i64 (x5 + 1)) fun y4 =>
        r02_digits_0 N x0 x1 n y4
    else
      some (Sum.inl ())
def r02_digits (N : Nat) (x0 : List UInt8) (x1 : Int) : Option Bool :=
  if ((x0.length : Int) != x1) = true then
    some false
  else
    Option.bind (r02_digits_0 N x0 x1 N 0) fun y5 =>
    match y5 with
    | Sum.inl y6 =>
      some true
    | Sum.inr y7 =>
      some y7
/-! ### humpyard/humpyardref02.sum -/
def r02_sum_1 (N : Nat) (x7 : Int) (x20 : Bool) : Option Int :=
  if x20 = true then
    AM.lt (IntKind.wrap .i64 (x7 * 2)) fun y3 =>
    if (decide (9 < y3)) = true then
      AM.lt (IntKind.wrap .i64 (y3 - 9)) fun y4 =>
      some y4
    else
      some y3
  else
    some x7
def r02_sum_0 (N : Nat) (x0 : List UInt8) (x1 : Int) : Nat → Int → Int → Option Int
  | 0, _, _ => none
  | n + 1, x5, x6 =>
    if (decide (x6 < x1)) = true then
      Option.bind (getI x0 x6) fun y1 =>
      AM.lt (IntKind.wrap .i64 ((IntKind.wrap .u8 ((UInt8.toNat y1 : Int) - 48)))) fun y2 =>
      Option.bind (r02_sum_1 N y2 ((Int.tmod x6 2) == 0)) fun y5 =>
      AM.lt (IntKind.wrap .i64 (x5 + y5)) fun y6 =>
      AM.lt (IntKind.wrap .i64 (x6 + 1)) fun y7 =>
      r02_sum_0 N x0 x1 n y6 y7
    else
      some x5
def r02_sum (N : Nat) (x0 : List UInt8) (x1 : Int) : Option Int :=
  Option.bind (r02_sum_0 N x0 x1 N 0 0) fun y8 =>
  some y8
/-! ### humpyard/humpyardref02.Digit -/
def r02_Digit (N : Nat) (x0 : List UInt8) : Option (Int × Int) :=
  Option.bind (r02_digits N x0 11) fun y1 =>
  if (!y1) = true then
    some (0, 11)
  else
    Option.bind (r02_sum N x0 11) fun y2 =>
    AM.lt (Int.tmod (IntKind.wrap .i64 (10 - (Int.tmod y2 10))) 10) fun y3 =>
    some (y3, 0)
/-! ### (*humpyard/humpgen.Maker).Number -/
def Maker_Number (N : Nat) (x0 : Maker) (x1 : Int) : Option (List UInt8 × Maker) :=
  Option.bind (Maker_Digits N x0 11) fun y1 =>
  Option.bind (appI y1.1 []) fun y2 =>
  Option.bind (getI y2 8) fun y3 =>
  Option.bind (getI y2 8) fun y4 =>
  Option.bind (toU8 (IntKind.wrap .u8 ((IntKind.wrap .i64 (48 + (Int.tmod (IntKind.wrap .i64 (Int.tdiv x1 100)) 10)))))) fun y5 =>
  AM.lt (y2.set ((8 : Int).toNat) y5) fun y6 =>
  Option.bind (getI y6 9) fun y7 =>
  Option.bind (getI y6 9) fun y8 =>
  Option.bind (toU8 (IntKind.wrap .u8 ((IntKind.wrap .i64 (48 + (Int.tmod (IntKind.wrap .i64 (Int.tdiv x1 10)) 10)))))) fun y9 =>
  AM.lt (y6.set ((9 : Int).toNat) y9) fun y10 =>
  Option.bind (getI y10 10) fun y11 =>
  Option.bind (getI y10 10) fun y12 =>
  Option.bind (toU8 (IntKind.wrap .u8 ((IntKind.wrap .i64 (48 + (Int.tmod x1 10)))))) fun y13 =>
  AM.lt (y10.set ((10 : Int).toNat) y13) fun y14 =>
  Option.bind (r02_Digit N y14) fun y15 =>
  Option.bind (toU8 (IntKind.wrap .u8 ((IntKind.wrap .i64 (48 + y15.1))))) fun y16 =>
  Option.bind (appI y14 ([y16] : List UInt8)) fun y17 =>
  some (y17, y1.2)
/-! ### (*humpyard/humpgen.Maker).Name -/
def Maker_Name (N : Nat) (x0 : Maker) : Option (List UInt8 × Maker) :=
  Option.bind (Maker_Next N x0 10) fun y1 =>
  Option.bind (getI ([[97], [98], [99], [100], [101], [110, 111, 114, 116, 104], [115, 111, 117, 116, 104], [112, 111, 114, 116, 49], [120, 57], [97, 98, 99, 100, 101, 102, 103, 104, 105, 106, 107, 108]] : List (List UInt8)) y1.1) fun y2 =>
  Option.bind (getI ([[97], [98], [99], [100], [101], [110, 111, 114, 116, 104], [115, 111, 117, 116, 104], [112, 111, 114, 116, 49], [120, 57], [97, 98, 99, 100, 101, 102, 103, 104, 105, 106, 107, 108]] : List (List UInt8)) y1.1) fun y3 =>
  some (y3, y1.2)
/-! ### (*humpyard/humpgen.Maker).Wagon -/
def Maker_Wagon_1 (N : Nat) (x26 : Int) (x27 : Bool) : Option Bool :=
  if x27 = true then
    some x27
  else
    AM.lt (x26 == 52) fun y9 =>
    some y9
def Maker_Wagon_0 (N : Nat) (x5 : Wagon) (x26 : Int) : Option Wagon :=
  AM.lt (x26 == 50) fun y8 =>
  Option.bind (Maker_Wagon_1 N x26 y8) fun y10 =>
  if y10 = true then
    some (Wagon.mk x5.number x5.length 2 x5.mass x5.brake x5.goods x5.gentle x5.dest)
  else
    AM.lt (x26 == 57) fun y11 =>
    if y11 = true then
      some (Wagon.mk x5.number (max x5.length 120) 6 x5.mass x5.brake x5.goods x5.gentle x5.dest)
    else
      some x5
def Maker_Wagon (N : Nat) (x0 : Maker) (x1 : Int) : Option (Wagon × Maker) :=
  Option.bind (Maker_Number N x0 x1) fun y1 =>
  Option.bind (Maker_Pick N y1.2 ([80, 120, 142, 199, 262, 400] : List Int)) fun y2 =>
  Option.bind (Maker_Pick N y2.2 ([50, 120, 400, 800, 2000] : List Int)) fun y3 =>
  Option.bind (Maker_Pick N y3.2 ([0, 0, 0, 1, 3, 9] : List Int)) fun y4 =>
  Option.bind (Maker_Next N y4.2 5) fun y5 =>
  Option.bind (Maker_Name N y5.2) fun y6 =>
  Option.bind (getI y1.1 4) fun y7 =>
  Option.bind (Maker_Wagon_0 N (Wagon.mk y1.1 y2.1 4 y3.1 0 y4.1 (y5.1 == 0) y6.1) (UInt8.toNat y7 : Int)) fun y12 =>
  Option.bind (Maker_Next N y6.2 5) fun y13 =>
  some ((Wagon.mk y12.number y12.length y12.axles y12.mass (IntKind.wrap .i64 (Int.tdiv (IntKind.wrap .i64 (y12.mass * y13.1)) 4)) y12.goods y12.gentle y12.dest), y13.2)
/-! ### (*humpyard/humpgen.Maker).Wagons -/
def Maker_Wagons_0 (N : Nat) : Nat → Maker → (List Wagon) → Int → Option (Maker × List Wagon)
  | 0, _, _, _ => none
  | n + 1, x0, x5, x6 =>
    if (decide (0 < x6)) = true then
      Option.bind (Maker_Wagon N x0 (x5.length : Int)) fun y2 =>
      Option.bind (appI x5 ([y2.1] : List Wagon)) fun y3 =>
      AM.lt (IntKind.wrap .i64 (x6 - 1)) fun y4 =>
      Maker_Wagons_0 N n y2.2 y3 y4
    else
      some (x0, x5)
def Maker_Wagons (N : Nat) (x0 : Maker) (x1 : Int) : Option (List Wagon × Maker) :=
  Option.bind (Maker_Next N x0 (IntKind.wrap .i64 (x1 + 1))) fun y1 =>
  Option.bind (Maker_Wagons_0 N N y1.2 [] y1.1) fun y5 =>
  some (y5.2, y5.1)
/-! ### humpyard/humpyardlaw37.made -/
def l37_made_1 (N : Nat) (x0 : Maker) (x8 : TrainOrder) (x9 : List Wagon) (x10 : Int) (x11 : Int) : Option (Maker × List Wagon × Int) :=
  Option.bind (Maker_Pick N x0 ([0, 0, 0, 1] : List Int)) fun y6 =>
  AM.lt (min (IntKind.wrap .i64 ((x8.dests.length : Int) - 1)) (IntKind.wrap .i64 (x10 + y6.1))) fun y7 =>
  Option.bind (getI x8.dests y7) fun y8 =>
  Option.bind (getI x9 x11) fun y9 =>
  Option.bind (getI x9 x11) fun y10 =>
  AM.lt (x9.set ((x11 : Int).toNat) (Wagon.mk y10.number y10.length y10.axles y10.mass y10.brake y10.goods y10.gentle y8)) fun y11 =>
  Option.bind (Maker_Next N y6.2 25) fun y12 =>
  if (y12.1 == 0) = true then
    Option.bind (Maker_Next N y12.2 3) fun y13 =>
    Option.bind (getI ([[97], [98], [101]] : List (List UInt8)) y13.1) fun y14 =>
    Option.bind (getI ([[97], [98], [101]] : List (List UInt8)) y13.1) fun y15 =>
    Option.bind (getI y11 x11) fun y16 =>
    Option.bind (getI y11 x11) fun y17 =>
    AM.lt (y11.set ((x11 : Int).toNat) (Wagon.mk y17.number y17.length y17.axles y17.mass y17.brake y17.goods y17.gentle y15)) fun y18 =>
    some (y13.2, y18, y7)
  else
    some (y12.2, y11, y7)
def l37_made_0 (N : Nat) (x8 : TrainOrder) : Nat → Maker → (List Wagon) → Int → Int → Option (Maker × List Wagon)
  | 0, _, _, _, _ => none
  | n + 1, x0, x9, x10, x11 =>
    if (decide (x11 < (x9.length : Int))) = true then
      Option.bind (l37_made_1 N x0 x8 x9 x10 x11) fun y19 =>
      AM.lt (IntKind.wrap .i64 (x11 + 1)) fun y20 =>
      l37_made_0 N x8 n y19.1 y19.2.1 y19.2.2 y20
    else
      some (x0, x9)
def l37_made (N : Nat) (x0 : Maker) (x1 : Int) : Option (YardConfig × TrainOrder × List Wagon × Maker) :=
  Option.bind (yardgen_Config N x0 false) fun y1 =>
  Option.bind (Maker_Next N y1.2 (y1.1.tracks.length : Int)) fun y2 =>
  Option.bind (Maker_Next N y2.2 4) fun y3 =>
  Option.bind (cutI ([[99], [97], [100], [98]] : List (List UInt8)) 0 (IntKind.wrap .i64 (1 + y3.1))) fun y4 =>
  Option.bind (Maker_Wagons N y3.2 x1) fun y5 =>
  Option.bind (l37_made_0 N (TrainOrder.mk [120] y2.1 y4) N y5.2 y5.1 0 0) fun y21 =>
  some (y1.1, (TrainOrder.mk [120] y2.1 y4), y21.2, y21.1)
/-! ### humpyard/trainbuild.name -/
def trainbuild_name_1 (N : Nat) (x0 : List UInt8) (x3 : Int) : Option Bool :=
  Option.bind (getI x0 x3) fun y1 =>
  if (decide ((UInt8.toNat y1 : Int) < 97)) = true then
    Option.bind (getI x0 x3) fun y2 =>
    if (decide ((UInt8.toNat y2 : Int) < 48)) = true then
      some true
    else
      Option.bind (getI x0 x3) fun y3 =>
      some (decide (57 < (UInt8.toNat y3 : Int)))
  else
    Option.bind (getI x0 x3) fun y4 =>
    if (decide (122 < (UInt8.toNat y4 : Int))) = true then
      Option.bind (getI x0 x3) fun y5 =>
      if (decide ((UInt8.toNat y5 : Int) < 48)) = true then
        some true
      else
        Option.bind (getI x0 x3) fun y6 =>
        some (decide (57 < (UInt8.toNat y6 : Int)))
    else
      some false
def trainbuild_name_0 (N : Nat) (x0 : List UInt8) (x5 : Int) : Nat → Int → Option (Sum (Unit) (Bool))
  | 0, _ => none
  | n + 1, x6 =>
    if (decide (x6 < x5)) = true then
      Option.bind (trainbuild_name_1 N x0 x6) fun y7 =>
      if y7 = true then
        some (Sum.inr false)
      else
        trainbuild_name_0 N x0 x5 n (IntKind.wrap .i64 (x6 + 1))
    else
      some (Sum.inl ())
def trainbuild_name_2 (N : Nat) (x0 : List UInt8) : Option Bool :=
  if (decide (1 ≤ (x0.length : Int))) = true then
    AM.lt (decide ((x0.length : Int) ≤ 12)) fun y10 =>
    some y10
  else
    some false
def trainbuild_name (N : Nat) (x0 : List UInt8) : Option Bool :=
  Option.bind (trainbuild_name_0 N x0 (x0.length : Int) N 0) fun y8 =>
  match y8 with
  | Sum.inl y9 =>
    Option.bind (trainbuild_name_2 N x0) fun y11 =>
    some y11
  | Sum.inr y12 =>
    some y12
/-! ### humpyard/rulebook.valid -/
def rulebook_valid_1 (N : Nat) (x4 : Int) : Option Bool :=
  if (decide (x4 < 0)) = true then
    some true
  else
    some (decide (1000000 < x4))
def rulebook_valid_0 (N : Nat) (x11 : List Int) (x12 : Int) : Nat → Int → Option (Sum (Unit) (Bool))
  | 0, _ => none
  | n + 1, x13 =>
    if (decide (x13 < x12)) = true then
      Option.bind (getI x11 x13) fun y1 =>
      Option.bind (getI x11 x13) fun y2 =>
      Option.bind (rulebook_valid_1 N y2) fun y3 =>
      if y3 = true then
        some (Sum.inr false)
      else
        rulebook_valid_0 N x11 x12 n (IntKind.wrap .i64 (x13 + 1))
    else
      some (Sum.inl ())
def rulebook_valid_2 (N : Nat) (x1 : Rule) : Option Bool :=
  if (decide (1 ≤ x1.number)) = true then
    if (decide (x1.number ≤ 9999)) = true then
      if (decide (1 ≤ x1.kind)) = true then
        AM.lt (decide (x1.kind ≤ 9)) fun y6 =>
        some y6
      else
        some false
    else
      some false
  else
    some false
def rulebook_valid (N : Nat) (x0 : Rule) : Option Bool :=
  Option.bind (rulebook_valid_0 N ([x0.a, x0.b, x0.c] : List Int) (([x0.a, x0.b, x0.c] : List Int).length : Int) N 0) fun y4 =>
  match y4 with
  | Sum.inl y5 =>
    Option.bind (rulebook_valid_2 N x0) fun y7 =>
    some y7
  | Sum.inr y8 =>
    some y8
/-! ### humpyard/rulebook.Valid$1 -/
def rulebook_Valid_1 (N : Nat) (x0 : Rule) (x1 : Rule) : Option Bool :=
  AM.lt (x0.number == x1.number) fun y1 =>
  some y1
/-! ### slices.IndexFunc[[]humpyard/api.Rule,humpyard/api.Rule] -/
def slices_IndexFunc_api_Rule_api_Rule__rulebook_Valid_1_0 (N : Nat) (x0 : List Rule) (x1 : Rule) (x7 : Int) : Nat → Int → Option (Sum (Unit) (Int))
  | 0, _ => none
  | n + 1, x8 =>
    if (decide (x8 < x7)) = true then
      Option.bind (getI x0 x8) fun y1 =>
      Option.bind (rulebook_Valid_1 N y1 x1) fun y2 =>
      if y2 = true then
        some (Sum.inr x8)
      else
        slices_IndexFunc_api_Rule_api_Rule__rulebook_Valid_1_0 N x0 x1 x7 n (IntKind.wrap .i64 (x8 + 1))
    else
      some (Sum.inl ())
def slices_IndexFunc_api_Rule_api_Rule__rulebook_Valid_1 (N : Nat) (x0 : List Rule) (x1 : Rule) : Option Int :=
  Option.bind (slices_IndexFunc_api_Rule_api_Rule__rulebook_Valid_1_0 N x0 x1 (x0.length : Int) N 0) fun y3 =>
  match y3 with
  | Sum.inl y4 =>
    some (-1)
  | Sum.inr y5 =>
    some y5
/-! ### slices.ContainsFunc[[]humpyard/api.Rule,humpyard/api.Rule] -/
def slices_ContainsFunc_api_Rule_api_Rule__rulebook_Valid_1 (N : Nat) (x0 : List Rule) (x1 : Rule) : Option Bool :=
  Option.bind (slices_IndexFunc_api_Rule_api_Rule__rulebook_Valid_1 N x0 x1) fun y1 =>
  AM.lt (decide (0 ≤ y1)) fun y2 =>
  some y2
/-! ### humpyard/rulebook.Valid -/
def rulebook_Valid_0 (N : Nat) (x0 : List Rule) (x8 : List Rule) (x9 : Int) : Nat → Int → Option (Sum (Unit) (Int))
  | 0, _ => none
  | n + 1, x10 =>
    if (decide (x10 < x9)) = true then
      Option.bind (getI x8 x10) fun y1 =>
      Option.bind (rulebook_valid N y1) fun y2 =>
      if (!y2) = true then
        some (Sum.inr 1)
      else
        Option.bind (cutI x0 0 x10) fun y3 =>
        Option.bind (slices_ContainsFunc_api_Rule_api_Rule__rulebook_Valid_1 N y3 y1) fun y4 =>
        if y4 = true then
          some (Sum.inr 8)
        else
          rulebook_Valid_0 N x0 x8 x9 n (IntKind.wrap .i64 (x10 + 1))
    else
      some (Sum.inl ())
def rulebook_Valid (N : Nat) (x0 : List Rule) : Option Int :=
  if (decide (32 < (x0.length : Int))) = true then
    some 3
  else
    Option.bind (rulebook_Valid_0 N x0 x0 (x0.length : Int) N 0) fun y5 =>
    match y5 with
    | Sum.inl y6 =>
      some 0
    | Sum.inr y7 =>
      some y7
/-! ### humpyard/brake.in -/
def brake_in_0 (N : Nat) (x0 : Int) (x1 : Int) (x2 : Int) : Option Bool :=
  if (decide (x1 ≤ x0)) = true then
    AM.lt (decide (x0 ≤ x2)) fun y1 =>
    some y1
  else
    some false
def brake_in (N : Nat) (x0 : Int) (x1 : Int) (x2 : Int) : Option Bool :=
  Option.bind (brake_in_0 N x0 x1 x2) fun y2 =>
  some y2
/-! ### humpyard/brake.ValidTable -/
def brake_ValidTable_1 (N : Nat) (x4 : BrakeRow) : Option Bool :=
  Option.bind (brake_in N x4.speed 1 200) fun y2 =>
  if (!y2) = true then
    some true
  else
    Option.bind (brake_in N x4.grade 0 500) fun y3 =>
    if (!y3) = true then
      some true
    else
      Option.bind (brake_in N x4.percent 0 250) fun y4 =>
      some (!y4)
def brake_ValidTable_0 (N : Nat) (x5 : List BrakeRow) (x6 : Int) : Nat → Int → Option (Sum (Unit) (Bool))
  | 0, _ => none
  | n + 1, x7 =>
    if (decide (x7 < x6)) = true then
      Option.bind (getI x5 x7) fun y1 =>
      Option.bind (brake_ValidTable_1 N y1) fun y5 =>
      if y5 = true then
        some (Sum.inr false)
      else
        brake_ValidTable_0 N x5 x6 n (IntKind.wrap .i64 (x7 + 1))
    else
      some (Sum.inl ())
def brake_ValidTable (N : Nat) (x0 : List BrakeRow) : Option Bool :=
  Option.bind (brake_ValidTable_0 N x0 (x0.length : Int) N 0) fun y6 =>
  match y6 with
  | Sum.inl y7 =>
    AM.lt (decide ((x0.length : Int) ≤ 64)) fun y8 =>
    some y8
  | Sum.inr y9 =>
    some y9
/-! ### humpyard/trainbuild.ValidConfig -/
def trainbuild_ValidConfig_0 (N : Nat) (x1 : YardConfig) : Option Bool :=
  if (decide ((x1.tracks.length : Int) < 1)) = true then
    some true
  else
    if (decide (24 < (x1.tracks.length : Int))) = true then
      some true
    else
      if (decide (x1.speed < 1)) = true then
        some true
      else
        if (decide (200 < x1.speed)) = true then
          some true
        else
          if (decide (x1.grade < 0)) = true then
            some true
          else
            some (decide (500 < x1.grade))
def trainbuild_ValidConfig_2 (N : Nat) (x3 : List ((List UInt8) × Bool)) (x5 : Track) : Option Bool :=
  Option.bind (trainbuild_name N x5.name) fun y3 =>
  if (!y3) = true then
    some true
  else
    AM.lt (mpGet x3 x5.name) fun y4 =>
    if (y4.getD false) = true then
      some true
    else
      if (decide (x5.length < 1)) = true then
        some true
      else
        some (decide (100000 < x5.length))
def trainbuild_ValidConfig_1 (N : Nat) (x39 : List Track) (x40 : Int) : Nat → (List ((List UInt8) × Bool)) → Int → Option (Sum (Unit) (Int))
  | 0, _, _ => none
  | n + 1, x3, x41 =>
    if (decide (x41 < x40)) = true then
      Option.bind (getI x39 x41) fun y2 =>
      Option.bind (trainbuild_ValidConfig_2 N x3 y2) fun y5 =>
      if y5 = true then
        some (Sum.inr 1)
      else
        AM.lt (mpSet x3 y2.name true) fun y6 =>
        trainbuild_ValidConfig_1 N x39 x40 n y6 (IntKind.wrap .i64 (x41 + 1))
    else
      some (Sum.inl ())
def trainbuild_ValidConfig (N : Nat) (x0 : YardConfig) : Option Int :=
  Option.bind (trainbuild_ValidConfig_0 N x0) fun y1 =>
  if y1 = true then
    some 1
  else
    Option.bind (trainbuild_ValidConfig_1 N x0.tracks (x0.tracks.length : Int) N [] 0) fun y7 =>
    match y7 with
    | Sum.inl y8 =>
      Option.bind (rulebook_Valid N x0.rules) fun y9 =>
      if (y9 != 0) = true then
        some y9
      else
        Option.bind (brake_ValidTable N x0.table) fun y10 =>
        if (!y10) = true then
          some 1
        else
          some 0
    | Sum.inr y11 =>
      some y11
/-! ### slices.Index[[]string,string] -/
def slices_Index_string_string_0 (N : Nat) (x0 : List (List UInt8)) (x1 : List UInt8) (x7 : Int) : Nat → Int → Option (Sum (Unit) (Int))
  | 0, _ => none
  | n + 1, x8 =>
    if (decide (x8 < x7)) = true then
      Option.bind (getI x0 x8) fun y1 =>
      if (x1 == y1) = true then
        some (Sum.inr x8)
      else
        slices_Index_string_string_0 N x0 x1 x7 n (IntKind.wrap .i64 (x8 + 1))
    else
      some (Sum.inl ())
def slices_Index_string_string (N : Nat) (x0 : List (List UInt8)) (x1 : List UInt8) : Option Int :=
  Option.bind (slices_Index_string_string_0 N x0 x1 (x0.length : Int) N 0) fun y2 =>
  match y2 with
  | Sum.inl y3 =>
    some (-1)
  | Sum.inr y4 =>
    some y4
/-! ### slices.Contains[[]string,string] -/
def slices_Contains_string_string (N : Nat) (x0 : List (List UInt8)) (x1 : List UInt8) : Option Bool :=
  Option.bind (slices_Index_string_string N x0 x1) fun y1 =>
  AM.lt (decide (0 ≤ y1)) fun y2 =>
  some y2
/-! ### humpyard/trainbuild.ValidOrder -/
def trainbuild_ValidOrder_0 (N : Nat) (x2 : YardConfig) (x3 : TrainOrder) : Option Bool :=
  Option.bind (trainbuild_name N x3.name) fun y1 =>
  if (!y1) = true then
    some true
  else
    if (decide (x3.track < 0)) = true then
      some true
    else
      if (decide ((x2.tracks.length : Int) ≤ x3.track)) = true then
        some true
      else
        if (decide ((x3.dests.length : Int) < 1)) = true then
          some true
        else
          some (decide (16 < (x3.dests.length : Int)))
def trainbuild_ValidOrder_2 (N : Nat) (x3 : TrainOrder) (x5 : Int) (x6 : List UInt8) : Option Bool :=
  Option.bind (trainbuild_name N x6) fun y4 =>
  if (!y4) = true then
    some true
  else
    Option.bind (cutI x3.dests 0 x5) fun y5 =>
    Option.bind (slices_Contains_string_string N y5 x6) fun y6 =>
    some y6
def trainbuild_ValidOrder_1 (N : Nat) (x3 : TrainOrder) (x37 : List (List UInt8)) (x38 : Int) : Nat → Int → Option (Sum (Unit) (Bool))
  | 0, _ => none
  | n + 1, x39 =>
    if (decide (x39 < x38)) = true then
      Option.bind (getI x37 x39) fun y3 =>
      Option.bind (trainbuild_ValidOrder_2 N x3 x39 y3) fun y7 =>
      if y7 = true then
        some (Sum.inr false)
      else
        trainbuild_ValidOrder_1 N x3 x37 x38 n (IntKind.wrap .i64 (x39 + 1))
    else
      some (Sum.inl ())
def trainbuild_ValidOrder (N : Nat) (x0 : YardConfig) (x1 : TrainOrder) : Option Bool :=
  Option.bind (trainbuild_ValidOrder_0 N x0 x1) fun y2 =>
  if y2 = true then
    some false
  else
    Option.bind (trainbuild_ValidOrder_1 N x1 x1.dests (x1.dests.length : Int) N 0) fun y8 =>
    match y8 with
    | Sum.inl y9 =>
      some true
    | Sum.inr y10 =>
      some y10
/-! ### humpyard/wagonnumber.digits -/
def wagonnumber_digits_1 (N : Nat) (x0 : List UInt8) (x5 : Int) : Option Bool :=
  Option.bind (getI x0 x5) fun y1 =>
  if (decide ((UInt8.toNat y1 : Int) < 48)) = true then
    some true
  else
    Option.bind (getI x0 x5) fun y2 =>
    some (decide (57 < (UInt8.toNat y2 : Int)))
def wagonnumber_digits_0 (N : Nat) (x0 : List UInt8) : Nat → Int → Option (Sum (Unit) (Bool))
  | 0, _ => none
  | n + 1, x5 =>
    if (decide (x5 < (x0.length : Int))) = true then
      Option.bind (wagonnumber_digits_1 N x0 x5) fun y3 =>
      if y3 = true then
        some (Sum.inr false)
      else
        AM.lt (IntKind.wrap .i64 (x5 + 1)) fun y4 =>
        wagonnumber_digits_0 N x0 n y4
    else
      some (Sum.inl ())
def wagonnumber_digits (N : Nat) (x0 : List UInt8) (x1 : Int) : Option Bool :=
  Option.bind (wagonnumber_digits_0 N x0 N 0) fun y5 =>
  match y5 with
  | Sum.inl y6 =>
    AM.lt ((x0.length : Int) == x1) fun y7 =>
    some y7
  | Sum.inr y8 =>
    some y8
/-! ### humpyard/wagonnumber.sum -/
def wagonnumber_sum_1 (N : Nat) (x5 : Int) (x19 : Bool) : Option Int :=
  if x19 = true then
    AM.lt (IntKind.wrap .i64 (x5 * 2)) fun y3 =>
    if (decide (9 < y3)) = true then
      AM.lt (IntKind.wrap .i64 (y3 - 9)) fun y4 =>
      some y4
    else
      some y3
  else
    some x5
def wagonnumber_sum_0 (N : Nat) (x0 : List UInt8) : Nat → Int → Int → Option Int
  | 0, _, _ => none
  | n + 1, x3, x4 =>
    if (decide (x4 < (x0.length : Int))) = true then
      Option.bind (getI x0 x4) fun y1 =>
      AM.lt (IntKind.wrap .i64 ((IntKind.wrap .u8 ((UInt8.toNat y1 : Int) - 48)))) fun y2 =>
      Option.bind (wagonnumber_sum_1 N y2 ((Int.tmod x4 2) == 0)) fun y5 =>
      AM.lt (IntKind.wrap .i64 (x3 + y5)) fun y6 =>
      AM.lt (IntKind.wrap .i64 (x4 + 1)) fun y7 =>
      wagonnumber_sum_0 N x0 n y6 y7
    else
      some x3
def wagonnumber_sum (N : Nat) (x0 : List UInt8) : Option Int :=
  Option.bind (wagonnumber_sum_0 N x0 N 0 0) fun y8 =>
  some y8
/-! ### humpyard/wagonnumber.check -/
def wagonnumber_check (N : Nat) (x0 : List UInt8) : Option Int :=
  Option.bind (wagonnumber_sum N x0) fun y1 =>
  AM.lt (Int.tmod (IntKind.wrap .i64 (10 - (Int.tmod y1 10))) 10) fun y2 =>
  some y2
/-! ### humpyard/wagonnumber.Valid -/
def wagonnumber_Valid (N : Nat) (x0 : List UInt8) : Option Int :=
  Option.bind (wagonnumber_digits N x0 12) fun y1 =>
  if (!y1) = true then
    some 11
  else
    Option.bind (getI x0 11) fun y2 =>
    Option.bind (cutI x0 0 11) fun y3 =>
    Option.bind (wagonnumber_check N y3) fun y4 =>
    if ((IntKind.wrap .i64 ((IntKind.wrap .u8 ((UInt8.toNat y2 : Int) - 48)))) != y4) = true then
      some 9
    else
      some 0
/-! ### humpyard/wagonnumber.Kind -/
def wagonnumber_Kind_0 (N : Nat) (x11 : Int) (x12 : Bool) : Option Bool :=
  if x12 = true then
    some x12
  else
    AM.lt (x11 == 56) fun y4 =>
    some y4
def wagonnumber_Kind_1 (N : Nat) (x11 : Int) (x15 : Bool) : Option Bool :=
  if x15 = true then
    some x15
  else
    AM.lt (x11 == 52) fun y7 =>
    some y7
def wagonnumber_Kind (N : Nat) (x0 : List UInt8) : Option (Int × Int) :=
  Option.bind (wagonnumber_Valid N x0) fun y1 =>
  if (y1 != 0) = true then
    some (0, y1)
  else
    Option.bind (getI x0 4) fun y2 =>
    AM.lt ((UInt8.toNat y2 : Int) == 55) fun y3 =>
    Option.bind (wagonnumber_Kind_0 N (UInt8.toNat y2 : Int) y3) fun y5 =>
    if y5 = true then
      some (1, 0)
    else
      AM.lt ((UInt8.toNat y2 : Int) == 50) fun y6 =>
      Option.bind (wagonnumber_Kind_1 N (UInt8.toNat y2 : Int) y6) fun y8 =>
      if y8 = true then
        some (2, 0)
      else
        AM.lt ((UInt8.toNat y2 : Int) == 57) fun y9 =>
        if y9 = true then
          some (3, 0)
        else
          some (0, 0)
/-! ### humpyard/consist.axles -/
def consist_axles (N : Nat) (x0 : Int) : Option Int :=
  AM.lt (x0 == 2) fun y1 =>
  if y1 = true then
    some 2
  else
    AM.lt (x0 == 3) fun y2 =>
    if y2 = true then
      some 6
    else
      some 4
/-! ### humpyard/consist.name -/
def consist_name_1 (N : Nat) (x4 : Int) : Option Bool :=
  if (decide (x4 < 97)) = true then
    if (decide (x4 < 48)) = true then
      some true
    else
      some (decide (57 < x4))
  else
    if (decide (122 < x4)) = true then
      if (decide (x4 < 48)) = true then
        some true
      else
        some (decide (57 < x4))
    else
      some false
def consist_name_0 (N : Nat) (x0 : List UInt8) : Nat → Int → Option (Sum (Unit) (Bool))
  | 0, _ => none
  | n + 1, x3 =>
    if (decide (x3 < (x0.length : Int))) = true then
      Option.bind (getI x0 x3) fun y1 =>
      AM.lt (UInt8.toNat y1 : Int) fun y2 =>
      Option.bind (consist_name_1 N y2) fun y3 =>
      if y3 = true then
        some (Sum.inr false)
      else
        AM.lt (IntKind.wrap .i64 (x3 + 1)) fun y4 =>
        consist_name_0 N x0 n y4
    else
      some (Sum.inl ())
def consist_name_2 (N : Nat) (x0 : List UInt8) : Option Bool :=
  if (decide (0 < (x0.length : Int))) = true then
    AM.lt (decide ((x0.length : Int) ≤ 12)) fun y7 =>
    some y7
  else
    some false
def consist_name (N : Nat) (x0 : List UInt8) : Option Bool :=
  Option.bind (consist_name_0 N x0 N 0) fun y5 =>
  match y5 with
  | Sum.inl y6 =>
    Option.bind (consist_name_2 N x0) fun y8 =>
    some y8
  | Sum.inr y9 =>
    some y9
/-! ### humpyard/consist.Valid -/
def consist_Valid_0 (N : Nat) (x5 : Int) (x16 : Bool) : Option Int :=
  if x16 = true then
    some 120
  else
    some x5
def consist_Valid_1 (N : Nat) (x1 : Wagon) (x5 : Int) : Option Bool :=
  if (decide (x1.length < x5)) = true then
    some true
  else
    if (decide (400 < x1.length)) = true then
      some true
    else
      if (decide (x1.mass < 50)) = true then
        some true
      else
        AM.lt (decide (2000 < x1.mass)) fun y5 =>
        some y5
def consist_Valid_2 (N : Nat) (x1 : Wagon) : Option Bool :=
  if (decide (x1.brake < 0)) = true then
    some true
  else
    if (decide (x1.mass < x1.brake)) = true then
      some true
    else
      if (decide (x1.goods < 0)) = true then
        some true
      else
        AM.lt (decide (9 < x1.goods)) fun y7 =>
        some y7
def consist_Valid (N : Nat) (x0 : Wagon) : Option Int :=
  Option.bind (wagonnumber_Kind N x0.number) fun y1 =>
  if (y1.2 != 0) = true then
    some y1.2
  else
    Option.bind (consist_Valid_0 N 80 (y1.1 == 3)) fun y2 =>
    Option.bind (consist_axles N y1.1) fun y3 =>
    AM.lt (x0.axles != y3) fun y4 =>
    if y4 = true then
      some 1
    else
      Option.bind (consist_Valid_1 N x0 y2) fun y6 =>
      if y6 = true then
        some 2
      else
        Option.bind (consist_Valid_2 N x0) fun y8 =>
        if y8 = true then
          some 2
        else
          Option.bind (consist_name N x0.dest) fun y9 =>
          AM.lt (!y9) fun y10 =>
          if y10 = true then
            some 7
          else
            some 0
/-! ### humpyard/consist.check -/
def consist_check_0 (N : Nat) (x11 : List Wagon) (x12 : Int) : Nat → (List ((List UInt8) × Bool)) → Int → Option (Sum (Unit) (Int))
  | 0, _, _ => none
  | n + 1, x3, x13 =>
    if (decide (x13 < x12)) = true then
      Option.bind (getI x11 x13) fun y1 =>
      Option.bind (consist_Valid N y1) fun y2 =>
      if (y2 != 0) = true then
        some (Sum.inr y2)
      else
        AM.lt (mpGet x3 y1.number) fun y3 =>
        if (y3.getD false) = true then
          some (Sum.inr 8)
        else
          AM.lt (mpSet x3 y1.number true) fun y4 =>
          consist_check_0 N x11 x12 n y4 (IntKind.wrap .i64 (x13 + 1))
    else
      some (Sum.inl ())
def consist_check (N : Nat) (x0 : List Wagon) : Option Int :=
  if (decide (96 < (x0.length : Int))) = true then
    some 3
  else
    Option.bind (consist_check_0 N x0 (x0.length : Int) N [] 0) fun y5 =>
    match y5 with
    | Sum.inl y6 =>
      some 0
    | Sum.inr y7 =>
      some y7
/-! ### humpyard/consist.Total -/
def consist_Total_0 (N : Nat) (x14 : List Wagon) (x15 : Int) : Nat → Int → Int → Int → Int → Option (Int × Int × Int)
  | 0, _, _, _, _ => none
  | n + 1, x2, x3, x4, x16 =>
    if (decide (x16 < x15)) = true then
      Option.bind (getI x14 x16) fun y2 =>
      AM.lt (IntKind.wrap .i64 (x2 + y2.length)) fun y3 =>
      AM.lt (IntKind.wrap .i64 (x3 + y2.mass)) fun y4 =>
      AM.lt (IntKind.wrap .i64 (x4 + y2.axles)) fun y5 =>
      consist_Total_0 N x14 x15 n y3 y4 y5 (IntKind.wrap .i64 (x16 + 1))
    else
      some (x2, x3, x4)
def consist_Total (N : Nat) (x0 : List Wagon) : Option (Int × Int × Int × Int) :=
  Option.bind (consist_check N x0) fun y1 =>
  if (y1 != 0) = true then
    some (0, 0, 0, y1)
  else
    Option.bind (consist_Total_0 N x0 (x0.length : Int) N 0 0 0 0) fun y6 =>
    some (y6.1, y6.2.1, y6.2.2, 0)
/-! ### humpyard/trainbuild.check -/
def trainbuild_check (N : Nat) (x0 : YardConfig) (x1 : TrainOrder) (x2 : List Wagon) : Option Int :=
  Option.bind (trainbuild_ValidConfig N x0) fun y1 =>
  if (y1 != 0) = true then
    some y1
  else
    Option.bind (trainbuild_ValidOrder N x0 x1) fun y2 =>
    if (!y2) = true then
      some 1
    else
      Option.bind (consist_Total N x2) fun y3 =>
      some y3.2.2.2
/-! ### humpyard/trainbuild.Blocks -/
def trainbuild_Blocks_0 (N : Nat) (x2 : TrainOrder) (x11 : List Wagon) (x12 : Int) : Nat → (List Int) → Int → Option (Sum (List Int) (Int × Int))
  | 0, _, _ => none
  | n + 1, x7, x13 =>
    if (decide (x13 < x12)) = true then
      Option.bind (getI x11 x13) fun y1 =>
      Option.bind (slices_Index_string_string N x2.dests y1.dest) fun y2 =>
      if (decide (y2 < 0)) = true then
        some (Sum.inr (x13, 7))
      else
        Option.bind (appI x7 ([y2] : List Int)) fun y3 =>
        trainbuild_Blocks_0 N x2 x11 x12 n y3 (IntKind.wrap .i64 (x13 + 1))
    else
      some (Sum.inl x7)
def trainbuild_Blocks (N : Nat) (x0 : TrainOrder) (x1 : List Wagon) : Option (List Int × Int × Int) :=
  Option.bind (trainbuild_Blocks_0 N x0 x1 (x1.length : Int) N [] 0) fun y4 =>
  match y4 with
  | Sum.inl y5 =>
    some (y5, (-1), 0)
  | Sum.inr y6 =>
    some ([], y6.1, y6.2)
/-! ### humpyard/trainbuild.ordered -/
def trainbuild_ordered_1 (N : Nat) (x7 : List Int) (x10 : Int) : Option Bool :=
  if (decide (0 < x10)) = true then
    Option.bind (getI x7 x10) fun y2 =>
    Option.bind (getI x7 x10) fun y3 =>
    Option.bind (getI x7 (IntKind.wrap .i64 (x10 - 1))) fun y4 =>
    Option.bind (getI x7 (IntKind.wrap .i64 (x10 - 1))) fun y5 =>
    some (decide (y3 < y5))
  else
    some false
def trainbuild_ordered_0 (N : Nat) (x7 : List Int) (x23 : Int) : Nat → Int → Option (Sum (Unit) (Int × Int))
  | 0, _ => none
  | n + 1, x24 =>
    if (decide (x24 < x23)) = true then
      Option.bind (trainbuild_ordered_1 N x7 x24) fun y6 =>
      if y6 = true then
        some (Sum.inr (x24, 12))
      else
        trainbuild_ordered_0 N x7 x23 n (IntKind.wrap .i64 (x24 + 1))
    else
      some (Sum.inl ())
def trainbuild_ordered (N : Nat) (x0 : TrainOrder) (x1 : List Wagon) : Option (List Int × Int × Int) :=
  Option.bind (trainbuild_Blocks N x0 x1) fun y1 =>
  if (y1.2.2 != 0) = true then
    some ([], y1.2.1, y1.2.2)
  else
    Option.bind (trainbuild_ordered_0 N y1.1 (y1.1.length : Int) N 0) fun y7 =>
    match y7 with
    | Sum.inl y8 =>
      some (y1.1, 0, 0)
    | Sum.inr y9 =>
      some ([], y9.1, y9.2)
/-! ### humpyard/brake.Factor -/
def brake_Factor (N : Nat) (x0 : Int) : Option Int :=
  if (decide (x0 ≤ 5000)) = true then
    some 100
  else
    if (decide (10000 < x0)) = true then
      some 80
    else
      AM.lt (max 80 (IntKind.wrap .i64 (100 - (IntKind.wrap .i64 (Int.tdiv (IntKind.wrap .i64 ((IntKind.wrap .i64 (x0 - 5000)) + 99)) 100))))) fun y1 =>
      some y1
/-! ### humpyard/brake.Total -/
def brake_Total_0 (N : Nat) (x0 : List Wagon) (x32 : List Int) (x33 : Int) : Nat → Brakes → Int → Option (Sum (Brakes) (Brakes × Int))
  | 0, _, _ => none
  | n + 1, x4, x34 =>
    if (decide (x34 < x33)) = true then
      Option.bind (getI x32 x34) fun y3 =>
      Option.bind (brake_in N y3 0 (IntKind.wrap .i64 ((x0.length : Int) - 1))) fun y4 =>
      if (!y4) = true then
        some (Sum.inr ((Brakes.mk 0 0 0 0 0 0 0), 2))
      else
        brake_Total_0 N x0 x32 x33 n x4 (IntKind.wrap .i64 (x34 + 1))
    else
      some (Sum.inl x4)
def brake_Total_1 (N : Nat) (x46 : List Int) (x47 : Int) : Nat → Brakes → (List Bool) → Int → Option (Sum (Brakes × List Bool) (Brakes × Int))
  | 0, _, _, _ => none
  | n + 1, x4, x10, x48 =>
    if (decide (x48 < x47)) = true then
      Option.bind (getI x46 x48) fun y7 =>
      Option.bind (getI x10 y7) fun y8 =>
      Option.bind (getI x10 y7) fun y9 =>
      if y9 = true then
        some (Sum.inr ((Brakes.mk 0 0 0 0 0 0 0), 8))
      else
        Option.bind (getI x10 y7) fun y10 =>
        Option.bind (getI x10 y7) fun y11 =>
        AM.lt (x10.set ((y7 : Int).toNat) true) fun y12 =>
        brake_Total_1 N x46 x47 n x4 y12 (IntKind.wrap .i64 (x48 + 1))
    else
      some (Sum.inl (x4, x10))
def brake_Total_3 (N : Nat) (x10 : List Bool) (x15 : Brakes) (x65 : List Wagon) (x67 : Int) : Option Brakes :=
  Option.bind (getI x65 x67) fun y15 =>
  Option.bind (getI x10 x67) fun y16 =>
  Option.bind (getI x10 x67) fun y17 =>
  if (!y17) = true then
    some (Brakes.mk x15.length x15.axles x15.mass (IntKind.wrap .i64 (x15.braked + y15.brake)) x15.percent x15.required x15.missing)
  else
    some x15
def brake_Total_2 (N : Nat) (x10 : List Bool) (x65 : List Wagon) (x66 : Int) : Nat → Brakes → Int → Option Brakes
  | 0, _, _ => none
  | n + 1, x15, x67 =>
    if (decide (x67 < x66)) = true then
      Option.bind (brake_Total_3 N x10 x15 x65 x67) fun y18 =>
      brake_Total_2 N x10 x65 x66 n y18 (IntKind.wrap .i64 (x67 + 1))
    else
      some x15
def brake_Total_4 (N : Nat) (x7 : Int) (x15 : Brakes) (x92 : Bool) : Option Brakes :=
  if x92 = true then
    Option.bind (divI (IntKind.wrap .i64 (100 * x15.braked)) x7) fun y21 =>
    some (Brakes.mk x15.length x15.axles x15.mass x15.braked (IntKind.wrap .i64 (y21)) x15.required x15.missing)
  else
    some x15
def brake_Total (N : Nat) (x0 : List Wagon) (x1 : List Int) : Option (Brakes × Int) :=
  Option.bind (consist_Total N x0) fun y1 =>
  if (y1.2.2.2 != 0) = true then
    some ((Brakes.mk 0 0 0 0 0 0 0), y1.2.2.2)
  else
    Option.bind (mkI false (x0.length : Int)) fun y2 =>
    Option.bind (brake_Total_0 N x0 x1 (x1.length : Int) N (Brakes.mk 0 0 0 0 0 0 0) 0) fun y5 =>
    match y5 with
    | Sum.inl y6 =>
      Option.bind (brake_Total_1 N x1 (x1.length : Int) N y6 y2 0) fun y13 =>
      match y13 with
      | Sum.inl y14 =>
        Option.bind (brake_Total_2 N y14.2 x0 (x0.length : Int) N (Brakes.mk y1.1 y1.2.2.1 y1.2.1 0 0 0 0) 0) fun y19 =>
        Option.bind (brake_Factor N y1.1) fun y20 =>
        Option.bind (brake_Total_4 N y1.2.1 (Brakes.mk y19.length y19.axles y19.mass (IntKind.wrap .i64 (Int.tdiv (IntKind.wrap .i64 (y19.braked * y20)) 100)) y19.percent y19.required y19.missing) (decide (0 < y1.2.1))) fun y22 =>
        some (y22, 0)
      | Sum.inr y23 =>
        some (y23.1, y23.2)
    | Sum.inr y24 =>
      some (y24.1, y24.2)
/-! ### humpyard/brake.required -/
def brake_required_2 (N : Nat) (x1 : Int) (x2 : Int) (x8 : Int) (x9 : Bool) (x11 : BrakeRow) : Option Bool :=
  if (decide (x1 ≤ x11.speed)) = true then
    if (decide (x2 ≤ x11.grade)) = true then
      if (!x9) = true then
        some true
      else
        some (decide (x11.percent < x8))
    else
      some false
  else
    some false
def brake_required_1 (N : Nat) (x1 : Int) (x2 : Int) (x8 : Int) (x9 : Bool) (x12 : List BrakeRow) (x14 : Int) : Option (Int × Bool) :=
  Option.bind (getI x12 x14) fun y1 =>
  Option.bind (brake_required_2 N x1 x2 x8 x9 y1) fun y2 =>
  if y2 = true then
    some (y1.percent, true)
  else
    some (x8, x9)
def brake_required_0 (N : Nat) (x1 : Int) (x2 : Int) (x12 : List BrakeRow) (x13 : Int) : Nat → Int → Bool → Int → Option (Int × Bool)
  | 0, _, _, _ => none
  | n + 1, x8, x9, x14 =>
    if (decide (x14 < x13)) = true then
      Option.bind (brake_required_1 N x1 x2 x8 x9 x12 x14) fun y3 =>
      brake_required_0 N x1 x2 x12 x13 n y3.1 y3.2 (IntKind.wrap .i64 (x14 + 1))
    else
      some (x8, x9)
def brake_required (N : Nat) (x0 : List BrakeRow) (x1 : Int) (x2 : Int) : Option (Int × Bool) :=
  Option.bind (brake_required_0 N x1 x2 x0 (x0.length : Int) N 0 false 0) fun y4 =>
  some (y4.1, y4.2)
/-! ### humpyard/brake.Required -/
def brake_Required_0 (N : Nat) (x1 : Int) (x2 : Int) : Option Bool :=
  Option.bind (brake_in N x1 1 200) fun y2 =>
  if (!y2) = true then
    some true
  else
    Option.bind (brake_in N x2 0 500) fun y3 =>
    some (!y3)
def brake_Required (N : Nat) (x0 : List BrakeRow) (x1 : Int) (x2 : Int) : Option (Int × Int) :=
  Option.bind (brake_ValidTable N x0) fun y1 =>
  if (!y1) = true then
    some (0, 1)
  else
    Option.bind (brake_Required_0 N x1 x2) fun y4 =>
    if y4 = true then
      some (0, 2)
    else
      Option.bind (brake_required N x0 x1 x2) fun y5 =>
      if (!y5.2) = true then
        some (0, 15)
      else
        some (y5.1, 0)
/-! ### humpyard/brake.Sheet -/
def brake_Sheet (N : Nat) (x0 : List Wagon) (x1 : List Int) (x2 : List BrakeRow) (x3 : Int) (x4 : Int) : Option (Brakes × Int) :=
  Option.bind (brake_Total N x0 x1) fun y1 =>
  if (y1.2 != 0) = true then
    some ((Brakes.mk 0 0 0 0 0 0 0), y1.2)
  else
    Option.bind (brake_Required N x2 x3 x4) fun y2 =>
    if (y2.2 != 0) = true then
      some ((Brakes.mk 0 0 0 0 0 0 0), y2.2)
    else
      some ((Brakes.mk y1.1.length y1.1.axles y1.1.mass y1.1.braked y1.1.percent y2.1 (max 0 (IntKind.wrap .i64 ((IntKind.wrap .i64 (Int.tdiv (IntKind.wrap .i64 ((IntKind.wrap .i64 (y2.1 * y1.1.mass)) + 99)) 100)) - y1.1.braked)))), 0)
/-! ### (humpyard/rulebook.train).place$1 -/
def rulebook_train_place_1 (N : Nat) (x0 : Wagon) : Option Int :=
  some x0.length
/-! ### (humpyard/rulebook.train).beyond -/
def train_beyond__rulebook_train_place_1_0 (N : Nat) (x1 : Int) (x11 : List Wagon) (x12 : Int) : Nat → Int → Int → Option (Sum (Unit) (Int))
  | 0, _, _ => none
  | n + 1, x7, x13 =>
    if (decide (x13 < x12)) = true then
      Option.bind (getI x11 x13) fun y1 =>
      Option.bind (rulebook_train_place_1 N y1) fun y2 =>
      AM.lt (IntKind.wrap .i64 (x7 + y2)) fun y3 =>
      if (decide (x1 < y3)) = true then
        some (Sum.inr x13)
      else
        train_beyond__rulebook_train_place_1_0 N x1 x11 x12 n y3 (IntKind.wrap .i64 (x13 + 1))
    else
      some (Sum.inl ())
def train_beyond__rulebook_train_place_1 (N : Nat) (x0 : Train) (x1 : Int) : Option Int :=
  Option.bind (train_beyond__rulebook_train_place_1_0 N x1 x0.l (x0.l.length : Int) N 0 0) fun y4 =>
  match y4 with
  | Sum.inl y5 =>
    some (-1)
  | Sum.inr y6 =>
    some y6
/-! ### (humpyard/rulebook.train).place$2 -/
def rulebook_train_place_2 (N : Nat) (x0 : Wagon) : Option Int :=
  some x0.axles
/-! ### (humpyard/rulebook.train).beyond -/
def train_beyond__rulebook_train_place_2_0 (N : Nat) (x1 : Int) (x11 : List Wagon) (x12 : Int) : Nat → Int → Int → Option (Sum (Unit) (Int))
  | 0, _, _ => none
  | n + 1, x7, x13 =>
    if (decide (x13 < x12)) = true then
      Option.bind (getI x11 x13) fun y1 =>
      Option.bind (rulebook_train_place_2 N y1) fun y2 =>
      AM.lt (IntKind.wrap .i64 (x7 + y2)) fun y3 =>
      if (decide (x1 < y3)) = true then
        some (Sum.inr x13)
      else
        train_beyond__rulebook_train_place_2_0 N x1 x11 x12 n y3 (IntKind.wrap .i64 (x13 + 1))
    else
      some (Sum.inl ())
def train_beyond__rulebook_train_place_2 (N : Nat) (x0 : Train) (x1 : Int) : Option Int :=
  Option.bind (train_beyond__rulebook_train_place_2_0 N x1 x0.l (x0.l.length : Int) N 0 0) fun y4 =>
  match y4 with
  | Sum.inl y5 =>
    some (-1)
  | Sum.inr y6 =>
    some y6
/-! ### (humpyard/rulebook.train).place$3 -/
def rulebook_train_place_3 (N : Nat) (x0 : Wagon) : Option Int :=
  some x0.mass
/-! ### (humpyard/rulebook.train).beyond -/
def train_beyond__rulebook_train_place_3_0 (N : Nat) (x1 : Int) (x11 : List Wagon) (x12 : Int) : Nat → Int → Int → Option (Sum (Unit) (Int))
  | 0, _, _ => none
  | n + 1, x7, x13 =>
    if (decide (x13 < x12)) = true then
      Option.bind (getI x11 x13) fun y1 =>
      Option.bind (rulebook_train_place_3 N y1) fun y2 =>
      AM.lt (IntKind.wrap .i64 (x7 + y2)) fun y3 =>
      if (decide (x1 < y3)) = true then
        some (Sum.inr x13)
      else
        train_beyond__rulebook_train_place_3_0 N x1 x11 x12 n y3 (IntKind.wrap .i64 (x13 + 1))
    else
      some (Sum.inl ())
def train_beyond__rulebook_train_place_3 (N : Nat) (x0 : Train) (x1 : Int) : Option Int :=
  Option.bind (train_beyond__rulebook_train_place_3_0 N x1 x0.l (x0.l.length : Int) N 0 0) fun y4 =>
  match y4 with
  | Sum.inl y5 =>
    some (-1)
  | Sum.inr y6 =>
    some y6
/-! ### (humpyard/rulebook.train).end -/
def train_end (N : Nat) (x0 : Train) (x1 : Bool) : Option Int :=
  if x1 = true then
    AM.lt (x0.l.length : Int) fun y1 =>
    some y1
  else
    some (-1)
/-! ### (humpyard/rulebook.train).apart -/
def train_apart_1 (N : Nat) (x2 : Int) (x4 : Rule) (x7 : Int) (x8 : Int) (x9 : Int) : Option Bool :=
  if (decide ((IntKind.wrap .i64 ((IntKind.wrap .i64 (x2 - x7)) - 1)) < x4.c)) = true then
    if (x8 == x4.a) = true then
      if (x9 == x4.b) = true then
        some true
      else
        if (x8 == x4.b) = true then
          some (x9 == x4.a)
        else
          some false
    else
      if (x8 == x4.b) = true then
        some (x9 == x4.a)
      else
        some false
  else
    some false
def train_apart_0 (N : Nat) (x2 : Int) (x3 : Train) (x4 : Rule) (x10 : Int) : Nat → Int → Option (Sum (Unit) (Bool))
  | 0, _ => none
  | n + 1, x11 =>
    if (decide (x11 < x10)) = true then
      Option.bind (getI x3.l x11) fun y1 =>
      Option.bind (getI x3.l x2) fun y2 =>
      Option.bind (train_apart_1 N x2 x4 x11 y1.goods y2.goods) fun y3 =>
      if y3 = true then
        some (Sum.inr true)
      else
        train_apart_0 N x2 x3 x4 x10 n (IntKind.wrap .i64 (x11 + 1))
    else
      some (Sum.inl ())
def train_apart (N : Nat) (x0 : Train) (x1 : Rule) (x2 : Int) : Option Bool :=
  Option.bind (train_apart_0 N x2 x0 x1 x2 N 0) fun y4 =>
  match y4 with
  | Sum.inl y5 =>
    some false
  | Sum.inr y6 =>
    some y6
/-! ### (humpyard/rulebook.train).place$4 -/
def rulebook_train_place_4 (N : Nat) (x0 : Int) (x2 : Train) (x3 : Rule) : Option Bool :=
  Option.bind (train_apart N x2 x3 x0) fun y1 =>
  some y1
/-! ### (humpyard/rulebook.train).first -/
def train_first__rulebook_train_place_4_0 (N : Nat) (x1 : Train × Rule) (x8 : List Wagon) (x9 : Int) : Nat → Int → Option (Sum (Unit) (Int))
  | 0, _ => none
  | n + 1, x10 =>
    if (decide (x10 < x9)) = true then
      Option.bind (getI x8 x10) fun y1 =>
      Option.bind (rulebook_train_place_4 N x10 x1.1 x1.2) fun y2 =>
      if y2 = true then
        some (Sum.inr x10)
      else
        train_first__rulebook_train_place_4_0 N x1 x8 x9 n (IntKind.wrap .i64 (x10 + 1))
    else
      some (Sum.inl ())
def train_first__rulebook_train_place_4 (N : Nat) (x0 : Train) (x1 : Train × Rule) : Option Int :=
  Option.bind (train_first__rulebook_train_place_4_0 N (x1.1, x1.2) x0.l (x0.l.length : Int) N 0) fun y3 =>
  match y3 with
  | Sum.inl y4 =>
    some (-1)
  | Sum.inr y5 =>
    some y5
/-! ### (humpyard/rulebook.train).place$5 -/
def rulebook_train_place_5_0 (N : Nat) (x0 : Int) (x2 : Rule) (x4 : Wagon) : Option Bool :=
  if (x4.goods == x2.a) = true then
    AM.lt (decide (x0 < x2.b)) fun y1 =>
    some y1
  else
    some false
def rulebook_train_place_5 (N : Nat) (x0 : Int) (x1 : Wagon) (x2 : Rule) : Option Bool :=
  Option.bind (rulebook_train_place_5_0 N x0 x2 x1) fun y2 =>
  some y2
/-! ### (humpyard/rulebook.train).first -/
def train_first__rulebook_train_place_5_0 (N : Nat) (x1 : Rule) (x8 : List Wagon) (x9 : Int) : Nat → Int → Option (Sum (Unit) (Int))
  | 0, _ => none
  | n + 1, x10 =>
    if (decide (x10 < x9)) = true then
      Option.bind (getI x8 x10) fun y1 =>
      Option.bind (rulebook_train_place_5 N x10 y1 x1) fun y2 =>
      if y2 = true then
        some (Sum.inr x10)
      else
        train_first__rulebook_train_place_5_0 N x1 x8 x9 n (IntKind.wrap .i64 (x10 + 1))
    else
      some (Sum.inl ())
def train_first__rulebook_train_place_5 (N : Nat) (x0 : Train) (x1 : Rule) : Option Int :=
  Option.bind (train_first__rulebook_train_place_5_0 N x1 x0.l (x0.l.length : Int) N 0) fun y3 =>
  match y3 with
  | Sum.inl y4 =>
    some (-1)
  | Sum.inr y5 =>
    some y5
/-! ### slices.Index[[]int,int] -/
def slices_Index_int_int_0 (N : Nat) (x0 : List Int) (x1 : Int) (x7 : Int) : Nat → Int → Option (Sum (Unit) (Int))
  | 0, _ => none
  | n + 1, x8 =>
    if (decide (x8 < x7)) = true then
      Option.bind (getI x0 x8) fun y1 =>
      if (x1 == y1) = true then
        some (Sum.inr x8)
      else
        slices_Index_int_int_0 N x0 x1 x7 n (IntKind.wrap .i64 (x8 + 1))
    else
      some (Sum.inl ())
def slices_Index_int_int (N : Nat) (x0 : List Int) (x1 : Int) : Option Int :=
  Option.bind (slices_Index_int_int_0 N x0 x1 (x0.length : Int) N 0) fun y2 =>
  match y2 with
  | Sum.inl y3 =>
    some (-1)
  | Sum.inr y4 =>
    some y4
/-! ### slices.Contains[[]int,int] -/
def slices_Contains_int_int (N : Nat) (x0 : List Int) (x1 : Int) : Option Bool :=
  Option.bind (slices_Index_int_int N x0 x1) fun y1 =>
  AM.lt (decide (0 ≤ y1)) fun y2 =>
  some y2
/-! ### (humpyard/rulebook.train).tail -/
def train_tail_2 (N : Nat) (x2 : Train) (x7 : Int) : Option Bool :=
  Option.bind (getI x2.l x7) fun y3 =>
  if (decide (0 < y3.brake)) = true then
    Option.bind (slices_Contains_int_int N x2.off x7) fun y4 =>
    some (!y4)
  else
    some false
def train_tail_1 (N : Nat) (x2 : Train) (x6 : Int) (x7 : Int) : Option Int :=
  Option.bind (train_tail_2 N x2 x7) fun y5 =>
  if y5 = true then
    AM.lt (IntKind.wrap .i64 (x6 + 1)) fun y6 =>
    some y6
  else
    some x6
def train_tail_0 (N : Nat) (x2 : Train) : Nat → Int → Int → Option Int
  | 0, _, _ => none
  | n + 1, x6, x7 =>
    if (decide (x7 < (x2.l.length : Int))) = true then
      Option.bind (train_tail_1 N x2 x6 x7) fun y7 =>
      AM.lt (IntKind.wrap .i64 (x7 + 1)) fun y8 =>
      train_tail_0 N x2 n y7 y8
    else
      some x6
def train_tail (N : Nat) (x0 : Train) (x1 : Rule) : Option Bool :=
  AM.lt (min x1.a (x0.l.length : Int)) fun y1 =>
  AM.lt (IntKind.wrap .i64 ((x0.l.length : Int) - y1)) fun y2 =>
  Option.bind (train_tail_0 N x0 N 0 y2) fun y9 =>
  AM.lt (decide (y9 < (min x1.b y1))) fun y10 =>
  some y10
/-! ### (humpyard/rulebook.train).place$6 -/
def rulebook_train_place_6 (N : Nat) (x1 : Wagon) (x2 : Rule) : Option Bool :=
  AM.lt (decide ((IntKind.wrap .i64 (x2.a * x1.axles)) < x1.mass)) fun y1 =>
  some y1
/-! ### (humpyard/rulebook.train).first -/
def train_first__rulebook_train_place_6_0 (N : Nat) (x1 : Rule) (x8 : List Wagon) (x9 : Int) : Nat → Int → Option (Sum (Unit) (Int))
  | 0, _ => none
  | n + 1, x10 =>
    if (decide (x10 < x9)) = true then
      Option.bind (getI x8 x10) fun y1 =>
      Option.bind (rulebook_train_place_6 N y1 x1) fun y2 =>
      if y2 = true then
        some (Sum.inr x10)
      else
        train_first__rulebook_train_place_6_0 N x1 x8 x9 n (IntKind.wrap .i64 (x10 + 1))
    else
      some (Sum.inl ())
def train_first__rulebook_train_place_6 (N : Nat) (x0 : Train) (x1 : Rule) : Option Int :=
  Option.bind (train_first__rulebook_train_place_6_0 N x1 x0.l (x0.l.length : Int) N 0) fun y3 =>
  match y3 with
  | Sum.inl y4 =>
    some (-1)
  | Sum.inr y5 =>
    some y5
/-! ### (humpyard/rulebook.train).behind -/
def train_behind_0 (N : Nat) (x12 : List Wagon) (x13 : Int) : Nat → Int → Int → Option Int
  | 0, _, _ => none
  | n + 1, x5, x14 =>
    if (decide (x14 < x13)) = true then
      Option.bind (getI x12 x14) fun y2 =>
      AM.lt (IntKind.wrap .i64 (x5 + y2.mass)) fun y3 =>
      train_behind_0 N x12 x13 n y3 (IntKind.wrap .i64 (x14 + 1))
    else
      some x5
def train_behind (N : Nat) (x0 : Train) (x1 : Int) : Option Int :=
  Option.bind (cutI x0.l (IntKind.wrap .i64 (x1 + 1)) (x0.l.length : Int)) fun y1 =>
  Option.bind (train_behind_0 N y1 (y1.length : Int) N 0 0) fun y4 =>
  some y4
/-! ### (humpyard/rulebook.train).place$7 -/
def rulebook_train_place_7_0 (N : Nat) (x0 : Int) (x2 : Rule) (x3 : Train) (x5 : Wagon) : Option Bool :=
  if (decide (x5.mass ≤ x2.a)) = true then
    Option.bind (train_behind N x3 x0) fun y1 =>
    AM.lt (decide (x2.b < y1)) fun y2 =>
    some y2
  else
    some false
def rulebook_train_place_7 (N : Nat) (x0 : Int) (x1 : Wagon) (x2 : Rule) (x3 : Train) : Option Bool :=
  Option.bind (rulebook_train_place_7_0 N x0 x2 x3 x1) fun y3 =>
  some y3
/-! ### (humpyard/rulebook.train).first -/
def train_first__rulebook_train_place_7_0 (N : Nat) (x1 : Rule × Train) (x8 : List Wagon) (x9 : Int) : Nat → Int → Option (Sum (Unit) (Int))
  | 0, _ => none
  | n + 1, x10 =>
    if (decide (x10 < x9)) = true then
      Option.bind (getI x8 x10) fun y1 =>
      Option.bind (rulebook_train_place_7 N x10 y1 x1.1 x1.2) fun y2 =>
      if y2 = true then
        some (Sum.inr x10)
      else
        train_first__rulebook_train_place_7_0 N x1 x8 x9 n (IntKind.wrap .i64 (x10 + 1))
    else
      some (Sum.inl ())
def train_first__rulebook_train_place_7 (N : Nat) (x0 : Train) (x1 : Rule × Train) : Option Int :=
  Option.bind (train_first__rulebook_train_place_7_0 N (x1.1, x1.2) x0.l (x0.l.length : Int) N 0) fun y3 =>
  match y3 with
  | Sum.inl y4 =>
    some (-1)
  | Sum.inr y5 =>
    some y5
/-! ### (humpyard/rulebook.train).place -/
def train_place_0 (N : Nat) (x2 : Train) (x3 : Rule) : Option Int :=
  if (decide (0 < (x2.l.length : Int))) = true then
    Option.bind (train_end N x2 (decide (x2.total.percent < x3.a))) fun y8 =>
    some y8
  else
    Option.bind (train_end N x2 false) fun y9 =>
    some y9
def train_place (N : Nat) (x0 : Train) (x1 : Rule) : Option Int :=
  AM.lt (x1.kind == 1) fun y1 =>
  if y1 = true then
    Option.bind (train_beyond__rulebook_train_place_1 N x0 x1.a) fun y2 =>
    some y2
  else
    AM.lt (x1.kind == 2) fun y3 =>
    if y3 = true then
      Option.bind (train_beyond__rulebook_train_place_2 N x0 x1.a) fun y4 =>
      some y4
    else
      AM.lt (x1.kind == 3) fun y5 =>
      if y5 = true then
        Option.bind (train_beyond__rulebook_train_place_3 N x0 x1.a) fun y6 =>
        some y6
      else
        AM.lt (x1.kind == 4) fun y7 =>
        if y7 = true then
          Option.bind (train_place_0 N x0 x1) fun y10 =>
          some y10
        else
          AM.lt (x1.kind == 5) fun y11 =>
          if y11 = true then
            Option.bind (train_first__rulebook_train_place_4 N x0 (x0, x1)) fun y12 =>
            some y12
          else
            AM.lt (x1.kind == 6) fun y13 =>
            if y13 = true then
              Option.bind (train_first__rulebook_train_place_5 N x0 x1) fun y14 =>
              some y14
            else
              AM.lt (x1.kind == 7) fun y15 =>
              if y15 = true then
                Option.bind (train_tail N x0 x1) fun y16 =>
                Option.bind (train_end N x0 y16) fun y17 =>
                some y17
              else
                AM.lt (x1.kind == 8) fun y18 =>
                if y18 = true then
                  Option.bind (train_first__rulebook_train_place_6 N x0 x1) fun y19 =>
                  some y19
                else
                  Option.bind (train_first__rulebook_train_place_7 N x0 (x1, x0)) fun y20 =>
                  some y20
/-! ### humpyard/rulebook.Check -/
def rulebook_Check_0 (N : Nat) (x10 : Train) (x31 : List Rule) (x32 : Int) : Nat → Int → Option (Sum (Unit) (Int × Int × Int))
  | 0, _ => none
  | n + 1, x33 =>
    if (decide (x33 < x32)) = true then
      Option.bind (getI x31 x33) fun y3 =>
      Option.bind (train_place N x10 y3) fun y4 =>
      if (decide (0 ≤ y4)) = true then
        some (Sum.inr (y3.number, y4, 0))
      else
        rulebook_Check_0 N x10 x31 x32 n (IntKind.wrap .i64 (x33 + 1))
    else
      some (Sum.inl ())
def rulebook_Check (N : Nat) (x0 : List Rule) (x1 : List Wagon) (x2 : List Int) : Option (Int × Int × Int) :=
  Option.bind (rulebook_Valid N x0) fun y1 =>
  if (y1 != 0) = true then
    some (0, 0, y1)
  else
    Option.bind (brake_Total N x1 x2) fun y2 =>
    if (y2.2 != 0) = true then
      some (0, 0, y2.2)
    else
      Option.bind (rulebook_Check_0 N (Train.mk x1 x2 y2.1) x0 (x0.length : Int) N 0) fun y5 =>
      match y5 with
      | Sum.inl y6 =>
        some (0, (-1), 0)
      | Sum.inr y7 =>
        some (y7.1, y7.2.1, y7.2.2)
/-! ### humpyard/setout.check -/
def setout_check_1 (N : Nat) (x1 : Int) (x6 : Int) : Option Bool :=
  if (decide (x6 < 0)) = true then
    some true
  else
    some (decide (x1 ≤ x6))
def setout_check_0 (N : Nat) (x1 : Int) (x10 : List Int) (x11 : Int) : Nat → Int → Option (Sum (Unit) (Int))
  | 0, _ => none
  | n + 1, x12 =>
    if (decide (x12 < x11)) = true then
      Option.bind (getI x10 x12) fun y1 =>
      Option.bind (setout_check_1 N x1 y1) fun y2 =>
      if y2 = true then
        some (Sum.inr 2)
      else
        setout_check_0 N x1 x10 x11 n (IntKind.wrap .i64 (x12 + 1))
    else
      some (Sum.inl ())
def setout_check (N : Nat) (x0 : List Int) (x1 : Int) : Option Int :=
  if (decide (96 < (x0.length : Int))) = true then
    some 3
  else
    Option.bind (setout_check_0 N x1 x0 (x0.length : Int) N 0) fun y3 =>
    match y3 with
    | Sum.inl y4 =>
      some 0
    | Sum.inr y5 =>
      some y5
/-! ### humpyard/setout.plan -/
def setout_plan_3 (N : Nat) (x6 : List Int) (x7 : Int) (x10 : Int) : Option Bool :=
  if (x10 == 0) = true then
    some true
  else
    Option.bind (getI x6 (IntKind.wrap .i64 (x10 - 1))) fun y3 =>
    some (y3 != x7)
def setout_plan_2 (N : Nat) (x6 : List Int) (x7 : Int) (x8 : SetOut) (x9 : List Int) (x19 : List Int) (x21 : Int) : Option (SetOut × List Int) :=
  Option.bind (getI x19 x21) fun y1 =>
  if (y1 != x7) = true then
    Option.bind (appI x9 ([y1] : List Int)) fun y2 =>
    some (x8, y2)
  else
    Option.bind (setout_plan_3 N x6 x7 x21) fun y4 =>
    if y4 = true then
      some ((SetOut.mk x8.stop (IntKind.wrap .i64 (x8.wagons + 1)) (IntKind.wrap .i64 (x8.groups + 1))), x9)
    else
      some ((SetOut.mk x8.stop (IntKind.wrap .i64 (x8.wagons + 1)) x8.groups), x9)
def setout_plan_1 (N : Nat) (x6 : List Int) (x7 : Int) (x19 : List Int) (x20 : Int) : Nat → SetOut → (List Int) → Int → Option (SetOut × List Int)
  | 0, _, _, _ => none
  | n + 1, x8, x9, x21 =>
    if (decide (x21 < x20)) = true then
      Option.bind (setout_plan_2 N x6 x7 x8 x9 x19 x21) fun y5 =>
      setout_plan_1 N x6 x7 x19 x20 n y5.1 y5.2 (IntKind.wrap .i64 (x21 + 1))
    else
      some (x8, x9)
def setout_plan_4 (N : Nat) (x5 : List SetOut) (x8 : SetOut) (x55 : Bool) : Option (List SetOut) :=
  if x55 = true then
    Option.bind (appI x5 ([x8] : List SetOut)) fun y7 =>
    some y7
  else
    some x5
def setout_plan_0 (N : Nat) (x13 : Int) : Nat → (List SetOut) → (List Int) → Int → Option (List SetOut)
  | 0, _, _, _ => none
  | n + 1, x5, x6, x14 =>
    if (decide (x14 < x13)) = true then
      Option.bind (setout_plan_1 N x6 x14 x6 (x6.length : Int) N (SetOut.mk x14 0 0) [] 0) fun y6 =>
      Option.bind (setout_plan_4 N x5 y6.1 (decide (0 < y6.1.wagons))) fun y8 =>
      setout_plan_0 N x13 n y8 y6.2 (IntKind.wrap .i64 (x14 + 1))
    else
      some x5
def setout_plan (N : Nat) (x0 : List Int) (x1 : Int) : Option (List SetOut) :=
  Option.bind (setout_plan_0 N x1 N [] x0 0) fun y9 =>
  some y9
/-! ### humpyard/setout.Plan -/
def setout_Plan_0 (N : Nat) (x1 : Int) : Option Bool :=
  if (decide (x1 < 0)) = true then
    some true
  else
    some (decide (16 < x1))
def setout_Plan (N : Nat) (x0 : List Int) (x1 : Int) : Option (List SetOut × Int) :=
  Option.bind (setout_Plan_0 N x1) fun y1 =>
  if y1 = true then
    some ([], 2)
  else
    Option.bind (setout_check N x0 x1) fun y2 =>
    if (y2 != 0) = true then
      some ([], y2)
    else
      Option.bind (setout_plan N x0 x1) fun y3 =>
      some (y3, 0)
/-! ### slices.Clone[[]humpyard/api.Wagon,humpyard/api.Wagon] -/
def slices_Clone_api_Wagon_api_Wagon (N : Nat) (x0 : List Wagon) : Option (List Wagon) :=
  nilT x0 fun y1 =>
  if y1 = true then
    some []
  else
    Option.bind (appI ([] : List Wagon) x0) fun y2 =>
    some y2
/-! ### humpyard/trainbuild.Build -/
def trainbuild_Build_0 (N : Nat) (x4 : TrainOrder) (x81 : List Int) (x82 : Int) : Nat → (List Int) → Int → Option (List Int)
  | 0, _, _ => none
  | n + 1, x12, x83 =>
    if (decide (x83 < x82)) = true then
      Option.bind (getI x81 x83) fun y7 =>
      Option.bind (getI x81 x83) fun y8 =>
      Option.bind (getI x12 x83) fun y9 =>
      Option.bind (getI x12 x83) fun y10 =>
      AM.lt (x12.set ((x83 : Int).toNat) (IntKind.wrap .i64 ((IntKind.wrap .i64 ((x4.dests.length : Int) - 1)) - y8))) fun y11 =>
      trainbuild_Build_0 N x4 x81 x82 n y11 (IntKind.wrap .i64 (x83 + 1))
    else
      some x12
def trainbuild_Build (N : Nat) (x0 : YardConfig) (x1 : TrainOrder) (x2 : List Wagon) : Option (Final × Int × Int × Int) :=
  Option.bind (trainbuild_check N x0 x1 x2) fun y1 =>
  if (y1 != 0) = true then
    some ((Final.mk [] [] (Brakes.mk 0 0 0 0 0 0 0) []), 0, 0, y1)
  else
    if ((x2.length : Int) == 0) = true then
      some ((Final.mk [] [] (Brakes.mk 0 0 0 0 0 0 0) []), 0, 0, 13)
    else
      Option.bind (trainbuild_ordered N x1 x2) fun y2 =>
      if (y2.2.2 != 0) = true then
        some ((Final.mk [] [] (Brakes.mk 0 0 0 0 0 0 0) []), 0, y2.2.1, y2.2.2)
      else
        Option.bind (brake_Sheet N x2 [] x0.table x0.speed x0.grade) fun y3 =>
        if (y3.2 != 0) = true then
          some ((Final.mk [] [] (Brakes.mk 0 0 0 0 0 0 0) []), 0, 0, y3.2)
        else
          Option.bind (rulebook_Check N x0.rules x2 []) fun y4 =>
          if (y4.2.2 != 0) = true then
            some ((Final.mk [] [] (Brakes.mk 0 0 0 0 0 0 0) []), 0, 0, y4.2.2)
          else
            if (y4.1 != 0) = true then
              some ((Final.mk [] [] (Brakes.mk 0 0 0 0 0 0 0) []), y4.1, y4.2.1, 20)
            else
              if (y3.1.missing != 0) = true then
                AM.lt (x2.length : Int) fun y5 =>
                some ((Final.mk [] [] (Brakes.mk 0 0 0 0 0 0 0) []), 0, y5, 20)
              else
                Option.bind (mkI 0 (x2.length : Int)) fun y6 =>
                Option.bind (trainbuild_Build_0 N x1 y2.1 (y2.1.length : Int) N y6 0) fun y12 =>
                Option.bind (setout_Plan N y12 (x1.dests.length : Int)) fun y13 =>
                if (y13.2 != 0) = true then
                  some ((Final.mk [] [] (Brakes.mk 0 0 0 0 0 0 0) []), 0, 0, y13.2)
                else
                  Option.bind (slices_Clone_api_Wagon_api_Wagon N x2) fun y14 =>
                  some ((Final.mk x1.name y14 y3.1 y13.1), 0, 0, 0)
/-! ### humpyard/humpyardlaw37.wagon -/
def l37_wagon (N : Nat) (x0 : Int) (x1 : List UInt8) : Option Wagon :=
  Option.bind (gen_New N ([7] : List Int)) fun y1 =>
  Option.bind (Maker_Wagon N y1 x0) fun y2 =>
  some (Wagon.mk y2.1.number y2.1.length y2.1.axles y2.1.mass y2.1.brake y2.1.goods y2.1.gentle x1)
/-! ### humpyard/trainbuild.Longest -/
def trainbuild_Longest_0 (N : Nat) (x2 : List Wagon) (x3 : YardConfig) (x4 : TrainOrder) : Nat → Int → Option (Sum (Unit) (Int × Int))
  | 0, _ => none
  | n + 1, x9 =>
    if (decide (0 < x9)) = true then
      Option.bind (cutI x2 0 x9) fun y3 =>
      Option.bind (trainbuild_Build N x3 x4 y3) fun y4 =>
      if (y4.2.2.2 == 0) = true then
        some (Sum.inr (x9, 0))
      else
        AM.lt (IntKind.wrap .i64 (x9 - 1)) fun y5 =>
        trainbuild_Longest_0 N x2 x3 x4 n y5
    else
      some (Sum.inl ())
def trainbuild_Longest (N : Nat) (x0 : YardConfig) (x1 : TrainOrder) (x2 : List Wagon) : Option (Int × Int) :=
  Option.bind (trainbuild_check N x0 x1 x2) fun y1 =>
  if (y1 != 0) = true then
    some (0, y1)
  else
    AM.lt (x2.length : Int) fun y2 =>
    Option.bind (trainbuild_Longest_0 N x2 x0 x1 N y2) fun y6 =>
    match y6 with
    | Sum.inl y7 =>
      some (0, 0)
    | Sum.inr y8 =>
      some (y8.1, y8.2)
/-! ### humpyard/yardgen.SameSetOuts -/
def yardgen_SameSetOuts_0 (N : Nat) (x0 : List SetOut) (x1 : List SetOut) : Nat → Int → Option (Sum (Unit) (Bool))
  | 0, _ => none
  | n + 1, x5 =>
    if (decide (x5 < (x0.length : Int))) = true then
      Option.bind (getI x0 x5) fun y1 =>
      Option.bind (getI x1 x5) fun y2 =>
      if (!(decide (y1 = y2))) = true then
        some (Sum.inr false)
      else
        AM.lt (IntKind.wrap .i64 (x5 + 1)) fun y3 =>
        yardgen_SameSetOuts_0 N x0 x1 n y3
    else
      some (Sum.inl ())
def yardgen_SameSetOuts (N : Nat) (x0 : List SetOut) (x1 : List SetOut) : Option Bool :=
  if ((x0.length : Int) != (x1.length : Int)) = true then
    some false
  else
    Option.bind (yardgen_SameSetOuts_0 N x0 x1 N 0) fun y4 =>
    match y4 with
    | Sum.inl y5 =>
      some true
    | Sum.inr y6 =>
      some y6
/-! ### humpyard/humpyardlaw37.sane -/
def l37_sane_0 (N : Nat) (x4 : Final) (x7 : Int) (x10 : Int) (x11 : Int) (x13 : Int) (x14 : Int) (x15 : Int) (x16 : Int) (x17 : Int) : Option Bool :=
  if (x7 == 0) = true then
    if ((x4.wagons.length : Int) == 3) = true then
      Option.bind (yardgen_SameSetOuts N x4.setOuts ([(SetOut.mk 0 1 1), (SetOut.mk 1 2 1)] : List SetOut)) fun y12 =>
      if y12 = true then
        if (x11 == 12) = true then
          if (x10 == 1) = true then
            if (x15 == 20) = true then
              if (x13 == 7) = true then
                if (x14 == 2) = true then
                  if (x17 == 0) = true then
                    AM.lt (x16 == 2) fun y13 =>
                    some y13
                  else
                    some false
                else
                  some false
              else
                some false
            else
              some false
          else
            some false
        else
          some false
      else
        some false
    else
      some false
  else
    some false
def l37_sane (N : Nat) : Option Bool :=
  Option.bind (l37_wagon N 1 [97]) fun y1 =>
  Option.bind (l37_wagon N 2 [97]) fun y2 =>
  Option.bind (l37_wagon N 3 [98]) fun y3 =>
  Option.bind (trainbuild_Build N (YardConfig.mk ([(Track.mk [120] 9)] : List Track) [] ([(BrakeRow.mk 100 100 0)] : List BrakeRow) 100 0) (TrainOrder.mk [110] 0 ([[97], [98]] : List (List UInt8))) ([y1, y2, y3] : List Wagon)) fun y4 =>
  Option.bind (getI ([y1, y2, y3] : List Wagon) 2) fun y5 =>
  Option.bind (getI ([y1, y2, y3] : List Wagon) 0) fun y6 =>
  Option.bind (trainbuild_Build N (YardConfig.mk ([(Track.mk [120] 9)] : List Track) [] ([(BrakeRow.mk 100 100 0)] : List BrakeRow) 100 0) (TrainOrder.mk [110] 0 ([[97], [98]] : List (List UInt8))) ([y5, y6] : List Wagon)) fun y7 =>
  Option.bind (getI ([y1, y2, y3] : List Wagon) 0) fun y8 =>
  Option.bind (getI ([y1, y2, y3] : List Wagon) 1) fun y9 =>
  Option.bind (trainbuild_Build N (YardConfig.mk ([(Track.mk [120] 9)] : List Track) ([(Rule.mk 7 2 (IntKind.wrap .i64 (y8.axles + y9.axles)) 0 0)] : List Rule) ([(BrakeRow.mk 100 100 0)] : List BrakeRow) 100 0) (TrainOrder.mk [110] 0 ([[97], [98]] : List (List UInt8))) ([y1, y2, y3] : List Wagon)) fun y10 =>
  Option.bind (trainbuild_Longest N (YardConfig.mk ([(Track.mk [120] 9)] : List Track) ([(Rule.mk 7 2 (IntKind.wrap .i64 (y8.axles + y9.axles)) 0 0)] : List Rule) ([(BrakeRow.mk 100 100 0)] : List BrakeRow) 100 0) (TrainOrder.mk [110] 0 ([[97], [98]] : List (List UInt8))) ([y1, y2, y3] : List Wagon)) fun y11 =>
  Option.bind (l37_sane_0 N y4.1 y4.2.2.2 y7.2.2.1 y7.2.2.2 y10.2.1 y10.2.2.1 y10.2.2.2 y11.1 y11.2) fun y14 =>
  some y14
/-! ### humpyard/humpyardref36.valid -/
def r36_valid_0 (N : Nat) (x1 : Rule) : Option Bool :=
  if (decide (x1.number < 1)) = true then
    some true
  else
    if (decide (9999 < x1.number)) = true then
      some true
    else
      if (decide (x1.kind < 1)) = true then
        some true
      else
        some (decide (9 < x1.kind))
def r36_valid_1 (N : Nat) (x1 : Rule) : Option Bool :=
  if (decide (0 ≤ x1.a)) = true then
    if (decide (x1.a ≤ 1000000)) = true then
      if (decide (0 ≤ x1.b)) = true then
        if (decide (x1.b ≤ 1000000)) = true then
          if (decide (0 ≤ x1.c)) = true then
            AM.lt (decide (x1.c ≤ 1000000)) fun y2 =>
            some y2
          else
            some false
        else
          some false
      else
        some false
    else
      some false
  else
    some false
def r36_valid (N : Nat) (x0 : Rule) : Option Bool :=
  Option.bind (r36_valid_0 N x0) fun y1 =>
  if y1 = true then
    some false
  else
    Option.bind (r36_valid_1 N x0) fun y3 =>
    some y3
/-! ### humpyard/humpyardref36.Valid -/
def r36_Valid_1 (N : Nat) (x0 : List Rule) (x3 : Int) : Nat → Int → Option (Sum (Unit) (Int))
  | 0, _ => none
  | n + 1, x4 =>
    if (decide (x4 < x3)) = true then
      Option.bind (getI x0 x4) fun y3 =>
      Option.bind (getI x0 x3) fun y4 =>
      if (y3.number == y4.number) = true then
        some (Sum.inr 8)
      else
        AM.lt (IntKind.wrap .i64 (x4 + 1)) fun y5 =>
        r36_Valid_1 N x0 x3 n y5
    else
      some (Sum.inl ())
def r36_Valid_0 (N : Nat) (x0 : List Rule) : Nat → Int → Option (Sum (Unit) (Int))
  | 0, _ => none
  | n + 1, x3 =>
    if (decide (x3 < (x0.length : Int))) = true then
      Option.bind (getI x0 x3) fun y1 =>
      Option.bind (r36_valid N y1) fun y2 =>
      if (!y2) = true then
        some (Sum.inr 1)
      else
        Option.bind (r36_Valid_1 N x0 x3 N 0) fun y6 =>
        match y6 with
        | Sum.inl y7 =>
          AM.lt (IntKind.wrap .i64 (x3 + 1)) fun y8 =>
          r36_Valid_0 N x0 n y8
        | Sum.inr y9 =>
          some (Sum.inr y9)
    else
      some (Sum.inl ())
def r36_Valid (N : Nat) (x0 : List Rule) : Option Int :=
  if (decide (32 < (x0.length : Int))) = true then
    some 3
  else
    Option.bind (r36_Valid_0 N x0 N 0) fun y10 =>
    match y10 with
    | Sum.inl y11 =>
      some 0
    | Sum.inr y12 =>
      some y12
/-! ### humpyard/humpyardref02.Valid -/
def r02_Valid (N : Nat) (x0 : List UInt8) : Option Int :=
  Option.bind (r02_digits N x0 12) fun y1 =>
  if (!y1) = true then
    some 11
  else
    Option.bind (r02_sum N x0 11) fun y2 =>
    Option.bind (getI x0 11) fun y3 =>
    if ((Int.tmod (IntKind.wrap .i64 (y2 + (IntKind.wrap .i64 ((IntKind.wrap .u8 ((UInt8.toNat y3 : Int) - 48)))))) 10) != 0) = true then
      some 9
    else
      some 0
/-! ### humpyard/humpyardref02.Kind -/
def r02_Kind_0 (N : Nat) (x11 : Int) (x12 : Bool) : Option Bool :=
  if x12 = true then
    some x12
  else
    AM.lt (x11 == 56) fun y4 =>
    some y4
def r02_Kind_1 (N : Nat) (x11 : Int) (x15 : Bool) : Option Bool :=
  if x15 = true then
    some x15
  else
    AM.lt (x11 == 52) fun y7 =>
    some y7
def r02_Kind (N : Nat) (x0 : List UInt8) : Option (Int × Int) :=
  Option.bind (r02_Valid N x0) fun y1 =>
  if (y1 != 0) = true then
    some (0, y1)
  else
    Option.bind (getI x0 4) fun y2 =>
    AM.lt ((UInt8.toNat y2 : Int) == 55) fun y3 =>
    Option.bind (r02_Kind_0 N (UInt8.toNat y2 : Int) y3) fun y5 =>
    if y5 = true then
      some (1, 0)
    else
      AM.lt ((UInt8.toNat y2 : Int) == 50) fun y6 =>
      Option.bind (r02_Kind_1 N (UInt8.toNat y2 : Int) y6) fun y8 =>
      if y8 = true then
        some (2, 0)
      else
        AM.lt ((UInt8.toNat y2 : Int) == 57) fun y9 =>
        if y9 = true then
          some (3, 0)
        else
          some (0, 0)
/-! ### humpyard/humpyardref06.Name -/
def r06_Name_1 (N : Nat) (x0 : List UInt8) (x3 : Int) : Option Bool :=
  Option.bind (getI x0 x3) fun y1 =>
  if (decide (97 ≤ (UInt8.toNat y1 : Int))) = true then
    Option.bind (getI x0 x3) fun y2 =>
    if (decide ((UInt8.toNat y2 : Int) ≤ 122)) = true then
      some (!true)
    else
      Option.bind (getI x0 x3) fun y3 =>
      if (decide (48 ≤ (UInt8.toNat y3 : Int))) = true then
        Option.bind (getI x0 x3) fun y4 =>
        some (!(decide ((UInt8.toNat y4 : Int) ≤ 57)))
      else
        some (!false)
  else
    Option.bind (getI x0 x3) fun y5 =>
    if (decide (48 ≤ (UInt8.toNat y5 : Int))) = true then
      Option.bind (getI x0 x3) fun y6 =>
      some (!(decide ((UInt8.toNat y6 : Int) ≤ 57)))
    else
      some (!false)
def r06_Name_0 (N : Nat) (x0 : List UInt8) : Nat → Int → Option (Sum (Unit) (Bool))
  | 0, _ => none
  | n + 1, x3 =>
    if (decide (x3 < (x0.length : Int))) = true then
      Option.bind (r06_Name_1 N x0 x3) fun y7 =>
      if y7 = true then
        some (Sum.inr false)
      else
        AM.lt (IntKind.wrap .i64 (x3 + 1)) fun y8 =>
        r06_Name_0 N x0 n y8
    else
      some (Sum.inl ())
def r06_Name_2 (N : Nat) (x0 : List UInt8) : Option Bool :=
  if (decide (1 ≤ (x0.length : Int))) = true then
    AM.lt (decide ((x0.length : Int) ≤ 12)) fun y11 =>
    some y11
  else
    some false
def r06_Name (N : Nat) (x0 : List UInt8) : Option Bool :=
  Option.bind (r06_Name_0 N x0 N 0) fun y9 =>
  match y9 with
  | Sum.inl y10 =>
    Option.bind (r06_Name_2 N x0) fun y12 =>
    some y12
  | Sum.inr y13 =>
    some y13
/-! ### humpyard/humpyardref06.Valid -/
def r06_Valid_0 (N : Nat) (x5 : Int) (x6 : Int) (x16 : Int) : Option (Int × Int) :=
  AM.lt (x16 == 2) fun y2 =>
  if y2 = true then
    some (2, x6)
  else
    AM.lt (x16 == 3) fun y3 =>
    if y3 = true then
      some (6, 120)
    else
      some (x5, x6)
def r06_Valid_1 (N : Nat) (x1 : Wagon) (x6 : Int) : Option Bool :=
  if (decide (x1.length < x6)) = true then
    some true
  else
    if (decide (400 < x1.length)) = true then
      some true
    else
      if (decide (x1.mass < 50)) = true then
        some true
      else
        if (decide (2000 < x1.mass)) = true then
          some true
        else
          if (decide (x1.brake < 0)) = true then
            some true
          else
            if (decide (x1.mass < x1.brake)) = true then
              some true
            else
              if (decide (x1.goods < 0)) = true then
                some true
              else
                AM.lt (decide (9 < x1.goods)) fun y6 =>
                some y6
def r06_Valid (N : Nat) (x0 : Wagon) : Option Int :=
  Option.bind (r02_Kind N x0.number) fun y1 =>
  if (y1.2 != 0) = true then
    some y1.2
  else
    Option.bind (r06_Valid_0 N 4 80 y1.1) fun y4 =>
    AM.lt (x0.axles != y4.1) fun y5 =>
    if y5 = true then
      some 1
    else
      Option.bind (r06_Valid_1 N x0 y4.2) fun y7 =>
      if y7 = true then
        some 2
      else
        Option.bind (r06_Name N x0.dest) fun y8 =>
        AM.lt (!y8) fun y9 =>
        if y9 = true then
          some 7
        else
          some 0
/-! ### humpyard/humpyardref06.ValidList -/
def r06_ValidList_1 (N : Nat) (x0 : List Wagon) (x3 : Int) : Nat → Int → Option (Sum (Unit) (Int))
  | 0, _ => none
  | n + 1, x5 =>
    if (decide (x5 < x3)) = true then
      Option.bind (getI x0 x5) fun y3 =>
      Option.bind (getI x0 x3) fun y4 =>
      if (y3.number == y4.number) = true then
        some (Sum.inr 8)
      else
        AM.lt (IntKind.wrap .i64 (x5 + 1)) fun y5 =>
        r06_ValidList_1 N x0 x3 n y5
    else
      some (Sum.inl ())
def r06_ValidList_0 (N : Nat) (x0 : List Wagon) : Nat → Int → Option (Sum (Unit) (Int))
  | 0, _ => none
  | n + 1, x3 =>
    if (decide (x3 < (x0.length : Int))) = true then
      Option.bind (getI x0 x3) fun y1 =>
      Option.bind (r06_Valid N y1) fun y2 =>
      if (y2 != 0) = true then
        some (Sum.inr y2)
      else
        Option.bind (r06_ValidList_1 N x0 x3 N 0) fun y6 =>
        match y6 with
        | Sum.inl y7 =>
          AM.lt (IntKind.wrap .i64 (x3 + 1)) fun y8 =>
          r06_ValidList_0 N x0 n y8
        | Sum.inr y9 =>
          some (Sum.inr y9)
    else
      some (Sum.inl ())
def r06_ValidList (N : Nat) (x0 : List Wagon) : Option Int :=
  if (decide (96 < (x0.length : Int))) = true then
    some 3
  else
    Option.bind (r06_ValidList_0 N x0 N 0) fun y10 =>
    match y10 with
    | Sum.inl y11 =>
      some 0
    | Sum.inr y12 =>
      some y12
/-! ### humpyard/humpyardref06.Total -/
def r06_Total_0 (N : Nat) (x0 : List Wagon) : Nat → Int → Int → Int → Int → Option (Int × Int × Int)
  | 0, _, _, _, _ => none
  | n + 1, x2, x3, x4, x7 =>
    if (decide (x7 < (x0.length : Int))) = true then
      Option.bind (getI x0 x7) fun y2 =>
      AM.lt (IntKind.wrap .i64 (x2 + y2.length)) fun y3 =>
      Option.bind (getI x0 x7) fun y4 =>
      AM.lt (IntKind.wrap .i64 (x3 + y4.mass)) fun y5 =>
      Option.bind (getI x0 x7) fun y6 =>
      AM.lt (IntKind.wrap .i64 (x4 + y6.axles)) fun y7 =>
      AM.lt (IntKind.wrap .i64 (x7 + 1)) fun y8 =>
      r06_Total_0 N x0 n y3 y5 y7 y8
    else
      some (x2, x3, x4)
def r06_Total (N : Nat) (x0 : List Wagon) : Option (Int × Int × Int × Int) :=
  Option.bind (r06_ValidList N x0) fun y1 =>
  if (y1 != 0) = true then
    some (0, 0, 0, y1)
  else
    Option.bind (r06_Total_0 N x0 N 0 0 0 0) fun y9 =>
    some (y9.1, y9.2.1, y9.2.2, 0)
/-! ### humpyard/humpyardref35.Off -/
def r35_Off_0 (N : Nat) (x0 : List Int) (x1 : Int) : Nat → Int → Option (Sum (Unit) (Bool))
  | 0, _ => none
  | n + 1, x5 =>
    if (decide (x5 < (x0.length : Int))) = true then
      Option.bind (getI x0 x5) fun y1 =>
      if (y1 == x1) = true then
        some (Sum.inr true)
      else
        AM.lt (IntKind.wrap .i64 (x5 + 1)) fun y2 =>
        r35_Off_0 N x0 x1 n y2
    else
      some (Sum.inl ())
def r35_Off (N : Nat) (x0 : List Int) (x1 : Int) : Option Bool :=
  Option.bind (r35_Off_0 N x0 x1 N 0) fun y3 =>
  match y3 with
  | Sum.inl y4 =>
    some false
  | Sum.inr y5 =>
    some y5
/-! ### humpyard/humpyardref35.Factor -/
def r35_Factor (N : Nat) (x0 : Int) : Option Int :=
  if (decide (x0 ≤ 5000)) = true then
    some 100
  else
    if (decide (7000 < x0)) = true then
      some 80
    else
      AM.lt (IntKind.wrap .i64 (100 - (IntKind.wrap .i64 (Int.tdiv (IntKind.wrap .i64 ((IntKind.wrap .i64 (x0 - 5000)) + 99)) 100)))) fun y1 =>
      some y1
/-! ### humpyard/humpyardref35.Total -/
def r35_Total_1 (N : Nat) (x0 : List Wagon) (x1 : List Int) (x10 : Int) : Option Bool :=
  Option.bind (getI x1 x10) fun y2 =>
  if (decide (y2 < 0)) = true then
    some true
  else
    Option.bind (getI x1 x10) fun y3 =>
    some (decide ((x0.length : Int) ≤ y3))
def r35_Total_0 (N : Nat) (x0 : List Wagon) (x1 : List Int) : Nat → Brakes → Int → Option (Sum (Brakes) (Brakes × Int))
  | 0, _, _ => none
  | n + 1, x4, x10 =>
    if (decide (x10 < (x1.length : Int))) = true then
      Option.bind (r35_Total_1 N x0 x1 x10) fun y4 =>
      if y4 = true then
        some (Sum.inr ((Brakes.mk 0 0 0 0 0 0 0), 2))
      else
        AM.lt (IntKind.wrap .i64 (x10 + 1)) fun y5 =>
        r35_Total_0 N x0 x1 n x4 y5
    else
      some (Sum.inl x4)
def r35_Total_2 (N : Nat) (x1 : List Int) : Nat → Brakes → Int → Option (Sum (Brakes) (Brakes × Int))
  | 0, _, _ => none
  | n + 1, x4, x11 =>
    if (decide (x11 < (x1.length : Int))) = true then
      Option.bind (cutI x1 0 x11) fun y8 =>
      Option.bind (getI x1 x11) fun y9 =>
      Option.bind (r35_Off N y8 y9) fun y10 =>
      if y10 = true then
        some (Sum.inr ((Brakes.mk 0 0 0 0 0 0 0), 8))
      else
        AM.lt (IntKind.wrap .i64 (x11 + 1)) fun y11 =>
        r35_Total_2 N x1 n x4 y11
    else
      some (Sum.inl x4)
def r35_Total_4 (N : Nat) (x0 : List Wagon) (x1 : List Int) (x12 : Brakes) (x13 : Int) : Option Brakes :=
  Option.bind (r35_Off N x1 x13) fun y14 =>
  if (!y14) = true then
    Option.bind (getI x0 x13) fun y15 =>
    some (Brakes.mk x12.length x12.axles x12.mass (IntKind.wrap .i64 (x12.braked + y15.brake)) x12.percent x12.required x12.missing)
  else
    some x12
def r35_Total_3 (N : Nat) (x0 : List Wagon) (x1 : List Int) : Nat → Brakes → Int → Option Brakes
  | 0, _, _ => none
  | n + 1, x12, x13 =>
    if (decide (x13 < (x0.length : Int))) = true then
      Option.bind (r35_Total_4 N x0 x1 x12 x13) fun y16 =>
      AM.lt (IntKind.wrap .i64 (x13 + 1)) fun y17 =>
      r35_Total_3 N x0 x1 n y16 y17
    else
      some x12
def r35_Total_5 (N : Nat) (x7 : Int) (x12 : Brakes) (x92 : Bool) : Option Brakes :=
  if x92 = true then
    Option.bind (divI (IntKind.wrap .i64 (100 * x12.braked)) x7) fun y20 =>
    some (Brakes.mk x12.length x12.axles x12.mass x12.braked (IntKind.wrap .i64 (y20)) x12.required x12.missing)
  else
    some x12
def r35_Total (N : Nat) (x0 : List Wagon) (x1 : List Int) : Option (Brakes × Int) :=
  Option.bind (r06_Total N x0) fun y1 =>
  if (y1.2.2.2 != 0) = true then
    some ((Brakes.mk 0 0 0 0 0 0 0), y1.2.2.2)
  else
    Option.bind (r35_Total_0 N x0 x1 N (Brakes.mk 0 0 0 0 0 0 0) 0) fun y6 =>
    match y6 with
    | Sum.inl y7 =>
      Option.bind (r35_Total_2 N x1 N y7 0) fun y12 =>
      match y12 with
      | Sum.inl y13 =>
        Option.bind (r35_Total_3 N x0 x1 N (Brakes.mk y1.1 y1.2.2.1 y1.2.1 0 0 0 0) 0) fun y18 =>
        Option.bind (r35_Factor N y1.1) fun y19 =>
        Option.bind (r35_Total_5 N y1.2.1 (Brakes.mk y18.length y18.axles y18.mass (IntKind.wrap .i64 (Int.tdiv (IntKind.wrap .i64 (y18.braked * y19)) 100)) y18.percent y18.required y18.missing) (decide (0 < y1.2.1))) fun y21 =>
        some (y21, 0)
      | Sum.inr y22 =>
        some (y22.1, y22.2)
    | Sum.inr y23 =>
      some (y23.1, y23.2)
/-! ### humpyard/humpyardref36.size -/
def r36_size (N : Nat) (x0 : Int) (x1 : Wagon) : Option Int :=
  AM.lt (x0 == 1) fun y1 =>
  if y1 = true then
    some x1.length
  else
    AM.lt (x0 == 2) fun y2 =>
    if y2 = true then
      some x1.axles
    else
      some x1.mass
/-! ### humpyard/humpyardref36.classes -/
def r36_classes_0 (N : Nat) (x2 : Int) (x3 : Int) (x4 : Wagon) (x5 : Wagon) : Option Bool :=
  if (x4.goods == x2) = true then
    if (x5.goods == x3) = true then
      some true
    else
      if (x4.goods == x3) = true then
        AM.lt (x5.goods == x2) fun y1 =>
        some y1
      else
        some false
  else
    if (x4.goods == x3) = true then
      AM.lt (x5.goods == x2) fun y2 =>
      some y2
    else
      some false
def r36_classes (N : Nat) (x0 : Wagon) (x1 : Wagon) (x2 : Int) (x3 : Int) : Option Bool :=
  Option.bind (r36_classes_0 N x2 x3 x0 x1) fun y3 =>
  some y3
/-! ### humpyard/humpyardref36.breaks -/
def r36_breaks_1 (N : Nat) (x12 : Int) (x13 : Bool) : Option Bool :=
  if x13 = true then
    some x13
  else
    AM.lt (x12 == 2) fun y2 =>
    if y2 = true then
      some y2
    else
      AM.lt (x12 == 3) fun y3 =>
      some y3
def r36_breaks_2 (N : Nat) (x1 : List Wagon) (x2 : Int) (x3 : Rule) : Nat → Int → Int → Option Int
  | 0, _, _ => none
  | n + 1, x7, x8 =>
    if (decide (x8 ≤ x2)) = true then
      Option.bind (getI x1 x8) fun y5 =>
      Option.bind (r36_size N x3.kind y5) fun y6 =>
      AM.lt (IntKind.wrap .i64 (x7 + y6)) fun y7 =>
      AM.lt (IntKind.wrap .i64 (x8 + 1)) fun y8 =>
      r36_breaks_2 N x1 x2 x3 n y7 y8
    else
      some x7
def r36_breaks_4 (N : Nat) (x1 : List Wagon) (x2 : Int) (x3 : Rule) (x9 : Int) : Option Bool :=
  Option.bind (getI x1 x9) fun y12 =>
  Option.bind (getI x1 x2) fun y13 =>
  Option.bind (r36_classes N y12 y13 x3.a x3.b) fun y14 =>
  if y14 = true then
    some (decide ((IntKind.wrap .i64 ((IntKind.wrap .i64 (x2 - x9)) - 1)) < x3.c))
  else
    some false
def r36_breaks_3 (N : Nat) (x1 : List Wagon) (x2 : Int) (x3 : Rule) : Nat → Int → Option (Sum (Unit) (Bool))
  | 0, _ => none
  | n + 1, x9 =>
    if (decide (x9 < x2)) = true then
      Option.bind (r36_breaks_4 N x1 x2 x3 x9) fun y15 =>
      if y15 = true then
        some (Sum.inr true)
      else
        AM.lt (IntKind.wrap .i64 (x9 + 1)) fun y16 =>
        r36_breaks_3 N x1 x2 x3 n y16
    else
      some (Sum.inl ())
def r36_breaks_5 (N : Nat) (x1 : List Wagon) (x2 : Int) (x3 : Rule) : Option Bool :=
  Option.bind (getI x1 x2) fun y21 =>
  if (y21.goods == x3.a) = true then
    AM.lt (decide (x2 < x3.b)) fun y22 =>
    some y22
  else
    some false
def r36_breaks_6 (N : Nat) (x1 : List Wagon) : Nat → Int → Int → Option Int
  | 0, _, _ => none
  | n + 1, x7, x10 =>
    if (decide (x10 < (x1.length : Int))) = true then
      Option.bind (getI x1 x10) fun y30 =>
      AM.lt (IntKind.wrap .i64 (x7 + y30.mass)) fun y31 =>
      AM.lt (IntKind.wrap .i64 (x10 + 1)) fun y32 =>
      r36_breaks_6 N x1 n y31 y32
    else
      some x7
def r36_breaks_7 (N : Nat) (x1 : List Wagon) (x2 : Int) (x3 : Rule) (x7 : Int) : Option Bool :=
  Option.bind (getI x1 x2) fun y34 =>
  if (decide (y34.mass ≤ x3.a)) = true then
    AM.lt (decide (x3.b < x7)) fun y35 =>
    some y35
  else
    some false
def r36_breaks_0 (N : Nat) (x1 : List Wagon) (x2 : Int) (x3 : Rule) (x7 : Int) (x12 : Int) : Option (Sum (Unit) (Bool)) :=
  AM.lt (x12 == 1) fun y1 =>
  Option.bind (r36_breaks_1 N x12 y1) fun y4 =>
  if y4 = true then
    Option.bind (r36_breaks_2 N x1 x2 x3 N x7 0) fun y9 =>
    AM.lt (decide (x3.a < y9)) fun y10 =>
    some (Sum.inr y10)
  else
    AM.lt (x12 == 5) fun y11 =>
    if y11 = true then
      Option.bind (r36_breaks_3 N x1 x2 x3 N 0) fun y17 =>
      match y17 with
      | Sum.inl y18 =>
        some (Sum.inl ())
      | Sum.inr y19 =>
        some (Sum.inr y19)
    else
      AM.lt (x12 == 6) fun y20 =>
      if y20 = true then
        Option.bind (r36_breaks_5 N x1 x2 x3) fun y23 =>
        some (Sum.inr y23)
      else
        AM.lt (x12 == 8) fun y24 =>
        if y24 = true then
          Option.bind (getI x1 x2) fun y25 =>
          Option.bind (getI x1 x2) fun y26 =>
          AM.lt (decide ((IntKind.wrap .i64 (x3.a * y26.axles)) < y25.mass)) fun y27 =>
          some (Sum.inr y27)
        else
          AM.lt (x12 == 9) fun y28 =>
          if y28 = true then
            AM.lt (IntKind.wrap .i64 (x2 + 1)) fun y29 =>
            Option.bind (r36_breaks_6 N x1 N x7 y29) fun y33 =>
            Option.bind (r36_breaks_7 N x1 x2 x3 y33) fun y36 =>
            some (Sum.inr y36)
          else
            some (Sum.inl ())
def r36_breaks (N : Nat) (x0 : Rule) (x1 : List Wagon) (x2 : Int) : Option Bool :=
  Option.bind (r36_breaks_0 N x1 x2 x0 0 x0.kind) fun y37 =>
  match y37 with
  | Sum.inl y38 =>
    some false
  | Sum.inr y39 =>
    some y39
/-! ### humpyard/humpyardref36.place -/
def r36_place_0 (N : Nat) (x3 : Rule) (x7 : Int) (x8 : Brakes) : Option Bool :=
  if (decide (0 < x7)) = true then
    some (decide (x8.percent < x3.a))
  else
    some false
def r36_place_3 (N : Nat) (x1 : List Wagon) (x2 : List Int) (x12 : Int) : Option Bool :=
  Option.bind (getI x1 x12) fun y8 =>
  if (decide (0 < y8.brake)) = true then
    Option.bind (r35_Off N x2 x12) fun y9 =>
    some (!y9)
  else
    some false
def r36_place_2 (N : Nat) (x1 : List Wagon) (x2 : List Int) (x11 : Int) (x12 : Int) : Option Int :=
  Option.bind (r36_place_3 N x1 x2 x12) fun y10 =>
  if y10 = true then
    AM.lt (IntKind.wrap .i64 (x11 + 1)) fun y11 =>
    some y11
  else
    some x11
def r36_place_1 (N : Nat) (x1 : List Wagon) (x2 : List Int) (x7 : Int) : Nat → Int → Int → Option Int
  | 0, _, _ => none
  | n + 1, x11, x12 =>
    if (decide (x12 < x7)) = true then
      Option.bind (r36_place_2 N x1 x2 x11 x12) fun y12 =>
      AM.lt (IntKind.wrap .i64 (x12 + 1)) fun y13 =>
      r36_place_1 N x1 x2 x7 n y12 y13
    else
      some x11
def r36_place_4 (N : Nat) (x1 : List Wagon) (x3 : Rule) (x7 : Int) : Nat → Int → Option (Sum (Unit) (Int))
  | 0, _ => none
  | n + 1, x13 =>
    if (decide (x13 < x7)) = true then
      Option.bind (r36_breaks N x3 x1 x13) fun y15 =>
      if y15 = true then
        some (Sum.inr x13)
      else
        AM.lt (IntKind.wrap .i64 (x13 + 1)) fun y16 =>
        r36_place_4 N x1 x3 x7 n y16
    else
      some (Sum.inl ())
def r36_place (N : Nat) (x0 : Rule) (x1 : List Wagon) (x2 : List Int) : Option Int :=
  AM.lt (x1.length : Int) fun y1 =>
  AM.lt (x0.kind == 4) fun y2 =>
  if y2 = true then
    Option.bind (r35_Total N x1 x2) fun y3 =>
    Option.bind (r36_place_0 N x0 y1 y3.1) fun y4 =>
    if y4 = true then
      some y1
    else
      some (-1)
  else
    AM.lt (x0.kind == 7) fun y5 =>
    if y5 = true then
      AM.lt (min x0.a y1) fun y6 =>
      AM.lt (IntKind.wrap .i64 (y1 - y6)) fun y7 =>
      Option.bind (r36_place_1 N x1 x2 y1 N 0 y7) fun y14 =>
      if (decide (y14 < (min x0.b y6))) = true then
        some y1
      else
        some (-1)
    else
      Option.bind (r36_place_4 N x1 x0 y1 N 0) fun y17 =>
      match y17 with
      | Sum.inl y18 =>
        some (-1)
      | Sum.inr y19 =>
        some y19
/-! ### humpyard/humpyardref36.Check -/
def r36_Check_0 (N : Nat) (x0 : List Rule) (x1 : List Wagon) (x2 : List Int) : Nat → Int → Option (Sum (Unit) (Int × Int × Int))
  | 0, _ => none
  | n + 1, x12 =>
    if (decide (x12 < (x0.length : Int))) = true then
      Option.bind (getI x0 x12) fun y3 =>
      Option.bind (r36_place N y3 x1 x2) fun y4 =>
      if (decide (0 ≤ y4)) = true then
        Option.bind (getI x0 x12) fun y5 =>
        some (Sum.inr (y5.number, y4, 0))
      else
        AM.lt (IntKind.wrap .i64 (x12 + 1)) fun y6 =>
        r36_Check_0 N x0 x1 x2 n y6
    else
      some (Sum.inl ())
def r36_Check (N : Nat) (x0 : List Rule) (x1 : List Wagon) (x2 : List Int) : Option (Int × Int × Int) :=
  Option.bind (r36_Valid N x0) fun y1 =>
  if (y1 != 0) = true then
    some (0, 0, y1)
  else
    Option.bind (r35_Total N x1 x2) fun y2 =>
    if (y2.2 != 0) = true then
      some (0, 0, y2.2)
    else
      Option.bind (r36_Check_0 N x0 x1 x2 N 0) fun y7 =>
      match y7 with
      | Sum.inl y8 =>
        some (0, (-1), 0)
      | Sum.inr y9 =>
        some (y9.1, y9.2.1, y9.2.2)
/-! ### humpyard/humpyardref35.ValidTable -/
def r35_ValidTable_1 (N : Nat) (x0 : List BrakeRow) (x3 : Int) : Option Bool :=
  Option.bind (getI x0 x3) fun y1 =>
  if (decide (y1.speed < 1)) = true then
    some true
  else
    Option.bind (getI x0 x3) fun y2 =>
    if (decide (200 < y2.speed)) = true then
      some true
    else
      Option.bind (getI x0 x3) fun y3 =>
      if (decide (y3.grade < 0)) = true then
        some true
      else
        Option.bind (getI x0 x3) fun y4 =>
        if (decide (500 < y4.grade)) = true then
          some true
        else
          Option.bind (getI x0 x3) fun y5 =>
          if (decide (y5.percent < 0)) = true then
            some true
          else
            Option.bind (getI x0 x3) fun y6 =>
            some (decide (250 < y6.percent))
def r35_ValidTable_0 (N : Nat) (x0 : List BrakeRow) : Nat → Int → Option (Sum (Unit) (Bool))
  | 0, _ => none
  | n + 1, x3 =>
    if (decide (x3 < (x0.length : Int))) = true then
      Option.bind (r35_ValidTable_1 N x0 x3) fun y7 =>
      if y7 = true then
        some (Sum.inr false)
      else
        AM.lt (IntKind.wrap .i64 (x3 + 1)) fun y8 =>
        r35_ValidTable_0 N x0 n y8
    else
      some (Sum.inl ())
def r35_ValidTable (N : Nat) (x0 : List BrakeRow) : Option Bool :=
  if (decide (64 < (x0.length : Int))) = true then
    some false
  else
    Option.bind (r35_ValidTable_0 N x0 N 0) fun y9 =>
    match y9 with
    | Sum.inl y10 =>
      some true
    | Sum.inr y11 =>
      some y11
/-! ### humpyard/humpyardref35.need -/
def r35_need_2 (N : Nat) (x0 : List BrakeRow) (x1 : Int) (x2 : Int) (x8 : Int) (x9 : Bool) (x10 : Int) : Option Bool :=
  Option.bind (getI x0 x10) fun y1 =>
  if (decide (x1 ≤ y1.speed)) = true then
    Option.bind (getI x0 x10) fun y2 =>
    if (decide (x2 ≤ y2.grade)) = true then
      if (!x9) = true then
        some true
      else
        Option.bind (getI x0 x10) fun y3 =>
        some (decide (y3.percent < x8))
    else
      some false
  else
    some false
def r35_need_1 (N : Nat) (x0 : List BrakeRow) (x1 : Int) (x2 : Int) (x8 : Int) (x9 : Bool) (x10 : Int) : Option (Int × Bool) :=
  Option.bind (r35_need_2 N x0 x1 x2 x8 x9 x10) fun y4 =>
  if y4 = true then
    Option.bind (getI x0 x10) fun y5 =>
    some (y5.percent, true)
  else
    some (x8, x9)
def r35_need_0 (N : Nat) (x0 : List BrakeRow) (x1 : Int) (x2 : Int) : Nat → Int → Bool → Int → Option (Int × Bool)
  | 0, _, _, _ => none
  | n + 1, x8, x9, x10 =>
    if (decide (x10 < (x0.length : Int))) = true then
      Option.bind (r35_need_1 N x0 x1 x2 x8 x9 x10) fun y6 =>
      AM.lt (IntKind.wrap .i64 (x10 + 1)) fun y7 =>
      r35_need_0 N x0 x1 x2 n y6.1 y6.2 y7
    else
      some (x8, x9)
def r35_need (N : Nat) (x0 : List BrakeRow) (x1 : Int) (x2 : Int) : Option (Int × Bool) :=
  Option.bind (r35_need_0 N x0 x1 x2 N 0 false 0) fun y8 =>
  some (y8.1, y8.2)
/-! ### humpyard/humpyardref35.Required -/
def r35_Required_0 (N : Nat) (x1 : Int) (x2 : Int) : Option Bool :=
  if (decide (x1 < 1)) = true then
    some true
  else
    if (decide (200 < x1)) = true then
      some true
    else
      if (decide (x2 < 0)) = true then
        some true
      else
        some (decide (500 < x2))
def r35_Required (N : Nat) (x0 : List BrakeRow) (x1 : Int) (x2 : Int) : Option (Int × Int) :=
  Option.bind (r35_ValidTable N x0) fun y1 =>
  if (!y1) = true then
    some (0, 1)
  else
    Option.bind (r35_Required_0 N x1 x2) fun y2 =>
    if y2 = true then
      some (0, 2)
    else
      Option.bind (r35_need N x0 x1 x2) fun y3 =>
      if (!y3.2) = true then
        some (0, 15)
      else
        some (y3.1, 0)
/-! ### humpyard/humpyardref35.Sheet -/
def r35_Sheet (N : Nat) (x0 : List Wagon) (x1 : List Int) (x2 : List BrakeRow) (x3 : Int) (x4 : Int) : Option (Brakes × Int) :=
  Option.bind (r35_Total N x0 x1) fun y1 =>
  if (y1.2 != 0) = true then
    some ((Brakes.mk 0 0 0 0 0 0 0), y1.2)
  else
    Option.bind (r35_Required N x2 x3 x4) fun y2 =>
    if (y2.2 != 0) = true then
      some ((Brakes.mk 0 0 0 0 0 0 0), y2.2)
    else
      some ((Brakes.mk y1.1.length y1.1.axles y1.1.mass y1.1.braked y1.1.percent y2.1 (max 0 (IntKind.wrap .i64 ((IntKind.wrap .i64 (Int.tdiv (IntKind.wrap .i64 ((IntKind.wrap .i64 (y2.1 * y1.1.mass)) + 99)) 100)) - y1.1.braked)))), 0)
/-! ### humpyard/humpgen.Wagons -/
def gen_Wagons_0 (N : Nat) (x0 : List Wagon) (x1 : List Wagon) : Nat → Int → Option (Sum (Unit) (Bool))
  | 0, _ => none
  | n + 1, x5 =>
    if (decide (x5 < (x0.length : Int))) = true then
      Option.bind (getI x0 x5) fun y1 =>
      Option.bind (getI x1 x5) fun y2 =>
      if (!(decide (y1 = y2))) = true then
        some (Sum.inr false)
      else
        AM.lt (IntKind.wrap .i64 (x5 + 1)) fun y3 =>
        gen_Wagons_0 N x0 x1 n y3
    else
      some (Sum.inl ())
def gen_Wagons (N : Nat) (x0 : List Wagon) (x1 : List Wagon) : Option Bool :=
  if ((x0.length : Int) != (x1.length : Int)) = true then
    some false
  else
    Option.bind (gen_Wagons_0 N x0 x1 N 0) fun y4 =>
    match y4 with
    | Sum.inl y5 =>
      some true
    | Sum.inr y6 =>
      some y6
/-! ### humpyard/humpyardlaw37.TrainbuildSheets -/
def l37_TrainbuildSheets_0 (N : Nat) (x7 : Final) : Option Bool :=
  if ((x7.wagons.length : Int) == 0) = true then
    Option.bind (l37_sane N) fun y4 =>
    some y4
  else
    some false
def l37_TrainbuildSheets_1 (N : Nat) (x5 : TrainOrder) (x6 : List Wagon) (x7 : Final) (x8 : Int) (x9 : Int) (x11 : Int) (x13 : Int) (x14 : Brakes) (x15 : Int) : Option Bool :=
  if (!(x7.name == x5.name)) = true then
    some true
  else
    Option.bind (gen_Wagons N x7.wagons x6) fun y8 =>
    if (!y8) = true then
      some true
    else
      if (x8 != 0) = true then
        some true
      else
        if (x9 != 0) = true then
          some true
        else
          if (x13 != 0) = true then
            some true
          else
            if (x11 != 0) = true then
              some true
            else
              if (x15 != 0) = true then
                some true
              else
                if (!(decide (x7.brakes = x14))) = true then
                  some true
                else
                  some (x14.missing != 0)
def l37_TrainbuildSheets_3 (N : Nat) (x5 : TrainOrder) (x16 : Int) (x18 : SetOut) : Option Bool :=
  if (x18.groups != 1) = true then
    some true
  else
    if (decide (x18.wagons < 1)) = true then
      some true
    else
      if (decide (x16 < x18.wagons)) = true then
        some true
      else
        if (decide (x18.stop < 0)) = true then
          some true
        else
          some (decide ((x5.dests.length : Int) ≤ x18.stop))
def l37_TrainbuildSheets_4 (N : Nat) (x5 : TrainOrder) (x6 : List Wagon) (x16 : Int) (x18 : SetOut) : Nat → Int → Option (Sum (Unit) (Bool))
  | 0, _ => none
  | n + 1, x19 =>
    if (decide (x19 < x16)) = true then
      Option.bind (getI x6 x19) fun y14 =>
      Option.bind (getI x5.dests (IntKind.wrap .i64 ((IntKind.wrap .i64 ((x5.dests.length : Int) - 1)) - x18.stop))) fun y15 =>
      if (!(y14.dest == y15)) = true then
        some (Sum.inr false)
      else
        AM.lt (IntKind.wrap .i64 (x19 + 1)) fun y16 =>
        l37_TrainbuildSheets_4 N x5 x6 x16 x18 n y16
    else
      some (Sum.inl ())
def l37_TrainbuildSheets_2 (N : Nat) (x5 : TrainOrder) (x6 : List Wagon) (x7 : Final) : Nat → Int → Int → Option (Sum (Int) (Bool))
  | 0, _, _ => none
  | n + 1, x16, x17 =>
    if (decide (x17 < (x7.setOuts.length : Int))) = true then
      Option.bind (getI x7.setOuts x17) fun y11 =>
      Option.bind (l37_TrainbuildSheets_3 N x5 x16 y11) fun y12 =>
      if y12 = true then
        some (Sum.inr false)
      else
        AM.lt (IntKind.wrap .i64 (x16 - y11.wagons)) fun y13 =>
        Option.bind (l37_TrainbuildSheets_4 N x5 x6 x16 y11 N y13) fun y17 =>
        match y17 with
        | Sum.inl y18 =>
          AM.lt (IntKind.wrap .i64 (x16 - y11.wagons)) fun y19 =>
          AM.lt (IntKind.wrap .i64 (x17 + 1)) fun y20 =>
          l37_TrainbuildSheets_2 N x5 x6 x7 n y19 y20
        | Sum.inr y21 =>
          some (Sum.inr y21)
    else
      some (Sum.inl x16)
def l37_TrainbuildSheets_5 (N : Nat) (x16 : Int) : Option Bool :=
  if (x16 == 0) = true then
    Option.bind (l37_sane N) fun y24 =>
    some y24
  else
    some false
def l37_TrainbuildSheets (N : Nat) (x0 : List Int) : Option Bool :=
  Option.bind (gen_New N x0) fun y1 =>
  Option.bind (l37_made N y1 10) fun y2 =>
  Option.bind (trainbuild_Build N y2.1 y2.2.1 y2.2.2.1) fun y3 =>
  if (y3.2.2.2 != 0) = true then
    Option.bind (l37_TrainbuildSheets_0 N y3.1) fun y5 =>
    some y5
  else
    Option.bind (r36_Check N y2.1.rules y2.2.2.1 []) fun y6 =>
    Option.bind (r35_Sheet N y2.2.2.1 [] y2.1.table y2.1.speed y2.1.grade) fun y7 =>
    Option.bind (l37_TrainbuildSheets_1 N y2.2.1 y2.2.2.1 y3.1 y3.2.1 y3.2.2.1 y6.1 y6.2.2 y7.1 y7.2) fun y9 =>
    if y9 = true then
      some false
    else
      AM.lt (y2.2.2.1.length : Int) fun y10 =>
      Option.bind (l37_TrainbuildSheets_2 N y2.2.1 y2.2.2.1 y3.1 N y10 0) fun y22 =>
      match y22 with
      | Sum.inl y23 =>
        Option.bind (l37_TrainbuildSheets_5 N y23) fun y25 =>
        some y25
      | Sum.inr y26 =>
        some y26
/-! ### humpyard/humpyardref37.Block -/
def r37_Block_0 (N : Nat) (x1 : List UInt8) (x2 : TrainOrder) : Nat → Int → Option (Sum (Unit) (Int))
  | 0, _ => none
  | n + 1, x5 =>
    if (decide (x5 < (x2.dests.length : Int))) = true then
      Option.bind (getI x2.dests x5) fun y1 =>
      if (y1 == x1) = true then
        some (Sum.inr x5)
      else
        AM.lt (IntKind.wrap .i64 (x5 + 1)) fun y2 =>
        r37_Block_0 N x1 x2 n y2
    else
      some (Sum.inl ())
def r37_Block (N : Nat) (x0 : TrainOrder) (x1 : List UInt8) : Option Int :=
  Option.bind (r37_Block_0 N x1 x0 N 0) fun y3 =>
  match y3 with
  | Sum.inl y4 =>
    some (-1)
  | Sum.inr y5 =>
    some y5
/-! ### humpyard/humpyardref37.Blocks -/
def r37_Blocks_0 (N : Nat) (x1 : List Wagon) (x2 : TrainOrder) : Nat → (List Int) → Int → Option (Sum (List Int) (Int × Int))
  | 0, _, _ => none
  | n + 1, x7, x8 =>
    if (decide (x8 < (x1.length : Int))) = true then
      Option.bind (getI x1 x8) fun y1 =>
      Option.bind (r37_Block N x2 y1.dest) fun y2 =>
      if (decide (y2 < 0)) = true then
        some (Sum.inr (x8, 7))
      else
        Option.bind (appI x7 ([y2] : List Int)) fun y3 =>
        AM.lt (IntKind.wrap .i64 (x8 + 1)) fun y4 =>
        r37_Blocks_0 N x1 x2 n y3 y4
    else
      some (Sum.inl x7)
def r37_Blocks (N : Nat) (x0 : TrainOrder) (x1 : List Wagon) : Option (List Int × Int × Int) :=
  Option.bind (r37_Blocks_0 N x1 x0 N [] 0) fun y5 =>
  match y5 with
  | Sum.inl y6 =>
    some (y6, (-1), 0)
  | Sum.inr y7 =>
    some ([], y7.1, y7.2)
/-! ### humpyard/humpyardlaw37.TrainbuildRefuses -/
def l37_TrainbuildRefuses_0 (N : Nat) (x6 : List Wagon) : Option Bool :=
  if ((x6.length : Int) == 0) = true then
    Option.bind (l37_sane N) fun y6 =>
    some y6
  else
    some false
def l37_TrainbuildRefuses_1 (N : Nat) (x9 : Int) (x12 : Int) (x13 : Int) : Option Bool :=
  if (x13 == 7) = true then
    if (x9 == x12) = true then
      Option.bind (l37_sane N) fun y9 =>
      some y9
    else
      some false
  else
    some false
def l37_TrainbuildRefuses_2 (N : Nat) (x9 : Int) (x11 : List Int) (x13 : Int) : Option Bool :=
  if (x13 == 0) = true then
    if (decide (0 < x9)) = true then
      if (decide (x9 < (x11.length : Int))) = true then
        Option.bind (getI x11 x9) fun y12 =>
        Option.bind (getI x11 x9) fun y13 =>
        Option.bind (getI x11 (IntKind.wrap .i64 (x9 - 1))) fun y14 =>
        Option.bind (getI x11 (IntKind.wrap .i64 (x9 - 1))) fun y15 =>
        if (decide (y13 < y15)) = true then
          Option.bind (l37_sane N) fun y16 =>
          some y16
        else
          some false
      else
        some false
    else
      some false
  else
    some false
def l37_TrainbuildRefuses_3 (N : Nat) (x6 : List Wagon) (x9 : Int) (x14 : Int) (x17 : Brakes) : Option Bool :=
  if (x14 == 0) = true then
    if (decide (0 < x17.missing)) = true then
      if (x9 == (x6.length : Int)) = true then
        Option.bind (l37_sane N) fun y21 =>
        some y21
      else
        some false
    else
      some false
  else
    some false
def l37_TrainbuildRefuses_4 (N : Nat) (x8 : Int) (x9 : Int) (x14 : Int) (x15 : Int) : Option Bool :=
  if (x14 == x8) = true then
    if (x15 == x9) = true then
      Option.bind (l37_sane N) fun y23 =>
      some y23
    else
      some false
  else
    some false
def l37_TrainbuildRefuses_5 (N : Nat) (x10 : Int) (x13 : Int) : Option Bool :=
  if (x10 == 0) = true then
    if (x13 == 0) = true then
      Option.bind (l37_sane N) fun y25 =>
      some y25
    else
      some false
  else
    some false
def l37_TrainbuildRefuses (N : Nat) (x0 : List Int) : Option Bool :=
  Option.bind (gen_New N x0) fun y1 =>
  Option.bind (l37_made N y1 10) fun y2 =>
  Option.bind (trainbuild_Build N y2.1 y2.2.1 y2.2.2.1) fun y3 =>
  Option.bind (r37_Blocks N y2.2.1 y2.2.2.1) fun y4 =>
  AM.lt (y3.2.2.2 == 13) fun y5 =>
  if y5 = true then
    Option.bind (l37_TrainbuildRefuses_0 N y2.2.2.1) fun y7 =>
    some y7
  else
    AM.lt (y3.2.2.2 == 7) fun y8 =>
    if y8 = true then
      Option.bind (l37_TrainbuildRefuses_1 N y3.2.2.1 y4.2.1 y4.2.2) fun y10 =>
      some y10
    else
      AM.lt (y3.2.2.2 == 12) fun y11 =>
      if y11 = true then
        Option.bind (l37_TrainbuildRefuses_2 N y3.2.2.1 y4.1 y4.2.2) fun y17 =>
        some y17
      else
        AM.lt (y3.2.2.2 == 20) fun y18 =>
        if y18 = true then
          Option.bind (r36_Check N y2.1.rules y2.2.2.1 []) fun y19 =>
          Option.bind (r35_Sheet N y2.2.2.1 [] y2.1.table y2.1.speed y2.1.grade) fun y20 =>
          if (y3.2.1 == 0) = true then
            Option.bind (l37_TrainbuildRefuses_3 N y2.2.2.1 y3.2.2.1 y19.1 y20.1) fun y22 =>
            some y22
          else
            Option.bind (l37_TrainbuildRefuses_4 N y3.2.1 y3.2.2.1 y19.1 y19.2.1) fun y24 =>
            some y24
        else
          Option.bind (l37_TrainbuildRefuses_5 N y3.2.2.2 y4.2.2) fun y26 =>
          some y26
/-! ### humpyard/humpyardlaw37.TrainbuildLongs -/
def l37_TrainbuildLongs_0 (N : Nat) (x6 : List Wagon) (x7 : Int) (x8 : Int) : Option Bool :=
  if (x8 != 0) = true then
    some true
  else
    if (decide (x7 < 0)) = true then
      some true
    else
      some (decide ((x6.length : Int) < x7))
def l37_TrainbuildLongs_2 (N : Nat) (x7 : Int) (x9 : Int) (x13 : Int) : Option Bool :=
  if (decide (x7 < x9)) = true then
    if (x13 == 0) = true then
      some true
    else
      if (x9 == x7) = true then
        some (x13 != 0)
      else
        some false
  else
    if (x9 == x7) = true then
      some (x13 != 0)
    else
      some false
def l37_TrainbuildLongs_1 (N : Nat) (x4 : YardConfig) (x5 : TrainOrder) (x6 : List Wagon) (x7 : Int) : Nat → Int → Option (Sum (Unit) (Bool))
  | 0, _ => none
  | n + 1, x9 =>
    if (decide (x9 ≤ (x6.length : Int))) = true then
      Option.bind (cutI x6 0 x9) fun y5 =>
      Option.bind (trainbuild_Build N x4 x5 y5) fun y6 =>
      Option.bind (l37_TrainbuildLongs_2 N x7 x9 y6.2.2.2) fun y7 =>
      if y7 = true then
        some (Sum.inr false)
      else
        AM.lt (IntKind.wrap .i64 (x9 + 1)) fun y8 =>
        l37_TrainbuildLongs_1 N x4 x5 x6 x7 n y8
    else
      some (Sum.inl ())
def l37_TrainbuildLongs (N : Nat) (x0 : List Int) : Option Bool :=
  Option.bind (gen_New N x0) fun y1 =>
  Option.bind (l37_made N y1 9) fun y2 =>
  Option.bind (trainbuild_Longest N y2.1 y2.2.1 y2.2.2.1) fun y3 =>
  Option.bind (l37_TrainbuildLongs_0 N y2.2.2.1 y3.1 y3.2) fun y4 =>
  if y4 = true then
    some false
  else
    Option.bind (l37_TrainbuildLongs_1 N y2.1 y2.2.1 y2.2.2.1 y3.1 N 1) fun y9 =>
    match y9 with
    | Sum.inl y10 =>
      Option.bind (l37_sane N) fun y11 =>
      some y11
    | Sum.inr y12 =>
      some y12
end
end Go.W
end
