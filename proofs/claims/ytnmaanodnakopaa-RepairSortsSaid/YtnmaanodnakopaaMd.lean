/- AmX9 AmXA AmXB AmXC AmXD AmXE AmXF AmXH AmSortK -/
import Derived.Shelf.SlSortCmp.NoneTotal
import Derived.Shelf.SlicesG.Cmp
import Derived.Test.YtnmaanodnakopaaMc
section
set_option linter.unusedSimpArgs false
set_option linter.unusedVariables false
namespace Go.AM
inductive Cl where
  | int (k : IntKind) | bool | str
  | sl (e : Nat) | mp (t kt vt : Nat)
  | agg (t : Nat) | rp (t : Nat)
  | fn (f : Nat) (ts : List Nat)
  | cut (j e : Nat)
inductive OC where
  | sl (e : Nat) | box (t : Nat) | recv (t : Nat) | arr (e t n : Nat) | map (t kt vt : Nat)
  | bx (t : Nat) (l : List (Nat × Nat))
  | ne (e t : Nat)
inductive It where
  | v (d : Nat) (c : Cl)
  | o (d : Nat) (c : OC)
  | u (j : Nat) (c : OC)
noncomputable section
section
variable {P : Program} {D : Nat → Type}
def inDs (D : Nat → Type) : List Nat → Type
  | [] => Unit
  | t :: ts => D t × inDs D ts
def Cl.ty (D : Nat → Type) : Cl → Type
  | .int _ => Int
  | .bool => Bool
  | .str => List UInt8
  | .sl e => List (D e)
  | .mp _ kt vt => List (D kt × D vt)
  | .agg t => D t
  | .rp t => D t
  | .fn _ ts => inDs D ts
  | .cut _ _ => Nat × Nat
def OC.ty (D : Nat → Type) : OC → Type
  | .sl e => List (D e)
  | .box t => D t
  | .recv t => D t
  | .arr e _ _ => List (D e)
  | .map _ kt vt => List (D kt × D vt)
  | .bx t _ => D t
  | .ne _ t => List (List (D t))
def It.ty (D : Nat → Type) : It → Type
  | .v _ c => c.ty D
  | .o _ c => c.ty D
  | .u _ c => c.ty D
def inT (D : Nat → Type) : List It → Type
  | [] => Unit
  | i :: is => i.ty D × inT D is
variable (X : Ev P D)
def lvX (t : Nat) (x : D t) : List (CV D) := match X.I t with | some ti => ti.lv x | none => []
def pkX (t : Nat) (cs : List (CV D)) : Option (D t) := match X.I t with | some ti => ti.pk cs | none => none
def mkCaps : (ts : List Nat) → inDs D ts → List (Nat × List (CV D))
  | [], _ => []
  | t :: ts, x => (t, lvX X t x.1) :: mkCaps ts x.2
def gtCaps : (ts : List Nat) → List (Nat × List (CV D)) → Option (inDs D ts)
  | [], [] => some ()
  | t :: ts, p :: l => if p.1 = t then (match pkX X t p.2, gtCaps ts l with | some a, some b => some (a, b) | _, _ => none) else none
  | _, _ => none
def Cl.mk : (c : Cl) → c.ty D → SV D
  | .int k, n => .c (.int k n)
  | .bool, b => .c (.bool b)
  | .str, s => .c (.str s)
  | .sl e, xs => .c (.sl e xs)
  | .mp t kt vt, es => .c (.mp t kt vt es)
  | .agg t, x => .agg t (lvX X t x)
  | .rp t, x => .rp t (lvX X t x) 0
  | .fn f ts, x => .fn f (mkCaps X ts x)
  | .cut j e, x => .cut j e x.1 x.2
def Cl.get : (c : Cl) → SV D → Option (c.ty D)
  | .int k, .c (.int k' n) => if k' = k then some n else none
  | .bool, .c (.bool b) => some b
  | .str, .c (.str s) => some s
  | .sl e, .c .nilS => some []
  | .mp t kt vt, .c .nilM => some []
  | .sl e, .c (.sl e' xs) => if h : e' = e then some (h ▸ xs) else none
  | .mp t kt vt, .c (.mp t' kt' vt' es) => if h : kt' = kt ∧ vt' = vt then (if t' = t then some (h.1 ▸ h.2 ▸ es) else none) else none
  | .agg t, .agg t' cs => if t' = t then pkX X t cs else none
  | .rp t, .rp t' cs off => if t' = t ∧ off = 0 then pkX X t cs else none
  | .fn f ts, .fn f' l => if f' = f then gtCaps X ts l else none
  | .cut _ e, .cut _ e' lo n => if e' = e then some (lo, n) else none
  | _, _ => none
def fndN : List (Nat × Nat) → Nat → Option Nat
  | [], _ => none
  | p :: l, i => if Nat.beq p.1 i = true then some p.2 else fndN l i
def ownG (τ : Nat → Nat) (l : List (Nat × Nat)) : Nat → List (CV D) → List (CV D)
  | _, [] => []
  | i, c :: cs => (match fndN l i with | some n => .own (τ n) | none => c) :: ownG τ l (i + 1) cs
def nilG (l : List (Nat × Nat)) : Nat → List (CV D) → List (CV D)
  | _, [] => []
  | i, c :: cs => (match fndN l i with | some _ => .nilS | none => c) :: nilG l (i + 1) cs
def OC.mkr (τ : Nat → Nat) : (c : OC) → c.ty D → Bool → Ob D
  | .sl e, xs, w => .sl e xs false w
  | .box t, x, w => .box t (lvX X t x) false w
  | .recv t, x, w => .recv t (lvX X t x) w
  | .arr e t n, xs, w => .arr e t n xs w
  | .map t kt vt, es, w => .map t kt vt es false w
  | .bx t l, x, w => .box t (ownG τ l 0 (lvX X t x)) false w
  | .ne e t, xss, w => .nest e t ((X.N e t).map NI.up) xss none w
def OC.mk (c : OC) (x : c.ty D) (w : Bool) : Ob D := OC.mkr X (fun n => n) c x w
def OC.nums : OC → List Nat
  | .bx _ l => l.map Prod.snd
  | _ => []
def optB (a : Option Nat) (i : Nat) : Bool := match a with | some j => Nat.beq j i | none => false
def linkB (σ : List Nat) (cs : List (CV D)) : List (Nat × Nat) → Bool
  | [] => true
  | p :: l => (match cs[p.1]? with | some (.own i) => optB (σ[p.2]?) i | _ => false) && linkB σ cs l
def OC.get (σ : List Nat) : (c : OC) → Ob D → Option (c.ty D)
  | .sl e, .sl e' xs false _ => if h : e' = e then some (h ▸ xs) else none
  | .box t, .box t' cs false _ => if t' = t then pkX X t cs else none
  | .recv t, .recv t' cs _ => if t' = t then pkX X t cs else none
  | .arr e t n, .arr e' t' n' xs _ => if h : e' = e then (if t' = t ∧ n' = n then some (h ▸ xs) else none) else none
  | .map t kt vt, .map t' kt' vt' es false _ => if h : kt' = kt ∧ vt' = vt then (if t' = t then some (h.1 ▸ h.2 ▸ es) else none) else none
  | .bx t l, .box t' cs false _ => if t' = t ∧ linkB σ cs l = true then pkX X t (nilG l 0 cs) else none
  | .ne e t, .nest e' t' _ xss none _ => if h : t' = t then (if e' = e then some (h ▸ xss) else none) else none
  | _, _ => none
def Ob.clean : Ob D → Bool
  | .box _ cs _ _ => cs.all noNil
  | .recv _ cs _ => cs.all noNil
  | .nest _ _ _ _ _ _ => false
  | _ => true
def Ob.sw (w : Bool) : Ob D → Ob D
  | .sl e xs fz _ => .sl e xs fz w
  | .box t cs fz _ => .box t cs fz w
  | .recv t cs _ => .recv t cs w
  | .arr e t n xs _ => .arr e t n xs w
  | .map t kt vt es fz _ => .map t kt vt es fz w
  | .nest e t up xss h _ => .nest e t up xss h w
  | .dead => .dead
def frzV (O : List (Ob D)) : SV D → Option (SV D × List (Ob D))
  | .c c => (match frzC O c with | some (c', O') => some (.c c', O') | none => none)
  | .agg t cs => (match frzL O cs with | some (cs', O') => some (.agg t cs', O') | none => none)
  | .cut i e lo n => (match frzO O i with | some (.sl e' xs, O') => if e' = e then some (.c (.sl e' ((xs.take n).drop lo)), O') else none | _ => none)
  | s => some (s, O)
def idxOf : SV D → Option Nat
  | .c (.own i) => some i
  | .box i _ => some i
  | .arr i => some i
  | .el i _ _ _ => some i
  | _ => none
def unl (l : List (Nat × Nat)) : Nat → List (CV D) → Bool
  | _, [] => false
  | i, c :: cs => (match c with | .own _ => (match fndN l i with | none => true | _ => false) | _ => false) || unl l (i + 1) cs
def frzG (l : List (Nat × Nat)) : Nat → List (CV D) → List (Ob D) → Option (List (CV D) × List (Ob D))
  | _, [], O => some ([], O)
  | i, c :: cs, O =>
    match (match fndN l i with | some _ => some (c, O) | none => frzC O c) with
    | some (c', O') => (match frzG l (i + 1) cs O' with | some (cs', O'') => some (c' :: cs', O'') | none => none)
    | none => none
def frzX (l : List (Nat × Nat)) (O : List (Ob D)) (i : Nat) : Option (List (Ob D)) :=
  match O[i]? with
  | some (.box t cs false _) => if unl l 0 cs = true then (match frzG l 0 cs O with | some (cs', O') => some (O'.set i (.box t cs' false true)) | none => none) else some O
  | _ => some O
def frzW (c : Cl) (O : List (Ob D)) (s : SV D) : Option (SV D × List (Ob D)) :=
  match c, s with
  | .cut _ _, s => some (s, O)
  | .rp _, .box i off =>
    (match frzX [] O i with
    | some O1 => (match capOf O1 (.box i off) with | some (p, O2) => some (.rp p.1 p.2 0, O2) | none => none)
    | none => none)
  | _, s => frzV O s
def frzA (E : List (Nat × SV D)) : List It → List (Ob D) → Option (List (SV D) × List (Ob D))
  | [], O => some ([], O)
  | .v d c :: its, O =>
    match frzW c O (lkE E d) with
    | some (s, O') => (match frzA E its O' with | some (l, O'') => some (s :: l, O'') | none => none)
    | none => none
  | _ :: its, O => match frzA E its O with | some (l, O') => some (.un :: l, O') | none => none
def VC : Nat := 2000000
def XA : Nat := 100000000
def anch (E : List (Nat × SV D)) (O : List (Ob D)) (d : Nat) : Option Nat :=
  if Nat.blt d VC = true then idxOf (lkE E d)
  else if Nat.ble XA d = true then some (d - XA)
  else match lkE E ((d - VC) / 1000) with
    | .box i 0 => (match O[i]? with | some (.box _ cs _ _) => (match cs[(d - VC) % 1000]? with | some (.own n) => some n | _ => none) | _ => none)
    | _ => none
def ancs (E : List (Nat × SV D)) (O : List (Ob D)) : List It → Option (List Nat)
  | [] => some []
  | .o d _ :: its => (match anch E O d, ancs E O its with | some i, some l => some (i :: l) | _, _ => none)
  | _ :: its => ancs E O its
def frzB (E : List (Nat × SV D)) : List It → List (Ob D) → Option (List (Ob D))
  | [], O => some O
  | .o d (.box _) :: its, O => (match anch E O d with | some i => (match frzX [] O i with | some O' => frzB E its O' | none => none) | none => none)
  | .o d (.bx _ l) :: its, O => (match anch E O d with | some i => (match frzX l O i with | some O' => frzB E its O' | none => none) | none => none)
  | .u j (.box _) :: its, O => (match frzX [] O j with | some O' => frzB E its O' | none => none)
  | .u j (.bx _ l) :: its, O => (match frzX l O j with | some O' => frzB E its O' | none => none)
  | _ :: its, O => frzB E its O
def cutB (σ : List Nat) : Cl → SV D → Bool
  | .cut j _, .cut i _ _ _ => optB (σ[j]?) i
  | _, _ => true
def rdB (σ0 : List Nat) (O : List (Ob D)) : (its : List It) → List (SV D) → List Nat → Option (inT D its)
  | [], _, [] => some ()
  | .v d c :: its, s :: l, σ => if cutB σ0 c s = true then (match Cl.get X c s, rdB σ0 O its l σ with | some x, some y => some (x, y) | _, _ => none) else none
  | .o d c :: its, _ :: l, i :: σ =>
    match O[i]? with
    | some o => (match OC.get X σ0 c o, rdB σ0 O its l σ with | some x, some y => some (x, y) | _, _ => none)
    | none => none
  | .u j c :: its, _ :: l, σ =>
    match O[j]? with
    | some o => (match OC.get X σ0 c o, rdB σ0 O its l σ with | some x, some y => some (x, y) | _, _ => none)
    | none => none
  | _, _, _ => none
def mkO : (its : List It) → inT D its → List (Ob D)
  | [], _ => []
  | .o _ c :: its, x => OC.mk X c x.1 false :: mkO its x.2
  | .v _ _ :: its, x => mkO its x.2
  | .u _ _ :: its, x => mkO its x.2
def mkE : (its : List It) → inT D its → List (Nat × SV D)
  | [], _ => []
  | .v d c :: its, x => (d, Cl.mk X c x.1) :: mkE its x.2
  | .o _ _ :: its, x => mkE its x.2
  | .u _ _ :: its, x => mkE its x.2
def fxT (σ : List Nat) : SV D → SV D → Bool
  | .c (.own j), .c (.own i) => optB (σ[j]?) i
  | .box j o, .box i p => optB (σ[j]?) i && Nat.beq o p
  | .arr j, .arr i => optB (σ[j]?) i
  | .c .nilS, .c .nilS => true
  | .c .nilP, .c .nilP => true
  | .c .nilM, .c .nilM => true
  | .undef, .undef => true
  | .un, _ => true
  | .c (.int k n), .c (.int k' n') => decide (k = k') && (n == n')
  | .c (.bool b), .c (.bool b') => b == b'
  | .fn f [], .fn f' [] => Nat.beq f f'
  | _, _ => false
def rnS (τ : Nat → Nat) : SV D → SV D
  | .c (.own j) => .c (.own (τ j))
  | .box j o => .box (τ j) o
  | .arr j => .arr (τ j)
  | s => s
def nodupB : List Nat → Bool
  | [] => true
  | i :: l => !(l.any fun j => Nat.beq j i) && nodupB l
def cleanG (l : List (Nat × Nat)) : Nat → List (CV D) → Bool
  | _, [] => true
  | i, c :: cs => (match fndN l i with | some _ => true | none => noNil c) && cleanG l (i + 1) cs
def OC.cln : OC → Ob D → Bool
  | .bx _ l, .box _ cs _ _ => cleanG l 0 cs
  | _, o => o.clean
def tchAt (c : OC) (O : List (Ob D)) (i : Nat) : Bool := match O[i]? with | some o => o.tch || !(c.cln o) | none => true
def nrm (σ0 : List Nat) : (its : List It) → inT D its → List Nat → List (Ob D) → List (Ob D)
  | .o _ c :: its, x, i :: σ, O => nrm σ0 its x.2 σ (O.set i (OC.mkr X (fun n => σ0.getD n 0) c x.1 (tchAt c O i)))
  | .v _ _ :: its, x, σ, O => nrm σ0 its x.2 σ O
  | .u _ _ :: its, x, σ, O => nrm σ0 its x.2 σ O
  | _, _, _, O => O
def rdIn0 (its : List It) (fx : List (Nat × SV D)) (E : List (Nat × SV D)) (O : List (Ob D)) : Option (inT D its × List Nat × List (Ob D)) :=
  match frzA E its O, ancs E O its with
  | some (svs, O1), some σ =>
    if (nodupB σ && fx.all fun p => fxT σ p.2 (lkE E p.1)) = true then
      match rdB X σ O1 its svs σ with
      | some x => some (x, σ, nrm X σ its x σ O1)
      | none => none
    else none
  | _, _ => none
def rdIn (its : List It) (fx : List (Nat × SV D)) (E : List (Nat × SV D)) (O : List (Ob D)) : Option (inT D its × List Nat × List (Ob D)) :=
  match frzB E its O with
  | some O0 => rdIn0 X its fx E O0
  | none => none
end
section
variable {P : Program} {D : Nat → Type} {X : Ev P D} {z z' : Nat → Blk} {e m m' : Mem} {k : Option Nat} {vs vs' : List Value} {fr : Nat → Value} {E : List (Nat × SV D)} {O O' : List (Ob D)}
theorem lvX_vs {t : Nat} {x : D t} {ds : List Value} (h : L2 (rel0 X.G z vs) (lvX X t x) ds) : L2 (rel0 X.G z vs') (lvX X t x) ds := by
  unfold lvX at h ⊢
  split at h
  · rename_i ti _
    exact ti.rdl z vs' x ds (ti.pkl z vs _ x ds (ti.pklv x) h)
  · exact L2.mono (fun _ _ h => h) (by cases ds with | nil => trivial | cons _ _ => exact h.elim)
theorem pkX_lv {t : Nat} {x : D t} {cs : List (CV D)} {ds : List Value} (hp : pkX X t cs = some x) (h : L2 (rel0 X.G z vs) cs ds) : L2 (rel0 X.G z vs') (lvX X t x) ds := by
  unfold pkX at hp
  unfold lvX
  split at hp
  · rename_i ti hI
    exact ti.rdl z vs' x ds (ti.pkl z vs cs x ds hp h)
  · cases hp
theorem pkX_n {t : Nat} {x : D t} {cs : List (CV D)} (hp : pkX X t cs = some x) (h : cs.all noNil = true) : cs = lvX X t x := by
  unfold pkX at hp
  unfold lvX
  split at hp
  · rename_i ti hI
    exact (ti.pkn cs x hp).eq h
  · cases hp
theorem pkX_m {t : Nat} {x : D t} {cs : List (CV D)} (hp : pkX X t cs = some x) : MtC cs (lvX X t x) := by
  unfold pkX at hp
  unfold lvX
  split at hp
  · rename_i ti hI
    exact ti.pkn cs x hp
  · cases hp
theorem pkX_inv {t : Nat} {x : D t} {cs : List (CV D)} (hp : pkX X t cs = some x) : pkX X t (lvX X t x) = some x := by
  unfold pkX at hp ⊢
  unfold lvX
  split at hp
  · rename_i ti hI
    exact ti.pklv x
  · cases hp
theorem mkCaps_vs : ∀ {ts : List Nat} {x : inDs D ts} {gs : List Value}, L2 (fun c g => relP X.G z vs c.2 0 g) (mkCaps X ts x) gs → L2 (fun c g => relP X.G z vs' c.2 0 g) (mkCaps X ts x) gs
  | [], _, [], _ => trivial
  | [], _, _ :: _, h => h.elim
  | t :: ts, x, [], h => h.elim
  | t :: ts, x, g :: gs, ⟨⟨b, o, ds, h1, h2, h3⟩, h4⟩ => ⟨⟨b, o, ds, h1, h2, lvX_vs h3⟩, mkCaps_vs h4⟩
theorem gtCaps_ok : ∀ {ts : List Nat} {l : List (Nat × List (CV D))} {x : inDs D ts} {gs : List Value}, gtCaps X ts l = some x → L2 (fun c g => relP X.G z vs c.2 0 g) l gs → L2 (fun c g => relP X.G z vs' c.2 0 g) (mkCaps X ts x) gs
  | [], [], _, [], _, _ => trivial
  | [], [], _, _ :: _, _, h => h.elim
  | [], _ :: _, _, _, h, _ => by cases h
  | _ :: _, [], _, _, h, _ => by cases h
  | t :: ts, p :: l, x, [], _, h => h.elim
  | t :: ts, p :: l, x, g :: gs, h, ⟨⟨b, o, ds, h1, h2, h3⟩, h4⟩ => by
    simp only [gtCaps] at h
    split at h
    · split at h
      · rename_i a b' ha hb
        cases h
        exact ⟨⟨b, o, ds, h1, h2, pkX_lv ha h3⟩, gtCaps_ok hb h4⟩
      · cases h
    · cases h
def Cl.nc : Cl → Bool
  | .cut _ _ => false
  | _ => true
theorem Cl.mk_vs {c : Cl} {x : c.ty D} {v : Value} (hc : c.nc = true) (h : rel X.G z vs (Cl.mk X c x) v) : rel X.G z vs' (Cl.mk X c x) v := by
  cases c with
  | cut j e => cases hc
  | agg t => obtain ⟨ds, h1, h2⟩ := h; exact ⟨ds, h1, lvX_vs h2⟩
  | rp t => obtain ⟨b, o, ds, h1, h2, h3⟩ := h; exact ⟨b, o, ds, h1, h2, lvX_vs h3⟩
  | fn f ts => obtain ⟨gs, h1, h2⟩ := h; exact ⟨gs, h1, mkCaps_vs h2⟩
  | _ => exact h
theorem optB_ok {a : Option Nat} {i : Nat} (h : optB a i = true) : a = some i := by
  unfold optB at h
  split at h
  · rw [Nat.eq_of_beq_eq_true h]
  · cases h
theorem Cl.get_ok {σ : List Nat} {c : Cl} {x : c.ty D} {s : SV D} {v : Value} (hm : ∀ (j i : Nat) (u : Value), σ[j]? = some i → vs[i]? = some u → vs'[j]? = some u) (hcb : cutB σ c s = true) (hg : Cl.get X c s = some x) (h : rel X.G z vs s v) : rel X.G z vs' (Cl.mk X c x) v := by
  unfold Cl.get at hg
  split at hg
  · split at hg
    · rename_i hk; cases hg; subst hk; exact h
    · cases hg
  · cases hg; exact h
  · cases hg; exact h
  · cases hg; exact .inl ⟨h, rfl⟩
  · cases hg; exact .inl ⟨h, rfl⟩
  · split at hg
    · rename_i hk; cases hg; subst hk; exact h
    · cases hg
  · split at hg
    · rename_i hk
      split at hg
      · rename_i ht
        obtain ⟨h1, h2⟩ := hk
        subst h1 h2 ht
        cases hg; exact h
      · cases hg
    · cases hg
  · obtain ⟨_, hg⟩ := ite_some hg
    obtain ⟨ds, h1, h2⟩ := h
    exact ⟨ds, h1, pkX_lv hg h2⟩
  · obtain ⟨hk, hg⟩ := ite_some hg
    obtain ⟨b, o, ds, h1, h2, h3⟩ := h
    exact ⟨b, o, ds, by rw [h1, hk.2], h2, pkX_lv hg h3⟩
  · obtain ⟨hk, hg⟩ := ite_some hg
    subst hk
    obtain ⟨gs, h1, h2⟩ := h
    exact ⟨gs, h1, gtCaps_ok hg h2⟩
  · obtain ⟨hk, hg⟩ := ite_some hg
    subst hk
    cases hg
    obtain ⟨w, h1, h2⟩ := h
    exact ⟨w, ⟨hm _ _ _ (optB_ok hcb) h1.1, h1.2⟩, h2⟩
  · cases hg
theorem ObOk.sw {o : Ob D} {v : Value} (w : Bool) (h : ObOk X.G z e m k vs o v) : ObOk X.G z e m k vs (o.sw w) v := by
  cases o with
  | sl t xs fz _ => cases fz <;> exact h
  | box t xs fz _ => cases fz <;> exact h
  | map t kt vt xs fz _ => cases fz <;> exact h
  | _ => exact h
theorem OC.mkr_sw {τ : Nat → Nat} {c : OC} {x : c.ty D} {w w' : Bool} : (OC.mkr X τ c x w).sw w' = OC.mkr X τ c x w' := by cases c <;> rfl
theorem OC.mkr_live {τ : Nat → Nat} {c : OC} {x : c.ty D} {w : Bool} : (OC.mkr X τ c x w).live = true := by cases c <;> rfl
theorem OC.mkr_tch {τ : Nat → Nat} {c : OC} {x : c.ty D} {w : Bool} : (OC.mkr X τ c x w).tch = w := by cases c <;> first | rfl | simp [OC.mkr, Ob.tch]
theorem OC.mk_sw {c : OC} {x : c.ty D} {w w' : Bool} : (OC.mk X c x w).sw w' = OC.mk X c x w' := OC.mkr_sw
theorem OC.mk_live {c : OC} {x : c.ty D} {w : Bool} : (OC.mk X c x w).live = true := OC.mkr_live
theorem OC.mk_tch {c : OC} {x : c.ty D} {w : Bool} : (OC.mk X c x w).tch = w := OC.mkr_tch
theorem L2_iff {α β : Type} {R : α → β → Prop} : ∀ {l : List α} {k : List β}, L2 R l k ↔ l.length = k.length ∧ ∀ (i : Nat) (a : α) (b : β), l[i]? = some a → k[i]? = some b → R a b
  | [], [] => by simp [L2]
  | [], _ :: _ => by simp [L2]
  | _ :: _, [] => by simp [L2]
  | a :: l, b :: k => by
    simp only [L2, L2_iff (l := l) (k := k), List.length_cons]
    constructor
    · rintro ⟨h1, h2, h3⟩
      refine ⟨by omega, fun i x y hx hy => ?_⟩
      cases i with
      | zero => simp at hx hy; subst hx hy; exact h1
      | succ i => exact h3 i x y (by simpa using hx) (by simpa using hy)
    · rintro ⟨h1, h2⟩
      exact ⟨h2 0 a b rfl rfl, by omega, fun i x y hx hy => h2 (i + 1) x y (by simpa using hx) (by simpa using hy)⟩
theorem ownG_get {τ : Nat → Nat} {l : List (Nat × Nat)} : ∀ {cs : List (CV D)} {i0 i : Nat}, (ownG τ l i0 cs)[i]? = (cs[i]?).map fun c => match fndN l (i0 + i) with | some n => .own (τ n) | none => c
  | [], i0, i => by simp [ownG]
  | c :: cs, i0, 0 => by simp [ownG]
  | c :: cs, i0, i + 1 => by
    simp only [ownG, List.getElem?_cons_succ]
    rw [ownG_get (cs := cs), show i0 + 1 + i = i0 + (i + 1) by omega]
theorem nilG_get {l : List (Nat × Nat)} : ∀ {cs : List (CV D)} {i0 i : Nat}, (nilG l i0 cs)[i]? = (cs[i]?).map fun c => match fndN l (i0 + i) with | some _ => .nilS | none => c
  | [], i0, i => by simp [nilG]
  | c :: cs, i0, 0 => by simp [nilG]
  | c :: cs, i0, i + 1 => by
    simp only [nilG, List.getElem?_cons_succ]
    rw [nilG_get (cs := cs), show i0 + 1 + i = i0 + (i + 1) by omega]
theorem ownG_len {τ : Nat → Nat} {l : List (Nat × Nat)} : ∀ {cs : List (CV D)} {i0 : Nat}, (ownG τ l i0 cs).length = cs.length
  | [], _ => rfl
  | c :: cs, i0 => by simp [ownG, ownG_len (cs := cs)]
theorem nilG_len {l : List (Nat × Nat)} : ∀ {cs : List (CV D)} {i0 : Nat}, (nilG l i0 cs).length = cs.length
  | [], _ => rfl
  | c :: cs, i0 => by simp [nilG, nilG_len (cs := cs)]
theorem fndN_mem : ∀ {l : List (Nat × Nat)} {i n : Nat}, fndN l i = some n → (i, n) ∈ l
  | [], _, _, h => by cases h
  | p :: l, i, n, h => by
    simp only [fndN] at h
    split at h
    · rename_i hp
      cases h
      have := Nat.eq_of_beq_eq_true hp
      subst this
      exact List.mem_cons_self
    · exact List.mem_cons_of_mem _ (fndN_mem h)
theorem linkB_at {σ : List Nat} {cs : List (CV D)} : ∀ {l : List (Nat × Nat)}, linkB σ cs l = true → ∀ p ∈ l, ∃ i, cs[p.1]? = some (.own i) ∧ σ[p.2]? = some i
  | [], _, _, h => by simp at h
  | q :: l, h, p, hp => by
    simp only [linkB, Bool.and_eq_true] at h
    rcases List.mem_cons.1 hp with rfl | hp
    · have h1 := h.1
      split at h1
      · rename_i i hi
        refine ⟨i, hi, ?_⟩
        unfold optB at h1
        split at h1
        · rename_i j hj; rw [hj, Nat.eq_of_beq_eq_true h1]
        · cases h1
      · cases h1
    · exact linkB_at h.2 p hp
theorem lvX_own {t : Nat} {x : D t} : (lvX X t x).all nOwn = true := by
  unfold lvX
  split
  · rename_i ti _; exact ti.lvo x
  · rfl
theorem rel0_nOwn {c : CV D} {v : Value} (hc : nOwn c = true) (h : rel0 X.G z vs c v) : rel0 X.G z vs' c v := by
  cases c <;> first | exact h | cases hc
def OwnIn (i : Nat) : Ob D → Prop
  | .box _ cs _ _ => .own i ∈ cs
  | _ => False
theorem OC.mkr_okC {τ τ' : Nat → Nat} {c : OC} {x : c.ty D} {v : Value} {w : Bool} (w' : Bool) (h : ObOk X.G z e m k vs (OC.mkr X τ c x w) v) (hv : ∀ n ∈ c.nums, OwnIn (τ n) (OC.mkr X τ c x w) → ∀ u, vs[τ n]? = some u → vs'[τ' n]? = some u) : ObOk X.G z e m k vs' (OC.mkr X τ' c x w') v := by
  cases c with
  | box t => obtain ⟨b, ds, h1, h2, h3, h4⟩ := h; exact ⟨b, ds, h1, h2, h3, lvX_vs h4⟩
  | recv t => obtain ⟨b, ds, h1, h2, h4⟩ := h; exact ⟨b, ds, h1, h2, lvX_vs h4⟩
  | bx t l =>
    obtain ⟨b, ds, h1, h2, h3, h4⟩ := h
    refine ⟨b, ds, h1, h2, h3, L2_iff.2 ⟨?_, fun i a d ha hd => ?_⟩⟩
    · have := (L2_iff.1 h4).1
      rw [ownG_len] at this ⊢; exact this
    · rw [ownG_get] at ha
      obtain ⟨a0, h0, ha⟩ := Option.map_eq_some_iff.1 ha
      have hr := (L2_iff.1 h4).2 i _ d (by rw [ownG_get, h0]; rfl) hd
      rw [Nat.zero_add] at ha hr
      cases hf : fndN l i with
      | none =>
        rw [hf] at ha hr
        subst ha
        exact rel0_nOwn (List.all_eq_true.1 lvX_own a0 (List.mem_of_getElem? h0)) hr
      | some n =>
        rw [hf] at ha hr
        subst ha
        exact ⟨hv n (List.mem_map.2 ⟨_, fndN_mem hf, rfl⟩) (List.mem_of_getElem? (i := i) (by rw [ownG_get, h0, Nat.zero_add, Option.map_some, hf])) d hr.1, hr.2⟩
  | ne e t => obtain ⟨hu, ws, h⟩ := h; exact ⟨hu, ws, h.ow, h.len, h.inn, fun p hp => by cases hp⟩
  | _ => exact h
theorem OC.mkr_ok {τ τ' : Nat → Nat} {c : OC} {x : c.ty D} {v : Value} {w : Bool} (w' : Bool) (h : ObOk X.G z e m k vs (OC.mkr X τ c x w) v) (hv : ∀ n ∈ c.nums, ∀ u, vs[τ n]? = some u → vs'[τ' n]? = some u) : ObOk X.G z e m k vs' (OC.mkr X τ' c x w') v := OC.mkr_okC w' h fun n hn _ => hv n hn
theorem OC.mk_vs {c : OC} {x : c.ty D} {v : Value} {w : Bool} (hc : c.nums = []) (w' : Bool) (h : ObOk X.G z e m k vs (OC.mk X c x w) v) : ObOk X.G z e m k vs' (OC.mk X c x w') v := OC.mkr_ok w' h fun n hn => by rw [hc] at hn; simp at hn
theorem upX_ok {e t : Nat} : UpOk X.G e t ((X.N e t).map NI.up) := by
  intro f hf
  cases hn : X.N e t with
  | none => rw [hn] at hf; cases hf
  | some ni => rw [hn] at hf; cases hf; exact ⟨ni.hsz, ni.tid, ni.hr⟩
theorem OC.get_ok {σ : List Nat} {τ : Nat → Nat} {c : OC} {x : c.ty D} {o : Ob D} {v : Value} (hg : OC.get X σ c o = some x) (h : ObOk X.G z e m k vs o v) (hv : ∀ n i u, σ[n]? = some i → vs[i]? = some u → vs'[τ n]? = some u) (w : Bool) : ObOk X.G z e m k vs' (OC.mkr X τ c x w) v := by
  unfold OC.get at hg
  split at hg
  · split at hg
    · rename_i hk; cases hg; subst hk; exact h
    · cases hg
  · obtain ⟨hk, hg⟩ := ite_some hg
    subst hk
    obtain ⟨b, ds, h1, h2, h3, h4⟩ := h
    exact ⟨b, ds, h1, h2, h3, pkX_lv hg h4⟩
  · obtain ⟨hk, hg⟩ := ite_some hg
    subst hk
    obtain ⟨b, ds, h1, h2, h4⟩ := h
    exact ⟨b, ds, h1, h2, pkX_lv hg h4⟩
  · split at hg
    · rename_i hk
      split at hg
      · rename_i ht
        obtain ⟨h1, h2⟩ := ht
        subst hk h1 h2
        cases hg; exact h
      · cases hg
    · cases hg
  · split at hg
    · rename_i hk
      split at hg
      · rename_i ht
        obtain ⟨h1, h2⟩ := hk
        subst h1 h2 ht
        cases hg; exact h
      · cases hg
    · cases hg
  · rename_i t l t' cs w0
    obtain ⟨hk, hg⟩ := ite_some hg
    obtain ⟨rfl, hl⟩ := hk
    obtain ⟨b, ds, h1, h2, h3, h4⟩ := h
    have hlen := (L2_iff.1 h4).1
    -- the cells, nil in the places of the own ones
    have hn : L2 (rel0 X.G z vs) (nilG l 0 cs) ((List.range ds.length).map fun i => match fndN l i with | some _ => Value.slice none 0 0 | none => ds.getD i undef) := by
      refine L2_iff.2 ⟨by rw [nilG_len]; simp [hlen], fun i a d ha hd => ?_⟩
      rw [nilG_get] at ha
      obtain ⟨a0, h0, ha⟩ := Option.map_eq_some_iff.1 ha
      rw [Nat.zero_add] at ha
      have hi : i < ds.length := by rw [← hlen]; exact (List.getElem?_eq_some_iff.1 h0).1
      rw [List.getElem?_map, List.getElem?_range hi] at hd
      have hd := Option.some.inj hd
      cases hf : fndN l i with
      | none =>
        rw [hf] at ha
        simp only [hf] at hd
        subst ha hd
        exact (L2_iff.1 h4).2 i a0 _ h0 (by simp [List.getD, List.getElem?_eq_getElem hi])
      | some n =>
        rw [hf] at ha
        simp only [hf] at hd
        subst ha hd
        exact rfl
    have hn := pkX_lv (vs' := vs') hg hn
    refine ⟨b, ds, h1, h2, h3, L2_iff.2 ⟨by rw [ownG_len, (L2_iff.1 hn).1]; simp, fun i a d ha hd => ?_⟩⟩
    rw [ownG_get] at ha
    obtain ⟨a0, h0, ha⟩ := Option.map_eq_some_iff.1 ha
    rw [Nat.zero_add] at ha
    have hi : i < ds.length := (List.getElem?_eq_some_iff.1 hd).1
    cases hf : fndN l i with
    | none =>
      rw [hf] at ha
      subst ha
      have := (L2_iff.1 hn).2 i a0 d h0 (by rw [List.getElem?_map, List.getElem?_range hi]; simp only [Option.map_some, hf]; simp [List.getD, hd])
      exact this
    | some n =>
      rw [hf] at ha
      subst ha
      obtain ⟨i0, g1, g2⟩ := linkB_at hl _ (fndN_mem hf)
      have hr := (L2_iff.1 h4).2 i _ d g1 hd
      exact ⟨hv n i0 d g2 hr.1, hr.2⟩
  · split at hg
    · rename_i hk
      subst hk
      obtain ⟨hk, hg⟩ := ite_some hg
      subst hk
      cases hg
      obtain ⟨_, ws, h⟩ := h
      exact ⟨upX_ok, ws, h.ow, h.len, h.inn, fun p hp => by cases hp⟩
    · cases hg
  · cases hg
theorem OC.get_nums {σ : List Nat} {c : OC} {x : c.ty D} {o : Ob D} (hg : OC.get X σ c o = some x) : ∀ n ∈ c.nums, ∃ i, σ[n]? = some i := by
  intro n hn
  unfold OC.get at hg
  split at hg
  · simp [OC.nums] at hn
  · simp [OC.nums] at hn
  · simp [OC.nums] at hn
  · simp [OC.nums] at hn
  · simp [OC.nums] at hn
  · obtain ⟨⟨_, hl⟩, _⟩ := ite_some hg
    obtain ⟨p, hp, rfl⟩ := List.mem_map.1 hn
    obtain ⟨i, _, h⟩ := linkB_at hl p hp
    exact ⟨i, h⟩
  · simp [OC.nums] at hn
  · cases hg
theorem OC.get_live {σ : List Nat} {c : OC} {x : c.ty D} {o : Ob D} (hg : OC.get X σ c o = some x) : o.live = true := by
  unfold OC.get at hg
  split at hg <;> first | rfl | cases hg
theorem ownG_same {τ : Nat → Nat} {l : List (Nat × Nat)} : ∀ {cs ds : List (CV D)} {i : Nat}, MtC (nilG l i cs) ds → cleanG l i cs = true → (∀ j n, fndN l (i + j) = some n → cs[j]? = none ∨ cs[j]? = some (.own (τ n))) → ownG τ l i ds = cs
  | [], [], _, _, _, _ => rfl
  | [], _ :: _, _, h, _, _ => h.elim
  | _ :: _, [], _, h, _, _ => h.elim
  | c :: cs, d :: ds, i, h, hc, ho => by
    simp only [cleanG, Bool.and_eq_true] at hc
    have h2 := ownG_same (cs := cs) (ds := ds) (i := i + 1) h.2 hc.2 fun j n hj => by
      have := ho (j + 1) n (by rw [← hj]; congr 1; omega)
      simpa using this
    simp only [ownG, h2]
    have h0 := ho 0
    rw [Nat.add_zero] at h0
    cases hf : fndN l i with
    | some n =>
      have := h0 n hf
      simp at this
      simp [this]
    | none =>
      have h1 := h.1
      simp only [hf] at h1 hc
      simp only
      rw [h1 hc.1]
theorem OC.get_clean {σ : List Nat} {c : OC} {x : c.ty D} {o : Ob D} (hg : OC.get X σ c o = some x) (h : c.cln o = true) : o = OC.mkr X (fun n => σ.getD n 0) c x o.tch := by
  unfold OC.get at hg
  split at hg
  · split at hg
    · rename_i hk; cases hg; subst hk; rfl
    · cases hg
  · obtain ⟨hk, hg⟩ := ite_some hg
    subst hk
    simp only [OC.mkr, Ob.tch]
    rw [← pkX_n hg h]
  · obtain ⟨hk, hg⟩ := ite_some hg
    subst hk
    simp only [OC.mkr, Ob.tch]
    rw [← pkX_n hg h]
  · split at hg
    · rename_i hk
      split at hg
      · rename_i ht
        obtain ⟨h1, h2⟩ := ht
        subst hk h1 h2
        cases hg; rfl
      · cases hg
    · cases hg
  · split at hg
    · rename_i hk
      split at hg
      · rename_i ht
        obtain ⟨h1, h2⟩ := hk
        subst h1 h2 ht
        cases hg; rfl
      · cases hg
    · cases hg
  · rename_i t l t' cs w0
    obtain ⟨⟨rfl, hl⟩, hg⟩ := ite_some hg
    simp only [OC.mkr, Ob.tch]
    rw [ownG_same (pkX_m hg) (h : cleanG l 0 cs = true) fun j n hj => .inr ?_]
    obtain ⟨i, g1, g2⟩ := linkB_at hl (j, n) (fndN_mem (by rwa [Nat.zero_add] at hj))
    rw [g1, List.getD_eq_getElem?_getD, g2]; rfl
  · split at hg
    · rename_i hk
      subst hk
      obtain ⟨hk, hg⟩ := ite_some hg
      subst hk
      cases h
    · cases hg
  · cases hg
end
end
end Go.AM
end
section
set_option linter.unusedSimpArgs false
set_option linter.unusedVariables false
namespace Go.AM
section
variable {P : Program} {D : Nat → Type} {X : Ev P D} {z z' : Nat → Blk} {e m m' : Mem} {k : Option Nat} {vs vs' : List Value} {fr : Nat → Value} {E : List (Nat × SV D)} {O O' : List (Ob D)}
theorem Mm.sel (h : Mm X.G O z e m k vs) (len : vs'.length = O'.length) (φ : Nat → Nat)
    (hl : ∀ (i : Nat) (o : Ob D), O'[i]? = some o → o.live = true → ∃ p v, O[φ i]? = some p ∧ p.live = true ∧ vs[φ i]? = some v ∧ vs'[i]? = some v ∧ ObOk X.G z e m k vs' o v)
    (hf : ∀ (i : Nat) (o : Ob D) (v : Value), O'[i]? = some o → o.live = false → vs'[i]? = some v → ObOk X.G z e m k vs' o v)
    (inj : ∀ (i j : Nat) (o p : Ob D), O'[i]? = some o → O'[j]? = some p → o.live = true → p.live = true → φ i = φ j → i = j) : Mm X.G O' z e m k vs' where
  st := h.st
  len := len
  obj := fun i o v ho hv => by
    cases hL : o.live with
    | false => exact hf i o v ho hL hv
    | true =>
      obtain ⟨p, w, _, _, _, h4, h5⟩ := hl i o ho hL
      rw [hv] at h4; cases h4; exact h5
  ap := fun i j o p v w hij ho hp lo lp hv hw => by
    obtain ⟨p1, v1, g1, g2, g3, g4, _⟩ := hl i o ho lo
    obtain ⟨p2, v2, k1, k2, k3, k4, _⟩ := hl j p hp lp
    rw [hv] at g4; cases g4
    rw [hw] at k4; cases k4
    exact h.ap (φ i) (φ j) p1 p2 v w (fun hh => hij (inj i j o p ho hp lo lp hh)) g1 k1 g2 k2 g3 k3
theorem ObOk.frozen {o : Ob D} {v : Value} (hl : o.live = false) (h : ObOk X.G z e m k vs o v) (hz : Zle z z') (hv : ∀ (i : Nat) (u : Value), vs[i]? = some u → vs'[i]? = some u) : ObOk X.G z' e m' k vs' o v := by
  cases o with
  | dead => trivial
  | sl t xs fz _ => cases fz with
    | true => exact SlR.mono hz h
    | false => cases hl
  | box t cs fz _ => cases fz with
    | true => obtain ⟨b, ds, h1, h2, h3⟩ := h; exact ⟨b, ds, h1, cellsAt_mono hz h2, rels.mono h3 hz hv⟩
    | false => cases hl
  | map t kt vt es fz _ => cases fz with
    | true => exact MpR.mono h hz
    | false => cases hl
  | _ => cases hl
theorem Rl_of (h : ∀ p ∈ E, rel X.G z vs p.2 (fr p.1)) : Rl X z vs E fr := by
  induction E with
  | nil => intro d; trivial
  | cons p E ih => exact (ih fun q hq => h q (List.mem_cons_of_mem _ hq)).cons (h p List.mem_cons_self)
theorem frzV_ok {s s' : SV D} {v : Value} (hM : Mm X.G O z e m k vs) (h : frzV O s = some (s', O')) (hv : rel X.G z vs s v) : ∃ z', Inv O O' ∧ Zx e.next z z' ∧ Mm X.G O' z' e m k vs ∧ rel X.G z' vs s' v := by
  unfold frzV at h
  split at h
  · split at h
    · rename_i c c' O1 hc
      cases h
      exact frzC_ok hM hc hv
    · cases h
  · split at h
    · rename_i t cs cs' O1 hc
      cases h
      obtain ⟨ds, h1, h2⟩ := hv
      obtain ⟨z', g0, g1, g2, g3⟩ := frzL_ok hM hc h2
      exact ⟨z', g0, g1, g2, ds, h1, g3⟩
    · cases h
  · split at h
    · rename_i e1 xs O1 hc
      split at h
      · rename_i he
        subst he
        cases h
        obtain ⟨w, h1, h2⟩ := hv
        obtain ⟨z', g0, g1, g2, g3⟩ := frzC_ok (c := .own _) hM hc h1
        exact ⟨z', g0, g1, g2, h2.slr g3⟩
      · cases h
    · cases h
  · cases h
    exact ⟨z, Inv.refl _, Zx.refl z, hM, hv⟩
theorem frzO_box {i j t : Nat} {c : CV D} {cs : List (CV D)} {fz w : Bool} (h : frzO O j = some (c, O')) (hi : O[i]? = some (.box t cs fz w)) : O'[i]? = some (.box t cs fz w) := by
  unfold frzO at h
  split at h
  · rename_i ho
    cases h
    rw [List.getElem?_set]
    split
    · rename_i hj; subst hj; rw [ho] at hi; cases hi
    · exact hi
  · rename_i ho
    cases h
    rw [List.getElem?_set]
    split
    · rename_i hj; subst hj; rw [ho] at hi; cases hi
    · exact hi
  · rename_i ho
    cases h
    rw [List.getElem?_set]
    split
    · rename_i hj; subst hj; rw [ho] at hi; cases hi
    · exact hi
  · cases h
theorem frzC_box {i t : Nat} {c c' : CV D} {cs : List (CV D)} {fz w : Bool} (h : frzC O c = some (c', O')) (hi : O[i]? = some (.box t cs fz w)) : O'[i]? = some (.box t cs fz w) := by
  unfold frzC at h
  split at h
  · exact frzO_box h hi
  · cases h; exact hi
theorem frzG_ok {l : List (Nat × Nat)} : ∀ {cs cs' : List (CV D)} {n : Nat} {O O' : List (Ob D)} {ds : List Value} {z : Nat → Blk}, Mm X.G O z e m k vs → frzG l n cs O = some (cs', O') → L2 (rel0 X.G z vs) cs ds →
    ∃ z', Inv O O' ∧ Zx e.next z z' ∧ Mm X.G O' z' e m k vs ∧ L2 (rel0 X.G z' vs) cs' ds ∧ ∀ (i t : Nat) (bs : List (CV D)) (fz w : Bool), O[i]? = some (.box t bs fz w) → O'[i]? = some (.box t bs fz w)
  | [], cs', n, O, O', [], z, hM, h, _ => by cases h; exact ⟨z, Inv.refl _, Zx.refl z, hM, trivial, fun _ _ _ _ _ h => h⟩
  | c :: cs, cs', n, O, O', d :: ds, z, hM, h, ⟨h1, h2⟩ => by
    unfold frzG at h
    split at h
    · rename_i c' O1 hc
      split at h
      · rename_i cs1 O2 hcs
        cases h
        have step : ∃ z1, Inv O O1 ∧ Zx e.next z z1 ∧ Mm X.G O1 z1 e m k vs ∧ rel0 X.G z1 vs c' d ∧ ∀ (i t : Nat) (bs : List (CV D)) (fz w : Bool), O[i]? = some (.box t bs fz w) → O1[i]? = some (.box t bs fz w) := by
          split at hc
          · cases hc; exact ⟨z, Inv.refl _, Zx.refl z, hM, h1, fun _ _ _ _ _ h => h⟩
          · obtain ⟨z1, g0, g1, g2, g3⟩ := frzC_ok hM hc h1
            exact ⟨z1, g0, g1, g2, g3, fun _ _ _ _ _ h => frzC_box hc h⟩
        obtain ⟨z1, g0, g1, g2, g3, g4⟩ := step
        obtain ⟨z2, k0, k1, k2, k3, k4⟩ := frzG_ok g2 hcs (rels.mono h2 g1.le fun _ _ h => h)
        exact ⟨z2, g0.trans k0, g1.trans k1, k2, ⟨rel0.mono g3 k1.le fun _ _ h => h, k3⟩, fun _ _ _ _ _ h => k4 _ _ _ _ _ (g4 _ _ _ _ _ h)⟩
      · cases h
    · cases h
  | [], _, _, _, _, _ :: _, _, _, _, h => h.elim
  | _ :: _, _, _, _, _, [], _, _, _, h => h.elim
theorem frzX_ok {l : List (Nat × Nat)} {i : Nat} (hM : Mm X.G O z e m k vs) (h : frzX l O i = some O') : ∃ z', Inv O O' ∧ Zx e.next z z' ∧ Mm X.G O' z' e m k vs := by
  unfold frzX at h
  split at h
  · rename_i t cs w ho
    split at h
    · split at h
      · rename_i cs' O1 hf
        cases h
        obtain ⟨v, hv, b, ds, h1, h2, h3, h4⟩ := hM.at ho
        obtain ⟨z1, g0, g1, g2, g3, g4⟩ := frzG_ok hM hf h4
        have ho1 := g4 _ _ _ _ _ ho
        obtain ⟨b', ds', q1, q2, q3, q4⟩ := g2.obj i _ v ho1 hv
        have hbx : Bx z1 e m k b ds t := by
          rw [h1] at q1; cases q1
          exact ⟨h2.blk, q2.lt, q2.dead, q2.fresh⟩
        refine ⟨z1, g0.trans (Inv.set O1 i (.inr rfl)), g1, g2.turn (m' := m) ho1 hv rfl ⟨Nat.le_refl _, g2.st.dead, fun _ _ _ => rfl⟩ g2.st ⟨b, ds, h1, hbx, h3, g3⟩⟩
      · cases h
    · cases h; exact ⟨z, Inv.refl _, Zx.refl z, hM⟩
  · cases h; exact ⟨z, Inv.refl _, Zx.refl z, hM⟩
theorem frzB_ok : ∀ {its : List It} {O O' : List (Ob D)} {z : Nat → Blk}, Mm X.G O z e m k vs → frzB E its O = some O' → ∃ z', Inv O O' ∧ Zx e.next z z' ∧ Mm X.G O' z' e m k vs
  | [], O, O', z, hM, h => by cases h; exact ⟨z, Inv.refl _, Zx.refl z, hM⟩
  | it :: its, O, O', z, hM, h => by
    have go : ∀ {l : List (Nat × Nat)} {i : Nat}, (match frzX l O i with | some O' => frzB E its O' | none => none) = some O' → ∃ z', Inv O O' ∧ Zx e.next z z' ∧ Mm X.G O' z' e m k vs := by
      intro l i h
      split at h
      · rename_i O1 hf
        obtain ⟨z1, g0, g1, g2⟩ := frzX_ok hM hf
        obtain ⟨z2, k0, k1, k2⟩ := frzB_ok g2 h
        exact ⟨z2, g0.trans k0, g1.trans k1, k2⟩
      · cases h
    cases it with
    | v d c => exact frzB_ok (its := its) hM h
    | o d c =>
      cases c with
      | box t =>
        simp only [frzB] at h
        split at h
        · exact go h
        · cases h
      | bx t l =>
        simp only [frzB] at h
        split at h
        · exact go h
        · cases h
      | _ => exact frzB_ok (its := its) hM h
    | u j c =>
      cases c with
      | box t => simp only [frzB] at h; exact go h
      | bx t l => simp only [frzB] at h; exact go h
      | _ => exact frzB_ok (its := its) hM h
def AOk (X : Ev P D) (z : Nat → Blk) (vs : List Value) (fr : Nat → Value) : List It → List (SV D) → Prop
  | [], [] => True
  | .v d _ :: its, s :: l => rel X.G z vs s (fr d) ∧ AOk X z vs fr its l
  | .o _ _ :: its, _ :: l => AOk X z vs fr its l
  | .u _ _ :: its, _ :: l => AOk X z vs fr its l
  | _, _ => False
theorem AOk.mono (hz : Zle z z') : ∀ {its : List It} {l : List (SV D)}, AOk X z vs fr its l → AOk X z' vs fr its l
  | [], [], _ => trivial
  | .v d _ :: its, s :: l, h => ⟨rel.mono h.1 hz fun _ _ h => h, AOk.mono hz h.2⟩
  | .o _ _ :: its, _ :: l, h => AOk.mono (its := its) hz h
  | .u _ _ :: its, _ :: l, h => AOk.mono (its := its) hz h
  | [], _ :: _, h => h.elim
  | .v _ _ :: _, [], h => h.elim
  | .o _ _ :: _, [], h => h.elim
  | .u _ _ :: _, [], h => h.elim
theorem frzW_ok {c : Cl} {s s' : SV D} {v : Value} (hM : Mm X.G O z e m k vs) (h : frzW c O s = some (s', O')) (hv : rel X.G z vs s v) : ∃ z', Inv O O' ∧ Zx e.next z z' ∧ Mm X.G O' z' e m k vs ∧ rel X.G z' vs s' v := by
  unfold frzW at h
  split at h
  · cases h; exact ⟨z, Inv.refl _, Zx.refl z, hM, hv⟩
  · rename_i t i off
    split at h
    · rename_i O1 hx
      split at h
      · rename_i p O2 hp
        cases h
        obtain ⟨z1, g0, g1, g2⟩ := frzX_ok hM hx
        obtain ⟨z2, k0, k1, k2, k3⟩ := capOf_ok g2 (rel.mono hv g1.le fun _ _ h => h) hp
        exact ⟨z2, g0.trans k0, g1.trans k1, k2, k3⟩
      · cases h
    · cases h
  · exact frzV_ok hM h hv
theorem frzA_ok : ∀ {its : List It} {O O' : List (Ob D)} {l : List (SV D)} {z : Nat → Blk}, Mm X.G O z e m k vs → Rl X z vs E fr → frzA E its O = some (l, O') → ∃ z', Inv O O' ∧ Zx e.next z z' ∧ Mm X.G O' z' e m k vs ∧ AOk X z' vs fr its l
  | [], O, O', l, z, hM, hE, h => by cases h; exact ⟨z, Inv.refl _, Zx.refl z, hM, trivial⟩
  | .v d c :: its, O, O', l, z, hM, hE, h => by
    simp only [frzA] at h
    split at h
    · rename_i s O1 hs
      split at h
      · rename_i l1 O2 hl
        cases h
        obtain ⟨z1, g0, g1, g2, g3⟩ := frzW_ok hM hs (hE d)
        obtain ⟨z2, k0, k1, k2, k3⟩ := frzA_ok g2 (hE.mono g1.le fun _ _ h => h) hl
        exact ⟨z2, g0.trans k0, g1.trans k1, k2, rel.mono g3 k1.le fun _ _ h => h, k3⟩
      · cases h
    · cases h
  | .o d c :: its, O, O', l, z, hM, hE, h => by
    simp only [frzA] at h
    split at h
    · rename_i l1 O2 hl
      cases h
      exact frzA_ok (its := its) hM hE hl
    · cases h
  | .u d c :: its, O, O', l, z, hM, hE, h => by
    simp only [frzA] at h
    split at h
    · rename_i l1 O2 hl
      cases h
      exact frzA_ok (its := its) hM hE hl
    · cases h
structure CO (D : Nat → Type) where
  c : OC
  x : c.ty D
def cos : (its : List It) → inT D its → List (CO D)
  | [], _ => []
  | .o _ c :: its, x => ⟨c, x.1⟩ :: cos its x.2
  | .v _ _ :: its, x => cos its x.2
  | .u _ _ :: its, x => cos its x.2
theorem mkO_cos : ∀ {its : List It} {x : inT D its}, mkO X its x = (cos its x).map fun q => OC.mk X q.c q.x false
  | [], _ => rfl
  | .o d c :: its, x => by
    show OC.mk X c x.1 false :: mkO X its x.2 = OC.mk X c x.1 false :: (cos its x.2).map _
    rw [mkO_cos]
  | .v d c :: its, x => mkO_cos (its := its)
  | .u d c :: its, x => mkO_cos (its := its)
def Ox (X : Ev P D) (σ0 : List Nat) (O : List (Ob D)) : List Nat → List (CO D) → Prop := L2 fun i q => ∃ o, O[i]? = some o ∧ OC.get X σ0 q.c o = some q.x
theorem rdB_v {σ0 : List Nat} (hm : ∀ (j i : Nat) (u : Value), σ0[j]? = some i → vs[i]? = some u → vs'[j]? = some u) : ∀ {its : List It} {l : List (SV D)} {σ : List Nat} {x : inT D its}, rdB X σ0 O its l σ = some x → AOk X z vs fr its l → ∀ p ∈ mkE X its x, rel X.G z vs' p.2 (fr p.1)
  | [], _, _, _, _, _ => by simp [mkE]
  | .v d c :: its, [], _, _, _, h => h.elim
  | .o d c :: its, [], _, _, _, h => h.elim
  | .u d c :: its, [], _, _, _, h => h.elim
  | .v d c :: its, s :: l, σ, x, h, ha => by
    simp only [rdB] at h
    obtain ⟨hcb, h⟩ := ite_some h
    split at h
    · rename_i a b h1 h2
      cases h
      intro p hp
      simp only [mkE, List.mem_cons] at hp
      rcases hp with rfl | hp
      · exact Cl.get_ok hm hcb h1 ha.1
      · exact rdB_v hm h2 ha.2 p hp
    · cases h
  | .o d c :: its, s :: l, [], x, h, ha => by cases h
  | .o d c :: its, s :: l, i :: σ, x, h, ha => by
    simp only [rdB] at h
    split at h
    · split at h
      · rename_i a b h1 h2
        cases h
        intro p hp
        exact rdB_v hm h2 ha p hp
      · cases h
    · cases h
  | .u d c :: its, s :: l, σ, x, h, ha => by
    simp only [rdB] at h
    split at h
    · split at h
      · rename_i a b h1 h2
        cases h
        intro p hp
        exact rdB_v hm h2 ha p hp
      · cases h
    · cases h
theorem rdB_o {σ0 : List Nat} : ∀ {its : List It} {l : List (SV D)} {σ : List Nat} {x : inT D its}, rdB X σ0 O its l σ = some x → Ox X σ0 O σ (cos its x)
  | [], [], [], _, _ => trivial
  | [], _ :: _, [], _, _ => trivial
  | [], _, _ :: _, _, h => by simp [rdB] at h
  | .v d c :: its, [], _, _, h => by simp [rdB] at h
  | .o d c :: its, [], _, _, h => by simp [rdB] at h
  | .u d c :: its, [], _, _, h => by simp [rdB] at h
  | .v d c :: its, s :: l, σ, x, h => by
    simp only [rdB] at h
    obtain ⟨_, h⟩ := ite_some h
    split at h
    · rename_i a b h1 h2
      cases h
      show Ox X σ0 O σ (cos its b)
      exact rdB_o h2
    · cases h
  | .o d c :: its, s :: l, [], x, h => by cases h
  | .o d c :: its, s :: l, i :: σ, x, h => by
    simp only [rdB] at h
    split at h
    · rename_i o ho
      split at h
      · rename_i a b h1 h2
        cases h
        exact ⟨⟨o, ho, h1⟩, rdB_o h2⟩
      · cases h
    · cases h
  | .u d c :: its, s :: l, σ, x, h => by
    simp only [rdB] at h
    split at h
    · split at h
      · rename_i a b h1 h2
        cases h
        show Ox X σ0 O σ (cos its b)
        exact rdB_o h2
      · cases h
    · cases h
theorem nodupB_cons {i : Nat} {l : List Nat} (h : nodupB (i :: l) = true) : i ∉ l ∧ nodupB l = true := by
  simp only [nodupB, Bool.and_eq_true, Bool.not_eq_true', List.any_eq_false] at h
  refine ⟨fun hi => ?_, h.2⟩
  exact h.1 i hi (by simp)
theorem nodupB_get : ∀ {l : List Nat}, nodupB l = true → ∀ (a b i : Nat), l[a]? = some i → l[b]? = some i → a = b
  | [], _, a, b, i, h, _ => by simp at h
  | x :: l, h, a, b, i, ha, hb => by
    obtain ⟨h1, h2⟩ := nodupB_cons h
    cases a with
    | zero =>
      cases b with
      | zero => rfl
      | succ b =>
        simp at ha hb
        subst ha
        exact absurd (List.mem_of_getElem? hb) h1
    | succ a =>
      cases b with
      | zero =>
        simp at ha hb
        subst hb
        exact absurd (List.mem_of_getElem? ha) h1
      | succ b =>
        simp at ha hb
        rw [nodupB_get h2 a b i ha hb]
def Oy (X : Ev P D) (σ0 : List Nat) (O : List (Ob D)) : List Nat → List (CO D) → Prop := L2 fun i q => ∃ w, O[i]? = some (OC.mkr X (fun n => σ0.getD n 0) q.c q.x w)
theorem mm_set {σ0 : List Nat} (hM : Mm X.G O z e m k vs) {i : Nat} {o : Ob D} {c : OC} {x : c.ty D} (ho : O[i]? = some o) (hg : OC.get X σ0 c o = some x) (w : Bool) : Mm X.G (O.set i (OC.mkr X (fun n => σ0.getD n 0) c x w)) z e m k vs := by
  obtain ⟨v, hv, hob⟩ := hM.at ho
  have hi := (List.getElem?_eq_some_iff.1 ho).1
  refine hM.sel (by rw [List.length_set]; exact hM.len) id (fun j p hp hl => ?_) (fun j p u hp hl hu => ?_) (fun i j _ _ _ _ _ _ h => h)
  · rw [List.getElem?_set] at hp
    split at hp
    · rename_i hij
      subst hij
      cases hp
      exact ⟨o, v, ho, OC.get_live hg, hv, hv, OC.get_ok hg hob (fun n i u h1 h2 => by simpa [List.getD, h1] using h2) w⟩
    · obtain ⟨u, hu, hp'⟩ := hM.at hp
      exact ⟨p, u, hp, hl, hu, hu, hp'⟩
  · rw [List.getElem?_set] at hp
    split at hp
    · cases hp; rw [OC.mkr_live] at hl; cases hl
    · exact hM.obj j p u hp hu
theorem gt_set {σ0 : List Nat} {i : Nat} {p : Ob D} : ∀ {σ : List Nat} {C : List (CO D)}, Ox X σ0 O σ C → i ∉ σ → Ox X σ0 (O.set i p) σ C
  | [], [], _, _ => trivial
  | j :: σ, q :: C, ⟨⟨o, h1, h2⟩, h3⟩, hi => by
    refine ⟨⟨o, ?_, h2⟩, gt_set h3 fun h => hi (List.mem_cons_of_mem _ h)⟩
    rw [List.getElem?_set_ne]
    · exact h1
    · rintro rfl; exact hi List.mem_cons_self
  | [], _ :: _, h, _ => h.elim
  | _ :: _, [], h, _ => h.elim
theorem set_same {α : Type} {l : List α} {i : Nat} {a : α} (h : l[i]? = some a) : l.set i a = l := by
  apply List.ext_getElem?
  intro j
  rw [List.getElem?_set]
  have hi := (List.getElem?_eq_some_iff.1 h).1
  by_cases hij : i = j
  · subst hij; rw [if_pos rfl, if_pos hi, h]
  · simp [hij]
theorem nrm_ok {σ0 : List Nat} : ∀ {its : List It} {x : inT D its} {σ : List Nat} {O : List (Ob D)}, Mm X.G O z e m k vs → Ox X σ0 O σ (cos its x) → nodupB σ = true →
    Inv O (nrm X σ0 its x σ O) ∧ Mm X.G (nrm X σ0 its x σ O) z e m k vs ∧ Oy X σ0 (nrm X σ0 its x σ O) σ (cos its x) ∧ ∀ i, i ∉ σ → (nrm X σ0 its x σ O)[i]? = O[i]?
  | [], x, [], O, hM, _, _ => ⟨Inv.refl _, hM, trivial, fun _ _ => rfl⟩
  | [], x, _ :: _, O, hM, h, _ => h.elim
  | .v d c :: its, x, σ, O, hM, h, hn => by
    have := nrm_ok (its := its) (x := x.2) (σ := σ) hM h hn
    simpa only [nrm, cos] using this
  | .u d c :: its, x, σ, O, hM, h, hn => by
    have := nrm_ok (its := its) (x := x.2) (σ := σ) hM h hn
    simpa only [nrm, cos] using this
  | .o d c :: its, x, [], O, hM, h, hn => h.elim
  | .o d c :: its, x, i :: σ, O, hM, ⟨⟨o, h1, h2⟩, h3⟩, hn => by
    obtain ⟨n1, n2⟩ := nodupB_cons hn
    have hM1 := mm_set hM h1 h2 (tchAt c O i)
    obtain ⟨g1, g2, g3, g4⟩ := nrm_ok (its := its) (x := x.2) (σ := σ) hM1 (gt_set h3 n1) n2
    have hi := (List.getElem?_eq_some_iff.1 h1).1
    refine ⟨Inv.trans ?_ g1, g2, ⟨⟨tchAt c O i, ?_⟩, g3⟩, fun j hj => ?_⟩
    · cases ht : tchAt c O i with
      | true => exact Inv.set O i (.inr OC.mkr_tch)
      | false =>
        have hc : o.tch = false ∧ c.cln o = true := by
          simp only [tchAt, h1, Bool.or_eq_false_iff, Bool.not_eq_false'] at ht
          exact ht
        have k3 := OC.get_clean h2 hc.2
        rw [hc.1] at k3
        have : O.set i (OC.mkr X (fun n => σ0.getD n 0) c x.1 false) = O := set_same (by rw [h1]; exact congrArg some k3)
        rw [this]
        exact Inv.refl O
    · show (nrm X σ0 its x.2 σ (O.set i (OC.mkr X _ c x.1 (tchAt c O i))))[i]? = _
      rw [g4 i n1, List.getElem?_set]
      simp [hi]
    · show (nrm X σ0 its x.2 σ (O.set i (OC.mkr X _ c x.1 (tchAt c O i))))[j]? = _
      rw [g4 j fun h => hj (List.mem_cons_of_mem _ h), List.getElem?_set_ne]
      rintro rfl; exact hj List.mem_cons_self
theorem optB_eq {a : Option Nat} {i : Nat} (h : optB a i = true) : a = some i := by
  unfold optB at h
  split at h
  · rw [Nat.eq_of_beq_eq_true h]
  · cases h
theorem fxT_ok {σ : List Nat} {s s' : SV D} {v : Value} (τ : Nat → Nat) (h : fxT σ s s' = true) (hr : rel X.G z vs s' v) (hv : ∀ (j i : Nat) (u : Value), σ[j]? = some i → vs[i]? = some u → vs'[τ j]? = some u) : rel X.G z vs' (rnS τ s) v := by
  unfold fxT at h
  split at h
  · exact ⟨hv _ _ _ (optB_eq h) hr.1, hr.2⟩
  · simp only [Bool.and_eq_true] at h
    obtain ⟨b, h1, h2⟩ := hr
    have := Nat.eq_of_beq_eq_true h.2
    subst this
    exact ⟨b, hv _ _ _ (optB_eq h.1) h1, h2⟩
  · obtain ⟨b, l, h1, h2⟩ := hr
    exact ⟨b, l, hv _ _ _ (optB_eq h) h1, h2⟩
  · exact hr
  · exact hr
  · exact hr
  · exact hr
  · trivial
  · simp only [Bool.and_eq_true, decide_eq_true_eq, beq_iff_eq] at h
    obtain ⟨rfl, rfl⟩ := h
    exact hr
  · have := eq_of_beq h
    subst this
    exact hr
  · have := Nat.eq_of_beq_eq_true h
    subst this
    obtain ⟨gs, h1, h2⟩ := hr
    refine ⟨gs, h1, ?_⟩
    cases gs with
    | nil => trivial
    | cons _ _ => exact h2.elim
  · cases h
theorem rnS_id (s : SV D) : rnS id s = s := by
  cases s with
  | c c => cases c <;> rfl
  | _ => rfl
structure Ent (X : Ev P D) (its : List It) (fx : List (Nat × SV D)) (x : inT D its) (σ : List Nat) (O2 : List (Ob D)) (z : Nat → Blk) (e m : Mem) (k : Option Nat) (vs vs0 : List Value) (fr : Nat → Value) : Prop where
  mm : Mm X.G O2 z e m k vs
  mm0 : Mm X.G (mkO X its x) z e m k vs0
  rl : Rl X z vs0 (mkE X its x ++ fx) fr
  nd : nodupB σ = true
  oy : Oy X σ O2 σ (cos its x)
  len : vs0.length = σ.length
  nv : ∀ (j i : Nat), σ[j]? = some i → ∃ u, vs0[j]? = some u ∧ vs[i]? = some u
  gt : ∀ q ∈ cos its x, ∀ n ∈ q.c.nums, ∃ i, σ[n]? = some i
theorem entry0 {its : List It} {fx : List (Nat × SV D)} {x : inT D its} {σ : List Nat} {O2 : List (Ob D)} (hM : Mm X.G O z e m k vs) (hE : Rl X z vs E fr) (h : rdIn0 X its fx E O = some (x, σ, O2)) :
    ∃ z' vs0, Inv O O2 ∧ Zx e.next z z' ∧ Ent X its fx x σ O2 z' e m k vs vs0 fr := by
  unfold rdIn0 at h
  split at h
  · rename_i svs O1 σ' hf ha
    split at h
    · rename_i hc
      simp only [Bool.and_eq_true] at hc
      split at h
      · rename_i x' hb
        cases h
        obtain ⟨z1, g0, g1, g2, g3⟩ := frzA_ok hM hE hf
        have ox := rdB_o hb
        obtain ⟨n1, n2, n3, n4⟩ := nrm_ok g2 ox hc.1
        have hv0 : ∀ (j i : Nat), σ[j]? = some i → ∃ u, (σ.map fun i => vs.getD i undef)[j]? = some u ∧ vs[i]? = some u := by
          intro j i hj
          obtain ⟨q, _, w, hw⟩ := n3.get j i hj
          obtain ⟨v, hv, _⟩ := n2.at hw
          refine ⟨v, ?_, hv⟩
          rw [List.getElem?_map, hj]
          simp [hv]
        have hlen : (mkO X its x).length = σ.length := by rw [mkO_cos, List.length_map]; exact n3.length.symm
        have hgt : ∀ (j : Nat) (o0 : Ob D), (mkO X its x)[j]? = some o0 → ∃ i q, q ∈ cos its x ∧ o0 = OC.mk X q.c q.x false ∧ σ[j]? = some i ∧ ∃ w, (nrm X σ its x σ O1)[i]? = some (OC.mkr X (fun n => σ.getD n 0) q.c q.x w) := by
          intro j o0 hj
          have hlt := (List.getElem?_eq_some_iff.1 hj).1
          have hs : σ[j]? = some (σ[j]'(by omega)) := List.getElem?_eq_getElem (by omega)
          obtain ⟨q, k3, w, k4⟩ := n3.get j _ hs
          rw [mkO_cos, List.getElem?_map, k3] at hj
          exact ⟨_, q, List.mem_of_getElem? k3, (Option.some.inj hj).symm, hs, w, k4⟩
        have hnum : ∀ q ∈ cos its x, ∀ n ∈ q.c.nums, ∃ i, σ[n]? = some i := by
          intro q hq
          obtain ⟨j, hj, he⟩ := List.mem_iff_getElem.1 hq
          have hj' : (cos its x)[j]? = some q := by rw [List.getElem?_eq_getElem hj, he]
          have hs : σ[j]? = some (σ[j]'(by rw [ox.length]; exact hj)) := List.getElem?_eq_getElem _
          obtain ⟨q', k1, o, _, k2⟩ := ox.get j _ hs
          rw [hj'] at k1; cases k1
          exact OC.get_nums k2
        refine ⟨z1, σ.map fun i => vs.getD i undef, g0.trans n1, g1, n2, ?_, ?_, hc.1, n3, by simp, hv0, hnum⟩
        · refine n2.sel (by rw [List.length_map]; exact hlen.symm) (fun j => σ.getD j 0) (fun j o0 hj hl => ?_) (fun j o0 u hj hl hu => ?_) (fun i j o p hi hj _ _ hij => ?_)
          · obtain ⟨i, q, hq, rfl, hs, w, hw⟩ := hgt j o0 hj
            obtain ⟨u, hu1, hu2⟩ := hv0 j i hs
            have hd : σ.getD j 0 = i := by simp [List.getD, hs]
            refine ⟨_, u, by rw [hd]; exact hw, OC.mkr_live, by rw [hd]; exact hu2, hu1, ?_⟩
            have := n2.obj i _ u hw hu2
            refine OC.mkr_ok false this fun n hn u' hu' => ?_
            obtain ⟨i', hi'⟩ := hnum q hq n hn
            have hd' : σ.getD n 0 = i' := by simp [List.getD, hi']
            rw [hd'] at hu'
            obtain ⟨u2, h1, h2⟩ := hv0 n i' hi'
            rw [hu'] at h2; cases h2; exact h1
          · obtain ⟨i, q, _, rfl, hs, w, hw⟩ := hgt j o0 hj
            rw [OC.mk_live] at hl
            cases hl
          · obtain ⟨a, _, _, _, ha, _⟩ := hgt i o hi
            obtain ⟨b, _, _, _, hb, _⟩ := hgt j p hj
            have e1 : σ.getD i 0 = a := by simp [List.getD, ha]
            have e2 : σ.getD j 0 = b := by simp [List.getD, hb]
            have : a = b := by rw [← e1, ← e2]; exact hij
            subst this
            exact nodupB_get hc.1 i j a ha hb
        · refine Rl_of fun p hp => ?_
          rcases List.mem_append.1 hp with hp | hp
          · refine rdB_v (fun j i u hj hu => ?_) hb g3 p hp
            obtain ⟨u', h1, h2⟩ := hv0 j i hj
            rw [hu] at h2; cases h2; exact h1
          · have ht := List.all_eq_true.1 hc.2 p hp
            have := fxT_ok (X := X) (z := z1) (vs := vs) (vs' := σ.map fun i => vs.getD i undef) id ht ((hE.mono g1.le fun _ _ h => h) p.1) fun j i u hj hu => by
              obtain ⟨u', h1, h2⟩ := hv0 j i hj
              rw [hu] at h2; cases h2; exact h1
            rwa [rnS_id] at this
      · cases h
    · cases h
  · cases h
theorem entry {its : List It} {fx : List (Nat × SV D)} {x : inT D its} {σ : List Nat} {O2 : List (Ob D)} (hM : Mm X.G O z e m k vs) (hE : Rl X z vs E fr) (h : rdIn X its fx E O = some (x, σ, O2)) :
    ∃ z' vs0, Inv O O2 ∧ Zx e.next z z' ∧ Ent X its fx x σ O2 z' e m k vs vs0 fr := by
  unfold rdIn at h
  split at h
  · rename_i O0 hf
    obtain ⟨z1, g0, g1, g2⟩ := frzB_ok hM hf
    obtain ⟨z2, vs0, k0, k1, k2⟩ := entry0 g2 (hE.mono g1.le fun _ _ h => h) h
    exact ⟨z2, vs0, g0.trans k0, g1.trans k1, k2⟩
  · cases h
def nilAt (E : List (Nat × SV D)) (O : List (Ob D)) (q off : Nat) : Option (Nat × Nat × List (CV D) × Bool) :=
  match lkE E q with
  | .box i 0 => (match O[i]? with | some (.box t cs false w) => (match cs[off]? with | some .nilS => some (i, t, cs, w) | _ => none) | _ => none)
  | _ => none
def ownA : List It → List (Nat × SV D) → List (Ob D) → List (Nat × SV D) × List (Ob D)
  | .o d (.sl t) :: its, E, O =>
    if Nat.blt d VC = true then (match lkE E d with | .c .nilS => ownA its ((d, .c (.own O.length)) :: E) (O ++ [.sl t [] false false]) | _ => ownA its E O)
    else (match nilAt E O ((d - VC) / 1000) ((d - VC) % 1000) with | some (i, u, cs, _) => ownA its E (O.set i (.box u (cs.set ((d - VC) % 1000) (.own O.length)) false true) ++ [.sl t [] false false]) | none => ownA its E O)
  | _ :: its, E, O => ownA its E O
  | [], E, O => (E, O)
theorem ownA_ok : ∀ {its : List It} {E : List (Nat × SV D)} {O : List (Ob D)} {vs : List Value}, Mm X.G O z e m k vs → Rl X z vs E fr → ∃ vs', Inv O (ownA its E O).2 ∧ (∀ (i : Nat) (u : Value), vs[i]? = some u → vs'[i]? = some u) ∧ Mm X.G (ownA its E O).2 z e m k vs' ∧ Rl X z vs' (ownA its E O).1 fr
  | [], E, O, vs, hM, hE => ⟨vs, Inv.refl _, fun _ _ h => h, hM, hE⟩
  | .v _ _ :: its, E, O, vs, hM, hE => ownA_ok (its := its) hM hE
  | .u _ _ :: its, E, O, vs, hM, hE => ownA_ok (its := its) hM hE
  | .o _ (.box _) :: its, E, O, vs, hM, hE => ownA_ok (its := its) hM hE
  | .o _ (.recv _) :: its, E, O, vs, hM, hE => ownA_ok (its := its) hM hE
  | .o _ (.arr _ _ _) :: its, E, O, vs, hM, hE => ownA_ok (its := its) hM hE
  | .o _ (.map _ _ _) :: its, E, O, vs, hM, hE => ownA_ok (its := its) hM hE
  | .o _ (.bx _ _) :: its, E, O, vs, hM, hE => ownA_ok (its := its) hM hE
  | .o _ (.ne _ _) :: its, E, O, vs, hM, hE => ownA_ok (its := its) hM hE
  | .o d (.sl t) :: its, E, O, vs, hM, hE => by
    have hMp : ∀ {O : List (Ob D)}, Mm X.G O z e m k vs → Mm X.G (O ++ [.sl t [] false false]) z e m k (vs ++ [.slice none 0 0]) := fun {O} hM => by
      refine hM.push (q := none) ⟨Nat.le_refl _, hM.st.dead, fun _ _ _ => rfl⟩ hM.st (fun _ _ _ _ _ _ => Ap.none') ?_ fun _ _ _ => Ap.none'
      exact (⟨.inl ⟨rfl, rfl⟩, fun b hb => by cases hb⟩ : OwF (X.G.T t) z e m k [] (.slice none 0 0))
    unfold ownA
    split
    · split
      · rename_i hs
        have hd := hE d
        rw [hs] at hd
        have hd : fr d = .slice none 0 0 := hd
        obtain ⟨vs', g1, g2, g3, g4⟩ := ownA_ok (its := its) (E := (d, .c (.own O.length)) :: E) (hMp hM) ((hE.mono (Zle.refl z) ext_get).cons ⟨by rw [hd, ← hM.len]; simp, by rw [hd]; rfl, by rw [hd]; rfl⟩)
        exact ⟨vs', (Inv.push O _).trans g1, fun i u hu => g2 i u (ext_get i u hu), g3, g4⟩
      · exact ownA_ok (its := its) hM hE
    · generalize (d - VC) / 1000 = q
      generalize (d - VC) % 1000 = off
      split
      · rename_i i u cs w hn
        have hb : O[i]? = some (.box u cs false w) ∧ cs[off]? = some .nilS := by
          unfold nilAt at hn
          split at hn
          · split at hn
            · split at hn
              · rename_i h2 _ h3
                cases hn; exact ⟨h2, h3⟩
              · cases hn
            · cases hn
          · cases hn
        obtain ⟨v, hv, b, ds, h1, h2, h3, h4⟩ := hM.at hb.1
        have hM2 := hMp hM
        have hi := (List.getElem?_eq_some_iff.1 hb.1).1
        have hset : O.set i (.box u (cs.set off (.own O.length)) false true) ++ [(.sl t [] false false : Ob D)] = (O ++ [(.sl t [] false false : Ob D)]).set i (.box u (cs.set off (.own O.length)) false true) := by
          rw [List.set_append_left _ _ hi]
        have hM3 : Mm X.G (O.set i (.box u (cs.set off (.own O.length)) false true) ++ [.sl t [] false false]) z e m k (vs ++ [.slice none 0 0]) := by
          rw [hset]
          refine hM2.turn (m' := m) (v := v) (o := .box u cs false w) (by rw [List.getElem?_append_left hi]; exact hb.1) (ext_get _ _ hv) rfl ⟨Nat.le_refl _, hM.st.dead, fun _ _ _ => rfl⟩ hM.st ?_
          refine ⟨b, ds, h1, h2, h3, L2_iff.2 ⟨by rw [List.length_set]; exact (L2_iff.1 h4).1, fun j a d ha hd => ?_⟩⟩
          rw [List.getElem?_set] at ha
          split at ha
          · rename_i hj
            split at ha
            · cases ha
              subst hj
              have hr : d = .slice none 0 0 := (L2_iff.1 h4).2 off _ d hb.2 hd
              exact ⟨by rw [hr, ← hM.len]; simp, by rw [hr]; rfl, by rw [hr]; rfl⟩
            · cases ha
          · exact rel0.mono ((L2_iff.1 h4).2 j a d ha hd) (Zle.refl z) ext_get
        obtain ⟨vs', g1, g2, g3, g4⟩ := ownA_ok (its := its) (E := E) hM3 (hE.mono (Zle.refl z) ext_get)
        exact ⟨vs', ((Inv.set O i (.inr rfl)).trans (Inv.push _ _)).trans g1, fun i u hu => g2 i u (ext_get i u hu), g3, g4⟩
      · exact ownA_ok (its := its) hM hE
end
end Go.AM
end
section
set_option linter.unusedSimpArgs false
set_option linter.unusedVariables false
namespace Go.AM
structure Ex (D : Nat → Type) where
  ex : AExit
  outs : List It
  fx : List (Nat × SV D)
noncomputable section
section
variable {P : Program} {D : Nat → Type}
def outT (D : Nat → Type) : List It → Type
  | [] => Unit
  | [i] => i.ty D
  | i :: j :: is => i.ty D × outT D (j :: is)
def toOut : (its : List It) → inT D its → outT D its
  | [], _ => ()
  | [_], x => x.1
  | _ :: j :: is, x => (x.1, toOut (j :: is) x.2)
def ofOut : (its : List It) → outT D its → inT D its
  | [], _ => ()
  | [_], y => (y, ())
  | _ :: j :: is, y => (y.1, ofOut (j :: is) y.2)
def sumT : List (Ex D) → Type
  | [] => Empty
  | [x] => outT D x.outs
  | x :: y :: xs => outT D x.outs ⊕ sumT (y :: xs)
def atEx {α : Type} : (exs : List (Ex D)) → sumT exs → ((x : Ex D) → outT D x.outs → α) → α
  | [], e, _ => nomatch (e : Empty)
  | [x], y, k => k x y
  | x :: y :: xs, r, k => match (r : outT D x.outs ⊕ sumT (y :: xs)) with | .inl a => k x a | .inr b => atEx (y :: xs) b k
variable (X : Ev P D)
def refsB (n : Nat) : Ob D → Bool
  | .box _ cs _ _ => cs.all fun c => match c with | .own i => Nat.blt i n | _ => true
  | _ => true
def keptB (n : Nat) (O : List (Ob D)) : Nat → List Nat → Bool
  | _, [] => true
  | j, k :: ks => (if k = 1 then (match O[j]? with | some o => o.live && !o.tch && refsB n o | none => false) else true) && keptB n O (j + 1) ks
def rdXI (n : Nat) (ks : List Nat) (x : Ex D) (E : List (Nat × SV D)) (O : List (Ob D)) : Option (outT D x.outs) :=
  match frzA E x.outs O, ancs E O x.outs with
  | some (svs, O1), some σ =>
    if (nodupB σ && (σ.all fun i => Nat.ble n i || Nat.beq (ks.getD i 0) 0) && keptB n O1 0 ks && x.fx.all fun p => fxT (List.range n ++ σ) p.2 (lkE E p.1)) = true then
      match rdB X (List.range n ++ σ) O1 x.outs svs σ with
      | some y => some (toOut x.outs y)
      | none => none
    else none
  | _, _ => none
def rdX (n : Nat) (ks : List Nat) (x : Ex D) (E : List (Nat × SV D)) (O : List (Ob D)) : Option (outT D x.outs) :=
  match frzB (ownA x.outs E O).1 x.outs (ownA x.outs E O).2 with
  | some O' => rdXI X n ks x (ownA x.outs E O).1 O'
  | none => none
def rdEx (n : Nat) (ks : List Nat) : (exs : List (Ex D)) → AExit → List (Nat × SV D) → List (Ob D) → Option (sumT exs)
  | [], _, _, _ => none
  | [x], e, E, O => if e = x.ex then rdX X n ks x E O else none
  | x :: y :: xs, e, E, O => if e = x.ex then (match rdX X n ks x E O with | some a => some (Sum.inl a) | none => none) else (match rdEx n ks (y :: xs) e E O with | some b => some (Sum.inr b) | none => none)
def updOf (τ : Nat → Nat) : (its : List It) → inT D its → Nat → Ob D
  | .u i c :: its, x, j => if Nat.beq i j = true then OC.mkr X τ c x.1 true else updOf τ its x.2 j
  | .v _ _ :: its, x, j => updOf τ its x.2 j
  | .o _ _ :: its, x, j => updOf τ its x.2 j
  | [], _, _ => .dead
def idN (n : Nat) : Nat := n
def pO (outs : List It) (y : inT D outs) : Nat → List Nat → List (Ob D) → List (Ob D)
  | i, k :: ks, o :: O => (if k = 1 then o else if k = 2 then updOf X idN outs y i else .dead) :: pO outs y (i + 1) ks O
  | i, [], o :: O => .dead :: pO outs y (i + 1) [] O
  | _, _, [] => []
def postO (ks : List Nat) (O0 : List (Ob D)) (outs : List It) (y : inT D outs) : List (Ob D) := pO X outs y 0 ks O0 ++ mkO X outs y
end
section
variable {P : Program} {D : Nat → Type} {X : Ev P D} {z z' : Nat → Blk} {e m m' : Mem} {k : Option Nat} {vs vs' : List Value} {fr : Nat → Value} {E : List (Nat × SV D)} {O O' : List (Ob D)}
theorem of_to : ∀ {its : List It} (x : inT D its), ofOut its (toOut its x) = x
  | [], _ => rfl
  | [_], _ => rfl
  | _ :: j :: is, x => by
    show (x.1, ofOut (j :: is) (toOut (j :: is) x.2)) = x
    rw [of_to (its := j :: is) x.2]
    rfl
theorem rdEx_some {n : Nat} {ks : List Nat} {ex : AExit} : ∀ {exs : List (Ex D)} {res : sumT exs}, rdEx X n ks exs ex E O = some res → ∃ x y, x ∈ exs ∧ ex = x.ex ∧ rdX X n ks x E O = some y ∧ ∀ {α : Type} (K : (x : Ex D) → outT D x.outs → α), atEx exs res K = K x y
  | [], _, h => by cases h
  | [x], res, h => by
    obtain ⟨h1, h2⟩ := ite_some h
    exact ⟨x, res, List.mem_cons_self, h1, h2, fun _ => rfl⟩
  | x :: y :: xs, res, h => by
    simp only [rdEx] at h
    split at h
    · rename_i hx
      split at h
      · rename_i a ha
        cases h
        exact ⟨x, a, List.mem_cons_self, hx, ha, fun _ => rfl⟩
      · cases h
    · split at h
      · rename_i b hb
        cases h
        obtain ⟨x', y', h1, h2, h3, h4⟩ := rdEx_some hb
        exact ⟨x', y', List.mem_cons_of_mem _ h1, h2, h3, fun K => h4 K⟩
      · cases h
theorem updOf_ok {σ0 : List Nat} {n : Nat} : ∀ {its : List It} {l : List (SV D)} {σ : List Nat} {x : inT D its} {j : Nat}, rdB X σ0 O its l σ = some x → (∀ τ, updOf X τ its x j = .dead) ∨ ∃ c y o, O[j]? = some o ∧ OC.get X σ0 c o = some y ∧ ∀ τ, updOf X τ its x j = OC.mkr X τ c y true
  | [], _, _, _, _, _ => .inl fun _ => rfl
  | .v d c :: its, [], _, _, _, h => by simp [rdB] at h
  | .o d c :: its, [], _, _, _, h => by simp [rdB] at h
  | .u d c :: its, [], _, _, _, h => by simp [rdB] at h
  | .v d c :: its, s :: l, σ, x, j, h => by
    simp only [rdB] at h
    obtain ⟨_, h⟩ := ite_some h
    split at h
    · rename_i a b h1 h2
      cases h
      exact updOf_ok (n := n) (its := its) h2
    · cases h
  | .o d c :: its, s :: l, [], x, j, h => by cases h
  | .o d c :: its, s :: l, i :: σ, x, j, h => by
    simp only [rdB] at h
    split at h
    · split at h
      · rename_i a b h1 h2
        cases h
        exact updOf_ok (n := n) (its := its) h2
      · cases h
    · cases h
  | .u d c :: its, s :: l, σ, x, j, h => by
    simp only [rdB] at h
    split at h
    · rename_i o ho
      split at h
      · rename_i a b h1 h2
        cases h
        by_cases hd : Nat.beq d j = true
        · have := Nat.eq_of_beq_eq_true hd
          subst this
          refine .inr ⟨c, a, o, ho, h1, fun τ => ?_⟩
          show (if Nat.beq d d = true then OC.mkr X τ c a true else _) = _
          rw [if_pos hd]
        · have e1 : ∀ τ, updOf X τ (.u d c :: its) (a, b) j = updOf X τ its b j := fun τ => by
            show (if Nat.beq d j = true then OC.mkr X τ c a true else _) = _
            rw [if_neg hd]
          simp only [e1]
          exact updOf_ok (n := n) (its := its) (j := j) h2
      · cases h
    · cases h
def It.nums : It → List Nat
  | .v _ _ => []
  | .o _ c => c.nums
  | .u _ c => c.nums
def It.nc : It → Bool
  | .v _ c => c.nc
  | _ => true
theorem updOf_mk : ∀ {its : List It} {x : inT D its} {j : Nat}, (∀ τ, updOf X τ its x j = .dead) ∨ ∃ d c y, It.u d c ∈ its ∧ ∀ τ, updOf X τ its x j = OC.mkr X τ c y true
  | [], _, _ => .inl fun _ => rfl
  | .v d c :: its, x, j => by
    rcases updOf_mk (its := its) (x := x.2) (j := j) with h | ⟨d, c, y, h1, h2⟩
    · exact .inl h
    · exact .inr ⟨d, c, y, List.mem_cons_of_mem _ h1, h2⟩
  | .o d c :: its, x, j => by
    rcases updOf_mk (its := its) (x := x.2) (j := j) with h | ⟨d, c, y, h1, h2⟩
    · exact .inl h
    · exact .inr ⟨d, c, y, List.mem_cons_of_mem _ h1, h2⟩
  | .u d c :: its, x, j => by
    by_cases hd : Nat.beq d j = true
    · exact .inr ⟨d, c, x.1, List.mem_cons_self, fun τ => if_pos hd⟩
    · have e1 : ∀ τ, updOf X τ (.u d c :: its) x j = updOf X τ its x.2 j := fun τ => if_neg hd
      simp only [e1]
      rcases updOf_mk (its := its) (x := x.2) (j := j) with h | ⟨d, c, y, h1, h2⟩
      · exact .inl h
      · exact .inr ⟨d, c, y, List.mem_cons_of_mem _ h1, h2⟩
theorem mkO_mk : ∀ {its : List It} {x : inT D its} {o : Ob D}, o ∈ mkO X its x → ∃ d c y, It.o d c ∈ its ∧ o = OC.mk X c y false
  | [], _, _, h => by simp [mkO] at h
  | .v d c :: its, x, o, h => let ⟨d, c, y, h1, h2⟩ := mkO_mk (its := its) (x := x.2) h; ⟨d, c, y, List.mem_cons_of_mem _ h1, h2⟩
  | .u d c :: its, x, o, h => let ⟨d, c, y, h1, h2⟩ := mkO_mk (its := its) (x := x.2) h; ⟨d, c, y, List.mem_cons_of_mem _ h1, h2⟩
  | .o d c :: its, x, o, h => by
    simp only [mkO, List.mem_cons] at h
    rcases h with rfl | h
    · exact ⟨d, c, x.1, List.mem_cons_self, rfl⟩
    · obtain ⟨d, c, y, h1, h2⟩ := mkO_mk (its := its) (x := x.2) h
      exact ⟨d, c, y, List.mem_cons_of_mem _ h1, h2⟩
theorem mkE_mk : ∀ {its : List It} {x : inT D its} {p : Nat × SV D}, p ∈ mkE X its x → ∃ d c y, It.v d c ∈ its ∧ p.2 = Cl.mk X c y
  | [], _, _, h => by simp [mkE] at h
  | .o d c :: its, x, o, h => by
    obtain ⟨d', c', y, h1, h2⟩ := mkE_mk (its := its) (x := x.2) h
    exact ⟨d', c', y, List.mem_cons_of_mem _ h1, h2⟩
  | .u d c :: its, x, o, h => by
    obtain ⟨d', c', y, h1, h2⟩ := mkE_mk (its := its) (x := x.2) h
    exact ⟨d', c', y, List.mem_cons_of_mem _ h1, h2⟩
  | .v d c :: its, x, o, h => by
    simp only [mkE, List.mem_cons] at h
    rcases h with rfl | h
    · exact ⟨d, c, x.1, List.mem_cons_self, rfl⟩
    · obtain ⟨d', c', y, h1, h2⟩ := mkE_mk (its := its) (x := x.2) h
      exact ⟨d', c', y, List.mem_cons_of_mem _ h1, h2⟩
theorem pO_len {outs : List It} {y : inT D outs} : ∀ {i : Nat} {ks : List Nat} {O : List (Ob D)}, (pO X outs y i ks O).length = O.length
  | i, [], [] => rfl
  | i, _ :: _, [] => rfl
  | i, k :: ks, o :: O => by simp [pO, pO_len]
  | i, [], o :: O => by simp [pO, pO_len]
theorem pO_get {outs : List It} {y : inT D outs} : ∀ {i : Nat} {ks : List Nat} {O : List (Ob D)} {j : Nat} {o : Ob D}, O[j]? = some o → (pO X outs y i ks O)[j]? = some (if ks.getD j 0 = 1 then o else if ks.getD j 0 = 2 then updOf X idN outs y (i + j) else .dead)
  | i, ks, [], j, o, h => by simp at h
  | i, k :: ks, p :: O, 0, o, h => by simp at h; subst h; simp [pO]
  | i, k :: ks, p :: O, j + 1, o, h => by
    simp only [List.getElem?_cons_succ] at h
    have := pO_get (outs := outs) (y := y) (i := i + 1) (ks := ks) h
    simp only [pO, List.getElem?_cons_succ, this, List.getD_cons_succ]
    rw [Nat.add_assoc, Nat.add_comm 1 j]
  | i, [], p :: O, 0, o, h => by simp [pO]
  | i, [], p :: O, j + 1, o, h => by
    simp only [List.getElem?_cons_succ] at h
    have := pO_get (outs := outs) (y := y) (i := i + 1) (ks := []) h
    simp only [pO, List.getElem?_cons_succ, this]
    simp
theorem refsB_ok {n : Nat} {o : Ob D} (h : refsB n o = true) : ∀ i, OwnIn i o → i < n := by
  intro i hi
  cases o with
  | box t cs fz w =>
    have := List.all_eq_true.1 h _ hi
    simpa [Nat.blt_eq] using this
  | _ => exact hi.elim
theorem keptB_ok {n : Nat} : ∀ {ks : List Nat} {i j : Nat}, keptB n O i ks = true → ks.getD j 0 = 1 → ∃ o, O[i + j]? = some o ∧ o.live = true ∧ o.tch = false ∧ ∀ i, OwnIn i o → i < n
  | [], i, j, _, h => by simp at h
  | k :: ks, i, 0, hk, h => by
    simp only [keptB, Bool.and_eq_true] at hk
    simp at h
    subst h
    have h1 := hk.1
    rw [if_pos rfl] at h1
    split at h1
    · rename_i o ho
      simp only [Bool.and_eq_true, Bool.not_eq_true'] at h1
      exact ⟨o, ho, h1.1.1, h1.1.2, refsB_ok h1.2⟩
    · cases h1
  | k :: ks, i, j + 1, hk, h => by
    simp only [keptB, Bool.and_eq_true] at hk
    simp only [List.getD_cons_succ] at h
    obtain ⟨o, h1, h2⟩ := keptB_ok hk.2 h
    exact ⟨o, by rw [← h1]; congr 1; omega, h2⟩
theorem post_ofI {ins : List It} {ks : List Nat} {x : inT D ins} {xx : Ex D} {y : outT D xx.outs} {vs0 : List Value} (hi : Inv (mkO X ins x) O) (hv : ∀ (i : Nat) (u : Value), vs0[i]? = some u → vs[i]? = some u) (hl0 : vs0.length = (mkO X ins x).length)
    (hM : Mm X.G O z e m k vs) (hE : Rl X z vs E fr) (h : rdXI X vs0.length ks xx E O = some y) :
    ∃ z' nv, Zx e.next z z' ∧ Mm X.G (postO X ks (mkO X ins x) xx.outs (ofOut _ y)) z' e m k (vs0 ++ nv) ∧ ∀ p ∈ mkE X xx.outs (ofOut _ y) ++ xx.fx, rel X.G z' (vs0 ++ nv) p.2 (fr p.1) := by
  unfold rdXI at h
  split at h
  · rename_i svs O1 σ hf ha
    split at h
    · rename_i hc
      simp only [Bool.and_eq_true] at hc
      obtain ⟨⟨⟨c1, c2⟩, c3⟩, c4⟩ := hc
      split at h
      · rename_i y' hb
        cases h
        rw [of_to]
        obtain ⟨z1, g0, g1, g2, g3⟩ := frzA_ok hM hE hf
        have ox := rdB_o hb
        have hi1 := hi.trans g0
        have hnv : ∀ (j i : Nat), σ[j]? = some i → ∃ u, (σ.map fun i => vs.getD i undef)[j]? = some u ∧ vs[i]? = some u := by
          intro j i hj
          obtain ⟨q, _, o, ho, _⟩ := ox.get j i hj
          obtain ⟨v, hv, _⟩ := g2.at ho
          exact ⟨v, by rw [List.getElem?_map, hj]; simp [hv], hv⟩
        have hlen : (mkO X xx.outs y').length = σ.length := by rw [mkO_cos, List.length_map]; exact ox.length.symm
        have hcv : ∀ (j : Nat) (o : Ob D), (postO X ks (mkO X ins x) xx.outs y')[j]? = some o →
            (j < vs0.length ∧ ∃ o0, (mkO X ins x)[j]? = some o0 ∧ o = (if ks.getD j 0 = 1 then o0 else if ks.getD j 0 = 2 then updOf X idN xx.outs y' j else .dead)) ∨
            (vs0.length ≤ j ∧ (mkO X xx.outs y')[j - vs0.length]? = some o) := by
          intro j o hj
          unfold postO at hj
          by_cases hlt : j < vs0.length
          · refine .inl ⟨hlt, ?_⟩
            rw [List.getElem?_append_left (by rw [pO_len]; omega)] at hj
            have hs : (mkO X ins x)[j]? = some ((mkO X ins x)[j]'(by omega)) := List.getElem?_eq_getElem (by omega)
            have := pO_get (X := X) (outs := xx.outs) (y := y') (i := 0) (ks := ks) hs
            rw [hj] at this
            refine ⟨_, hs, ?_⟩
            have := Option.some.inj this
            rw [Nat.zero_add] at this
            exact this
          · refine .inr ⟨by omega, ?_⟩
            rw [List.getElem?_append_right (by rw [pO_len]; omega), pO_len, ← hl0] at hj
            exact hj
        have hleft : ∀ (j : Nat) (u : Value), j < vs0.length → vs[j]? = some u → (vs0 ++ σ.map fun i => vs.getD i undef)[j]? = some u := by
          intro j u hj hu
          rw [List.getElem?_append_left hj]
          have : vs0[j]? = some vs0[j] := List.getElem?_eq_getElem hj
          have := hv j _ this
          rw [hu] at this
          cases this
          exact List.getElem?_eq_getElem hj
        have hnum : ∀ (n i : Nat) (u : Value), (List.range vs0.length ++ σ)[n]? = some i → vs[i]? = some u → (vs0 ++ σ.map fun i => vs.getD i undef)[n]? = some u := by
          intro n i u hn hu
          by_cases hlt : n < vs0.length
          · rw [List.getElem?_append_left (by simpa using hlt), List.getElem?_range hlt] at hn
            cases hn
            exact hleft n u hlt hu
          · rw [List.getElem?_append_right (by simpa using hlt), List.length_range] at hn
            obtain ⟨u', h1, h2⟩ := hnv _ _ hn
            rw [hu] at h2; cases h2
            rw [List.getElem?_append_right (by omega)]
            exact h1
        refine ⟨z1, σ.map fun i => vs.getD i undef, g1, ?_, ?_⟩
        · refine g2.sel ?_ (fun j => if j < vs0.length then j else σ.getD (j - vs0.length) 0) (fun j o hj hl => ?_) (fun j o u hj hl hu => ?_) (fun i j o p hi' hj hli hlj hij => ?_)
          · unfold postO
            rw [List.length_append, List.length_append, pO_len, hlen, List.length_map, hl0]
          · rcases hcv j o hj with ⟨hlt, o0, ho0, ho⟩ | ⟨hge, ho⟩
            · simp only [if_pos hlt]
              by_cases k1 : ks.getD j 0 = 1
              · rw [if_pos k1] at ho
                subst ho
                obtain ⟨p, p1, p2, p3, p4⟩ := keptB_ok c3 k1
                rw [Nat.zero_add] at p1
                have := hi1.old j p (by omega) p1 p2 p3
                rw [ho0] at this; cases this
                obtain ⟨v, v1, v2⟩ := g2.at p1
                obtain ⟨_, c, w, _, rfl⟩ := mkO_mk (List.mem_of_getElem? ho0)
                exact ⟨_, v, p1, p2, v1, hleft j v hlt v1, OC.mkr_okC false v2 fun n _ ho u hu => hleft n u (p4 n ho) hu⟩
              · rw [if_neg k1] at ho
                by_cases k2 : ks.getD j 0 = 2
                · rw [if_pos k2] at ho
                  rcases updOf_ok (n := 0) (j := j) hb with hd | ⟨c, w, p, p1, p2, p3⟩
                  · rw [ho, hd] at hl; cases hl
                  · obtain ⟨v, v1, v2⟩ := g2.at p1
                    refine ⟨p, v, p1, OC.get_live p2, v1, hleft j v hlt v1, ?_⟩
                    rw [ho, p3]
                    exact OC.get_ok p2 v2 hnum true
                · rw [if_neg k2] at ho
                  rw [ho] at hl; cases hl
            · have hn : ¬ j < vs0.length := by omega
              simp only [if_neg hn]
              have hlt := (List.getElem?_eq_some_iff.1 ho).1
              have hs : σ[j - vs0.length]? = some (σ[j - vs0.length]'(by omega)) := List.getElem?_eq_getElem (by omega)
              obtain ⟨q, q1, p, p1, p2⟩ := ox.get _ _ hs
              rw [mkO_cos, List.getElem?_map, q1] at ho
              have ho := (Option.some.inj ho).symm
              subst ho
              obtain ⟨u, u1, u2⟩ := hnv _ _ hs
              obtain ⟨v, v1, v2⟩ := g2.at p1
              rw [u2] at v1; cases v1
              have hd : σ.getD (j - vs0.length) 0 = σ[j - vs0.length]'(by omega) := by simp [List.getD, hs]
              refine ⟨p, u, by rw [hd]; exact p1, OC.get_live p2, by rw [hd]; exact u2, ?_, ?_⟩
              · rw [List.getElem?_append_right hge]; exact u1
              · exact OC.get_ok p2 v2 hnum false
          · rcases hcv j o hj with ⟨hlt, o0, ho0, ho⟩ | ⟨hge, ho⟩
            · by_cases k1 : ks.getD j 0 = 1
              · rw [if_pos k1] at ho
                subst ho
                obtain ⟨_, c, w, _, rfl⟩ := mkO_mk (List.mem_of_getElem? ho0)
                rw [OC.mk_live] at hl; cases hl
              · rw [if_neg k1] at ho
                by_cases k2 : ks.getD j 0 = 2
                · rw [if_pos k2] at ho
                  rcases updOf_mk (X := X) (its := xx.outs) (x := y') (j := j) with hd | ⟨_, c, w, _, hd⟩
                  · rw [ho, hd]; trivial
                  · rw [ho, hd, OC.mkr_live] at hl; cases hl
                · rw [if_neg k2] at ho
                  rw [ho]; trivial
            · obtain ⟨_, c, w, _, rfl⟩ := mkO_mk (List.mem_of_getElem? ho)
              rw [OC.mk_live] at hl; cases hl
          · have dead : ∀ (i j : Nat) (o p : Ob D), i < vs0.length → vs0.length ≤ j → (postO X ks (mkO X ins x) xx.outs y')[i]? = some o → (postO X ks (mkO X ins x) xx.outs y')[j]? = some p → o.live = true → i = σ.getD (j - vs0.length) 0 → False := by
              intro i j o p hi2 hj2 ho hp hlo hij
              rcases hcv j p hp with ⟨hlt, _⟩ | ⟨_, hp'⟩
              · omega
              · have hlt := (List.getElem?_eq_some_iff.1 hp').1
                have hs : σ[j - vs0.length]? = some (σ[j - vs0.length]'(by omega)) := List.getElem?_eq_getElem (by omega)
                have hd : σ.getD (j - vs0.length) 0 = σ[j - vs0.length]'(by omega) := by simp [List.getD, hs]
                have hm : i ∈ σ := by rw [hij, hd]; exact List.getElem_mem _
                have := List.all_eq_true.1 c2 i hm
                simp only [Bool.or_eq_true] at this
                have hks : ks.getD i 0 = 0 := by
                  rcases this with h1 | h1
                  · have := Nat.le_of_ble_eq_true h1; omega
                  · exact Nat.eq_of_beq_eq_true h1
                rcases hcv i o ho with ⟨_, o0, _, ho'⟩ | ⟨hge, _⟩
                · rw [hks] at ho'
                  simp at ho'
                  rw [ho'] at hlo; cases hlo
                · omega
            by_cases h1 : i < vs0.length
            · by_cases h2 : j < vs0.length
              · simpa [h1, h2] using hij
              · simp only [if_pos h1, if_neg h2] at hij
                exact (dead i j o p h1 (by omega) hi' hj hli hij).elim
            · by_cases h2 : j < vs0.length
              · simp only [if_neg h1, if_pos h2] at hij
                exact (dead j i p o h2 (by omega) hj hi' hlj hij.symm).elim
              · simp only [if_neg h1, if_neg h2] at hij
                rcases hcv i o hi' with ⟨hlt, _⟩ | ⟨_, hi2⟩
                · omega
                · rcases hcv j p hj with ⟨hlt, _⟩ | ⟨_, hj2⟩
                  · omega
                  · have hlt1 := (List.getElem?_eq_some_iff.1 hi2).1
                    have hlt2 := (List.getElem?_eq_some_iff.1 hj2).1
                    have s1 : σ[i - vs0.length]? = some (σ.getD (i - vs0.length) 0) := by rw [List.getElem?_eq_getElem (by omega)]; simp [List.getD, List.getElem?_eq_getElem (show i - vs0.length < σ.length by omega)]
                    have s2 : σ[j - vs0.length]? = some (σ.getD (j - vs0.length) 0) := by rw [List.getElem?_eq_getElem (by omega)]; simp [List.getD, List.getElem?_eq_getElem (show j - vs0.length < σ.length by omega)]
                    rw [hij] at s1
                    have := nodupB_get c1 _ _ _ s1 s2
                    omega
        · intro p hp
          rcases List.mem_append.1 hp with hp | hp
          · refine rdB_v (fun j i u hj hu => ?_) hb g3 p hp
            by_cases hlt : j < vs0.length
            · rw [List.getElem?_append_left (by simpa using hlt)] at hj
              rw [List.getElem?_range hlt] at hj
              cases hj
              exact hleft j u hlt hu
            · rw [List.getElem?_append_right (by simpa using hlt)] at hj
              rw [List.length_range] at hj
              obtain ⟨u', h1, h2⟩ := hnv _ _ hj
              rw [hu] at h2; cases h2
              show (vs0 ++ _)[j]? = _
              rw [List.getElem?_append_right (by omega)]
              exact h1
          · have ht := List.all_eq_true.1 c4 p hp
            have := fxT_ok (X := X) (z := z1) (vs := vs) (vs' := vs0 ++ σ.map fun i => vs.getD i undef) id ht ((hE.mono g1.le fun _ _ h => h) p.1) fun j i u hj hu => by
              by_cases hlt : j < vs0.length
              · rw [List.getElem?_append_left (by simpa using hlt)] at hj
                rw [List.getElem?_range hlt] at hj
                cases hj
                exact hleft j u hlt hu
              · rw [List.getElem?_append_right (by simpa using hlt)] at hj
                rw [List.length_range] at hj
                obtain ⟨u', h1, h2⟩ := hnv _ _ hj
                rw [hu] at h2; cases h2
                show (vs0 ++ _)[j]? = _
                rw [List.getElem?_append_right (by omega)]
                exact h1
            rwa [rnS_id] at this
      · cases h
    · cases h
  · cases h
theorem post_of {ins : List It} {ks : List Nat} {x : inT D ins} {xx : Ex D} {y : outT D xx.outs} {vs0 : List Value} (hi : Inv (mkO X ins x) O) (hv : ∀ (i : Nat) (u : Value), vs0[i]? = some u → vs[i]? = some u) (hl0 : vs0.length = (mkO X ins x).length)
    (hM : Mm X.G O z e m k vs) (hE : Rl X z vs E fr) (h : rdX X vs0.length ks xx E O = some y) :
    ∃ z' nv, Zx e.next z z' ∧ Mm X.G (postO X ks (mkO X ins x) xx.outs (ofOut _ y)) z' e m k (vs0 ++ nv) ∧ ∀ p ∈ mkE X xx.outs (ofOut _ y) ++ xx.fx, rel X.G z' (vs0 ++ nv) p.2 (fr p.1) := by
  obtain ⟨vs', g1, g2, g3, g4⟩ := ownA_ok (its := xx.outs) hM hE
  unfold rdX at h
  split at h
  · rename_i O0 hf
    obtain ⟨z1, k0, k1, k2⟩ := frzB_ok g3 hf
    obtain ⟨z2, nv, q0, q1, q2⟩ := post_ofI ((hi.trans g1).trans k0) (fun i u hu => g2 i u (hv i u hu)) hl0 k2 (g4.mono k1.le fun _ _ h => h) h
    exact ⟨z2, nv, k1.trans q0, q1, q2⟩
  · cases h
end
end
end Go.AM
end
section
set_option linter.unusedSimpArgs false
set_option linter.unusedVariables false
namespace Go.AM
structure PD (D : Nat → Type) where
  path : List Nat
  ins : List It
  fx : List (Nat × SV D)
  ks : List Nat
  exs : List (Ex D)
  keep : List Nat
noncomputable section
section
variable {P : Program} {D : Nat → Type}
def PD.F (p : PD D) : Type := inT D p.ins → Option (sumT p.exs)
def nO : List It → Nat
  | [] => 0
  | .o _ _ :: its => nO its + 1
  | _ :: its => nO its
def simpS : SV D → Bool
  | .c (.own _) | .box _ _ | .arr _ | .c .nilS | .c .nilP | .c .nilM | .undef | .un | .c (.int _ _) | .c (.bool _) | .fn _ [] => true
  | _ => false
def refS : SV D → Option Nat
  | .c (.own j) | .box j _ | .arr j => some j
  | _ => none
def fxOk (n : Nat) (ks : List Nat) (s : SV D) : Bool := simpS s && match refS s with | some j => Nat.ble n j || !Nat.beq (ks.getD j 0) 0 | none => true
def posOf : List Nat → Nat → Option Nat
  | [], _ => none
  | a :: σ, i => if Nat.beq a i = true then some 0 else (match posOf σ i with | some j => some (j + 1) | none => none)
variable (X : Ev P D)
def turnO (τ : Nat → Nat) (σ ks : List Nat) (outs : List It) (y : inT D outs) : Nat → List (Ob D) → List (Ob D)
  | _, [] => []
  | i, o :: O => (match posOf σ i with | some j => (if ks.getD j 0 = 1 then o else if ks.getD j 0 = 2 then updOf X τ outs y j else .dead) | none => if o.live = true then .dead else o) :: turnO τ σ ks outs y (i + 1) O
def mkOr (τ : Nat → Nat) : (its : List It) → inT D its → List (Ob D)
  | [], _ => []
  | .o _ c :: its, x => OC.mkr X τ c x.1 false :: mkOr τ its x.2
  | .v _ _ :: its, x => mkOr τ its x.2
  | .u _ _ :: its, x => mkOr τ its x.2
def num (σ : List Nat) (n N : Nat) (j : Nat) : Nat := if Nat.blt j n = true then σ.getD j 0 else N + (j - n)
def actE (p : PD D) (σ : List Nat) (N : Nat) (xx : Ex D) (y : inT D xx.outs) (E : List (Nat × SV D)) : List (Nat × SV D) :=
  mkE X xx.outs y ++ ((xx.fx.map fun q => (q.1, rnS (num σ (nO p.ins) N) q.2)) ++ p.keep.map fun d => (d, lkE E d))
def actO (p : PD D) (σ : List Nat) (O2 : List (Ob D)) (xx : Ex D) (y : inT D xx.outs) : List (Ob D) := turnO X (num σ (nO p.ins) O2.length) σ p.ks xx.outs y 0 O2 ++ mkOr X (num σ (nO p.ins) O2.length) xx.outs y
def PD.runI (p : PD D) (F : p.F) (E : List (Nat × SV D)) (O : List (Ob D)) {ρ : Type} (K : AExit → List (Nat × SV D) → List (Ob D) → Option ρ) : Option ρ :=
  match rdIn X p.ins p.fx E O with
  | some (x, σ, O2) => Option.bind (F x) fun res => atEx p.exs res fun xx y => K xx.ex (actE X p σ O2.length xx (ofOut _ y) E) (actO X p σ O2 xx (ofOut _ y))
  | none => none
def PD.run (p : PD D) (F : p.F) (E : List (Nat × SV D)) (O : List (Ob D)) {ρ : Type} (K : AExit → List (Nat × SV D) → List (Ob D) → Option ρ) : Option ρ := p.runI X F (ownA p.ins E O).1 (ownA p.ins E O).2 K
def PD.pc (p : PD D) (F : p.F) : Pc D where
  path := p.path
  fits := fun E O => (rdIn X p.ins p.fx (ownA p.ins E O).1 (ownA p.ins E O).2).isSome
  run := fun E O {_} K => p.run X F E O K
def okN (n : Nat) (ks : List Nat) (r : Nat) : Bool := Nat.ble n r || !Nat.beq (ks.getD r 0) 0
def kInsOk (n : Nat) (ks : List Nat) : Nat → List It → Bool
  | _, [] => true
  | j, .o _ c :: its => (!Nat.beq (ks.getD j 0) 1 || c.nums.all (okN n ks)) && kInsOk n ks (j + 1) its
  | j, _ :: its => kInsOk n ks j its
def PD.chk (B : Code) (p : PD D) : Bool := ((p.exs.all fun xx => xx.outs.all fun i => i.nc && i.nums.all (okN (nO p.ins) p.ks)) && kInsOk (nO p.ins) p.ks 0 p.ins) && (p.exs.all (fun xx => xx.fx.all fun q => fxOk (nO p.ins) p.ks q.2) && p.keep.all fun d => !(writes (sub B p.path)).contains d)
def lpOk : Nat → List Nat → List Nat → List (Ob D) → Bool
  | _, [], _, _ => true
  | j, k :: ks, σ, O => (if k = 0 then true else optB (σ[j]?) j && (if k = 1 then (match O[j]? with | some o => !o.tch | none => false) else true)) && lpOk (j + 1) ks σ O
def loopK (p : PD D) (F : p.F) (ex : AExit) (E : List (Nat × SV D)) (O : List (Ob D)) : Option (sumT p.exs) :=
  if ex = .normal then
    match rdIn X p.ins p.fx (ownA p.ins E O).1 (ownA p.ins E O).2 with
    | some (x, σ, O2) => if lpOk 0 p.ks σ O2 = true then F x else none
    | none => none
  else rdEx X (nO p.ins) p.ks p.exs ex E O
end
section
variable {P : Program} {D : Nat → Type} {X : Ev P D} {z z' : Nat → Blk} {e m m' : Mem} {k : Option Nat} {vs vs' : List Value} {fr : Nat → Value} {E : List (Nat × SV D)} {O O' : List (Ob D)}
theorem okN_ok {n : Nat} {ks : List Nat} {r : Nat} (h : okN n ks r = true) : n ≤ r ∨ ks.getD r 0 ≠ 0 := by
  simp only [okN, Bool.or_eq_true, Bool.not_eq_true'] at h
  rcases h with h | h
  · exact .inl (Nat.le_of_ble_eq_true h)
  · refine .inr fun hh => ?_
    rw [hh] at h; cases h
theorem kInsOk_ok {n : Nat} {ks : List Nat} : ∀ {its : List It} {x : inT D its} {i j : Nat} {q : CO D}, kInsOk n ks i its = true → (cos its x)[j]? = some q → ks.getD (i + j) 0 = 1 → ∀ r ∈ q.c.nums, n ≤ r ∨ ks.getD r 0 ≠ 0
  | [], _, _, _, _, _, h, _ => by simp [cos] at h
  | .v d c :: its, x, i, j, q, hk, h, h1 => kInsOk_ok (its := its) (x := x.2) hk h h1
  | .u d c :: its, x, i, j, q, hk, h, h1 => kInsOk_ok (its := its) (x := x.2) hk h h1
  | .o d c :: its, x, i, 0, q, hk, h, h1 => by
    simp only [cos, List.getElem?_cons_zero] at h
    cases h
    simp only [kInsOk, Bool.and_eq_true] at hk
    intro r hr
    have h2 := hk.1
    rw [Nat.add_zero] at h1
    rw [h1] at h2
    exact okN_ok (List.all_eq_true.1 (by simpa using h2) r hr)
  | .o d c :: its, x, i, j + 1, q, hk, h, h1 => by
    simp only [cos, List.getElem?_cons_succ] at h
    simp only [kInsOk, Bool.and_eq_true] at hk
    exact kInsOk_ok (its := its) (x := x.2) hk.2 h (by rw [← h1]; congr 1; omega)
theorem ownG_ext {τ τ' : Nat → Nat} {l : List (Nat × Nat)} (h : ∀ p ∈ l, τ p.2 = τ' p.2) : ∀ {cs : List (CV D)} {i : Nat}, ownG τ l i cs = ownG τ' l i cs
  | [], _ => rfl
  | c :: cs, i => by
    simp only [ownG, ownG_ext h (cs := cs)]
    congr 1
    cases hf : fndN l i with
    | none => rfl
    | some n => simp only; rw [h _ (fndN_mem hf)]
theorem mkr_ext {τ τ' : Nat → Nat} {c : OC} {x : c.ty D} {w : Bool} (h : ∀ r ∈ c.nums, τ r = τ' r) : OC.mkr X τ c x w = OC.mkr X τ' c x w := by
  cases c with
  | bx t l =>
    simp only [OC.mkr]
    rw [ownG_ext fun p hp => h p.2 (List.mem_map.2 ⟨p, hp, rfl⟩)]
  | _ => rfl
theorem mkOr_cos {τ : Nat → Nat} : ∀ {its : List It} {x : inT D its}, mkOr X τ its x = (cos its x).map fun q => OC.mkr X τ q.c q.x false
  | [], _ => rfl
  | .o d c :: its, x => by
    show OC.mkr X τ c x.1 false :: mkOr X τ its x.2 = OC.mkr X τ c x.1 false :: (cos its x.2).map _
    rw [mkOr_cos]
  | .v d c :: its, x => mkOr_cos (its := its)
  | .u d c :: its, x => mkOr_cos (its := its)
theorem mkO_len : ∀ {its : List It} {x : inT D its}, (mkO X its x).length = nO its
  | [], _ => rfl
  | .v _ _ :: its, x => mkO_len (its := its)
  | .u _ _ :: its, x => mkO_len (its := its)
  | .o _ _ :: its, x => by
    show ((mkO X its x.2).length + 1) = nO its + 1
    rw [mkO_len]
def PostC (X : Ev P D) (p : PD D) (x : inT D p.ins) (res : sumT p.exs) (z : Nat → Blk) (e : Mem) (k : Option Nat) (vs0 : List Value) (ex : AExit) (fr' : Nat → Value) (m' : Mem) : Prop :=
  ∃ z' nv xx y, xx ∈ p.exs ∧ ex = xx.ex ∧ (∀ {α : Type} (K : (x : Ex D) → outT D x.outs → α), atEx p.exs res K = K xx y) ∧ Zx e.next z z' ∧
    Mm X.G (postO X p.ks (mkO X p.ins x) xx.outs (ofOut _ y)) z' e m' k (vs0 ++ nv) ∧ ∀ q ∈ mkE X xx.outs (ofOut _ y) ++ xx.fx, rel X.G z' (vs0 ++ nv) q.2 (fr' q.1)
def CCn (ν : AExit → AExit) (X : Ev P D) (B : Code) (p : PD D) (F : p.F) : Prop := ∀ (x : inT D p.ins) (res : sumT p.exs) {z : Nat → Blk} {e m : Mem} {k : Option Nat} {vs0 : List Value} {fr : Nat → Value},
  F x = some res → Mm X.G (mkO X p.ins x) z e m k vs0 → Rl X z vs0 (mkE X p.ins x ++ p.fx) fr → W P (sub B p.path) (fun ex => PostC X p x res z e k vs0 (ν ex)) fr m
def CC (X : Ev P D) (B : Code) (p : PD D) (F : p.F) : Prop := ∀ (x : inT D p.ins) (res : sumT p.exs) {z : Nat → Blk} {e m : Mem} {k : Option Nat} {vs0 : List Value} {fr : Nat → Value},
  F x = some res → Mm X.G (mkO X p.ins x) z e m k vs0 → Rl X z vs0 (mkE X p.ins x ++ p.fx) fr → W P (sub B p.path) (PostC X p x res z e k vs0) fr m
theorem CCn.of {ν : AExit → AExit} (hC : COk X) {B : Code} {us : List (Pc D)} {p : PD D} {F : p.F} (hus : ∀ u ∈ us, p.path.length < u.path.length → PcOk X B u)
    (heq : ∀ x, exC X us calm true p.path.reverse (sub B p.path) (mkE X p.ins x ++ p.fx) (mkO X p.ins x) (fun ex => rdEx X (nO p.ins) p.ks p.exs (ν ex)) = F x) : CCn ν X B p F := by
  intro x res z e m k vs0 fr hF hM hE
  have h := heq x
  rw [hF] at h
  have hn : vs0.length = nO p.ins := by rw [hM.len, mkO_len]
  refine (exC_ok hC (L := p.path.length) hus (sub B p.path) true p.path.reverse _ _ _ res (by rw [List.reverse_reverse]) (by simp) (by simp) hM hE h).mono ?_
  rintro ex fr1 m1 ⟨z1, vs1, E1, O1, h0, h1, h2, h3, h4, h5⟩
  obtain ⟨xx, y, g1, g2, g3, g4⟩ := rdEx_some h5
  obtain ⟨z2, nv, k1, k2, k3⟩ := post_of (ks := p.ks) (x := x) h0 h2 hM.len h3 h4 (by rw [hn]; exact g3)
  exact ⟨z2, nv, xx, y, g1, g2, g4, h1.trans k1, k2, k3⟩
theorem CC.of (hC : COk X) {B : Code} {us : List (Pc D)} {p : PD D} {F : p.F} (hus : ∀ u ∈ us, p.path.length < u.path.length → PcOk X B u)
    (heq : ∀ x, exC X us calm true p.path.reverse (sub B p.path) (mkE X p.ins x ++ p.fx) (mkO X p.ins x) (rdEx X (nO p.ins) p.ks p.exs) = F x) : CC X B p F := by
  intro x res z e m k vs0 fr hF hM hE
  have h := heq x
  rw [hF] at h
  have hn : vs0.length = nO p.ins := by rw [hM.len, mkO_len]
  refine (exC_ok hC (L := p.path.length) hus (sub B p.path) true p.path.reverse _ _ _ res (by rw [List.reverse_reverse]) (by simp) (by simp) hM hE h).mono ?_
  rintro ex fr1 m1 ⟨z1, vs1, E1, O1, h0, h1, h2, h3, h4, h5⟩
  obtain ⟨xx, y, g1, g2, g3, g4⟩ := rdEx_some h5
  obtain ⟨z2, nv, k1, k2, k3⟩ := post_of (ks := p.ks) (x := x) h0 h2 hM.len h3 h4 (by rw [hn]; exact g3)
  exact ⟨z2, nv, xx, y, g1, g2, g4, h1.trans k1, k2, k3⟩
theorem rn_ok {s : SV D} {v : Value} {τ : Nat → Nat} (h : simpS s = true) (hr : rel X.G z vs s v) (hv : ∀ (j : Nat) (u : Value), refS s = some j → vs[j]? = some u → vs'[τ j]? = some u) : rel X.G z vs' (rnS τ s) v := by
  unfold simpS at h
  split at h
  · exact ⟨hv _ _ rfl hr.1, hr.2⟩
  · obtain ⟨b, h1, h2⟩ := hr; exact ⟨b, hv _ _ rfl h1, h2⟩
  · obtain ⟨b, l, h1, h2⟩ := hr; exact ⟨b, l, hv _ _ rfl h1, h2⟩
  · exact hr
  · exact hr
  · exact hr
  · exact hr
  · exact hr
  · exact hr
  · exact hr
  · obtain ⟨gs, h1, h2⟩ := hr
    refine ⟨gs, h1, ?_⟩
    cases gs with
    | nil => trivial
    | cons _ _ => exact h2.elim
  · cases h
theorem fxOk_ok {n : Nat} {ks : List Nat} {s : SV D} (h : fxOk n ks s = true) : simpS s = true ∧ ∀ j, refS s = some j → n ≤ j ∨ ks.getD j 0 ≠ 0 := by
  simp only [fxOk, Bool.and_eq_true] at h
  refine ⟨h.1, fun j hj => ?_⟩
  have h2 := h.2
  rw [hj] at h2
  simp only [Bool.or_eq_true, Bool.not_eq_true'] at h2
  rcases h2 with h2 | h2
  · exact .inl (Nat.le_of_ble_eq_true h2)
  · refine .inr fun hh => ?_
    rw [hh] at h2; cases h2
theorem lpOk_ok : ∀ {ks : List Nat} {i j : Nat} {σ : List Nat}, lpOk i ks σ O = true → ks.getD j 0 ≠ 0 → σ[i + j]? = some (i + j) ∧ (ks.getD j 0 = 1 → ∃ o, O[i + j]? = some o ∧ o.tch = false)
  | [], i, j, σ, _, h => by simp at h
  | k :: ks, i, 0, σ, hk, h => by
    simp only [lpOk, Bool.and_eq_true] at hk
    simp only [List.getD_cons_zero] at h ⊢
    have h1 := hk.1
    rw [if_neg h] at h1
    simp only [Bool.and_eq_true] at h1
    refine ⟨optB_eq h1.1, fun k1 => ?_⟩
    have h2 := h1.2
    rw [if_pos k1] at h2
    split at h2
    · rename_i o ho
      exact ⟨o, ho, by simpa using h2⟩
    · cases h2
  | k :: ks, i, j + 1, σ, hk, h => by
    simp only [lpOk, Bool.and_eq_true] at hk
    simp only [List.getD_cons_succ] at h ⊢
    have := lpOk_ok hk.2 h
    rw [show i + (j + 1) = i + 1 + j by omega]
    exact this
theorem pO_eq {outs : List It} {y : inT D outs} {ks : List Nat} {A B : List (Ob D)} (hl : A.length = B.length) (h : ∀ j, ks.getD j 0 = 1 → A[j]? = B[j]?) : pO X outs y 0 ks A = pO X outs y 0 ks B := by
  apply List.ext_getElem?
  intro j
  by_cases hj : j < A.length
  · have a : A[j]? = some A[j] := List.getElem?_eq_getElem hj
    have b : B[j]? = some (B[j]'(by omega)) := List.getElem?_eq_getElem (by omega)
    rw [pO_get a, pO_get b]
    by_cases k1 : ks.getD j 0 = 1
    · have e := h j k1
      rw [a, b] at e
      rw [if_pos k1, if_pos k1, Option.some.inj e]
    · rw [if_neg k1, if_neg k1]
  · rw [List.getElem?_eq_none (by rw [pO_len]; omega), List.getElem?_eq_none (by rw [pO_len]; omega)]
theorem CC.loop (hC : COk X) {B c : Code} {us : List (Pc D)} {p : PD D} {F : Nat → p.F} (hB : sub B p.path = .loop c) (hk : p.chk B = true) (hus : ∀ u ∈ us, p.path.length + 1 < u.path.length → PcOk X B u) (h0 : ∀ x, F 0 x = none)
    (heq : ∀ n x, exC X us calm true (0 :: p.path.reverse) c (mkE X p.ins x ++ p.fx) (mkO X p.ins x) (loopK X p (F n)) = F (n + 1) x) : ∀ n, CC X B p (F n) := by
  intro n
  induction n with
  | zero => intro x res z e m k vs0 fr hF; rw [h0] at hF; cases hF
  | succ n ih =>
    intro x res z e m k vs0 fr hF hM hE
    have h := heq n x
    rw [hF] at h
    rw [hB]
    have hn : vs0.length = nO p.ins := by rw [hM.len, mkO_len]
    refine W.loop1 ((exC_ok hC (L := p.path.length + 1) hus c true (0 :: p.path.reverse) _ _ _ res (by rw [List.reverse_cons, List.reverse_reverse, ← sub_app, hB]; exact sub_nil c) (by simp) (by simp) hM hE h).mono ?_)
    rintro ex fr1 m1 ⟨z1, vs1, E1, O1, h0, h1, h2, h3, h4, h5⟩
    have other : rdEx X (nO p.ins) p.ks p.exs ex E1 O1 = some res → PostC X p x res z e k vs0 ex fr1 m1 := by
      intro h5
      obtain ⟨xx, y, g1, g2, g3, g4⟩ := rdEx_some h5
      obtain ⟨z2, nv, k1, k2, k3⟩ := post_of (ks := p.ks) (x := x) h0 h2 hM.len h3 h4 (by rw [hn]; exact g3)
      exact ⟨z2, nv, xx, y, g1, g2, g4, h1.trans k1, k2, k3⟩
    cases ex with
    | exit i => exact other h5
    | ret => exact other h5
    | normal =>
      show W P (.loop c) _ fr1 m1
      have h5 : (match rdIn X p.ins p.fx (ownA p.ins E1 O1).1 (ownA p.ins E1 O1).2 with
        | some (x, σ, O2) => if lpOk 0 p.ks σ O2 = true then F n x else none
        | none => none) = some res := h5
      split at h5
      · rename_i x' σ O2 hr
        obtain ⟨hlp, hF'⟩ := ite_some h5
        obtain ⟨vs1', w1, w2, w3, w4⟩ := ownA_ok (its := p.ins) h3 h4
        obtain ⟨z2, vs2, i1, i2, en⟩ := entry w3 w4 hr
        have i1 := w1.trans i1
        have h2 : ∀ (i : Nat) (u : Value), vs0[i]? = some u → vs1'[i]? = some u := fun i u hu => w2 i u (h2 i u hu)
        have hgo := ih x' res hF' en.mm0 en.rl
        rw [hB] at hgo
        refine hgo.mono ?_
        rintro ex fr2 m2 ⟨z3, nv, xx, y, g1, g2, g3, g4, g5, g6⟩
        have same : ∀ j, p.ks.getD j 0 ≠ 0 → ∀ u, vs2[j]? = some u → vs0[j]? = some u := by
          intro j hj u hu
          obtain ⟨s1, _⟩ := lpOk_ok hlp hj
          rw [Nat.zero_add] at s1
          obtain ⟨u', t1, t2⟩ := en.nv _ _ s1
          rw [hu] at t1; cases t1
          have hlt : j < vs0.length := by
            have := (List.getElem?_eq_some_iff.1 hu).1
            rw [en.len, en.oy.length, ← List.length_map (f := fun q => OC.mk X q.c q.x false), ← mkO_cos, mkO_len] at this
            omega
          have := h2 j _ (List.getElem?_eq_getElem hlt)
          rw [t2] at this; cases this
          exact List.getElem?_eq_getElem hlt
        have hl2 : vs2.length = vs0.length := by rw [en.len, en.oy.length, ← List.length_map (f := fun q => OC.mk X q.c q.x false), ← mkO_cos, mkO_len, hn]
        have same' : ∀ (j : Nat) (u : Value), nO p.ins ≤ j ∨ p.ks.getD j 0 ≠ 0 → (vs2 ++ nv)[j]? = some u → (vs0 ++ nv)[j]? = some u := by
          intro j u hj hu
          by_cases hlt : j < vs0.length
          · rw [List.getElem?_append_left (by omega)] at hu ⊢
            rcases hj with hj | hj
            · omega
            · exact same j hj u hu
          · rw [List.getElem?_append_right (by omega)] at hu ⊢
            rw [hl2] at hu; exact hu
        have hk0 := hk
        simp only [PD.chk, Bool.and_eq_true] at hk0
        have hko := hk0.1.1
        have hki := hk0.1.2
        have hpo : pO X xx.outs (ofOut _ y) 0 p.ks (mkO X p.ins x') = pO X xx.outs (ofOut _ y) 0 p.ks (mkO X p.ins x) := by
          refine pO_eq (by rw [mkO_len, mkO_len]) fun j hj => ?_
          obtain ⟨s1, s2⟩ := lpOk_ok hlp (show p.ks.getD j 0 ≠ 0 by rw [hj]; simp)
          obtain ⟨o, o1, o2⟩ := s2 hj
          rw [Nat.zero_add] at s1 o1
          obtain ⟨q, q1, w, q2⟩ := en.oy.get j j s1
          rw [o1] at q2
          have q2 := Option.some.inj q2
          subst q2
          rw [OC.mkr_tch] at o2
          subst o2
          have q1' : (mkO X p.ins x')[j]? = some (OC.mk X q.c q.x false) := by rw [mkO_cos, List.getElem?_map, q1]; rfl
          have hjl : j < (mkO X p.ins x).length := by rw [mkO_len, ← mkO_len (X := X) (x := x')]; exact (List.getElem?_eq_some_iff.1 q1').1
          have old := (h0.trans i1).old j _ hjl o1 OC.mkr_live OC.mkr_tch
          rw [q1', old]
          refine congrArg some (mkr_ext fun r hr => ?_)
          obtain ⟨ir, hir⟩ := en.gt q (List.mem_of_getElem? q1) r hr
          have hrl : r < nO p.ins := by
            have := (List.getElem?_eq_some_iff.1 hir).1
            rw [en.oy.length, ← List.length_map (f := fun q => OC.mk X q.c q.x false), ← mkO_cos, mkO_len] at this
            exact this
          rcases kInsOk_ok (i := 0) hki q1 (by rw [Nat.zero_add]; exact hj) r hr with h | h
          · omega
          · obtain ⟨s3, _⟩ := lpOk_ok hlp h
            rw [Nat.zero_add] at s3
            simp [List.getD, s3]
        have hfx : ∀ q ∈ xx.fx, fxOk (nO p.ins) p.ks q.2 = true := by
          exact fun q hq => List.all_eq_true.1 (List.all_eq_true.1 hk0.2.1 xx g1) q hq
        have hout : ∀ i ∈ xx.outs, ∀ r ∈ i.nums, nO p.ins ≤ r ∨ p.ks.getD r 0 ≠ 0 := fun i hi r hr => okN_ok (List.all_eq_true.1 (Bool.and_eq_true_iff.1 (List.all_eq_true.1 (List.all_eq_true.1 hko xx g1) i hi)).2 r hr)
        refine ⟨z3, nv, xx, y, g1, g2, g3, (h1.trans i2).trans g4, ?_, fun q hq => ?_⟩
        · have hpost : postO X p.ks (mkO X p.ins x') xx.outs (ofOut _ y) = postO X p.ks (mkO X p.ins x) xx.outs (ofOut _ y) := by rw [postO, postO, hpo]
          rw [hpost] at g5
          have key : ∀ (i : Nat) (o : Ob D), (postO X p.ks (mkO X p.ins x) xx.outs (ofOut _ y))[i]? = some o → o.live = true → (nO p.ins ≤ i ∨ p.ks.getD i 0 ≠ 0) := by
            intro i o ho hl
            by_cases hlt : i < nO p.ins
            · refine .inr fun hks => ?_
              unfold postO at ho
              rw [List.getElem?_append_left (by rw [pO_len, mkO_len]; exact hlt)] at ho
              have hs : (mkO X p.ins x)[i]? = some ((mkO X p.ins x)[i]'(by rw [mkO_len]; exact hlt)) := List.getElem?_eq_getElem _
              rw [pO_get hs, hks] at ho
              simp at ho
              subst ho; cases hl
            · exact .inl (by omega)
          have mk : ∀ (i : Nat) (o : Ob D), (postO X p.ks (mkO X p.ins x) xx.outs (ofOut _ y))[i]? = some o → o = .dead ∨ ∃ c a w, o = OC.mk X c a w ∧ ∀ r ∈ c.nums, nO p.ins ≤ r ∨ p.ks.getD r 0 ≠ 0 := by
            intro i o ho
            unfold postO at ho
            by_cases hlt : i < nO p.ins
            · rw [List.getElem?_append_left (by rw [pO_len, mkO_len]; exact hlt)] at ho
              have hs : (mkO X p.ins x)[i]? = some ((mkO X p.ins x)[i]'(by rw [mkO_len]; exact hlt)) := List.getElem?_eq_getElem _
              rw [pO_get hs] at ho
              have ho := (Option.some.inj ho).symm
              by_cases k1 : p.ks.getD i 0 = 1
              · rw [if_pos k1] at ho
                have hs' : (mkO X p.ins x)[i]? = some o := by rw [ho]; exact hs
                rw [mkO_cos, List.getElem?_map] at hs'
                obtain ⟨q, hq, he⟩ := Option.map_eq_some_iff.1 hs'
                exact .inr ⟨q.c, q.x, false, he.symm, kInsOk_ok (i := 0) hki hq (by rw [Nat.zero_add]; exact k1)⟩
              · rw [if_neg k1] at ho
                by_cases k2 : p.ks.getD i 0 = 2
                · rw [if_pos k2] at ho
                  rcases updOf_mk (X := X) (its := xx.outs) (x := ofOut _ y) (j := 0 + i) with hd | ⟨d, c, a, hd, he⟩
                  · exact .inl (by rw [ho, hd])
                  · exact .inr ⟨c, a, true, by rw [ho, he]; rfl, hout _ hd⟩
                · rw [if_neg k2] at ho; exact .inl ho
            · rw [List.getElem?_append_right (by rw [pO_len, mkO_len]; omega)] at ho
              obtain ⟨d, c, a, hd, hh⟩ := mkO_mk (List.mem_of_getElem? ho)
              exact .inr ⟨c, a, false, hh, hout _ hd⟩
          refine g5.sel (by rw [← g5.len]; simp [hl2]) id (fun i o ho hl => ?_) (fun i o u ho hl hu => ?_) (fun i j _ _ _ _ _ _ h => h)
          · obtain ⟨v, v1, v2⟩ := g5.at ho
            refine ⟨o, v, ho, hl, v1, same' i v (key i o ho hl) v1, ?_⟩
            rcases mk i o ho with rfl | ⟨c, a, w, rfl, hr⟩
            · trivial
            · exact OC.mkr_ok w v2 fun r hr' u hu => same' r u (hr r hr') hu
          · rcases mk i o ho with rfl | ⟨c, a, w, rfl, _⟩
            · trivial
            · rw [OC.mk_live] at hl; cases hl
        · have hr := g6 q hq
          rcases List.mem_append.1 hq with hq | hq
          · obtain ⟨d, c, a, hd, hc⟩ := mkE_mk hq
            rw [hc] at hr ⊢
            exact Cl.mk_vs (Bool.and_eq_true_iff.1 (List.all_eq_true.1 (List.all_eq_true.1 hko xx g1) _ hd)).1 hr
          · obtain ⟨s1, s2⟩ := fxOk_ok (hfx q hq)
            have := rn_ok (X := X) (τ := id) (vs' := vs0 ++ nv) s1 hr fun j u hj hu => same' j u (s2 j hj) hu
            rwa [rnS_id] at this
      · cases h5
theorem posOf_some : ∀ {σ : List Nat} {i j : Nat}, posOf σ i = some j → σ[j]? = some i
  | [], _, _, h => by cases h
  | a :: σ, i, j, h => by
    simp only [posOf] at h
    split at h
    · rename_i ha
      cases h
      rw [Nat.eq_of_beq_eq_true ha]; rfl
    · split at h
      · rename_i j' hj
        cases h
        rw [List.getElem?_cons_succ]
        exact posOf_some hj
      · cases h
theorem posOf_of {σ : List Nat} (hn : nodupB σ = true) {i j : Nat} (h : σ[j]? = some i) : posOf σ i = some j := by
  cases hp : posOf σ i with
  | some a => rw [nodupB_get hn a j i (posOf_some hp) h]
  | none =>
    exfalso
    have : ∀ {σ : List Nat} {j : Nat}, posOf σ i = none → σ[j]? ≠ some i := by
      intro σ
      induction σ with
      | nil => intro j _ h; simp at h
      | cons a σ ih =>
        intro j hp h
        simp only [posOf] at hp
        split at hp
        · cases hp
        · rename_i ha
          split at hp
          · cases hp
          · rename_i hq
            cases j with
            | zero => simp at h; subst h; simp at ha
            | succ j => rw [List.getElem?_cons_succ] at h; exact ih hq h
    exact this hp h
theorem turnO_len {τ : Nat → Nat} {σ ks : List Nat} {outs : List It} {y : inT D outs} : ∀ {i : Nat} {O : List (Ob D)}, (turnO X τ σ ks outs y i O).length = O.length
  | i, [] => rfl
  | i, o :: O => by simp [turnO, turnO_len]
theorem turnO_get {τ : Nat → Nat} {σ ks : List Nat} {outs : List It} {y : inT D outs} : ∀ {i : Nat} {O : List (Ob D)} {a : Nat} {o : Ob D}, O[a]? = some o → (turnO X τ σ ks outs y i O)[a]? = some (match posOf σ (i + a) with | some j => (if ks.getD j 0 = 1 then o else if ks.getD j 0 = 2 then updOf X τ outs y j else .dead) | none => if o.live = true then .dead else o)
  | i, [], a, o, h => by simp at h
  | i, p :: O, 0, o, h => by simp at h; subst h; simp [turnO]
  | i, p :: O, a + 1, o, h => by
    simp only [List.getElem?_cons_succ] at h
    have := turnO_get (τ := τ) (σ := σ) (ks := ks) (outs := outs) (y := y) (i := i + 1) h
    simp only [turnO, List.getElem?_cons_succ, this]
    rw [show i + (a + 1) = i + 1 + a by omega]
theorem CCn.pcI {ν : AExit → AExit} {B : Code} {p : PD D} {F : p.F} (h : CCn ν X B p F) (hk : p.chk B = true) {ρ : Type} (E : List (Nat × SV D)) (O : List (Ob D)) (K : AExit → List (Nat × SV D) → List (Ob D) → Option ρ) (r : ρ) {z : Nat → Blk} {e m : Mem} {k : Option Nat} {vs : List Value} {fr : Nat → Value}
    (hM : Mm X.G O z e m k vs) (hE : Rl X z vs E fr) (hr : p.runI X F E O K = some r) : W P (sub B p.path) (fun x => Nx X O z e k vs (K (ν x)) r) fr m := by
  unfold PD.runI at hr
  split at hr
  · rename_i x σ O2 hi
    obtain ⟨res, hF, hr⟩ := bind_some hr
    obtain ⟨z1, vs0, i1, i2, en⟩ := entry hM hE hi
    simp only [PD.chk, Bool.and_eq_true] at hk
    have hn : σ.length = nO p.ins := by rw [← mkO_len (X := X) (x := x), mkO_cos, List.length_map]; exact en.oy.length
    have hn0 : vs0.length = nO p.ins := by rw [en.len, hn]
    refine (h x res hF en.mm0 en.rl).keep ?_
    rintro ex fr1 m1 hkeep ⟨z2, nv, xx, y, g1, g2, g3, g4, g5, g6⟩
    rw [g3] at hr
    rw [g2]
    have hnl : nv.length = (mkO X xx.outs (ofOut _ y)).length := by
      have := g5.len
      unfold postO at this
      rw [List.length_append, List.length_append, pO_len, mkO_len] at this
      omega
    have hN : vs.length = O2.length := en.mm.len
    have hext : ∀ (i : Nat) (u : Value), vs[i]? = some u → (vs ++ nv)[i]? = some u := ext_get
    have hnum : ∀ (j : Nat) (u : Value), (vs0 ++ nv)[j]? = some u → (vs ++ nv)[num σ (nO p.ins) O2.length j]? = some u := by
      intro j u hu
      unfold num
      by_cases hlt : j < nO p.ins
      · have hb : Nat.blt j (nO p.ins) = true := by simpa [Nat.blt_eq] using hlt
        rw [if_pos hb]
        rw [List.getElem?_append_left (by omega)] at hu
        have hs : σ[j]? = some (σ.getD j 0) := by rw [List.getElem?_eq_getElem (by omega)]; simp [List.getD, List.getElem?_eq_getElem (show j < σ.length by omega)]
        obtain ⟨u', t1, t2⟩ := en.nv _ _ hs
        rw [hu] at t1; cases t1
        exact hext _ _ t2
      · have hb : ¬ Nat.blt j (nO p.ins) = true := by simpa [Nat.blt_eq] using hlt
        rw [if_neg hb]
        rw [List.getElem?_append_right (by omega), hn0] at hu
        rw [List.getElem?_append_right (by omega), hN]
        rw [show O2.length + (j - nO p.ins) - O2.length = j - nO p.ins by omega]
        exact hu
    -- the objects
    have hcv : ∀ (i : Nat) (o : Ob D), (actO X p σ O2 xx (ofOut _ y))[i]? = some o →
        (i < O2.length ∧ ∃ o2, O2[i]? = some o2 ∧ o = (match posOf σ i with | some j => (if p.ks.getD j 0 = 1 then o2 else if p.ks.getD j 0 = 2 then updOf X (num σ (nO p.ins) O2.length) xx.outs (ofOut _ y) j else .dead) | none => if o2.live = true then .dead else o2)) ∨
        (O2.length ≤ i ∧ (mkOr X (num σ (nO p.ins) O2.length) xx.outs (ofOut _ y))[i - O2.length]? = some o) := by
      intro i o ho
      unfold actO at ho
      by_cases hlt : i < O2.length
      · refine .inl ⟨hlt, ?_⟩
        rw [List.getElem?_append_left (by rw [turnO_len]; exact hlt)] at ho
        have hs : O2[i]? = some O2[i] := List.getElem?_eq_getElem hlt
        rw [turnO_get hs, Nat.zero_add] at ho
        exact ⟨_, hs, (Option.some.inj ho).symm⟩
      · refine .inr ⟨by omega, ?_⟩
        rw [List.getElem?_append_right (by rw [turnO_len]; omega), turnO_len] at ho
        exact ho
    have hpost : ∀ (j : Nat) (o0 : Ob D), (mkO X p.ins x)[j]? = some o0 → (postO X p.ks (mkO X p.ins x) xx.outs (ofOut _ y))[j]? = some (if p.ks.getD j 0 = 1 then o0 else if p.ks.getD j 0 = 2 then updOf X idN xx.outs (ofOut _ y) j else .dead) := by
      intro j o0 hj
      unfold postO
      rw [List.getElem?_append_left (by rw [pO_len]; exact (List.getElem?_eq_some_iff.1 hj).1)]
      have := pO_get (X := X) (outs := xx.outs) (y := ofOut _ y) (i := 0) (ks := p.ks) hj
      rw [Nat.zero_add] at this
      exact this
    have hpost2 : ∀ (i : Nat) (o : Ob D), (mkO X xx.outs (ofOut _ y))[i]? = some o → (postO X p.ks (mkO X p.ins x) xx.outs (ofOut _ y))[nO p.ins + i]? = some o := by
      intro i o ho
      unfold postO
      rw [List.getElem?_append_right (by rw [pO_len, mkO_len]; omega), pO_len, mkO_len, show nO p.ins + i - nO p.ins = i by omega]
      exact ho
    -- what an object that lives was
    have hlv : ∀ (i : Nat) (o : Ob D), (actO X p σ O2 xx (ofOut _ y))[i]? = some o → o.live = true →
        (∃ j, posOf σ i = some j ∧ ((p.ks.getD j 0 = 1 ∧ O2[i]? = some o) ∨ (p.ks.getD j 0 ≠ 1 ∧ p.ks.getD j 0 = 2 ∧ o = updOf X (num σ (nO p.ins) O2.length) xx.outs (ofOut _ y) j))) ∨ (O2.length ≤ i ∧ (mkOr X (num σ (nO p.ins) O2.length) xx.outs (ofOut _ y))[i - O2.length]? = some o) := by
      intro i o ho hl
      rcases hcv i o ho with ⟨hlt, o2, h2, h3⟩ | h
      · left
        cases hp : posOf σ i with
        | some j =>
          rw [hp] at h3
          dsimp only at h3
          refine ⟨j, rfl, ?_⟩
          by_cases k1 : p.ks.getD j 0 = 1
          · rw [if_pos k1] at h3
            exact .inl ⟨k1, by rw [h2, h3]⟩
          · rw [if_neg k1] at h3
            by_cases k2 : p.ks.getD j 0 = 2
            · rw [if_pos k2] at h3; exact .inr ⟨k1, k2, h3⟩
            · rw [if_neg k2] at h3; rw [h3] at hl; cases hl
        | none =>
          rw [hp] at h3
          dsimp only at h3
          by_cases h4 : o2.live = true
          · rw [if_pos h4] at h3; rw [h3] at hl; cases hl
          · rw [if_neg h4] at h3; rw [h3] at hl; exact absurd hl h4
      · exact .inr h
    refine ⟨z2, vs ++ nv, _, _, i1.trans ?_, i2.trans g4, hext, ?_, Rl_of ?_, hr⟩
    · refine ⟨?_, fun i o hi ho hl ht => ?_⟩
      · unfold actO
        rw [List.length_append, turnO_len]
        omega
      · rcases hlv i o ho hl with ⟨j, _, h | ⟨_, _, h⟩⟩ | h
        · exact h.2
        · rcases updOf_mk (X := X) (its := xx.outs) (x := ofOut _ y) (j := j) with hd | ⟨_, c, a, _, hd⟩
          · rw [h, hd] at hl; cases hl
          · rw [h, hd, OC.mkr_tch] at ht; cases ht
        · omega
    · refine g5.sel ?_ (fun i => if i < O2.length then (posOf σ i).getD 0 else nO p.ins + (i - O2.length)) (fun i o ho hl => ?_) (fun i o u ho hl hu => ?_) (fun i j o q hi' hj hli hlj hij => ?_)
      · unfold actO
        rw [List.length_append, List.length_append, turnO_len, hnl, hN, mkOr_cos, mkO_cos, List.length_map, List.length_map]
      · rcases hlv i o ho hl with ⟨j, hp, hc⟩ | ⟨hge, hc⟩
        · have hs := posOf_some hp
          obtain ⟨q, q1', w, q2⟩ := en.oy.get j i hs
          have q1 : (mkO X p.ins x)[j]? = some (OC.mk X q.c q.x false) := by rw [mkO_cos, List.getElem?_map, q1']; rfl
          obtain ⟨u, t1, t2⟩ := en.nv _ _ hs
          have hlt : i < O2.length := (List.getElem?_eq_some_iff.1 q2).1
          simp only [if_pos hlt, hp, Option.getD_some]
          have hpj := hpost j _ q1
          have hu0 : (vs0 ++ nv)[j]? = some u := ext_get _ _ t1
          rcases hc with ⟨k1, hc⟩ | ⟨k1, k2, hc⟩
          · rw [if_pos k1] at hpj
            rw [q2] at hc
            have hc := Option.some.inj hc
            subst hc
            have hob := g5.obj j _ u hpj hu0
            refine ⟨_, u, hpj, OC.mk_live, hu0, hext _ _ t2, OC.mkr_ok w hob fun r hr u' hu' => ?_⟩
            obtain ⟨ir, hir⟩ := en.gt q (List.mem_of_getElem? q1') r hr
            have hlr : r < nO p.ins := by rw [← hn]; exact (List.getElem?_eq_some_iff.1 hir).1
            have := hnum r u' hu'
            unfold num at this
            rwa [if_pos (by simpa [Nat.blt_eq] using hlr)] at this
          · rw [if_neg k1, if_pos k2] at hpj
            have hob := g5.obj j _ u hpj hu0
            rcases updOf_mk (X := X) (its := xx.outs) (x := ofOut _ y) (j := j) with hd | ⟨_, c, a, _, hd⟩
            · rw [hc, hd] at hl; cases hl
            · rw [hd] at hob
              refine ⟨_, u, hpj, by rw [hd]; exact OC.mkr_live, hu0, hext _ _ t2, ?_⟩
              rw [hc, hd]
              exact OC.mkr_ok true hob fun r _ u' hu' => hnum r u' hu'
        · have hnlt : ¬ i < O2.length := by omega
          simp only [if_neg hnlt]
          rw [mkOr_cos, List.getElem?_map] at hc
          obtain ⟨q, hq, rfl⟩ := Option.map_eq_some_iff.1 hc
          have hpj := hpost2 (i - O2.length) (OC.mk X q.c q.x false) (by rw [mkO_cos, List.getElem?_map, hq]; rfl)
          obtain ⟨u, u1, u2⟩ := g5.at hpj
          refine ⟨_, u, hpj, OC.mk_live, u1, ?_, ?_⟩
          · rw [List.getElem?_append_right (by omega), hn0, show nO p.ins + (i - O2.length) - nO p.ins = i - O2.length by omega] at u1
            rw [List.getElem?_append_right (by omega), hN]
            exact u1
          · exact OC.mkr_ok false u2 fun r _ u' hu' => hnum r u' hu'
      · rcases hcv i o ho with ⟨hlt, o2, h2, h3⟩ | ⟨_, h⟩
        · cases hp : posOf σ i with
          | some j =>
            rw [hp] at h3
            dsimp only at h3
            have hs := posOf_some hp
            obtain ⟨q, q1, w, q2⟩ := en.oy.get j i hs
            rw [h2] at q2
            by_cases k1 : p.ks.getD j 0 = 1
            · rw [if_pos k1] at h3
              rw [h3, Option.some.inj q2, OC.mkr_live] at hl; cases hl
            · rw [if_neg k1] at h3
              by_cases k2 : p.ks.getD j 0 = 2
              · rw [if_pos k2] at h3
                rcases updOf_mk (X := X) (its := xx.outs) (x := ofOut _ y) (j := j) with hd | ⟨_, c, a, _, hd⟩
                · rw [h3, hd]; trivial
                · rw [h3, hd, OC.mkr_live] at hl; cases hl
              · rw [if_neg k2] at h3; rw [h3]; trivial
          | none =>
            rw [hp] at h3
            dsimp only at h3
            by_cases h4 : o2.live = true
            · rw [if_pos h4] at h3; rw [h3]; trivial
            · rw [if_neg h4] at h3
              subst h3
              rw [List.getElem?_append_left (by omega)] at hu
              exact (en.mm.obj i o u h2 hu).frozen hl g4.le hext
        · rw [mkOr_cos, List.getElem?_map] at h
          obtain ⟨q, hq, rfl⟩ := Option.map_eq_some_iff.1 h
          rw [OC.mkr_live] at hl; cases hl
      · have one : ∀ (i : Nat) (o : Ob D), (actO X p σ O2 xx (ofOut _ y))[i]? = some o → o.live = true → (i < O2.length ∧ ∃ j, posOf σ i = some j ∧ j < nO p.ins) ∨ O2.length ≤ i := by
          intro i o ho hl
          rcases hlv i o ho hl with ⟨j, hp, _⟩ | ⟨hge, _⟩
          · have hs := posOf_some hp
            obtain ⟨o0, q1, w, q2⟩ := en.oy.get j i hs
            exact .inl ⟨(List.getElem?_eq_some_iff.1 q2).1, j, hp, by have := (List.getElem?_eq_some_iff.1 hs).1; omega⟩
          · exact .inr hge
        rcases one i o hi' hli with ⟨a1, a2, a3, a4⟩ | a1
        · rcases one j q hj hlj with ⟨b1, b2, b3, b4⟩ | b1
          · simp only [if_pos a1, if_pos b1, a3, b3, Option.getD_some] at hij
            subst hij
            have s1 := posOf_some a3
            have s2 := posOf_some b3
            rw [s1] at s2
            exact Option.some.inj s2
          · have hb : ¬ j < O2.length := by omega
            simp only [if_pos a1, if_neg hb, a3, Option.getD_some] at hij
            omega
        · have ha : ¬ i < O2.length := by omega
          rcases one j q hj hlj with ⟨b1, b2, b3, b4⟩ | b1
          · simp only [if_neg ha, if_pos b1, b3, Option.getD_some] at hij
            omega
          · have hb : ¬ j < O2.length := by omega
            simp only [if_neg ha, if_neg hb] at hij
            omega
    · intro q hq
      unfold actE at hq
      rcases List.mem_append.1 hq with hq | hq
      · obtain ⟨d, c, a, hd, hc⟩ := mkE_mk hq
        have := g6 q (List.mem_append.2 (.inl hq))
        rw [hc] at this ⊢
        exact Cl.mk_vs (Bool.and_eq_true_iff.1 (List.all_eq_true.1 (List.all_eq_true.1 hk.1.1 xx g1) _ hd)).1 this
      · rcases List.mem_append.1 hq with hq | hq
        · obtain ⟨q0, hq0, rfl⟩ := List.mem_map.1 hq
          have := g6 q0 (List.mem_append.2 (.inr hq0))
          obtain ⟨s1, _⟩ := fxOk_ok (List.all_eq_true.1 (List.all_eq_true.1 hk.2.1 xx g1) q0 hq0)
          exact rn_ok s1 this fun j u _ hu => hnum j u hu
        · obtain ⟨d, hd, rfl⟩ := List.mem_map.1 hq
          have hw := List.all_eq_true.1 hk.2.2 d hd
          have := hkeep d (by simpa using hw)
          show rel X.G z2 (vs ++ nv) (lkE E d) (fr1 d)
          rw [this]
          exact rel.mono (hE d) (i2.le.trans g4.le) hext
  · cases hr
theorem CC.pcI {B : Code} {p : PD D} {F : p.F} (h : CC X B p F) (hk : p.chk B = true) {ρ : Type} (E : List (Nat × SV D)) (O : List (Ob D)) (K : AExit → List (Nat × SV D) → List (Ob D) → Option ρ) (r : ρ) {z : Nat → Blk} {e m : Mem} {k : Option Nat} {vs : List Value} {fr : Nat → Value}
    (hM : Mm X.G O z e m k vs) (hE : Rl X z vs E fr) (hr : p.runI X F E O K = some r) : W P (sub B p.path) (fun x => Nx X O z e k vs (K x) r) fr m :=
  CCn.pcI (ν := id) h hk E O K r hM hE hr
theorem CCn.pc {ν : AExit → AExit} {B : Code} {p : PD D} {F : p.F} (h : CCn ν X B p F) (hk : p.chk B = true) {ρ : Type} (E : List (Nat × SV D)) (O : List (Ob D)) (K : AExit → List (Nat × SV D) → List (Ob D) → Option ρ) (r : ρ) {z : Nat → Blk} {e m : Mem} {k : Option Nat} {vs : List Value} {fr : Nat → Value}
    (hM : Mm X.G O z e m k vs) (hE : Rl X z vs E fr) (hr : p.run X F E O K = some r) : W P (sub B p.path) (fun x => Nx X O z e k vs (K (ν x)) r) fr m := by
  obtain ⟨vs', g1, g2, g3, g4⟩ := ownA_ok (its := p.ins) hM hE
  exact (h.pcI hk _ _ K r g3 g4 hr).mono fun _ _ _ hn => hn.from g1 (Zx.refl z) g2
theorem CC.pc {B : Code} {p : PD D} {F : p.F} (h : CC X B p F) (hk : p.chk B = true) : PcOk X B (p.pc X F) := by
  intro ρ E O K r z e m k vs fr _ hM hE hr
  obtain ⟨vs', g1, g2, g3, g4⟩ := ownA_ok (its := p.ins) hM hE
  exact (h.pcI hk _ _ K r g3 g4 hr).mono fun _ _ _ hn => hn.from g1 (Zx.refl z) g2
end
end
end Go.AM
end
section
set_option linter.unusedSimpArgs false
set_option linter.unusedVariables false
namespace Go.AM
structure FD (D : Nat → Type) where
  f : Nat
  np : Nat
  ins : List It
  fx : List (Nat × SV D)
  rcv : Option (Nat × Nat)
  rk : Nat
  outs : List It
  ofx : List (Nat × SV D)
  rvs : List ResultVar
  flat : Bool
def VB : Nat := 1000000
def resOf : Nat → List ResultVar → List Nat
  | _, [] => []
  | n, .tmp d :: rs => d :: resOf (n + 1) rs
  | n, .cell _ _ :: rs => n :: resOf (n + 1) rs
def FD.res {D : Nat → Type} (d : FD D) : List Nat := resOf VB d.rvs
noncomputable section
section
variable {P : Program} {D : Nat → Type}
def loadB (P : Program) (t : Nat) (a : SV D) (O : List (Ob D)) : Option (SV D) :=
  match a with
  | .box i off =>
    match O[i]? with
    | some (.box _ cs _ _) => loadC (P := P) t cs off some
    | some (.recv _ cs _) => loadC (P := P) t cs off some
    | _ => none
  | _ => none
def rvE (P : Program) (E : List (Nat × SV D)) (O : List (Ob D)) : Nat → List ResultVar → Option (List (Nat × SV D))
  | _, [] => some []
  | n, .tmp d :: rs => if Nat.blt d VB = true then rvE P E O (n + 1) rs else none
  | n, .cell a t :: rs => match loadB P t (lkE E a) O, rvE P E O (n + 1) rs with | some V, some l => some ((n, V) :: l) | _, _ => none
def rT (D : Nat → Type) : Option (Nat × Nat) → Type
  | none => Unit
  | some p => D p.2
def FD.F (d : FD D) : Type := rT D d.rcv → inT D d.ins → Option (outT D d.outs)
variable (X : Ev P D)
def rO : (c : Option (Nat × Nat)) → rT D c → List (Ob D)
  | none, _ => []
  | some p, x => [.recv p.2 (lvX X p.2 x) false]
def rE : Option (Nat × Nat) → List (Nat × SV D)
  | none => []
  | some p => [(p.1, .box 0 0)]
def rks (d : FD D) : List Nat := match d.rcv with | none => [] | some _ => [d.rk]
def FD.xx (d : FD D) : Ex D := ⟨.ret, d.outs, d.ofx⟩
def retK (d : FD D) (ex : AExit) (E : List (Nat × SV D)) (O : List (Ob D)) : Option (outT D d.outs) :=
  if ex = .normal ∨ ex = .ret then Option.bind (rvE P E O VB d.rvs) fun l => rdX X (rks d).length (rks d) d.xx (l ++ E) O else none
def enumE : Nat → List (SV D) → List (Nat × SV D)
  | _, [] => []
  | i, s :: l => (i, s) :: enumE (i + 1) l
def tupE (E : List (Nat × SV D)) : List Nat → Option (List (CV D ⊕ (Nat × List (CV D))))
  | [] => some []
  | d :: ds =>
    match lkE E d, tupE E ds with
    | .c c, some l => some (.inl c :: l)
    | .agg t cs, some l => some (.inr (t, cs) :: l)
    | _, _ => none
def resE (E : List (Nat × SV D)) : List Nat → Option (SV D)
  | [d] => some (lkE E d)
  | ds => match tupE E ds with | some l => some (.tup l) | none => none
def flatC : CV D → Option Value
  | .int k n => some (.int k n)
  | .bool b => some (.bool b)
  | .str s => some (AM.str s)
  | _ => none
def flatL : List (CV D) → Option (List Value)
  | [] => some []
  | c :: cs => match flatC c, flatL cs with | some v, some l => some (v :: l) | _, _ => none
def flatT : List (CV D ⊕ (Nat × List (CV D))) → Option (List Value)
  | [] => some []
  | .inl c :: l => (match flatC c, flatT l with | some v, some vs => some (v :: vs) | _, _ => none)
  | .inr p :: l => (match flatL p.2, flatT l with | some ds, some vs => some (.agg ds.toArray :: vs) | _, _ => none)
def flatS : SV D → Option Value
  | .c c => flatC c
  | .agg _ cs => (match flatL cs with | some ds => some (.agg ds.toArray) | none => none)
  | .tup l => (match flatT l with | some vs => some (.tuple vs.toArray) | none => none)
  | _ => none
def rcvG (t : Nat) : Option (Ob D) → Option (D t)
  | some (.box t' cs false _) => if t' = t then pkX X t cs else none
  | some (.recv t' cs _) => if t' = t then pkX X t cs else none
  | _ => none
def rcvP (t : Nat) (cs : List (CV D)) : Ob D → Ob D
  | .box _ _ _ _ => .box t cs false true
  | _ => .recv t cs true
def newOk : List It → Bool
  | [] => true
  | .o _ (.recv _) :: _ => false
  | .o _ _ :: its => newOk its
  | .v _ c :: its => c.nc && newOk its
  | .u _ _ :: its => newOk its
def num1 (i N j : Nat) : Nat := if Nat.beq j 0 = true then i else N + (j - 1)
def goCall (outs : List It) (ofx : List (Nat × SV D)) (res : List Nat) (flat : Bool) (rk : Nat) (svs : List (SV D)) (O O1 : List (Ob D)) {ρ : Type} (K : SV D → List (Ob D) → Option ρ) : (rcv : Option (Nat × Nat)) → (rT D rcv → Option (outT D outs)) → Option ρ
  | none, G =>
    Option.bind (G ()) fun y =>
      match resE (mkE X outs (ofOut _ y) ++ ofx.map fun q => (q.1, rnS (fun j => O1.length + j) q.2)) res with
      | some sv => if flat = true then (match flatS sv with | some _ => K sv O | none => none) else K sv (O1 ++ mkOr X (fun j => O1.length + j) outs (ofOut _ y))
      | none => none
  | some p, G =>
    match lkE (enumE 0 svs) p.1 with
    | .box i 0 =>
      match O1[i]? with
      | some o =>
        Option.bind (rcvG X p.2 (some o)) fun r =>
        Option.bind (G r) fun y =>
          match resE (mkE X outs (ofOut _ y) ++ ofx.map fun q => (q.1, rnS (num1 i O1.length) q.2)) res with
          | some sv =>
            if rk = 2 then
              match updOf X idN outs (ofOut _ y) 0 with
              | .recv t cs _ => if t = p.2 then K sv (O1.set i (rcvP p.2 cs o) ++ mkOr X (num1 i O1.length) outs (ofOut _ y)) else none
              | _ => none
            else if rk = 1 then (if o.clean = true then K sv (O1 ++ mkOr X (num1 i O1.length) outs (ofOut _ y)) else K sv (O1.set i (rcvP p.2 (lvX X p.2 r) o) ++ mkOr X (num1 i O1.length) outs (ofOut _ y))) else none
          | none => none
      | none => none
    | _ => none
def FD.call (d : FD D) (F : d.F) (svs : List (SV D)) (O : List (Ob D)) {ρ : Type} (K : SV D → List (Ob D) → Option ρ) : Option ρ :=
  if Nat.beq svs.length d.np = true then
    match frzA (enumE 0 svs) d.ins O with
    | some (avs, O1) =>
      if (d.fx.all fun p => fxT [] p.2 (lkE (enumE 0 svs) p.1)) = true then
        match rdB X [] O1 d.ins avs [] with
        | some x => goCall X d.outs d.ofx d.res d.flat d.rk svs O O1 K d.rcv fun r => F r x
        | none => none
      else none
    | none => none
  else none
end
section
variable {P : Program} {D : Nat → Type} {X : Ev P D} {z z1 z2 : Nat → Blk} {e m m1 : Mem} {k q : Option Nat} {vs : List Value} {fr : Nat → Value} {E : List (Nat × SV D)} {O O' : List (Ob D)}
theorem Mm.call (h : Mm X.G O z1 e m k vs) (hz : Zx m.next z1 z2) (s : Same m m1 q) (st : St z2 e m1 k) (hl : O'.length = O.length)
    (ho : ∀ (j : Nat) (o' : Ob D), O'[j]? = some o' → (O[j]? = some o' ∧ (o'.live = true → ∀ v, vs[j]? = some v → Ap (blkV v) q)) ∨ (∃ o, O[j]? = some o ∧ o.live = true ∧ ∀ v, vs[j]? = some v → ObOk X.G z2 e m1 k vs o' v)) : Mm X.G O' z2 e m1 k vs where
  st := st
  len := by rw [hl]; exact h.len
  obj := fun j o' v hj hv => by
    rcases ho j o' hj with ⟨h1, h2⟩ | ⟨o, h1, h2, h3⟩
    · have hob := h.obj j o' v h1 hv
      cases hL : o'.live with
      | false => exact hob.frozen hL hz.le fun _ _ h => h
      | true => exact (hob.same s (fun _ => h2 hL v hv) fun _ _ h => h).zle hz.le (fun _ b hb => hz.low b (hob.lt hL b hb).1) fun _ b j L t hb => hz.low b (h.st.fz b (by rw [hb]; simp)).2
    · exact h3 v hv
  ap := fun a b o p v w hab ha hb la lb hv hw => by
    have key : ∀ (j : Nat) (o' : Ob D), O'[j]? = some o' → o'.live = true → ∃ o, O[j]? = some o ∧ o.live = true := by
      intro j o' hj hl
      rcases ho j o' hj with ⟨h1, _⟩ | ⟨o, h1, h2, _⟩
      · exact ⟨o', h1, hl⟩
      · exact ⟨o, h1, h2⟩
    obtain ⟨o1, g1, g2⟩ := key a o ha la
    obtain ⟨o2, g3, g4⟩ := key b p hb lb
    exact h.ap a b o1 o2 v w hab g1 g3 g2 g4 hv hw
theorem Mm.adds {N : List (Ob D)} {nv : List Value} {lim : Nat} (h : Mm X.G O z e m k vs) (hl : nv.length = N.length)
    (hlt : ∀ (j : Nat) (o : Ob D) (v : Value), O[j]? = some o → vs[j]? = some v → o.live = true → ∀ b, blkV v = some b → b < lim)
    (hn : ∀ (j : Nat) (o : Ob D) (v : Value), N[j]? = some o → nv[j]? = some v → ObOk X.G z e m k (vs ++ nv) o v ∧ ∀ b, blkV v = some b → lim ≤ b)
    (ha : ∀ (i j : Nat) (o p : Ob D) (v w : Value), i ≠ j → N[i]? = some o → N[j]? = some p → nv[i]? = some v → nv[j]? = some w → Ap (blkV v) (blkV w)) : Mm X.G (O ++ N) z e m k (vs ++ nv) := by
  have cs : ∀ (j : Nat) (o : Ob D) (v : Value), (O ++ N)[j]? = some o → (vs ++ nv)[j]? = some v → (j < O.length ∧ O[j]? = some o ∧ vs[j]? = some v) ∨ (O.length ≤ j ∧ N[j - O.length]? = some o ∧ nv[j - O.length]? = some v) := by
    intro j o v ho hv
    by_cases hj : j < O.length
    · rw [List.getElem?_append_left hj] at ho
      rw [List.getElem?_append_left (by rw [h.len]; exact hj)] at hv
      exact .inl ⟨hj, ho, hv⟩
    · rw [List.getElem?_append_right (by omega)] at ho
      rw [List.getElem?_append_right (by rw [h.len]; omega), h.len] at hv
      exact .inr ⟨by omega, ho, hv⟩
  refine ⟨h.st, by rw [List.length_append, List.length_append, h.len, hl], fun j o v ho hv => ?_, fun i j o p v w hij ho hp lo lp hv hw => ?_⟩
  · rcases cs j o v ho hv with ⟨_, h1, h2⟩ | ⟨_, h1, h2⟩
    · exact (h.obj j o v h1 h2).same (m' := m) (q := none) ⟨Nat.le_refl _, h.st.dead, fun _ _ _ => rfl⟩ (fun _ => Ap.none') ext_get
    · exact (hn _ o v h1 h2).1
  · have mix : ∀ (i j : Nat) (o p : Ob D) (v w : Value), O[i]? = some o → vs[i]? = some v → o.live = true → N[j]? = some p → nv[j]? = some w → Ap (blkV v) (blkV w) := by
      intro i j o p v w ho hv lo hp hw b hb hb'
      have := hlt i o v ho hv lo b hb
      have := (hn j p w hp hw).2 b hb'
      omega
    rcases cs i o v ho hv with ⟨_, h1, h2⟩ | ⟨_, h1, h2⟩
    · rcases cs j p w hp hw with ⟨_, h3, h4⟩ | ⟨_, h3, h4⟩
      · exact h.ap i j o p v w hij h1 h3 lo lp h2 h4
      · exact mix i _ o p v w h1 h2 lo h3 h4
    · rcases cs j p w hp hw with ⟨_, h3, h4⟩ | ⟨_, h3, h4⟩
      · exact (mix j _ p o w v h3 h4 lp h1 h2).symm
      · exact ha _ _ o p v w (by omega) h1 h3 h2 h4
theorem newOk_at : ∀ {its : List It} {x : inT D its} {q : CO D}, newOk its = true → q ∈ cos its x → ∀ t, q.c ≠ .recv t
  | [], _, _, _, h => by simp [cos] at h
  | .v d c :: its, x, o, hn, h => newOk_at (its := its) (x := x.2) (Bool.and_eq_true_iff.1 hn).2 h
  | .u d c :: its, x, o, hn, h => newOk_at (its := its) (x := x.2) hn h
  | .o d c :: its, x, o, hn, h => by
    simp only [cos, List.mem_cons] at h
    have hn' : (∀ t, c ≠ .recv t) ∧ newOk its = true := by
      cases c with
      | recv t => cases hn
      | _ => exact ⟨fun t h => (by cases h), hn⟩
    rcases h with rfl | h
    · exact hn'.1
    · exact newOk_at (its := its) (x := x.2) hn'.2 h
theorem born {c : OC} {x : c.ty D} {w : Bool} {v : Value} {kk : Option Nat} {τ : Nat → Nat} (hc : ∀ t, c ≠ .recv t) (he : e.next ≤ m.next) (h : ObOk X.G z m m1 kk vs (OC.mkr X τ c x w) v) : ObOk X.G z e m1 k vs (OC.mkr X τ c x w) v ∧ ∀ b, blkV v = some b → m.next ≤ b := by
  cases c with
  | recv t => exact absurd rfl (hc t)
  | bx t l =>
    obtain ⟨b, ds, rfl, h1, h2, h3⟩ := h
    exact ⟨⟨b, ds, rfl, ⟨h1.blk, h1.lt, h1.dead, .inl (Nat.le_trans he h2)⟩, Nat.le_trans he h2, h3⟩, fun c hc => by cases hc; exact h2⟩
  | sl t =>
    have h : OwF (X.G.T t) z m m1 kk x v := h
    refine ⟨(⟨h.ow, fun b hb => Nat.le_trans he (h.fresh b hb)⟩ : OwF (X.G.T t) z e m1 k x v), ?_⟩
    rw [blkV_of (by obtain ⟨a, c, rfl⟩ := h.ow.len; intro r; simp)]
    exact h.fresh
  | box t =>
    obtain ⟨b, ds, rfl, h1, h2, h3⟩ := h
    exact ⟨⟨b, ds, rfl, ⟨h1.blk, h1.lt, h1.dead, .inl (Nat.le_trans he h2)⟩, Nat.le_trans he h2, h3⟩, fun c hc => by cases hc; exact h2⟩
  | arr t u n =>
    obtain ⟨⟨b, rfl⟩, h⟩ := h
    exact ⟨⟨⟨b, rfl⟩, h.ow, fun b hb => Nat.le_trans he (h.fresh b hb)⟩, fun c hc => h.fresh c hc⟩
  | map t kt vt =>
    have h : OwM (X.G.M t kt vt) z m m1 kk x v := h
    obtain ⟨r, rfl, h1, h2, h3, h4⟩ := h.ow
    exact ⟨(⟨⟨r, rfl, h1, h2, h3, Nat.le_trans he h4⟩⟩ : OwM (X.G.M t kt vt) z e m1 k x _), fun c hc => by cases hc; exact h4⟩
  | ne e0 t =>
    obtain ⟨hu, ws, h⟩ := h
    refine ⟨⟨hu, ws, ⟨h.ow.ow, fun b hb => Nat.le_trans he (h.ow.fresh b hb)⟩, h.len, fun j w xs h1 h2 h3 => (h.inn j w xs h1 h2 h3).anti he, fun p hp => by cases hp⟩, ?_⟩
    rw [blkV_of (by obtain ⟨a, c, rfl⟩ := h.ow.ow.len; intro r; simp)]
    exact h.ow.fresh
theorem tupE_ok : ∀ {res : List Nat} {l : List (CV D ⊕ (Nat × List (CV D)))}, Rl X z vs E fr → tupE E res = some l → L2 (relT X.G z vs) l (res.map fr) ∧ ∀ x ∈ res.map fr, storable x = true
  | [], l, hE, h => by cases h; exact ⟨trivial, by simp⟩
  | d :: ds, l, hE, h => by
    simp only [tupE] at h
    have hd := hE d
    split at h
    · rename_i c l1 hc hl
      cases h
      rw [hc] at hd
      obtain ⟨g1, g2⟩ := tupE_ok hE hl
      refine ⟨⟨hd, g1⟩, fun x hx => ?_⟩
      rcases List.mem_cons.1 hx with rfl | hx
      · exact (rel0.stor hd).1
      · exact g2 x hx
    · rename_i t cs l1 hc hl
      cases h
      rw [hc] at hd
      obtain ⟨g1, g2⟩ := tupE_ok hE hl
      refine ⟨⟨hd, g1⟩, fun x hx => ?_⟩
      rcases List.mem_cons.1 hx with rfl | hx
      · obtain ⟨ds, hd, _⟩ := hd; rw [hd]; rfl
      · exact g2 x hx
    · cases h
theorem resE_ok {res : List Nat} {sv : SV D} (hE : Rl X z vs E fr) (h : resE E res = some sv) : rel X.G z vs sv (pack (res.map fr)) ∧ ((res.map fr).length = 1 ∨ ∀ x ∈ res.map fr, storable x = true) := by
  unfold resE at h
  split at h
  · cases h; exact ⟨hE _, .inl rfl⟩
  · rename_i ds hds
    split at h
    · rename_i l hl
      cases h
      obtain ⟨g1, g2⟩ := tupE_ok hE hl
      refine ⟨?_, .inr g2⟩
      have : pack (res.map fr) = .tuple (res.map fr).toArray := by
        unfold pack
        split
        · rename_i x hx
          match res, hds, hx with
          | [d], hds, _ => exact absurd rfl (hds d)
        · rfl
      rw [this]
      exact ⟨_, rfl, g1⟩
    · cases h
theorem results_tmp {res : List Nat} : resultsR P fr m (res.map .tmp) (res.map fr) := by
  induction res with
  | nil => trivial
  | cons d ds ih => exact ⟨rfl, ih⟩
theorem flatC_ok {c : CV D} {v w : Value} (h : flatC c = some w) (hr : rel0 X.G z vs c v) : v = w ∧ flat0 w = true := by
  cases c <;> first | (cases h; done) | (cases h; exact ⟨hr, rfl⟩)
theorem flatL_ok : ∀ {cs : List (CV D)} {ds ws : List Value}, flatL cs = some ws → L2 (rel0 X.G z vs) cs ds → ds = ws ∧ ws.all flat0 = true
  | [], [], _, h, _ => by cases h; exact ⟨rfl, rfl⟩
  | c :: cs, d :: ds, ws, h, ⟨h1, h2⟩ => by
    simp only [flatL] at h
    split at h
    · rename_i v l hv hl
      cases h
      obtain ⟨rfl, g1⟩ := flatC_ok hv h1
      obtain ⟨rfl, g2⟩ := flatL_ok hl h2
      exact ⟨rfl, by simp only [List.all_cons, g1, g2, Bool.and_self]⟩
    · cases h
  | [], _ :: _, _, _, h => h.elim
  | _ :: _, [], _, _, h => h.elim
theorem flatT_ok : ∀ {l : List (CV D ⊕ (Nat × List (CV D)))} {ds ws : List Value}, flatT l = some ws → L2 (relT X.G z vs) l ds → ds = ws ∧ ws.all flat1 = true
  | [], [], _, h, _ => by cases h; exact ⟨rfl, rfl⟩
  | .inl c :: l, d :: ds, ws, h, ⟨h1, h2⟩ => by
    simp only [flatT] at h
    split at h
    · rename_i v l1 hv hl
      cases h
      obtain ⟨rfl, g1⟩ := flatC_ok hv h1
      obtain ⟨rfl, g2⟩ := flatT_ok hl h2
      have : flat1 d = true := by cases d <;> first | exact g1 | cases g1
      exact ⟨rfl, by simp only [List.all_cons, this, g2, Bool.and_self]⟩
    · cases h
  | .inr p :: l, d :: ds, ws, h, ⟨⟨cs, h0, h1⟩, h2⟩ => by
    simp only [flatT] at h
    split at h
    · rename_i v l1 hv hl
      cases h
      obtain ⟨rfl, g1⟩ := flatL_ok hv h1
      obtain ⟨rfl, g2⟩ := flatT_ok hl h2
      subst h0
      exact ⟨rfl, by simp only [List.all_cons, g2, Bool.and_true]; exact g1⟩
    · cases h
  | [], _ :: _, _, _, h => h.elim
  | _ :: _, [], _, _, h => h.elim
theorem flatS_ok {s : SV D} {v w : Value} (h : flatS s = some w) (hr : rel X.G z vs s v) : v = w ∧ AM.flat w = true := by
  unfold flatS at h
  split at h
  · obtain ⟨rfl, g⟩ := flatC_ok h hr
    refine ⟨rfl, ?_⟩
    cases v <;> first | exact g | cases g
  · split at h
    · rename_i ds hd
      cases h
      obtain ⟨es, rfl, h2⟩ := hr
      obtain ⟨rfl, g⟩ := flatL_ok hd h2
      exact ⟨rfl, g⟩
    · cases h
  · split at h
    · rename_i ws hd
      cases h
      obtain ⟨es, rfl, h2⟩ := hr
      obtain ⟨rfl, g⟩ := flatT_ok hd h2
      exact ⟨rfl, g⟩
    · cases h
  · cases h
def rIns : Option (Nat × Nat) → List It
  | none => []
  | some p => [.o p.1 (.recv p.2)]
def rX : (c : Option (Nat × Nat)) → rT D c → inT D (rIns c)
  | none, _ => ()
  | some _, r => (r, ())
theorem rO_eq (c : Option (Nat × Nat)) (r : rT D c) : mkO X (rIns c) (rX c r) = rO X c r := by cases c <;> rfl
theorem rO_len {c : Option (Nat × Nat)} {r : rT D c} {n : Nat} : (match c with | none => [] | some _ => [n]).length = (rO X c r).length := by cases c <;> rfl
theorem rks_len {d : FD D} {r : rT D d.rcv} : (rO X d.rcv r).length = (rks d).length := by
  unfold rks
  rw [← rO_len (X := X) (r := r) (n := d.rk)]
def PostF (X : Ev P D) (d : FD D) (r : rT D d.rcv) (y : outT D d.outs) (z : Nat → Blk) (m : Mem) (kk : Option Nat) (vs0 : List Value) (ex : AExit) (fr' : Nat → Value) (m1 : Mem) : Prop :=
  (ex = .normal ∨ ex = .ret) ∧ ∃ fr2, resultsR P fr' m1 d.rvs (d.res.map fr2) ∧ ∃ z2 nv, Zx m.next z z2 ∧ Mm X.G (postO X (rks d) (rO X d.rcv r) d.outs (ofOut _ y)) z2 m m1 kk (vs0 ++ nv) ∧ ∀ q ∈ mkE X d.outs (ofOut _ y) ++ d.ofx, rel X.G z2 (vs0 ++ nv) q.2 (fr2 q.1)
def FC (X : Ev P D) (B : Code) (d : FD D) (F : d.F) : Prop := ∀ (r : rT D d.rcv) (x : inT D d.ins) (y : outT D d.outs) {z : Nat → Blk} {m : Mem} {kk : Option Nat} {vs0 : List Value} {fr : Nat → Value},
  F r x = some y → Mm X.G (rO X d.rcv r) z m m kk vs0 → Rl X z vs0 (mkE X d.ins x ++ (d.fx ++ rE d.rcv)) fr → W P B (PostF X d r y z m kk vs0) fr m
theorem loadB_ok {t : Nat} {a : SV D} {V : SV D} {v : Value} (hM : Mm X.G O z e m k vs) (ha : rel X.G z vs a v) (h : loadB P t a O = some V) : ∃ b off w, v = .pointer (some ⟨b, off, none⟩) ∧ rel X.G z vs V w ∧ ∃ d, P.underlying t = some d ∧
    (if aggT d = true then ∃ i cs, P.info? t = some i ∧ rdN m b off i.size = some cs ∧ w = .agg cs.toArray else m.load b off = some w) := by
  have fin : ∀ {b n : Nat} {cs : List (CV D)} {ds : List Value}, (∀ (j : Nat) (w : Value), ds[j]? = some w → m.load b (0 + j) = some w) → L2 (rel0 X.G z vs) cs ds → loadC (P := P) t cs n some = some V → ∃ w, rel X.G z vs V w ∧ ∃ d, P.underlying t = some d ∧ (if aggT d = true then ∃ i cs, P.info? t = some i ∧ rdN m b n i.size = some cs ∧ w = .agg cs.toArray else m.load b n = some w) := by
    intro b n cs ds hc hr h
    unfold loadC at h
    split at h
    · cases h
    · rename_i d hd
      split at h
      · rename_i hag
        split at h
        · cases h
        · rename_i i hi
          split at h
          · rename_i hlen
            cases h
            have hr' : L2 (rel0 X.G z vs) ((cs.drop n).take i.size) ((ds.drop n).take i.size) := L2.take _ (L2.drop _ hr)
            have hl2 : ((ds.drop n).take i.size).length = i.size := by rw [← hr'.length]; exact hlen
            refine ⟨.agg ((ds.drop n).take i.size).toArray, ⟨_, rfl, hr'⟩, d, hd, ?_⟩
            rw [if_pos hag]
            refine ⟨i, _, hi, rdN_of _ _ _ hl2 fun j w hj => ?_, rfl⟩
            rw [List.getElem?_take] at hj
            split at hj
            · rw [List.getElem?_drop] at hj
              have := hc _ w hj
              rwa [Nat.zero_add] at this
            · cases hj
          · cases h
      · rename_i hag
        split at h
        · rename_i c hcs
          cases h
          obtain ⟨w, hw, hrw⟩ := hr.get n c hcs
          refine ⟨w, hrw, d, hd, ?_⟩
          rw [if_neg hag]
          have := hc n w hw
          rwa [Nat.zero_add] at this
        · cases h
  unfold loadB at h
  split at h
  · rename_i i off
    obtain ⟨b, hv, hx⟩ := ha
    split at h
    · rename_i u cs fz w1 hO
      have hob := hM.obj i _ _ hO hv
      cases fz with
      | true =>
        obtain ⟨b', ds, he, hc, hr⟩ := hob
        cases he
        obtain ⟨w, h1, h2⟩ := fin (b := b) (hM.st.loads hc) hr h
        exact ⟨b, off, w, hx, h1, h2⟩
      | false =>
        obtain ⟨b', ds, he, hb, _, hr⟩ := hob
        cases he
        obtain ⟨w, h1, h2⟩ := fin (b := b) hb.loads hr h
        exact ⟨b, off, w, hx, h1, h2⟩
    · rename_i u cs w1 hO
      obtain ⟨b', ds, he, hb, hr⟩ := hM.obj i _ _ hO hv
      cases he
      obtain ⟨w, h1, h2⟩ := fin (b := b) hb.loads hr h
      exact ⟨b, off, w, hx, h1, h2⟩
    · cases h
  · cases h
theorem rvE_lt : ∀ {rs : List ResultVar} {n : Nat} {l : List (Nat × SV D)}, rvE P E O n rs = some l → ∀ x ∈ resOf n rs, x < VB ∨ n ≤ x
  | [], n, l, _, x, hx => by simp [resOf] at hx
  | .tmp d :: rs, n, l, h, x, hx => by
    obtain ⟨h1, h2⟩ := ite_some h
    simp only [resOf, List.mem_cons] at hx
    rcases hx with rfl | hx
    · exact .inl (by simpa [Nat.blt_eq] using h1)
    · rcases rvE_lt h2 x hx with h | h
      · exact .inl h
      · exact .inr (by omega)
  | .cell a t :: rs, n, l, h, x, hx => by
    simp only [rvE] at h
    split at h
    · rename_i V l' _ h2
      simp only [resOf, List.mem_cons] at hx
      rcases hx with rfl | hx
      · exact .inr (Nat.le_refl _)
      · rcases rvE_lt h2 x hx with h | h
        · exact .inl h
        · exact .inr (by omega)
    · cases h
theorem rvE_ok (hM : Mm X.G O z e m k vs) (hE : Rl X z vs E fr) : ∀ {rs : List ResultVar} {n : Nat} {l : List (Nat × SV D)}, VB ≤ n → rvE P E O n rs = some l → ∃ fr2, (∀ d, d < n → fr2 d = fr d) ∧ Rl X z vs (l ++ E) fr2 ∧ resultsR P fr m rs ((resOf n rs).map fr2)
  | [], n, l, _, h => by cases h; exact ⟨fr, fun _ _ => rfl, hE, trivial⟩
  | .tmp d :: rs, n, l, hn, h => by
    obtain ⟨h1, h2⟩ := ite_some h
    have hd : d < VB := by simpa [Nat.blt_eq] using h1
    obtain ⟨fr2, g1, g2, g3⟩ := rvE_ok hM hE (Nat.le_succ_of_le hn) h2
    exact ⟨fr2, fun d hd => g1 d (Nat.lt_succ_of_lt hd), g2, g1 d (Nat.lt_succ_of_lt (Nat.lt_of_lt_of_le hd hn)), g3⟩
  | .cell a t :: rs, n, l, hn, h => by
    simp only [rvE] at h
    split at h
    · rename_i V l' h1 h2
      cases h
      obtain ⟨fr2, g1, g2, g3⟩ := rvE_ok hM hE (Nat.le_succ_of_le hn) h2
      obtain ⟨b, off, w, w1, w2, w3⟩ := loadB_ok hM (hE a) h1
      refine ⟨fun i => if i = n then w else fr2 i, fun d hd => ?_, fun i => ?_, ?_⟩
      · show (if d = n then w else fr2 d) = fr d
        rw [if_neg (by omega)]; exact g1 d (by omega)
      · show rel X.G z vs (lkE ((n, V) :: (l' ++ E)) i) (if i = n then w else fr2 i)
        simp only [lkE]
        split
        · rename_i hi
          rw [if_pos (Nat.eq_of_beq_eq_true hi).symm]; exact w2
        · rename_i hi
          rw [if_neg (by rintro rfl; simp at hi)]; exact g2 i
      · have hm : (resOf (n + 1) rs).map (fun i => if i = n then w else fr2 i) = (resOf (n + 1) rs).map fr2 := by
          apply List.map_congr_left
          intro x hx
          rw [if_neg]
          rintro rfl
          rcases rvE_lt h2 _ hx with h | h <;> omega
        refine ⟨⟨b, off, w1, ?_⟩, ?_⟩
        · show ∃ d, _
          simp only [if_true]
          exact w3
        · show resultsR P fr m rs ((resOf (n + 1) rs).map _)
          rw [hm]; exact g3
    · cases h
theorem FC.of (hC : COk X) {B : Code} {us : List (Pc D)} {d : FD D} {F : d.F} (hus : ∀ u ∈ us, 0 < u.path.length → PcOk X B u)
    (heq : ∀ r x, exC X us calm true [] B (mkE X d.ins x ++ (d.fx ++ rE d.rcv)) (rO X d.rcv r) (retK X d) = F r x) : FC X B d F := by
  intro r x y z m kk vs0 fr hF hM hE
  have h := heq r x
  rw [hF] at h
  refine (exC_ok hC (L := 0) hus B true [] _ _ _ y (sub_nil B) (by simp) (by simp) hM hE h).mono ?_
  rintro ex fr1 m1 ⟨z1, vs1, E1, O1, h0, h1, h2, h3, h4, h5⟩
  obtain ⟨hx, h5⟩ := ite_some h5
  obtain ⟨l, hl0, h6⟩ := bind_some h5
  obtain ⟨fr2, q1, q2, q3⟩ := rvE_ok h3 h4 (Nat.le_refl _) hl0
  have hl : (rks d).length = vs0.length := by
    rw [hM.len, rks_len]
  rw [hl] at h6
  have hr := rO_eq (X := X) d.rcv r
  obtain ⟨z2, nv, k1, k2, k3⟩ := post_of (ks := rks d) (ins := rIns d.rcv) (x := rX d.rcv r) (xx := d.xx) (by rw [hr]; exact h0) h2 (by rw [hr]; exact hM.len) h3 q2 h6
  rw [hr] at k2
  exact ⟨hx, fr2, q3, z2, nv, h1.trans k1, k2, k3⟩
end
end
end Go.AM
end
section
set_option linter.unusedSimpArgs false
set_option linter.unusedVariables false
namespace Go.AM
noncomputable section
section
variable {P : Program} {D : Nat → Type} {X : Ev P D} {z z1 z2 : Nat → Blk} {e m m1 : Mem} {k q : Option Nat} {vs : List Value} {fr : Nat → Value} {E : List (Nat × SV D)} {O O' : List (Ob D)} {ρ : Type} {r : ρ}
theorem enumE_at : ∀ {l : List (SV D)} {args : List Value} {i : Nat}, L2 (rel X.G z vs) l args → (∀ (j : Nat) (v : Value), args[j]? = some v → fr (i + j) = v) → Rl X z vs (enumE i l) fr
  | [], [], i, _, _ => fun d => trivial
  | s :: l, a :: args, i, ⟨h1, h2⟩, hf => by
    refine (enumE_at (i := i + 1) h2 fun j v hj => ?_).cons ?_
    · rw [show i + 1 + j = i + (j + 1) by omega]
      exact hf (j + 1) v hj
    · have := hf 0 a rfl
      rw [Nat.add_zero] at this
      rw [this]; exact h1
  | [], _ :: _, _, h, _ => h.elim
  | _ :: _, [], _, h, _ => h.elim
structure FOk (P : Program) (X : Ev P D) (d : FD D) (F : d.F) : Prop where
  ex : ∃ fn c, P.funcs[d.f]? = some fn ∧ fn.body = some c ∧ okFn P d.f = true ∧ Nat.ble d.np fn.ntmps = true ∧ fn.results.toList = d.rvs ∧ FC X c d F
  new : newOk d.outs = true
  sf : (d.fx.all fun p => simpS p.2) = true
  so : (d.ofx.all fun p => simpS p.2) = true
  sx : (d.fx.all fun p => (refS p.2).isNone) = true
theorem simp_vs {s : SV D} {v : Value} {vs' : List Value} (h : simpS s = true) (h2 : (refS s).isNone = true) (hr : rel X.G z vs s v) : rel X.G z vs' s v := by
  have := rn_ok (X := X) (vs' := vs') (τ := id) h hr fun j u hj _ => by rw [hj] at h2; cases h2
  rwa [rnS_id] at this
theorem flatC_self {c : CV D} {w : Value} (h : flatC c = some w) : rel0 X.G z vs c w ∧ flat0 w = true ∧ flat1 w = true ∧ AM.flat w = true := by
  cases c <;> first | (cases h; done) | (cases h; exact ⟨rfl, rfl, rfl, rfl⟩)
theorem flatL_self : ∀ {cs : List (CV D)} {ws : List Value}, flatL cs = some ws → L2 (rel0 X.G z vs) cs ws ∧ ws.all flat0 = true
  | [], _, h => by cases h; exact ⟨trivial, rfl⟩
  | c :: cs, ws, h => by
    simp only [flatL] at h
    split at h
    · rename_i v l hv hl
      cases h
      obtain ⟨g1, g2, _⟩ := flatC_self (X := X) (z := z) (vs := vs) hv
      obtain ⟨g3, g4⟩ := flatL_self hl
      exact ⟨⟨g1, g3⟩, by simp only [List.all_cons, g2, g4, Bool.and_self]⟩
    · cases h
theorem flatT_self : ∀ {l : List (CV D ⊕ (Nat × List (CV D)))} {ws : List Value}, flatT l = some ws → L2 (relT X.G z vs) l ws ∧ ws.all flat1 = true
  | [], _, h => by cases h; exact ⟨trivial, rfl⟩
  | .inl c :: l, ws, h => by
    simp only [flatT] at h
    split at h
    · rename_i v l1 hv hl
      cases h
      obtain ⟨g1, _, g2, _⟩ := flatC_self (X := X) (z := z) (vs := vs) hv
      obtain ⟨g3, g4⟩ := flatT_self hl
      exact ⟨⟨g1, g3⟩, by simp only [List.all_cons, g2, g4, Bool.and_self]⟩
    · cases h
  | .inr p :: l, ws, h => by
    simp only [flatT] at h
    split at h
    · rename_i v l1 hv hl
      cases h
      obtain ⟨g1, g2⟩ := flatL_self (X := X) (z := z) (vs := vs) hv
      obtain ⟨g3, g4⟩ := flatT_self hl
      exact ⟨⟨⟨v, rfl, g1⟩, g3⟩, by simp only [List.all_cons, g4, Bool.and_true]; exact g2⟩
    · cases h
theorem flatS_self {s : SV D} {w : Value} (h : flatS s = some w) : rel X.G z vs s w ∧ AM.flat w = true := by
  unfold flatS at h
  split at h
  · obtain ⟨g1, _, _, g2⟩ := flatC_self (X := X) (z := z) (vs := vs) h
    exact ⟨g1, g2⟩
  · split at h
    · rename_i ds hd
      cases h
      obtain ⟨g1, g2⟩ := flatL_self (X := X) (z := z) (vs := vs) hd
      exact ⟨⟨ds, rfl, g1⟩, g2⟩
    · cases h
  · split at h
    · rename_i ws hd
      cases h
      obtain ⟨g1, g2⟩ := flatT_self (X := X) (z := z) (vs := vs) hd
      exact ⟨⟨ws, rfl, g1⟩, g2⟩
    · cases h
  · cases h
theorem Inv.app (O N : List (Ob D)) : Inv O (O ++ N) := ⟨by simp, fun i p hi hp _ _ => by rw [List.getElem?_append_left hi] at hp; exact hp⟩
theorem Mm.nil (hM : Mm X.G O z e m k vs) : Mm X.G ([] : List (Ob D)) z m m none [] := ⟨St.start hM.st.fz hM.st.dead, rfl, by simp, by simp⟩
theorem st_call {kk : Option Nat} (h : St z1 e m k) (h2 : St z2 m m1 kk) (hk : ∀ b, kk = some b → e.next ≤ b ∨ k = some b) : St z2 e m1 k ∧ Same m m1 kk :=
  ⟨⟨h2.fz, h2.dead, h.dead0, Nat.le_trans h.next h2.next, fun b hb hn => by
    rw [h2.kept b (Nat.lt_of_lt_of_le hb h.next) (fun hh => by rcases hk b hh with h3 | h3; omega; exact hn h3)]
    exact h.kept b hb hn⟩, ⟨h2.next, h2.dead, h2.kept⟩⟩
theorem start_rl {ins : List It} {fx : List (Nat × SV D)} {svs avs : List (SV D)} {O1 : List (Ob D)} {x : inT D ins} {vs0 : List Value} (hE : Rl X z vs (enumE 0 svs) fr) (ha : AOk X z vs fr ins avs) (hb : rdB X [] O1 ins avs [] = some x)
    (hx : (fx.all fun p => fxT [] p.2 (lkE (enumE 0 svs) p.1)) = true) : ∀ p ∈ mkE X ins x ++ fx, rel X.G z vs0 p.2 (fr p.1) := by
  intro p hp
  rcases List.mem_append.1 hp with hp | hp
  · exact rdB_v (fun j i u hj _ => by simp at hj) hb ha p hp
  · have ht := List.all_eq_true.1 hx p hp
    have := fxT_ok (X := X) (vs' := vs0) id ht (hE p.1) (by simp)
    rwa [rnS_id] at this
theorem after {outs : List It} {y : inT D outs} {O0 : List (Ob D)} {vs0 nv : List Value} {kk : Option Nat} {O2 O3 : List (Ob D)} {τ : Nat → Nat} (h1 : Mm X.G O2 z1 e m k vs) (h3 : Mm X.G O3 z2 e m1 k vs) (h0 : Mm X.G (O0 ++ mkO X outs y) z2 m m1 kk (vs0 ++ nv)) (hl : vs0.length = O0.length) (hn : newOk outs = true)
    (hlt : ∀ (j : Nat) (o : Ob D) (v : Value), O3[j]? = some o → vs[j]? = some v → o.live = true → ∀ b, blkV v = some b → b < m.next) (hτ : ∀ (j : Nat) (u : Value), (vs0 ++ nv)[j]? = some u → (vs ++ nv)[τ j]? = some u) : Mm X.G (O3 ++ mkOr X τ outs y) z2 e m1 k (vs ++ nv) := by
  have hcl : (mkO X outs y).length = (mkOr X τ outs y).length := by rw [mkO_cos, mkOr_cos, List.length_map, List.length_map]
  have hnl : nv.length = (mkO X outs y).length := by
    have := h0.len
    simp only [List.length_append] at this
    omega
  have up : ∀ (j : Nat) (o : Ob D) (v : Value), (mkOr X τ outs y)[j]? = some o → nv[j]? = some v → ∃ q ∈ cos outs y, o = OC.mkr X τ q.c q.x false ∧ (O0 ++ mkO X outs y)[O0.length + j]? = some (OC.mk X q.c q.x false) ∧ (vs0 ++ nv)[O0.length + j]? = some v := by
    intro j o v ho hv
    rw [mkOr_cos, List.getElem?_map] at ho
    cases hq : (cos outs y)[j]? with
    | none => rw [hq] at ho; cases ho
    | some q =>
      rw [hq] at ho
      cases ho
      refine ⟨q, List.mem_of_getElem? hq, rfl, ?_, ?_⟩
      · rw [List.getElem?_append_right (by omega), show O0.length + j - O0.length = j by omega, mkO_cos, List.getElem?_map, hq]
        rfl
      · rw [List.getElem?_append_right (by omega), hl, show O0.length + j - O0.length = j by omega]
        exact hv
  refine h3.adds (hnl.trans hcl) hlt (fun j o v ho hv => ?_) (fun i j o p v w hij ho hp hv hw => ?_)
  · obtain ⟨q, hq, rfl, g1, g2⟩ := up j o v ho hv
    have hob := h0.obj _ _ v g1 g2
    exact born (newOk_at hn hq) h1.st.next (OC.mkr_ok (τ' := τ) (vs' := vs ++ nv) false hob fun n _ u hu => hτ n u hu)
  · obtain ⟨q, hq, rfl, g1, g2⟩ := up i o v ho hv
    obtain ⟨q', hq', rfl, g3, g4⟩ := up j p w hp hw
    exact h0.ap _ _ _ _ v w (by omega) g1 g3 OC.mk_live OC.mk_live g2 g4
theorem newOk_nc : ∀ {its : List It}, newOk its = true → ∀ d c, It.v d c ∈ its → c.nc = true
  | .v d c :: its, h, d', c', hm => by
    have h := Bool.and_eq_true_iff.1 h
    rcases List.mem_cons.1 hm with he | hm
    · cases he; exact h.1
    · exact newOk_nc (its := its) h.2 d' c' hm
  | .u d c :: its, h, d', c', hm => by
    rcases List.mem_cons.1 hm with he | hm
    · cases he
    · exact newOk_nc (its := its) h d' c' hm
  | .o d c :: its, h, d', c', hm => by
    rcases List.mem_cons.1 hm with he | hm
    · cases he
    · refine newOk_nc (its := its) ?_ d' c' hm
      cases c <;> first | exact h | cases h
theorem out_rl {outs : List It} {y : inT D outs} {ofx : List (Nat × SV D)} {vs0 vs1 : List Value} {τ : Nat → Nat} (hn : newOk outs = true) (ho : (ofx.all fun p => simpS p.2) = true) (h : ∀ q ∈ mkE X outs y ++ ofx, rel X.G z vs0 q.2 (fr q.1)) (hv : ∀ (j : Nat) (u : Value), vs0[j]? = some u → vs1[τ j]? = some u) :
    Rl X z vs1 (mkE X outs y ++ ofx.map fun q => (q.1, rnS τ q.2)) fr := by
  refine Rl_of fun q hq => ?_
  rcases List.mem_append.1 hq with hq | hq
  · obtain ⟨d, c, a, hd, hc⟩ := mkE_mk hq
    have := h q (List.mem_append.2 (.inl hq))
    rw [hc] at this ⊢
    exact Cl.mk_vs (newOk_nc hn d c hd) this
  · obtain ⟨q0, hq0, rfl⟩ := List.mem_map.1 hq
    exact rn_ok (List.all_eq_true.1 ho q0 hq0) (h q0 (List.mem_append.2 (.inr hq0))) fun j u _ hu => hv j u hu
theorem rcvG_ok {t b : Nat} {o : Ob D} {x : D t} (hg : rcvG X t (some o) = some x) (ho : ObOk X.G z e m k vs o (.pointer (some ⟨b, 0, none⟩))) :
    o.live = true ∧ (e.next ≤ b ∨ k = some b) ∧ (∀ vs', ObOk X.G z m m (some b) vs' (.recv t (lvX X t x) false : Ob D) (.pointer (some ⟨b, 0, none⟩))) ∧
    (∀ {z2 : Nat → Blk} {m1 : Mem} {w : Bool} {a : D t} {ws : List Value}, ObOk X.G z2 m m1 (some b) ws (.recv t (lvX X t a) w : Ob D) (.pointer (some ⟨b, 0, none⟩)) → ObOk X.G z2 e m1 k vs (rcvP t (lvX X t a) o) (.pointer (some ⟨b, 0, none⟩)) ∧ (o.clean = true → a = x → ObOk X.G z2 e m1 k vs o (.pointer (some ⟨b, 0, none⟩)))) := by
  unfold rcvG at hg
  split at hg
  · rename_i t' cs w heq
    cases heq
    obtain ⟨ht, hg⟩ := ite_some hg
    subst ht
    obtain ⟨c, ds, h1, h2, h3, h4⟩ := ho
    cases h1
    refine ⟨rfl, .inl h3, fun vs' => ⟨b, ds, rfl, ⟨h2.blk, h2.lt, h2.dead, .inr rfl⟩, pkX_lv hg h4⟩, ?_⟩
    intro z2 m1 w a ws hr
    obtain ⟨c, ds', g1, g2, g3⟩ := hr
    cases g1
    refine ⟨⟨b, ds', rfl, ⟨g2.blk, g2.lt, g2.dead, .inl h3⟩, h3, lvX_vs g3⟩, fun hc ha => ?_⟩
    subst ha
    rw [pkX_n hg hc]
    exact ⟨b, ds', rfl, ⟨g2.blk, g2.lt, g2.dead, .inl h3⟩, h3, lvX_vs g3⟩
  · rename_i t' cs w heq
    cases heq
    obtain ⟨ht, hg⟩ := ite_some hg
    subst ht
    obtain ⟨c, ds, h1, h2, h4⟩ := ho
    cases h1
    refine ⟨rfl, h2.fresh, fun vs' => ⟨b, ds, rfl, ⟨h2.blk, h2.lt, h2.dead, .inr rfl⟩, pkX_lv hg h4⟩, ?_⟩
    intro z2 m1 w a ws hr
    obtain ⟨c, ds', g1, g2, g3⟩ := hr
    cases g1
    refine ⟨⟨b, ds', rfl, ⟨g2.blk, g2.lt, g2.dead, h2.fresh⟩, lvX_vs g3⟩, fun hc ha => ?_⟩
    subst ha
    rw [pkX_n hg hc]
    exact ⟨b, ds', rfl, ⟨g2.blk, g2.lt, g2.dead, h2.fresh⟩, lvX_vs g3⟩
  · cases hg
def FD.quiet (d : FD D) : Bool := d.flat && d.rcv.isNone
def CallOk (X : Ev P D) (d : FD D) (F : d.F) : Prop := ∀ (svs : List (SV D)) (O : List (Ob D)) {ρ : Type} (K : SV D → List (Ob D) → Option ρ) (r : ρ) {z : Nat → Blk} {e m : Mem} {k : Option Nat} {vs : List Value} (args : List Value),
  Mm X.G O z e m k vs → L2 (rel X.G z vs) svs args → d.call X F svs O K = some r → CallW P d.f args.toArray m fun v m' => Nxt X O z e k vs K r v m' ∧ (d.quiet = true → m' = m) ∧ ∃ q, Chg m m' q ∧ TgtQ vs (boxesOf svs) q
theorem Same.chg {q : Option Nat} (h : Same m m1 q) : Chg m m1 q := ⟨h.next, h.blk⟩
theorem boxes_at {i off d : Nat} : ∀ {l : List (SV D)} {n : Nat}, lkE (enumE n l) d = .box i off → i ∈ boxesOf l
  | [], n, h => by cases h
  | s :: l, n, h => by
    simp only [enumE, lkE] at h
    split at h
    · subst h; exact List.mem_cons_self
    · have := boxes_at h
      cases s <;> first | exact this | exact List.mem_cons_of_mem _ this
theorem FOk.call {d : FD D} {F : d.F} (hF : FOk P X d F) : CallOk X d F := by
  intro svs O ρ K r z e m k vs args hM hL h
  obtain ⟨fn, c, f1, f2, f3, f4, f5, hB⟩ := hF.ex
  have hnew := hF.new
  have hso := hF.so
  unfold FD.call at h
  obtain ⟨hlen, h⟩ := ite_some h
  have hlen := Nat.eq_of_beq_eq_true hlen
  split at h
  · rename_i avs O1 hf
    obtain ⟨hx, h⟩ := ite_some h
    split at h
    · rename_i x hb
      have hsz : args.toArray.size ≤ fn.ntmps := by
        rw [List.size_toArray, ← hL.length, hlen]
        exact Nat.le_of_ble_eq_true f4
      have hE : ∀ fr : Nat → Value, (∀ i v, args.toArray.toList[i]? = some v → fr i = v) → Rl X z vs (enumE 0 svs) fr := fun fr hfr => enumE_at hL fun j v hj => by rw [Nat.zero_add]; exact hfr j v (by simpa using hj)
      obtain ⟨f, np, ins, fx, rcv, rk, outs, ofx, rvs, flat⟩ := d
      cases rcv with
      | none =>
        obtain ⟨y, hy, h⟩ := bind_some h
        split at h
        · rename_i sv hsv
          have body : ∀ fr : Nat → Value, (∀ i v, args.toArray.toList[i]? = some v → fr i = v) → W P c (fun ex fr1 m1 => (ex = .normal ∨ ex = .ret) ∧ ∃ z1 z2 nv, Inv O O1 ∧ Zx e.next z z1 ∧ Mm X.G O1 z1 e m k vs ∧ Zx m.next z1 z2 ∧ Mm X.G (mkO X outs (ofOut outs y)) z2 m m1 none nv ∧ ∃ fr2, resultsR P fr1 m1 rvs ((resOf VB rvs).map fr2) ∧ (rel X.G z2 (vs ++ nv) sv (pack ((resOf VB rvs).map fr2)) ∧ (((resOf VB rvs).map fr2).length = 1 ∨ ∀ x ∈ (resOf VB rvs).map fr2, storable x = true))) fr m := by
            intro fr hfr
            obtain ⟨z1, g0, g1, g2, g3⟩ := frzA_ok hM (hE fr hfr) hf
            have hrl := start_rl (vs0 := []) ((hE fr hfr).mono g1.le fun _ _ h => h) g3 hb hx
            refine (hB () x y (z := z1) (m := m) (kk := none) (vs0 := []) hy g2.nil (Rl_of fun p hp => hrl p (by simpa [rE] using hp))).mono ?_
            rintro ex fr1 m1 ⟨he, fr2, q1, z2, nv, k1, k2, k3⟩
            have k2 : Mm X.G (mkO X outs (ofOut outs y)) z2 m m1 none nv := k2
            refine ⟨he, z1, z2, nv, g0, g1, g2, k1, k2, fr2, q1, resE_ok (out_rl (vs0 := nv) hnew hso k3 fun j u hu => ?_) hsv⟩
            show (vs ++ nv)[O1.length + j]? = some u
            rw [List.getElem?_append_right (by rw [g2.len]; omega), g2.len, show O1.length + j - O1.length = j by omega]
            exact hu
          split at h
          · split at h
            · rename_i w hw
              obtain ⟨w1, w2⟩ := flatS_self (X := X) (z := z) (vs := vs) hw
              refine (CallW.flat (z := z) f1 f2 f3 hsz w2 fun fr hfr => (body fr hfr).mono ?_).mono ?_
              · rintro ex fr1 m1 ⟨he, z1, z2, nv, _, _, _, _, k2, fr2, q1, k3, k4⟩
                exact ⟨he, z2, k2.st, _, by rw [f5]; exact q1, k4, (flatS_ok hw k3).1⟩
              · rintro v m' ⟨rfl, rfl⟩
                exact ⟨Nxt.here hM w1 h, fun _ => rfl, none, Chg.refl _, .inl rfl⟩
            · cases h
          · rename_i hnf
            refine CallW.any f1 f2 f3 hsz fun fr hfr => (body fr hfr).mono ?_
            rintro ex fr1 m1 ⟨he, z1, z2, nv, g0, g1, g2, k1, k2, fr2, q1, k3, k4⟩
            obtain ⟨s1, s2⟩ := st_call (e := e) (k := k) g2.st k2.st (by simp)
            refine ⟨he, _, by rw [f5]; exact q1, k4, ⟨z2, vs ++ nv, sv, _, g0.trans (Inv.app _ _), g1.trans (k1.anti hM.st.next), ext_get, ?_, k3, h⟩, fun hq => absurd (by simpa [FD.quiet] using hq) hnf, none, s2.chg, .inl rfl⟩
            have h3 := g2.call k1 s2 s1 rfl fun j o' hj => .inl ⟨hj, fun _ v _ => Ap.none'⟩
            have hnum0 : ∀ (j : Nat) (u : Value), ([] ++ nv)[j]? = some u → (vs ++ nv)[O1.length + j]? = some u := fun j u hu => by
              rw [List.getElem?_append_right (by rw [g2.len]; omega), g2.len, show O1.length + j - O1.length = j by omega]
              exact hu
            exact after (O0 := []) (vs0 := []) g2 h3 k2 rfl hnew (fun j o v ho hv hl b hb => ((g2.obj j o v ho hv).lt hl b hb).1) hnum0
        · cases h
      | some p =>
        unfold goCall at h
        dsimp only at h
        split at h
        · rename_i i hi
          split at h
          · rename_i o ho
            obtain ⟨rr, hrr, h⟩ := bind_some h
            obtain ⟨y, hy, h⟩ := bind_some h
            split at h
            · rename_i sv hsv
              refine CallW.any f1 f2 f3 hsz fun fr hfr => ?_
              obtain ⟨z1, g0, g1, g2, g3⟩ := frzA_ok hM (hE fr hfr) hf
              have hrl := fun vs0 => start_rl (vs0 := vs0) ((hE fr hfr).mono g1.le fun _ _ h => h) g3 hb hx
              have hp := hE fr hfr p.1
              rw [hi] at hp
              obtain ⟨b, b1, b2⟩ := hp
              have hob := g2.obj i o _ ho b1
              obtain ⟨r1, r2, r3, r4⟩ := rcvG_ok hrr hob
              have hM0 : Mm X.G (rO X (some p) rr) z1 m m (some b) [.pointer (some ⟨b, 0, none⟩)] := by
                refine ⟨St.start g2.st.fz g2.st.dead, rfl, fun j o' v hj hv => ?_, fun a b' o' p' v w hab ha hb' => ?_⟩
                · cases j with
                  | zero => simp [rO] at hj hv; subst hj hv; exact r3 _
                  | succ j => simp [rO] at hj
                · cases a with
                  | zero => cases b' with
                    | zero => exact absurd rfl hab
                    | succ b' => simp [rO] at hb'
                  | succ a => simp [rO] at ha
              refine (hB rr x y (z := z1) (m := m) (kk := some b) (vs0 := [.pointer (some ⟨b, 0, none⟩)]) hy hM0 (Rl_of fun q hq => ?_)).mono ?_
              · rcases List.mem_append.1 hq with hq | hq
                · exact hrl _ q (List.mem_append.2 (.inl hq))
                · rcases List.mem_append.1 hq with hq | hq
                  · exact hrl _ q (List.mem_append.2 (.inr hq))
                  · simp only [rE, List.mem_cons, List.not_mem_nil, or_false] at hq
                    subst hq
                    exact ⟨b, rfl, b2⟩
              rintro ex fr1 m1 ⟨he, fr2, q1, z2, nv, k1, k2, k3⟩
              obtain ⟨s1, s2⟩ := st_call (e := e) (k := k) g2.st k2.st (fun c hc => by cases hc; exact r2)
              have hi0 : i < O1.length := (List.getElem?_eq_some_iff.1 ho).1
              have hnum : ∀ (j : Nat) (u : Value), ([Value.pointer (some ⟨b, 0, none⟩)] ++ nv)[j]? = some u → (vs ++ nv)[num1 i O1.length j]? = some u := by
                intro j u hu
                cases j with
                | zero =>
                  simp at hu; subst hu
                  show (vs ++ nv)[i]? = _
                  exact ext_get _ _ b1
                | succ j =>
                  simp at hu
                  show (vs ++ nv)[O1.length + (j + 1 - 1)]? = _
                  rw [List.getElem?_append_right (by rw [g2.len]; omega), g2.len, show O1.length + (j + 1 - 1) - O1.length = j by omega]
                  exact hu
              have hres := resE_ok (out_rl hnew hso k3 hnum) hsv
              have k2 : Mm X.G (([if rk = 1 then (.recv p.2 (lvX X p.2 rr) false : Ob D) else if rk = 2 then updOf X idN outs (ofOut outs y) 0 else .dead] : List (Ob D)) ++ mkO X outs (ofOut outs y)) z2 m m1 (some b) ([.pointer (some ⟨b, 0, none⟩)] ++ nv) := k2
              have hh := k2.obj 0 _ (.pointer (some ⟨b, 0, none⟩)) rfl rfl
              have apart : ∀ (j : Nat) (o' : Ob D), j ≠ i → O1[j]? = some o' → o'.live = true → ∀ v, vs[j]? = some v → Ap (blkV v) (some b) := fun j o' hji hj hl v hv => g2.ap j i o' o v _ hji hj ho hl r1 hv b1
              have lt1 : ∀ (j : Nat) (o' : Ob D) (v : Value), O1[j]? = some o' → vs[j]? = some v → o'.live = true → ∀ c, blkV v = some c → c < m.next := fun j o' v ho hv hl c hc => ((g2.obj j o' v ho hv).lt hl c hc).1
              have fin : ∀ {O3 : List (Ob D)}, Inv O1 O3 → Mm X.G O3 z2 e m1 k vs → (∀ (j : Nat) (o' : Ob D) (v : Value), O3[j]? = some o' → vs[j]? = some v → o'.live = true → ∀ c, blkV v = some c → c < m.next) → K sv (O3 ++ mkOr X (num1 i O1.length) outs (ofOut outs y)) = some r → Nxt X O z e k vs K r (pack ((resOf VB rvs).map fr2)) m1 := by
                intro O3 hi3 h3 hlt hK
                exact ⟨z2, vs ++ nv, sv, _, (g0.trans hi3).trans (Inv.app _ _), g1.trans (k1.anti hM.st.next), ext_get, after g2 h3 k2 rfl hnew hlt hnum, hres.1, hK⟩
              have turn : ∀ {o3 : Ob D}, o3.tch = true → (∀ v, vs[i]? = some v → ObOk X.G z2 e m1 k vs o3 v) → K sv (O1.set i o3 ++ mkOr X (num1 i O1.length) outs (ofOut outs y)) = some r → Nxt X O z e k vs K r (pack ((resOf VB rvs).map fr2)) m1 := by
                intro o3 ht h3 hK
                refine fin (Inv.set O1 i (.inr ht)) (g2.call k1 s2 s1 (by simp) fun j o' hj => ?_) (fun j o' v hj hv hl c hc => ?_) hK
                · rw [List.getElem?_set] at hj
                  split at hj
                  · rename_i hij
                    subst hij
                    simp [hi0] at hj
                    subst hj
                    exact .inr ⟨o, ho, r1, h3⟩
                  · rename_i hij
                    exact .inl ⟨hj, fun hl v hv => apart j o' (fun e => hij e.symm) hj hl v hv⟩
                · rw [List.getElem?_set] at hj
                  split at hj
                  · rename_i hij
                    subst hij
                    exact lt1 i o v ho hv r1 c hc
                  · exact lt1 j o' v hj hv hl c hc
              refine ⟨he, _, by rw [f5]; exact q1, hres.2, ?_, fun hq => absurd hq (by simp [FD.quiet]), some b, s2.chg, .inr ⟨i, boxes_at hi, _, b1, rfl⟩⟩
              split at h
              · rename_i hk2
                rw [if_neg (by omega), if_pos hk2] at hh
                split at h
                · rename_i t cs w hu
                  obtain ⟨ht, h⟩ := ite_some h
                  rcases updOf_mk (X := X) (its := outs) (x := ofOut outs y) (j := 0) with hd | ⟨_, c', a', _, hd⟩
                  · rw [hd] at hu; cases hu
                  · cases c' with
                    | recv t' =>
                      have hd := hd idN
                      have hd' := hd
                      rw [hu] at hd
                      simp only [OC.mkr] at hd
                      cases hd
                      subst ht
                      rw [hd'] at hh
                      refine turn ?_ (fun v hv => ?_) h
                      · unfold rcvP; split <;> rfl
                      · rw [b1] at hv; cases hv
                        exact (r4 hh).1
                    | _ => rw [hd] at hu; cases hu
                · cases h
              · obtain ⟨hk1, h⟩ := ite_some h
                rw [if_pos hk1] at hh
                split at h
                · rename_i hcl
                  refine fin (Inv.refl O1) (g2.call k1 s2 s1 rfl fun j o' hj => ?_) lt1 h
                  by_cases hji : j = i
                  · subst hji
                    rw [ho] at hj; cases hj
                    exact .inr ⟨o, ho, r1, fun v hv => by rw [b1] at hv; cases hv; exact (r4 hh).2 hcl rfl⟩
                  · exact .inl ⟨hj, fun hl v hv => apart j o' hji hj hl v hv⟩
                · refine turn ?_ (fun v hv => ?_) h
                  · unfold rcvP; split <;> rfl
                  · rw [b1] at hv; cases hv
                    exact (r4 hh).1
            · cases h
          · cases h
        · cases h
    · cases h
  · cases h
structure FE (D : Nat → Type) where
  d : FD D
  F : d.F
def FD.fits (X : Ev P D) (d : FD D) (svs : List (SV D)) (O : List (Ob D)) : Bool :=
  Nat.beq svs.length d.np && match frzA (enumE 0 svs) d.ins O with
  | some (avs, O1) => (d.fx.all fun p => fxT [] p.2 (lkE (enumE 0 svs) p.1)) && (rdB X [] O1 d.ins avs []).isSome
  | none => false
def goCalls (X : Ev P D) : List (FE D) → Nat → List (SV D) → List (Ob D) → {ρ : Type} → (SV D → List (Ob D) → Option ρ) → Option ρ
  | [], _, _, _, _, _ => none
  | x :: l, f, svs, O, _, K => if (Nat.beq x.d.f f && x.d.fits X svs O) = true then x.d.call X x.F svs O K else goCalls X l f svs O K
def goFlat (X : Ev P D) : List (FE D) → Nat → List (SV D) → List (Ob D) → Bool
  | [], _, _, _ => false
  | x :: l, f, svs, O => if (Nat.beq x.d.f f && x.d.fits X svs O) = true then x.d.quiet else goFlat X l f svs O
structure ChQ (D : Nat → Type) where
  F : (f : Nat) → List (SV D) → List (Ob D) → Bool
  U : Operand → Option Operand → Option Operand → Nat
  C : (f : Nat) → List (SV D) → List (Ob D) → {ρ : Type} → (SV D → List (Ob D) → Option ρ) → Option ρ
  W : (f : Nat) → Bool
def Ev.ch (X : Ev P D) (q : ChQ D) : Ev P D := { X with C := q.C, F := q.F, U := q.U, W := q.W }
def Ev.with (X : Ev P D) (l : List (FE D)) : Ev P D := X.ch ⟨goFlat X l, X.U, goCalls X l, X.W⟩
def Ev.cuts (X : Ev P D) (f : Operand → Option Operand → Option Operand → Nat) : Ev P D := X.ch ⟨X.F, f, X.C, X.W⟩
theorem lvX_with (l : ChQ D) (t : Nat) (x : D t) : lvX (X.ch l) t x = lvX X t x := by
  cases hI : X.I t with
  | none =>
    have h2 : (X.ch l).I t = none := hI
    unfold lvX
    rw [hI, h2]
  | some ti =>
    have h2 : (X.ch l).I t = some ti := hI
    unfold lvX
    rw [hI, h2]
theorem pkX_with (l : ChQ D) (t : Nat) (cs : List (CV D)) : pkX (X.ch l) t cs = pkX X t cs := by
  cases hI : X.I t with
  | none =>
    have h2 : (X.ch l).I t = none := hI
    unfold pkX
    rw [hI, h2]
  | some ti =>
    have h2 : (X.ch l).I t = some ti := hI
    unfold pkX
    rw [hI, h2]
theorem mkCaps_with (l : ChQ D) : ∀ (ts : List Nat) (x : inDs D ts), mkCaps (X.ch l) ts x = mkCaps X ts x
  | [], _ => rfl
  | t :: ts, x => by
    show (t, lvX (X.ch l) t x.1) :: mkCaps (X.ch l) ts x.2 = (t, lvX X t x.1) :: mkCaps X ts x.2
    rw [mkCaps_with l ts x.2, lvX_with l t x.1]
theorem gtCaps_with (l : ChQ D) : ∀ (ts : List Nat) (x : List (Nat × List (CV D))), gtCaps (X.ch l) ts x = gtCaps X ts x
  | [], [] => rfl
  | [], _ :: _ => rfl
  | _ :: _, [] => rfl
  | t :: ts, p :: x => by
    simp only [gtCaps, gtCaps_with l ts x, pkX_with]
theorem Cl.mk_with (l : ChQ D) (c : Cl) (x : c.ty D) : Cl.mk (X.ch l) c x = Cl.mk X c x := by
  cases c with
  | fn f ts => exact congrArg (SV.fn f) (mkCaps_with l ts x)
  | agg t => exact congrArg (SV.agg t) (lvX_with l t x)
  | rp t => exact congrArg (fun cs => SV.rp t cs 0) (lvX_with l t x)
  | _ => rfl
theorem Cl.get_with (l : ChQ D) (c : Cl) (s : SV D) : Cl.get (X.ch l) c s = Cl.get X c s := by
  unfold Cl.get
  split
  · rfl
  · rfl
  · rfl
  · rfl
  · rfl
  · rfl
  · rfl
  · rename_i t t' cs
    exact congrArg (fun q : Option (D t) => if t' = t then q else none) (pkX_with l t cs)
  · rename_i t t' cs off
    exact congrArg (fun q : Option (D t) => if t' = t ∧ off = 0 then q else none) (pkX_with l t cs)
  · rename_i f ts f' cs
    exact congrArg (fun q : Option (inDs D ts) => if f' = f then q else none) (gtCaps_with l ts cs)
  · rfl
  · rfl
theorem OC.mkr_with (l : ChQ D) (τ : Nat → Nat) (c : OC) (x : c.ty D) (w : Bool) : OC.mkr (X.ch l) τ c x w = OC.mkr X τ c x w := by
  cases c with
  | box t => exact congrArg (fun cs => Ob.box t cs false w) (lvX_with l t x)
  | recv t => exact congrArg (fun cs => Ob.recv t cs w) (lvX_with l t x)
  | bx t p => exact congrArg (fun cs => Ob.box t (ownG τ p 0 cs) false w) (lvX_with l t x)
  | _ => rfl
theorem OC.mk_with (l : ChQ D) (c : OC) (x : c.ty D) (w : Bool) : OC.mk (X.ch l) c x w = OC.mk X c x w := OC.mkr_with l _ c x w
theorem OC.get_with (l : ChQ D) (σ : List Nat) (c : OC) (o : Ob D) : OC.get (X.ch l) σ c o = OC.get X σ c o := by
  unfold OC.get
  split
  · rfl
  · rename_i t t' cs w
    exact congrArg (fun q : Option (D t) => if t' = t then q else none) (pkX_with l t cs)
  · rename_i t t' cs w
    exact congrArg (fun q : Option (D t) => if t' = t then q else none) (pkX_with l t cs)
  · rfl
  · rfl
  · rename_i t p t' cs w
    exact congrArg (fun q : Option (D t) => if t' = t ∧ linkB σ cs p = true then q else none) (pkX_with l t (nilG p 0 cs))
  · rfl
  · rfl
theorem rcvG_with (l : ChQ D) (t : Nat) (o : Option (Ob D)) : rcvG (X.ch l) t o = rcvG X t o := by
  unfold rcvG
  split
  · rw [pkX_with]
  · rw [pkX_with]
  · rfl
theorem rdB_with (l : ChQ D) {σ0 : List Nat} : ∀ (its : List It) (avs : List (SV D)) (σ : List Nat), rdB (X.ch l) σ0 O its avs σ = rdB X σ0 O its avs σ
  | [], _, [] => rfl
  | [], _, _ :: _ => by simp [rdB]
  | .v _ _ :: _, [], _ => by simp [rdB]
  | .o _ _ :: _, [], _ => by simp [rdB]
  | .u _ _ :: _, [], _ => by simp [rdB]
  | .v d c :: its, s :: avs, σ => by simp only [rdB, Cl.get_with, rdB_with l its avs σ]
  | .o d c :: its, s :: avs, [] => rfl
  | .o d c :: its, s :: avs, i :: σ => by simp only [rdB, OC.get_with, rdB_with l its avs σ]
  | .u d c :: its, s :: avs, σ => by simp only [rdB, OC.get_with, rdB_with l its avs σ]
theorem mkO_with (l : ChQ D) : ∀ (its : List It) (x : inT D its), mkO (X.ch l) its x = mkO X its x
  | [], _ => rfl
  | .v d c :: its, x => mkO_with l its x.2
  | .u d c :: its, x => mkO_with l its x.2
  | .o d c :: its, x => by
    show OC.mk (X.ch l) c x.1 false :: mkO (X.ch l) its x.2 = OC.mk X c x.1 false :: mkO X its x.2
    rw [mkO_with l its x.2]
    exact congrArg (fun q => q :: mkO X its x.2) (OC.mk_with l c x.1 false)
theorem mkOr_with (l : ChQ D) {τ : Nat → Nat} : ∀ (its : List It) (x : inT D its), mkOr (X.ch l) τ its x = mkOr X τ its x
  | [], _ => rfl
  | .v d c :: its, x => mkOr_with l its x.2
  | .u d c :: its, x => mkOr_with l its x.2
  | .o d c :: its, x => by
    show OC.mkr (X.ch l) τ c x.1 false :: mkOr (X.ch l) τ its x.2 = OC.mkr X τ c x.1 false :: mkOr X τ its x.2
    rw [mkOr_with l its x.2]
    exact congrArg (fun q => q :: mkOr X τ its x.2) (OC.mkr_with l τ c x.1 false)
theorem mkE_with (l : ChQ D) : ∀ (its : List It) (x : inT D its), mkE (X.ch l) its x = mkE X its x
  | [], _ => rfl
  | .v d c :: its, x => by
    show (d, Cl.mk (X.ch l) c x.1) :: mkE (X.ch l) its x.2 = (d, Cl.mk X c x.1) :: mkE X its x.2
    rw [mkE_with l its x.2]
    exact congrArg (fun q => (d, q) :: mkE X its x.2) (Cl.mk_with l c x.1)
  | .u d c :: its, x => mkE_with l its x.2
  | .o d c :: its, x => mkE_with l its x.2
theorem updOf_with (l : ChQ D) {τ : Nat → Nat} : ∀ (its : List It) (x : inT D its) (j : Nat), updOf (X.ch l) τ its x j = updOf X τ its x j
  | [], _, _ => rfl
  | .v d c :: its, x, j => updOf_with l its x.2 j
  | .u d c :: its, x, j => by
    show (if Nat.beq d j = true then OC.mkr (X.ch l) τ c x.1 true else updOf (X.ch l) τ its x.2 j) = (if Nat.beq d j = true then OC.mkr X τ c x.1 true else updOf X τ its x.2 j)
    rw [updOf_with l its x.2 j]
    exact congrArg (fun q => if Nat.beq d j = true then q else updOf X τ its x.2 j) (OC.mkr_with l τ c x.1 true)
  | .o d c :: its, x, j => updOf_with l its x.2 j
theorem call_with (l : ChQ D) (d : FD D) (F : d.F) (svs : List (SV D)) (O : List (Ob D)) {ρ : Type} (K : SV D → List (Ob D) → Option ρ) : d.call (X.ch l) F svs O K = d.call X F svs O K := by
  obtain ⟨f, np, ins, fx, rcv, rk, outs, ofx, res, flat⟩ := d
  unfold FD.call
  dsimp only
  simp only [rdB_with]
  cases rcv with
  | none => simp only [goCall, mkE_with, mkOr_with]
  | some p =>
    simp only [goCall, mkE_with, mkOr_with, updOf_with, rcvG_with, lvX_with]
theorem CallOk.base {l : List (FE D)} {d : FD D} {F : d.F} (h : CallOk (X.with l) d F) : CallOk X d F := by
  intro svs O ρ K r z e m k vs args hM hL hc
  rw [← call_with ⟨goFlat X l, X.U, goCalls X l, X.W⟩] at hc
  exact h svs O K r args hM hL hc
theorem COk.cuts {f : Operand → Option Operand → Option Operand → Nat} (h : COk X) : COk (X.cuts f) := h
theorem CallOk.cuts {f : Operand → Option Operand → Option Operand → Nat} {d : FD D} {F : d.F} (h : CallOk (X.cuts f) d F) : CallOk X d F := by
  intro svs O ρ K r z e m k vs args hM hL hc
  rw [← call_with ⟨X.F, f, X.C, X.W⟩] at hc
  exact h svs O K r args hM hL hc
def Ev.sub (X : Ev P D) (x : FE D) : Ev P D := X.ch ⟨fun f svs O => if Nat.beq x.d.f f = true then false else X.F f svs O, X.U, fun f svs O _ K => if Nat.beq x.d.f f = true then x.d.call X x.F svs O K else X.C f svs O K, X.W⟩
theorem COk.sub {x : FE D} (h : COk X) (hx : CallOk X x.d x.F) : COk (X.sub x) := by
  intro f svs O ρ K r z e m k vs args hM hL hc
  have hc : (if Nat.beq x.d.f f = true then x.d.call X x.F svs O K else X.C f svs O K) = some r := hc
  have hF : (X.sub x).F f svs O = if Nat.beq x.d.f f = true then false else X.F f svs O := rfl
  rw [hF]
  split at hc
  · rename_i hf
    rw [if_pos hf]
    have hf := Nat.eq_of_beq_eq_true hf
    rw [← hf]
    exact (hx svs O K r args hM hL hc).mono fun v m' h => ⟨h.1, fun hh => Bool.noConfusion hh, fun _ => h.2.2⟩
  · rename_i hf
    rw [if_neg hf]
    exact h f svs O K r args hM hL hc
theorem CallOk.sub {x : FE D} {d : FD D} {F : d.F} (h : CallOk (X.sub x) d F) : CallOk X d F := by
  intro svs O ρ K r z e m k vs args hM hL hc
  unfold Ev.sub at h
  rw [← call_with ⟨fun f svs O => if Nat.beq x.d.f f = true then false else X.F f svs O, X.U, fun f svs O _ K => if Nat.beq x.d.f f = true then x.d.call X x.F svs O K else X.C f svs O K, X.W⟩] at hc
  exact h svs O K r args hM hL hc
def orI {α : Type} (a b : Option α) : Option α := match a with | some r => some r | none => b
theorem orI_or {α : Type} {a b : Option α} {y : α} (h : orI a b = some y) : a = some y ∨ b = some y := by
  unfold orI at h
  split at h
  · exact .inl h
  · exact .inr h
theorem CallOk.or {d : FD D} {F F1 F2 : d.F} (hr : d.rcv = none) (hF : ∀ r x y, F r x = some y → F1 r x = some y ∨ F2 r x = some y) (h1 : CallOk X d F1) (h2 : CallOk X d F2) : CallOk X d F := by
  intro svs O ρ K r z e m k vs args hM hL hc
  have key : d.call X F1 svs O K = some r ∨ d.call X F2 svs O K = some r := by
    obtain ⟨f, np, ins, fx, rcv, rk, outs, ofx, rvs, flat⟩ := d
    unfold FD.call at hc ⊢
    obtain ⟨hn, hc⟩ := ite_some hc
    rw [if_pos hn, if_pos hn]
    split at hc
    · rename_i avs O1 hf
      obtain ⟨hx, hc⟩ := ite_some hc
      simp only [hf, if_pos hx]
      split at hc
      · rename_i x hb
        simp only [hb]
        cases rcv with
        | none =>
          unfold goCall at hc ⊢
          obtain ⟨y, hy, hc⟩ := bind_some hc
          rcases hF () x y hy with g | g
          · left
            show Option.bind (F1 () x) _ = some r
            rw [g]; exact hc
          · right
            show Option.bind (F2 () x) _ = some r
            rw [g]; exact hc
        | some p => cases hr
      · cases hc
    · cases hc
  rcases key with hk | hk
  · exact h1 svs O K r args hM hL hk
  · exact h2 svs O K r args hM hL hk
theorem CallOk.up {l : List (FE D)} {d : FD D} {F : d.F} (h : CallOk X d F) : CallOk (X.with l) d F := by
  intro svs O ρ K r z e m k vs args hM hL hc
  have hc : d.call (X.ch ⟨goFlat X l, X.U, goCalls X l, X.W⟩) F svs O K = some r := hc
  rw [call_with] at hc
  exact h svs O K r args hM hL hc
theorem goCalls_ok {f : Nat} {svs : List (SV D)} {K : SV D → List (Ob D) → Option ρ} {args : List Value} (hM : Mm X.G O z e m k vs) (hL : L2 (rel X.G z vs) svs args) : ∀ {l : List (FE D)}, (∀ x ∈ l, CallOk X x.d x.F) → goCalls X l f svs O K = some r → CallW P f args.toArray m fun v m' => Nxt X O z e k vs K r v m' ∧ (goFlat X l f svs O = true → m' = m) ∧ ∃ q, Chg m m' q ∧ TgtQ vs (boxesOf svs) q
  | [], _, hc => by cases hc
  | x :: l, h, hc => by
    unfold goCalls at hc
    unfold goFlat
    split at hc
    · rename_i hx
      rw [if_pos hx]
      simp only [Bool.and_eq_true] at hx
      have := Nat.eq_of_beq_eq_true hx.1
      subst this
      exact h x List.mem_cons_self svs O K r args hM hL hc
    · rename_i hx
      rw [if_neg hx]
      exact goCalls_ok hM hL (fun y hy => h y (List.mem_cons_of_mem _ hy)) hc
theorem COk.of {l : List (FE D)} (h : ∀ x ∈ l, CallOk X x.d x.F) : COk (X.with l) := by
  intro f svs O ρ K r z e m k vs args hM hL hc
  exact (goCalls_ok (X := X) hM hL h hc).mono fun v m' hh => ⟨hh.1, hh.2.1, fun _ => hh.2.2⟩
theorem all_call {l : List (FE D)} {x : FE D} (h : CallOk (X.with l) x.d x.F) (hl : ∀ y ∈ l, CallOk X y.d y.F) : ∀ y ∈ x :: l, CallOk X y.d y.F := by
  intro y hy
  rcases List.mem_cons.1 hy with rfl | hy
  · exact h.base
  · exact hl y hy
theorem all_call0 {l : List (FE D)} {x : FE D} (h : CallOk X x.d x.F) (hl : ∀ y ∈ l, CallOk X y.d y.F) : ∀ y ∈ x :: l, CallOk X y.d y.F := by
  intro y hy
  rcases List.mem_cons.1 hy with rfl | hy
  · exact h
  · exact hl y hy
theorem all_cons {l : List (FE D)} {x : FE D} (h : FOk P (X.with l) x.d x.F) (hl : ∀ y ∈ l, CallOk X y.d y.F) : ∀ y ∈ x :: l, CallOk X y.d y.F := by
  intro y hy
  rcases List.mem_cons.1 hy with rfl | hy
  · exact h.call.base
  · exact hl y hy
end
end
end Go.AM
end
section
set_option linter.unusedSimpArgs false
set_option linter.unusedVariables false
namespace Go.AM
inductive LT : Type 1 where
  | int (k : IntKind) | bool | str
  | sl (α : Type) (T : Ty α)
def LT.ty : LT → Type
  | .int _ => Int
  | .bool => Bool
  | .str => List UInt8
  | .sl α _ => List α
def LT.rd (z : Nat → Blk) : (l : LT) → l.ty → Value → Prop
  | .int k, n, v => v = .int k n
  | .bool, b, v => v = .bool b
  | .str, s, v => v = AM.str s
  | .sl _ T, xs, v => SlR T z xs v
def inL : List LT → Type
  | [] => Unit
  | l :: ls => l.ty × inL ls
def rdL (z : Nat → Blk) : (ls : List LT) → inL ls → List Value → Prop
  | [], _, [] => True
  | l :: ls, x, v :: vs => l.rd z x.1 v ∧ rdL z ls x.2 vs
  | _, _, _ => False
theorem rdL_len {z : Nat → Blk} : ∀ {ls : List LT} {x : inL ls} {cs : List Value}, rdL z ls x cs → cs.length = ls.length
  | [], _, [], _ => rfl
  | l :: ls, x, v :: vs, h => by simp [rdL_len h.2]
  | [], _, _ :: _, h => h.elim
  | _ :: _, _, [], h => h.elim
theorem rdL_mono {z z' : Nat → Blk} (hz : Zle z z') : ∀ {ls : List LT} {x : inL ls} {cs : List Value}, rdL z ls x cs → rdL z' ls x cs
  | [], _, [], _ => trivial
  | l :: ls, x, v :: vs, h => ⟨by
    have h1 := h.1
    cases l with
    | sl α T => exact SlR.mono hz h1
    | _ => exact h1, rdL_mono hz h.2⟩
  | [], _, _ :: _, h => h.elim
  | _ :: _, _, [], h => h.elim
theorem rdL_one {z : Nat → Blk} : ∀ {ls : List LT} {x : inL ls} {cs : List Value}, rdL z ls x cs → ∀ c ∈ cs, storable c = true ∧ c.cells = #[c]
  | [], _, [], _, c, hc => by simp at hc
  | l :: ls, x, v :: vs, h, c, hc => by
    rcases List.mem_cons.1 hc with rfl | hc
    · have h1 := h.1
      cases l with
      | sl α T => obtain ⟨a, c, rfl⟩ := SlR.len h1; exact ⟨rfl, rfl⟩
      | _ => obtain rfl := h1; exact ⟨rfl, rfl⟩
    · exact rdL_one h.2 c hc
  | [], _, _ :: _, h, _, _ => h.elim
  | _ :: _, _, [], h, _, _ => h.elim
def TyOf (t : TypeId) (ls : List LT) {α : Type} (to : α → inL ls) : Ty α where
  sz := ls.length
  tid := t
  rd := fun z x cs => rdL z ls (to x) cs
  len := fun _ _ _ h => rdL_len h
  mono := fun _ _ hz _ _ h => rdL_mono hz h
  one := fun _ _ _ h => rdL_one h
noncomputable section
inductive LC where
  | int (k : IntKind) | bool | str
  | sl (e : Nat)
section
variable {P : Program} {D : Nat → Type} (G : Tab D)
def LC.lt : LC → LT
  | .int k => .int k
  | .bool => .bool
  | .str => .str
  | .sl e => .sl (D e) (G.T e)
def toT : List LC → List LT
  | [] => []
  | c :: cs => c.lt G :: toT cs
def lvL : (ls : List LC) → inL (toT G ls) → List (CV D)
  | [], _ => []
  | .int k :: ls, x => .int k x.1 :: lvL ls x.2
  | .bool :: ls, x => .bool x.1 :: lvL ls x.2
  | .str :: ls, x => .str x.1 :: lvL ls x.2
  | .sl e :: ls, x => .sl e x.1 :: lvL ls x.2
def pkL : (ls : List LC) → List (CV D) → Option (inL (toT G ls))
  | [], [] => some ()
  | .int k :: ls, .int k' n :: cs => if k' = k then (match pkL ls cs with | some y => some (n, y) | none => none) else none
  | .bool :: ls, .bool b :: cs => (match pkL ls cs with | some y => some (b, y) | none => none)
  | .str :: ls, .str s :: cs => (match pkL ls cs with | some y => some (s, y) | none => none)
  | .sl e :: ls, .sl e' xs :: cs => if h : e' = e then (match pkL ls cs with | some y => some ((h ▸ xs : List (D e)), y) | none => none) else none
  | .sl e :: ls, .nilS :: cs => (match pkL ls cs with | some y => some (([] : List (D e)), y) | none => none)
  | _, _ => none
variable {G}
theorem lvL_ok {z : Nat → Blk} {vs : List Value} : ∀ {ls : List LC} {x : inL (toT G ls)} {cs : List Value}, rdL z (toT G ls) x cs → L2 (rel0 G z vs) (lvL G ls x) cs
  | [], _, [], _ => trivial
  | .int k :: ls, x, v :: w, h => ⟨h.1, lvL_ok h.2⟩
  | .bool :: ls, x, v :: w, h => ⟨h.1, lvL_ok h.2⟩
  | .str :: ls, x, v :: w, h => ⟨h.1, lvL_ok h.2⟩
  | .sl e :: ls, x, v :: w, h => ⟨h.1, lvL_ok h.2⟩
  | [], _, _ :: _, h => h.elim
  | .int _ :: _, _, [], h => h.elim
  | .bool :: _, _, [], h => h.elim
  | .str :: _, _, [], h => h.elim
  | .sl _ :: _, _, [], h => h.elim
theorem pkL_lv : ∀ {ls : List LC} (x : inL (toT G ls)), pkL G ls (lvL G ls x) = some x
  | [], _ => rfl
  | .int k :: ls, x => by
    show (if k = k then (match pkL G ls (lvL G ls x.2) with | some y => some (x.1, y) | none => none) else none) = _
    rw [pkL_lv x.2, if_pos rfl]; rfl
  | .bool :: ls, x => by
    show (match pkL G ls (lvL G ls x.2) with | some y => some (x.1, y) | none => none) = _
    rw [pkL_lv x.2]; rfl
  | .str :: ls, x => by
    show (match pkL G ls (lvL G ls x.2) with | some y => some (x.1, y) | none => none) = _
    rw [pkL_lv x.2]; rfl
  | .sl e :: ls, x => by
    show (if h : e = e then (match pkL G ls (lvL G ls x.2) with | some y => some ((h ▸ x.1 : List (D e)), y) | none => none) else none) = _
    rw [pkL_lv x.2, dif_pos rfl]; rfl
theorem pkL_ok {z : Nat → Blk} {vs : List Value} : ∀ {ls : List LC} {cs : List (CV D)} {x : inL (toT G ls)} {ds : List Value}, pkL G ls cs = some x → L2 (rel0 G z vs) cs ds → rdL z (toT G ls) x ds := by
  intro ls
  induction ls with
  | nil =>
    intro cs x ds h hr
    cases cs with
    | nil => cases ds with
      | nil => trivial
      | cons _ _ => exact hr.elim
    | cons c cs => cases h
  | cons l ls ih =>
    intro cs x ds h hr
    cases cs with
    | nil => cases l <;> cases h
    | cons c cs =>
      cases ds with
      | nil => exact hr.elim
      | cons d ds =>
        obtain ⟨h1, h2⟩ := hr
        have fin : ∀ {α : Type} {f : inL (toT G ls) → α} {o : Option (inL (toT G ls))} {r : α}, (match o with | some y => some (f y) | none => none) = some r → ∃ y, o = some y ∧ r = f y := by
          intro α f o r h
          cases o with
          | none => cases h
          | some y => cases h; exact ⟨y, rfl, rfl⟩
        cases l with
        | int k =>
          cases c with
          | int k' n =>
            obtain ⟨hk, h⟩ := ite_some (α := inL (toT G (.int k :: ls))) h
            subst hk
            obtain ⟨y, hy, rfl⟩ := fin h
            exact ⟨h1, ih hy h2⟩
          | _ => cases h
        | bool =>
          cases c with
          | bool n =>
            obtain ⟨y, hy, rfl⟩ := fin h
            exact ⟨h1, ih hy h2⟩
          | _ => cases h
        | str =>
          cases c with
          | str n =>
            obtain ⟨y, hy, rfl⟩ := fin h
            exact ⟨h1, ih hy h2⟩
          | _ => cases h
        | sl t =>
          cases c with
          | sl e' xs =>
            by_cases hk : e' = t
            · subst hk
              have h : (if h : e' = e' then (match pkL G ls cs with | some y => some ((h ▸ xs : List (D e')), y) | none => none) else none) = some x := h
              rw [dif_pos rfl] at h
              obtain ⟨y, hy, rfl⟩ := fin h
              exact ⟨h1, ih hy h2⟩
            · have h : (if h : e' = t then (match pkL G ls cs with | some y => some ((h ▸ xs : List (D t)), y) | none => none) else none) = some x := h
              rw [dif_neg hk] at h
              cases h
          | nilS =>
            obtain ⟨y, hy, rfl⟩ := fin h
            exact ⟨.inl ⟨h1, rfl⟩, ih hy h2⟩
          | _ => cases h
theorem pkL_n : ∀ {ls : List LC} {cs : List (CV D)} {x : inL (toT G ls)}, pkL G ls cs = some x → MtC cs (lvL G ls x) := by
  intro ls
  induction ls with
  | nil =>
    intro cs x h
    cases cs with
    | nil => trivial
    | cons c cs => cases h
  | cons l ls ih =>
    intro cs x h
    cases cs with
    | nil => cases l <;> cases h
    | cons c cs =>
      have fin : ∀ {α : Type} {f : inL (toT G ls) → α} {o : Option (inL (toT G ls))} {r : α}, (match o with | some y => some (f y) | none => none) = some r → ∃ y, o = some y ∧ r = f y := by
        intro α f o r h
        cases o with
        | none => cases h
        | some y => cases h; exact ⟨y, rfl, rfl⟩
      cases l with
      | int k =>
        cases c with
        | int k' n =>
          obtain ⟨hk, h⟩ := ite_some (α := inL (toT G (.int k :: ls))) h
          subst hk
          obtain ⟨y, hy, rfl⟩ := fin h
          exact ⟨fun _ => rfl, ih hy⟩
        | _ => cases h
      | bool =>
        cases c with
        | bool n =>
          obtain ⟨y, hy, rfl⟩ := fin h
          exact ⟨fun _ => rfl, ih hy⟩
        | _ => cases h
      | str =>
        cases c with
        | str n =>
          obtain ⟨y, hy, rfl⟩ := fin h
          exact ⟨fun _ => rfl, ih hy⟩
        | _ => cases h
      | sl t =>
        cases c with
        | sl e' xs =>
          by_cases hk : e' = t
          · subst hk
            have h : (if h : e' = e' then (match pkL G ls cs with | some y => some ((h ▸ xs : List (D e')), y) | none => none) else none) = some x := h
            rw [dif_pos rfl] at h
            obtain ⟨y, hy, rfl⟩ := fin h
            exact ⟨fun _ => rfl, ih hy⟩
          · have h : (if h : e' = t then (match pkL G ls cs with | some y => some ((h ▸ xs : List (D t)), y) | none => none) else none) = some x := h
            rw [dif_neg hk] at h
            cases h
        | nilS =>
          obtain ⟨y, hy, rfl⟩ := fin h
          exact ⟨fun h => (by cases h), ih hy⟩
        | _ => cases h
theorem toT_len : ∀ {ls : List LC}, (toT G ls).length = ls.length
  | [] => rfl
  | l :: ls => by simp [toT, toT_len]
def zcL : List LC → List (CV D)
  | [] => []
  | .int k :: ls => .int k 0 :: zcL ls
  | .bool :: ls => .bool false :: zcL ls
  | .str :: ls => .str [] :: zcL ls
  | .sl _ :: ls => .nilS :: zcL ls
def zvL : List LC → List Value
  | [] => []
  | .int k :: ls => .int k 0 :: zvL ls
  | .bool :: ls => .bool false :: zvL ls
  | .str :: ls => .string ⟨#[]⟩ :: zvL ls
  | .sl _ :: ls => .slice none 0 0 :: zvL ls
theorem zcL_ok {z : Nat → Blk} {vs : List Value} : ∀ {ls : List LC}, L2 (rel0 G z vs) (zcL ls : List (CV D)) (zvL ls)
  | [] => trivial
  | .int k :: ls => ⟨rfl, zcL_ok⟩
  | .bool :: ls => ⟨rfl, zcL_ok⟩
  | .str :: ls => ⟨rfl, zcL_ok⟩
  | .sl _ :: ls => ⟨rfl, zcL_ok⟩
theorem lvL_own : ∀ {ls : List LC} {x : inL (toT G ls)}, (lvL G ls x).all nOwn = true
  | [], _ => rfl
  | .int k :: ls, x => by simp only [lvL, List.all_cons, lvL_own, nOwn, Bool.and_self]
  | .bool :: ls, x => by simp only [lvL, List.all_cons, lvL_own, nOwn, Bool.and_self]
  | .str :: ls, x => by simp only [lvL, List.all_cons, lvL_own, nOwn, Bool.and_self]
  | .sl _ :: ls, x => by simp only [lvL, List.all_cons, lvL_own, nOwn, Bool.and_self]
def tiOf {t : Nat} (ls : List LC) (to : D t → inL (toT G ls)) (of : inL (toT G ls) → D t) (h1 : ∀ x, of (to x) = x) (h2 : ∀ y, to (of y) = y) (x0 : D t) (i : TypeInfo) (zv : Value)
    (hT : G.T t = TyOf t (toT G ls) to) (hi : P.info? t = some i) (hsz : i.size = ls.length) (hpos : (ls.length == 0) = false) (hby : Nat.ble i.bytes 32768 = true) (hz : i.zero = some zv) (hzf : zv.cells.toList.all flat0 = true) (hzs : zv.cells.size = i.size)
    (rd0 : ∀ z, rdL z (toT G ls) (to x0) zv.cells.toList) (hzv : zv.cells.toList = zvL ls) : TI P G t where
  zc := zcL ls
  hzc := fun z vs => by rw [hzv]; exact zcL_ok
  lvo := fun x => lvL_own
  lv := fun x => lvL G ls (to x)
  pk := fun cs => match pkL G ls cs with | some y => some (of y) | none => none
  x0 := x0
  i := i
  zv := zv
  tid := by rw [hT]; rfl
  hi := hi
  hsz := by rw [hT, hsz]; exact toT_len.symm
  hpos := by
    rw [hT]
    show ((toT G ls).length == 0) = false
    rw [toT_len]; exact hpos
  hby := hby
  hz := hz
  hzf := hzf
  hzs := hzs
  rd0 := fun z => by rw [hT]; exact rd0 z
  rdl := fun z vs x cs h => by rw [hT] at h; exact lvL_ok h
  pkl := fun z vs cs x ds h hr => by
    rw [hT]
    split at h
    · rename_i y hy
      cases h
      show rdL z (toT G ls) (to (of y)) ds
      rw [h2]; exact pkL_ok hy hr
    · cases h
  pklv := fun x => by
    show (match pkL G ls (lvL G ls (to x)) with | some y => some (of y) | none => none) = some x
    rw [pkL_lv]; exact congrArg some (h1 x)
  pkn := fun cs x h => by
    split at h
    · rename_i y hy
      cases h
      rw [h2]; exact pkL_n hy
    · cases h
theorem toU8_back (u : UInt8) : toU8 (u.toNat : Int) = some u := by
  unfold toU8
  have := u.toNat_lt
  rw [if_pos (by omega)]
  simp
def tiU8 {t : Nat} (to : D t → UInt8) (of : UInt8 → D t) (oo : Option UInt8 → Option (D t)) (hoo : ∀ o, oo o = o.map of) (h1 : ∀ x, of (to x) = x) (h2 : ∀ y, to (of y) = y) (i : TypeInfo) (htid : (G.T t).tid = t) (hsz' : (G.T t).sz = 1) (hrd : ∀ z x cs, (G.T t).rd z x cs ↔ cs = [.int .u8 (to x).toNat])
    (hi : P.info? t = some i) (hsz : i.size = 1) (hby : Nat.ble i.bytes 32768 = true) (hz : i.zero = some (.int .u8 0)) : TI P G t where
  zc := [.int .u8 0]
  hzc := fun z vs => ⟨rfl, trivial⟩
  lvo := fun x => rfl
  lv := fun x => [.int .u8 (to x).toNat]
  pk := fun cs => match cs with | [.int .u8 n] => oo (toU8 n) | _ => none
  x0 := of 0
  i := i
  zv := .int .u8 0
  tid := htid
  hi := hi
  hsz := by rw [hsz', hsz]
  hpos := by rw [hsz']; rfl
  hby := hby
  hz := hz
  hzf := rfl
  hzs := by rw [hsz]; rfl
  rd0 := fun z => (hrd z _ _).2 (by rw [h2]; rfl)
  rdl := fun z vs x cs h => by rw [(hrd z x cs).1 h]; exact ⟨rfl, trivial⟩
  pkl := fun z vs cs x ds h hr => by
    split at h
    · rename_i n
      cases ds with
      | nil => exact hr.elim
      | cons d ds =>
        cases ds with
        | cons _ _ => exact hr.2.elim
        | nil =>
          rw [hoo] at h
          cases hu : toU8 n with
          | none => rw [hu] at h; cases h
          | some u =>
            rw [hu] at h
            cases h
            have : d = .int .u8 n := hr.1
            rw [this, toU8_some hu]
            exact (hrd z _ _).2 (by rw [h2])
    · cases h
  pklv := fun x => by
    simp only [toU8_back, hoo, Option.map_some, h1]
  pkn := fun cs x h => by
    split at h
    · rename_i n
      rw [hoo] at h
      cases hu : toU8 n with
      | none => rw [hu] at h; cases h
      | some u =>
        rw [hu] at h
        cases h
        rw [h2, toU8_some hu]; exact MtC.refl _
    · cases h
def lvV : (ls : List LC) → inL (toT G ls) → List Value
  | [], _ => []
  | .int k :: ls, x => .int k x.1 :: lvV ls x.2
  | .bool :: ls, x => .bool x.1 :: lvV ls x.2
  | .str :: ls, x => AM.str x.1 :: lvV ls x.2
  | .sl _ :: ls, x => undef :: lvV ls x.2
def scalLC (P : Program) : List Field → Nat → List LC → Bool
  | [], _, [] => true
  | f :: fs, i, .int _ :: ls => (f.offset == i && f.name != "_") && ((match P.underlying f.type with | some (.int _) => true | _ => false) && scalLC P fs (i + 1) ls)
  | f :: fs, i, .bool :: ls => (f.offset == i && f.name != "_") && ((match P.underlying f.type with | some .bool => true | _ => false) && scalLC P fs (i + 1) ls)
  | f :: fs, i, .str :: ls => (f.offset == i && f.name != "_") && ((match P.underlying f.type with | some .string => true | _ => false) && scalLC P fs (i + 1) ls)
  | _, _, _ => false
theorem scalLC_ok : ∀ {fs : List Field} {i : Nat} {ls : List LC} {x y : inL (toT G ls)}, scalLC P fs i ls = true → ScalF P fs i (lvV ls x) (lvV ls y)
  | [], _, [], _, _, _ => trivial
  | f :: fs, i, .int k :: ls, x, y, h => by
    simp only [scalLC, Bool.and_eq_true, beq_iff_eq, bne_iff_ne] at h
    obtain ⟨⟨h1, h2⟩, h3, h4⟩ := h
    refine ⟨h1, h2, .inl ?_, scalLC_ok h4⟩
    split at h3
    · exact ⟨k, _, _, _, ‹_›, rfl, rfl⟩
    · cases h3
  | f :: fs, i, .bool :: ls, x, y, h => by
    simp only [scalLC, Bool.and_eq_true, beq_iff_eq, bne_iff_ne] at h
    obtain ⟨⟨h1, h2⟩, h3, h4⟩ := h
    refine ⟨h1, h2, .inr (.inl ?_), scalLC_ok h4⟩
    split at h3
    · exact ⟨_, _, ‹_›, rfl, rfl⟩
    · cases h3
  | f :: fs, i, .str :: ls, x, y, h => by
    simp only [scalLC, Bool.and_eq_true, beq_iff_eq, bne_iff_ne] at h
    obtain ⟨⟨h1, h2⟩, h3, h4⟩ := h
    refine ⟨h1, h2, .inr (.inr ?_), scalLC_ok h4⟩
    split at h3
    · exact ⟨_, _, ‹_›, rfl, rfl⟩
    · cases h3
  | _ :: _, _, .sl _ :: _, _, _, h => by cases h
  | [], _, _ :: _, _, _, h => by cases h
  | _ :: _, _, [], _, _, h => by cases h
theorem lvV_inj : ∀ {fs : List Field} {i : Nat} {ls : List LC} {x y : inL (toT G ls)}, scalLC P fs i ls = true → lvV ls x = lvV ls y → x = y
  | _, _, [], _, _, _, _ => rfl
  | f :: fs, i, .int k :: ls, x, y, h, e => by
    simp only [scalLC, Bool.and_eq_true] at h
    simp only [lvV, List.cons.injEq] at e
    exact Prod.ext (Value.int.inj e.1).2 (lvV_inj h.2.2 e.2)
  | f :: fs, i, .bool :: ls, x, y, h, e => by
    simp only [scalLC, Bool.and_eq_true] at h
    simp only [lvV, List.cons.injEq] at e
    exact Prod.ext (Value.bool.inj e.1) (lvV_inj h.2.2 e.2)
  | f :: fs, i, .str :: ls, x, y, h, e => by
    simp only [scalLC, Bool.and_eq_true] at h
    simp only [lvV, List.cons.injEq] at e
    exact Prod.ext (str_inj e.1) (lvV_inj h.2.2 e.2)
  | _ :: _, _, .sl _ :: _, _, _, h, _ => by cases h
  | [], _, .sl _ :: _, _, _, h, _ => by cases h
  | [], _, .int _ :: _, _, _, h, _ => by cases h
  | [], _, .bool :: _, _, _, h, _ => by cases h
  | [], _, .str :: _, _, _, h, _ => by cases h
theorem lvV_rd {z : Nat → Blk} : ∀ {fs : List Field} {i : Nat} {ls : List LC} {x : inL (toT G ls)} {ds : List Value}, scalLC P fs i ls = true → rdL z (toT G ls) x ds → ds = lvV ls x
  | _, _, [], _, [], _, _ => rfl
  | _, _, [], _, _ :: _, _, h => h.elim
  | f :: fs, i, .int k :: ls, x, d :: ds, h, e => by
    simp only [scalLC, Bool.and_eq_true] at h
    have h1 : d = .int k x.1 := e.1
    rw [lvV, h1, ← lvV_rd h.2.2 e.2]
  | f :: fs, i, .bool :: ls, x, d :: ds, h, e => by
    simp only [scalLC, Bool.and_eq_true] at h
    have h1 : d = .bool x.1 := e.1
    rw [lvV, h1, ← lvV_rd h.2.2 e.2]
  | f :: fs, i, .str :: ls, x, d :: ds, h, e => by
    simp only [scalLC, Bool.and_eq_true] at h
    have h1 : d = AM.str x.1 := e.1
    rw [lvV, h1, ← lvV_rd h.2.2 e.2]
  | _ :: _, _, .sl _ :: _, _, _, h, _ => by cases h
  | [], _, _ :: _, _, _, h, _ => by cases h
  | _ :: _, _, .int _ :: _, _, [], _, h => h.elim
  | _ :: _, _, .bool :: _, _, [], _, h => h.elim
  | _ :: _, _, .str :: _, _, [], _, h => h.elim
def qiOf {t : Nat} (ls : List LC) (to : D t → inL (toT G ls)) (of : inL (toT G ls) → D t) (h1 : ∀ x, of (to x) = x) (fs : Array Field) (eq : D t → D t → Bool) (hT : G.T t = TyOf t (toT G ls) to) (he : ∀ x y, eq x y = true ↔ x = y)
    (ht : P.underlying t = some (.struct fs)) (hp : P.stoodInHeld t = false) (hg : P.eqGuardType P.depth t = false) (hs : scalLC P fs.toList 0 ls = true) : QI P G t where
  fs := fs
  eq := eq
  va := fun x => lvV ls (to x)
  ht := ht
  hp := hp
  hg := hg
  hs := fun x y => scalLC_ok hs
  hv := fun z x ds h => by rw [hT] at h; exact lvV_rd hs h
  he := fun x y => by
    rw [he]
    constructor
    · rintro rfl; rfl
    · intro h
      have := lvV_inj hs h
      rw [← h1 x, ← h1 y, this]
def kgI {α : Type} (k : IntKind) (of : Int → α) : SV D → Option α := fun s => match s with | .c (.int k' n) => if k' = k then some (of n) else none | _ => none
def kgS {α : Type} (of : List UInt8 → α) : SV D → Option α := fun s => match s with | .c (.str n) => some (of n) | _ => none
def kgA {t : Nat} (ti : TI P G t) : SV D → Option (D t) := fun s => match s with | .agg t' cs => if t' = t then ti.pk cs else none | _ => none
def vgI {α : Type} (k : IntKind) (of : Int → α) : CV D → Option α := fun s => match s with | .int k' n => if k' = k then some (of n) else none | _ => none
def vgB {α : Type} (of : Bool → α) : CV D → Option α := fun s => match s with | .bool n => some (of n) | _ => none
theorem kgI_ok {z : Nat → Blk} {vs : List Value} {α : Type} {k : IntKind} {of : Int → α} {s : SV D} {a : α} {v : Value} (h : kgI k of s = some a) (hr : rel G z vs s v) : ∃ n, a = of n ∧ v = .int k n := by
  unfold kgI at h
  split at h
  · split at h
    · rename_i hk
      cases h; subst hk
      exact ⟨_, rfl, hr⟩
    · cases h
  · cases h
theorem kgS_ok {z : Nat → Blk} {vs : List Value} {α : Type} {of : List UInt8 → α} {s : SV D} {a : α} {v : Value} (h : kgS of s = some a) (hr : rel G z vs s v) : ∃ n, a = of n ∧ v = AM.str n := by
  unfold kgS at h
  split at h
  · cases h
    exact ⟨_, rfl, hr⟩
  · cases h
theorem kgA_ok {z : Nat → Blk} {vs : List Value} {t : Nat} {ti : TI P G t} {s : SV D} {a : D t} {v : Value} (h : kgA ti s = some a) (hr : rel G z vs s v) : ∃ ds : List Value, (G.T t).rd z a ds ∧ v = .agg ds.toArray := by
  unfold kgA at h
  split at h
  · obtain ⟨_, h⟩ := ite_some h
    obtain ⟨ds, h1, h2⟩ := hr
    exact ⟨ds, ti.pkl z vs _ _ _ h h2, h1⟩
  · cases h
theorem vgI_ok {z : Nat → Blk} {vs : List Value} {α : Type} {k : IntKind} {of : Int → α} {s : CV D} {a : α} {v : Value} (h : vgI k of s = some a) (hr : rel0 G z vs s v) : ∃ n, a = of n ∧ v = .int k n := by
  unfold vgI at h
  split at h
  · split at h
    · rename_i hk
      cases h; subst hk
      exact ⟨_, rfl, hr⟩
    · cases h
  · cases h
theorem vgB_ok {z : Nat → Blk} {vs : List Value} {α : Type} {of : Bool → α} {s : CV D} {a : α} {v : Value} (h : vgB of s = some a) (hr : rel0 G z vs s v) : ∃ n, a = of n ∧ v = .bool n := by
  unfold vgB at h
  split at h
  · cases h
    exact ⟨_, rfl, hr⟩
  · cases h
structure KI (P : Program) (G : Tab D) (kt : Nat) where
  dec : DecidableEq (D kt)
  K : KeyOk P kt (G.kc kt)
  kget : SV D → Option (D kt)
  hkg : ∀ z vs s a v, kget s = some a → rel G z vs s v → v = cellV (tyAgg P kt) (G.kc kt a)
structure VI (P : Program) (G : Tab D) (vt : Nat) where
  V : ValOk P vt (G.kc vt)
  vget : CV D → Option (D vt)
  vput : D vt → CV D
  z0 : D vt
  i : TypeInfo
  hi : P.info? vt = some i
  hvn : tyAgg P vt = false
  hz : i.zero = some (cellV false (G.kc vt z0))
  hvg : ∀ z vs c a v, vget c = some a → rel0 G z vs c v → v = cellV false (G.kc vt a)
  hvp : ∀ z vs a, rel0 G z vs (vput a) (cellV false (G.kc vt a))
def miOf {kt vt : Nat} (a : KI P G kt) (b : VI P G vt) : MI P G kt vt where
  dec := a.dec
  K := a.K
  V := b.V
  kget := a.kget
  vget := b.vget
  vput := b.vput
  z0 := b.z0
  i := b.i
  hi := b.hi
  hz := by rw [b.hvn]; exact b.hz
  hkg := a.hkg
  hvg := by rw [b.hvn]; exact b.hvg
  hvp := by rw [b.hvn]; exact b.hvp
  hvn := b.hvn
def kiI {kt : Nat} (k : IntKind) (of : Int → D kt) (dec : DecidableEq (D kt)) (i : TypeInfo) (h : P.underlying kt = some (.int k)) (K : KeyOk P kt (G.kc kt)) (hk : ∀ n, G.kc kt (of n) = [.int k n]) : KI P G kt where
  dec := dec
  K := K
  kget := kgI k of
  hkg := fun z vs s a v h1 h2 => by
    obtain ⟨n, rfl, rfl⟩ := kgI_ok h1 h2
    rw [hk, noAgg h rfl]; rfl
def kiS {kt : Nat} (of : List UInt8 → D kt) (dec : DecidableEq (D kt)) (h : P.underlying kt = some .string) (K : KeyOk P kt (G.kc kt)) (hk : ∀ n, G.kc kt (of n) = [AM.str n]) : KI P G kt where
  dec := dec
  K := K
  kget := kgS of
  hkg := fun z vs s a v h1 h2 => by
    obtain ⟨n, rfl, rfl⟩ := kgS_ok h1 h2
    rw [hk, noAgg h rfl]; rfl
def kiA {t : Nat} (dec : DecidableEq (D t)) (ti : TI P G t) (ls : List LC) (to : D t → inL (toT G ls)) (of : inL (toT G ls) → D t) (h1 : ∀ x, of (to x) = x) (fs : Array Field) (i : TypeInfo) (hT : G.T t = TyOf t (toT G ls) to)
    (ht : P.underlying t = some (.struct fs)) (hi : P.info? t = some i) (hp : P.stoodInHeld t = false) (hpos : (i.size == 0) = false) (hs : scalLC P fs.toList 0 ls = true) (hlen : ∀ a, (G.kc t a).length = i.size) (hk : ∀ a, G.kc t a = lvV ls (to a)) : KI P G t where
  dec := dec
  K := keyStruct ht hi hp hpos hlen (fun a b => by rw [hk, hk]; exact scalLC_ok hs) (fun a b h => by
    rw [hk, hk] at h
    have := lvV_inj hs h
    rw [← h1 a, ← h1 b, this])
  kget := kgA ti
  hkg := fun z vs s a v h2 h3 => by
    obtain ⟨ds, g1, rfl⟩ := kgA_ok h2 h3
    rw [hT] at g1
    rw [lvV_rd hs g1, hk]
    simp only [tyAgg, ht, aggT, cellV]
def viI {vt : Nat} (k : IntKind) (of : Int → D vt) (to : D vt → Int) (h1 : ∀ x, of (to x) = x) (i : TypeInfo) (h : P.underlying vt = some (.int k)) (hi : P.info? vt = some i) (V : ValOk P vt (G.kc vt)) (hk : ∀ n, G.kc vt (of n) = [.int k n]) (hz : i.zero = some (.int k 0)) : VI P G vt where
  V := V
  vget := vgI k of
  vput := fun x => .int k (to x)
  z0 := of 0
  i := i
  hi := hi
  hvn := noAgg h rfl
  hz := by rw [hk]; exact hz
  hvg := fun z vs c a v g1 g2 => by
    obtain ⟨n, rfl, rfl⟩ := vgI_ok g1 g2
    rw [hk]; rfl
  hvp := fun z vs a => by
    have := hk (to a)
    rw [h1] at this
    rw [this]; rfl
def viB {vt : Nat} (of : Bool → D vt) (to : D vt → Bool) (h1 : ∀ x, of (to x) = x) (i : TypeInfo) (h : P.underlying vt = some .bool) (hi : P.info? vt = some i) (V : ValOk P vt (G.kc vt)) (hk : ∀ n, G.kc vt (of n) = [.bool n]) (hz : i.zero = some (.bool false)) : VI P G vt where
  V := V
  vget := vgB of
  vput := fun x => .bool (to x)
  z0 := of false
  i := i
  hi := hi
  hvn := noAgg h rfl
  hz := by rw [hk]; exact hz
  hvg := fun z vs c a v g1 g2 => by
    obtain ⟨n, rfl, rfl⟩ := vgB_ok g1 g2
    rw [hk]; rfl
  hvp := fun z vs a => by
    have := hk (to a)
    rw [h1] at this
    rw [this]; rfl
theorem pc_cons {X : Ev P D} {B : Code} {u : Pc D} {us : List (Pc D)} (h : PcOk X B u) (hs : ∀ v ∈ us, PcOk X B v) : ∀ v ∈ u :: us, PcOk X B v := by
  intro v hv
  rcases List.mem_cons.1 hv with rfl | hv
  · exact h
  · exact hs v hv
theorem pc_nil {X : Ev P D} {B : Code} : ∀ v ∈ ([] : List (Pc D)), PcOk X B v := by simp
theorem CallOk.law {X : Ev P D} {d : FD D} {F : d.F} (hF : CallOk X d F) {m : Mem} {z : Nat → Blk} (hz : Fz z m) (hd : ∀ b, m.next ≤ b → m.blk b = .dead) {svs : List (SV D)} {args : List Value} (hL : L2 (rel X.G z []) svs args)
    (h : d.call X F svs [] (fun sv _ => some sv) = some (.c (.bool true))) : CallW P d.f args.toArray m fun v _ => v = .bool true := by
  have hM : Mm X.G ([] : List (Ob D)) z m m none [] := ⟨St.start hz hd, rfl, by simp, by simp⟩
  refine (hF svs [] (fun sv _ => some sv) _ args hM hL h).mono fun v m' hv => ?_
  obtain ⟨⟨z', vs', sv, O', _, _, _, _, hr, hK⟩, _⟩ := hv
  cases hK
  exact hr
end
end
end Go.AM
end
section
set_option linter.unusedSimpArgs false
set_option linter.unusedVariables false
namespace Go.AM
noncomputable section
section
variable {P : Program} {D : Nat → Type} {X : Ev P D} {ρ : Type} {z z' : Nat → Blk} {e m m' : Mem} {k : Option Nat} {vs vs' : List Value} {fr : Nat → Value} {E : List (Nat × SV D)} {O O' : List (Ob D)}
theorem nrm_with (l : ChQ D) {σ0 : List Nat} : ∀ (its : List It) (x : inT D its) (σ : List Nat) (O : List (Ob D)), nrm (X.ch l) σ0 its x σ O = nrm X σ0 its x σ O
  | [], _, _, _ => rfl
  | .o _ c :: its, x, [], O => rfl
  | .o _ c :: its, x, i :: σ, O => by
    show nrm (X.ch l) σ0 its x.2 σ (O.set i (OC.mkr (X.ch l) (fun n => σ0.getD n 0) c x.1 (tchAt c O i))) = nrm X σ0 its x.2 σ (O.set i (OC.mkr X (fun n => σ0.getD n 0) c x.1 (tchAt c O i)))
    rw [nrm_with l its x.2 σ]
    exact congrArg (fun q => nrm X σ0 its x.2 σ (O.set i q)) (OC.mkr_with l _ c x.1 _)
  | .v _ _ :: its, x, σ, O => nrm_with l its x.2 σ O
  | .u _ _ :: its, x, σ, O => nrm_with l its x.2 σ O
theorem turnO_with (l : ChQ D) {τ : Nat → Nat} {σ ks : List Nat} {outs : List It} {y : inT D outs} : ∀ (O : List (Ob D)) (i : Nat), turnO (X.ch l) τ σ ks outs y i O = turnO X τ σ ks outs y i O
  | [], i => rfl
  | o :: O, i => by simp only [turnO, updOf_with, turnO_with l O (i + 1)]
theorem rdIn_with (l : ChQ D) (its : List It) (fx : List (Nat × SV D)) (E : List (Nat × SV D)) (O : List (Ob D)) : rdIn (X.ch l) its fx E O = rdIn X its fx E O := by
  simp only [rdIn, rdIn0, rdB_with, nrm_with]
theorem run_with (l : ChQ D) (p : PD D) (F : p.F) (E : List (Nat × SV D)) (O : List (Ob D)) {ρ : Type} (K : AExit → List (Nat × SV D) → List (Ob D) → Option ρ) : p.run (X.ch l) F E O K = p.run X F E O K := by
  have e1 : ∀ (σ : List Nat) (N : Nat) (xx : Ex D) (y : inT D xx.outs) (E : List (Nat × SV D)), actE (X.ch l) p σ N xx y E = actE X p σ N xx y E := fun σ N xx y E => by simp only [actE, mkE_with]
  have e2 : ∀ (σ : List Nat) (O2 : List (Ob D)) (xx : Ex D) (y : inT D xx.outs), actO (X.ch l) p σ O2 xx y = actO X p σ O2 xx y := fun σ O2 xx y => by simp only [actO, turnO_with, mkOr_with]
  unfold PD.run PD.runI
  simp only [rdIn_with, e1, e2]
def nrmE : AExit → AExit
  | .normal => .ret
  | ex => ex
theorem nrmE_ret {ex : AExit} (h : nrmE ex = .ret) : ex = .normal ∨ ex = .ret := by
  cases ex <;> first | exact .inl rfl | exact .inr rfl | cases h
structure GD (D : Nat → Type) where
  f : Nat
  np : Nat
  ins : List It
  fx : List (Nat × SV D)
  ks : List Nat
  outs : List It
  ofx : List (Nat × SV D)
  res : List Nat
def GD.pd (d : GD D) : PD D := { path := [], ins := d.ins, fx := d.fx, ks := d.ks, exs := [⟨.ret, d.outs, d.ofx⟩], keep := [] }
def isRet : AExit → Bool
  | .ret => true
  | _ => false
variable (X) in
def GD.call (d : GD D) (F : d.pd.F) (svs : List (SV D)) (O : List (Ob D)) {ρ : Type} (K : SV D → List (Ob D) → Option ρ) : Option ρ :=
  if Nat.beq svs.length d.np = true then d.pd.run X F (enumE 0 svs) O fun ex E O => if isRet ex = true then (match resE E d.res with | some sv => K sv O | none => none) else none
  else none
variable (X) in
def GD.fits (d : GD D) (svs : List (SV D)) (O : List (Ob D)) : Bool :=
  Nat.beq svs.length d.np && (rdIn X d.ins d.fx (ownA d.ins (enumE 0 svs) O).1 (ownA d.ins (enumE 0 svs) O).2).isSome
structure GOk (P : Program) (X : Ev P D) (d : GD D) (F : d.pd.F) : Prop where
  ex : ∃ fn c, P.funcs[d.f]? = some fn ∧ fn.body = some c ∧ okFn P d.f = true ∧ Nat.ble d.np fn.ntmps = true ∧ fn.results.toList = d.res.map .tmp ∧ d.pd.chk c = true ∧ CCn nrmE X c d.pd F
def CallG (X : Ev P D) (d : GD D) (F : d.pd.F) : Prop := ∀ (svs : List (SV D)) (O : List (Ob D)) {ρ : Type} (K : SV D → List (Ob D) → Option ρ) (r : ρ) {z : Nat → Blk} {e m : Mem} {k : Option Nat} {vs : List Value} (args : List Value),
  Mm X.G O z e m k vs → L2 (rel X.G z vs) svs args → d.call X F svs O K = some r → CallW P d.f args.toArray m fun v m' => Nxt X O z e k vs K r v m'
theorem res_tmp {m : Mem} : ∀ (l : List Nat), resultsR P fr m (l.map .tmp) (l.map fr)
  | [] => trivial
  | _ :: l => ⟨rfl, res_tmp l⟩
theorem GOk.call {d : GD D} {F : d.pd.F} (hF : GOk P X d F) : CallG X d F := by
  intro svs O ρ K r z e m k vs args hM hL h
  obtain ⟨fn, c, f1, f2, f3, f4, f5, f6, hB⟩ := hF.ex
  unfold GD.call at h
  obtain ⟨hlen, h⟩ := ite_some h
  have hlen := Nat.eq_of_beq_eq_true hlen
  have hsz : args.toArray.size ≤ fn.ntmps := by
    rw [List.size_toArray, ← hL.length, hlen]
    exact Nat.le_of_ble_eq_true f4
  refine CallW.any f1 f2 f3 hsz fun fr hfr => ?_
  have hE : Rl X z vs (enumE 0 svs) fr := enumE_at hL fun j v hj => by rw [Nat.zero_add]; exact hfr j v (by simpa using hj)
  have hb := hB.pc f6 (enumE 0 svs) O _ r hM hE h
  rw [show sub c d.pd.path = c from sub_nil c] at hb
  refine hb.mono ?_
  rintro ex fr1 m1 ⟨z1, vs1, E1, O1, h0, h1, h2, h3, h4, h5⟩
  obtain ⟨hr, h5⟩ := ite_some h5
  have hex : nrmE ex = .ret := by
    revert hr
    cases nrmE ex <;> intro hr <;> first | rfl | cases hr
  split at h5
  · rename_i sv hsv
    obtain ⟨k1, k2⟩ := resE_ok h4 hsv
    exact ⟨nrmE_ret hex, _, by rw [f5]; exact res_tmp d.res, k2, z1, vs1, sv, O1, h0, h1, h2, h3, k1, h5⟩
  · cases h5
theorem CallG.base {q : ChQ D} {d : GD D} {F : d.pd.F} (h : CallG (X.ch q) d F) : CallG X d F := by
  intro svs O ρ K r z e m k vs args hM hL hc
  have hc : d.call (X.ch q) F svs O K = some r := by
    unfold GD.call at hc ⊢
    rw [run_with]
    exact hc
  exact h svs O K r args hM hL hc
structure GE (D : Nat → Type) where
  d : GD D
  F : d.pd.F
variable (X) in
def goG : List (GE D) → Nat → List (SV D) → List (Ob D) → {ρ : Type} → (SV D → List (Ob D) → Option ρ) → Option ρ
  | [], f, svs, O, _, K => X.C f svs O K
  | x :: l, f, svs, O, _, K => if (Nat.beq x.d.f f && x.d.fits X svs O) = true then x.d.call X x.F svs O K else goG l f svs O K
variable (X) in
def goGF : List (GE D) → Nat → List (SV D) → List (Ob D) → Bool
  | [], f, svs, O => X.F f svs O
  | x :: l, f, svs, O => if (Nat.beq x.d.f f && x.d.fits X svs O) = true then false else goGF l f svs O
variable (X) in
def goGW : List (GE D) → Nat → Bool
  | [], f => X.W f
  | x :: l, f => Nat.beq x.d.f f || goGW l f
def Ev.gen (X : Ev P D) (l : List (GE D)) : Ev P D := X.ch ⟨goGF X l, X.U, goG X l, goGW X l⟩
theorem goG_ok (hC : COk X) {f : Nat} {svs : List (SV D)} {K : SV D → List (Ob D) → Option ρ} {r : ρ} {args : List Value} (hM : Mm X.G O z e m k vs) (hL : L2 (rel X.G z vs) svs args) : ∀ {l : List (GE D)}, (∀ x ∈ l, CallG X x.d x.F) → goG X l f svs O K = some r →
    CallW P f args.toArray m fun v m' => Nxt X O z e k vs K r v m' ∧ (goGF X l f svs O = true → m' = m) ∧ (goGW X l f = false → ∃ q, Chg m m' q ∧ TgtQ vs (boxesOf svs) q)
  | [], _, hc => hC f svs O K r args hM hL hc
  | x :: l, h, hc => by
    unfold goG at hc
    unfold goGF goGW
    split at hc
    · rename_i hx
      rw [if_pos hx]
      simp only [Bool.and_eq_true] at hx
      have := Nat.eq_of_beq_eq_true hx.1
      subst this
      refine (h x List.mem_cons_self svs O K r args hM hL hc).mono fun v m' hn => ⟨hn, fun hh => Bool.noConfusion hh, fun hh => ?_⟩
      rw [hx.1] at hh
      cases hh
    · rename_i hx
      rw [if_neg hx]
      refine (goG_ok hC hM hL (fun y hy => h y (List.mem_cons_of_mem _ hy)) hc).mono fun v m' hn => ⟨hn.1, hn.2.1, fun hh => hn.2.2 ?_⟩
      cases hb : goGW X l f with
      | false => rfl
      | true => rw [hb, Bool.or_true] at hh; cases hh
theorem COk.gen {l : List (GE D)} (hC : COk X) (h : ∀ x ∈ l, CallG X x.d x.F) : COk (X.gen l) := by
  intro f svs O ρ K r z e m k vs args hM hL hc
  exact goG_ok (X := X) hC hM hL h hc
theorem CallOk.ch {q : ChQ D} {d : FD D} {F : d.F} (h : CallOk (X.ch q) d F) : CallOk X d F := by
  intro svs O ρ K r z e m k vs args hM hL hc
  rw [← call_with q] at hc
  exact h svs O K r args hM hL hc
theorem CallOk.gen {l : List (GE D)} {d : FD D} {F : d.F} (h : CallOk (X.gen l) d F) : CallOk X d F := CallOk.ch h
theorem CallG.up {q : ChQ D} {d : GD D} {F : d.pd.F} (h : CallG X d F) : CallG (X.ch q) d F := by
  intro svs O ρ K r z e m k vs args hM hL hc
  have hc : d.call X F svs O K = some r := by
    unfold GD.call at hc ⊢
    rw [run_with] at hc
    exact hc
  exact h svs O K r args hM hL hc
theorem COk.gen0 {fs : List (FE D)} {l : List (GE D)} (hC : COk (X.with fs)) (h : ∀ x ∈ l, CallG X x.d x.F) : COk ((X.with fs).gen l) := COk.gen hC fun x hx => (h x hx).up
theorem gen_nil : ∀ y ∈ ([] : List (GE D)), CallG X y.d y.F := by simp
theorem all_gen0 {l : List (GE D)} {x : GE D} (h : CallG X x.d x.F) (hl : ∀ y ∈ l, CallG X y.d y.F) : ∀ y ∈ x :: l, CallG X y.d y.F := by
  intro y hy
  rcases List.mem_cons.1 hy with rfl | hy
  · exact h
  · exact hl y hy
theorem all_gen {q : ChQ D} {l : List (GE D)} {x : GE D} (h : CallG (X.ch q) x.d x.F) (hl : ∀ y ∈ l, CallG X y.d y.F) : ∀ y ∈ x :: l, CallG X y.d y.F := by
  intro y hy
  rcases List.mem_cons.1 hy with rfl | hy
  · exact h.base
  · exact hl y hy
end
end
end Go.AM
end
section
set_option linter.unusedSimpArgs false
set_option linter.unusedVariables false
set_option linter.unusedSectionVars false
namespace Go.AM
open Go.Sort Go.Shelf Go.Proofs
noncomputable def srtL {α : Type} [Inhabited α] (cf : α → α → Int) (xs : List α) : List α := (pdq (ltOf cf) xs.toArray 0 xs.toArray.size (Lib.bitLen xs.toArray.size) true true).toList
noncomputable def srtI {α : Type} [Inhabited α] (cf : α → α → Int) (xs : List α) : Option (List α) := if xs.length < 4611686018427387904 then some (srtL cf xs) else none
def cmpI (x y : Int) : Int := Lib.compareInt x y
section
variable {α : Type} [Inhabited α]
theorem cmpI_lt (x y : Int) : decide (cmpI x y < 0) = decide (x < y) := by
  unfold cmpI Lib.compareInt
  by_cases h1 : x < y
  · simp [h1]
  · by_cases h2 : x > y <;> simp [h1, h2]
theorem swo_key (f : α → Int) : SWO (ltOf fun x y => cmpI (f x) (f y)) := by
  have e : ∀ x y, ltOf (fun x y => cmpI (f x) (f y)) x y = decide (f x < f y) := fun x y => cmpI_lt _ _
  refine ⟨fun x => ?_, fun x y z h1 h2 => ?_, fun x y z h1 h2 => ?_⟩
  · rw [e]; simp
  · rw [e] at *; simp at *; omega
  · rw [e] at *; simp at *; omega
theorem srtL_sorts (cf : α → α → Int) (hO : SWO (ltOf cf)) (xs : List α) : PermIn 0 xs.length xs.toArray (srtL cf xs).toArray ∧ SortedIn (ltOf cf) 0 xs.length (srtL cf xs).toArray := by
  have h := pdq_sorts (ltOf cf) hO xs.toArray 0 xs.toArray.size (Lib.bitLen xs.toArray.size) true true (Nat.zero_le _) (Nat.le_refl _) (Or.inl rfl)
  have e : (srtL cf xs).toArray = pdq (ltOf cf) xs.toArray 0 xs.toArray.size (Lib.bitLen xs.toArray.size) true true := by unfold srtL; simp
  rw [e]
  simpa using h
theorem srtL_len (cf : α → α → Int) (hO : SWO (ltOf cf)) (xs : List α) : (srtL cf xs).length = xs.length := by
  have := (srtL_sorts cf hO xs).1.1
  simpa using this
theorem srtL_perm (cf : α → α → Int) (hO : SWO (ltOf cf)) (xs : List α) : (srtL cf xs).Perm xs := by
  have h := (srtL_sorts cf hO xs).1
  have hl := srtL_len cf hO xs
  have h2 := h.2.2
  have e1 : ((srtL cf xs).toArray.extract 0 xs.length).toList = srtL cf xs := by simp [← hl]
  have e2 : (xs.toArray.extract 0 xs.length).toList = xs := by simp
  rw [e1, e2] at h2
  exact h2
theorem srtL_sorted (f : α → Int) (xs : List α) : (srtL (fun x y => cmpI (f x) (f y)) xs).Pairwise fun x y => f x ≤ f y := by
  have hO := swo_key f
  have h := (srtL_sorts _ hO xs).2
  have hl := srtL_len _ hO xs
  rw [List.pairwise_iff_getElem]
  intro i j hi hj hij
  have := h i j (Nat.zero_le _) hij (by omega)
  have e : ∀ x y, ltOf (fun x y => cmpI (f x) (f y)) x y = decide (f x < f y) := fun x y => cmpI_lt _ _
  rw [e] at this
  have hi' : (srtL (fun x y => cmpI (f x) (f y)) xs).toArray[i]! = (srtL (fun x y => cmpI (f x) (f y)) xs)[i] := by rw [getElem!_pos _ _ (by simpa using hi)]; simp
  have hj' : (srtL (fun x y => cmpI (f x) (f y)) xs).toArray[j]! = (srtL (fun x y => cmpI (f x) (f y)) xs)[j] := by rw [getElem!_pos _ _ (by simpa using hj)]; simp
  rw [hi', hj'] at this
  simp at this
  omega
theorem flatK_get {enc : α → List Value} {k : Nat} (hk : ∀ x, (enc x).length = k) : ∀ (xs : List α) (t : Nat), t < xs.length * k → (xs.flatMap enc)[t]? = some ((enc xs.toArray[t / k]!)[t % k]!)
  | [], t, h => by simp at h
  | x :: xs, t, h => by
    have k0 : 0 < k := by rcases Nat.eq_zero_or_pos k with h0 | h0; · subst h0; simp at h
                          · exact h0
    rw [List.flatMap_cons, List.getElem?_append]
    split
    · rename_i hlt
      rw [hk] at hlt
      have h1 : t / k = 0 := Nat.div_eq_of_lt hlt
      have h2 : t % k = t := Nat.mod_eq_of_lt hlt
      rw [h1, h2]
      have : t < (enc x).length := by rw [hk]; exact hlt
      simp [List.getElem?_eq_getElem this, getElem!_pos (enc x) t this]
    · rename_i hge
      rw [hk] at hge ⊢
      have hge : k ≤ t := by omega
      rw [flatK_get hk xs (t - k) (by simp only [List.length_cons, Nat.add_mul] at h; omega)]
      have h1 : t / k = (t - k) / k + 1 := by rw [← Nat.sub_add_cancel hge, Nat.add_div_right _ k0]; simp
      have h2 : t % k = (t - k) % k := by rw [← Nat.sub_add_cancel hge, Nat.add_mod_right]; simp
      have hlt : (t - k) / k < xs.length := by
        rw [Nat.div_lt_iff_lt_mul k0]
        simp only [List.length_cons, Nat.add_mul] at h; omega
      rw [h1, h2]
      congr 3
      simp [getElem!_pos xs.toArray ((t - k) / k) (by simpa using hlt), getElem!_pos (x :: xs).toArray ((t - k) / k + 1) (by simpa using hlt)]
theorem flatK_len {enc : α → List Value} {k : Nat} (hk : ∀ x, (enc x).length = k) (xs : List α) : (xs.flatMap enc).length = xs.length * k := by
  induction xs with
  | nil => simp
  | cons x xs ih => rw [List.flatMap_cons, List.length_append, hk, ih, List.length_cons, Nat.add_mul]; omega
theorem flatK_eq {enc : α → List Value} {k : Nat} (hk : ∀ x, (enc x).length = k) (xs : List α) : (flatK enc k xs.toArray).toList = xs.flatMap enc := by
  refine List.ext_getElem? fun t => ?_
  by_cases ht : t < xs.length * k
  · rw [flatK_get hk xs t ht]
    have hs : t < (flatK enc k xs.toArray).size := by rw [size_flatK]; simpa using ht
    have := get_flatK enc k xs.toArray t (by simpa using ht)
    rw [getElem!_pos (flatK enc k xs.toArray) t hs] at this
    rw [Array.getElem?_toList, Array.getElem?_eq_getElem hs, this]
  · rw [List.getElem?_eq_none (l := xs.flatMap enc) (by rw [flatK_len hk]; omega), List.getElem?_eq_none (by simp; omega)]
variable {P : Program} {ρ : Ren}
theorem sortW_of (L : SlLaysF0.n6 P ρ) {f g k : Nat} (hf : ρ.f 6 = f) (aE : ∀ w, (isAgg (ρ.t 24)).run P w = .ok true w) (zE : ∀ w, (Go.sizeOf (ρ.t 24)).run P w = .ok k w) (enc : α → List Value) (hk : ∀ x, (enc x).length = k) (h1 : ∀ x, (enc x).all flat0 = true)
    (cf : α → α → Int) (hO : SWO (ltOf cf)) (eg : ∀ args w, (callFunc g args).run P w = .ok (.enter g args) w)
    (hcl : ∀ (x y : α) (W : World), Calls P g #[.agg (enc x).toArray, .agg (enc y).toArray] W fun e w' => e = .returned (.int .i64 (cf x y)) ∧ ∃ q os', w' = grow (W.drewN q) os')
    (xs : List α) (hsz : xs.length < 4611686018427387904) (hk0 : 0 < k) (hx0 : 0 < xs.length) : sortW P f (.func (.func g) #[] #[]) xs.length (xs.flatMap enc) ((srtL cf xs).flatMap enc) := by
  subst hf
  intro w blk off cap cs t fz hw hF hfz
  have hlF := flatK_len hk xs
  have hH : HoldsK enc k w blk off xs.toArray := by
    intro j hj
    rw [size_flatK] at hj
    have hj : j < xs.length * k := by simpa using hj
    have hg := flatK_get hk xs j hj
    have hc := hF j _ hg
    have hlt : off + j < cs.size := (Array.getElem?_eq_some_iff.1 hc).1
    refine ⟨?_, ?_⟩
    · rw [get_flatK enc k xs.toArray j (by simpa using hj)]
      simp [World.cell?, hw, hc]
    · simp only [World.frozen?, hw]
      have := hfz (off + j) hlt
      simp only [Bool.and_eq_false_iff, decide_eq_false_iff_not]
      by_cases h1 : fz.1 ≤ off + j
      · right; exact fun h2 => this ⟨h1, h2⟩
      · left; exact h1
  have hblk : blk < w.heap.size := by
    rcases Nat.lt_or_ge blk w.heap.size with h | h
    · exact h
    · rw [Array.getElem?_eq_none h] at hw; cases hw
  have hcell : ∀ x, ∀ v ∈ enc x, v.oneCell' = true := fun x v hv => (flat0_VR0 (j := fun _ => none) (List.all_eq_true.1 (h1 x) v hv)).one
  refine (AnyQ.slices_SortFunc_eq L k aE zE enc hk hcell cf hO g #[] blk off cap xs.toArray w eg (fun m os dk _ x y => hcl x y _) hH hblk (by simpa using hsz)).mono ?_
  rintro e w' ⟨rfl, n, os, rfl⟩
  have hp : (pdq (ltOf cf) xs.toArray 0 xs.toArray.size (Lib.bitLen xs.toArray.size) true true) = (srtL cf xs).toArray := by unfold srtL; simp
  rw [hp]
  have hls := srtL_len cf hO xs
  have hsize : (sortWorldK enc k w blk off n (srtL cf xs).toArray os).heap.size = w.heap.size + os.size := by
    simp [sortWorldK, grow, putRowK, putRow, mapBlock, Sort.ahead]
  have hget : ∀ c, c < w.heap.size → (sortWorldK enc k w blk off n (srtL cf xs).toArray os).heap[c]? = (w.heap.modify blk (onCells (putCells id off (flatK enc k (srtL cf xs).toArray))))[c]? := by
    intro c hc
    simp only [sortWorldK, grow, putRowK, putRow, mapBlock, Sort.ahead]
    rw [Array.getElem?_append_left (by simpa using hc)]
  refine ⟨rfl, rfl, rfl, rfl, by rw [hsize]; omega, fun c hc hcb => ?_, ?_⟩
  · rw [hget c hc, Array.getElem?_modify, if_neg (by omega)]
  · rw [hget blk hblk, Array.getElem?_modify, if_pos rfl, hw]
    simp only [Option.map_some, onCells]
    congr 2
    have hle : off + (xs.flatMap enc).length ≤ cs.size := by
      have hpos : 0 < xs.length * k := Nat.mul_pos hx0 hk0
      have hlast := List.getElem?_eq_getElem (l := xs.flatMap enc) (i := (xs.flatMap enc).length - 1) (by omega)
      have := (Array.getElem?_eq_some_iff.1 (hF _ _ hlast)).1
      omega
    apply Array.ext_getElem?
    intro i
    have hle2 : off + ((srtL cf xs).flatMap enc).length ≤ cs.toList.length := by rw [flatK_len hk, hls, ← hlF, Array.length_toList]; exact hle
    have e1 : ((setN cs.toList off ((srtL cf xs).flatMap enc)).toArray)[i]? = if off ≤ i ∧ i < off + ((srtL cf xs).flatMap enc).length then ((srtL cf xs).flatMap enc)[i - off]? else cs.toList[i]? := by
      rw [← setN_get _ _ _ _ hle2]; simp
    rw [e1]
    simp only [putCells]
    rw [Array.getElem?_mapIdx, size_flatK]
    by_cases hin : off ≤ i ∧ i < off + ((srtL cf xs).flatMap enc).length
    · rw [if_pos hin]
      have hl2 := flatK_len hk (srtL cf xs)
      have hics : i < cs.size := by rw [hl2, hls, ← hlF] at hin; omega
      rw [Array.getElem?_eq_getElem hics]
      simp only [Option.map_some]
      rw [if_pos ⟨hin.1, by rw [hl2] at hin; simpa using hin.2⟩]
      have := flatK_get hk (srtL cf xs) (i - off) (by rw [← hl2]; omega)
      rw [this, get_flatK enc k _ _ (by rw [hl2] at hin; simp; omega)]
      rfl
    · rw [if_neg hin]
      have hl2 := flatK_len hk (srtL cf xs)
      have : ¬ (off ≤ i ∧ i < off + (srtL cf xs).toArray.size * k) := by rw [hl2] at hin; simpa using hin
      simp only [this, if_false]
      cases hc : cs[i]? with
      | none => simp [hc]
      | some v => simp [hc]
end
noncomputable section
section
variable {P : Program} {D : Nat → Type} {G : Tab D}
def allS : List LC → Bool
  | [] => true
  | .sl _ :: _ => false
  | _ :: ls => allS ls
theorem allS_rd {z : Nat → Blk} : ∀ {ls : List LC} {x : inL (toT G ls)} {ds : List Value}, allS ls = true → rdL z (toT G ls) x ds → ds = lvV ls x
  | [], _, [], _, _ => rfl
  | [], _, _ :: _, _, h => h.elim
  | .int k :: ls, x, d :: ds, h, e => by
    have h1 : d = .int k x.1 := e.1
    rw [lvV, h1, ← allS_rd (ls := ls) h e.2]
  | .bool :: ls, x, d :: ds, h, e => by
    have h1 : d = .bool x.1 := e.1
    rw [lvV, h1, ← allS_rd (ls := ls) h e.2]
  | .str :: ls, x, d :: ds, h, e => by
    have h1 : d = AM.str x.1 := e.1
    rw [lvV, h1, ← allS_rd (ls := ls) h e.2]
  | .sl _ :: _, _, _, h, _ => by cases h
  | .int _ :: _, _, [], _, h => h.elim
  | .bool :: _, _, [], _, h => h.elim
  | .str :: _, _, [], _, h => h.elim
theorem allS_of {z : Nat → Blk} : ∀ {ls : List LC} {x : inL (toT G ls)}, allS ls = true → rdL z (toT G ls) x (lvV ls x)
  | [], _, _ => trivial
  | .int k :: ls, x, h => ⟨rfl, allS_of (ls := ls) h⟩
  | .bool :: ls, x, h => ⟨rfl, allS_of (ls := ls) h⟩
  | .str :: ls, x, h => ⟨rfl, allS_of (ls := ls) h⟩
  | .sl _ :: _, _, h => by cases h
theorem allS_flat : ∀ {ls : List LC} {x : inL (toT G ls)}, allS ls = true → (lvV ls x).all flat0 = true
  | [], _, _ => rfl
  | .int k :: ls, x, h => by simp only [lvV, List.all_cons, allS_flat (ls := ls) (x := x.2) h]; rfl
  | .bool :: ls, x, h => by simp only [lvV, List.all_cons, allS_flat (ls := ls) (x := x.2) h]; rfl
  | .str :: ls, x, h => by simp only [lvV, List.all_cons, allS_flat (ls := ls) (x := x.2) h]; rfl
  | .sl _ :: _, _, h => by cases h
theorem allS_len : ∀ {ls : List LC} {x : inL (toT G ls)}, (lvV ls x).length = ls.length
  | [], _ => rfl
  | .int k :: ls, x => by simp only [lvV, List.length_cons, allS_len (ls := ls)]
  | .bool :: ls, x => by simp only [lvV, List.length_cons, allS_len (ls := ls)]
  | .str :: ls, x => by simp only [lvV, List.length_cons, allS_len (ls := ls)]
  | .sl _ :: ls, x => by simp only [lvV, List.length_cons, allS_len (ls := ls)]
def siOf {t : Nat} (ls : List LC) (to : D t → inL (toT G ls)) (hT : G.T t = TyOf t (toT G ls) to) (ha : allS ls = true) (x0 : D t) (key : D t → Int) {ρ : Ren} (L : SlLaysF0.n6 P ρ) (f g : Nat) (hf : ρ.f 6 = f) (ok : okFn P f = true)
    (aE : ∀ w, (isAgg (ρ.t 24)).run P w = .ok true w) (zE : ∀ w, (Go.sizeOf (ρ.t 24)).run P w = .ok ls.length w) (eg : ∀ args w, (callFunc g args).run P w = .ok (.enter g args) w) (hpos : Nat.blt 0 ls.length = true)
    (hcl : ∀ (x y : D t) (W : World), Calls P g #[.agg (lvV ls (to x)).toArray, .agg (lvV ls (to y)).toArray] W fun e w' => e = .returned (.int .i64 (cmpI (key x) (key y))) ∧ ∃ q os', w' = grow (W.drewN q) os') : SI P G where
  f := f
  g := g
  e := t
  srt := @srtI (D t) ⟨x0⟩ fun x y => cmpI (key x) (key y)
  va := fun x => lvV ls (to x)
  hv := fun z x ds h => by rw [hT] at h; exact allS_rd ha h
  hr := fun z x => by rw [hT]; exact allS_of ha
  hf := fun x => allS_flat ha
  ok := ok
  h0 := fun p cap w => by subst hf; exact AnyF.slices_SortFunc_none L p cap _ w
  hn := fun xs ys h => by
    letI : Inhabited (D t) := ⟨x0⟩
    unfold srtI at h
    split at h
    · cases h; exact srtL_len _ (swo_key key) xs
    · cases h
  hs := fun xs ys h h0 => by
    letI : Inhabited (D t) := ⟨x0⟩
    unfold srtI at h
    split at h
    · rename_i hlt
      cases h
      exact sortW_of L hf aE zE (fun x => lvV ls (to x)) (fun _ => allS_len) (fun _ => allS_flat ha) (fun x y => cmpI (key x) (key y)) (swo_key key) eg hcl xs hlt (Nat.le_of_ble_eq_true hpos) h0
    · cases h
end
end
end Go.AM
end
