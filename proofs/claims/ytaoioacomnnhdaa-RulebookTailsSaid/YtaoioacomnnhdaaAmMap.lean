/- Maps of the call's own and maps that may be read: what the rules about them are. -/
import Derived.Test.YtaoioacomnnhdaaAmGen2
import Derived.MapKept
set_option linter.unusedSimpArgs false
set_option linter.unusedVariables false
namespace Go.AM

/-! ### Keys -/

theorem findNow_findV {d : TypeDesc} {k : Value} (hk : MapKept.IsKey d k) : ∀ (l : List MapEntry) (i : Nat), (∀ x ∈ l, MapKept.IsKey d x.key) → Instr.findNow d k l i = some (findV k l i)
  | [], i, _ => rfl
  | e :: es, i, h => by
    obtain ⟨r, hr, hiff⟩ := MapKept.sameNow_of_keys hk (h e (.head _))
    have ih := findNow_findV hk es (i + 1) (fun x hx => h x (.tail _ hx))
    cases r with
    | true =>
      have := hiff.1 rfl
      rw [findV, if_pos this.symm]
      simp [Instr.findNow, hr]
    | false =>
      have hne : ¬ e.key = k := fun q => by have := hiff.2 q.symm; cases this
      rw [findV, if_neg hne]
      simp [Instr.findNow, hr, ih]

theorem keyed_of {P : Program} {kt : TypeId} {d : TypeDesc} (hd : P.underlying kt = some d) {good : Value → Prop} (hg : ∀ v, good v → MapKept.IsKey d v) : Keyed P kt good where
  check := fun em v w h => MapKept.run_checkKey hd (hg v h) em _
  find := fun v es w h hs => MapKept.run_findKey hd (findNow_findV (hg v h) es 0 fun x hx => hg _ (hs x hx))
  stays := fun v w h => MapKept.run_keyThatStays (hg v h)

/-- What a map's type is for the rules: the cells of its keys, the cells of its values, its number. -/
structure MTy (α β : Type) where
  kc : α → List Value
  vc : β → List Value
  tid : TypeId

/-- Keys of a type. -/
structure KeyOk (P : Program) (kt : TypeId) {α : Type} (kc : α → List Value) : Prop where
  len : ∀ a, (kc a).length = P.cellsOf kt
  pos : 0 < P.cellsOf kt
  flat : ∀ a, (kc a).all flat0 = true
  flatV : ∀ a, AM.flat (cellV (tyAgg P kt) (kc a)) = true
  inj : ∀ a b, cellV (tyAgg P kt) (kc a) = cellV (tyAgg P kt) (kc b) → a = b
  keyed : Keyed P kt fun v => ∃ a, v = cellV (tyAgg P kt) (kc a)
/-- Values of a type. -/
structure ValOk (P : Program) (vt : TypeId) {β : Type} (vc : β → List Value) : Prop where
  len : ∀ b, (vc b).length = P.cellsOf vt
  one : tyAgg P vt = false → P.cellsOf vt = 1
  flat : ∀ b, (vc b).all flat0 = true

def kInt (k : IntKind) (n : Int) : List Value := [.int k n]
def kStr (s : List UInt8) : List Value := [str s]
def kBool (b : Bool) : List Value := [.bool b]

theorem noAgg {P : Program} {t : TypeId} {d : TypeDesc} (h : P.underlying t = some d) (hd : aggT d = false) : tyAgg P t = false := by simp [tyAgg, h, hd]

theorem keyInt {P : Program} {kt : TypeId} {k : IntKind} {i : TypeInfo} (h : P.underlying kt = some (.int k)) (hi : P.info? kt = some i) (hs : i.size = 1) : KeyOk P kt (kInt k) where
  len := fun a => by simp [kInt, Program.cellsOf, hi, hs]
  pos := by simp [Program.cellsOf, hi, hs]
  flat := fun a => rfl
  flatV := fun a => by rw [noAgg h rfl]; rfl
  inj := fun a b hab => by rw [noAgg h rfl] at hab; simpa [cellV, kInt] using hab
  keyed := keyed_of h (by rintro v ⟨a, rfl⟩; rw [noAgg h rfl]; simp [cellV, kInt, MapKept.IsKey])
theorem str_inj {a b : List UInt8} (h : str a = str b) : a = b := by
  simp only [str] at h
  injection h with h
  injection h with h
  simpa using congrArg Array.toList h
theorem keyStr {P : Program} {kt : TypeId} {i : TypeInfo} (h : P.underlying kt = some .string) (hi : P.info? kt = some i) (hs : i.size = 1) : KeyOk P kt kStr where
  len := fun a => by simp [kStr, Program.cellsOf, hi, hs]
  pos := by simp [Program.cellsOf, hi, hs]
  flat := fun a => rfl
  flatV := fun a => by rw [noAgg h rfl]; rfl
  inj := fun a b hab => by rw [noAgg h rfl] at hab; exact str_inj hab
  keyed := keyed_of h (by rintro v ⟨a, rfl⟩; rw [noAgg h rfl]; simp [cellV, kStr, str, MapKept.IsKey])
theorem valInt {P : Program} {vt : TypeId} {k : IntKind} {i : TypeInfo} (h : P.underlying vt = some (.int k)) (hi : P.info? vt = some i) (hs : i.size = 1) : ValOk P vt (kInt k) :=
  ⟨fun a => by simp [kInt, Program.cellsOf, hi, hs], fun _ => by simp [Program.cellsOf, hi, hs], fun _ => rfl⟩
theorem valBool {P : Program} {vt : TypeId} {i : TypeInfo} (h : P.underlying vt = some .bool) (hi : P.info? vt = some i) (hs : i.size = 1) : ValOk P vt kBool :=
  ⟨fun a => by simp [kBool, Program.cellsOf, hi, hs], fun _ => by simp [Program.cellsOf, hi, hs], fun _ => rfl⟩

/-! ### The model's maps -/
section
variable {α β : Type}

/-- What stands under a key. -/
def mpGet [DecidableEq α] : List (α × β) → α → Option β
  | [], _ => none
  | p :: es, a => if p.1 = a then some p.2 else mpGet es a
/-- A key's value is set. -/
def mpSet [DecidableEq α] : List (α × β) → α → β → List (α × β)
  | [], a, b => [(a, b)]
  | p :: es, a, b => if p.1 = a then (p.1, b) :: es else p :: mpSet es a b

def MTy.ents (M : MTy α β) (es : List (α × β)) : List (List Value × List Value) := es.map fun p => (M.kc p.1, M.vc p.2)
def MTy.cells (M : MTy α β) (es : List (α × β)) : List Value := (M.ents es).flatMap fun p => p.1 ++ p.2

/-- A map of the call's own. -/
structure OwM (M : MTy α β) (z : Nat → Blk) (e m : Mem) (k : Option Nat) (es : List (α × β)) (v : Value) : Prop where
  ow : ∃ r, v = .map (some r) ∧ m.blk r = .map (M.cells es) M.tid ∧ r < m.next ∧ z r = .dead ∧ e.next ≤ r

/-- A map that may be read. -/
def MpR (M : MTy α β) (z : Nat → Blk) (es : List (α × β)) (v : Value) : Prop :=
  (v = .map none ∧ es = []) ∨ ∃ r, v = .map (some r) ∧ z r = .map (M.cells es) M.tid

/-- The block of a map. -/
def mapOf : Value → Option Nat
  | .map r => r
  | _ => none

variable {M : MTy α β} {z z' : Nat → Blk} {e m m' : Mem} {k q : Option Nat} {es : List (α × β)} {v : Value}

theorem OwM.lt (h : OwM M z e m k es v) : ∀ b, mapOf v = some b → b < m.next := by
  obtain ⟨r, rfl, h1, h2, h3, h4⟩ := h.ow
  intro b hb; cases hb; exact h2
theorem OwM.same (h : OwM M z e m k es v) (s : Same m m' q) (ap : Ap (mapOf v) q) : OwM M z e m' k es v := by
  obtain ⟨r, rfl, h1, h2, h3, h4⟩ := h.ow
  exact ⟨r, rfl, by rw [s.blk r h2 (ap r rfl)]; exact h1, Nat.lt_of_lt_of_le h2 s.next, h3, h4⟩
theorem OwM.zle (h : OwM M z e m k es v) (hz : Zle z z') (hb : ∀ b, mapOf v = some b → z' b = z b) : OwM M z' e m k es v := by
  obtain ⟨r, rfl, h1, h2, h3, h4⟩ := h.ow
  exact ⟨r, rfl, h1, h2, by rw [hb r rfl]; exact h3, h4⟩
theorem OwM.call (h : OwM M z e m k es v) (hx : Zx m.next z z') (s : Same m m' q) (ap : Ap (mapOf v) q) : OwM M z' e m' k es v :=
  (h.zle hx.le fun b hb => hx.low b (h.lt b hb)).same s ap
theorem OwM.hq (h : OwM M z e m k es v) : ∀ c, mapOf v = some c → z c = .dead ∧ (e.next ≤ c ∨ k = some c) := by
  obtain ⟨r, rfl, h1, h2, h3, h4⟩ := h.ow
  intro c hc; cases hc; exact ⟨h3, .inl h4⟩
theorem OwM.up {k' : Option Nat} {e' : Mem} (h : OwM M z e' m k' es v) (hn : e.next ≤ e'.next) : OwM M z e m k es v := by
  obtain ⟨r, rfl, h1, h2, h3, h4⟩ := h.ow
  exact ⟨r, rfl, h1, h2, h3, Nat.le_trans hn h4⟩
theorem OwM.fresh (h : OwM M z e m k es v) : ∀ b, mapOf v = some b → e.next ≤ b := by
  obtain ⟨r, rfl, h1, h2, h3, h4⟩ := h.ow
  intro b hb; cases hb; exact h4
theorem OwM.freeze (h : OwM M z e m k es v) (st : St z e m k) : ∃ z', Zx e.next z z' ∧ St z' e m k ∧ MpR M z' es v ∧ ∀ p, Ap p (mapOf v) → ∀ b, p = some b → z' b = z b := by
  obtain ⟨r, rfl, h1, h2, h3, h4⟩ := h.ow
  refine ⟨frz z m (some r), ⟨frz_le fun b hb => by cases hb; exact h3, fun b hb => ?_⟩, ⟨frz_fz st.fz (fun b hb => by cases hb; exact h2), st.dead, st.dead0, st.next, st.kept⟩, .inr ⟨r, rfl, by simp [frz, h1]⟩, fun p hp b hb => ?_⟩
  · unfold frz
    rw [if_neg]
    intro hb'; cases hb'; omega
  · have := hp b hb
    unfold frz
    rw [if_neg (show ¬ some r = some b from this)]
theorem MpR.mono (h : MpR M z es v) (hz : Zle z z') : MpR M z' es v := by
  rcases h with h | ⟨r, rfl, h1⟩
  · exact .inl h
  · exact .inr ⟨r, rfl, by rw [hz r (by rw [h1]; simp)]; exact h1⟩
theorem MpR.nil : MpR M z ([] : List (α × β)) (.map none) := .inl ⟨rfl, rfl⟩
theorem MpR.stor (h : MpR M z es v) : storable v = true ∧ v.cells.toList = [v] := by
  rcases h with ⟨rfl, _⟩ | ⟨r, rfl, _⟩ <;> exact ⟨rfl, rfl⟩
theorem Ap.ownM {p : Option Nat} {n : Nat} (h : ∀ b, p = some b → b < n) (hv : ∀ b, mapOf v = some b → n ≤ b) : Ap p (mapOf v) := fun b hb hc => by
  have := h _ hb
  have := hv _ hc
  omega
theorem OwM.stor (h : OwM M z e m k es v) : storable v = true ∧ v.cells.toList = [v] := by
  obtain ⟨r, rfl, _⟩ := h.ow
  exact ⟨rfl, rfl⟩

/-! ### Lookups and updates -/

theorem ents_ok {P : Program} {kt vt : TypeId} (K : KeyOk P kt M.kc) (V : ValOk P vt M.vc) (es : List (α × β)) : EntL (P.cellsOf kt) (P.cellsOf vt) (M.cells es) (M.ents es) := by
  refine ⟨rfl, fun p hp => ?_⟩
  obtain ⟨x, hx, rfl⟩ := List.mem_map.1 hp
  exact ⟨K.len _, V.len _⟩

theorem look_ok [DecidableEq α] {P : Program} {kt vt : TypeId} (K : KeyOk P kt M.kc) (a : α) (z0 : β) : ∀ es : List (α × β), Look (tyAgg P kt) (tyAgg P vt) (cellV (tyAgg P kt) (M.kc a)) (cellV (tyAgg P vt) (M.vc z0)) (M.ents es) (cellV (tyAgg P vt) (M.vc ((mpGet es a).getD z0))) (mpGet es a).isSome
  | [] => .miss
  | p :: es => by
    simp only [mpGet]
    by_cases h : p.1 = a
    · rw [if_pos h]
      exact .hit (M.kc p.1, M.vc p.2) (M.ents es) (by rw [h])
    · rw [if_neg h]
      exact .next (M.kc p.1, M.vc p.2) (M.ents es) _ _ (fun hh => h (K.inj _ _ hh)) (look_ok K a z0 es)

theorem upd_ok [DecidableEq α] {P : Program} {kt : TypeId} (K : KeyOk P kt M.kc) (a : α) (b : β) : ∀ es : List (α × β), Upd (tyAgg P kt) (M.kc a) (M.vc b) (M.ents es) (M.ents (mpSet es a b))
  | [] => .miss
  | p :: es => by
    simp only [mpSet]
    by_cases h : p.1 = a
    · rw [if_pos h]
      exact .hit (M.kc p.1, M.vc p.2) (M.ents es) (by rw [h])
    · rw [if_neg h]
      exact .next (M.kc p.1, M.vc p.2) (M.ents es) _ (fun hh => h (K.inj _ _ hh)) (upd_ok K a b es)

theorem ents_good {P : Program} {kt : TypeId} (es : List (α × β)) : ∀ p ∈ M.ents es, ∃ a, cellV (tyAgg P kt) p.1 = cellV (tyAgg P kt) (M.kc a) := by
  intro p hp
  obtain ⟨x, hx, rfl⟩ := List.mem_map.1 hp
  exact ⟨x.1, rfl⟩

theorem cellV_flat1 {P : Program} {vt : TypeId} {vc : β → List Value} (V : ValOk P vt vc) (b : β) : flat1 (cellV (tyAgg P vt) (vc b)) = true := by
  have h1 := V.flat b
  have h2 := V.len b
  cases ha : tyAgg P vt with
  | true => simpa [cellV, flat1] using h1
  | false =>
    rw [V.one ha] at h2
    match hv : vc b, h2 with
    | [c], _ =>
      rw [hv] at h1
      simp at h1
      simp only [cellV, List.headD_cons]
      cases c <;> first | exact h1 | simp [flat0] at h1

variable {P : Program} {ρ : Operand → Value} {o : Oper} {D : Tag → Value → Mem → Prop} {x ix : Operand} {xt kt vt : TypeId} {i : TypeInfo} {a : α} {z0 : β} {w0 wk : Value} {ok : Bool}

theorem gLookM [DecidableEq α] {r : Nat} (h : o.op = .lookup xt x ix ok) (hxt : P.underlying xt = some (.map kt vt)) (hu : P.underlying M.tid = some (.map kt vt)) (K : KeyOk P kt M.kc) (V : ValOk P vt M.vc) (hi : P.info? vt = some i) (hz : i.zero = some (cellV (tyAgg P vt) (M.vc z0)))
    (hx : ρ x = .map (some r)) (hm : m.blk r = .map (M.cells es) M.tid) (hix : ρ ix = cellV (tyAgg P kt) (M.kc a)) :
    ReadR P ρ o m (if ok then .tuple #[cellV (tyAgg P vt) (M.vc ((mpGet es a).getD z0)), .bool (mpGet es a).isSome] else cellV (tyAgg P vt) (M.vc ((mpGet es a).getD z0))) :=
  .lookup xt x ix ok M.tid kt vt r _ _ i _ _ _ _ h hxt hu (.inl ⟨hx, hm, ents_ok K V es⟩) K.pos V.one K.keyed (by rw [hix]; exact K.flatV a) ⟨a, hix⟩ (ents_good es) hi hz (cellV_flat1 V z0) (by rw [hix]; exact look_ok K a z0 es)

theorem gLookO [DecidableEq α] (h : o.op = .lookup xt x ix ok) (hxt : P.underlying xt = some (.map kt vt)) (hu : P.underlying M.tid = some (.map kt vt)) (K : KeyOk P kt M.kc) (V : ValOk P vt M.vc) (hi : P.info? vt = some i) (hz : i.zero = some (cellV (tyAgg P vt) (M.vc z0)))
    (hx : ρ x = v) (ho : OwM M z e m k es v) (hix : ρ ix = wk) (hwk : wk = cellV (tyAgg P kt) (M.kc a)) {y : Option β} (hy : mpGet es a = y)
    (hw : (if ok then .tuple #[cellV (tyAgg P vt) (M.vc (y.getD z0)), .bool y.isSome] else cellV (tyAgg P vt) (M.vc (y.getD z0))) = w0) : ReadR P ρ o m w0 := by
  obtain ⟨r, rfl, h1, _⟩ := ho.ow
  subst hw hy
  exact gLookM h hxt hu K V hi hz hx h1 (hix.trans hwk)
theorem kLookO [DecidableEq α] (h : o.op = .lookup xt x ix ok) (hxt : P.underlying xt = some (.map kt vt)) (hu : P.underlying M.tid = some (.map kt vt)) (K : KeyOk P kt M.kc) (V : ValOk P vt M.vc) (hi : P.info? vt = some i) (hz : i.zero = some (cellV (tyAgg P vt) (M.vc z0)))
    (hx : ρ x = v) (ho : OwM M z e m k es v) (hix : ρ ix = wk) (hwk : wk = cellV (tyAgg P kt) (M.kc a)) {y : Option β} (hy : mpGet es a = y)
    (hw : (if ok then .tuple #[cellV (tyAgg P vt) (M.vc (y.getD z0)), .bool y.isSome] else cellV (tyAgg P vt) (M.vc (y.getD z0))) = w0) (hk : D (.read fun m => ReadR P ρ o m w0) w0 m) : StepX P ρ o m D :=
  StepX.read (gLookO h hxt hu K V hi hz hx ho hix hwk hy hw) hk

theorem gLookR [DecidableEq α] (h : o.op = .lookup xt x ix ok) (hxt : P.underlying xt = some (.map kt vt)) (hu : P.underlying M.tid = some (.map kt vt)) (K : KeyOk P kt M.kc) (V : ValOk P vt M.vc) (hi : P.info? vt = some i) (hz : i.zero = some (cellV (tyAgg P vt) (M.vc z0)))
    (hx : ρ x = v) (ho : MpR M z es v) (fz : Fz z m) (hix : ρ ix = wk) (hwk : wk = cellV (tyAgg P kt) (M.kc a)) {y : Option β} (hy : mpGet es a = y)
    (hw : (if ok then .tuple #[cellV (tyAgg P vt) (M.vc (y.getD z0)), .bool y.isSome] else cellV (tyAgg P vt) (M.vc (y.getD z0))) = w0) : ReadR P ρ o m w0 := by
  subst hw hy
  rcases ho with ⟨rfl, rfl⟩ | ⟨r, rfl, h1⟩
  · exact .lookup xt x ix ok M.tid kt vt 0 [] [] i _ _ _ _ h hxt hu (.inr ⟨hx, rfl⟩) K.pos V.one K.keyed (by rw [hix, hwk]; exact K.flatV a) ⟨a, hix.trans hwk⟩ (fun p hp => by simp at hp) hi hz (cellV_flat1 V z0) .miss
  · exact gLookM h hxt hu K V hi hz hx (by rw [(fz r (by rw [h1]; simp)).1]; exact h1) (hix.trans hwk)

theorem kLookR [DecidableEq α] (h : o.op = .lookup xt x ix ok) (hxt : P.underlying xt = some (.map kt vt)) (hu : P.underlying M.tid = some (.map kt vt)) (K : KeyOk P kt M.kc) (V : ValOk P vt M.vc) (hi : P.info? vt = some i) (hz : i.zero = some (cellV (tyAgg P vt) (M.vc z0)))
    (hx : ρ x = v) (ho : MpR M z es v) (st : St z e m k) (hix : ρ ix = wk) (hwk : wk = cellV (tyAgg P kt) (M.kc a)) {y : Option β} (hy : mpGet es a = y)
    (hw : (if ok then .tuple #[cellV (tyAgg P vt) (M.vc (y.getD z0)), .bool y.isSome] else cellV (tyAgg P vt) (M.vc (y.getD z0))) = w0) (hk : D (.read fun m => ReadR P ρ o m w0) w0 m) : StepX P ρ o m D :=
  StepX.read (gLookR h hxt hu K V hi hz hx ho st.fz hix hwk hy hw) hk

/-- A map is made. -/
theorem kMakeMap {t : TypeId} (M : MTy α β) (h : o.op = .makeMap t none) (ht : P.underlying t = some (.map kt vt)) (hM : M.tid = t) (st : St z e m k)
    (hk : ∀ v' m', St z e m' k → OwM M z e m' k [] v' → Same m m' none → (∀ p, (∀ b, p = some b → b < m.next) → Ap p (mapOf v')) → D .new v' m') : StepX P ρ o m D := by
  have hzd : z m.next = .dead := by
    cases hz : z m.next with
    | dead => rfl
    | ro rd => have := (st.fz m.next (by rw [hz]; simp)).2; omega
    | own L t => have := (st.fz m.next (by rw [hz]; simp)).2; omega
    | map L t => have := (st.fz m.next (by rw [hz]; simp)).2; omega
  refine StepX.new (.makeMap t kt vt h ht) (hk _ _ (st.push _) ⟨m.next, rfl, by simp [Mem.push, MTy.cells, MTy.ents, hM], by simp [Mem.push], hzd, st.next⟩ (same_push st.dead) fun p hp b hb hb2 => ?_)
  cases hb2
  have := hp _ hb
  omega

/-- An entry is set. -/
theorem kMapSet [DecidableEq α] {kx vx : Operand} {b : β} {wv : Value} (h : o.op = .mapUpdate xt x kx vx ∨ o.op = .insert xt x kx vx) (hxt : P.underlying xt = some (.map kt vt)) (hu : P.underlying M.tid = some (.map kt vt)) (K : KeyOk P kt M.kc) (V : ValOk P vt M.vc)
    (hx : ρ x = v) (ho : OwM M z e m k es v) (hkx : ρ kx = wk) (hwk : wk = cellV (tyAgg P kt) (M.kc a)) (hvx : ρ vx = wv) (hwv : wv = cellV (tyAgg P vt) (M.vc b)) (st : St z e m k) {es' : List (α × β)} (hes : mpSet es a b = es')
    (hk : ∀ m', St z e m' k → OwM M z e m' k es' v → Same m m' (mapOf v) → D .eff undef m') : StepX P ρ o m D := by
  obtain ⟨r, rfl, h1, h2, h3, h4⟩ := ho.ow
  subst hes
  have hs' := same_put (x := .map (M.cells (mpSet es a b)) M.tid) st.dead h2
  have hfl := cellV_flat1 V b
  have hwv' := hvx.trans hwv
  have hst : storable (ρ vx) = true := by
    rw [hwv']
    cases hc : cellV (tyAgg P vt) (M.vc b) <;> first | rfl | (rw [hc] at hfl; simp [flat1, flat0] at hfl)
  have hcells : ∀ c ∈ M.vc b, c ∈ (ρ vx).cells.toList := by
    intro c hc
    rw [hwv']
    cases ha : tyAgg P vt with
    | true => simpa [cellV, Value.cells] using hc
    | false =>
      have h2 := V.len b
      rw [V.one ha] at h2
      match hv : M.vc b, h2 with
      | [d], _ =>
        rw [hv] at hc
        simp at hc; subst hc
        simp only [cellV, List.headD_cons]
        have hf := V.flat b
        rw [hv] at hf
        simp at hf
        cases c <;> first | (simp [flat0] at hf; done) | simp [Value.cells]
  refine StepX.eff (n := 0) (.mapUpdate xt x kx vx M.tid kt vt r _ (M.kc a) (M.vc b) _ (M.ents (mpSet es a b)) _ h hxt hu hx h1 (ents_ok K V es) K.pos K.keyed (hkx.trans hwk) (K.len a) (K.flat a) (by rw [hkx, hwk]; exact K.flatV a) ⟨a, hkx.trans hwk⟩ (ents_good es) hst hwv' (V.len b) hcells (upd_ok K a b es)) (hk _ (st.same hs' ho.hq) ⟨r, rfl, by simp [Mem.put, MTy.cells], h2, h3, h4⟩ hs')
end
end Go.AM
