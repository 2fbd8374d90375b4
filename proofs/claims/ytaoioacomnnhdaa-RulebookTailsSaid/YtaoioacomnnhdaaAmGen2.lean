/- Steps of the abstract machine, each with what follows. -/
import Derived.Test.YtaoioacomnnhdaaAmGen
set_option linter.unusedSimpArgs false
set_option linter.unusedVariables false
namespace Go.AM

/-- What kind of step it was. -/
inductive Tag where
  | pure
  | read (I : Mem → Prop)
  | new
  | eff

/-- One operation, and what follows from it by its kind. -/
def StepX (P : Program) (ρ : Operand → Value) (o : Oper) (m : Mem) (D : Tag → Value → Mem → Prop) : Prop :=
  (∃ v, PureR P ρ o v ∧ D .pure v m) ∨ (∃ v I, PureR P ρ o v ∧ D (.read I) v m) ∨ (∃ v, ReadR P ρ o m v ∧ D (.read fun m => ReadR P ρ o m v) v m) ∨
  (∃ X v, NewR P ρ o m.next X v ∧ D .new v (m.push X)) ∨ (∃ n v m', EffR P (callR P n) ρ o m v m' ∧ D .eff v m')

section
variable {P : Program} {ρ : Operand → Value} {o : Oper} {m : Mem} {D : Tag → Value → Mem → Prop} {K : Value → Mem → Prop}
theorem StepX.pure {v : Value} (h : PureR P ρ o v) (hk : D .pure v m) : StepX P ρ o m D := .inl ⟨v, h, hk⟩
theorem StepX.pureR {v : Value} {I : Mem → Prop} (h : PureR P ρ o v) (hk : D (.read I) v m) : StepX P ρ o m D := .inr (.inl ⟨v, I, h, hk⟩)
theorem StepX.read {v : Value} (h : ReadR P ρ o m v) (hk : D (.read fun m => ReadR P ρ o m v) v m) : StepX P ρ o m D := .inr (.inr (.inl ⟨v, h, hk⟩))
theorem StepX.new {v : Value} {X : Blk} (h : NewR P ρ o m.next X v) (hk : D .new v (m.push X)) : StepX P ρ o m D := .inr (.inr (.inr (.inl ⟨X, v, h, hk⟩)))
theorem StepX.eff {n : Nat} {v : Value} {m' : Mem} (h : EffR P (callR P n) ρ o m v m') (hk : D .eff v m') : StepX P ρ o m D := .inr (.inr (.inr (.inr ⟨n, v, m', h, hk⟩)))
theorem StepX.w (h : StepX P ρ o m fun _ => K) : StepW P ρ o m K := by
  rcases h with ⟨v, h, hk⟩ | ⟨v, I, h, hk⟩ | ⟨v, h, hk⟩ | ⟨X, v, h, hk⟩ | ⟨n, v, m', h, hk⟩
  · exact StepW.pure h hk
  · exact StepW.pure h hk
  · exact StepW.read h hk
  · exact StepW.new h hk
  · exact StepW.eff h hk
theorem StepX.call {f : FuncId} {args : Array Value} (hc : callee o ρ f args) (h : CallW P f args m (D .eff)) : StepX P ρ o m D := by
  obtain ⟨n, v, m', h1, h2⟩ := h
  exact .eff (.call f args v m' hc h1) h2
end

theorem drawR_weak {P : Program} {C : FuncId → Array Value → Mem → Value → Mem → Prop} {ops : List Oper} {B : Array Nat} : ∀ (l : List Oper) (i : Nat) (A A' : Acc) (fr fr' : Nat → Value) (m m' : Mem), (∀ x ∈ A'.reads, x ∈ A.reads) → (∀ x ∈ A'.effs, x ∈ A.effs) → (∀ x ∈ A'.news, x ∈ A.news) → drawR P C ops B i l A fr m fr' m' → drawR P C ops B i l A' fr m fr' m'
  | [], i, A, A', fr, fr', m, m', _, _, _, h => h
  | o :: l, i, A, A', fr, fr', m, m', h1, h2, h3, h => by
    simp only [drawR] at h ⊢
    split at h
    · rename_i hw
      rw [if_pos hw]
      rcases h with ⟨v, hp, hd⟩ | ⟨v, hp, ho, hd⟩ | ⟨X, v, hp, hd⟩ | ⟨v, m1, hp, g1, g2, hd⟩
      · exact .inl ⟨v, hp, drawR_weak l _ _ _ _ _ _ _ h1 h2 h3 hd⟩
      · refine .inr (.inl ⟨v, hp, fun x hx => ho x (h2 x hx), drawR_weak l _ { A with reads := _ :: A.reads } _ _ _ _ _ (fun x hx => ?_) h2 h3 hd⟩)
        rcases List.mem_cons.1 hx with rfl | hx
        · exact List.mem_cons_self
        · exact List.mem_cons_of_mem _ (h1 x hx)
      · refine .inr (.inr (.inl ⟨X, v, hp, drawR_weak l _ { A with news := _ :: A.news } _ _ _ _ _ h1 h2 (fun x hx => ?_) hd⟩))
        rcases List.mem_cons.1 hx with rfl | hx
        · exact List.mem_cons_self
        · exact List.mem_cons_of_mem _ (h3 x hx)
      · refine .inr (.inr (.inr ⟨v, m1, hp, fun x hx => g1 x (h1 x hx), fun x hx => g2 x (h3 x hx), drawR_weak l _ { A with effs := _ :: A.effs } _ _ _ _ _ h1 (fun x hx => ?_) h3 hd⟩))
        rcases List.mem_cons.1 hx with rfl | hx
        · exact List.mem_cons_self
        · exact List.mem_cons_of_mem _ (h2 x hx)
    · rename_i hw
      rw [if_neg hw]
      exact drawR_weak l _ _ _ _ _ _ _ h1 h2 h3 h

/-- What an open order asks of a step. -/
def obl (B : Array Nat) (i : Nat) (A : Acc) (m : Mem) : Tag → Mem → Prop
  | .pure, _ => True
  | .read I, _ => ∀ x ∈ A.effs, anc B i x.1 = false → I x.2
  | .new, _ => True
  | .eff, m1 => (∀ x ∈ A.reads, anc B i x.1 = false → x.2 m1) ∧ ∀ x ∈ A.news, anc B i x.1 = false → m1.blk x.2 = m.blk x.2
def accT (A : Acc) (i : Nat) (m : Mem) : Tag → Acc
  | .pure => A
  | .read I => { A with reads := (i, I) :: A.reads }
  | .new => { A with news := (i, m.next) :: A.news }
  | .eff => { A with effs := (i, m) :: A.effs }

section
variable {P : Program} {ops l : List Oper} {B : Array Nat} {i : Nat} {A : Acc} {K : (Nat → Value) → Mem → Prop} {fr : Nat → Value} {m : Mem} {o : Oper}
theorem SeqW.consX (hg : wanted ops fr o = true) (h : StepX P (ev fr) o m fun _ v m1 => SeqW P ops l K (set fr o.dst v) m1) : SeqW P ops (o :: l) K fr m := SeqW.cons hg h.w
theorem DrawW.cons (hg : wanted ops fr o = true) (h : StepX P (ev fr) o m fun t v m1 => obl B i A m t m1 ∧ DrawW P ops B (i + 1) l (accT A i m t) K (set fr o.dst v) m1) : DrawW P ops B i (o :: l) A K fr m := by
  have up : ∀ {n n' : Nat} (_ : n ≤ n') {l : List Oper} {i : Nat} {A : Acc} {fr fr' : Nat → Value} {m m' : Mem}, drawR P (callR P n) ops B i l A fr m fr' m' → drawR P (callR P n') ops B i l A fr m fr' m' := fun hn => drawR_mono (callR_mono _ _ hn) _ _ _ _ _ _ _
  rcases h with ⟨v, h, _, n, fr', m', h1, h2⟩ | ⟨v, I, h, _, n, fr', m', h1, h2⟩ | ⟨v, h, ho, n, fr', m', h1, h2⟩ | ⟨X, v, h, _, n, fr', m', h1, h2⟩ | ⟨n0, v, m1, h, ho, n, fr', m', h1, h2⟩
  · refine ⟨n, fr', m', ?_, h2⟩
    simp only [drawR]; rw [if_pos hg]
    exact .inl ⟨v, h, h1⟩
  · refine ⟨n, fr', m', ?_, h2⟩
    simp only [drawR]; rw [if_pos hg]
    exact .inl ⟨v, h, drawR_weak _ _ { A with reads := (i, I) :: A.reads } A _ _ _ _ (fun x hx => List.mem_cons_of_mem _ hx) (fun x hx => hx) (fun x hx => hx) h1⟩
  · refine ⟨n, fr', m', ?_, h2⟩
    simp only [drawR]; rw [if_pos hg]
    exact .inr (.inl ⟨v, h, ho, h1⟩)
  · refine ⟨n, fr', m', ?_, h2⟩
    simp only [drawR]; rw [if_pos hg]
    exact .inr (.inr (.inl ⟨X, v, h, h1⟩))
  · refine ⟨max n0 n, fr', m', ?_, h2⟩
    simp only [drawR]; rw [if_pos hg]
    exact .inr (.inr (.inr ⟨v, m1, h.mono (callR_mono _ _ (Nat.le_max_left _ _)), ho.1, ho.2, up (Nat.le_max_right _ _) h1⟩))
theorem DrawW.skip (hg : wanted ops fr o = false) (h : DrawW P ops B (i + 1) l A K (set fr o.dst undef) m) : DrawW P ops B i (o :: l) A K fr m := by
  obtain ⟨n, fr', m', h1, h2⟩ := h
  refine ⟨n, fr', m', ?_, h2⟩
  simp only [drawR]
  rw [if_neg (by simp [hg])]
  exact h1
theorem DrawW.done (h : ∀ fr', fr' = fr → K fr' m) : DrawW P ops B i [] A K fr m := ⟨0, _, _, ⟨rfl, rfl⟩, h _ rfl⟩

/-- The demands, one by one. -/
theorem demN {β : Type} {q : Nat × β → Prop} : ∀ x ∈ ([] : List (Nat × β)), anc B i x.1 = false → q x := fun _ h => nomatch h
theorem demA {β : Type} {q : Nat × β → Prop} {j : Nat} {y : β} {l : List (Nat × β)} (ha : anc B i j = true) (h : ∀ x ∈ l, anc B i x.1 = false → q x) : ∀ x ∈ (j, y) :: l, anc B i x.1 = false → q x := by
  intro x hx h0
  rcases List.mem_cons.1 hx with rfl | hx
  · rw [ha] at h0; cases h0
  · exact h x hx h0
theorem demP {β : Type} {q : Nat × β → Prop} {j : Nat} {y : β} {l : List (Nat × β)} (hq : q (j, y)) (h : ∀ x ∈ l, anc B i x.1 = false → q x) : ∀ x ∈ (j, y) :: l, anc B i x.1 = false → q x := by
  intro x hx h0
  rcases List.mem_cons.1 hx with rfl | hx
  · exact hq
  · exact h x hx h0
end

theorem sCutX {P : Program} {ρ : Operand → Value} {o : Oper} {α : Type} {T : Ty α} {z : Nat → Blk} {xs : List α} {v : Value} {x : Operand} {t : TypeId} {i : TypeInfo} {lo hi : Option Operand} {a b : Int} {r : List α} (h : o.op = .slice t x lo hi none) (ht : P.underlying t = some (.slice T.tid)) (hi' : P.info? T.tid = some i) (hsz : i.size = T.sz) (hx : ρ x = v)
    (hlo : lowI ρ lo a) (hhi : highI ρ hi xs.length b) (hs : SlR T z xs v) (hr : cutI xs a b = some r) :
    ∃ v', (PureR P ρ o v' ∨ ∀ m, Fz z m → ReadR P ρ o m v') ∧ SlR T z r v' := by
  obtain ⟨h0, h1, h2, rfl⟩ := cutI_some hr
  obtain ⟨a', rfl⟩ := Int.eq_ofNat_of_zero_le h0
  obtain ⟨b', rfl⟩ := Int.eq_ofNat_of_zero_le (Int.le_trans h0 h1)
  have h1' : a' ≤ b' := by omega
  have h2' : b' ≤ xs.length := by omega
  simp only [Int.toNat_natCast]
  have hlo' := lowI_is hlo
  have hhi' := highI_is hhi
  have hlen : ((xs.take b').drop a').length = b' - a' := by simp; omega
  rcases hs with ⟨rfl, rfl⟩ | ⟨bl, off, c, rfl, hlive, hcap, hel⟩
  · have hb0 : b' = 0 := by simpa using h2'
    subst hb0
    have ha0 : a' = 0 := by omega
    subst ha0
    exact ⟨.slice none 0 0, .inl (.sliceNil t x lo hi T.tid i h ht hi' hx hlo' hhi'), .inl ⟨rfl, by simp⟩⟩
  · have hel' : ∀ o', o' = off + a' * T.sz → ∀ (k : Nat) (w : α), ((xs.take b').drop a')[k]? = some w → ∃ cs, T.rd z w cs ∧ cellsAt z bl (o' + k * T.sz) cs := by
      intro o' ho' k w hk
      obtain ⟨cs, g1, g2⟩ := hel _ w (cut_get hk)
      refine ⟨cs, g1, ?_⟩
      rw [ho', Nat.add_assoc, ← Nat.add_mul]; exact g2
    rcases hcap with ⟨rfl, L, hL, hlL⟩ | ⟨hc, hle⟩
    · refine ⟨_, .inr fun m hz => (.slice t x lo hi T.tid i L bl off xs.length a' b' h ht hi' hx ?_ hlo' hhi' h1' h2' (by rw [hsz]; exact hlL)), ?_⟩
      · rw [(hz bl hlive).1]; exact hL
      · refine .inr ⟨bl, off + a' * T.sz, BIG, by rw [hlen, hsz], hlive, .inl ⟨rfl, L, hL, ?_⟩, hel' _ rfl⟩
        rw [hlen, Nat.add_assoc, ← Nat.add_mul]
        have : (a' + (b' - a')) * T.sz ≤ xs.length * T.sz := Nat.mul_le_mul_right _ (by omega)
        omega
    · refine ⟨_, .inl (.slice t x lo hi T.tid i bl off xs.length c a' b' h ht hi' hx (by simp only [BIG] at hc ⊢; omega) hlo' hhi' h1' (by omega) (fun _ => trivial)), ?_⟩
      by_cases hcn : c = a'
      · have h00 : b' - a' = 0 := by omega
        refine .inr ⟨bl, off, c - a', by simp [hcn, hlen, h00], hlive, .inr ⟨by omega, by rw [hlen]; omega⟩, fun k w hk => ?_⟩
        have hlt := (List.getElem?_eq_some_iff.1 hk).1
        omega
      · refine .inr ⟨bl, off + a' * T.sz, c - a', by rw [if_neg hcn, hlen, hsz], hlive, .inr ⟨by omega, by rw [hlen]; omega⟩, hel' _ rfl⟩

section
variable {α : Type} {T : Ty α} {z z' : Nat → Blk} {e m m' : Mem} {k q : Option Nat} {xs : List α} {v : Value} {b : Nat} {cs : List Value} {t : TypeId}
variable {P : Program} {ρ : Operand → Value} {o : Oper} {w : Value} {ys : List α} {x y : Operand} {u : TypeId} {i : TypeInfo} {K : Value → Mem → Prop} {D : Tag → Value → Mem → Prop}

theorem kAppend (h : o.op = .call { callee := .builtin .append, args := #[x, y], argTypes := #[t, u] }) (ht : P.underlying t = some (.slice T.tid)) (hi : P.info? T.tid = some i) {zv : Value} (hzv : i.zero = some zv) (hzf : zv.cells.toList.all flat0 = true) (hzs : zv.cells.size = i.size)
    (hsz : i.size = T.sz) (hpos : (T.sz == 0) = false) (hby : Nat.ble i.bytes 32768 = true) (hu : (∃ e', P.underlying u = some (.slice e')) ∨ P.underlying u = some .string) (hx : ρ x = v) (hs : OwF T z e m k xs v) (hy : ρ y = w) (hsrc : Src T z m ys w)
    (st : St z e m k) {r : List α} (hr : appI xs ys = some r)
    (hk : ∀ v' m', St z e m' k → OwF T z e m' k r v' → Same m m' (blkOf v) → (∀ p, (∀ b, p = some b → b < m.next) → Ap p (blkOf v) → Ap p (blkOf v')) → D .eff v' m') : StepX P ρ o m D := by
  obtain ⟨v', m', h1, h2, h3, h4, h5⟩ := gAppend (C := callR P 0) h ht hi hzv hzf hzs hsz (by rcases Nat.eq_zero_or_pos T.sz with h0 | h0; · rw [h0] at hpos; cases hpos
                                                                                              · exact h0) (Nat.le_of_ble_eq_true hby) hu hx hs hy hsrc st hr
  exact StepX.eff h1 (hk _ _ h2 h3 h4 h5)

theorem kMake {x0 : α} {k1 k2 : IntKind} {n : Int} (h : o.op = .makeSlice t x y) (ht : P.underlying t = some (.slice T.tid)) (hi : P.info? T.tid = some i) {zv : Value} (hzv : i.zero = some zv) (hzf : zv.cells.toList.all flat0 = true) (hzs : zv.cells.size = i.size) (hsz : i.size = T.sz) (hby : Nat.ble i.bytes 32768 = true)
    (hrd : T.rd z x0 zv.cells.toList) (hx : ρ x = .int k1 n) (hy : ρ y = .int k2 n) (st : St z e m k) {r : List α} (hr : mkI x0 n = some r)
    (hk : ∀ v' m', St z e m' k → OwF T z e m' k r v' → Same m m' none → (∀ p, (∀ b, p = some b → b < m.next) → Ap p (blkOf v')) → D .new v' m') : StepX P ρ o m D := by
  obtain ⟨v', m', L, t', h1, rfl, h2, h3, h4, h5⟩ := gMake h ht hi hzv hzf hzs hsz (Nat.le_of_ble_eq_true hby) hrd hx hy st hr
  exact StepX.new h1 (hk _ _ h2 h3 h4 h5)

theorem kBuild {ps : Array (Nat × Operand)} {l : Nat} (h : o.op = .buildSlice t l ps) (ht : P.underlying t = some (.slice T.tid)) (hi : P.info? T.tid = some i) {zv : Value} (hzv : i.zero = some zv) (hzf : zv.cells.toList.all flat0 = true) (hzs : zv.cells.size = i.size) (hsz : i.size = T.sz)
    (as : List α) (css : List (List Value)) (hl : as.length = l) (h24 : Nat.ble (l * T.sz) 16777216 = true) (hl63 : Nat.blt l 9223372036854775808 = true) (hb : BuildOk T z ρ ps.toList 0 as css) (st : St z e m k)
    (hk : ∀ v' m', St z e m' k → OwF T z e m' k as v' → Same m m' none → (∀ p, (∀ b, p = some b → b < m.next) → Ap p (blkOf v')) → D .new v' m') : StepX P ρ o m D := by
  obtain ⟨v', m', L, t', h1, rfl, h2, h3, h4, h5⟩ := gBuild h ht hi hzv hzf hzs hsz hl (Nat.le_of_ble_eq_true h24) (by have := hl63; simp [Nat.blt] at this; omega) hb st
  exact StepX.new h1 (hk _ _ h2 h3 h4 h5)

theorem kBytes {s : List UInt8} {tid : TypeId} (h : o.op = .convert u t x) (hu : P.underlying u = some .string) (ht : P.underlying t = some (.slice tid)) (he : P.underlying tid = some (.int .u8)) (hi : P.info? tid = some i) (hi1 : i.size = 1) (hx : ρ x = str s) {s' : List UInt8} (hl : appI s [] = some s') (st : St z e m k)
    (hk : ∀ v' m', St z e m' k → OwF (TU8 tid) z e m' k s' v' → Same m m' none → (∀ p, (∀ b, p = some b → b < m.next) → Ap p (blkOf v')) → D .new v' m') : StepX P ρ o m D := by
  obtain ⟨hlim, rfl⟩ := appI_some hl
  rw [List.append_nil] at hk
  obtain ⟨v', m', L, t', h1, rfl, h2, h3, h4, h5⟩ := gBytes h hu ht he hi hi1 hx (by simp only [LIM, List.length_nil] at hlim; omega) st
  exact StepX.new h1 (hk _ _ h2 h3 h4 h5)

theorem kAlloc (h : o.op = .alloc t) (hi : P.info? t = some i) {zv : Value} (hz : i.zero = some zv) (hzf : zv.cells.toList.all flat0 = true) (hs : zv.cells.size = i.size) (cs : List Value) (hc : zv.cells.toList = cs) (st : St z e m k)
    (hk : ∀ b m', St z e m' k → Bx z e m' k b cs t → Same m m' none → (∀ p, (∀ c, p = some c → c < m.next) → Ap p (some b)) → D .new (.pointer (some ⟨b, 0, none⟩)) m') : StepX P ρ o m D := by
  obtain ⟨b, m', L, t', h1, rfl, h2, h3, h4, h5⟩ := gAlloc h hi hz hzf hs hc st
  exact StepX.new h1 (hk _ _ h2 h3 h4 h5)
theorem kBox (h : o.op = .box t x) (hi : P.info? t = some i) (hx : ρ x = v) (hv : storable v = true) (cs : List Value) (hc : v.cells.toList = cs) (hs : cs.length = i.size) (st : St z e m k)
    (hk : ∀ b m', St z e m' k → Bx z e m' k b cs t → Same m m' none → (∀ p, (∀ c, p = some c → c < m.next) → Ap p (some b)) → D .new (.pointer (some ⟨b, 0, none⟩)) m') : StepX P ρ o m D := by
  obtain ⟨b, m', L, t', h1, rfl, h2, h3, h4, h5⟩ := gBox h hi hx hv hc hs st
  exact StepX.new h1 (hk _ _ h2 h3 h4 h5)

theorem kPut {off : Nat} {new : List Value} {te : TypeId} (h : o.op = .store t x y) (hi : P.info? t = some i) (hx : ρ x = .pointer (some ⟨b, off, none⟩)) (hy : ρ y = w) (hv : storable w = true) (hn : w.cells.toList = new) (hs : new.length = i.size) (hb : Bx z e m k b cs te) (hl : Nat.ble (off + new.length) cs.length = true) (cs' : List Value) (hcs : setN cs off new = cs') (st : St z e m k)
    (hk : ∀ m', St z e m' k → Bx z e m' k b cs' te → Same m m' (some b) → D .eff undef m') : StepX P ρ o m D := by
  obtain ⟨m', h1, h2, h3, h4⟩ := gPut (C := callR P 0) h hi hx hy hv hn hs hb (Nat.le_of_ble_eq_true hl) hcs st
  exact StepX.eff h1 (hk _ h2 h3 h4)

theorem kSet {off n f l c : Nat} {new ecs ecs' : List Value} {a a' : α} (h : o.op = .store t x y) (hi : P.info? t = some i) (hx : ρ x = .pointer (some ⟨b, off, none⟩)) (hoff : off = n * T.sz + f) (hy : ρ y = w) (hv : storable w = true) (hn : w.cells.toList = new) (hs : new.length = i.size)
    (ho : OwF T z e m k xs v) (hvb : v = .slice (some ⟨b, 0, none⟩) l c) (ha : xs[n]? = some a) (hr : T.rd z a ecs) (hc : ∀ (i : Nat) (u : Value), ecs[i]? = some u → m.load b (n * T.sz + i) = some u) (hr' : T.rd z a' ecs') (hcs : ecs' = setN ecs f new) (hf : Nat.ble (f + new.length) ecs.length = true) (st : St z e m k)
    (hk : ∀ m', St z e m' k → OwF T z e m' k (xs.set n a') v → Same m m' (blkOf v) → D .eff undef m') : StepX P ρ o m D := by
  obtain ⟨m', h1, h2, h3, h4⟩ := gSet (C := callR P 0) h hi hx hoff hy hv hn hs ho hvb ha hr hc hr' hcs (Nat.le_of_ble_eq_true hf) st
  exact StepX.eff h1 (hk _ h2 h3 h4)

theorem kIdxR {k1 : IntKind} {n : Int} {a : α} {te : TypeId} (h : o.op = .indexAddr t x y) (ht : P.underlying t = some (.slice te)) (hi : P.info? te = some i) (hsz : i.size = T.sz) (hx : ρ x = v) (hy : ρ y = .int k1 n) (hs : SlR T z xs v) (hg : getI xs n = some a)
    (hk : ∀ b off cs, T.rd z a cs → cellsAt z b off cs → D .pure (.pointer (some ⟨b, off, none⟩)) m) : StepX P ρ o m D := by
  obtain ⟨b, off, cs, h1, h2, h3⟩ := gIdxR h ht hi hsz hx hy hs hg
  exact StepX.pure h1 (hk _ _ _ h2 h3)
theorem kIdxO {k1 : IntKind} {n : Int} {a : α} {te : TypeId} (h : o.op = .indexAddr t x y) (ht : P.underlying t = some (.slice te)) (hi : P.info? te = some i) (hsz : i.size = T.sz) (hx : ρ x = v) (hy : ρ y = .int k1 n) (hs : OwF T z e m k xs v) (hg : getI xs n = some a)
    (hk : ∀ b l c cs, v = .slice (some ⟨b, 0, none⟩) l c → T.rd z a cs → xs[n.toNat]? = some a → (∀ (j : Nat) (u : Value), cs[j]? = some u → m.load b (n.toNat * T.sz + j) = some u) → D .pure (.pointer (some ⟨b, n.toNat * T.sz, none⟩)) m) : StepX P ρ o m D := by
  obtain ⟨b, l, c, cs, h1, h2, h3, h4⟩ := gIdxO h ht hi hsz hx hy hs hg
  exact StepX.pure h1 (hk _ _ _ _ h2 h3 (getI_some hg).2.2 h4)

theorem kField {n : Nat} {fs : Array Field} {f : Field} {off : Nat} (h : o.op = .fieldAddr t x n) (ht : P.underlying t = some (.struct fs)) (hf : fs[n]? = some f) (hi : P.info? f.type = some i) (hs : (i.size == 0) = false) (hx : ρ x = .pointer (some ⟨b, off, none⟩)) {off' : Nat} (ho : off + f.offset = off')
    (hk : D .pure (.pointer (some ⟨b, off', none⟩)) m) : StepX P ρ o m D := by
  subst ho
  exact StepX.pure (gField h ht hf hi hs hx) hk
theorem kLoad {off : Nat} {d : TypeDesc} (h : o.op = .load t x) (ht : P.underlying t = some d) (hd : aggT d = false) (hx : ρ x = .pointer (some ⟨b, off, none⟩)) (hv : m.load b off = some v) (hk : D (.read fun m => ReadR P ρ o m v) v m) : StepX P ρ o m D := StepX.read (gLoad h ht hd hx hv) hk
theorem kLoadA {off : Nat} {d : TypeDesc} (h : o.op = .load t x) (ht : P.underlying t = some d) (hd : aggT d = true) (hi : P.info? t = some i) (hs : cs.length = i.size) (hx : ρ x = .pointer (some ⟨b, off, none⟩)) (hv : ∀ (j : Nat) (u : Value), cs[j]? = some u → m.load b (off + j) = some u)
    (hk : D (.read fun m => ReadR P ρ o m (.agg cs.toArray)) (.agg cs.toArray) m) : StepX P ρ o m D := StepX.read (gLoadA h ht hd hi hs hx hv) hk

theorem kCut {lo hi : Option Operand} {a b : Int} {r : List α} (h : o.op = .slice t x lo hi none) (ht : P.underlying t = some (.slice T.tid)) (hi' : P.info? T.tid = some i) (hsz : i.size = T.sz) (hx : ρ x = v)
    (hlo : lowI ρ lo a) (hhi : highI ρ hi xs.length b) (hs : SlR T z xs v) (st : St z e m k) (hr : cutI xs a b = some r) (hk : ∀ v' I, (∀ m, Fz z m → I m) → SlR T z r v' → D (.read I) v' m) : StepX P ρ o m D := by
  obtain ⟨v', h1, h2⟩ := sCutX h ht hi' hsz hx hlo hhi hs hr
  rcases h1 with h1 | h1
  · exact StepX.pureR (I := fun _ => True) h1 (hk _ _ (fun _ _ => trivial) h2)
  · exact StepX.read (h1 m st.fz) (hk _ _ h1 h2)

theorem kCutS {s r : List UInt8} {lo hi : Option Operand} {a b : Int} (h : o.op = .slice t x lo hi none) (ht : P.underlying t = some .string) (hx : ρ x = str s) (hlo : lowI ρ lo a) (hhi : highI ρ hi s.length b) (hr : cutI s a b = some r) (hk : D .pure (str r) m) : StepX P ρ o m D := by
  obtain ⟨h0, h1, h2, rfl⟩ := cutI_some hr
  obtain ⟨a', rfl⟩ := Int.eq_ofNat_of_zero_le h0
  obtain ⟨b', rfl⟩ := Int.eq_ofNat_of_zero_le (Int.le_trans h0 h1)
  exact StepX.pure (pSliceS h ht hx (lowI_is hlo) (highI_is hhi) (by omega) (by omega)) hk

theorem kIndexS {s : List UInt8} {c : UInt8} {k1 : IntKind} {n : Int} (h : o.op = .index t x y) (ht : P.underlying t = some .string) (hx : ρ x = str s) (hy : ρ y = .int k1 n) (hg : getI s n = some c) (hk : D .pure (.int .u8 c.toNat) m) : StepX P ρ o m D := by
  obtain ⟨h0, h1, h2⟩ := getI_some hg
  exact StepX.pure (pIndexS h ht hx hy h0 h2) hk

theorem kAddS {s r q : List UInt8} (h : o.op = .binOp .add t x y u) (hx : ρ x = str s) (hy : ρ y = str r) (hr : appI s r = some q) (hk : D .pure (str q) m) : StepX P ρ o m D := by
  obtain ⟨h1, rfl⟩ := appI_some hr
  exact StepX.pure (pAddS h hx hy (by simp only [LIM] at h1; omega)) hk

theorem kQuo {k1 : IntKind} {a b c : Int} (h : o.op = .binOp .quo t x y u) (hx : ρ x = .int k1 a) (hy : ρ y = .int k1 b) (hr : divI a b = some c) (hk : D .pure (.int k1 (k1.wrap c)) m) : StepX P ρ o m D := by
  obtain ⟨h1, rfl⟩ := divI_some hr
  exact StepX.pure (pQuo h hx hy h1) hk
theorem kRem {k1 : IntKind} {a b c : Int} (h : o.op = .binOp .rem t x y u) (hx : ρ x = .int k1 a) (hy : ρ y = .int k1 b) (hr : modI a b = some c) (hk : D .pure (.int k1 c) m) : StepX P ρ o m D := by
  obtain ⟨h1, rfl⟩ := modI_some hr
  exact StepX.pure (pRem h hx hy h1) hk

/-- A string from bytes. -/
theorem kStrR {s : List UInt8} {tid : TypeId} (h : o.op = .convert t u x) (ht : P.underlying t = some (.slice tid)) (he : P.underlying tid = some (.int .u8)) (hu : P.underlying u = some .string) (hx : ρ x = v) (hs : SlR (TU8 tid) z s v) (st : St z e m k) (hk : D (.read fun m => ReadR P ρ o m (str s)) (str s) m) : StepX P ρ o m D :=
  StepX.read (rStr h ht he hu hx (hs.src st.fz) (by obtain ⟨a, c, rfl⟩ := hs.len; exact ⟨_, _, _, rfl⟩)) hk
theorem kStrO {s : List UInt8} {tid : TypeId} (h : o.op = .convert t u x) (ht : P.underlying t = some (.slice tid)) (he : P.underlying tid = some (.int .u8)) (hu : P.underlying u = some .string) (hx : ρ x = v) (hs : OwF (TU8 tid) z e m k s v) (hk : D (.read fun m => ReadR P ρ o m (str s)) (str s) m) : StepX P ρ o m D :=
  StepX.read (rStr h ht he hu hx hs.ow.src (by obtain ⟨a, c, rfl⟩ := hs.ow.len; exact ⟨_, _, _, rfl⟩)) hk

theorem args0 : (#[] : Array Operand).map ρ = #[] := by simp
theorem args1 {x0 : Operand} {a0 : Value} (h0 : ρ x0 = a0) : #[x0].map ρ = #[a0] := by simp [h0]
theorem args2 {x0 x1 : Operand} {a0 a1 : Value} (h0 : ρ x0 = a0) (h1 : ρ x1 = a1) : #[x0, x1].map ρ = #[a0, a1] := by simp [h0, h1]
theorem args3 {x0 x1 x2 : Operand} {a0 a1 a2 : Value} (h0 : ρ x0 = a0) (h1 : ρ x1 = a1) (h2 : ρ x2 = a2) : #[x0, x1, x2].map ρ = #[a0, a1, a2] := by simp [h0, h1, h2]
theorem args4 {x0 x1 x2 x3 : Operand} {a0 a1 a2 a3 : Value} (h0 : ρ x0 = a0) (h1 : ρ x1 = a1) (h2 : ρ x2 = a2) (h3 : ρ x3 = a3) : #[x0, x1, x2, x3].map ρ = #[a0, a1, a2, a3] := by simp [h0, h1, h2, h3]
theorem args5 {x0 x1 x2 x3 x4 : Operand} {a0 a1 a2 a3 a4 : Value} (h0 : ρ x0 = a0) (h1 : ρ x1 = a1) (h2 : ρ x2 = a2) (h3 : ρ x3 = a3) (h4 : ρ x4 = a4) : #[x0, x1, x2, x3, x4].map ρ = #[a0, a1, a2, a3, a4] := by simp [h0, h1, h2, h3, h4]
theorem args6 {x0 x1 x2 x3 x4 x5 : Operand} {a0 a1 a2 a3 a4 a5 : Value} (h0 : ρ x0 = a0) (h1 : ρ x1 = a1) (h2 : ρ x2 = a2) (h3 : ρ x3 = a3) (h4 : ρ x4 = a4) (h5 : ρ x5 = a5) : #[x0, x1, x2, x3, x4, x5].map ρ = #[a0, a1, a2, a3, a4, a5] := by simp [h0, h1, h2, h3, h4, h5]

theorem resCell {fr : Nat → Value} {a : Nat} {d : TypeDesc} (h : fr a = .pointer (some ⟨b, 0, none⟩)) (hx : Bx z e m k b cs t) (hd : P.underlying u = some d) (ha : aggT d = true) (hi : P.info? u = some i) (hs : cs.length = i.size) : resultR P fr m (.cell a u) (.agg cs.toArray) :=
  ⟨b, 0, h, d, hd, by rw [if_pos ha]; exact ⟨i, cs, hi, rdN_of _ _ _ hs hx.loads, rfl⟩⟩

theorem SlR.stor {xs : List α} (h : SlR T z xs v) : storable v = true ∧ v.cells.toList = [v] := by
  obtain ⟨a, c, rfl⟩ := h.len
  exact ⟨rfl, rfl⟩
theorem BuildOk.mk {n : Nat} {x : Operand} {w : Value} {ps : List (Nat × Operand)} {a : α} {as : List α} {c : List Value} {css : List (List Value)} (hx : ρ x = w) (hs : storable w = true) (hc : w.cells.toList = c) (hr : T.rd z a c) (h : BuildOk T z ρ ps (n + 1) as css) : BuildOk T z ρ ((n, x) :: ps) n (a :: as) (c :: css) :=
  ⟨rfl, by rw [hx]; exact hs, by rw [hx]; exact hc, hr, h⟩

theorem kBuildS {ps : Array (Nat × Operand)} {fs : Array Field} {pl : List (Option (Nat × Nat))} {zv : Value} (vs : List (Nat × Value)) (cs : List Value) (h : o.op = .build t ps) (ht : P.underlying t = some (.struct fs)) (hi : P.info? t = some i) (hz : i.zero = some zv) (hzf : zv.cells.toList.all flat0 = true)
    (hpl : places P fs = pl) (hp : pl.all Option.isSome = true) (hvs : ps.toList.map (fun p => (p.1, ρ p.2)) = vs) (hc : fillL (fun k => (pl[k]?).join) zv.cells.toList vs = some cs) (hk : D .pure (.agg cs.toArray) m) : StepX P ρ o m D := by
  subst hpl hvs
  exact StepX.pure (.build t ps fs i zv cs h ht hi hz hzf (by simpa [List.all_eq_true] using hp) hc) hk

/-! ### Guards -/
variable {ops l : List Oper} {fr : Nat → Value} {KK : (Nat → Value) → Mem → Prop}
theorem SeqW.consG {j d : Nat} {want bb : Bool} (hg : o.guard = some (j, want)) (hd : (ops[j]?).bind (·.dst) = some d) (hv : fr d = .bool bb) (hb : bb = want) (h : StepX P (ev fr) o m fun _ v m1 => SeqW P ops l KK (set fr o.dst v) m1) : SeqW P ops (o :: l) KK fr m :=
  SeqW.consX (by subst hb; simp [wanted, hg, hd, hv]) h
theorem SeqW.skipG {j d : Nat} {want bb : Bool} (hg : o.guard = some (j, want)) (hd : (ops[j]?).bind (·.dst) = some d) (hv : fr d = .bool bb) (hb : bb = !want) (h : SeqW P ops l KK (set fr o.dst undef) m) : SeqW P ops (o :: l) KK fr m :=
  SeqW.skip (by subst hb; simp [wanted, hg, hd, hv]) h
theorem SeqW.skipU {j d : Nat} {want : Bool} (hg : o.guard = some (j, want)) (hd : (ops[j]?).bind (·.dst) = some d) (hv : fr d = undef) (h : SeqW P ops l KK (set fr o.dst undef) m) : SeqW P ops (o :: l) KK fr m :=
  SeqW.skip (by simp [wanted, hg, hd, hv, undef]) h
theorem DrawW.consG {B : Array Nat} {n : Nat} {A : Acc} {j d : Nat} {want bb : Bool} (hg : o.guard = some (j, want)) (hd : (ops[j]?).bind (·.dst) = some d) (hv : fr d = .bool bb) (hb : bb = want) (h : StepX P (ev fr) o m fun t v m1 => obl B n A m t m1 ∧ DrawW P ops B (n + 1) l (accT A n m t) KK (set fr o.dst v) m1) : DrawW P ops B n (o :: l) A KK fr m :=
  DrawW.cons (by subst hb; simp [wanted, hg, hd, hv]) h
theorem DrawW.skipG {B : Array Nat} {n : Nat} {A : Acc} {j d : Nat} {want bb : Bool} (hg : o.guard = some (j, want)) (hd : (ops[j]?).bind (·.dst) = some d) (hv : fr d = .bool bb) (hb : bb = !want) (h : DrawW P ops B (n + 1) l A KK (set fr o.dst undef) m) : DrawW P ops B n (o :: l) A KK fr m :=
  DrawW.skip (by subst hb; simp [wanted, hg, hd, hv]) h
theorem DrawW.skipU {B : Array Nat} {n : Nat} {A : Acc} {j d : Nat} {want : Bool} (hg : o.guard = some (j, want)) (hd : (ops[j]?).bind (·.dst) = some d) (hv : fr d = undef) (h : DrawW P ops B (n + 1) l A KK (set fr o.dst undef) m) : DrawW P ops B n (o :: l) A KK fr m :=
  DrawW.skip (by simp [wanted, hg, hd, hv, undef]) h
theorem Same.ld {l0 c off : Nat} (s : Same m m' q) (h : OwF T z e m k xs v) (ap : Ap (blkOf v) q) (hv : v = .slice (some ⟨b, 0, none⟩) l0 c) : m'.load b off = m.load b off := by
  have hb : blkOf v = some b := by rw [hv]; rfl
  simp only [Mem.load]
  rw [s.blk b (h.lt b hb) (ap b hb)]
theorem Fz.le (h : Fz z' m) (hz : Zle z z') : Fz z m := fun b hb => by
  have h1 := hz b hb
  have := h b (by rw [h1]; exact hb)
  rw [h1] at this
  exact this
theorem Ap.fresh {p : Option Nat} {n c : Nat} (h : ∀ b, p = some b → b < n) (hn : n ≤ c) : Ap p (some c) := fun b hb hc => by
  cases hc
  have := h _ hb
  omega
theorem Ap.own {p : Option Nat} {n : Nat} (h : ∀ b, p = some b → b < n) (hv : ∀ b, blkOf v = some b → n ≤ b) : Ap p (blkOf v) := fun b hb hc => by
  have := h _ hb
  have := hv _ hc
  omega
theorem OwF.up {k' : Option Nat} {e' : Mem} (h : OwF T z e' m k' xs v) (hn : e.next ≤ e'.next) : OwF T z e m k xs v := ⟨h.ow, fun b hb => Nat.le_trans hn (h.fresh b hb)⟩
theorem OwF.stor (h : OwF T z e m k xs v) : storable v = true ∧ v.cells.toList = [v] := by
  obtain ⟨a, c, rfl⟩ := h.ow.len
  exact ⟨rfl, rfl⟩
end
end Go.AM
