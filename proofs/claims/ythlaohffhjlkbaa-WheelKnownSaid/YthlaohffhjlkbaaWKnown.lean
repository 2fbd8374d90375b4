/- Wheel: the wagons of a train are recognized from its distances. -/
import Derived.Test.YthlaohffhjlkbaaWPath
import Derived.Test.YthlaohffhjlkbaaLMea
set_option linter.unusedVariables false
set_option linter.unusedSimpArgs false
namespace Go.W
open Go.AM

section
variable {d : List Int} {p : List (List Int)} {tol : Int}

/-! ### The least cost is no greater than any division's -/
theorem rowF_le {tl : List (Int × Int)} {ds : List Int} : ∀ (ps : List (List Int)) (j : Nat) (b : Int × Int), (b.1 < 0 ↔ b.2 < 0) → (∀ q ∈ ps, ∀ f, fit tol q ds = some f → 0 ≤ f) →
    (0 ≤ b.1 → 0 ≤ (rowF tol tl ds ps j b).1 ∧ (rowF tol tl ds ps j b).1 ≤ b.1) ∧
    (∀ q ∈ ps, ∀ f c, fit tol q ds = some f → tl[q.length]? = some c → 0 ≤ c.1 → 0 ≤ (rowF tol tl ds ps j b).1 ∧ (rowF tol tl ds ps j b).1 ≤ f + c.1)
  | [], j, b, _, _ => ⟨fun h => ⟨h, Int.le_refl _⟩, fun q hq => by simp at hq⟩
  | q :: ps, j, b, hb, hf => by
    have hst : ((better tol tl ds q j b).1 < 0 ↔ (better tol tl ds q j b).2 < 0) ∧ (0 ≤ b.1 → 0 ≤ (better tol tl ds q j b).1 ∧ (better tol tl ds q j b).1 ≤ b.1) ∧
        (∀ f c, fit tol q ds = some f → tl[q.length]? = some c → 0 ≤ c.1 → 0 ≤ (better tol tl ds q j b).1 ∧ (better tol tl ds q j b).1 ≤ f + c.1) := by
      unfold better
      split
      · rename_i f c hff hc
        have hf0 := hf q (by simp) f hff
        split
        · refine ⟨hb, fun h => ⟨h, Int.le_refl _⟩, fun f' c' h1 h2 h3 => ?_⟩
          rw [h2] at hc; injection hc with hc; subst hc; omega
        · split
          · refine ⟨by dsimp only; omega, fun h => by dsimp only; omega, fun f' c' h1 h2 h3 => ?_⟩
            rw [h1] at hff; injection hff with hff; subst hff
            rw [h2] at hc; injection hc with hc; subst hc
            dsimp only; omega
          · refine ⟨hb, fun h => ⟨h, Int.le_refl _⟩, fun f' c' h1 h2 h3 => ?_⟩
            rw [h1] at hff; injection hff with hff; subst hff
            rw [h2] at hc; injection hc with hc; subst hc
            omega
      · rename_i hno
        refine ⟨hb, fun h => ⟨h, Int.le_refl _⟩, fun f c h1 h2 _ => ?_⟩
        exact absurd h2 (hno f c h1)
    obtain ⟨i1, i2⟩ := rowF_le (tl := tl) (ds := ds) ps (j + 1) (better tol tl ds q j b) hst.1 (fun q' hq' => hf q' (by simp [hq']))
    simp only [rowF]
    refine ⟨fun h => ?_, fun q' hq' f c h1 h2 h3 => ?_⟩
    · have := hst.2.1 h
      have := i1 this.1
      omega
    · rcases List.mem_cons.1 hq' with rfl | hq'
      · have := hst.2.2 f c h1 h2 h3
        have := i1 this.1
        omega
      · exact i2 q' hq' f c h1 h2 h3

theorem tab_le (F : Fine d p) {k : Nat} (hk : k ≤ d.length) {q : List Int} (hq : q ∈ p) {f : Int} (hf : fit tol q (d.drop (d.length - k)) = some f) {c : Int × Int} (hc : (tabN tol p d (k - q.length)).head? = some c) (h0 : 0 ≤ c.1) :
    ∃ c', (tabN tol p d (k + 1)).head? = some c' ∧ 0 ≤ c'.1 ∧ c'.1 ≤ f + c.1 := by
  have hl := fit_len hf
  rw [List.length_drop] at hl
  have ht : (tabN tol p d k)[q.length]? = some c := by rw [tab_get k q.length (by omega)]; exact hc
  obtain ⟨_, h⟩ := rowF_le (tol := tol) (tl := tabN tol p d k) (ds := d.drop (d.length - k)) p 0 (-1, -1) (by simp) (fun q hq f hf => (fit_bound (F.p q hq).2 (fun x hx => F.d x (List.mem_of_mem_drop hx)) hf).1)
  exact ⟨_, rfl, h q hq f c hf ht h0⟩

/-- A division of what is left, of a cost of at most 'B' for each distance. -/
def Cv (tol B : Int) : List (List Int) → List Int → Prop
  | [], _ => False
  | q :: r, E => ∃ f, fit tol q E = some f ∧ f ≤ B * q.length ∧ match r with
    | [] => E.length = q.length
    | q' :: r' => q.length < E.length ∧ Cv tol B (q' :: r') (E.drop (q.length + 1))
theorem cv_le (F : Fine d p) {B : Int} (hB : 0 ≤ B) : ∀ (qs : List (List Int)) (k : Nat), (∀ q ∈ qs, q ∈ p) → k ≤ d.length → Cv tol B qs (d.drop (d.length - k)) → ∃ c, (tabN tol p d (k + 1)).head? = some c ∧ 0 ≤ c.1 ∧ c.1 ≤ B * k
  | [], k, _, _, h => by simp [Cv] at h
  | [q], k, hp, hk, h => by
    obtain ⟨f, h1, h2, h3⟩ := h
    simp only [List.length_drop] at h3
    have hq : q.length = k := by omega
    obtain ⟨c, c1, c2, c3⟩ := tab_le (tol := tol) F hk (hp q (by simp)) h1 (c := (0, 0)) (by rw [hq, Nat.sub_self]; rfl) (by simp)
    refine ⟨c, c1, c2, ?_⟩
    rw [hq] at h2
    simp only [Int.add_zero] at c3
    omega
  | q :: q' :: r, k, hp, hk, h => by
    obtain ⟨f, h1, h2, h3, h4⟩ := h
    simp only [List.length_drop] at h3
    have hd : (d.drop (d.length - k)).drop (q.length + 1) = d.drop (d.length - (k - q.length - 1)) := by
      rw [List.drop_drop]; congr 1; omega
    rw [hd] at h4
    obtain ⟨c, g1, g2, g3⟩ := cv_le F hB (q' :: r) (k - q.length - 1) (fun x hx => hp x (List.mem_cons_of_mem _ hx)) (by omega) h4
    rw [show k - q.length - 1 + 1 = k - q.length by omega] at g1
    obtain ⟨c', c1, c2, c3⟩ := tab_le (tol := tol) F hk (hp q (by simp)) h1 g1 g2
    refine ⟨c', c1, c2, ?_⟩
    have hm : B * q.length + B * ((k - q.length - 1 : Nat) : Int) ≤ B * k := by
      rw [← Int.mul_add]; exact Int.mul_le_mul_of_nonneg_left (by omega) hB
    omega

theorem fit_mono {tol tol' : Int} (h : tol ≤ tol') : ∀ {q ds : List Int} {f : Int}, fit tol q ds = some f → fit tol' q ds = some f
  | [], _, f, hf => by simpa [fit] using hf
  | _ :: _, [], f, hf => by simp [fit] at hf
  | a :: q, b :: ds, f, hf => by
    simp only [fit] at hf ⊢
    split at hf
    · cases hf
    · rename_i hn
      rw [if_neg (by omega)]
      cases hq : fit tol q ds with
      | none => simp [hq] at hf
      | some g => rw [fit_mono h hq]; simpa [hq] using hf
theorem tab_mono (F : Fine d p) {tol tol' : Int} (h : tol ≤ tol') : ∀ (K k : Nat) (c : Int × Int), k ≤ K → k ≤ d.length + 1 → (tabN tol p d k).head? = some c → 0 ≤ c.1 → ∃ c', (tabN tol' p d k).head? = some c' ∧ 0 ≤ c'.1 ∧ c'.1 ≤ c.1
  | K, 0, c, _, _, hc, _ => by
    simp only [tabN, List.head?_cons, Option.some.injEq] at hc
    subst hc
    exact ⟨(0, 0), rfl, by simp, by simp⟩
  | 0, k + 1, c, hk, _, _, _ => by omega
  | K + 1, k + 1, c, hk, hkd, hc, h0 => by
    obtain ⟨j, q, f, c', h1, h2, h3, h4, h5, h6, h7, h8⟩ := row_ok F (by omega) hc h0
    obtain ⟨c2, g1, g2, g3⟩ := tab_mono F h K (k - q.length) c' (by omega) (by omega) h6 h7
    obtain ⟨c3, e1, e2, e3⟩ := tab_le (tol := tol') F (show k ≤ d.length by omega) (List.mem_of_getElem? h1) (fit_mono h h3) g1 g2
    exact ⟨c3, e1, e2, by omega⟩

/-! ### The axles of the choices -/
theorem picks_sum (F : Fine d p) : ∀ (n k : Nat) (c : Int × Int), k ≤ n → k ≤ d.length + 1 → (tabN tol p d k).head? = some c → 0 ≤ c.1 →
    (∀ x ∈ picks tol p d n k, 0 ≤ x ∧ x < p.length) ∧ ((picks tol p d n k).map fun x => (((p[x.toNat]?).map List.length).getD 0 : Int) + 1).sum = k
  | n, 0, c, _, _, _, _ => by cases n <;> simp [picks]
  | 0, k + 1, c, h, _, _, _ => by omega
  | n + 1, k + 1, c, hkn, hk, hc, h0 => by
    obtain ⟨j, q, f, c', h1, h2, h3, h4, h5, h6, h7, h8⟩ := row_ok F (by omega) hc h0
    have hj : j < p.length := (List.getElem?_eq_some_iff.1 h1).1
    have hlen : ((p[c.2.toNat]?).map List.length).getD 0 = q.length := by rw [h2, Int.toNat_natCast, h1]; rfl
    obtain ⟨i1, i2⟩ := picks_sum F n (k - q.length) c' (by omega) (by omega) h6 h7
    simp only [picks, hc, hlen]
    refine ⟨fun x hx => ?_, ?_⟩
    · rcases List.mem_cons.1 hx with rfl | hx
      · omega
      · exact i1 x hx
    · rw [List.map_cons, List.sum_cons, i2, hlen]; omega
end

theorem axle_loop (N : Nat) {p : List (List Int)} (hp : ∀ q ∈ p, q.length ≤ 5) {l : List Int} (hl : ∀ x ∈ l, 0 ≤ x ∧ x < p.length) (hll : l.length ≤ 1000) : ∀ (k n i : Nat) (a : Int), k < n → i + k = l.length → 0 ≤ a → a ≤ 6 * i →
    l07_WheelKnown_1 N p l l.length n a i = some (.inl (a + ((l.drop i).map fun x => (((p[x.toNat]?).map List.length).getD 0 : Int) + 1).sum))
  | k, 0, i, a, hn, _, _, _ => by omega
  | 0, n + 1, i, a, hn, hi, _, _ => by
    rw [l07_WheelKnown_1, if_neg (dneg (by omega)), List.drop_eq_nil_of_le (by omega)]; simp
  | k + 1, n + 1, i, a, hn, hi, h0, h1 => by
    have hlt : i < l.length := by omega
    obtain ⟨x0, x1⟩ := hl _ (List.getElem_mem hlt)
    obtain ⟨j, hj⟩ := Int.eq_ofNat_of_zero_le x0
    have hjp : j < p.length := by omega
    have hq := hp _ (List.getElem_mem hjp)
    have h2 : l07_WheelKnown_2 N p (j : Int) = some false := by
      unfold l07_WheelKnown_2
      rw [if_neg (dneg (by omega)), decide_eq_false (by omega)]
    rw [l07_WheelKnown_1, if_pos (dpos (by omega)), getI_nat (at_lt hlt), bind_some', hj, h2, bind_some', if_neg (by decide), getI_nat (at_lt hjp), bind_some', lt_def, w64 (n := (p[j].length : Int) + 1) (by omega) (by omega), w64 (n := a + ((p[j].length : Int) + 1)) (by omega) (by omega), w64s (by omega),
      axle_loop N hp hl hll k n (i + 1) _ (by omega) (by omega) (by omega) (by omega), drop_at (at_lt hlt), List.map_cons, List.sum_cons, hj, Int.toNat_natCast, at_lt hjp]
    simp only [Option.map_some, Option.getD_some, Int.add_assoc]

/-! ### Patterns -/
def dif : List Int → List Int
  | a :: b :: t => (b - a) :: dif (b :: t)
  | _ => []
theorem dif_len : ∀ l : List Int, (dif l).length = l.length - 1
  | [] => rfl
  | [a] => rfl
  | a :: b :: t => by simp [dif, dif_len (b :: t)]
def pat (w : Wagon) : List Int := dif (of w)
theorem dif_loop (N : Nat) {l : List Int} (hl : l.length ≤ 100) (hb : ∀ x ∈ l, 0 ≤ x ∧ x ≤ 4000) : ∀ (k n i : Nat) (out : List Int), k < n → i + 1 + k = l.length → out.length + k ≤ 100 →
    l07_patterns_1 N l n out ((i + 1 : Nat) : Int) = some (out ++ dif (l.drop i))
  | k, 0, i, out, hn, _, _ => by omega
  | 0, n + 1, i, out, hn, hi, _ => by
    rw [l07_patterns_1, if_neg (dneg (by omega)), drop_at (at_lt (show i < l.length by omega)), List.drop_eq_nil_of_le (by omega)]
    simp [dif]
  | k + 1, n + 1, i, out, hn, hi, ho => by
    have h1 : i + 1 < l.length := by omega
    have h0 : i < l.length := by omega
    have b1 := hb _ (List.getElem_mem h1)
    have b0 := hb _ (List.getElem_mem h0)
    rw [l07_patterns_1, if_pos (dpos (by omega)), getI_nat (at_lt h1), bind_some', show IntKind.wrap .i64 (((i + 1 : Nat) : Int) - 1) = (i : Int) from w64p (by omega), getI_nat (at_lt h0), bind_some', appI_ok (by simp; omega), bind_some', lt_def, w64s (by omega), w64 (n := l[i + 1] - l[i]) (by omega) (by omega), dif_loop N hl hb k n (i + 1) _ (by omega) (by omega) (by simp; omega),
      drop_at (at_lt h0), drop_at (at_lt h1)]
    simp [dif]
theorem pat_loop (N : Nat) (hN : 100 ≤ N) {l : List Wagon} (hl : l.length ≤ 100) (hF : ∀ w ∈ l, Fu N w) (hv : ∀ w ∈ l, wagErr w = 0) : ∀ (k n i : Nat) (out : List (List Int)), k < n → i + k = l.length → out.length + k ≤ 100 →
    l07_patterns_0 N l n out i = some (out ++ (l.drop i).map pat)
  | k, 0, i, out, hn, _, _ => by omega
  | 0, n + 1, i, out, hn, hi, _ => by
    rw [l07_patterns_0, if_neg (dneg (by omega)), List.drop_eq_nil_of_le (by omega)]; simp
  | k + 1, n + 1, i, out, hn, hi, ho => by
    have hlt : i < l.length := by omega
    have hm := List.getElem_mem hlt
    have h0 := hv _ hm
    obtain ⟨hl1, _⟩ := wag_ranges h0
    have hos : ∀ o ∈ of l[i], 0 ≤ o ∧ o ≤ 4000 := ofs_range hl1.1 hl1.2
    have hol : 1 ≤ (of l[i]).length ∧ (of l[i]).length ≤ 6 := ofs_len _ _
    have e := dif_loop N (l := of l[i]) (by omega) hos ((of l[i]).length - 1) N 0 [] (by omega) (by omega) (by simp; omega)
    simp only [Nat.zero_add, Int.natCast_one, List.drop_zero, List.nil_append] at e
    rw [l07_patterns_0, if_pos (dpos (by omega)), getI_nat (at_lt hlt), bind_some', (Offsets_ok N (by omega) (hF _ hm)).2, bind_some']
    unfold offE
    rw [if_neg (by simp [h0])]
    dsimp only
    rw [e, bind_some', appI_ok (by simp; omega), bind_some', lt_def, w64s (by omega), pat_loop N hN hl hF hv k n (i + 1) _ (by omega) (by omega) (by simp; omega), drop_at (at_lt hlt)]
    simp only [List.map_cons, List.append_assoc, List.singleton_append]
    rfl

/-! ### The distances of a train hold its wagons' patterns -/
theorem stepD_out {f : Int} : ∀ (t : List Int) (last : Int) (out : List Int), stepD f t last out = (out ++ (stepD f t last []).1, (stepD f t last []).2)
  | [], last, out => by simp [stepD]
  | o :: t, last, out => by
    simp only [stepD, List.nil_append]
    rw [stepD_out t (f + o) (if 0 ≤ last then out ++ [f + o - last] else out), stepD_out t (f + o) (if 0 ≤ last then [f + o - last] else [])]
    by_cases h : 0 ≤ last
    · simp [h]
    · simp [h]
theorem dst_out : ∀ (l : List Wagon) (f last : Int) (out : List Int), dst l f last out = out ++ dst l f last []
  | [], f, last, out => by simp [dst]
  | w :: l, f, last, out => by
    simp only [dst]
    rw [stepD_out (of w) last out]
    dsimp only
    rw [dst_out l _ _ (out ++ _), dst_out l _ _ (stepD f (of w) last []).1, List.append_assoc]
theorem stepD_dif {f : Int} (hf : 0 ≤ f) : ∀ {t : List Int} {o : Int}, (∀ x ∈ o :: t, 0 ≤ x) → (stepD f t (f + o) []).1 = dif (o :: t)
  | [], o, _ => by simp [stepD, dif]
  | a :: t, o, h => by
    have h0 := h o (by simp)
    simp only [stepD, if_pos (show 0 ≤ f + o by omega), List.nil_append]
    rw [stepD_out, stepD_dif hf (fun x hx => h x (List.mem_cons_of_mem _ hx))]
    show [f + a - (f + o)] ++ dif (a :: t) = (a - o) :: dif (a :: t)
    rw [show f + a - (f + o) = a - o by omega]; rfl
/-- One wagon's part: the gap ahead, if a wagon stands ahead, and its pattern. -/
theorem dst_cons {w : Wagon} (h : wagErr w = 0) {l : List Wagon} {f last : Int} (hf : 0 ≤ f) : ∃ g last', dst (w :: l) f last [] = (if 0 ≤ last then [g] else []) ++ pat w ++ dst l (f + 10 * w.length) last' [] ∧ 0 ≤ last' := by
  obtain ⟨o, t, he, ho0, ho1, hasc, hr⟩ := ofs_asc h
  refine ⟨f + o - last, (stepD f (of w) last []).2, ?_, ?_⟩
  · simp only [dst]
    rw [dst_out]
    congr 1
    unfold pat
    rw [he]
    simp only [stepD, List.nil_append]
    rw [stepD_out]
    dsimp only
    rw [stepD_dif hf (fun x hx => (hr x hx).1)]
  · obtain ⟨hl, _⟩ := wag_ranges h
    rw [he]
    simp only [stepD]
    have key : ∀ (t : List Int) (last : Int) (out : List Int), (∀ x ∈ t, 0 ≤ x) → 0 ≤ last → 0 ≤ (stepD f t last out).2 := by
      intro t
      induction t with
      | nil => intro last out _ h; exact h
      | cons a t ih => intro last out hx h; simp only [stepD]; exact ih _ _ (fun x hx' => hx x (by simp [hx'])) (by have := hx a (by simp); omega)
    exact key t _ _ (fun x hx => (hr x (by simp [hx])).1) (by omega)

theorem dif_pos' : ∀ {l : List Int}, List.Pairwise (· < ·) l → (∀ x ∈ l, 0 ≤ x ∧ x ≤ 4000) → ∀ x ∈ dif l, InR x
  | [], _, _, x, hx => by simp [dif] at hx
  | [a], _, _, x, hx => by simp [dif] at hx
  | a :: b :: t, hp, hb, x, hx => by
    rw [List.pairwise_cons] at hp
    simp only [dif, List.mem_cons] at hx
    rcases hx with rfl | hx
    · have := hp.1 b (by simp)
      have := hb a (by simp)
      have := hb b (by simp)
      unfold InR; omega
    · exact dif_pos' hp.2 (fun y hy => hb y (List.mem_cons_of_mem _ hy)) x hx

/-- Measured distances lie within 8 of the true ones. -/
def Near (B : Int) : List Int → List Int → Prop
  | [], [] => True
  | a :: l, b :: m => -B ≤ a - b ∧ a - b ≤ B ∧ Near B l m
  | _, _ => False
theorem near_refl {B : Int} (hB : 0 ≤ B) : ∀ l : List Int, Near B l l
  | [] => trivial
  | a :: l => ⟨by omega, by omega, near_refl hB l⟩
theorem near_len {B : Int} : ∀ {l m : List Int}, Near B l m → l.length = m.length
  | [], [], _ => rfl
  | a :: l, b :: m, h => by simp [near_len h.2.2]
theorem near_app {B : Int} : ∀ {a b m : List Int}, Near B m (a ++ b) → Near B (m.take a.length) a ∧ Near B (m.drop a.length) b
  | [], b, m, h => ⟨by simp [Near], by simpa using h⟩
  | x :: a, b, [], h => by simp [Near] at h
  | x :: a, b, y :: m, h => by
    have ih := near_app (a := a) (b := b) (m := m) h.2.2
    exact ⟨⟨h.1, h.2.1, ih.1⟩, by simpa using ih.2⟩
theorem fit_near {B tol : Int} (ht : B ≤ tol) : ∀ {q m : List Int} (r : List Int), Near B m q → ∃ f, fit tol q (m ++ r) = some f ∧ f ≤ B * q.length
  | [], [], r, _ => ⟨0, rfl, by simp⟩
  | a :: q, b :: m, r, h => by
    obtain ⟨f, h1, h2⟩ := fit_near ht r h.2.2
    have hx : max (b - a) (a - b) ≤ B := by have := h.1; have := h.2.1; omega
    refine ⟨f + max (b - a) (a - b), ?_, ?_⟩
    · simp only [List.cons_append, fit]
      rw [if_neg (by omega), h1]; rfl
    · simp only [List.length_cons]
      rw [show B * ((q.length + 1 : Nat) : Int) = B * q.length + B by rw [show ((q.length + 1 : Nat) : Int) = (q.length : Int) + 1 by omega, Int.mul_add, Int.mul_one]]
      omega
  | [], b :: m, r, h => by simp [Near] at h
  | a :: q, [], r, h => by simp [Near] at h

theorem cv_train {B tol : Int} (ht : B ≤ tol) : ∀ (l : List Wagon) (w : Wagon) (f last : Int) (m : List Int), (∀ x ∈ w :: l, wagErr x = 0) → 0 ≤ f → 0 ≤ last → Near B m (pat w ++ dst l f last []) → Cv tol B ((w :: l).map pat) m
  | [], w, f, last, m, hv, hf, hl, hm => by
    simp only [dst, List.append_nil] at hm
    obtain ⟨g, g1, g2⟩ := fit_near ht [] hm
    rw [List.append_nil] at g1
    exact ⟨g, g1, g2, near_len hm⟩
  | w' :: l, w, f, last, m, hv, hf, hl, hm => by
    obtain ⟨n1, n2⟩ := near_app hm
    obtain ⟨g, last', e, hl'⟩ := dst_cons (hv w' (by simp)) (l := l) (f := f) (last := last) hf
    rw [e, if_pos hl] at n2
    obtain ⟨c, c1, c2⟩ := fit_near ht (m.drop (pat w).length) n1
    rw [List.take_append_drop] at c1
    have hlen := near_len hm
    rw [e, if_pos hl] at hlen
    simp only [List.length_append, List.length_cons, List.length_nil] at hlen
    obtain ⟨hw, _⟩ := wag_ranges (hv w' (by simp))
    refine ⟨c, c1, c2, by omega, ?_⟩
    have n3 : Near B (m.drop ((pat w).length + 1)) (pat w' ++ dst l (f + 10 * w'.length) last' []) := by
      cases hd : m.drop (pat w).length with
      | nil => rw [hd] at n2; simp [Near] at n2
      | cons y t =>
        rw [hd] at n2
        have : m.drop ((pat w).length + 1) = t := by rw [← List.drop_drop, hd]; rfl
        rw [this]
        exact n2.2.2
    exact cv_train ht l w' (f + 10 * w'.length) last' _ (fun x hx => hv x (List.mem_cons_of_mem _ hx)) (by omega) hl' n3
end Go.W
