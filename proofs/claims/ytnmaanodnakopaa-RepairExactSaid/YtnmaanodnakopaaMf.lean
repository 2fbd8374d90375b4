/- LRpV LRpW LRpX LRpY LRpE -/
import Derived.Test.YtnmaanodnakopaaMe
section
set_option linter.unusedVariables false
set_option linter.unusedSimpArgs false
namespace Go.W
open Go.AM
structure Bd (d : Disorder) : Prop where
  li : d.items.length ≤ 110
  lh : d.homes.length ≤ 30
  lt : d.tracks.length ≤ 40
  tl : ∀ l ∈ d.tracks, l.length ≤ 120
theorem tk_iff {ts : List (List Int)} {n : Nat} : TkOk ts n ↔ ts.flatten.Nodup ∧ (∀ i ∈ ts.flatten, 0 ≤ i ∧ i < n) ∧ ts.flatten.length = n := by
  constructor
  · intro h
    refine ⟨flat_nd h, fun i hi => ?_, ?_⟩
    · obtain ⟨t, p, hp⟩ := mem_flat.1 hi
      exact h.rg _ _ _ hp
    · rw [List.length_flatten, ← tot_all, h.tot]
  · rintro ⟨h1, h2, h3⟩
    refine ⟨fun t p i hi => h2 i (mem_flat.2 ⟨t, p, hi⟩), fun t p t' p' i hi hi' => ?_, fun x hx => ?_, by rw [tot_all, ← List.length_flatten, h3]⟩
    · rw [List.Nodup, List.pairwise_flatten] at h1
      obtain ⟨g1, g2⟩ := h1
      unfold posD at hi hi'
      cases hl : ts[t]? with
      | none => rw [hl] at hi; cases hi
      | some l =>
        cases hl' : ts[t']? with
        | none => rw [hl'] at hi'; cases hi'
        | some l' =>
          rw [hl] at hi
          rw [hl'] at hi'
          have hi : l[p]? = some i := hi
          have hi' : l'[p']? = some i := hi'
          obtain ⟨a1, a2⟩ := List.getElem?_eq_some_iff.1 hl
          obtain ⟨b1, b2⟩ := List.getElem?_eq_some_iff.1 hl'
          obtain ⟨c1, c2⟩ := List.getElem?_eq_some_iff.1 hi
          obtain ⟨e1, e2⟩ := List.getElem?_eq_some_iff.1 hi'
          have far : ∀ (u u' : Nat) (hu : u < ts.length) (hu' : u' < ts.length), u < u' → i ∈ ts[u] → i ∈ ts[u'] → False := by
            intro u u' hu hu' hlt m m'
            exact (List.pairwise_iff_getElem.1 g2) u u' hu hu' hlt i m i m' rfl
          rcases Nat.lt_trichotomy t t' with hlt | heq | hgt
          · exact (far t t' a1 b1 hlt (by rw [a2]; exact List.mem_of_getElem? hi) (by rw [b2]; exact List.mem_of_getElem? hi')).elim
          · subst heq
            rw [hl] at hl'
            cases hl'
            refine ⟨rfl, ?_⟩
            have nd := g1 l (List.mem_of_getElem? hl)
            rcases Nat.lt_trichotomy p p' with h | h | h
            · exact absurd (c2.trans e2.symm) ((List.pairwise_iff_getElem.1 nd) p p' c1 e1 h)
            · exact h
            · exact absurd (e2.trans c2.symm) ((List.pairwise_iff_getElem.1 nd) p' p e1 c1 h)
          · exact (far t' t b1 a1 hgt (by rw [b2]; exact List.mem_of_getElem? hi') (by rw [a2]; exact List.mem_of_getElem? hi)).elim
    · by_cases hm : (x : Int) ∈ ts.flatten
      · obtain ⟨t, p, hp⟩ := mem_flat.1 hm
        exact ⟨t, p, hp⟩
      · exfalso
        have h4 : ((x : Int) :: ts.flatten).length ≤ ((List.range n).map fun (y : Nat) => (y : Int)).length := by
          refine List.Nodup.length_le_of_subset (List.nodup_cons.2 ⟨hm, h1⟩) fun i hi => ?_
          rcases List.mem_cons.1 hi with rfl | hi
          · exact List.mem_map.2 ⟨x, List.mem_range.2 hx, rfl⟩
          · obtain ⟨r1, r2⟩ := h2 i hi
            exact List.mem_map.2 ⟨i.toNat, List.mem_range.2 (by omega), by omega⟩
        simp only [List.length_cons, List.length_map, List.length_range] at h4
        omega
def seeB (s : List Bool) (x : Nat) : Bool := (s[x]?).getD true
def seenF : List Int → List Bool → Option (List Bool)
  | [], s => some s
  | x :: l, s => if x < 0 ∨ seeB s x.toNat = true then none else seenF l (s.set x.toNat true)
theorem seenF_app : ∀ (l l' : List Int) (s : List Bool), seenF (l ++ l') s = (seenF l s).bind (seenF l')
  | [], l', s => rfl
  | x :: l, l', s => by
    rw [List.cons_append, seenF, seenF]
    split
    · rfl
    · exact seenF_app l l' _
theorem seenF_len : ∀ {l : List Int} {s s' : List Bool}, seenF l s = some s' → s'.length = s.length
  | [], s, s', h => by cases h; rfl
  | x :: l, s, s', h => by
    rw [seenF] at h
    split at h
    · cases h
    · rw [seenF_len h, List.length_set]
theorem seeB_set {s : List Bool} {i j : Nat} (hi : i < s.length) : seeB (s.set i true) j = if i = j then true else seeB s j := by
  unfold seeB
  rw [List.getElem?_set]
  by_cases h : i = j
  · rw [if_pos h, if_pos h, if_pos (by omega)]; rfl
  · rw [if_neg h, if_neg h]
theorem seeB_ge {s : List Bool} {i : Nat} (hi : s.length ≤ i) : seeB s i = true := by
  unfold seeB; rw [List.getElem?_eq_none hi]; rfl
theorem seenF_iff : ∀ {l : List Int} {s : List Bool}, (∃ s', seenF l s = some s') ↔ l.Nodup ∧ ∀ i ∈ l, 0 ≤ i ∧ seeB s i.toNat = false
  | [], s => by simp [seenF]
  | x :: l, s => by
    rw [seenF]
    by_cases h : x < 0 ∨ seeB s x.toNat = true
    · rw [if_pos h]
      constructor
      · rintro ⟨s', h'⟩; cases h'
      · rintro ⟨_, h2⟩
        have := h2 x List.mem_cons_self
        rcases h with h | h
        · omega
        · rw [h] at this; cases this.2
    · rw [if_neg h, seenF_iff]
      have h0 : 0 ≤ x := by omega
      have hf : seeB s x.toNat = false := by
        cases hs : seeB s x.toNat with
        | false => rfl
        | true => exact (h (.inr hs)).elim
      have hlt : x.toNat < s.length := by
        rcases Nat.lt_or_ge x.toNat s.length with h | h
        · exact h
        · rw [seeB_ge h] at hf; cases hf
      rw [List.nodup_cons]
      constructor
      · rintro ⟨h1, h2⟩
        refine ⟨⟨fun hm => ?_, h1⟩, fun i hi => ?_⟩
        · have := (h2 x hm).2
          rw [seeB_set hlt, if_pos rfl] at this; cases this
        · rcases List.mem_cons.1 hi with rfl | hi
          · exact ⟨h0, hf⟩
          · have := h2 i hi
            rw [seeB_set hlt] at this
            split at this
            · cases this.2
            · exact this
      · rintro ⟨⟨h1, h2⟩, h3⟩
        refine ⟨h2, fun i hi => ?_⟩
        have := h3 i (List.mem_cons_of_mem _ hi)
        rw [seeB_set hlt, if_neg]
        · exact this
        · intro e
          exact h1 (by rw [show x = i by omega]; exact hi)
theorem sp2 (N : Nat) (at' : List Spot) (seen : List Bool) (x : Int) (hl : at'.length = seen.length) : zaW_2 N at' seen x = some (decide (x < 0 ∨ seeB seen x.toNat = true)) := by
  unfold zaW_2
  by_cases h1 : x < 0
  · rw [if_pos (by simpa using h1)]; simp [h1]
  · rw [if_neg (by simpa using h1)]
    obtain ⟨j, rfl⟩ := Int.eq_ofNat_of_zero_le (show 0 ≤ x by omega)
    by_cases h2 : (at'.length : Int) ≤ (j : Int)
    · rw [if_pos (by simpa using h2)]
      simp [seeB_ge (show seen.length ≤ j by omega)]
    · have hj : j < seen.length := by omega
      rw [if_neg (by simpa using h2), getI_nat (at_lt hj), bind_some', bind_some']
      congr 1
      unfold seeB
      rw [Int.toNat_natCast, at_lt hj, Option.getD_some]
      cases hb : seen[j] <;> simp <;> omega
theorem vsp1 (N : Nat) {t : Int} {l : List Int} (hll : l.length ≤ 1000) : ∀ (k m j : Nat) (at' : List Spot) (seen : List Bool) (c : Nat), k < m → j + k = l.length → c + k ≤ 100000 → at'.length = seen.length →
    ∃ at2, zaW_1 N t l (l.length : Int) m at' seen (c : Int) (j : Int) = some (match seenF (l.drop j) seen with | none => .inr false | some s => .inl (at2, s, ((c + k : Nat) : Int))) ∧ at2.length = seen.length
  | k, 0, j, at', seen, c, h, _, _, _ => by omega
  | 0, m + 1, j, at', seen, c, h, hj, hc, hI => by
    unfold zaW_1
    rw [if_neg (by simp; omega), List.drop_of_length_le (by omega), seenF]
    exact ⟨at', rfl, hI⟩
  | k + 1, m + 1, j, at', seen, c, h, hj, hc, hI => by
    have hlt : j < l.length := by omega
    rw [zaW_1, if_pos (by simp; omega), getI_nat (at_lt hlt), bind_some', sp2 N _ _ _ hI, bind_some', drop_at (at_lt hlt), seenF]
    by_cases hb : l[j] < 0 ∨ seeB seen l[j].toNat = true
    · rw [if_pos (decide_eq_true hb), if_pos hb]
      exact ⟨at', rfl, hI⟩
    · rw [if_neg (by simpa using hb), if_neg hb]
      have hx0 : 0 ≤ l[j] := by omega
      obtain ⟨x, hx⟩ := Int.eq_ofNat_of_zero_le hx0
      have hxs : x < seen.length := by
        rcases Nat.lt_or_ge x seen.length with h | h
        · exact h
        · exact (hb (.inr (by rw [hx]; exact seeB_ge h))).elim
      have hxa : x < at'.length := by omega
      rw [hx, getI_nat (at_lt hxa), bind_some', bind_some', lt_def, getI_nat (at_lt hxs), bind_some', bind_some', lt_def, lt_def, Int.toNat_natCast, w64s (by omega), w64s (by omega)]
      obtain ⟨a2, g1, g2⟩ := vsp1 N (t := t) hll k m (j + 1) (at'.set x (Spot.mk t (j : Int))) (seen.set x true) (c + 1) (by omega) (by omega) (by omega) (by simp [hI])
      refine ⟨a2, ?_, by simpa using g2⟩
      rw [g1, show c + 1 + k = c + (k + 1) by omega]
theorem vsp0 (N : Nat) (hN : 1000 ≤ N) {ts : List (List Int)} (hts : ts.length ≤ 900) (hl : ∀ l ∈ ts, l.length ≤ 900) : ∀ (k m t : Nat) (at' : List Spot) (seen : List Bool) (c : Nat), k < m → t + k = ts.length → c + 900 * k ≤ 90000 * 10 → c + 900 * k ≤ 99000 → at'.length = seen.length →
    ∃ at2, zaW_0 N ts (ts.length : Int) m at' seen (c : Int) (t : Int) = some (match seenF (ts.drop t).flatten seen with | none => .inr false | some s => .inl (at2, ((c + (ts.drop t).flatten.length : Nat) : Int))) ∧ at2.length = seen.length
  | k, 0, t, at', seen, c, h, _, _, _, _ => by omega
  | 0, m + 1, t, at', seen, c, h, ht, _, _, hI => by
    unfold zaW_0
    rw [if_neg (by simp; omega), List.drop_of_length_le (by omega)]
    exact ⟨at', rfl, hI⟩
  | k + 1, m + 1, t, at', seen, c, h, ht, hc0, hc, hI => by
    have hlt : t < ts.length := by omega
    have hll := hl _ (List.getElem_mem hlt)
    obtain ⟨a2, g1, g2⟩ := vsp1 N (t := (t : Int)) (l := ts[t]) (by omega) ts[t].length N 0 at' seen c (by omega) (by omega) (by omega) hI
    rw [List.drop_zero] at g1
    have g1 : zaW_1 N (t : Int) ts[t] (ts[t].length : Int) N at' seen (c : Int) 0 = _ := g1
    rw [zaW_0, if_pos (by simp; omega), getI_nat (at_lt hlt), bind_some', g1, bind_some', drop_at (at_lt hlt), List.flatten_cons, seenF_app]
    cases hs : seenF ts[t] seen with
    | none => exact ⟨at', rfl, hI⟩
    | some s =>
      simp only [Option.bind_some]
      obtain ⟨a3, f1, f2⟩ := vsp0 N hN hts hl k m (t + 1) a2 s (c + ts[t].length) (by omega) (by omega) (by omega) (by omega) (by rw [g2, seenF_len hs])
      refine ⟨a3, ?_, by rw [f2, seenF_len hs]⟩
      rw [w64s (by omega), f1, List.length_append, Nat.add_assoc]
theorem vspots (N : Nat) (hN : 1000 ≤ N) {d : Disorder} (hB : Bd d) : ∃ at' b, zaW N d = some (at', b) ∧ (b = true ↔ TkOk d.tracks d.items.length) := by
  have hli := hB.li
  have hlt := hB.lt
  unfold zaW
  rw [mkI_ok (by omega) (by omega), bind_some', mkI_ok (by omega) (by omega), bind_some', Int.toNat_natCast]
  obtain ⟨a2, g1, g2⟩ := vsp0 N hN (ts := d.tracks) (by omega) (fun l hl => by have := hB.tl l hl; omega) d.tracks.length N 0 (List.replicate d.items.length (Spot.mk 0 0)) (List.replicate d.items.length false) 0 (by omega) (by omega) (by omega) (by omega) (by simp)
  rw [List.drop_zero, Nat.zero_add] at g1
  have g1 : zaW_0 N d.tracks (d.tracks.length : Int) N (List.replicate d.items.length (Spot.mk 0 0)) (List.replicate d.items.length false) 0 0 = _ := g1
  rw [g1, bind_some']
  have hsee : ∀ i : Int, 0 ≤ i → (seeB (List.replicate d.items.length false) i.toNat = false ↔ i < d.items.length) := by
    intro i hi
    unfold seeB
    rw [List.getElem?_replicate]
    split
    · simp; omega
    · simp; omega
  have key := seenF_iff (l := d.tracks.flatten) (s := List.replicate d.items.length false)
  cases hs : seenF d.tracks.flatten (List.replicate d.items.length false) with
  | none =>
    refine ⟨[], false, rfl, ?_⟩
    constructor
    · intro h; cases h
    · intro h
      obtain ⟨h1, h2, h3⟩ := tk_iff.1 h
      obtain ⟨s', hs'⟩ := key.2 ⟨h1, fun i hi => ⟨(h2 i hi).1, (hsee i (h2 i hi).1).2 (h2 i hi).2⟩⟩
      rw [hs] at hs'; cases hs'
  | some s =>
    obtain ⟨k1, k2⟩ := key.1 ⟨s, hs⟩
    simp only
    rw [lt_def]
    refine ⟨a2, _, rfl, ?_⟩
    rw [g2, List.length_replicate, tk_iff]
    constructor
    · intro h
      have h : (d.tracks.flatten.length : Int) = (d.items.length : Int) := by simpa using h
      exact ⟨k1, fun i hi => ⟨(k2 i hi).1, (hsee i (k2 i hi).1).1 (k2 i hi).2⟩, by omega⟩
    · rintro ⟨_, _, h3⟩
      simp [h3]
def itB (d : Disorder) (x : Item) : Bool := decide (x.train < 0) || (decide ((d.homes.length : Int) ≤ x.train) || (decide (x.block < 0) || (decide (32 ≤ x.block) || ((x.round != 0) || (decide (x.length < 1) || decide (400 < x.length))))))
theorem itB_ok {d : Disorder} {x : Item} : itB d x = false ↔ (0 ≤ x.train ∧ x.train < d.homes.length ∧ 0 ≤ x.block ∧ x.block < 32 ∧ x.round = 0 ∧ 1 ≤ x.length ∧ x.length ≤ 400) := by
  unfold itB
  simp only [Bool.or_eq_false_iff, decide_eq_false_iff_not, bne_eq_false_iff_eq]
  omega
theorem v4_ok (N : Nat) (d : Disorder) (x : Item) : zaT_4 N d x = some (itB d x) := by
  unfold zaT_4 itB
  by_cases h1 : x.train < 0
  · simp [h1]
  by_cases h2 : (d.homes.length : Int) ≤ x.train
  · simp [h1, h2]
  by_cases h3 : x.block < 0
  · simp [h1, h2, h3]
  by_cases h4 : 32 ≤ x.block
  · simp [h1, h2, h3, h4]
  by_cases h5 : x.round = 0
  · by_cases h6 : x.length < 1
    · simp [h1, h2, h3, h4, h5, h6]
    · simp [h1, h2, h3, h4, h5, h6]
  · simp [h1, h2, h3, h4, h5]
theorem rv2_ok (N : Nat) (d : Disorder) (x : Item) : zbQ_2 N d x = some (itB d x) := v4_ok N d x
def szB (d : Disorder) : Bool := decide (96 < (d.items.length : Int)) || (decide (16 < (d.homes.length : Int)) || decide (24 < (d.tracks.length : Int)))
theorem v0_ok (N : Nat) (d : Disorder) : zaT_0 N d = some (szB d) := by
  unfold zaT_0 szB
  by_cases h1 : 96 < (d.items.length : Int)
  · simp [h1]
  by_cases h2 : 16 < (d.homes.length : Int)
  · simp [h1, h2]
  · simp [h1, h2]
theorem rv0_ok (N : Nat) (d : Disorder) : zbQ_0 N d = some (szB d) := v0_ok N d
def hmB (d : Disorder) (i : Nat) (h : Int) : Bool := decide (h < 0) || (decide ((d.tracks.length : Int) ≤ h) || decide (h ∈ d.homes.take i))
theorem hm_iff {d : Disorder} : (∀ (i : Nat) (h : Int), d.homes[i]? = some h → hmB d i h = false) ↔ (∀ h ∈ d.homes, 0 ≤ h ∧ h < d.tracks.length) ∧ d.homes.Nodup := by
  unfold hmB
  simp only [Bool.or_eq_false_iff, decide_eq_false_iff_not]
  constructor
  · intro h
    refine ⟨fun x hx => ?_, List.pairwise_iff_getElem.2 fun i j hi hj hij e => ?_⟩
    · obtain ⟨i, hi, rfl⟩ := List.mem_iff_getElem.1 hx
      have := h i _ (at_lt hi)
      omega
    · refine (h j _ (at_lt hj)).2.2 ?_
      rw [← e]
      exact List.mem_iff_getElem.2 ⟨i, by rw [List.length_take]; omega, by rw [List.getElem_take]⟩
  · rintro ⟨h1, h2⟩ i x hx
    have hr := h1 x (List.mem_of_getElem? hx)
    refine ⟨by omega, by omega, fun hm => ?_⟩
    obtain ⟨j, hj, he⟩ := List.mem_iff_getElem.1 hm
    rw [List.getElem_take] at he
    rw [List.length_take] at hj
    obtain ⟨hi, hx'⟩ := List.getElem?_eq_some_iff.1 hx
    exact (List.pairwise_iff_getElem.1 h2) j i (by omega) hi (by omega) (he.trans hx'.symm)
theorem DOk_iff {d : Disorder} : DOk d ↔ szB d = false ∧ ((∀ h ∈ d.homes, 0 ≤ h ∧ h < d.tracks.length) ∧ d.homes.Nodup) ∧ (∀ x ∈ d.items, itB d x = false) ∧ TkOk d.tracks d.items.length := by
  have hsz : szB d = false ↔ d.items.length ≤ 96 ∧ d.homes.length ≤ 16 ∧ d.tracks.length ≤ 24 := by
    unfold szB
    simp only [Bool.or_eq_false_iff, decide_eq_false_iff_not]
    omega
  rw [hsz]
  constructor
  · intro h
    exact ⟨⟨h.li, h.lh, h.lt⟩, ⟨h.hm, h.hd⟩, fun x hx => itB_ok.2 (h.it x hx), h.tk⟩
  · rintro ⟨⟨h1, h2, h3⟩, ⟨h4, h5⟩, h6, h7⟩
    exact ⟨h1, h2, h3, h4, h5, fun x hx => itB_ok.1 (h6 x hx), h7⟩
theorem Valid_iff (N : Nat) (hN : 1000 ≤ N) {d : Disorder} (hB : Bd d) : ∃ b, zaT N d = some b ∧ (b = true ↔ DOk d) := by
  have hli := hB.li
  have hlh := hB.lh
  rw [DOk_iff]
  unfold zaT
  rw [v0_ok, bind_some']
  cases hsz : szB d with
  | true => exact ⟨false, rfl, by simp⟩
  | false =>
    rw [if_neg (by simp)]
    have h1 := first_gen (l := d.homes) (hmB d) (fun _ _ => false) (zaT_1 N d d.homes (d.homes.length : Int)) (fun n => by unfold zaT_1; rw [if_neg (by simp)]) (fun n i x hx => by
      have hi := (List.getElem?_eq_some_iff.1 hx).1
      have h2 : zaT_2 N d (i : Int) x = some (hmB d i x) := by
        unfold zaT_2 hmB
        by_cases g1 : x < 0
        · simp [g1]
        · by_cases g2 : (d.tracks.length : Int) ≤ x
          · simp [g1, g2]
          · rw [if_neg (by simpa using g1), if_neg (by simpa using g2), cutI_take (by omega), bind_some', con_ok N _ _ (by simp; omega) (by simp; omega), bind_some']
            simp [g1, g2]
      rw [zaT_1, if_pos (by simp; omega), getI_nat hx, bind_some', h2, bind_some', w64s (by omega)]) d.homes.length N 0 (by omega) (by omega)
    have h1 : zaT_1 N d d.homes (d.homes.length : Int) N 0 = _ := h1
    rw [List.drop_zero] at h1
    have h3 := first_gen (l := d.items) (fun _ x => itB d x) (fun _ _ => false) (zaT_3 N d d.items (d.items.length : Int)) (fun n => by unfold zaT_3; rw [if_neg (by simp)]) (fun n i x hx => by
      have hi := (List.getElem?_eq_some_iff.1 hx).1
      rw [zaT_3, if_pos (by simp; omega), getI_nat hx, bind_some', v4_ok, bind_some', w64s (by omega)]) d.items.length N 0 (by omega) (by omega)
    have h3 : zaT_3 N d d.items (d.items.length : Int) N 0 = _ := h3
    rw [List.drop_zero] at h3
    rw [h1, bind_some']
    rcases res_c (hmB d) d.homes 0 with ⟨q1, q2⟩ | ⟨q1, j, x, q2, q3⟩
    · have hh : (∀ h ∈ d.homes, 0 ≤ h ∧ h < d.tracks.length) ∧ d.homes.Nodup := hm_iff.1 fun i h hh => by
        have := q2 i h hh
        rwa [Nat.zero_add] at this
      rw [q1]
      simp only
      rw [h3, bind_some']
      rcases res_c (fun (_ : Nat) x => itB d x) d.items 0 with ⟨p1, p2⟩ | ⟨p1, j, x, p2, p3⟩
      · have hi : ∀ x ∈ d.items, itB d x = false := fun x hx => by
          obtain ⟨j, hj, rfl⟩ := List.mem_iff_getElem.1 hx
          exact p2 j _ (at_lt hj)
        rw [p1]
        simp only
        obtain ⟨a, b, g1, g2⟩ := vspots N hN hB
        rw [g1, bind_some']
        exact ⟨b, rfl, by rw [g2]; exact ⟨fun h => ⟨trivial, hh, hi, h⟩, fun h => h.2.2.2⟩⟩
      · rw [p1]
        refine ⟨false, rfl, ?_⟩
        constructor
        · intro h; cases h
        · rintro ⟨_, _, h6, _⟩
          have := h6 x (List.mem_of_getElem? p2)
          rw [p3] at this; cases this
    · rw [q1]
      refine ⟨false, rfl, ?_⟩
      constructor
      · intro h; cases h
      · rintro ⟨_, hh, _⟩
        have := hm_iff.2 hh j x q2
        rw [Nat.zero_add] at q3
        rw [q3] at this; cases this
end Go.W
end
section
set_option linter.unusedVariables false
set_option linter.unusedSimpArgs false
namespace Go.W
open Go.AM
def cxv (c : List Int) (x : Nat) : Int := (c[x]?).getD 0
def cntF : List Int → List Int → Option (List Int)
  | [], c => some c
  | x :: l, c => if x < 0 ∨ (c.length : Int) ≤ x then none else cntF l (c.set x.toNat (cxv c x.toNat + 1))
theorem cntF_app : ∀ (l l' : List Int) (s : List Int), cntF (l ++ l') s = (cntF l s).bind (cntF l')
  | [], l', s => rfl
  | x :: l, l', s => by
    rw [List.cons_append, cntF, cntF]
    split
    · rfl
    · exact cntF_app l l' _
theorem cxv_set {s : List Int} {i j : Nat} {v : Int} (hi : i < s.length) : cxv (s.set i v) j = if i = j then v else cxv s j := by
  unfold cxv
  rw [List.getElem?_set]
  by_cases h : i = j
  · rw [if_pos h, if_pos h, if_pos (by omega)]; rfl
  · rw [if_neg h, if_neg h]
theorem cxv_at {c : List Int} {x : Nat} (hx : x < c.length) : getI c (x : Int) = some (cxv c x) := by
  rw [getI_nat (at_lt hx)]; unfold cxv; rw [at_lt hx]; rfl
theorem cntF_some : ∀ {l : List Int} {s s' : List Int}, cntF l s = some s' → s'.length = s.length ∧ (∀ i ∈ l, 0 ≤ i ∧ i < s.length) ∧ ∀ x : Nat, cxv s' x = cxv s x + (l.count (x : Int) : Nat)
  | [], s, s', h => by cases h; exact ⟨rfl, by simp, by simp⟩
  | x :: l, s, s', h => by
    rw [cntF] at h
    split at h
    · cases h
    · rename_i hb
      obtain ⟨j, rfl⟩ := Int.eq_ofNat_of_zero_le (show 0 ≤ x by omega)
      have hj : j < s.length := by omega
      obtain ⟨h1, h2, h3⟩ := cntF_some h
      rw [List.length_set] at h1 h2
      refine ⟨h1, fun i hi => ?_, fun y => ?_⟩
      · rcases List.mem_cons.1 hi with rfl | hi
        · omega
        · exact h2 i hi
      · rw [h3 y, Int.toNat_natCast, cxv_set hj, List.count_cons]
        by_cases hy : j = y
        · subst hy; simp; omega
        · rw [if_neg hy, if_neg (by rw [beq_iff_eq]; omega)]; simp
theorem cntF_ok : ∀ {l : List Int} {s : List Int}, (∀ i ∈ l, 0 ≤ i ∧ i < s.length) → ∃ s', cntF l s = some s'
  | [], s, _ => ⟨s, rfl⟩
  | x :: l, s, h => by
    have hx := h x List.mem_cons_self
    rw [cntF, if_neg (by omega)]
    exact cntF_ok fun i hi => by rw [List.length_set]; exact h i (List.mem_cons_of_mem _ hi)
structure CB (c : List Int) (n K : Nat) : Prop where
  len : c.length = n
  le : ∀ x, 0 ≤ cxv c x ∧ cxv c x ≤ K
theorem CB.of {l c c' : List Int} {n K : Nat} (h : CB c n K) (hc : cntF l c = some c') : CB c' n (K + l.length) := by
  obtain ⟨h1, _, h3⟩ := cntF_some hc
  refine ⟨h1.trans h.len, fun x => ?_⟩
  rw [h3 x]
  have := h.le x
  have := List.count_le_length (l := l) (a := (x : Int))
  omega
theorem rv8 (N : Nat) (c : List Int) (x : Int) : zbQ_8 N c x = some (decide (x < 0 ∨ (c.length : Int) ≤ x)) := by
  unfold zbQ_8
  by_cases h1 : x < 0
  · rw [if_pos (by simpa using h1)]; simp [h1]
  · rw [if_neg (by simpa using h1)]; simp [h1]
theorem rv7 (N : Nat) {d : Disorder} {t : Nat} {l : List Int} (hl : d.tracks[t]? = some l) (hll : l.length ≤ 1000) (n : Nat) : ∀ (k m j K : Nat) (c : List Int), k < m → j + k = l.length → K + k ≤ 100000 → CB c n K →
    zbQ_7 N d (t : Int) m c (j : Int) = some (match cntF (l.drop j) c with | none => .inr false | some s => .inl s)
  | k, 0, j, K, c, h, _, _, _ => by omega
  | 0, m + 1, j, K, c, h, hj, hK, hC => by
    rw [zbQ_7, getI_nat hl, bind_some', if_neg (by simp; omega), List.drop_of_length_le (by omega), cntF]
  | k + 1, m + 1, j, K, c, h, hj, hK, hC => by
    have hlt : j < l.length := by omega
    rw [zbQ_7, getI_nat hl, bind_some', if_pos (by simp; omega), bind_some', getI_nat (at_lt hlt), bind_some', rv8, bind_some', drop_at (at_lt hlt), cntF]
    by_cases hb : l[j] < 0 ∨ (c.length : Int) ≤ l[j]
    · rw [if_pos (decide_eq_true hb), if_pos hb]
    · rw [if_neg (by simpa using hb), if_neg hb]
      obtain ⟨x, hx⟩ := Int.eq_ofNat_of_zero_le (show 0 ≤ l[j] by omega)
      have hxc : x < c.length := by omega
      have hv := hC.le x
      rw [hx, cxv_at hxc, bind_some', bind_some', bind_some', bind_some', lt_def, lt_def, Int.toNat_natCast, w64 (n := cxv c x + 1) (by omega) (by omega), w64s (by omega)]
      exact rv7 N hl hll n k m (j + 1) (K + 1) _ (by omega) (by omega) (by omega) ⟨by rw [List.length_set]; exact hC.len, fun y => by
        rw [cxv_set hxc]
        split
        · omega
        · have := hC.le y; omega⟩
theorem rv6 (N : Nat) (hN : 1000 ≤ N) {d : Disorder} (hB : Bd d) (n : Nat) : ∀ (k m t K : Nat) (c : List Int), k < m → t + k = d.tracks.length → K + 200 * k ≤ 100000 → CB c n K →
    zbQ_6 N d m c (t : Int) = some (match cntF (d.tracks.drop t).flatten c with | none => .inr false | some s => .inl s)
  | k, 0, t, K, c, h, _, _, _ => by omega
  | 0, m + 1, t, K, c, h, ht, hK, hC => by
    rw [zbQ_6, if_neg (by simp; omega), List.drop_of_length_le (by omega)]; rfl
  | k + 1, m + 1, t, K, c, h, ht, hK, hC => by
    have hlt : t < d.tracks.length := by omega
    have hll := hB.tl _ (List.getElem_mem hlt)
    have hb := hB.lt
    have e := rv7 N (at_lt hlt) (by omega) n d.tracks[t].length N 0 K c (by omega) (by omega) (by omega) hC
    rw [List.drop_zero] at e
    have e : zbQ_7 N d (t : Int) N c 0 = _ := e
    rw [zbQ_6, if_pos (by simp; omega), e, bind_some', drop_at (at_lt hlt), List.flatten_cons, cntF_app]
    cases hs : cntF d.tracks[t] c with
    | none => rfl
    | some s =>
      simp only [Option.bind_some]
      rw [lt_def, w64s (by omega)]
      exact rv6 N hN hB n k m (t + 1) _ s (by omega) (by omega) (by omega) (hC.of hs)
theorem tk_cnt {ts : List (List Int)} {n : Nat} : TkOk ts n ↔ (∀ i ∈ ts.flatten, 0 ≤ i ∧ i < n) ∧ ∀ x : Nat, x < n → ts.flatten.count (x : Int) = 1 := by
  rw [tk_iff]
  constructor
  · intro h
    have hT := tk_iff.2 h
    obtain ⟨h1, h2, h3⟩ := h
    refine ⟨h2, fun x hx => ?_⟩
    obtain ⟨t, p, hp⟩ := hT.all x hx
    have hm := mem_flat.2 ⟨t, p, hp⟩
    have := List.count_pos_iff.2 hm
    have := (List.nodup_iff_count (l := ts.flatten)).1 h1 (x : Int)
    omega
  · rintro ⟨h2, h3⟩
    have hnd : ts.flatten.Nodup := (List.nodup_iff_count (l := ts.flatten)).2 fun i => by
      by_cases hi : i ∈ ts.flatten
      · obtain ⟨r1, r2⟩ := h2 i hi
        obtain ⟨j, rfl⟩ := Int.eq_ofNat_of_zero_le r1
        rw [h3 j (by omega)]; omega
      · rw [List.count_eq_zero.2 hi]; omega
    refine ⟨hnd, h2, Nat.le_antisymm ?_ ?_⟩
    · have := List.Nodup.length_le_of_subset (l₂ := (List.range n).map fun (y : Nat) => (y : Int)) hnd fun i hi => by
        obtain ⟨r1, r2⟩ := h2 i hi
        exact List.mem_map.2 ⟨i.toNat, List.mem_range.2 (by omega), by omega⟩
      simpa using this
    · have hr : ((List.range n).map fun (y : Nat) => (y : Int)).Nodup := by
        refine List.pairwise_map.2 ?_
        exact (List.nodup_range (n := n)).imp fun h e => h (by omega)
      have := List.Nodup.length_le_of_subset (l₂ := ts.flatten) hr fun i hi => by
        obtain ⟨y, hy, rfl⟩ := List.mem_map.1 hi
        exact List.count_pos_iff.1 (by rw [h3 y (List.mem_range.1 hy)]; omega)
      simpa using this
theorem rValid_iff (N : Nat) (hN : 1000 ≤ N) {d : Disorder} (hB : Bd d) : ∃ b, zbQ N d = some b ∧ (b = true ↔ DOk d) := by
  have hli := hB.li
  have hlh := hB.lh
  have hlt := hB.lt
  rw [DOk_iff]
  unfold zbQ
  rw [rv0_ok, bind_some']
  cases hsz : szB d with
  | true => exact ⟨false, rfl, by simp⟩
  | false =>
    rw [if_neg (by simp)]
    have h1 := first_gen (l := d.homes) (hmB d) (fun _ _ => false) (zbQ_3 N d) (fun n => by unfold zbQ_3; rw [if_neg (by simp)]) (fun n i x hx => by
      have hi := (List.getElem?_eq_some_iff.1 hx).1
      have h4 : zbQ_4 N d (i : Int) = some (decide (x < 0 ∨ (d.tracks.length : Int) ≤ x)) := by
        unfold zbQ_4
        rw [getI_nat hx, bind_some']
        by_cases g1 : x < 0
        · simp [g1]
        · rw [if_neg (by simpa using g1), bind_some']; simp [g1]
      have htl : (d.homes.take i).length = i := by rw [List.length_take]; omega
      have h5 := first_gen (l := d.homes.take i) (fun _ y => y == x) (fun _ _ => false) (zbQ_5 N d (i : Int)) (fun n => by rw [zbQ_5, htl, if_neg (by simp)]) (fun n j y hy => by
        have hj := (List.getElem?_eq_some_iff.1 hy).1
        rw [htl] at hj
        have hy' : d.homes[j]? = some y := by
          rw [List.getElem?_take, if_pos hj] at hy; exact hy
        rw [zbQ_5, if_pos (by simp; omega), getI_nat hy', bind_some', getI_nat hx, bind_some', lt_def, w64s (by omega)]) (d.homes.take i).length N 0 (by omega) (by omega)
      have h5 : zbQ_5 N d (i : Int) N 0 = _ := h5
      rw [List.drop_zero] at h5
      rw [zbQ_3, if_pos (by simp; omega), h4, bind_some']
      unfold hmB
      by_cases hb : x < 0 ∨ (d.tracks.length : Int) ≤ x
      · rw [if_pos (decide_eq_true hb), if_pos]
        rcases hb with hb | hb
        · simp [hb]
        · simp [hb]
      · rw [if_neg (by simpa using hb), h5, bind_some']
        rcases res_c (fun (_ : Nat) y => y == x) (d.homes.take i) 0 with ⟨q1, q2⟩ | ⟨q1, j, y, q2, q3⟩
        · rw [q1]
          simp only
          rw [lt_def, w64s (by omega), if_neg]
          simp only [Bool.or_eq_true, decide_eq_true_eq, not_or]
          refine ⟨by omega, by omega, fun hm => ?_⟩
          obtain ⟨j, hj, he⟩ := List.mem_iff_getElem.1 hm
          have := q2 j x (by rw [List.getElem?_eq_getElem hj, he])
          simp at this
        · rw [q1]
          simp only
          rw [if_pos]
          simp only [Bool.or_eq_true, decide_eq_true_eq]
          have : y = x := by simpa using q3
          subst this
          exact .inr (.inr (List.mem_of_getElem? q2))) d.homes.length N 0 (by omega) (by omega)
    have h1 : zbQ_3 N d N 0 = _ := h1
    rw [List.drop_zero] at h1
    have h3 := first_gen (l := d.items) (fun _ x => itB d x) (fun _ _ => false) (zbQ_1 N d) (fun n => by unfold zbQ_1; rw [if_neg (by simp)]) (fun n i x hx => by
      have hi := (List.getElem?_eq_some_iff.1 hx).1
      rw [zbQ_1, if_pos (by simp; omega), getI_nat hx, bind_some', rv2_ok, bind_some', lt_def, w64s (by omega)]) d.items.length N 0 (by omega) (by omega)
    have h3 : zbQ_1 N d N 0 = _ := h3
    rw [List.drop_zero] at h3
    rw [h3, bind_some']
    rcases res_c (fun (_ : Nat) x => itB d x) d.items 0 with ⟨p1, p2⟩ | ⟨p1, j, x, p2, p3⟩
    · have hi : ∀ x ∈ d.items, itB d x = false := fun x hx => by
        obtain ⟨j, hj, rfl⟩ := List.mem_iff_getElem.1 hx
        exact p2 j _ (at_lt hj)
      rw [p1]
      simp only
      rw [h1, bind_some']
      rcases res_c (hmB d) d.homes 0 with ⟨q1, q2⟩ | ⟨q1, j, x, q2, q3⟩
      · have hh : (∀ h ∈ d.homes, 0 ≤ h ∧ h < d.tracks.length) ∧ d.homes.Nodup := hm_iff.1 fun i h hh => by
          have := q2 i h hh
          rwa [Nat.zero_add] at this
        rw [q1]
        simp only
        have hz : ∀ x, cxv (List.replicate d.items.length (0 : Int)) x = 0 := by
          intro x
          unfold cxv
          rw [List.getElem?_replicate]
          split <;> rfl
        have e6 := rv6 N hN hB d.items.length d.tracks.length N 0 0 (List.replicate d.items.length 0) (by omega) (by omega) (by omega) ⟨by simp, fun x => by rw [hz]; omega⟩
        rw [List.drop_zero] at e6
        have e6 : zbQ_6 N d N (List.replicate d.items.length 0) 0 = _ := e6
        rw [mkI_ok (by omega) (by omega), bind_some', Int.toNat_natCast, e6, bind_some']
        cases hc : cntF d.tracks.flatten (List.replicate d.items.length 0) with
        | none =>
          refine ⟨false, rfl, ?_⟩
          constructor
          · intro h; cases h
          · rintro ⟨_, _, _, hT⟩
            obtain ⟨s', hs'⟩ := cntF_ok (l := d.tracks.flatten) (s := List.replicate d.items.length 0) fun i hi => by
              have := (tk_cnt.1 hT).1 i hi
              simpa using this
            rw [hc] at hs'; cases hs'
        | some c =>
          simp only
          obtain ⟨c1, c2, c3⟩ := cntF_some hc
          rw [List.length_replicate] at c1 c2
          have e9 := first_gen (l := c) (fun _ y => y != 1) (fun _ _ => false) (zbQ_9 N c) (fun n => by unfold zbQ_9; rw [if_neg (by simp)]) (fun n i x hx => by
            have hi := (List.getElem?_eq_some_iff.1 hx).1
            rw [zbQ_9, if_pos (by simp; omega), getI_nat hx, bind_some', bind_some', lt_def, w64s (by omega)]) c.length N 0 (by omega) (by omega)
          have e9 : zbQ_9 N c N 0 = _ := e9
          rw [List.drop_zero] at e9
          rw [e9, bind_some']
          have hcx : ∀ x : Nat, x < d.items.length → c[x]? = some ((d.tracks.flatten.count (x : Int) : Nat) : Int) := by
            intro x hx
            have := c3 x
            rw [hz] at this
            unfold cxv at this
            rw [at_lt (show x < c.length by omega)] at this ⊢
            rw [Option.getD_some] at this
            rw [this]; simp
          rcases res_c (fun (_ : Nat) (y : Int) => y != 1) c 0 with ⟨z1, z2⟩ | ⟨z1, j, y, z2, z3⟩
          · rw [z1]
            refine ⟨true, rfl, ⟨fun _ => ⟨trivial, hh, hi, tk_cnt.2 ⟨c2, fun x hx => ?_⟩⟩, fun _ => rfl⟩⟩
            have := z2 x _ (hcx x hx)
            simp at this
            omega
          · rw [z1]
            refine ⟨false, rfl, ?_⟩
            constructor
            · intro h; cases h
            · rintro ⟨_, _, _, hT⟩
              have hj := (List.getElem?_eq_some_iff.1 z2).1
              rw [hcx j (by omega), (tk_cnt.1 hT).2 j (by omega)] at z2
              cases z2
              simp at z3
      · rw [q1]
        refine ⟨false, rfl, ?_⟩
        constructor
        · intro h; cases h
        · rintro ⟨_, hh, _⟩
          have := hm_iff.2 hh j x q2
          rw [Nat.zero_add] at q3
          rw [q3] at this; cases this
    · rw [p1]
      refine ⟨false, rfl, ?_⟩
      constructor
      · intro h; cases h
      · rintro ⟨_, _, h6, _⟩
        have := h6 x (List.mem_of_getElem? p2)
        rw [p3] at this; cases this
theorem both_valid (N : Nat) (hN : 1000 ≤ N) {d : Disorder} (hB : Bd d) : ∃ b, zaT N d = some b ∧ zbQ N d = some b ∧ (b = true ↔ DOk d) := by
  obtain ⟨b, h1, h2⟩ := Valid_iff N hN hB
  obtain ⟨b', h3, h4⟩ := rValid_iff N hN hB
  refine ⟨b, h1, ?_, h2⟩
  rw [h3]
  congr 1
  rw [Bool.eq_iff_iff, h4, h2]
def cR (s : Spot) : SpotR := SpotR.mk s.track s.place
structure SrI (ts : List (List Int)) (n t j : Nat) (at' : List SpotR) : Prop where
  l1 : at'.length = n
  ps : ∀ (t' p x : Nat), posD ts t' p = some (x : Int) → (t' < t ∨ (t' = t ∧ p < j)) → at'[x]? = some (SpotR.mk t' p)
theorem SrI.step {ts : List (List Int)} {n t j : Nat} {at' : List SpotR} (h : SrI ts n t j at') (hT : TkOk ts n) {x : Nat} (hx : posD ts t j = some (x : Int)) : SrI ts n t (j + 1) (at'.set x (SpotR.mk t j)) := by
  have hr := hT.rg _ _ _ hx
  refine ⟨by simp [h.l1], fun t' p y hy hlt => ?_⟩
  rw [List.getElem?_set]
  by_cases hxy : x = y
  · subst hxy
    obtain ⟨rfl, rfl⟩ := hT.inj _ _ _ _ _ hx hy
    rw [if_pos rfl, if_pos (by rw [h.l1]; omega)]
  · rw [if_neg hxy]
    refine h.ps t' p y hy ?_
    rcases hlt with hlt | ⟨rfl, hlt⟩
    · exact .inl hlt
    · by_cases hpj : p = j
      · subst hpj; rw [hx] at hy; cases hy; exact absurd rfl hxy
      · exact .inr ⟨rfl, by omega⟩
theorem rsp1 (N : Nat) {d : Disorder} {t : Nat} {l : List Int} (hT : TkOk d.tracks d.items.length) (hl : d.tracks[t]? = some l) (hll : l.length ≤ 1000) : ∀ (k m j : Nat) (at' : List SpotR), k < m → j + k = l.length → SrI d.tracks d.items.length t j at' →
    ∃ at2, zbU_1 N d (t : Int) m at' (j : Int) = some at2 ∧ SrI d.tracks d.items.length t l.length at2
  | k, 0, j, at', h, _, _ => by omega
  | 0, m + 1, j, at', h, hj, hI => by
    rw [zbU_1, getI_nat hl, bind_some', if_neg (by simp; omega)]
    exact ⟨at', rfl, by rw [show l.length = j by omega]; exact hI⟩
  | k + 1, m + 1, j, at', h, hj, hI => by
    have hlt : j < l.length := by omega
    have hp : posD d.tracks t j = some l[j] := by unfold posD; rw [hl]; exact at_lt hlt
    obtain ⟨r0, r1⟩ := hT.rg _ _ _ hp
    obtain ⟨x, hx⟩ := Int.eq_ofNat_of_zero_le r0
    rw [hx] at hp r1
    have hxa : x < at'.length := by rw [hI.l1]; omega
    rw [zbU_1, getI_nat hl, bind_some', if_pos (by simp; omega), bind_some', getI_nat (at_lt hlt), bind_some', hx, getI_nat (at_lt hxa), bind_some', bind_some', lt_def, lt_def, Int.toNat_natCast, w64s (by omega)]
    exact rsp1 N hT hl hll k m (j + 1) _ (by omega) (by omega) (hI.step hT hp)
theorem SrI.next {ts : List (List Int)} {n t : Nat} {l : List Int} {at' : List SpotR} (hl : ts[t]? = some l) (h : SrI ts n t l.length at') : SrI ts n (t + 1) 0 at' where
  l1 := h.l1
  ps := fun t' p x hx hlt => by
    refine h.ps t' p x hx ?_
    rcases hlt with hlt | hlt
    · by_cases ht : t' = t
      · subst ht
        refine .inr ⟨rfl, ?_⟩
        unfold posD at hx
        rw [hl] at hx
        exact (List.getElem?_eq_some_iff.1 hx).1
      · exact .inl (by omega)
    · omega
theorem rsp0 (N : Nat) (hN : 1000 ≤ N) {d : Disorder} (hD : DOk d) : ∀ (k m t : Nat) (at' : List SpotR), k < m → t + k = d.tracks.length → SrI d.tracks d.items.length t 0 at' →
    ∃ at2, zbU_0 N d m at' (t : Int) = some at2 ∧ SrI d.tracks d.items.length d.tracks.length 0 at2
  | k, 0, t, at', h, _, _ => by omega
  | 0, m + 1, t, at', h, ht, hI => by
    obtain rfl : t = d.tracks.length := by omega
    rw [zbU_0, if_neg (by simp)]
    exact ⟨at', rfl, hI⟩
  | k + 1, m + 1, t, at', h, ht, hI => by
    have hlt : t < d.tracks.length := by omega
    have hl := at_lt hlt
    have hll := trk_len hD _ (List.getElem_mem hlt)
    have hb := hD.lt
    obtain ⟨a2, g1, g2⟩ := rsp1 N hD.tk hl (by omega) d.tracks[t].length N 0 at' (by omega) (by omega) hI
    have g1 : zbU_1 N d (t : Int) N at' 0 = _ := g1
    rw [zbU_0, if_pos (by simp; omega), g1, bind_some', lt_def, w64s (by omega)]
    exact rsp0 N hN hD k m (t + 1) a2 (by omega) (by omega) (g2.next hl)
theorem rspots_ok (N : Nat) (hN : 1000 ≤ N) {d : Disorder} (hD : DOk d) {a : List Spot} (hA : AtOk d a) : zbU N d = some (a.map cR) := by
  have hli := hD.li
  have hb := hD.lt
  unfold zbU
  obtain ⟨a2, g1, g2⟩ := rsp0 N hN hD d.tracks.length N 0 (List.replicate d.items.length (SpotR.mk 0 0)) (by omega) (by omega) ⟨by simp, fun t' p x _ h => by omega⟩
  have g1 : zbU_0 N d N (List.replicate d.items.length (SpotR.mk 0 0)) 0 = _ := g1
  rw [mkI_ok (by omega) (by omega), bind_some', Int.toNat_natCast, g1, bind_some']
  congr 1
  refine List.ext_getElem (by rw [g2.l1, List.length_map, hA.len]) fun x h1 h2 => ?_
  obtain ⟨t, p, hp⟩ := hD.tk.all x (by rw [← g2.l1]; exact h1)
  have hlt : t < d.tracks.length := by
    unfold posD at hp
    cases h : d.tracks[t]? with
    | none => rw [h] at hp; cases hp
    | some l => exact (List.getElem?_eq_some_iff.1 h).1
  have e1 := g2.ps t p x hp (.inl hlt)
  have e2 := hA.ps t p x hp
  rw [List.length_map] at h2
  rw [at_lt h1] at e1
  rw [at_lt h2] at e2
  rw [List.getElem_map, Option.some.inj e1, Option.some.inj e2]
  rfl
section
variable {d : Disorder} {a : List Spot} {rd : List Int} (hS : Sc d a rd) (N : Nat)
include hS
theorem rat_at {x : Nat} (hx : x < d.items.length) : getI (a.map cR) (x : Int) = some (cR (atx a x)) := by
  have hx : x < a.length := by rw [hS.at'.len]; exact hx
  refine getI_nat ?_
  rw [List.getElem?_map, at_lt hx]
  unfold atx; rw [at_lt hx]; rfl
theorem rhome_ok {x : Nat} (hx : x < d.items.length) : zbZ N d (a.map cR) (x : Int) = some (homeB d a x) := by
  unfold zbZ
  rw [rat_at hS hx, bind_some', itm_at hx, bind_some', hmx_at hS hx, bind_some', lt_def]; rfl
theorem rless_ok {x y : Nat} (hx : x < d.items.length) (hy : y < d.items.length) : zbG N d (y : Int) (x : Int) = some (ahB d y x) := by
  have := hS.rl
  unfold zbG zbG_0
  rw [itm_at hx, itm_at hy, bind_some', bind_some']
  unfold ahB
  by_cases h : (itm d y).train = (itm d x).train
  · rw [if_pos (by simpa using h), bind_some', bind_some', lt_def, bind_some', h]; simp
  · rw [if_neg (by simpa using h), bind_some']; simp [h]
theorem rnear_ok {x y : Nat} (hx : x < d.items.length) (hy : y < d.items.length) : zbH N (a.map cR) (x : Int) (y : Int) = some (neB a x y) := by
  unfold zbH zbH_0
  rw [rat_at hS hx, rat_at hS hy, bind_some', bind_some']
  unfold neB
  by_cases h : (atx a x).track = (atx a y).track
  · rw [if_pos (by simpa [cR] using h), bind_some', bind_some', lt_def, bind_some']
    show some (decide ((atx a y).place < (atx a x).place)) = _
    simp [h]
  · rw [if_neg (by simpa [cR] using h), bind_some']; simp [h]
theorem rbeh_ok {x y : Nat} (hx : x < d.items.length) (hy : y < d.items.length) : zbF N d (a.map cR) (x : Int) (y : Int) = some (homeB d a x && (ahB d y x && neB a y x)) := by
  unfold zbF zbF_0
  rw [rhome_ok hS N hx, bind_some']
  cases homeB d a x with
  | false => rw [if_neg (by simp), bind_some']; rfl
  | true =>
    rw [if_pos rfl, rnear_ok hS N hy hx, bind_some']
    cases neB a y x with
    | false => rw [if_neg (by simp), bind_some', Bool.and_false, Bool.and_false]
    | true =>
      rw [if_pos rfl, rless_ok hS N hx hy, bind_some', bind_some', Bool.and_true, Bool.true_and]
theorem ju30 (rd' : Nat → Int) {x y : Nat} (hy : y < d.items.length) : juB d a rd' x 3 y 0 = (homeB d a x && (ahB d y x && neB a y x)) := by
  have := hS.rl
  unfold juB
  rw [if_neg (by omega), if_neg (by omega), if_pos ⟨rfl, rfl⟩, Int.toNat_natCast]
theorem ju3n (rd' : Nat → Int) {x y : Nat} {n : Int} (hn : n ≠ 0) (hy : y < d.items.length) : juB d a rd' x 3 y n = (ahB d y x && puB rd' y n) := by
  have := hS.rl
  unfold juB
  rw [if_neg (by omega), if_neg (by omega), if_neg (by omega), if_pos rfl, Int.toNat_natCast]
theorem ju2n (rd' : Nat → Int) {x y : Nat} {n : Int} (hy : y < d.items.length) : juB d a rd' x 2 y n = (neB a x y && puB rd' y n) := by
  have := hS.rl
  unfold juB
  rw [if_neg (by omega), if_neg (by omega), if_neg (by omega), if_neg (by omega), if_pos rfl, Int.toNat_natCast]
theorem rfirst0 (rd' : Nat → Int) {x : Nat} (hx : x < d.items.length) (p0 : Pull) : ∀ (k m i : Nat), k < m → i + k = d.items.length →
    zbS_0 N (a.map cR) (x : Int) d m p0 (i : Int) = some (match res (fun y (_ : Item) => juB d a rd' x 3 y 0) (fun y _ => Pull.mk x 3 y 0) i (d.items.drop i) with | .inl _ => .inl p0 | .inr p => .inr (p, true))
  | k, 0, i, h, _ => by omega
  | 0, m + 1, i, h, hi => by
    unfold zbS_0
    rw [if_neg (by simp; omega), List.drop_of_length_le (by omega), res]
  | k + 1, m + 1, i, h, hi => by
    have hlt : i < d.items.length := by omega
    have hli := hS.ok.li
    rw [zbS_0, if_pos (by simp; omega), rbeh_ok hS N hx hlt, bind_some', drop_at (at_lt hlt), res, ju30 hS rd' hlt]
    split
    · rfl
    · rw [lt_def, w64s (by omega)]
      exact rfirst0 rd' hx p0 k m (i + 1) (by omega) (by omega)
theorem rfirst_ok (hN : 200 ≤ N) (rd' : Nat → Int) {x : Nat} (hx : x < d.items.length) :
    zbS N d (a.map cR) (x : Int) = some (match whyF d a rd' x 0 with | some p => (p, true) | none => (Pull.mk 0 0 0 0, false)) := by
  have hli := hS.ok.li
  unfold zbS whyF
  rw [rhome_ok hS N hx, bind_some', if_pos rfl]
  cases homeB d a x with
  | false => rfl
  | true =>
    rw [if_neg (by simp), if_pos rfl]
    have e := rfirst0 hS N rd' hx (Pull.mk 0 0 0 0) d.items.length N 0 (by omega) (by omega)
    have e : zbS_0 N (a.map cR) (x : Int) d N (Pull.mk 0 0 0 0) 0 = _ := e
    rw [e, bind_some', List.drop_zero]
    unfold lookR
    cases res (fun y (_ : Item) => juB d a rd' x 3 y 0) (fun y _ => Pull.mk x 3 y 0) 0 d.items <;> rfl
theorem rlat1 {x y : Nat} {n : Int} (hx : x < d.items.length) (hy : y < d.items.length) : zbT_1 N (a.map cR) rd (x : Int) n (y : Int) = some (neB a x y && puB (rdx rd) y n) := by
  unfold zbT_1 puB
  rw [rdx_at hS hy, bind_some']
  by_cases h : 0 ≤ rdx rd y
  · rw [if_pos (by simpa using h), bind_some', decide_eq_true h]
    by_cases h2 : rdx rd y < n
    · rw [if_pos (by simpa using h2), rnear_ok hS N hx hy, bind_some', decide_eq_true h2]; simp
    · rw [if_neg (by simpa using h2), decide_eq_false h2]; simp
  · rw [if_neg (by simpa using h), decide_eq_false h]; simp
theorem rlat3 {x y : Nat} {n : Int} (hx : x < d.items.length) (hy : y < d.items.length) : zbT_3 N rd (x : Int) n d (y : Int) = some (ahB d y x && puB (rdx rd) y n) := by
  unfold zbT_3 puB
  rw [rdx_at hS hy, bind_some']
  by_cases h : 0 ≤ rdx rd y
  · rw [if_pos (by simpa using h), bind_some', decide_eq_true h]
    by_cases h2 : rdx rd y < n
    · rw [if_pos (by simpa using h2), rless_ok hS N hx hy, bind_some', decide_eq_true h2]; simp
    · rw [if_neg (by simpa using h2), decide_eq_false h2]; simp
  · rw [if_neg (by simpa using h), decide_eq_false h]; simp
theorem rlat0 {x : Nat} (hx : x < d.items.length) {n : Int} (p0 : Pull) : ∀ (k m i : Nat), k < m → i + k = d.items.length →
    zbT_0 N (a.map cR) rd (x : Int) n d m p0 (i : Int) = some (match res (fun y (_ : Item) => juB d a (rdx rd) x 2 y n) (fun y _ => Pull.mk x 2 y n) i (d.items.drop i) with | .inl _ => .inl p0 | .inr p => .inr (p, true))
  | k, 0, i, h, _ => by omega
  | 0, m + 1, i, h, hi => by
    unfold zbT_0
    rw [if_neg (by simp; omega), List.drop_of_length_le (by omega), res]
  | k + 1, m + 1, i, h, hi => by
    have hlt : i < d.items.length := by omega
    have hli := hS.ok.li
    rw [zbT_0, if_pos (by simp; omega), rlat1 hS N hx hlt, bind_some', drop_at (at_lt hlt), res, ju2n hS (rdx rd) hlt]
    split
    · rfl
    · rw [lt_def, w64s (by omega)]
      exact rlat0 hx p0 k m (i + 1) (by omega) (by omega)
theorem rlat2 {x : Nat} (hx : x < d.items.length) {n : Int} (hn : n ≠ 0) (p0 : Pull) : ∀ (k m i : Nat), k < m → i + k = d.items.length →
    zbT_2 N rd (x : Int) n d m p0 (i : Int) = some (match res (fun y (_ : Item) => juB d a (rdx rd) x 3 y n) (fun y _ => Pull.mk x 3 y n) i (d.items.drop i) with | .inl _ => .inl p0 | .inr p => .inr (p, true))
  | k, 0, i, h, _ => by omega
  | 0, m + 1, i, h, hi => by
    unfold zbT_2
    rw [if_neg (by simp; omega), List.drop_of_length_le (by omega), res]
  | k + 1, m + 1, i, h, hi => by
    have hlt : i < d.items.length := by omega
    have hli := hS.ok.li
    rw [zbT_2, if_pos (by simp; omega), rlat3 hS N hx hlt, bind_some', drop_at (at_lt hlt), res, ju3n hS (rdx rd) hn hlt]
    split
    · rfl
    · rw [lt_def, w64s (by omega)]
      exact rlat2 hx hn p0 k m (i + 1) (by omega) (by omega)
theorem rlater_ok (hN : 200 ≤ N) {x : Nat} (hx : x < d.items.length) {n : Int} (hn : n ≠ 0) :
    zbT N d (a.map cR) rd (x : Int) n = some (match whyF d a (rdx rd) x n with | some p => (p, true) | none => (Pull.mk 0 0 0 0, false)) := by
  have hli := hS.ok.li
  unfold zbT whyF
  have e := rlat0 hS N hx (n := n) (Pull.mk 0 0 0 0) d.items.length N 0 (by omega) (by omega)
  have e : zbT_0 N (a.map cR) rd (x : Int) n d N (Pull.mk 0 0 0 0) 0 = _ := e
  rw [e, bind_some', List.drop_zero, if_neg hn]
  unfold lookR
  cases res (fun y (_ : Item) => juB d a (rdx rd) x 2 y n) (fun y _ => Pull.mk x 2 y n) 0 d.items with
  | inr p => rfl
  | inl u =>
    simp only
    have e := rlat2 hS N hx hn (Pull.mk 0 0 0 0) d.items.length N 0 (by omega) (by omega)
    have e : zbT_2 N rd (x : Int) n d N (Pull.mk 0 0 0 0) 0 = _ := e
    rw [e, bind_some', List.drop_zero]
    cases res (fun y (_ : Item) => juB d a (rdx rd) x 3 y n) (fun y _ => Pull.mk x 3 y n) 0 d.items <;> rfl
end
end Go.W
end
section
set_option linter.unusedVariables false
set_option linter.unusedSimpArgs false
namespace Go.W
open Go.AM
theorem juB_pu {d : Disorder} {a : List Spot} {rd rd' : Nat → Int} {n : Int} (h : ∀ y, puB rd y n = puB rd' y n) (x : Nat) (r y : Int) : juB d a rd x r y n = juB d a rd' x r y n := by
  unfold juB; rw [h]
theorem whyF_pu {d : Disorder} {a : List Spot} {rd rd' : Nat → Int} {n : Int} (h : ∀ y, puB rd y n = puB rd' y n) (x : Nat) : whyF d a rd x n = whyF d a rd' x n := by
  have e : ∀ r, lookR d a rd x n r = lookR d a rd' x n r := by
    intro r
    unfold lookR
    have : (fun (y : Nat) (_ : Item) => juB d a rd x r y n) = fun (y : Nat) (_ : Item) => juB d a rd' x r y n := by
      funext y z; exact juB_pu h x r y
    rw [this]
  unfold whyF
  rw [e, e]
def newR (d : Disorder) (a : List Spot) (rd : Nat → Int) (n : Int) (j : Nat) : Int :=
  if 0 ≤ rd j then rd j else match whyF d a rd j n with | some _ => n | none => rd j
def newP (d : Disorder) (a : List Spot) (rd : Nat → Int) (n : Int) (j : Nat) (o : Option Pull) : Option Pull :=
  if 0 ≤ rd j then o else match whyF d a rd j n with | some p => some p | none => o
theorem rdx_ext {r r' : List Int} (h : r.length = r'.length) (e : ∀ j, j < r.length → rdx r j = rdx r' j) : r = r' := by
  refine List.ext_getElem h fun j h1 h2 => ?_
  have := e j h1
  unfold rdx at this
  rw [at_lt h1, at_lt h2] at this
  exact this
theorem sc_set {d : Disorder} {a : List Spot} {rd : List Int} (h : Sc d a rd) (i : Nat) (v : Int) : Sc d a (rd.set i v) := ⟨h.ok, h.at', by rw [List.length_set]; exact h.rl⟩
theorem rp3 (N : Nat) (hN : 200 ≤ N) {d : Disorder} {a : List Spot} {n : Int} (hn : 1 ≤ n) (rdI : Nat → Int) : ∀ (k m i : Nat) (x5 : List Pull) (x6 : List Int) (ch : Bool), k < m → i + k = d.items.length → Sc d a x6 → x5.length = d.items.length →
    (∀ y, puB (rdx x6) y n = puB rdI y n) → (∀ j, i ≤ j → rdx x6 j = rdI j) →
    ∃ x5' x6' ch', zbP_3 N d (a.map cR) n m x5 x6 ch (i : Int) = some (x5', x6', ch') ∧ x5'.length = d.items.length ∧ Sc d a x6' ∧
      (∀ j, j < d.items.length → (j < i → rdx x6' j = rdx x6 j ∧ x5'[j]? = x5[j]?) ∧ (i ≤ j → rdx x6' j = newR d a rdI n j ∧ x5'[j]? = newP d a rdI n j x5[j]?)) ∧
      (ch' = true ↔ ch = true ∨ ∃ j, i ≤ j ∧ j < d.items.length ∧ ¬ 0 ≤ rdI j ∧ ∃ p, whyF d a rdI j n = some p)
  | k, 0, i, x5, x6, ch, h, _, _, _, _, _ => by omega
  | 0, m + 1, i, x5, x6, ch, h, hi, hS, hl, hp, hr => by
    have := hS.rl
    rw [zbP_3, if_neg (by simp; omega)]
    refine ⟨x5, x6, ch, rfl, hl, hS, fun j hj => ⟨fun _ => ⟨rfl, rfl⟩, fun h => by omega⟩, fun h => .inl h, ?_⟩
    rintro (h | ⟨j, h1, h2, _⟩)
    · exact h
    · omega
  | k + 1, m + 1, i, x5, x6, ch, h, hi, hS, hl, hp, hr => by
    have hrl := hS.rl
    have hli := hS.ok.li
    have hlt : i < d.items.length := by omega
    have hx5 : i < x5.length := by omega
    have hx6 : i < x6.length := by omega
    rw [zbP_3, if_pos (by simp; omega)]
    -- one item
    have step : ∃ y5 y6 c, zbP_4 N d (a.map cR) x5 x6 n ch (i : Int) = some (y5, y6, c) ∧ y5.length = d.items.length ∧ Sc d a y6 ∧ (∀ y, puB (rdx y6) y n = puB rdI y n) ∧ (∀ j, i + 1 ≤ j → rdx y6 j = rdI j) ∧ (∀ j, j ≠ i → rdx y6 j = rdx x6 j ∧ y5[j]? = x5[j]?) ∧ rdx y6 i = newR d a rdI n i ∧ y5[i]? = newP d a rdI n i x5[i]? ∧ (c = true ↔ ch = true ∨ (¬ 0 ≤ rdI i ∧ ∃ p, whyF d a rdI i n = some p)) := by
      unfold zbP_4 newR newP
      rw [rdx_at hS hlt, bind_some', bind_some', hr i (Nat.le_refl _)]
      by_cases h0 : 0 ≤ rdI i
      · rw [if_pos (by simpa using h0), if_pos h0, if_pos h0]
        exact ⟨x5, x6, ch, rfl, hl, hS, hp, fun j hj => hr j (by omega), fun j _ => ⟨rfl, rfl⟩, hr i (Nat.le_refl _), rfl, fun h => .inl h, fun h => h.elim id fun h => absurd h0 h.1⟩
      · rw [if_neg (by simpa using h0), if_neg h0, if_neg h0, rlater_ok hS N hN hlt (by omega), bind_some', whyF_pu hp]
        cases hw : whyF d a rdI i n with
        | none =>
          simp only
          rw [if_neg (by simp)]
          exact ⟨x5, x6, ch, rfl, hl, hS, hp, fun j hj => hr j (by omega), fun j _ => ⟨rfl, rfl⟩, hr i (Nat.le_refl _), rfl, fun h => .inl h, fun h => h.elim id fun h => by obtain ⟨_, p, hh⟩ := h; cases hh⟩
        | some p =>
          simp only
          rw [if_pos trivial, getI_nat (at_lt hx5), bind_some', bind_some', lt_def, bind_some', bind_some', lt_def, Int.toNat_natCast]
          refine ⟨_, _, _, rfl, by simp [hl], sc_set hS _ _, fun y => ?_, fun j hj => ?_, fun j hj => ⟨?_, ?_⟩, ?_, ?_, fun _ => .inr ⟨h0, p, rfl⟩, fun _ => rfl⟩
          · unfold puB
            rw [rdx_set hx6]
            by_cases hy : i = y
            · subst hy
              rw [if_pos rfl, decide_eq_false (show ¬ n < n by omega), decide_eq_false h0]; simp
            · rw [if_neg hy]; exact hp y
          · rw [rdx_set hx6, if_neg (by omega)]; exact hr j (by omega)
          · rw [rdx_set hx6, if_neg (fun e => hj e.symm)]
          · rw [List.getElem?_set_ne (fun e => hj e.symm)]
          · rw [rdx_set hx6, if_pos rfl]
          · rw [List.getElem?_set_self hx5]
    obtain ⟨y5, y6, c, e, f1, f2, f3, f4, f5, f6, f7, f8⟩ := step
    rw [e, bind_some', lt_def, w64s (by omega)]
    simp only
    obtain ⟨z5, z6, cz, g1, g2, g3, g4, g5⟩ := rp3 N hN hn rdI k m (i + 1) y5 y6 c (by omega) (by omega) f2 f1 f3 f4
    refine ⟨z5, z6, cz, g1, g2, g3, fun j hj => ?_, ?_⟩
    · obtain ⟨q1, q2⟩ := g4 j hj
      refine ⟨fun hji => ?_, fun hij => ?_⟩
      · obtain ⟨r1, r2⟩ := q1 (by omega)
        obtain ⟨s1, s2⟩ := f5 j (by omega)
        exact ⟨r1.trans s1, r2.trans s2⟩
      · by_cases hji : j = i
        · subst hji
          obtain ⟨r1, r2⟩ := q1 (by omega)
          exact ⟨r1.trans f6, r2.trans f7⟩
        · obtain ⟨r1, r2⟩ := q2 (by omega)
          rw [(f5 j hji).2] at r2
          exact ⟨r1, r2⟩
    · rw [g5, f8]
      constructor
      · rintro ((h | ⟨h1, h2⟩) | ⟨j, h1, h2, h3⟩)
        · exact .inl h
        · exact .inr ⟨i, Nat.le_refl _, hlt, h1, h2⟩
        · exact .inr ⟨j, by omega, h2, h3⟩
      · rintro (h | ⟨j, h1, h2, h3, h4⟩)
        · exact .inl (.inl h)
        · by_cases hji : j = i
          · subst hji; exact .inl (.inr ⟨h3, h4⟩)
          · exact .inr ⟨j, by omega, h2, h3, h4⟩
theorem rp0 (N : Nat) (hN : 200 ≤ N) {d : Disorder} {a : List Spot} : ∀ (k m i : Nat) (x5 : List Pull) (x6 : List Int), k < m → i + k = d.items.length → Sc d a x6 → x5.length = d.items.length →
    ∃ x5' x6', zbP_0 N d (a.map cR) m x5 x6 (i : Int) = some (x5', x6') ∧ x5'.length = d.items.length ∧ Sc d a x6' ∧
      (∀ j, j < d.items.length → (j < i → rdx x6' j = rdx x6 j ∧ x5'[j]? = x5[j]?) ∧ (i ≤ j → rdx x6' j = newR d a (fun _ => -1) 0 j ∧ x5'[j]? = newP d a (fun _ => -1) 0 j x5[j]?))
  | k, 0, i, x5, x6, h, _, _, _ => by omega
  | 0, m + 1, i, x5, x6, h, hi, hS, hl => by
    have := hS.rl
    rw [zbP_0, if_neg (by simp; omega)]
    exact ⟨x5, x6, rfl, hl, hS, fun j hj => ⟨fun _ => ⟨rfl, rfl⟩, fun h => by omega⟩⟩
  | k + 1, m + 1, i, x5, x6, h, hi, hS, hl => by
    have hrl := hS.rl
    have hli := hS.ok.li
    have hlt : i < d.items.length := by omega
    have hx5 : i < x5.length := by omega
    have hx6 : i < x6.length := by omega
    rw [zbP_0, if_pos (by simp; omega)]
    have step : ∃ y5 y6, zbP_1 N d (a.map cR) x5 x6 (i : Int) = some (y5, y6) ∧ y5.length = d.items.length ∧ Sc d a y6 ∧ (∀ j, j ≠ i → rdx y6 j = rdx x6 j ∧ y5[j]? = x5[j]?) ∧ rdx y6 i = newR d a (fun _ => -1) 0 i ∧ y5[i]? = newP d a (fun _ => -1) 0 i x5[i]? := by
      have hn1 : newR d a (fun _ => -1) 0 i = (match whyF d a (fun _ => -1) i 0 with | some _ => (0 : Int) | none => -1) := by unfold newR; rw [if_neg (show ¬ (0 : Int) ≤ -1 by decide)]
      have hp1 : ∀ o, newP d a (fun _ => -1) 0 i o = (match whyF d a (fun _ => -1) i 0 with | some p => some p | none => o) := by intro o; unfold newP; rw [if_neg (show ¬ (0 : Int) ≤ -1 by decide)]
      rw [hn1, hp1]
      unfold zbP_1
      have hS1 := sc_set hS i (-1)
      have hx7 : i < (x6.set i (-1)).length := by rw [List.length_set]; exact hx6
      rw [rdx_at hS hlt, bind_some', bind_some', lt_def, Int.toNat_natCast, rfirst_ok hS1 N hN (fun _ => -1) hlt, bind_some']
      cases hw : whyF d a (fun _ => -1) i 0 with
      | none =>
        simp only
        rw [if_neg (by simp)]
        exact ⟨x5, _, rfl, hl, hS1, fun j hj => ⟨by rw [rdx_set hx6, if_neg (fun e => hj e.symm)], rfl⟩, by rw [rdx_set hx6, if_pos rfl], rfl⟩
      | some p =>
        simp only
        rw [if_pos trivial, getI_nat (at_lt hx5), bind_some', bind_some', lt_def, rdx_at hS1 hlt, bind_some', bind_some', lt_def]
        refine ⟨_, _, rfl, by simp [hl], sc_set hS1 _ _, fun j hj => ⟨?_, ?_⟩, ?_, ?_⟩
        · rw [rdx_set hx7, if_neg (fun e => hj e.symm), rdx_set hx6, if_neg (fun e => hj e.symm)]
        · rw [List.getElem?_set_ne (fun e => hj e.symm)]
        · rw [rdx_set hx7, if_pos rfl]
        · rw [List.getElem?_set_self hx5]
    obtain ⟨y5, y6, e, f1, f2, f5, f6, f7⟩ := step
    rw [e, bind_some', lt_def, w64s (by omega)]
    simp only
    obtain ⟨z5, z6, g1, g2, g3, g4⟩ := rp0 N hN k m (i + 1) y5 y6 (by omega) (by omega) f2 f1
    refine ⟨z5, z6, g1, g2, g3, fun j hj => ?_⟩
    obtain ⟨q1, q2⟩ := g4 j hj
    refine ⟨fun hji => ?_, fun hij => ?_⟩
    · obtain ⟨r1, r2⟩ := q1 (by omega)
      obtain ⟨s1, s2⟩ := f5 j (by omega)
      exact ⟨r1.trans s1, r2.trans s2⟩
    · by_cases hji : j = i
      · subst hji
        obtain ⟨r1, r2⟩ := q1 (by omega)
        exact ⟨r1.trans f6, r2.trans f7⟩
      · obtain ⟨r1, r2⟩ := q2 (by omega)
        rw [(f5 j hji).2] at r2
        exact ⟨r1, r2⟩
theorem pass_nr {d : Disorder} {a : List Spot} {rd : List Int} (n : Int) (hr : rd.length = d.items.length) : ∀ p ∈ passF d a (rdx rd) n 0 d.items, 0 ≤ p.item ∧ p.item.toNat < rd.length := by
  intro p hp
  obtain ⟨x, _, h2, _, h4⟩ := pass_mem.1 hp
  have := (whyF_some h4).1
  omega
theorem set_new {d : Disorder} {a : List Spot} {rd x6 : List Int} (n : Int) (hr : rd.length = d.items.length) (hx : x6.length = d.items.length) (h : ∀ j, j < d.items.length → rdx x6 j = newR d a (rdx rd) n j) : x6 = setR n (passF d a (rdx rd) n 0 d.items) rd := by
  refine rdx_ext (by rw [setR_len, hx, hr]) fun j hj => ?_
  rw [h j (by omega), rdx_setR n _ _ (pass_nr n hr)]
  unfold newR
  by_cases h0 : 0 ≤ rdx rd j
  · rw [if_pos h0, if_neg]
    rintro ⟨p, hp, he⟩
    obtain ⟨x, _, _, h3, h4⟩ := pass_mem.1 hp
    have := (whyF_some h4).1
    have : x = j := by omega
    subst this
    exact h3 h0
  · rw [if_neg h0]
    cases hw : whyF d a (rdx rd) j n with
    | none =>
      simp only
      rw [if_neg]
      rintro ⟨p, hp, he⟩
      obtain ⟨x, _, _, h3, h4⟩ := pass_mem.1 hp
      have := (whyF_some h4).1
      have : x = j := by omega
      subst this
      rw [hw] at h4; cases h4
    | some p =>
      simp only
      rw [if_pos ⟨p, pass_mem.2 ⟨j, by omega, by omega, h0, hw⟩, (whyF_some hw).1⟩]
def RP (out : List Pull) (x5 : List Pull) : Prop := ∀ p ∈ out, x5[p.item.toNat]? = some p
theorem RP.step {d : Disorder} {a : List Spot} {out : List Pull} {rd : List Int} {n : Nat} {x5 x5' : List Pull} (hP : PI d a out rd n) (h : RP out x5) (hx : ∀ j, j < d.items.length → x5'[j]? = newP d a (rdx rd) n j x5[j]?) : RP (out ++ passF d a (rdx rd) n 0 d.items) x5' := by
  intro p hp
  rcases List.mem_append.1 hp with hp | hp
  · obtain ⟨x, g1, g2, g3, g4, _⟩ := hP.it p hp
    have := h p hp
    rw [g1, Int.toNat_natCast] at this ⊢
    rw [hx x g2]
    unfold newP
    rw [if_pos (by omega)]; exact this
  · obtain ⟨x, _, h2, h3, h4⟩ := pass_mem.1 hp
    rw [(whyF_some h4).1, Int.toNat_natCast, hx x (by omega)]
    unfold newP
    rw [if_neg h3, h4]
theorem round_step (N : Nat) (hN : 300 ≤ N) {d : Disorder} {a : List Spot} {out : List Pull} {rd : List Int} {n m : Nat} (h : PI d a out rd n) (hn : n ≤ 100000) : zaS_0 N d (Scene.mk d [] []) a (m + 1) out (n : Int) rd =
    if n ≠ 0 ∧ passF d a (rdx rd) n 0 d.items = [] then some out else zaS_0 N d (Scene.mk d [] []) a m (out ++ passF d a (rdx rd) n 0 d.items) ((n + 1 : Nat) : Int) (setR n (passF d a (rdx rd) n 0 d.items) rd) := by
  have hli := h.sc.ok.li
  have hS := h.step
  have hlen := h.len
  have hlen2 := hS.len
  rw [List.length_append] at hlen2
  have e1 := pass_ok h.sc N (by omega) (n : Int) d rfl d.items.length N 0 out (by omega) (by omega) (by omega)
  rw [List.drop_zero] at e1
  have e1 : zaS_1 N (Scene.mk d [] []) (n : Int) (d.items.length : Int) a rd N out 0 = _ := e1
  have hnr := pass_nr (d := d) (a := a) (rd := rd) (n : Int) h.sc.rl
  generalize hnw : passF d a (rdx rd) (n : Int) 0 d.items = nw at *
  have e2 := set_ok N (n : Int) (out := out) (nw := nw) (by omega) nw.length N 0 rd (by omega) (by omega) hnr
  rw [List.drop_zero] at e2
  have e2 : zaS_3 N (out ++ nw) (n : Int) (out.length, (out ++ nw).length) (nw.length : Int) N 0 rd = _ := e2
  have e3 : cutI (out ++ nw) (out.length : Int) ((out ++ nw).length : Int) = some nw := by
    rw [cutI_drop (by simp), List.drop_left]
  have e4 : List.drop (Int.toNat (out.length : Int)) (List.take (Int.toNat ((out ++ nw).length : Int)) (out ++ nw)) = nw := by
    rw [Int.toNat_natCast, Int.toNat_natCast, List.take_of_length_le (Nat.le_refl _), List.drop_left]
  rw [zaS_0, lt_def, e1, bind_some', e3, bind_some']
  simp only [e4]
  rw [Int.toNat_natCast, Int.toNat_natCast, e2, bind_some']
  by_cases hn0 : n = 0
  · subst hn0
    have e5 : zaS_4 N (out ++ nw) ((0 : Nat) : Int) (out.length : Int) = some false := rfl
    rw [e5, bind_some', if_neg (by simp), lt_def, w64s (by omega), if_neg (by simp)]
  · have e5 : zaS_4 N (out ++ nw) (n : Int) (out.length : Int) = some (((out ++ nw).length : Int) == (out.length : Int)) := by
      unfold zaS_4
      rw [if_pos (by simp; omega)]
    rw [e5, bind_some']
    by_cases he : nw = []
    · subst he
      rw [if_pos (by simp), if_pos ⟨hn0, rfl⟩, List.append_nil]
    · have hpos : 0 < nw.length := List.length_pos_iff.2 he
      rw [if_neg (by simp; omega), lt_def, w64s (by omega), if_neg (fun hh => he hh.2)]
theorem rrounds (N : Nat) (hN : 300 ≤ N) {d : Disorder} {a : List Spot} {out' : List Pull} : ∀ (m n : Nat) (out : List Pull) (rd : List Int) (x5 : List Pull), 1 ≤ n → n + m ≤ 100000 → PI d a out rd n → RP out x5 → x5.length = d.items.length →
    zaS_0 N d (Scene.mk d [] []) a m out (n : Int) rd = some out' →
    ∃ x5' rd' n', zbP_2 N d (a.map cR) (m + 1) x5 rd (n : Int) true = some (x5', rd') ∧ x5'.length = d.items.length ∧ RP out' x5' ∧ PI d a out' rd' n'
  | 0, n, out, rd, x5, hn, _, hP, hR, hl, h => by unfold zaS_0 at h; cases h
  | m + 1, n, out, rd, x5, hn, hb, hP, hR, hl, h => by
    have hli := hP.sc.ok.li
    rw [round_step N hN hP (by omega)] at h
    obtain ⟨y5, y6, c, g1, g2, g3, g4, g5⟩ := rp3 N (by omega) (d := d) (a := a) (n := n) (by omega) (rdx rd) d.items.length N 0 x5 rd false (by omega) (by omega) hP.sc hl (fun y => rfl) (fun j _ => rfl)
    have g1 : zbP_3 N d (a.map cR) (n : Int) N x5 rd false 0 = _ := g1
    have hy6 := set_new (d := d) (a := a) (n : Int) hP.sc.rl g3.rl fun j hj => ((g4 j hj).2 (Nat.zero_le _)).1
    have hRP := RP.step hP hR fun j hj => ((g4 j hj).2 (Nat.zero_le _)).2
    have hPI := hP.step
    rw [← hy6] at hPI
    have hc : c = true ↔ passF d a (rdx rd) n 0 d.items ≠ [] := by
      rw [g5]
      constructor
      · rintro (h | ⟨j, _, h2, h3, p, h4⟩) he
        · cases h
        · have : p ∈ passF d a (rdx rd) (n : Int) 0 d.items := pass_mem.2 ⟨j, by omega, by omega, h3, h4⟩
          rw [he] at this; simp at this
      · intro he
        right
        obtain ⟨p, hp⟩ := List.exists_mem_of_ne_nil _ he
        obtain ⟨x, _, h2, h3, h4⟩ := pass_mem.1 hp
        exact ⟨x, Nat.zero_le _, by omega, h3, p, h4⟩
    rw [zbP_2, if_pos rfl, g1, bind_some', lt_def, w64s (by omega)]
    simp only
    by_cases he : passF d a (rdx rd) n 0 d.items = []
    · rw [if_pos ⟨by omega, he⟩] at h
      cases h
      have hcf : c = false := by
        cases c with
        | false => rfl
        | true => exact absurd he (hc.1 rfl)
      rw [hcf, zbP_2, if_neg (by simp)]
      rw [he, List.append_nil] at hRP hPI
      exact ⟨y5, y6, n + 1, rfl, g2, hRP, hPI⟩
    · rw [if_neg (fun hh => he hh.2), ← hy6] at h
      rw [hc.2 he]
      exact rrounds N hN m (n + 1) _ y6 y5 (by omega) (by omega) hPI hRP g2 h
def colF (rd : Nat → Int) : Nat → List Pull → List Pull
  | _, [] => []
  | i, p :: l => (if 0 ≤ rd i then [p] else []) ++ colF rd (i + 1) l
theorem col_mem {rd : Nat → Int} {p : Pull} : ∀ {l : List Pull} {i : Nat}, p ∈ colF rd i l ↔ ∃ j, l[j]? = some p ∧ 0 ≤ rd (i + j)
  | [], i => by simp [colF]
  | q :: l, i => by
    rw [colF, List.mem_append, col_mem]
    constructor
    · rintro (h | ⟨j, h1, h2⟩)
      · split at h
        · rename_i h0
          simp at h; subst h
          exact ⟨0, by simp, h0⟩
        · simp at h
      · exact ⟨j + 1, by simpa using h1, by rwa [show i + (j + 1) = i + 1 + j by omega]⟩
    · rintro ⟨j, h1, h2⟩
      cases j with
      | zero => simp at h1; subst h1; left; rw [if_pos (by simpa using h2)]; simp
      | succ j => exact .inr ⟨j, by simpa using h1, by rwa [show i + 1 + j = i + (j + 1) by omega]⟩
theorem col_inc {rd : Nat → Int} : ∀ {l : List Pull} {i : Nat}, (∀ j p, l[j]? = some p → 0 ≤ rd (i + j) → p.item = ((i + j : Nat) : Int)) → (colF rd i l).Pairwise fun p q => p.item < q.item
  | [], i, _ => by simp [colF]
  | q :: l, i, h => by
    have h' : ∀ j p, l[j]? = some p → 0 ≤ rd (i + 1 + j) → p.item = ((i + 1 + j : Nat) : Int) := by
      intro j p hj h0
      have := h (j + 1) p (by simpa using hj) (by rwa [show i + (j + 1) = i + 1 + j by omega])
      rw [this]; omega
    rw [colF, List.pairwise_append]
    refine ⟨by split <;> simp, col_inc h', fun p hp r hr => ?_⟩
    split at hp
    · rename_i h0
      simp at hp; subst hp
      have e1 := h 0 p (by simp) (by simpa using h0)
      obtain ⟨j, h1, h2⟩ := col_mem.1 hr
      have e2 := h' j r h1 h2
      omega
    · simp at hp
theorem rp5 (N : Nat) {x5 : List Pull} {x6 : List Int} (hl : x5.length = x6.length) (hb : x6.length ≤ 1000) : ∀ (k m i : Nat) (out : List Pull), k < m → i + k = x6.length → out.length + k ≤ 2000 →
    zbP_5 N x5 x6 m out (i : Int) = some (out ++ colF (rdx x6) i (x5.drop i))
  | k, 0, i, out, h, _, _ => by omega
  | 0, m + 1, i, out, h, hi, ho => by
    rw [zbP_5, if_neg (by simp; omega), List.drop_of_length_le (by omega), colF, List.append_nil]
  | k + 1, m + 1, i, out, h, hi, ho => by
    have h6 : i < x6.length := by omega
    have h5 : i < x5.length := by omega
    have hg : getI x6 (i : Int) = some (rdx x6 i) := by
      rw [getI_nat (at_lt h6)]; unfold rdx; rw [at_lt h6]; rfl
    have step : zbP_6 N x5 x6 out (i : Int) = some (out ++ (if 0 ≤ rdx x6 i then [x5[i]] else [])) := by
      unfold zbP_6
      rw [hg, bind_some', bind_some']
      by_cases h0 : 0 ≤ rdx x6 i
      · rw [if_pos (by simpa using h0), if_pos h0, getI_nat (at_lt h5), bind_some', bind_some', appI_ok (by simp; omega), bind_some']
      · rw [if_neg (by simpa using h0), if_neg h0, List.append_nil]
    rw [zbP_5, if_pos (by simp; omega), step, bind_some', lt_def, w64s (by omega), rp5 N hl hb k m (i + 1) _ (by omega) (by omega) (by
      rw [List.length_append]
      have : (if 0 ≤ rdx x6 i then [x5[i]] else []).length ≤ 1 := by split <;> simp
      omega), drop_at (at_lt h5), colF, List.append_assoc]
theorem perm_of {l l' : List Pull} (h : (l.map Pull.item).Nodup) (h' : l'.Pairwise fun p q => p.item < q.item) (hm : ∀ p, p ∈ l ↔ p ∈ l') : l.Perm l' := by
  refine List.perm_iff_count.2 fun p => ?_
  have nd : l.Nodup := (List.pairwise_map.1 h).imp fun hne e => hne (by rw [e])
  have nd' : l'.Nodup := h'.imp fun hlt e => by rw [e] at hlt; omega
  have c1 := List.nodup_iff_count.1 nd p
  have c2 := List.nodup_iff_count.1 nd' p
  by_cases hp : p ∈ l
  · have := List.count_pos_iff.2 hp
    have := List.count_pos_iff.2 ((hm p).1 hp)
    omega
  · rw [List.count_eq_zero.2 hp, List.count_eq_zero.2 (fun h => hp ((hm p).2 h))]
theorem both_pulls (N : Nat) (hN : 1000 ≤ N) (hN2 : N ≤ 99000) {d : Disorder} (hB : Bd d) (hD : DOk d) : ∃ L a rd, zaS N d = some (L, 0) ∧ zbP N d = some (L, 0) ∧ PsOk d a L rd := by
  obtain ⟨a, h1, h2⟩ := open_ok N (by omega) hD
  have hli := hD.li
  have hr : rdx (List.replicate d.items.length (-1)) = fun _ => -1 := by
    funext x
    unfold rdx
    rw [List.getElem?_replicate]
    split <;> rfl
  have h0 : PI d a [] (List.replicate d.items.length (-1)) 0 := by
    refine ⟨⟨hD, h2, by simp⟩, by simp, by simp, by simp, fun x => .inl (by rw [hr]), fun h => by omega⟩
  obtain ⟨out, rd, g1, g2⟩ := rounds N (by omega) N 0 [] _ h0 (by unfold remN; simp; omega) (by omega)
  have g1 : zaS_0 N d (Scene.mk d [] []) a N [] ((0 : Nat) : Int) (List.replicate d.items.length (-1)) = _ := g1
  obtain ⟨M, rfl⟩ : ∃ M, N = M + 1 := ⟨N - 1, by omega⟩
  have g1' := g1
  rw [round_step (M + 1) (by omega) h0 (by omega), if_neg (by simp)] at g1'
  obtain ⟨b, v1, v2, v3⟩ := both_valid (M + 1) hN hB
  obtain rfl := v3.2 hD
  have hz : Sc d a (List.replicate d.items.length 0) := ⟨hD, h2, by simp⟩
  obtain ⟨y5, y6, f1, f2, f3, f4⟩ := rp0 (M + 1) (by omega) (d := d) (a := a) d.items.length (M + 1) 0 (List.replicate d.items.length (Pull.mk 0 0 0 0)) (List.replicate d.items.length 0) (by omega) (by omega) hz (by simp)
  have f1 : zbP_0 (M + 1) d (a.map cR) (M + 1) (List.replicate d.items.length (Pull.mk 0 0 0 0)) (List.replicate d.items.length 0) 0 = _ := f1
  have hy6 := set_new (d := d) (a := a) (rd := List.replicate d.items.length (-1)) (0 : Int) (by simp) f3.rl fun j hj => by rw [hr]; exact ((f4 j hj).2 (Nat.zero_le _)).1
  have hRP : RP ([] ++ passF d a (rdx (List.replicate d.items.length (-1))) ((0 : Nat) : Int) 0 d.items) y5 := RP.step (x5 := List.replicate d.items.length (Pull.mk 0 0 0 0)) h0 (by intro p hp; simp at hp) fun j hj => by rw [hr]; exact ((f4 j hj).2 (Nat.zero_le _)).2
  have hPI := h0.step
  have hy6' : y6 = setR ((0 : Nat) : Int) (passF d a (rdx (List.replicate d.items.length (-1))) ((0 : Nat) : Int) 0 d.items) (List.replicate d.items.length (-1)) := hy6
  rw [← hy6'] at g1' hPI
  obtain ⟨x5, rd', n', q1, q2, q3, q4⟩ := rrounds (M + 1) (by omega) M 1 _ y6 y5 (by omega) (by omega) hPI hRP f2 g1'
  have q1 : zbP_2 (M + 1) d (a.map cR) (M + 1) y5 y6 1 true = _ := q1
  have hx5 : x5.length = rd'.length := by rw [q2, q4.sc.rl]
  have e5 := rp5 (M + 1) hx5 (by rw [q4.sc.rl]; omega) rd'.length (M + 1) 0 [] (by rw [q4.sc.rl]; omega) (by omega) (by rw [q4.sc.rl]; simp; omega)
  rw [List.drop_zero, List.nil_append] at e5
  have e5 : zbP_5 (M + 1) x5 rd' (M + 1) [] 0 = _ := e5
  have hat : ∀ j p, x5[j]? = some p → 0 ≤ rdx rd' j → p ∈ out ∧ p.item = (j : Int) := by
    intro j p hj h0
    rcases q4.on j with h | ⟨q, hq, he⟩
    · omega
    · have := q3 q hq
      rw [he, Int.toNat_natCast, hj] at this
      cases this
      exact ⟨hq, he⟩
  have hinc : (colF (rdx rd') 0 x5).Pairwise fun p q => p.item < q.item := col_inc fun j p hj h0 => by
    rw [Nat.zero_add] at h0 ⊢
    exact (hat j p hj h0).2
  have hmem : ∀ p, p ∈ out ↔ p ∈ colF (rdx rd') 0 x5 := by
    intro p
    rw [col_mem]
    constructor
    · intro hp
      obtain ⟨x, c1, c2, c3, c4, _⟩ := q4.it p hp
      have := q3 p hp
      rw [c1, Int.toNat_natCast] at this
      exact ⟨x, this, by rw [Nat.zero_add, c3]; exact c4⟩
    · rintro ⟨j, hj, h0⟩
      rw [Nat.zero_add] at h0
      exact (hat j p hj h0).1
  have hperm := perm_of q4.nd hinc hmem
  have hlen := g2.len
  refine ⟨colF (rdx rd') 0 x5, a, rd, ?_, ?_, g2.perm hperm.symm⟩
  · have g1 : zaS_0 (M + 1) d (Scene.mk d [] []) a (M + 1) [] 0 (List.replicate d.items.length (-1)) = _ := g1
    unfold zaS
    rw [v1, bind_some', if_neg (by simp), h1, bind_some']
    simp only
    rw [g1, bind_some', srt_eq (Pull.mk 0 0 0 0) Pull.item hperm hinc (by omega), bind_some']
  · unfold zbP
    rw [v2, bind_some', if_neg (by simp), rspots_ok (M + 1) hN hD h2, bind_some', mkI_ok (by omega) (by omega), bind_some', mkI_ok (by omega) (by omega), bind_some', Int.toNat_natCast, f1, bind_some']
    simp only
    rw [q1, bind_some']
    simp only
    rw [e5, bind_some']
end Go.W
end
section
set_option linter.unusedVariables false
set_option linter.unusedSimpArgs false
namespace Go.W
open Go.AM
section
variable {d : Disorder} {a : List Spot} {rd : List Int} (hS : Sc d a rd) (N : Nat)
include hS
theorem rjust_ok {x : Nat} (hx : x < d.items.length) (r y n : Int) : zaQ N d (a.map cR) rd (Pull.mk x r y n) = some (juB d a (rdx rd) x r y n) := by
  unfold zaQ juB
  simp only
  by_cases h1 : r = 1
  · rw [if_pos (by simpa using h1), if_pos h1]
    unfold zaQ_0
    simp only
    by_cases h2 : y = -1
    · rw [if_pos (by simpa using h2), rhome_ok hS N hx, bind_some', lt_def, bind_some']; simp [h2]
    · rw [if_neg (by simpa using h2), bind_some']; simp [h2]
  · rw [if_neg (by simpa using h1), if_neg h1]
    by_cases h2 : y < 0 ∨ (d.items.length : Int) ≤ y
    · have : zaQ_1 N d y = some true := by
        unfold zaQ_1
        by_cases h3 : y < 0
        · rw [if_pos (by simpa using h3)]
        · rw [if_neg (by simpa using h3)]; simp; omega
      rw [this, bind_some', if_pos rfl, if_pos h2]
    · have : zaQ_1 N d y = some false := by
        unfold zaQ_1
        rw [if_neg (by simp; omega)]; simp; omega
      rw [this, bind_some', if_neg (by simp), if_neg h2]
      obtain ⟨j, rfl⟩ := Int.eq_ofNat_of_zero_le (show 0 ≤ y by omega)
      have hj : j < d.items.length := by omega
      rw [Int.toNat_natCast]
      have e2 : zaQ_2 N rd (Pull.mk x r j n) (j : Int) = some (puB (rdx rd) j n) := by
        unfold zaQ_2 puB
        rw [rdx_at hS hj, bind_some']
        by_cases h : 0 ≤ rdx rd j
        · rw [if_pos (by simpa using h), bind_some', lt_def, decide_eq_true h, Bool.true_and]
        · rw [if_neg (by simpa using h), decide_eq_false h, Bool.false_and]
      rw [e2, bind_some', lt_def]
      by_cases h5 : r = 2
      · subst h5
        rw [if_pos (by simp), if_neg (by omega), if_neg (by omega), if_pos rfl]
        unfold zaQ_3
        cases puB (rdx rd) j n with
        | false => rw [if_neg (by simp), bind_some', Bool.and_false]
        | true => rw [if_pos rfl, rnear_ok hS N hx hj, bind_some', bind_some', Bool.and_true]
      · rw [if_neg (by simpa using h5), lt_def]
        by_cases h3 : r = 3
        · subst h3
          rw [if_pos (by simp)]
          unfold zaQ_4
          simp only
          by_cases h4 : n = 0
          · subst h4
            have hp : puB (rdx rd) j 0 = false := by
              unfold puB
              by_cases h : 0 ≤ rdx rd j
              · rw [decide_eq_false (show ¬ rdx rd j < 0 by omega), Bool.and_false]
              · rw [decide_eq_false h, Bool.false_and]
            rw [hp, if_neg (by simp), if_pos (by simp), rbeh_ok hS N hx hj, bind_some', bind_some', if_pos ⟨by trivial, by trivial⟩]
          · rw [if_neg (fun hh : True ∧ n = 0 => h4 hh.2), if_pos trivial]
            cases puB (rdx rd) j n with
            | false => rw [if_neg (by simp), if_neg (by simpa using h4), bind_some', Bool.and_false]
            | true =>
              rw [if_pos rfl, rless_ok hS N hx hj, bind_some', Bool.and_true]
              cases ahB d j x with
              | true => rfl
              | false => rw [if_neg (by simp), if_neg (by simpa using h4), bind_some']
        · rw [if_neg (by simpa using h3), if_neg (fun hh => h3 hh.1), if_neg h3, if_neg h5]
theorem agX_iff {x : Nat} (rd' : Nat → Int) : agX d a rd' x = false ↔ ∀ y, y < d.items.length → agB d a rd' x y = false := by
  have := hS.rl
  unfold agX
  rw [List.any_eq_false]
  constructor
  · intro h y hy
    simpa using h y (List.mem_range.2 hy)
  · intro h y hy
    simpa using h y (List.mem_range.1 hy)
theorem why_ag {x : Nat} (hx : x < d.items.length) {p : Pull} (h : whyF d a (rdx rd) x 0 = some p) : agX d a (rdx rd) x = true := by
  cases hg : agX d a (rdx rd) x with
  | true => rfl
  | false =>
    have hg := (agX_iff hS (rdx rd)).1 hg
    have hh : homeB d a x = true := by
      have := hg x hx
      unfold agB at this
      simp only [Bool.or_eq_false_iff, Bool.not_eq_false'] at this
      exact this.1
    unfold whyF at h
    rw [if_pos rfl, if_pos hh] at h
    obtain ⟨y, hy, _, h3⟩ := look_some h
    have h3 : juB d a (rdx rd) x 3 y 0 = true := h3
    rw [ju30 hS (rdx rd) hy, hh, Bool.true_and] at h3
    have := hg y hy
    unfold agB at this
    rw [h3] at this
    simp at this
theorem rck6 (hN : 200 ≤ N) {x : Nat} (hx : x < d.items.length) (hw : whyF d a (rdx rd) x 0 = none) :
    zbR_6 N d (a.map cR) rd (x : Int) N 0 = some (if agX d a (rdx rd) x = true then .inr false else .inl ()) := by
  have hli := hS.ok.li
  have hrl := hS.rl
  obtain ⟨w1, w2⟩ := whyF_none hw
  have hh := w1 rfl
  have hz : ∀ y, y < d.items.length → (ahB d y x && neB a y x) = false := by
    intro y hy
    have := (w2 y hy).1
    rw [ju30 hS (rdx rd) hy, hh, Bool.true_and] at this
    exact this
  have h := first_gen (l := rd) (fun y _ => agB d a (rdx rd) x y) (fun _ _ => false) (zbR_6 N d (a.map cR) rd (x : Int)) (fun n => by unfold zbR_6; rw [if_neg (by simp)]) (fun n y w hw' => by
    have hy := (List.getElem?_eq_some_iff.1 hw').1
    rw [hrl] at hy
    have e7 : zbR_7 N d (a.map cR) rd (x : Int) (y : Int) = some (agB d a (rdx rd) x y) := by
      unfold zbR_7 agB
      rw [hz y hy, hh, rdx_at hS hy, bind_some', bind_some']
      by_cases h2 : 0 ≤ rdx rd y
      · rw [if_pos (by simpa using h2), rnear_ok hS N hx hy, bind_some', decide_eq_true h2]
        cases neB a x y with
        | true => simp
        | false => rw [if_neg (by simp), rless_ok hS N hx hy, bind_some']; simp
      · rw [if_neg (by simpa using h2), decide_eq_false h2]; simp
    rw [zbR_6, if_pos (by simp; omega), e7, bind_some', lt_def, w64s (by omega)]) rd.length N 0 (by omega) (by omega)
  have h : zbR_6 N d (a.map cR) rd (x : Int) N 0 = _ := h
  rw [h, List.drop_zero]
  congr 1
  rcases res_c (fun y (_ : Int) => agB d a (rdx rd) x y) rd 0 with ⟨h1, h2⟩ | ⟨h1, j, z, h2, h3⟩
  · rw [h1, (agX_iff hS (rdx rd)).2 fun y hy => by
      have := h2 y _ (at_lt (by rw [hrl]; exact hy))
      rwa [Nat.zero_add] at this, if_neg (by simp)]
  · rw [h1, if_pos]
    cases hg : agX d a (rdx rd) x with
    | true => rfl
    | false =>
      have hj := (List.getElem?_eq_some_iff.1 h2).1
      have := (agX_iff hS (rdx rd)).1 hg j (by omega)
      rw [Nat.zero_add, this] at h3
      cases h3
theorem rck4 (hN : 200 ≤ N) : zbR_4 N d (a.map cR) rd N 0 = some (if opB d a (rdx rd) = true then .inr false else .inl ()) := by
  have hli := hS.ok.li
  have hrl := hS.rl
  have h := first_gen (l := rd) (fun x _ => !decide (0 ≤ rdx rd x) && agX d a (rdx rd) x) (fun _ _ => false) (zbR_4 N d (a.map cR) rd) (fun n => by unfold zbR_4; rw [if_neg (by simp)]) (fun n x w hw => by
    have hx := (List.getElem?_eq_some_iff.1 hw).1
    rw [hrl] at hx
    have e4 : zbR_5 N d (a.map cR) rd (x : Int) = some (if (!decide (0 ≤ rdx rd x) && agX d a (rdx rd) x) = true then .inr false else .inl ()) := by
      unfold zbR_5
      rw [rdx_at hS hx, bind_some', bind_some']
      by_cases h1 : 0 ≤ rdx rd x
      · rw [if_pos (by simpa using h1), decide_eq_true h1]; rfl
      · rw [if_neg (by simpa using h1), decide_eq_false h1, rfirst_ok hS N hN (rdx rd) hx, bind_some']
        cases hw : whyF d a (rdx rd) x 0 with
        | some p =>
          simp only
          rw [if_pos trivial, why_ag hS hx hw]; rfl
        | none =>
          simp only
          rw [if_neg (by simp), rck6 hS N hN hx hw, bind_some']
          cases agX d a (rdx rd) x <;> rfl
    rw [zbR_4, if_pos (by simp; omega), e4, bind_some']
    by_cases hc : (!decide (0 ≤ rdx rd x) && agX d a (rdx rd) x) = true
    · rw [if_pos hc, if_pos hc]
    · rw [if_neg hc, if_neg hc]
      simp only
      rw [lt_def, w64s (by omega)]) rd.length N 0 (by omega) (by omega)
  have h : zbR_4 N d (a.map cR) rd N 0 = _ := h
  rw [h, List.drop_zero]
  congr 1
  unfold opB
  rcases res_c (fun x (_ : Int) => !decide (0 ≤ rdx rd x) && agX d a (rdx rd) x) rd 0 with ⟨h1, h2⟩ | ⟨h1, j, z, h2, h3⟩
  · rw [h1, if_neg]
    simp only [List.any_eq_true, not_exists, not_and]
    intro y hy
    have := h2 y _ (at_lt (by rw [hrl]; exact List.mem_range.1 hy))
    rw [Nat.zero_add] at this
    rw [this]; simp
  · rw [h1, if_pos]
    rw [List.any_eq_true]
    exact ⟨j, List.mem_range.2 (by rw [← hrl]; exact (List.getElem?_eq_some_iff.1 h2).1), by simpa using h3⟩
end
theorem rck0 (N : Nat) (n : Nat) (hn : n ≤ 1000) : ∀ (k m i : Nat) (rd : List Int), k < m → i + k = n → rd.length = n → (∀ j x, j < i → rd[j]? = some x → x = -1) → zbR_0 N m rd (i : Int) = some (List.replicate n (-1))
  | k, 0, i, rd, h, _, _, _ => by omega
  | 0, m + 1, i, rd, h, hi, hl, hr => by
    obtain rfl : i = n := by omega
    rw [zbR_0, if_neg (by simp; omega)]
    congr 1
    refine List.ext_getElem (by simp [hl]) fun j h1 h2 => ?_
    rw [List.getElem_replicate]
    exact hr j _ (by omega) (at_lt h1)
  | k + 1, m + 1, i, rd, h, hi, hl, hr => by
    have hlt : i < rd.length := by omega
    rw [zbR_0, if_pos (by simp; omega), getI_nat (at_lt hlt), bind_some', bind_some', lt_def, lt_def, Int.toNat_natCast, w64s (by omega)]
    refine rck0 N n hn k m (i + 1) _ (by omega) (by omega) (by simp [hl]) fun j x hj hx => ?_
    rw [List.getElem?_set] at hx
    by_cases hij : i = j
    · rw [if_pos hij, if_pos (by omega)] at hx
      cases hx; rfl
    · rw [if_neg hij] at hx
      exact hr j x (by omega) hx
theorem rck1 (N : Nat) (n : Nat) {l : List Pull} (hl : l.length ≤ 100000) : ∀ (k m i : Nat) (rd : List Int), k < m → i + k = l.length → rd.length = n →
    zbR_1 N l m rd (i : Int) = some (match ckR n (l.drop i) rd with | some r => .inl r | none => .inr false)
  | k, 0, i, rd, h, _, _ => by omega
  | 0, m + 1, i, rd, h, hi, hr => by
    unfold zbR_1
    rw [if_neg (by simp; omega), List.drop_of_length_le (by omega), ckR]
  | k + 1, m + 1, i, rd, h, hi, hr => by
    have hlt : i < l.length := by omega
    have step : zbR_2 N l rd (i : Int) l[i].item = some (badP n rd l[i]) := by
      unfold zbR_2 badP
      rw [hr]
      by_cases h1 : l[i].item < 0
      · rw [if_pos (by simpa using h1)]; simp [h1]
      · rw [if_neg (by simpa using h1)]
        by_cases h2 : (n : Int) ≤ l[i].item
        · rw [if_pos (by simpa using h2)]; simp [h2]
        · rw [if_neg (by simpa using h2)]
          obtain ⟨j, hj⟩ := Int.eq_ofNat_of_zero_le (show 0 ≤ l[i].item by omega)
          have hjr : j < rd.length := by omega
          have hg : getI rd l[i].item = some (rdx rd j) := by
            rw [hj, getI_nat (at_lt hjr)]; unfold rdx; rw [at_lt hjr]; rfl
          rw [hg, bind_some', bind_some', hj, Int.toNat_natCast]
          by_cases h3 : 0 ≤ rdx rd j
          · rw [if_pos (by simpa using h3)]; simp [h3]
          · rw [if_neg (by simpa using h3), getI_nat (at_lt hlt), bind_some', decide_eq_false h3, decide_eq_false (by omega : ¬ (j : Int) < 0), decide_eq_false (by omega : ¬ (n : Int) ≤ (j : Int))]; rfl
    rw [zbR_1, if_pos (by simp; omega), getI_nat (at_lt hlt), bind_some', step, bind_some', drop_at (at_lt hlt), ckR]
    by_cases hb : badP n rd l[i] = true
    · rw [if_pos hb, if_pos hb]
    · rw [if_neg hb, if_neg hb]
      unfold badP at hb
      simp only [Bool.or_eq_true, decide_eq_true_eq, not_or] at hb
      obtain ⟨j, hj⟩ := Int.eq_ofNat_of_zero_le (show 0 ≤ l[i].item by omega)
      have hjr : j < rd.length := by omega
      have hg : getI rd l[i].item = some (rdx rd j) := by
        rw [hj, getI_nat (at_lt hjr)]; unfold rdx; rw [at_lt hjr]; rfl
      rw [bind_some', hg, bind_some', bind_some', lt_def, lt_def, w64s (by omega)]
      exact rck1 N n hl k m (i + 1) _ (by omega) (by omega) (by rw [List.length_set]; exact hr)
theorem check_eq (N : Nat) (hN : 1000 ≤ N) {d : Disorder} (hD : DOk d) (l : List Pull) (hl : l.length ≤ 900) : zbR N d l = zaU N d l := by
  have hli := hD.li
  obtain ⟨a, h1, hA⟩ := open_ok N (by omega) hD
  have e0 := ck0 N (d := d) (l := l) (by omega) l.length N 0 (List.replicate d.items.length (-1)) (by omega) (by omega) (by simp)
  have e0 : zaU_0 N d l (l.length : Int) N 0 (List.replicate d.items.length (-1)) = _ := e0
  rw [List.drop_zero] at e0
  have r0 := rck0 N d.items.length (by omega) d.items.length N 0 (List.replicate d.items.length 0) (by omega) (by omega) (by simp) (fun j x hj => by omega)
  have r0 : zbR_0 N N (List.replicate d.items.length 0) 0 = _ := r0
  have r1 := rck1 N d.items.length (l := l) (by omega) l.length N 0 (List.replicate d.items.length (-1)) (by omega) (by omega) (by simp)
  have r1 : zbR_1 N l N (List.replicate d.items.length (-1)) 0 = _ := r1
  rw [List.drop_zero] at r1
  unfold zaU zbR
  rw [h1, bind_some']
  simp only
  rw [e0, bind_some', rspots_ok N hN hD hA, bind_some', mkI_ok (by omega) (by omega), bind_some', Int.toNat_natCast, r0, bind_some', r1, bind_some']
  cases hc : ckR d.items.length l (List.replicate d.items.length (-1)) with
  | none => rfl
  | some rd =>
    simp only
    have hS := ckR_some (by simp) hc
    have hsc : Sc d a rd := ⟨hD, hA, by rw [hS.len]; simp⟩
    have e2 := first_gen (l := l) (fun _ p => !juB d a (rdx rd) p.item.toNat p.reason p.because p.round) (fun _ _ => false) (zaU_2 N (Scene.mk d [] []) l (l.length : Int) a rd) (fun n => by unfold zaU_2; rw [if_neg (by simp)]) (fun n i p hp => by
      have hi := (List.getElem?_eq_some_iff.1 hp).1
      obtain ⟨x, g1, g2, _⟩ := hS.it p (List.mem_of_getElem? hp)
      rw [zaU_2, if_pos (by simp; omega), getI_nat hp, bind_some']
      simp only
      rw [g1, just_ok hsc N g2, bind_some', Int.toNat_natCast, w64s (by omega)]) l.length N 0 (by omega) (by omega)
    have e2 : zaU_2 N (Scene.mk d [] []) l (l.length : Int) a rd N 0 = _ := e2
    have r2 := first_gen (l := l) (fun _ p => !juB d a (rdx rd) p.item.toNat p.reason p.because p.round) (fun _ _ => false) (zbR_3 N l d (a.map cR) rd) (fun n => by unfold zbR_3; rw [if_neg (by simp)]) (fun n i p hp => by
      have hi := (List.getElem?_eq_some_iff.1 hp).1
      obtain ⟨x, g1, g2, _⟩ := hS.it p (List.mem_of_getElem? hp)
      obtain ⟨p1, p2, p3, p4⟩ := p
      have g1 : p1 = (x : Int) := g1
      subst g1
      rw [zbR_3, if_pos (by simp; omega), getI_nat hp, bind_some', rjust_ok hsc N g2, bind_some', lt_def, w64s (by omega)]
      simp only [Int.toNat_natCast]) l.length N 0 (by omega) (by omega)
    have r2 : zbR_3 N l d (a.map cR) rd N 0 = _ := r2
    rw [e2, r2, bind_some', bind_some', List.drop_zero]
    cases res (fun (_ : Nat) (p : Pull) => !juB d a (rdx rd) p.item.toNat p.reason p.because p.round) (fun _ _ => false) 0 l with
    | inr b => rfl
    | inl u =>
      simp only
      rw [ck3 hsc N (by omega), rck4 hsc N (by omega)]
theorem pulled_eq (N : Nat) (l : List Pull) (x : Int) (hl : l.length < N) (hl2 : l.length ≤ 100000) : zbE N l x = some (pulB l x) := by
  obtain ⟨b, h1, h2⟩ := pulled_ok N l x hl hl2
  rw [h1]
  congr 1
  unfold pulB
  rw [Bool.eq_iff_iff, h2, decide_eq_true_iff]
theorem kp_t (l : List Pull) (x : Int) : kpB l true x = !pulB l x := by unfold kpB; cases pulB l x <;> rfl
theorem kp_f (l : List Pull) (x : Int) : kpB l false x = pulB l x := by unfold kpB; cases pulB l x <;> rfl
theorem rrest1 (N : Nat) {d : Disorder} (ps : List Pull) (hp : ps.length < N) (hp2 : ps.length ≤ 900) {t : Nat} {l : List Int} (hl : d.tracks[t]? = some l) (hll : l.length ≤ 1000) : ∀ (k m j : Nat) (out : List Int), k < m → j + k = l.length → out.length + k ≤ 2000 →
    zbY_1 N ps d (t : Int) m out (j : Int) = some (out ++ (l.drop j).filter (kpB ps true))
  | k, 0, j, out, h, _, _ => by omega
  | 0, m + 1, j, out, h, hj, ho => by
    rw [zbY_1, getI_nat hl, bind_some', if_neg (by simp; omega), List.drop_of_length_le (by omega), List.filter_nil, List.append_nil]
  | k + 1, m + 1, j, out, h, hj, ho => by
    have hlt : j < l.length := by omega
    have step : zbY_2 N ps d (t : Int) out (j : Int) = some (out ++ (if kpB ps true l[j] = true then [l[j]] else [])) := by
      unfold zbY_2
      rw [getI_nat hl, bind_some', getI_nat (at_lt hlt), bind_some', pulled_eq N ps _ hp (by omega), bind_some', kp_t]
      cases pulB ps l[j] with
      | true => simp
      | false =>
        rw [if_pos (by simp), bind_some', getI_nat (at_lt hlt), bind_some', appI_ok (by simp; omega), bind_some']; simp
    rw [zbY_1, getI_nat hl, bind_some', if_pos (by simp; omega), step, bind_some', lt_def, w64s (by omega), rrest1 N ps hp hp2 hl hll k m (j + 1) _ (by omega) (by omega) (by
      rw [List.length_append]
      have : (if kpB ps true l[j] = true then [l[j]] else []).length ≤ 1 := by split <;> simp
      omega), drop_at (at_lt hlt), List.filter_cons, List.append_assoc]
    split <;> rfl
theorem rrest0 (N : Nat) (hN : 1000 ≤ N) {d : Disorder} (hD : DOk d) (ps : List Pull) (hp2 : ps.length ≤ 900) : ∀ (k m t : Nat) (out : List (List Int)), k < m → t + k = d.tracks.length → out.length + k ≤ 2000 →
    zbY_0 N ps d m out (t : Int) = some (out ++ (d.tracks.drop t).map fun l => l.filter (kpB ps true))
  | k, 0, t, out, h, _, _ => by omega
  | 0, m + 1, t, out, h, ht, ho => by
    rw [zbY_0, if_neg (by simp; omega), List.drop_of_length_le (by omega), List.map_nil, List.append_nil]
  | k + 1, m + 1, t, out, h, ht, ho => by
    have hb := hD.lt
    have hlt : t < d.tracks.length := by omega
    have hll := trk_len hD _ (List.getElem_mem hlt)
    have e := rrest1 N ps (by omega) hp2 (at_lt hlt) (by omega) d.tracks[t].length N 0 [] (by omega) (by omega) (by simp; omega)
    rw [List.drop_zero, List.nil_append] at e
    have e : zbY_1 N ps d (t : Int) N [] 0 = _ := e
    rw [zbY_0, if_pos (by simp; omega), e, bind_some', appI_ok (by simp; omega), bind_some', lt_def, w64s (by omega), rrest0 N hN hD ps hp2 k m (t + 1) _ (by omega) (by omega) (by simp; omega), drop_at (at_lt hlt), List.map_cons, List.append_assoc]
    rfl
def itI (d : Disorder) (i : Int) : Item := itm d i.toNat
theorem itI_at {d : Disorder} {i : Int} (h : 0 ≤ i ∧ i < d.items.length) : getI d.items i = some (itI d i) := by
  obtain ⟨j, rfl⟩ := Int.eq_ofNat_of_zero_le h.1
  unfold itI
  rw [Int.toNat_natCast]
  exact itm_at (by omega)
theorem con0 (N : Nat) (xss : List (List Int)) (hx : xss.length ≤ 900) (hl : ∀ l ∈ xss, l.length ≤ 900) : ∀ (k m i : Nat) (s : Nat), k < m → i + k = xss.length → s + 900 * k ≤ 900000 →
    ∃ r : Nat, zaD_0 N xss (xss.length : Int) m (s : Int) (i : Int) = some (r : Int) ∧ r ≤ 900000
  | k, 0, i, s, h, _, _ => by omega
  | 0, m + 1, i, s, h, hi, hs => by
    rw [zaD_0, if_neg (by simp; omega)]
    exact ⟨s, rfl, by omega⟩
  | k + 1, m + 1, i, s, h, hi, hs => by
    have hlt : i < xss.length := by omega
    have hll := hl _ (List.getElem_mem hlt)
    have step : zaD_1 N (s : Int) xss (i : Int) = some ((s + xss[i].length : Nat) : Int) := by
      unfold zaD_1
      rw [getI_nat (at_lt hlt), bind_some', lt_def, w64 (by omega) (by omega), if_neg (by simp; omega)]
      congr 1
    rw [zaD_0, if_pos (by simp; omega), step, bind_some', w64s (by omega)]
    exact con0 N xss hx hl k m (i + 1) _ (by omega) (by omega) (by omega)
theorem grow_ok (N : Nat) (n : Nat) (hn : n ≤ 900000) : zaG N (n : Int) = some [] := by
  unfold zaG zaG_0
  rw [if_neg (by simp), bind_some', lt_def]
  have e : IntKind.wrap .i64 ((n : Int) - IntKind.wrap .i64 (0 - (([] : List Int).length : Int))) = (n : Int) := by
    rw [w64 (n := 0 - (([] : List Int).length : Int)) (by simp) (by simp), w64 (by simp <;> omega) (by simp <;> omega)]; simp
  rw [e]
  unfold zaG_1
  by_cases h : (0 : Int) < n
  · rw [if_pos (by simpa using h), if_pos (by simpa using h), mkI_ok (by omega) (by omega), bind_some']
    have : cutI (List.replicate (n : Int).toNat (0 : Int)) 0 (([] : List Int).length : Int) = some [] := by
      have := cutI_take (xs := List.replicate (n : Int).toNat (0 : Int)) (i := 0) (by omega)
      simpa using this
    rw [this, bind_some', bind_some']
  · rw [if_neg (by simpa using h), bind_some']
theorem con2 (N : Nat) (xss : List (List Int)) (hx : xss.length ≤ 900) (hl : ∀ l ∈ xss, l.length ≤ 900) : ∀ (k m i : Nat) (out : List Int), k < m → i + k = xss.length → out.length + 900 * k ≤ 900000 →
    zaD_2 N xss (xss.length : Int) m out (i : Int) = some (out ++ (xss.drop i).flatten)
  | k, 0, i, out, h, _, _ => by omega
  | 0, m + 1, i, out, h, hi, hs => by
    rw [zaD_2, if_neg (by simp; omega), List.drop_of_length_le (by omega)]; simp
  | k + 1, m + 1, i, out, h, hi, hs => by
    have hlt : i < xss.length := by omega
    have hll := hl _ (List.getElem_mem hlt)
    rw [zaD_2, if_pos (by simp; omega), getI_nat (at_lt hlt), bind_some', appI_ok (by omega), bind_some', w64s (by omega), con2 N xss hx hl k m (i + 1) _ (by omega) (by omega) (by simp; omega), drop_at (at_lt hlt), List.flatten_cons, List.append_assoc]
theorem concat_ok (N : Nat) (hN : 1000 ≤ N) (xss : List (List Int)) (hx : xss.length ≤ 900) (hl : ∀ l ∈ xss, l.length ≤ 900) : zaD N xss = some xss.flatten := by
  obtain ⟨r, h1, h2⟩ := con0 N xss hx hl xss.length N 0 0 (by omega) (by omega) (by omega)
  have h1 : zaD_0 N xss (xss.length : Int) N 0 0 = _ := h1
  have h3 := con2 N xss hx hl xss.length N 0 [] (by omega) (by omega) (by simp; omega)
  rw [List.drop_zero, List.nil_append] at h3
  have h3 : zaD_2 N xss (xss.length : Int) N [] 0 = _ := h3
  unfold zaD
  rw [h1, bind_some', grow_ok N r h2, bind_some', h3, bind_some']
theorem job1 (N : Nat) {d : Disorder} (xs : List Int) (hx : xs.length ≤ 900) (hr : ∀ i ∈ xs, 0 ≤ i ∧ i < d.items.length) (w : Int) : ∀ (k m i : Nat) (J : List Item) (out : List Item), k < m → i + k = xs.length → out.length + k ≤ 2000 →
    zbI_1 N d xs (xs.length : Int) m (Job.mk J w) (i : Int) out = some (Job.mk [] w, out ++ (xs.drop i).map (itI d))
  | k, 0, i, J, out, h, _, _ => by omega
  | 0, m + 1, i, J, out, h, hi, ho => by
    rw [zbI_1, if_neg (by simp; omega), List.drop_of_length_le (by omega), List.map_nil, List.append_nil]
  | k + 1, m + 1, i, J, out, h, hi, ho => by
    have hlt : i < xs.length := by omega
    rw [zbI_1, if_pos (by simp; omega), getI_nat (at_lt hlt), bind_some', bind_some', itI_at (hr _ (List.getElem_mem hlt)), bind_some', appI_ok (by simp; omega), bind_some', w64s (by omega), job1 N xs hx hr w k m (i + 1) _ _ (by omega) (by omega) (by simp; omega), drop_at (at_lt hlt), List.map_cons, List.append_assoc]
    rfl
theorem jin (N : Nat) (x lo hi : Int) : zcC N x lo hi = some (decide (lo ≤ x ∧ x ≤ hi)) := by
  unfold zcC zcC_0
  by_cases h : lo ≤ x
  · rw [if_pos (by simpa using h), lt_def, bind_some']; simp [h]
  · rw [if_neg (by simpa using h), bind_some']; simp [h]
theorem jval (N : Nat) (J : Job) (hJ : J.items.length ≤ 96) (hN : 200 ≤ N) (hw : 0 ≤ J.weight ∧ J.weight ≤ 12) (hi : ∀ x ∈ J.items, 0 ≤ x.train ∧ x.train ≤ 15 ∧ 0 ≤ x.block ∧ x.block < 32 ∧ x.round = 0 ∧ 1 ≤ x.length ∧ x.length ≤ 400) : zbM N J = some 0 := by
  unfold zbM
  rw [if_neg (by simp; omega), jin, bind_some', decide_eq_true hw, if_neg (by simp)]
  have h := first_gen (l := J.items) (fun _ _ => false) (fun _ _ => (0 : Int)) (zbM_0 N J J.items (J.items.length : Int)) (fun n => by unfold zbM_0; rw [if_neg (by simp)]) (fun n i x hx => by
    have hlt := (List.getElem?_eq_some_iff.1 hx).1
    have hr := hi x (List.mem_of_getElem? hx)
    have e1 : zbM_1 N x = some false := by
      unfold zbM_1
      rw [jin, bind_some', decide_eq_true (by omega), if_neg (by simp), jin, bind_some', decide_eq_true (by omega), if_neg (by simp), jin, bind_some', decide_eq_true (by omega), if_neg (by simp), jin, bind_some', decide_eq_true (by omega)]
      rfl
    have e2 : zbM_2 N J (i : Int) x = some false := by
      unfold zbM_2
      by_cases h0 : 0 < i
      · obtain ⟨j, rfl⟩ : ∃ j, i = j + 1 := ⟨i - 1, by omega⟩
        have hj : j < J.items.length := by omega
        have hp := hi _ (List.getElem_mem hj)
        rw [if_pos (by simp <;> omega), w64p (by omega), getI_nat (at_lt hj), bind_some']
        congr 1
        rw [decide_eq_false_iff_not]; omega
      · rw [if_neg (by simp <;> omega)]
    rw [zbM_0, if_pos (by simp; omega), getI_nat hx, bind_some', e1, bind_some', if_neg (by simp), e2, bind_some', if_neg (by simp), if_neg (by simp), w64s (by omega)]) J.items.length N 0 (by omega) (by omega)
  have h : zbM_0 N J J.items (J.items.length : Int) N 0 = _ := h
  rw [List.drop_zero] at h
  have hres : ∀ (l : List Item) (i : Nat), res (fun _ _ => false) (fun _ _ => (0 : Int)) i l = .inl () := by
    intro l
    induction l with
    | nil => intro i; rfl
    | cons x l ih => intro i; rw [res, if_neg (by simp), ih]
  rw [hres] at h
  rw [h, bind_some']
def jobL (d : Disorder) (ps : List Pull) : List Int := d.tracks.flatten.filter (pulB ps)
theorem flat_filter (ts : List (List Int)) (q : Int → Bool) : (ts.map fun l => l.filter q).flatten = ts.flatten.filter q := by
  induction ts with
  | nil => rfl
  | cons l ts ih => rw [List.map_cons, List.flatten_cons, List.flatten_cons, List.filter_append, ih]
theorem flat_len {d : Disorder} (hD : DOk d) : d.tracks.flatten.length = d.items.length := by
  have := (tk_iff.1 hD.tk).2.2
  exact this
theorem jobL_len {d : Disorder} (hD : DOk d) (ps : List Pull) : (jobL d ps).length ≤ d.items.length := by
  have h : (jobL d ps).length ≤ d.tracks.flatten.length := List.length_filter_le _ _
  rw [flat_len hD] at h
  exact h
theorem jobL_rg {d : Disorder} (hD : DOk d) (ps : List Pull) : ∀ i ∈ jobL d ps, 0 ≤ i ∧ i < d.items.length := fun i hi => (tk_iff.1 hD.tk).2.1 i (List.mem_filter.1 hi).1
theorem rjob2 (N : Nat) {d : Disorder} (hD : DOk d) (ps : List Pull) (hp : ps.length < N) (hp2 : ps.length ≤ 900) (w : Int) {t : Nat} {l : List Int} (hl : d.tracks[t]? = some l) (hll : l.length ≤ 1000) : ∀ (k m j : Nat) (J : List Item) (x10 : List Int) (out : List Item), k < m → j + k = l.length → x10.length + k ≤ 200000 → out.length + k ≤ 200000 →
    zcB_2 N ps d (t : Int) m (Job.mk J w) x10 (j : Int) out = some (Job.mk [] w, x10 ++ (l.drop j).filter (pulB ps), out ++ ((l.drop j).filter (pulB ps)).map (itI d))
  | k, 0, j, J, x10, out, h, _, _, _ => by omega
  | 0, m + 1, j, J, x10, out, h, hj, _, _ => by
    rw [zcB_2, getI_nat hl, bind_some', if_neg (by simp; omega), List.drop_of_length_le (by omega), List.filter_nil, List.append_nil, List.map_nil, List.append_nil]
  | k + 1, m + 1, j, J, x10, out, h, hj, ho, ho2 => by
    have hlt : j < l.length := by omega
    have hpos : posD d.tracks t j = some l[j] := by unfold posD; rw [hl]; exact at_lt hlt
    have hr := hD.tk.rg _ _ _ hpos
    have step : zcB_3 N ps d (Job.mk [] w) x10 (t : Int) (j : Int) out = some (Job.mk [] w, x10 ++ (if pulB ps l[j] = true then [l[j]] else []), out ++ (if pulB ps l[j] = true then [l[j]] else []).map (itI d)) := by
      unfold zcB_3
      rw [getI_nat hl, bind_some', getI_nat (at_lt hlt), bind_some', pulled_eq N ps _ hp (by omega), bind_some']
      cases pulB ps l[j] with
      | false => simp
      | true =>
        rw [if_pos rfl, itI_at hr, bind_some', appI_ok (by simp; omega), bind_some', appI_ok (by simp; omega), bind_some']
        simp
    have hone : (if pulB ps l[j] = true then [l[j]] else []).length ≤ 1 := by split <;> simp
    rw [zcB_2, getI_nat hl, bind_some', if_pos (by simp; omega)]
    simp only
    rw [step, bind_some', lt_def, w64s (by omega)]
    simp only
    rw [rjob2 N hD ps hp hp2 w hl hll k m (j + 1) _ _ _ (by omega) (by omega) (by rw [List.length_append]; omega) (by rw [List.length_append, List.length_map]; omega), drop_at (at_lt hlt), List.filter_cons, List.append_assoc, List.append_assoc]
    split <;> rfl
theorem rjob1 (N : Nat) (hN : 1000 ≤ N) {d : Disorder} (hD : DOk d) (ps : List Pull) (hp2 : ps.length ≤ 900) (w : Int) : ∀ (k m t : Nat) (J : List Item) (x10 : List Int) (out : List Item), k < m → t + k = d.tracks.length → x10.length + 1000 * k ≤ 100000 → out.length + 1000 * k ≤ 100000 →
    zcB_1 N ps d m (Job.mk J w) x10 (t : Int) out = some (Job.mk [] w, x10 ++ (d.tracks.drop t).flatten.filter (pulB ps), out ++ ((d.tracks.drop t).flatten.filter (pulB ps)).map (itI d))
  | k, 0, t, J, x10, out, h, _, _, _ => by omega
  | 0, m + 1, t, J, x10, out, h, ht, _, _ => by
    rw [zcB_1, if_neg (by simp; omega), List.drop_of_length_le (by omega)]; simp
  | k + 1, m + 1, t, J, x10, out, h, ht, ho, ho2 => by
    have hb := hD.lt
    have hlt : t < d.tracks.length := by omega
    have hll := trk_len hD _ (List.getElem_mem hlt)
    have e := rjob2 N hD ps (by omega) hp2 w (at_lt hlt) (by omega) d.tracks[t].length N 0 [] x10 out (by omega) (by omega) (by omega) (by omega)
    rw [List.drop_zero] at e
    have e : zcB_2 N ps d (t : Int) N (Job.mk [] w) x10 0 out = _ := e
    have hf : (d.tracks[t].filter (pulB ps)).length ≤ d.tracks[t].length := List.length_filter_le _ _
    rw [zcB_1, if_pos (by simp; omega)]
    simp only
    rw [e, bind_some', lt_def, w64s (by omega)]
    simp only
    rw [rjob1 N hN hD ps hp2 w k m (t + 1) _ _ _ (by omega) (by omega) (by rw [List.length_append]; omega) (by rw [List.length_append, List.length_map]; omega), drop_at (at_lt hlt), List.flatten_cons, List.filter_append, List.map_append, List.append_assoc, List.append_assoc]
end Go.W
end
section
set_option linter.unusedVariables false
set_option linter.unusedSimpArgs false
namespace Go.W
open Go.AM
theorem same_pulls (N : Nat) {l : List Pull} (hN : l.length < N) (hl : l.length ≤ 60000) : zaJ N l l = some true := by
  have loop : ∀ k n i : Nat, k < n → i + k = l.length → zaJ_0 N l l n (i : Int) = some (.inl ()) := by
    intro k
    induction k with
    | zero => intro n i hn hi; obtain ⟨n, rfl⟩ : ∃ m, n = m + 1 := ⟨n - 1, by omega⟩; rw [zaJ_0, if_neg (by simp; omega)]
    | succ k ih =>
      intro n i hn hi
      obtain ⟨n, rfl⟩ : ∃ m, n = m + 1 := ⟨n - 1, by omega⟩
      have hlt : i < l.length := by omega
      rw [zaJ_0, if_pos (by simp; omega), getI_nat (at_lt hlt), bind_some', bind_some', if_neg (by simp), lt_def, w64s (by omega)]
      exact ih n (i + 1) (by omega) (by omega)
  have h := loop l.length N 0 (by omega) (by omega)
  have h : zaJ_0 N l l N 0 = _ := h
  unfold zaJ
  rw [if_neg (by simp), h]; rfl
theorem same_ints (N : Nat) {l : List Int} (hN : l.length < N) (hl : l.length ≤ 60000) : zbW N l l = some true := by
  have loop : ∀ k n i : Nat, k < n → i + k = l.length → zbW_0 N l l n (i : Int) = some (.inl ()) := by
    intro k
    induction k with
    | zero => intro n i hn hi; obtain ⟨n, rfl⟩ : ∃ m, n = m + 1 := ⟨n - 1, by omega⟩; rw [zbW_0, if_neg (by simp; omega)]
    | succ k ih =>
      intro n i hn hi
      obtain ⟨n, rfl⟩ : ∃ m, n = m + 1 := ⟨n - 1, by omega⟩
      have hlt : i < l.length := by omega
      rw [zbW_0, if_pos (by simp; omega), getI_nat (at_lt hlt), bind_some', bind_some', if_neg (by simp), lt_def, w64s (by omega)]
      exact ih n (i + 1) (by omega) (by omega)
  have h := loop l.length N 0 (by omega) (by omega)
  have h : zbW_0 N l l N 0 = _ := h
  unfold zbW
  rw [if_neg (by simp), h]; rfl
theorem same_items (N : Nat) {l : List Item} (hN : l.length < N) (hl : l.length ≤ 60000) : zbK N l l = some true := by
  have loop : ∀ k n i : Nat, k < n → i + k = l.length → zbK_0 N l l n (i : Int) = some (.inl ()) := by
    intro k
    induction k with
    | zero => intro n i hn hi; obtain ⟨n, rfl⟩ : ∃ m, n = m + 1 := ⟨n - 1, by omega⟩; rw [zbK_0, if_neg (by simp; omega)]
    | succ k ih =>
      intro n i hn hi
      obtain ⟨n, rfl⟩ : ∃ m, n = m + 1 := ⟨n - 1, by omega⟩
      have hlt : i < l.length := by omega
      rw [zbK_0, if_pos (by simp; omega), getI_nat (at_lt hlt), bind_some', bind_some', if_neg (by simp), lt_def, w64s (by omega)]
      exact ih n (i + 1) (by omega) (by omega)
  have h := loop l.length N 0 (by omega) (by omega)
  have h : zbK_0 N l l N 0 = _ := h
  unfold zbK
  rw [if_neg (by simp), h]; rfl
theorem same_lists (N : Nat) {l : List (List Int)} (hN : l.length < N) (hl : l.length ≤ 60000) (hi : ∀ r ∈ l, r.length < N ∧ r.length ≤ 60000) : zbL N l l = some true := by
  have loop : ∀ k n i : Nat, k < n → i + k = l.length → zbL_0 N l l n (i : Int) = some (.inl ()) := by
    intro k
    induction k with
    | zero => intro n i hn hi; obtain ⟨n, rfl⟩ : ∃ m, n = m + 1 := ⟨n - 1, by omega⟩; rw [zbL_0, if_neg (by simp; omega)]
    | succ k ih =>
      intro n i hn hi'
      obtain ⟨n, rfl⟩ : ∃ m, n = m + 1 := ⟨n - 1, by omega⟩
      have hlt : i < l.length := by omega
      obtain ⟨r1, r2⟩ := hi _ (List.getElem_mem hlt)
      rw [zbL_0, if_pos (by simp; omega), getI_nat (at_lt hlt), bind_some', bind_some', same_ints N r1 r2, bind_some', if_neg (by simp), lt_def, w64s (by omega)]
      exact ih n (i + 1) (by omega) (by omega)
  have h := loop l.length N 0 (by omega) (by omega)
  have h : zbL_0 N l l N 0 = _ := h
  unfold zbL
  rw [if_neg (by simp), h]; rfl
theorem ex0 {d : Disorder} (hB : Bd d) {L : List Pull} (hL : L.length ≤ 900) (c : Int) (b : Bool) (z : Int) {rs : List (List Int)} (hrs : rs.length ≤ 900) (hr : ∀ r ∈ rs, r.length ≤ 900) (e : Int) {J : Job} (hJ : J.items.length ≤ 900) {xs : List Int} (hx : xs.length ≤ 900) (q : Int) :
    zbN_0 1000 d L c L c b z b z rs e rs e J xs q J xs q = some true := by
  obtain ⟨v, v1, v2, _⟩ := both_valid 1000 (by omega) hB
  unfold zbN_0
  rw [v1, bind_some', v2, bind_some', if_pos (by simp), same_pulls 1000 (by omega) (by omega), bind_some', if_pos rfl, if_pos (by simp), if_pos (by simp), if_pos (by simp),
    same_lists 1000 (by omega) (by omega) (fun r h => by have := hr r h; omega), bind_some', if_pos rfl, if_pos (by simp)]
  have hj : zaL 1000 J J = some true := by
    unfold zaL zaL_0
    rw [if_pos (by simp), same_items 1000 (by omega) (by omega), bind_some', bind_some']
  rw [hj, bind_some', if_pos rfl, same_ints 1000 (by omega) (by omega), bind_some', if_pos rfl, lt_def]
  simp
theorem exact_ok {d : Disorder} (hB : Bd d) {l : List Pull} (hl : l.length ≤ 900) (w : Int) : zbN 1000 d l w = some true := by
  obtain ⟨v, v1, v2, v3⟩ := both_valid 1000 (by omega) hB
  unfold zbN
  cases v with
  | false =>
    have p1 : zaS 1000 d = some ([], 1) := by unfold zaS; rw [v1]; rfl
    have p2 : zbP 1000 d = some ([], 1) := by unfold zbP; rw [v2]; rfl
    have c1 : zaR 1000 d l = some (false, 1) := by unfold zaR; rw [v1]; rfl
    have c2 : zbO 1000 d l = some (false, 1) := by unfold zbO; rw [v2]; rfl
    have s1 : zaZ 1000 d l = some ([], 1) := by unfold zaZ; rw [c1]; rfl
    have s2 : zbY 1000 d l = some ([], 1) := by unfold zbY; rw [v2]; rfl
    have j1 : zbI 1000 d l w = some (Job.mk [] 0, [], 1) := by unfold zbI; rw [c1]; rfl
    have j2 : zcB 1000 d l w = some (Job.mk [] 0, [], 1) := by unfold zcB; rw [v2]; rfl
    rw [p1, bind_some', p2, bind_some', c1, bind_some', c2, bind_some', s1, bind_some', s2, bind_some', j1, bind_some', j2, bind_some']
    simp only
    rw [ex0 hB (by simp) _ _ _ (by simp) (by simp) _ (by simp) (by simp), bind_some']
  | true =>
    have hD := v3.1 rfl
    have hli := hD.li
    obtain ⟨L, a, rd, p1, p2, hP⟩ := both_pulls 1000 (by omega) (by omega) hB hD
    have hA := hP.sc.at'
    obtain ⟨b, k1, k2⟩ := check_ok 1000 (by omega) hD hA l hl
    have k3 : zbR 1000 d l = some b := by rw [check_eq 1000 (by omega) hD l hl, k1]
    have c1 : zaR 1000 d l = some (b, 0) := by unfold zaR; rw [v1, bind_some', if_neg (by simp), k1]; rfl
    have c2 : zbO 1000 d l = some (b, 0) := by unfold zbO; rw [v2, bind_some', if_neg (by simp), k3]; rfl
    have hLl := hP.len
    have hw : zbI_0 1000 w = some (decide (w < 0 ∨ 12 < w)) := by
      unfold zbI_0
      by_cases h : w < 0
      · rw [if_pos (by simpa using h)]; simp [h]
      · rw [if_neg (by simpa using h), lt_def]; simp [h]
    have hw2 : zcB_0 1000 w = some (decide (w < 0 ∨ 12 < w)) := hw
    have trk : d.tracks.length ≤ 900 := by have := hD.lt; omega
    cases b with
    | false =>
      have s1 : zaZ 1000 d l = some ([], 17) := by unfold zaZ; rw [c1]; rfl
      have s2 : zbY 1000 d l = some ([], 17) := by unfold zbY; rw [v2, bind_some', if_neg (by simp), k3]; rfl
      have hj : ∃ q, zbI 1000 d l w = some (Job.mk [] 0, [], q) ∧ zcB 1000 d l w = some (Job.mk [] 0, [], q) := by
        by_cases h : w < 0 ∨ 12 < w
        · refine ⟨2, ?_, ?_⟩
          · unfold zbI
            rw [c1, bind_some', lt_def, if_neg (by simp), hw, bind_some', if_pos (decide_eq_true h)]
          · unfold zcB
            rw [v2, bind_some', lt_def, if_neg (by simp), hw2, bind_some', if_pos (decide_eq_true h)]
        · have hd : decide (w < 0 ∨ 12 < w) = false := decide_eq_false h
          rw [hd] at hw hw2
          refine ⟨17, ?_, ?_⟩
          · unfold zbI
            rw [c1, bind_some', lt_def, if_neg (by simp), hw, bind_some', if_neg (by simp), lt_def, if_pos (by simp)]
          · unfold zcB
            rw [v2, bind_some', lt_def, if_neg (by simp), hw2, bind_some', if_neg (by simp), k3, bind_some', lt_def, if_pos (by simp)]
      obtain ⟨q, j1, j2⟩ := hj
      rw [p1, bind_some', p2, bind_some', c1, bind_some', c2, bind_some', s1, bind_some', s2, bind_some', j1, bind_some', j2, bind_some']
      simp only
      rw [ex0 hB (by omega) _ _ _ (by simp) (by simp) _ (by simp) (by simp), bind_some']
    | true =>
      obtain ⟨rd', hP'⟩ := k2.1 rfl
      have hll := hP'.len
      have s1 := rest_ok 1000 (by omega) hD hP'
      have s2 : zbY 1000 d l = some (d.tracks.map (fun t => t.filter (kpB l true)), 0) := by
        unfold zbY
        have e := rrest0 1000 (by omega) hD l hl d.tracks.length 1000 0 [] (by omega) (by omega) (by simp; omega)
        rw [List.drop_zero, List.nil_append] at e
        have e : zbY_0 1000 l d 1000 [] 0 = _ := e
        rw [v2, bind_some', if_neg (by simp), k3, bind_some', if_neg (by simp), e, bind_some']
      have hjl := jobL_len hD l
      have hjr := jobL_rg hD l
      have hj : ∃ J xs q, zbI 1000 d l w = some (J, xs, q) ∧ zcB 1000 d l w = some (J, xs, q) ∧ J.items.length ≤ 900 ∧ xs.length ≤ 900 := by
        by_cases h : w < 0 ∨ 12 < w
        · refine ⟨Job.mk [] 0, [], 2, ?_, ?_, by simp, by simp⟩
          · unfold zbI
            rw [c1, bind_some', lt_def, if_neg (by simp), hw, bind_some', if_pos (decide_eq_true h)]
          · unfold zcB
            rw [v2, bind_some', lt_def, if_neg (by simp), hw2, bind_some', if_pos (decide_eq_true h)]
        · have e1 := concat_ok 1000 (by omega) (d.tracks.map fun t => t.filter (kpB l false)) (by rw [List.length_map]; exact trk) (fun t ht => by
            obtain ⟨u, hu, rfl⟩ := List.mem_map.1 ht
            have := trk_len hD u hu
            have h2 : (u.filter (kpB l false)).length ≤ u.length := List.length_filter_le _ _
            omega)
          have e2 : (d.tracks.map fun t => t.filter (kpB l false)).flatten = jobL d l := by
            rw [flat_filter]
            unfold jobL
            congr 1
            funext x
            exact kp_f l x
          rw [e2] at e1
          have e3 := job1 1000 (d := d) (jobL d l) (by omega) hjr w (jobL d l).length 1000 0 [] [] (by omega) (by omega) (by simp; omega)
          rw [List.drop_zero, List.nil_append] at e3
          have e3 : zbI_1 1000 d (jobL d l) ((jobL d l).length : Int) 1000 (Job.mk [] w) 0 [] = _ := e3
          have e4 := jval 1000 (Job.mk ((jobL d l).map (itI d)) w) (by simp; omega) (by omega) (by simp only; omega) (fun x hx => by
            obtain ⟨i, hi, rfl⟩ := List.mem_map.1 hx
            obtain ⟨r1, r2⟩ := hjr i hi
            have hlt : i.toNat < d.items.length := by omega
            have hh := hD.it _ (itm_mem hlt)
            have hlh := hD.lh
            unfold itI
            refine ⟨hh.1, by omega, hh.2.2.1, hh.2.2.2.1, hh.2.2.2.2.1, hh.2.2.2.2.2.1, hh.2.2.2.2.2.2⟩)
          have e5 := rjob1 1000 (by omega) hD l hl w d.tracks.length 1000 0 [] [] [] (by have := hD.lt; omega) (by omega) (by have := hD.lt; simp; omega) (by have := hD.lt; simp; omega)
          rw [List.drop_zero, List.nil_append, List.nil_append] at e5
          have e5 : zcB_1 1000 l d 1000 (Job.mk [] w) [] 0 [] = some (Job.mk [] w, jobL d l, (jobL d l).map (itI d)) := e5
          have hd : decide (w < 0 ∨ 12 < w) = false := decide_eq_false h
          rw [hd] at hw hw2
          refine ⟨Job.mk ((jobL d l).map (itI d)) w, jobL d l, 0, ?_, ?_, by simp; omega, by omega⟩
          · unfold zbI
            rw [c1, bind_some', lt_def, if_neg (by simp), hw, bind_some', if_neg (by simp), lt_def, if_neg (by simp), split_ok 1000 (by omega) hD l hl false, bind_some']
            simp only [List.map_id']
            rw [e1, bind_some', e3, bind_some']
            simp only
            rw [e4, bind_some', if_neg (by simp)]
          · unfold zcB
            rw [v2, bind_some', lt_def, if_neg (by simp), hw2, bind_some', if_neg (by simp), k3, bind_some', lt_def, if_neg (by simp), e5, bind_some']
      obtain ⟨J, xs, q, j1, j2, j3, j4⟩ := hj
      rw [p1, bind_some', p2, bind_some', c1, bind_some', c2, bind_some', s1, bind_some', s2, bind_some', j1, bind_some', j2, bind_some']
      simp only
      rw [ex0 hB (by omega) _ _ _ (by rw [List.length_map]; exact trk) (fun r hr => by
        obtain ⟨u, hu, rfl⟩ := List.mem_map.1 hr
        have := trk_len hD u hu
        have h2 : (u.filter (kpB l true)).length ≤ u.length := List.length_filter_le _ _
        omega) _ j3 j4, bind_some']
theorem spo0 (N : Nat) {ts : List (List Int)} (hts : ts.length ≤ 900) (hl : ∀ l ∈ ts, l.length ≤ 900) (d0 : Disorder) (hd : d0.tracks = ts) : ∀ (k m t : Nat) (out : List (List Int)), k < m → t + k = ts.length → out.length + k ≤ 2000 →
    zaE_0 N d0 m out (t : Int) = some (out ++ ts.drop t)
  | k, 0, t, out, h, _, _ => by omega
  | 0, m + 1, t, out, h, ht, ho => by
    rw [zaE_0, hd, if_neg (by simp; omega), List.drop_of_length_le (by omega), List.append_nil]
  | k + 1, m + 1, t, out, h, ht, ho => by
    have hlt : t < ts.length := by omega
    have hll := hl _ (List.getElem_mem hlt)
    have e : (([[]] : List (List Int)).set ((0 : Int).toNat) ts[t]) = [ts[t]] := rfl
    rw [zaE_0, hd, if_pos (by simp; omega), getI_nat (at_lt hlt), bind_some', appI_ok (by simp; omega), bind_some', List.nil_append, e, appI_ok (by simp; omega), bind_some', lt_def, w64s (by omega), spo0 N hts hl d0 hd k m (t + 1) _ (by omega) (by omega) (by simp; omega), drop_at (at_lt hlt), List.append_assoc]
    rfl
theorem spoil_bd (N : Nat) (hN : 1000 ≤ N) {d : Disorder} (hD : DOk d) (h1 : 1 ≤ d.homes.length) (h2 : 1 ≤ d.tracks.length) {c : Int} (hc : c ≤ 1000000) {s : Maker} (hs : Mk c s) : ∃ d' s', zaE N s d = some (d', s') ∧ Bd d' ∧ Mk (c + 10) s' := by
  have hli := hD.li
  have hlh := hD.lh
  have hlt := hD.lt
  have htl := trk_len hD
  unfold zaE
  have e0 := spo0 N (ts := d.tracks) (by omega) (fun l hl => by have := htl l hl; omega) (Disorder.mk [] [] d.tracks) rfl d.tracks.length N 0 [] (by omega) (by omega) (by simp; omega)
  rw [List.drop_zero, List.nil_append] at e0
  have e0 : zaE_0 N (Disorder.mk [] [] d.tracks) N [] 0 = _ := e0
  rw [appI_ok (by simp; omega), bind_some', appI_ok (by simp; omega), bind_some', e0, bind_some', List.nil_append, List.nil_append]
  obtain ⟨r, k1, n1, a1, a2, m1⟩ := next_ok N 6 (by omega) (by omega) hs (by omega)
  rw [n1, bind_some']
  simp only
  have key : ∃ k' D hs' its ts, zaE_1 N k1 r d.items d.homes d.tracks = some (k', D, its, hs', ts) ∧ Mk (c + 10) k' ∧ its.length ≤ 110 ∧ hs'.length ≤ 30 ∧ ts.length ≤ 40 ∧ ∀ l ∈ ts, l.length ≤ 120 := by
    have htl2 : ∀ l ∈ d.tracks, l.length ≤ 120 := fun l hl => by have := htl l hl; omega
    have g0 := at_lt (xs := d.homes) (i := 0) (by omega)
    have g0 : getI d.homes 0 = some d.homes[0] := getI_nat g0
    have t0 := at_lt (xs := d.tracks) (i := 0) (by omega)
    have t0 : getI d.tracks 0 = some d.tracks[0] := getI_nat t0
    unfold zaE_1
    rw [lt_def]
    by_cases c0 : (r == 0) = true
    · rw [if_pos c0]
      obtain ⟨x, k2, p1, _, m2⟩ := pick_ok N [(-1), (d.tracks.length : Int), 0] (by simp) (by simp) m1 (by omega)
      rw [p1, bind_some', g0, bind_some', bind_some', lt_def]
      exact ⟨_, _, _, _, _, rfl, m2.le (by omega), by omega, by simp; omega, by omega, htl2⟩
    rw [if_neg c0, lt_def]
    by_cases c1 : (r == 1) = true
    · rw [if_pos c1, g0, bind_some', bind_some', appI_ok (by simp; omega), bind_some']
      exact ⟨_, _, _, _, _, rfl, m1.le (by omega), by omega, by simp; omega, by omega, htl2⟩
    rw [if_neg c1, lt_def]
    by_cases c2 : (r == 2) = true
    · have hl0 := htl _ (List.getElem_mem (show 0 < d.tracks.length by omega))
      obtain ⟨x, k2, p1, _, m2⟩ := pick_ok N [0, (-1), (d.items.length : Int)] (by simp) (by simp) m1 (by omega)
      rw [if_pos c2, t0, bind_some', bind_some', p1, bind_some', appI_ok (by simp; omega), bind_some', bind_some', if_pos rfl, bind_some']
      refine ⟨_, _, _, _, _, rfl, m2.le (by omega), by omega, by omega, by simp; omega, fun l hl => ?_⟩
      rcases mem_set hl with rfl | hl
      · simp; omega
      · exact htl2 l hl
    rw [if_neg c2, lt_def]
    by_cases c3 : (r == 3) = true
    · rw [if_pos c3]
      by_cases hz : 0 < (d.items.length : Int)
      · have i0 := at_lt (xs := d.items) (i := 0) (by omega)
        have i0 : getI d.items 0 = some d.items[0] := getI_nat i0
        obtain ⟨x, k2, p1, _, m2⟩ := pick_ok N [0, 1] (by simp) (by simp) m1 (by omega)
        obtain ⟨y, k3, p2, _, m3⟩ := pick_ok N [0, (-1), (d.homes.length : Int)] (by simp) (by simp) m2 (by omega)
        rw [if_pos (by simpa using hz), p1, bind_some', i0, bind_some', bind_some', lt_def]
        simp only
        have i1 := at_lt (xs := d.items.set (0 : Int).toNat (Item.mk d.items[0].train d.items[0].block x d.items[0].length)) (i := 0) (by rw [List.length_set]; omega)
        have i1 := getI_nat i1
        have i1 : getI (d.items.set (0 : Int).toNat (Item.mk d.items[0].train d.items[0].block x d.items[0].length)) 0 = _ := i1
        rw [p2, bind_some', i1, bind_some', bind_some', lt_def]
        exact ⟨_, _, _, _, _, rfl, m3.le (by omega), by simp; omega, by omega, by omega, htl2⟩
      · rw [if_neg (by simpa using hz)]
        exact ⟨_, _, _, _, _, rfl, m1.le (by omega), by omega, by omega, by omega, htl2⟩
    rw [if_neg c3, lt_def]
    by_cases c4 : (r == 4) = true
    · rw [if_pos c4, appI_ok (by simp; omega), bind_some']
      exact ⟨_, _, _, _, _, rfl, m1.le (by omega), by simp; omega, by omega, by omega, htl2⟩
    · rw [if_neg c4]
      exact ⟨_, _, _, _, _, rfl, m1.le (by omega), by omega, by omega, by omega, htl2⟩
  obtain ⟨k', D, hs', its, ts, e1, mk, b1, b2, b3, b4⟩ := key
  rw [e1, bind_some']
  simp only [List.map_id']
  exact ⟨_, _, rfl, ⟨b1, b2, b3, b4⟩, mk⟩
theorem DOk.bd {d : Disorder} (hD : DOk d) : Bd d := ⟨by have := hD.li; omega, by have := hD.lh; omega, by have := hD.lt; omega, fun l hl => by have := trk_len hD l hl; omega⟩
theorem ex2 (N : Nat) {d : Disorder} {c : Int} (hc : c ≤ 1000000) {s : Maker} (hs : Mk c s) (l : List Pull) (hl : l.length ≤ 900) (b : Bool) (hb : b = true → 0 < l.length) : ∃ s' l', zaN_2 N s d l b = some (s', l') ∧ Mk (c + 10) s' ∧ l'.length = l.length := by
  unfold zaN_2
  cases b with
  | false => exact ⟨s, l, rfl, hs.le (by omega), rfl⟩
  | true =>
    have hb := hb rfl
    obtain ⟨r, k1, n1, a1, a2, m1⟩ := next_ok N (l.length : Int) (by omega) (by omega) hs (by omega)
    obtain ⟨j, rfl⟩ := Int.eq_ofNat_of_zero_le a1
    have hj : j < l.length := by omega
    have gs : ∀ (l' : List Pull), l'.length = l.length → ∃ p, getI l' (j : Int) = some p := fun l' h => ⟨_, getI_nat (at_lt (by omega))⟩
    have gz : ∀ (l' : List Pull), l'.length = l.length → ∃ p, getI l' 0 = some p := fun l' h => by
      have := getI_nat (at_lt (xs := l') (i := 0) (by omega))
      exact ⟨_, this⟩
    rw [if_pos rfl, n1, bind_some']
    simp only
    obtain ⟨p, e1⟩ := gs l rfl
    obtain ⟨x1, k2, p1, _, m2⟩ := pick_ok N [p.reason, 0, 1, 2, 3] (by simp) (by simp) m1 (by omega)
    obtain ⟨x2, k3, p2, _, m3⟩ := pick_ok N [p.because, (-1), 0, 1, (d.items.length : Int)] (by simp) (by simp) m2 (by omega)
    obtain ⟨x3, k4, p3, _, m4⟩ := pick_ok N [p.round, (IntKind.wrap .i64 (p.round + 1)), 0, (-1)] (by simp) (by simp) m3 (by omega)
    rw [e1, bind_some', bind_some', p1, bind_some', bind_some']
    simp only
    rw [p2, bind_some', bind_some', bind_some']
    simp only
    rw [p3, bind_some', bind_some', lt_def]
    simp only
    generalize hl1 : l.set (j : Int).toNat (Pull.mk p.item x1 p.because p.round) = l1
    have n1 : l1.length = l.length := by rw [← hl1, List.length_set]
    obtain ⟨q1, e2⟩ := gs l1 n1
    rw [e2, bind_some', lt_def]
    generalize hl2 : l1.set (j : Int).toNat (Pull.mk q1.item q1.reason x2 q1.round) = l2
    have n2 : l2.length = l.length := by rw [← hl2, List.length_set, n1]
    obtain ⟨q2, e3⟩ := gs l2 n2
    rw [e3, bind_some', lt_def]
    generalize hl3 : l2.set (j : Int).toNat (Pull.mk q2.item q2.reason q2.because x3) = l3
    have n3 : l3.length = l.length := by rw [← hl3, List.length_set, n2]
    obtain ⟨q3, e4⟩ := gs l3 n3
    obtain ⟨q4, e5⟩ := gz l3 n3
    obtain ⟨x4, k5, p4, _, m5⟩ := pick_ok N [q3.item, q4.item, (-1)] (by simp) (by simp) m4 (by omega)
    rw [e4, bind_some', e5, bind_some', bind_some', p4, bind_some', bind_some', lt_def]
    exact ⟨_, _, rfl, m5.le (by omega), by rw [List.length_set, n3]⟩
theorem ex5 (N : Nat) : ∀ (k m i : Nat) (l : List Pull), k < m → i + k = l.length → l.length ≤ 1000 → ∃ l', zaN_5 N m l (i : Int) = some l' ∧ l'.length = l.length
  | k, 0, i, l, h, _, _ => by omega
  | 0, m + 1, i, l, h, hi, hl => by
    rw [zaN_5, if_neg (by simp; omega)]
    exact ⟨l, rfl, rfl⟩
  | k + 1, m + 1, i, l, h, hi, hl => by
    have hlt : i < l.length := by omega
    rw [zaN_5, if_pos (by simp; omega), getI_nat (at_lt hlt), bind_some', bind_some', bind_some', bind_some', lt_def, lt_def, w64s (by omega)]
    obtain ⟨l', h1, h2⟩ := ex5 N k m (i + 1) (l.set (i : Int).toNat (Pull.mk l[i].item l[i].reason l[i].because (IntKind.wrap .i64 (l[i].round * 2)))) (by omega) (by rw [List.length_set]; omega) (by rw [List.length_set]; omega)
    exact ⟨l', h1, by rw [h2, List.length_set]⟩
theorem ex0loop (x2 : List Pull) (x3 : Int) : ∀ (k m i : Nat) (s : Maker), k < m → i + k = 4 → Mk (2000 * i) s → zaN_0 1000 x2 x3 m s (i : Int) = some (.inl ())
  | k, 0, i, s, h, _, _ => by omega
  | 0, m + 1, i, s, h, hi, hs => by
    rw [zaN_0, if_neg (by simp; omega)]
  | k + 1, m + 1, i, s, h, hi, hs => by
    obtain ⟨d, s1, e1, hD, m1, q1, q2, q3⟩ := made_dis2 1000 (by omega) (c := 2000 * i) (by omega) hs 12 (by omega)
    obtain ⟨L, a, rd, _, e2, hP⟩ := both_pulls 1000 (by omega) (by omega) hD.bd hD
    have hLl := hP.len
    have hli := hD.li
    have e3 : ∃ b, zaN_1 1000 (i : Int) L = some b ∧ (b = true → 0 < L.length) := by
      unfold zaN_1
      split
      · exact ⟨_, rfl, fun h => by simpa using h⟩
      · exact ⟨false, rfl, fun h => by cases h⟩
    obtain ⟨b, e3, hb⟩ := e3
    obtain ⟨s2, l2, e4, m2, hl2⟩ := ex2 1000 (d := d) (by omega) m1 L (by omega) b hb
    have e5 : ∃ s3 d3, zaN_3 1000 s2 d ((i : Int) == 2) = some (s3, d3) ∧ Bd d3 ∧ Mk (2000 * i + 1000 + 10 + 10) s3 := by
      unfold zaN_3
      split
      · obtain ⟨d3, s3, f1, f2, f3⟩ := spoil_bd 1000 (by omega) hD q2 q3 (by omega) m2
        rw [f1, bind_some']
        exact ⟨_, _, rfl, f2, f3⟩
      · exact ⟨_, _, rfl, hD.bd, m2.le (by omega)⟩
    obtain ⟨s3, d3, e5, hB, m3⟩ := e5
    have e6 : ∃ l3, zaN_4 1000 l2 ((i : Int) == 3) = some l3 ∧ l3.length ≤ 900 := by
      unfold zaN_4
      split
      · obtain ⟨l3, f1, f2⟩ := ex5 1000 l2.length 1000 0 l2 (by omega) (by omega) (by omega)
        have f1 : zaN_5 1000 1000 l2 0 = _ := f1
        rw [f1, bind_some']
        exact ⟨_, rfl, by omega⟩
      · exact ⟨_, rfl, by omega⟩
    obtain ⟨l3, e6, hl3⟩ := e6
    obtain ⟨w, s4, p1, _, m4⟩ := pick_ok 1000 [0, 12, 12, 13, (-1)] (by simp) (by simp) m3 (by omega)
    have e7 : zaN_6 1000 x2 x3 s3 d3 l3 = some (s4, false) := by
      unfold zaN_6
      rw [p1, bind_some']
      simp only
      rw [exact_ok hB hl3, bind_some', if_neg (by simp)]
      by_cases hx : (x2.length : Int) < 100
      · rw [if_pos (by simpa using hx), exact_ok hB (by omega), bind_some']; rfl
      · rw [if_neg (by simpa using hx)]
    rw [zaN_0, if_pos (by simp; omega), e1, bind_some']
    simp only
    rw [e2, bind_some']
    simp only
    rw [e3, bind_some', e4, bind_some']
    simp only
    rw [e5, bind_some', e6, bind_some']
    simp only
    rw [e7, bind_some', if_neg (by simp), lt_def, w64s (by omega)]
    exact ex0loop x2 x3 k m (i + 1) s4 (by omega) (by omega) (m4.le (by omega))
theorem ex8 {d : Disorder} (hd : d.tracks.length ≤ 40) : ∀ (k m t : Nat), k < m → t + k = d.tracks.length → (zaN_8 1000 d m (t : Int) = some (.inr true)) ∨ (zaN_8 1000 d m (t : Int) = some (.inl ()) ∧ ∀ j l, t ≤ j → d.tracks[j]? = some l → l.length ≤ 120)
  | k, 0, t, h, _ => by omega
  | 0, m + 1, t, h, ht => by
    rw [zaN_8, if_neg (by simp; omega)]
    refine .inr ⟨rfl, fun j l hj hl => ?_⟩
    have := (List.getElem?_eq_some_iff.1 hl).1
    omega
  | k + 1, m + 1, t, h, ht => by
    have hlt : t < d.tracks.length := by omega
    rw [zaN_8, if_pos (by simp; omega), getI_nat (at_lt hlt), bind_some']
    by_cases hx : 120 < (d.tracks[t].length : Int)
    · rw [if_pos (by simpa using hx), sane33, bind_some']
      exact .inl rfl
    · rw [if_neg (by simpa using hx), lt_def, w64s (by omega)]
      rcases ex8 hd k m (t + 1) (by omega) (by omega) with h1 | ⟨h1, h2⟩
      · exact .inl h1
      · refine .inr ⟨h1, fun j l hj hl => ?_⟩
        by_cases hjt : j = t
        · subst hjt
          rw [at_lt hlt] at hl
          cases hl
          omega
        · exact h2 j l (by omega) hl
theorem rexactT33 : ∀ (t : List Int) (d : Disorder) (l : List Pull) (w : Int), ∃ N, zaN N t d l w = some true := by
  intro t d l w
  refine ⟨1000, ?_⟩
  unfold zaN zcA
  have e0 := ex0loop l w 4 1000 0 (Maker.mk t 0) (by omega) (by omega) (by simpa using mk0 t)
  have e0 : zaN_0 1000 l w 1000 (Maker.mk t 0) 0 = _ := e0
  rw [bind_some', e0, bind_some']
  simp only
  have e7 : ∃ b, zaN_7 1000 l d = some b ∧ (b = false → d.items.length ≤ 110 ∧ d.homes.length ≤ 30 ∧ d.tracks.length ≤ 40 ∧ l.length ≤ 100) := by
    unfold zaN_7
    by_cases h1 : 110 < (d.items.length : Int)
    · rw [if_pos (by simpa using h1)]; exact ⟨true, rfl, fun h => by cases h⟩
    rw [if_neg (by simpa using h1)]
    by_cases h2 : 30 < (d.homes.length : Int)
    · rw [if_pos (by simpa using h2)]; exact ⟨true, rfl, fun h => by cases h⟩
    rw [if_neg (by simpa using h2)]
    by_cases h3 : 40 < (d.tracks.length : Int)
    · rw [if_pos (by simpa using h3)]; exact ⟨true, rfl, fun h => by cases h⟩
    rw [if_neg (by simpa using h3)]
    refine ⟨_, rfl, fun h => ?_⟩
    rw [decide_eq_false_iff_not] at h
    omega
  obtain ⟨b, e7, hb⟩ := e7
  rw [e7, bind_some']
  cases b with
  | true => rw [if_pos rfl, sane33, bind_some']
  | false =>
    obtain ⟨b1, b2, b3, b4⟩ := hb rfl
    rw [if_neg (by simp)]
    rcases ex8 b3 d.tracks.length 1000 0 (by omega) (by omega) with h | ⟨h, hh⟩
    · have h : zaN_8 1000 d 1000 0 = _ := h
      rw [h, bind_some']
    · have h : zaN_8 1000 d 1000 0 = _ := h
      rw [h, bind_some']
      simp only
      have hB : Bd d := ⟨b1, b2, b3, fun r hr => by
        obtain ⟨j, hj, rfl⟩ := List.mem_iff_getElem.1 hr
        exact hh j _ (Nat.zero_le _) (at_lt hj)⟩
      have e9 : zaN_9 1000 l w d = some true := by
        unfold zaN_9
        rw [exact_ok hB (by omega), bind_some', if_pos rfl, sane33, bind_some']
      rw [e9, bind_some']
end Go.W
end
