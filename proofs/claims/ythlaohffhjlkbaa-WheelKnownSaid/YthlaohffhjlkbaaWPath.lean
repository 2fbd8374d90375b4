/- Recognize: both hand back the same, and what that is. -/
import Derived.Test.YthlaohffhjlkbaaWFill
set_option linter.unusedVariables false
set_option linter.unusedSimpArgs false
namespace Go.W
open Go.AM

section
variable {d : List Int} {p : List (List Int)} {tol : Int}

/-- The choices along the cheapest division, from 'k' rows before the end on. -/
def picks (tol : Int) (p : List (List Int)) (d : List Int) : Nat → Nat → List Int
  | 0, _ => []
  | _ + 1, 0 => []
  | n + 1, k + 1 => match (tabN tol p d (k + 1)).head? with
    | some c => c.2 :: picks tol p d n (k - ((p[c.2.toNat]?).map List.length).getD 0)
    | none => []

theorem tab_drop : ∀ (k i : Nat), i ≤ k → (tabN tol p d k).drop i = tabN tol p d (k - i)
  | k, 0, _ => by simp
  | 0, i + 1, h => by omega
  | k + 1, i + 1, h => by
    rw [show k + 1 - (i + 1) = k - i by omega, ← tab_drop k i (by omega)]
    rfl
theorem tab_get (n i : Nat) (h : i ≤ n) : (tabN tol p d n)[i]? = (tabN tol p d (n - i)).head? := by
  rw [← tab_drop n i h, List.head?_drop]

theorem head_some (k : Nat) : ∃ c, (tabN tol p d k).head? = some c := by
  have := tabN_len (tol := tol) (p := p) (d := d) k
  cases h : tabN tol p d k with
  | nil => simp [h] at this
  | cons c l => exact ⟨c, rfl⟩

/-- A row that has a division: its choice, and where it leads. -/
theorem row_ok (F : Fine d p) {k : Nat} (hk : k ≤ d.length) {c : Int × Int} (hc : (tabN tol p d (k + 1)).head? = some c) (h0 : 0 ≤ c.1) :
    ∃ (j : Nat) (q : List Int) (f : Int) (c' : Int × Int), p[j]? = some q ∧ c.2 = j ∧ fit tol q (d.drop (d.length - k)) = some f ∧ 0 ≤ f ∧ q.length ≤ k ∧ (tabN tol p d (k - q.length)).head? = some c' ∧ 0 ≤ c'.1 ∧ c.1 = f + c'.1 := by
  have hr := tab_row (tol := tol) F k hk
  simp only [tabN, List.head?_cons, Option.some.injEq] at hc
  rw [hc] at hr
  rcases hr with rfl | ⟨j, q, f, c', h1, h2, h3, h4, h5, rfl⟩
  · simp at h0
  · have hl := fit_len h2
    rw [List.length_drop] at hl
    have hl' : q.length ≤ k := by omega
    rw [tab_get k q.length hl'] at h3
    exact ⟨j, q, f, c', h1, rfl, h2, h5, hl', h3, h4, rfl⟩

theorem path_loop (M : Nat) (F : Fine d p) : ∀ (n k fuel : Nat) (out : List Int) (c : Int × Int), k ≤ n → n < fuel → k ≤ d.length + 1 → out.length + k ≤ d.length + 1 → (tabN tol p d k).head? = some c → 0 ≤ c.1 →
    wheel_Recognize_5 M p ((d.length : Int) + 1) ((tabN tol p d (d.length + 1)).map Prod.snd) fuel out ((d.length : Int) + 1 - k) = some (out ++ picks tol p d n k) ∧
    r07_Recognize_12 M p ((d.length : Int) + 1) ((tabN tol p d (d.length + 1)).map fun c => max c.2 0) fuel out ((d.length : Int) + 1 - k) = some (out ++ picks tol p d n k)
  | n, k, 0, out, c, hkn, hf, _, _, _, _ => by omega
  | n, 0, fuel + 1, out, c, hkn, hf, _, _, _, _ => by
    rw [wheel_Recognize_5, r07_Recognize_12, if_neg (by simp), if_neg (by simp)]
    cases n <;> simp [picks]
  | 0, k + 1, fuel + 1, out, c, hkn, hf, _, _, _, _ => by omega
  | n + 1, k + 1, fuel + 1, out, c, hkn, hf, hk, ho, hc, h0 => by
    have hdl := F.dl
    obtain ⟨j, q, f, c', h1, h2, h3, h4, h5, h6, h7, h8⟩ := row_ok F (by omega) hc h0
    have hq := (F.p q (List.mem_of_getElem? h1)).1
    have hat : (d.length : Int) + 1 - ((k + 1 : Nat) : Int) = ((d.length - k : Nat) : Int) := by omega
    have hrow : (tabN tol p d (d.length + 1))[d.length - k]? = some c := by
      rw [tab_get _ _ (by omega), show d.length + 1 - (d.length - k) = k + 1 by omega]; exact hc
    have g1 : getI ((tabN tol p d (d.length + 1)).map Prod.snd) ((d.length - k : Nat) : Int) = some (j : Int) := wgetI_nat (by simp [hrow, h2])
    have g2 : getI ((tabN tol p d (d.length + 1)).map fun c => max c.2 0) ((d.length - k : Nat) : Int) = some (j : Int) := wgetI_nat (by simp [hrow, h2])
    have g3 : appI out [(j : Int)] = some (out ++ [(j : Int)]) := by simp [appI, LIM]; omega
    have g4 : getI p (j : Int) = some q := wgetI_nat h1
    have e : IntKind.wrap .i64 (((d.length - k : Nat) : Int) + IntKind.wrap .i64 ((q.length : Int) + 1)) = (d.length : Int) + 1 - ((k - q.length : Nat) : Int) := by
      rw [w64 (n := (q.length : Int) + 1) (by omega) (by omega), w64 (by omega) (by omega)]; omega
    obtain ⟨i1, i2⟩ := path_loop M F n (k - q.length) fuel (out ++ [(j : Int)]) c' (by omega) (by omega) (by omega) (by simp; omega) h6 h7
    have hp : picks tol p d (n + 1) (k + 1) = (j : Int) :: picks tol p d n (k - q.length) := by
      simp only [picks, hc, h2, Int.toNat_natCast, h1, Option.map_some, Option.getD_some]
    rw [hat, wheel_Recognize_5, r07_Recognize_12, if_pos (by simp; omega), if_pos (by simp; omega), g1, g2]
    simp only [bind_some', g3, g1, g2, g4, lt_def, e, hp]
    rw [i1, i2]
    simp

/-- What Recognize answers. -/
def recog (d : List Int) (p : List (List Int)) (tol : Int) : List Int × Int × Int :=
  if chk d p tol = 0 then
    match (tabN tol p d (d.length + 1)).head? with
    | some c => if c.1 < 0 then ([], 0, 15) else (picks tol p d (d.length + 1) (d.length + 1), c.1, 0)
    | none => ([], 0, 15)
  else ([], 0, chk d p tol)

theorem fine_of (h : chk d p tol = 0) : Fine d p ∧ 0 ≤ tol ∧ tol ≤ 10000 := by
  unfold chk at h
  split at h
  · cases h
  · rename_i h1
    split at h
    · cases h
    · rename_i h2
      split at h
      · rename_i h3
        simp only [Bool.and_eq_true, decide_eq_true_eq, List.all_eq_true] at h3
        obtain ⟨⟨h3, h4⟩, h5⟩ := h3
        exact ⟨⟨by omega, by omega, fun x hx => inR_iff.1 (h4 x hx), fun q hq => ⟨any_false h2 q hq, fun x hx => inR_iff.1 (h5 q hq x hx)⟩⟩, h3.1, h3.2⟩
      · cases h
theorem chk_or : chk d p tol = 0 ∨ chk d p tol = 2 ∨ chk d p tol = 3 := by
  unfold chk
  split
  · simp
  · split
    · simp
    · split <;> simp

theorem head_zero (k : Nat) {c : Int × Int} (h : (tabN tol p d k).head? = some c) {f : Int × Int → Int} : ((tabN tol p d k).map f)[0]? = some (f c) := by
  rw [List.getElem?_map, ← List.head?_eq_getElem?, h]; rfl

theorem recognize_ok (N : Nat) (hN : 800 ≤ N) (d : List Int) (p : List (List Int)) (tol : Int) : wheel_Recognize N d p tol = some (recog d p tol) := by
  unfold wheel_Recognize recog
  rw [check_ok N hN, bind_some']
  by_cases h : chk d p tol = 0
  · obtain ⟨F, _, _⟩ := fine_of h
    have hdl := F.dl
    obtain ⟨M, rfl⟩ : ∃ M, N = M + 60 := ⟨N - 60, by omega⟩
    obtain ⟨c, hc⟩ := head_some (tol := tol) (p := p) (d := d) (d.length + 1)
    have e1 : IntKind.wrap .i64 ((d.length : Int) + 1) = (d.length : Int) + 1 := w64 (by omega) (by omega)
    have e2 : IntKind.wrap .i64 ((d.length : Int) + 1 + 1) = (d.length : Int) + 2 := by rw [w64 (by omega) (by omega)]; omega
    have e3 : IntKind.wrap .i64 ((d.length : Int) + 1 - 1) = (d.length : Int) := by rw [w64 (by omega) (by omega)]; omega
    have hm : mkI (0 : Int) ((d.length : Int) + 2) = some (List.replicate (d.length + 2) 0) := by
      unfold mkI
      rw [if_pos (by omega)]
      congr 2
    have ho := outer_loop M (tol := tol) F (d.length + 1) (M + 60) 0 (by omega) (by omega)
    have hcol : ∀ f : Int × Int → Int, f (0, 0) = 0 → List.replicate (d.length + 1 - 0) 0 ++ (tabN tol p d 0).map f = List.replicate (d.length + 2) (0 : Int) := by
      intro f hf
      simp only [tabN, List.map_cons, List.map_nil, hf, Nat.sub_zero]
      rw [show d.length + 2 = d.length + 1 + 1 from rfl, List.replicate_succ' (n := d.length + 1)]
    simp only [colA, colB] at ho
    rw [hcol _ rfl, hcol _ rfl] at ho
    simp only [Int.natCast_zero, Int.sub_zero] at ho
    rw [if_neg (by simp [h]), if_pos h, hc, lt_def, e1, e2, hm, bind_some', bind_some', lt_def, e3, ho, bind_some']
    simp only []
    have g := wgetI_nat (head_zero (d.length + 1) hc (f := Prod.fst))
    simp only [Int.natCast_zero] at g
    rw [g, bind_some']
    by_cases hneg : c.1 < 0
    · rw [if_pos (by simpa using hneg), if_pos hneg]
    · rw [if_neg (by simpa using hneg), if_neg hneg]
      have hp := (path_loop (M + 60) F (d.length + 1) (d.length + 1) (M + 60) [] c (by omega) (by omega) (by omega) (by simp) hc (by omega)).1
      rw [show (d.length : Int) + 1 - ((d.length + 1 : Nat) : Int) = 0 by omega] at hp
      rw [hp, bind_some', bind_some']
      rfl
  · rw [if_pos (by simpa using h), if_neg h]

theorem ref_recognize_ok (N : Nat) (hN : 800 ≤ N) (d : List Int) (p : List (List Int)) (tol : Int) : r07_Recognize N d p tol = some (recog d p tol) := by
  unfold r07_Recognize recog
  have h0 : r07_Recognize_0 N d p = some (decide (768 < d.length ∨ 16 < p.length)) := by
    unfold r07_Recognize_0
    by_cases h1 : 768 < d.length
    · rw [if_pos (by simp; omega)]; simp [h1]
    · rw [if_neg (by simp; omega)]; simp only [h1, false_or]; congr 1; simp only [decide_eq_decide]; omega
  rw [h0, bind_some']
  by_cases h1 : 768 < d.length ∨ 16 < p.length
  · have hk : chk d p tol = 3 := by unfold chk; rw [if_pos h1]
    rw [if_pos (by simpa using h1), hk, if_neg (by decide)]
  · rw [if_neg (by simpa using h1)]
    have hl := rlen_loop N (p := p) (by omega) p.length N 0 (by omega) (by omega)
    rw [show ((0 : Nat) : Int) = 0 from rfl] at hl
    rw [hl, bind_some', List.drop_zero]
    by_cases h2 : p.any (fun q => decide (5 < q.length)) = true
    · have hk : chk d p tol = 3 := by unfold chk; rw [if_neg h1, if_pos h2]
      rw [if_pos h2, hk]
      rfl
    · rw [if_neg h2]
      have h3 : r07_Recognize_2 N tol = some (!(decide (0 ≤ tol) && decide (tol ≤ 10000))) := by
        unfold r07_Recognize_2
        by_cases h : tol < 0
        · simp [h, show ¬ 0 ≤ tol by omega]
        · have h' : 0 ≤ tol := by omega
          by_cases h3 : tol ≤ 10000
          · simp [h, h', h3, show ¬ 10000 < tol by omega]
          · simp [h, h', h3, show 10000 < tol by omega]
      simp only [h3, bind_some', r3_ok N hN (d := d) (p := p) (by omega) (by omega) (any_false h2)]
      have hc2 : chk d p tol = if (decide (0 ≤ tol) && decide (tol ≤ 10000)) && d.all inR && p.all (fun q => q.all inR) then 0 else 2 := by
        unfold chk; rw [if_neg h1, if_neg h2]
      by_cases ht : (decide (0 ≤ tol) && decide (tol ≤ 10000)) = true
      · rw [if_neg (by rw [ht]; simp)]
        rw [ht, Bool.true_and] at hc2
        by_cases ha : (d.all inR && p.all fun q => q.all inR) = true
        · rw [if_pos ha] at hc2
          rw [if_pos ha]
          obtain ⟨F, _, _⟩ := fine_of hc2
          have hdl := F.dl
          obtain ⟨M, rfl⟩ : ∃ M, N = M + 60 := ⟨N - 60, by omega⟩
          obtain ⟨c, hc⟩ := head_some (tol := tol) (p := p) (d := d) (d.length + 1)
          have e1 : IntKind.wrap .i64 ((d.length : Int) + 1) = (d.length : Int) + 1 := w64 (by omega) (by omega)
          have e2 : IntKind.wrap .i64 ((d.length : Int) + 1 + 1) = (d.length : Int) + 2 := by rw [w64 (by omega) (by omega)]; omega
          have e3 : IntKind.wrap .i64 ((d.length : Int) + 1 - 1) = (d.length : Int) := by rw [w64 (by omega) (by omega)]; omega
          have hm : mkI (0 : Int) ((d.length : Int) + 2) = some (List.replicate (d.length + 2) 0) := by
            unfold mkI
            rw [if_pos (by omega)]
            congr 2
          have ho := ref_outer M (tol := tol) F (d.length + 1) (M + 60) 0 (by omega) (by omega)
          have hcol : ∀ f : Int × Int → Int, f (0, 0) = 0 → List.replicate (d.length + 1 - 0) 0 ++ (tabN tol p d 0).map f = List.replicate (d.length + 2) (0 : Int) := by
            intro f hf
            simp only [tabN, List.map_cons, List.map_nil, hf, Nat.sub_zero]
            rw [show d.length + 2 = d.length + 1 + 1 from rfl, List.replicate_succ' (n := d.length + 1)]
          simp only [colA, colC] at ho
          rw [hcol _ rfl, hcol _ rfl] at ho
          simp only [Int.natCast_zero, Int.sub_zero] at ho
          simp only [lt_def, e1, e2, hm, bind_some', e3, ho, hc2, if_true, hc]
          have g := wgetI_nat (head_zero (d.length + 1) hc (f := Prod.fst))
          simp only [Int.natCast_zero] at g
          rw [g, bind_some']
          by_cases hneg : c.1 < 0
          · rw [if_pos (by simpa using hneg), if_pos hneg]
          · rw [if_neg (by simpa using hneg), if_neg hneg]
            have hp := (path_loop (M + 60) F (d.length + 1) (d.length + 1) (M + 60) [] c (by omega) (by omega) (by omega) (by simp) hc (by omega)).2
            rw [show (d.length : Int) + 1 - ((d.length + 1 : Nat) : Int) = 0 by omega] at hp
            rw [hp, bind_some', bind_some']
            rfl
        · rw [if_neg ha] at hc2
          rw [if_neg ha, hc2, if_neg (by decide)]
      · have hc3 : chk d p tol = 2 := by rw [hc2, Bool.and_assoc]; simp only [ht, Bool.false_and, Bool.false_eq_true, if_false]
        rw [if_pos (by simp only [ht, Bool.not_false]), hc3, if_neg (by decide)]
end

theorem ints_loop (N : Nat) {l : List Int} (hl : l.length ≤ 4294967296) : ∀ (k n i : Nat), k < n → i + k = l.length → gen_Ints_0 N l l n i = some (.inl ())
  | k, 0, i, hn, _ => by omega
  | 0, n + 1, i, hn, hi => by rw [gen_Ints_0, if_neg (by simp; omega)]
  | k + 1, n + 1, i, hn, hi => by
    have hlt : i < l.length := by omega
    rw [gen_Ints_0, if_pos (by simp; omega), wgetI_nat (wat_lt hlt), bind_some', bind_some', if_neg (by simp), lt_def, ww64s (by omega)]
    exact ints_loop N hl k n (i + 1) (by omega) (by omega)
theorem ints_ok (N : Nat) {l : List Int} (hN : l.length < N) (hl : l.length ≤ 4294967296) : gen_Ints N l l = some true := by
  unfold gen_Ints
  rw [if_neg (by simp)]
  have := ints_loop N hl l.length N 0 (by omega) (by omega)
  rw [show ((0 : Nat) : Int) = 0 from rfl] at this
  rw [this, bind_some']

theorem picks_len {d : List Int} {p : List (List Int)} {tol : Int} : ∀ (n k : Nat), (picks tol p d n k).length ≤ n
  | 0, k => by simp [picks]
  | n + 1, 0 => by simp [picks]
  | n + 1, k + 1 => by
    simp only [picks]
    split
    · rename_i c _
      have := picks_len (d := d) (p := p) (tol := tol) n (k - ((p[c.2.toNat]?).map List.length).getD 0)
      simp only [List.length_cons]; omega
    · simp
theorem recog_len {d : List Int} {p : List (List Int)} {tol : Int} : (recog d p tol).1.length ≤ 800 := by
  unfold recog
  split
  · rename_i h
    have hdl := (fine_of h).1.dl
    split
    · split
      · simp
      · have := picks_len (d := d) (p := p) (tol := tol) (d.length + 1) (d.length + 1)
        simp only []; omega
    · simp
  · simp

theorem recognizes_ok (N : Nat) (hN : 801 ≤ N) (d : List Int) (p : List (List Int)) (tol : Int) : l07_recognizes N d p tol = some true := by
  unfold l07_recognizes l07_recognizes_0
  have hl := recog_len (d := d) (p := p) (tol := tol)
  rw [recognize_ok N (by omega), ref_recognize_ok N (by omega), bind_some', bind_some', ints_ok N (by omega) (by omega), bind_some', if_pos rfl, if_pos (by simp), lt_def, bind_some']
  simp
end Go.W
