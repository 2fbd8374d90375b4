/- Brake laws: brakes that are cut off, and the order of the wagons. -/
import Derived.Test.YtmbppeancpipiaaLBrkGen
set_option linter.unusedVariables false
set_option linter.unusedSimpArgs false
set_option maxRecDepth 100000
namespace Go.W
open Go.AM

theorem brk_nil {off : List Int} {i : Nat} : brk off i [] = 0 := rfl
theorem brk_app (off : List Int) : ∀ (a b : List Wagon) (i : Nat), brk off i (a ++ b) = brk off i a + brk off (i + a.length) b
  | [], b, i => by simp [brk]
  | w :: a, b, i => by
    simp only [List.cons_append, brk, brk_app off a b (i + 1), List.length_cons, Int.add_assoc]
    rw [show i + 1 + a.length = i + (a.length + 1) by omega]
theorem brk_congr {off off' : List Int} : ∀ {l : List Wagon} {i i' : Nat}, (∀ j : Nat, j < l.length → (((i + j : Nat) : Int) ∈ off ↔ ((i' + j : Nat) : Int) ∈ off')) → brk off i l = brk off' i' l
  | [], i, i', h => rfl
  | w :: l, i, i', h => by
    have h0 : (i : Int) ∈ off ↔ (i' : Int) ∈ off' := by simpa using h 0 (by simp)
    have h1 := brk_congr (off := off) (off' := off') (l := l) (i := i + 1) (i' := i' + 1) fun j hj => by
      have := h (j + 1) (by simp; omega)
      rwa [show i + (j + 1) = i + 1 + j by omega, show i' + (j + 1) = i' + 1 + j by omega] at this
    simp only [brk, h1]
    by_cases h : (i : Int) ∈ off
    · rw [if_pos h, if_pos (h0.1 h)]
    · rw [if_neg h, if_neg (fun h' => h (h0.2 h'))]
theorem brk_zero {off : List Int} : ∀ {l : List Wagon} {i : Nat}, (∀ j : Nat, j < l.length → ((i + j : Nat) : Int) ∈ off) → brk off i l = 0
  | [], i, h => rfl
  | w :: l, i, h => by
    have h0 : (i : Int) ∈ off := by simpa using h 0 (by simp)
    simp only [brk, if_pos h0, Int.zero_add]
    exact brk_zero fun j hj => by
      have := h (j + 1) (by simp; omega)
      rwa [show i + (j + 1) = i + 1 + j by omega] at this
theorem brk_more {off off' : List Int} (hs : ∀ o, o ∈ off → o ∈ off') : ∀ {l : List Wagon} {i : Nat}, (∀ w ∈ l, 0 ≤ w.brake) → brk off' i l ≤ brk off i l
  | [], i, h => by simp [brk]
  | w :: l, i, h => by
    have h1 := brk_more hs (l := l) (i := i + 1) fun x hx => h x (by simp [hx])
    have h0 := h w (by simp)
    simp only [brk]
    by_cases ho : (i : Int) ∈ off
    · rw [if_pos ho, if_pos (hs _ ho)]; omega
    · rw [if_neg ho]
      split <;> omega

theorem made_brake {l : List Wagon} (h : MadeL l) : ∀ w ∈ l, 0 ≤ w.brake ∧ w.brake ≤ w.mass ∧ w.mass ≤ 2000 := fun w hw => by have := wag_ranges (h.ok w hw); omega

/-! ### Cutting off a further brake -/
theorem all_loop (N : Nat) {l : List Wagon} (hl : l.length ≤ 1000) : ∀ (k n i : Nat), k < n → i + k = l.length →
    l35_BrakeOffs_0 N l n ((List.range i).map (fun j : Nat => (j : Int))) i = some ((List.range l.length).map (fun j : Nat => (j : Int)))
  | k, 0, i, hn, _ => by omega
  | 0, n + 1, i, hn, hi => by
    rw [l35_BrakeOffs_0, if_neg (dneg (by omega))]
    obtain rfl : i = l.length := by omega
    rfl
  | k + 1, n + 1, i, hn, hi => by
    rw [l35_BrakeOffs_0, if_pos (dpos (by omega)), appI_ok (by simp; omega), bind_some', lt_def, w64s (by omega), ← all_loop N hl k n (i + 1) (by omega) (by omega)]
    congr 1
    rw [List.range_succ, List.map_append]; rfl
theorem all_asc (m : Nat) : Asc ((List.range m).map (fun j : Nat => (j : Int))) m := by
  refine ⟨?_, fun o ho => ?_, by simp⟩
  · rw [List.nodup_iff_pairwise_ne, List.pairwise_iff_getElem]
    intro i j hi hj hij he
    simp at he
    omega
  · obtain ⟨j, hj, rfl⟩ := List.mem_map.1 ho
    rw [List.mem_range] at hj
    omega

theorem offs_ok (x0 : List Int) (x1 : Int) : l35_BrakeOffs 2000 x0 x1 = some true := by
  obtain ⟨l, s0, h0, m0, l0, d0⟩ := wagons_ok 2000 (by omega) 30 (by omega) (mk0 x0) (by omega)
  obtain ⟨off, s3, h3, m3, a3⟩ := offg_ok 2000 (m := l.length) (by omega) (by omega) m0 (by omega)
  have hs := sane35' (N := 2000) (by omega)
  have he := d0.err (by omega)
  have hF := made_fu (N := 2000) (by omega) d0
  have hln := a3.ln
  have htot : ∀ {o : List Int}, o.length ≤ 1000 → offErr l.length o = 0 → brake_Total 2000 l o = some (total1 l o, 0) := fun ho h => by
    rw [(tot_ok 2000 (by omega) hF ho).1, tot_eq he h]
  have a2 := all_loop 2000 (l := l) (by omega) l.length 2000 0 (by omega) (by omega)
  simp only [List.range_zero, List.map_nil, Int.natCast_zero] at a2
  have hall := all_asc l.length
  have hb0 : brk ((List.range l.length).map (fun j : Nat => (j : Int))) 0 l = 0 := brk_zero fun j hj => List.mem_map.2 ⟨j, by simpa using hj, by simp⟩
  unfold l35_BrakeOffs gen_New
  rw [bind_some', show (30 : Int) = ((30 : Nat) : Int) from rfl, h0, bind_some', h3, bind_some', htot (o := off) (by omega) a3.err, bind_some', if_neg (by simp), a2, bind_some', htot (by simp; omega) hall.err, bind_some']
  rw [show l35_BrakeOffs_1 2000 (total1 l off) (total1 l ((List.range l.length).map (fun j : Nat => (j : Int)))) 0 = some false from by
    unfold l35_BrakeOffs_1 total1
    rw [hb0]
    simp]
  rw [bind_some', if_neg (by decide)]
  dsimp only
  by_cases hz : l.length = 0
  · rw [show (l.length : Int) = 0 by omega, place_zero, bind_some']
    unfold l35_BrakeOffs_2
    rw [if_pos (by simp [hz]), bind_some', if_pos rfl, hs]; rfl
  · obtain ⟨p, h4, p0, p1⟩ := place_ok 2000 x1 l.length (by omega) (by omega)
    rw [h4, bind_some']
    unfold l35_BrakeOffs_2
    rw [if_neg (by simp; exact fun e => hz (by rw [e]; rfl)), off_ok 2000 (by omega) (by omega), bind_some', bind_some']
    by_cases hp : p ∈ off
    · rw [if_pos (by simpa using hp), hs]; rfl
    · rw [if_neg (by simpa using hp), appI_ok (by simp; omega), bind_some', appI_ok (by simp; omega), bind_some', List.nil_append]
      have ha : Asc (off ++ [p]) (l.length + 1) := ⟨by
        rw [List.nodup_append]
        refine ⟨a3.nd, by simp, fun x hx y hy => ?_⟩
        simp at hy; subst hy
        intro e; subst e; exact hp hx, fun o ho => by
        rcases List.mem_append.1 ho with ho | ho
        · have := a3.rg o ho; omega
        · simp at ho; omega, by simp; omega⟩
      have hoe : offErr l.length (off ++ [p]) = 0 := by
        unfold offErr
        rw [if_pos (List.all_eq_true.2 fun o ho => inB_iff.2 (by
          rcases List.mem_append.1 ho with ho | ho
          · exact a3.rg o ho
          · simp at ho; omega)), if_pos ha.nd]
      rw [htot (o := off ++ [p]) (by simp; omega) hoe, bind_some']
      unfold l35_BrakeOffs_3 total1
      dsimp only
      have hle := brk_more (off := off) (off' := off ++ [p]) (fun o ho => List.mem_append_left _ ho) (l := l) (i := 0) fun w hw => (made_brake d0 w hw).1
      have hf := factor_bound (sumL (·.length) l)
      have hmul := Int.mul_le_mul_of_nonneg_right hle (show 0 ≤ factor (sumL (·.length) l) by omega)
      have hdiv : brk (off ++ [p]) 0 l * factor (sumL (·.length) l) / 100 ≤ brk off 0 l * factor (sumL (·.length) l) / 100 := Int.ediv_le_ediv (by omega) hmul
      have hpc : (if 0 < sumL (·.mass) l then 100 * (brk (off ++ [p]) 0 l * factor (sumL (·.length) l) / 100) / sumL (·.mass) l else 0) ≤ (if 0 < sumL (·.mass) l then 100 * (brk off 0 l * factor (sumL (·.length) l) / 100) / sumL (·.mass) l else 0) := by
        split
        · exact Int.ediv_le_ediv (by omega) (by omega)
        · omega
      rw [if_pos (by decide), if_pos (lpos hpc), if_pos (lpos hdiv), hs]; rfl
theorem offsT (x0 : List Int) (x1 : Int) : ∃ N, l35_BrakeOffs N x0 x1 = some true := ⟨2000, offs_ok x0 x1⟩

/-! ### The order of the wagons -/
def turnI (n m : Nat) (o : Int) : Int := (o - n + m) % m
theorem turn_loop (N : Nat) {l : List Wagon} (hl : 1 ≤ l.length) (hl2 : l.length ≤ 1000) {p : Nat} (hp : p < l.length) {off : List Int} (ho : off.length ≤ 1000) (hr : ∀ o ∈ off, 0 ≤ o ∧ o ≤ (l.length : Int) - 1) : ∀ (k n i : Nat), k < n → i + k = off.length →
    l35_BrakeTurns_0 N p l off n ((off.take i).map (turnI p l.length)) i = some (off.map (turnI p l.length))
  | k, 0, i, hn, _ => by omega
  | 0, n + 1, i, hn, hi => by
    rw [l35_BrakeTurns_0, if_neg (dneg (by omega)), List.take_of_length_le (by omega)]
  | k + 1, n + 1, i, hn, hi => by
    have hlt : i < off.length := by omega
    have h1 := hr _ (List.getElem_mem hlt)
    have e : modI (IntKind.wrap .i64 (IntKind.wrap .i64 (off[i] - p) + l.length)) l.length = some (turnI p l.length off[i]) := by
      unfold modI turnI
      rw [if_neg (by omega), w64 (n := off[i] - p) (by omega) (by omega), w64 (by omega) (by omega), Int.tmod_eq_emod_of_nonneg (by omega)]
    rw [l35_BrakeTurns_0, if_pos (dpos (by omega)), getI_nat (at_lt hlt), bind_some', e, bind_some', appI_ok (by simp; omega), bind_some', lt_def, w64s (by omega), ← turn_loop N hl hl2 hp ho hr k n (i + 1) (by omega) (by omega), List.take_succ_eq_append_getElem hlt, List.map_append]
    rfl
theorem turn_mem {m p : Nat} (hp : p < m) {off : List Int} (hr : ∀ o ∈ off, 0 ≤ o ∧ o ≤ (m : Int) - 1) {j : Int} (h0 : 0 ≤ j) (h1 : j < m) : turnI p m j ∈ off.map (turnI p m) ↔ j ∈ off := by
  constructor
  · intro h
    obtain ⟨o, ho, e⟩ := List.mem_map.1 h
    have hb := hr o ho
    have : o = j := by
      unfold turnI at e
      have e1 := Int.emod_emod_of_dvd (o - p + m) (Int.dvd_refl (m : Int))
      have e2 : (o - p + m) % m = if o < p then o - p + m else o - p := by
        split
        · exact Int.emod_eq_of_lt (by omega) (by omega)
        · rw [Int.add_emod_right]; exact Int.emod_eq_of_lt (by omega) (by omega)
      have e3 : (j - p + m) % m = if j < p then j - p + m else j - p := by
        split
        · exact Int.emod_eq_of_lt (by omega) (by omega)
        · rw [Int.add_emod_right]; exact Int.emod_eq_of_lt (by omega) (by omega)
      rw [e2, e3] at e
      split at e <;> split at e <;> omega
    exact this ▸ ho
  · exact fun h => List.mem_map.2 ⟨j, h, rfl⟩
theorem turn_val {m p : Nat} (hp : p < m) {j : Int} (h0 : 0 ≤ j) (h1 : j < m) : turnI p m j = if j < p then j - p + m else j - p := by
  unfold turnI
  split
  · exact Int.emod_eq_of_lt (by omega) (by omega)
  · rw [Int.add_emod_right]; exact Int.emod_eq_of_lt (by omega) (by omega)
theorem turn_err {m p : Nat} (hp : p < m) {off : List Int} (h : Asc off m) : offErr m (off.map (turnI p m)) = 0 := by
  unfold offErr
  rw [if_pos, if_pos]
  · rw [List.nodup_iff_pairwise_ne, List.pairwise_map]
    have := List.nodup_iff_pairwise_ne.1 h.nd
    refine List.Pairwise.imp_of_mem (fun {a b} ha hb hne e => hne ?_) this
    have h1 := h.rg a ha
    have h2 := h.rg b hb
    rw [turn_val hp (by omega) (by omega), turn_val hp (by omega) (by omega)] at e
    split at e <;> split at e <;> omega
  · refine List.all_eq_true.2 fun o ho => inB_iff.2 ?_
    obtain ⟨a, ha, rfl⟩ := List.mem_map.1 ho
    have h1 := h.rg a ha
    rw [turn_val hp (by omega) (by omega)]
    split <;> omega

theorem turns_ok (x0 : List Int) (x1 : Int) : l35_BrakeTurns 2000 x0 x1 = some true := by
  obtain ⟨l, s0, h0, m0, l0, d0⟩ := wagons_ok 2000 (by omega) 20 (by omega) (mk0 x0) (by omega)
  obtain ⟨off, s3, h3, m3, a3⟩ := offg_ok 2000 (m := l.length) (by omega) (by omega) m0 (by omega)
  have hs := sane35' (N := 2000) (by omega)
  have he := d0.err (by omega)
  have hF := made_fu (N := 2000) (by omega) d0
  have hln := a3.ln
  obtain ⟨p, h4, hp⟩ : ∃ p : Nat, yardgen_Place 2000 x1 l.length = some (p : Int) ∧ (p < l.length ∨ (p = 0 ∧ l.length = 0)) := by
    by_cases hz : l.length = 0
    · exact ⟨0, by rw [hz]; rfl, .inr ⟨rfl, hz⟩⟩
    · obtain ⟨p, h4, p0, p1⟩ := place_ok 2000 x1 l.length (by omega) (by omega)
      obtain ⟨p, rfl⟩ := Int.eq_ofNat_of_zero_le p0
      exact ⟨p, h4, .inl (by omega)⟩
  have hpl : p ≤ l.length := by omega
  have hT : ∃ gone : List Int, l35_BrakeTurns_0 2000 p l off 2000 [] 0 = some gone ∧ gone.length ≤ 1000 ∧ offErr l.length gone = 0 ∧ brk gone 0 (l.drop p ++ l.take p) = brk off 0 l := by
    rcases hp with hp | ⟨rfl, hz⟩
    · have := turn_loop 2000 (l := l) (by omega) (by omega) hp (off := off) (by omega) a3.rg off.length 2000 0 (by omega) (by omega)
      simp only [List.take_zero, List.map_nil, Int.natCast_zero] at this
      refine ⟨_, this, by simp; omega, turn_err hp a3, ?_⟩
      have hd : (l.drop p).length = l.length - p := by simp
      have ht : (l.take p).length = p := by simp; omega
      rw [brk_app, Nat.zero_add, hd]
      conv => rhs; rw [← List.take_append_drop p l, brk_app, Nat.zero_add, ht]
      rw [Int.add_comm]
      congr 1
      · refine brk_congr fun j hj => ?_
        rw [ht] at hj
        rw [Nat.zero_add, ← turn_mem hp a3.rg (j := (j : Int)) (by omega) (by omega), turn_val hp (by omega) (by omega), if_pos (by omega)]
        rw [show ((l.length - p + j : Nat) : Int) = (j : Int) - p + l.length by omega]
      · refine brk_congr fun j hj => ?_
        rw [hd] at hj
        rw [Nat.zero_add, ← turn_mem hp a3.rg (j := ((p + j : Nat) : Int)) (by omega) (by omega), turn_val hp (by omega) (by omega), if_neg (by omega)]
        rw [show ((p + j : Nat) : Int) - p = (j : Int) by omega]
    · have hoff : off = [] := List.eq_nil_of_length_eq_zero (by omega)
      have hl' : l = [] := List.eq_nil_of_length_eq_zero hz
      subst hoff; subst hl'
      exact ⟨[], rfl, by simp, by decide, rfl⟩
  obtain ⟨gone, g1, g2, g3, g4⟩ := hT
  have hlen : (l.drop p ++ l.take p).length = l.length := by simp; omega
  have hperm : (l.drop p ++ l.take p).Perm l := (List.perm_append_comm).trans (by rw [List.take_append_drop])
  have he2 : listErr (l.drop p ++ l.take p) = 0 := by
    rw [listErr_zero] at he ⊢
    exact ⟨by omega, fun w hw => he.2.1 w (hperm.mem_iff.1 hw), ((hperm.map _).nodup_iff).2 he.2.2⟩
  have hsum : ∀ f : Wagon → Int, sumL f (l.drop p ++ l.take p) = sumL f l := fun f => by
    rw [sumL_append, Int.add_comm, ← sumL_append, List.take_append_drop]
  unfold l35_BrakeTurns gen_New
  rw [bind_some', show (20 : Int) = ((20 : Nat) : Int) from rfl, h0, bind_some', h3, bind_some', h4, bind_some']
  dsimp only
  rw [cutI_drop hpl, bind_some', appI_ok (by simp; omega), bind_some', cutI_take hpl, bind_some', List.nil_append, appI_ok (by simp; omega), bind_some', g1, bind_some',
    (tot_ok 2000 (by omega) hF (by omega)).1, bind_some', (tot_ok 2000 (by omega) (fun _ w hw => hF (by omega) w (hperm.mem_iff.1 hw)) g2).1, bind_some', tot_eq he a3.err, tot_eq he2 (by rw [hlen]; exact g3)]
  have e : total1 (l.drop p ++ l.take p) gone = total1 l off := by
    unfold total1
    rw [g4, hsum, hsum, hsum]
  rw [e]
  unfold l35_BrakeTurns_1
  rw [if_pos (by simp), if_pos (by simp), if_pos (by simp), hs]; rfl
theorem turnsT (x0 : List Int) (x1 : Int) : ∃ N, l35_BrakeTurns N x0 x1 = some true := ⟨2000, turns_ok x0 x1⟩

/-! ### The fastest speed -/
theorem fastF_spec (t : List BrakeRow) (g p : Int) : ∀ (l : List BrakeRow) (b : Int), b ≤ fastF t g p l b ∧
    (∀ r ∈ l, (reqF r.speed g t (0, false)).2 = true → (reqF r.speed g t (0, false)).1 ≤ p → r.speed ≤ fastF t g p l b) ∧
    (fastF t g p l b = b ∨ ∃ r ∈ l, fastF t g p l b = r.speed ∧ (reqF r.speed g t (0, false)).2 = true ∧ (reqF r.speed g t (0, false)).1 ≤ p)
  | [], b => ⟨Int.le_refl _, fun r hr => by simp at hr, .inl rfl⟩
  | r :: l, b => by
    simp only [fastF]
    by_cases h : ((reqF r.speed g t (0, false)).2 && decide ((reqF r.speed g t (0, false)).1 ≤ p)) = true
    · rw [if_pos h]
      obtain ⟨g1, g2, g3⟩ := fastF_spec t g p l (max b r.speed)
      simp only [Bool.and_eq_true, decide_eq_true_eq] at h
      refine ⟨by omega, fun x hx e1 e2 => ?_, ?_⟩
      · rcases List.mem_cons.1 hx with rfl | hx
        · omega
        · exact g2 x hx e1 e2
      · rcases g3 with g3 | ⟨x, hx, e1, e2⟩
        · by_cases hb : r.speed ≤ b
          · exact .inl (by omega)
          · exact .inr ⟨r, by simp, by omega, h⟩
        · exact .inr ⟨x, by simp [hx], e1, e2⟩
    · rw [if_neg h]
      obtain ⟨g1, g2, g3⟩ := fastF_spec t g p l b
      refine ⟨g1, fun x hx e1 e2 => ?_, ?_⟩
      · rcases List.mem_cons.1 hx with rfl | hx
        · exact absurd (by simp [e1, e2]) h
        · exact g2 x hx e1 e2
      · rcases g3 with g3 | ⟨x, hx, e1⟩
        · exact .inl g3
        · exact .inr ⟨x, by simp [hx], e1⟩

theorem runs_loop (N : Nat) (hN : 1001 ≤ N) {t : List BrakeRow} (ht : t.length ≤ 1000) {g v : Int} {x : Brakes} (h : ∀ r ∈ t, v < r.speed → (requ t r.speed g).2 = 0 → ¬ (requ t r.speed g).1 ≤ x.percent) : ∀ (k n i : Nat), k < n → i + k = t.length →
    l35_BrakeRuns_3 N t g v x n i = some (.inl ())
  | k, 0, i, hn, _ => by omega
  | 0, n + 1, i, hn, hi => by rw [l35_BrakeRuns_3, if_neg (dneg (by omega))]
  | k + 1, n + 1, i, hn, hi => by
    have hlt : i < t.length := by omega
    have hh := h _ (List.getElem_mem hlt)
    rw [l35_BrakeRuns_3, if_pos (dpos (by omega)), getI_nat (at_lt hlt), bind_some', (requ_ok N ht hN _ _).1, bind_some']
    have e : l35_BrakeRuns_4 N t v x i (requ t t[i].speed g).1 (requ t t[i].speed g).2 = some false := by
      unfold l35_BrakeRuns_4
      rw [getI_nat (at_lt hlt), bind_some']
      by_cases h1 : v < t[i].speed
      · rw [if_pos (dpos h1)]
        by_cases h2 : (requ t t[i].speed g).2 = 0
        · rw [if_pos (by simp [h2]), decide_eq_false (hh h1 h2)]
        · rw [if_neg (by simpa using h2)]
      · rw [if_neg (dneg h1)]
    rw [e, bind_some', if_neg (by decide), lt_def, w64s (by omega)]
    exact runs_loop N hN ht h k n (i + 1) (by omega) (by omega)

theorem runs_ok (x0 : List Int) (x1 : Int) : l35_BrakeRuns 2000 x0 x1 = some true := by
  obtain ⟨l, s0, h0, m0, l0, d0⟩ := wagons_ok 2000 (by omega) 30 (by omega) (mk0 x0) (by omega)
  obtain ⟨t, s1, h1, m1, l1, a1⟩ := table_ok 2000 (by omega) m0 (by omega)
  obtain ⟨u, s2, h2, m2, l2, a2⟩ := table_ok 2000 (by omega) m1 (by omega)
  obtain ⟨g, h5, q0, q1⟩ := place_ok 2000 x1 501 (by omega) (by omega)
  have hs := sane35' (N := 2000) (by omega)
  have he := d0.err (by omega)
  have hF := made_fu (N := 2000) (by omega) d0
  have htt := tbl_app a1 a2 (by omega)
  have hl : (t ++ u).length ≤ 1000 := by simp; omega
  have ht : tot l [] = (total1 l [], 0) := tot_eq he (by
    unfold offErr
    rw [if_pos (by simp), if_pos (by simp)])
  obtain ⟨f1, f2, f3⟩ := fastF_spec (t ++ u) g (total1 l []).percent (t ++ u) 0
  have hrow : ∀ r ∈ t ++ u, 1 ≤ r.speed ∧ r.speed ≤ 200 := fun r hr => by
    simp only [tblOk, Bool.and_eq_true, List.all_eq_true] at htt
    have := htt.1 r hr
    simp only [rowOk, Bool.and_eq_true, inB_iff] at this
    omega
  have hfast : fast l [] (t ++ u) g = if fastF (t ++ u) g (total1 l []).percent (t ++ u) 0 = 0 then (0, 15) else (fastF (t ++ u) g (total1 l []).percent (t ++ u) 0, 0) := by
    unfold fast
    rw [ht]
    dsimp only
    rw [if_neg (by simp), if_neg (by simp [htt]), if_neg (by rw [Bool.eq_false_iff]; simp [inB_iff]; omega)]
  unfold l35_BrakeRuns gen_New
  rw [bind_some', show (30 : Int) = ((30 : Nat) : Int) from rfl, h0, bind_some', h1, bind_some', h2, bind_some', appI_ok (by dsimp only; omega), bind_some', h5, bind_some']
  dsimp only
  rw [(fast_ok 2000 (by omega) hF (by simp) hl g).1, bind_some', (tot_ok 2000 (by omega) hF (by simp)).2, bind_some', ht, hfast]
  dsimp only
  generalize hv : fastF (t ++ u) g (total1 l []).percent (t ++ u) 0 = v at f1 f2 f3 ⊢
  have hloop := runs_loop 2000 (by omega) (t := t ++ u) hl (g := g) (v := v) (x := total1 l []) (fun r hr hlt hq hle => by
    have hb := hrow r hr
    rw [requ_eq htt (by omega) (by omega) (by omega) (by omega)] at hq hle
    by_cases e : (reqF r.speed g (t ++ u) (0, false)).2 = true
    · rw [if_pos e] at hle
      have := f2 r hr e hle
      omega
    · rw [if_neg e] at hq
      simp at hq) (t ++ u).length 2000 0 (by omega) (by omega)
  simp only [Int.natCast_zero] at hloop
  by_cases hz : v = 0
  · rw [if_pos hz]
    dsimp only
    rw [show l35_BrakeRuns_0 2000 15 0 = some false from by decide, bind_some', if_neg (by decide)]
    unfold l35_BrakeRuns_1
    rw [if_neg (by decide), bind_some']
    dsimp only
    rw [hz] at hloop
    rw [hloop, bind_some', hs]; rfl
  · rw [if_neg hz]
    dsimp only
    rw [show l35_BrakeRuns_0 2000 0 0 = some false from by decide, bind_some', if_neg (by decide)]
    unfold l35_BrakeRuns_1
    rw [if_pos (by decide), (requ_ok 2000 hl (by omega) _ _).1, bind_some']
    rcases f3 with f3 | ⟨r, hr, e1, e2, e3⟩
    · exact absurd f3 hz
    · have hb := hrow r hr
      rw [e1, requ_eq htt (by omega) (by omega) (by omega) (by omega), if_pos e2]
      rw [show l35_BrakeRuns_2 2000 (total1 l []) (reqF r.speed g (t ++ u) (0, false)).1 0 = some false from by
        unfold l35_BrakeRuns_2
        rw [if_neg (by decide), decide_eq_false (by omega)]]
      rw [bind_some', if_neg (by decide), bind_some']
      dsimp only
      rw [← e1, hloop, bind_some', hs]; rfl
theorem runsT (x0 : List Int) (x1 : Int) : ∃ N, l35_BrakeRuns N x0 x1 = some true := ⟨2000, runs_ok x0 x1⟩
end Go.W
