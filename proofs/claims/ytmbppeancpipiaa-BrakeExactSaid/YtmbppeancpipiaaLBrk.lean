/- Brake sheets: what the program's functions and the reference's answer. -/
import Derived.Test.YtmbppeancpipiaaLGen
set_option linter.unusedVariables false
set_option linter.unusedSimpArgs false
namespace Go.W
open Go.AM

/-! ### Tables -/
def inB (x lo hi : Int) : Bool := decide (lo ≤ x) && decide (x ≤ hi)
theorem inB_iff {x lo hi : Int} : inB x lo hi = true ↔ lo ≤ x ∧ x ≤ hi := by simp [inB]
theorem in_ok (N : Nat) (x lo hi : Int) : brake_in N x lo hi = some (inB x lo hi) := by
  unfold brake_in brake_in_0 inB
  by_cases h : lo ≤ x <;> simp [h, lt_def, bind_some']

def rowOk (r : BrakeRow) : Bool := inB r.speed 1 200 && (inB r.grade 0 500 && inB r.percent 0 250)
def tblOk (t : List BrakeRow) : Bool := t.all rowOk && decide (t.length ≤ 64)

theorem prow (N : Nat) (r : BrakeRow) : brake_ValidTable_1 N r = some (!rowOk r) := by
  unfold brake_ValidTable_1 rowOk
  simp only [in_ok, bind_some']
  cases inB r.speed 1 200 <;> cases inB r.grade 0 500 <;> cases inB r.percent 0 250 <;> rfl
theorem rrow (N : Nat) {t : List BrakeRow} {i : Nat} {r : BrakeRow} (h : t[i]? = some r) : r35_ValidTable_1 N t i = some (!rowOk r) := by
  unfold r35_ValidTable_1 rowOk inB
  rw [getI_nat h]
  simp only [bind_some']
  by_cases a : r.speed < 1
  · rw [if_pos (dpos a), decide_eq_false (show ¬ 1 ≤ r.speed by omega)]; rfl
  rw [if_neg (dneg a), decide_eq_true (show 1 ≤ r.speed by omega)]
  by_cases b : 200 < r.speed
  · rw [if_pos (dpos b), decide_eq_false (show ¬ r.speed ≤ 200 by omega)]; rfl
  rw [if_neg (dneg b), decide_eq_true (show r.speed ≤ 200 by omega)]
  by_cases c : r.grade < 0
  · rw [if_pos (dpos c), decide_eq_false (show ¬ 0 ≤ r.grade by omega)]; rfl
  rw [if_neg (dneg c), decide_eq_true (show 0 ≤ r.grade by omega)]
  by_cases d : 500 < r.grade
  · rw [if_pos (dpos d), decide_eq_false (show ¬ r.grade ≤ 500 by omega)]; rfl
  rw [if_neg (dneg d), decide_eq_true (show r.grade ≤ 500 by omega)]
  by_cases e : r.percent < 0
  · rw [if_pos (dpos e), decide_eq_false (show ¬ 0 ≤ r.percent by omega)]; rfl
  rw [if_neg (dneg e), decide_eq_true (show 0 ≤ r.percent by omega)]
  by_cases f : 250 < r.percent
  · rw [decide_eq_true f, decide_eq_false (show ¬ r.percent ≤ 250 by omega)]; rfl
  · rw [decide_eq_false f, decide_eq_true (show r.percent ≤ 250 by omega)]; rfl

theorem tbl_loop (N : Nat) {t : List BrakeRow} (ht : t.length ≤ 1000) : ∀ (k n i : Nat), k < n → i + k = t.length →
    brake_ValidTable_0 N t t.length n i = some (if (t.drop i).all rowOk = true then .inl () else .inr false) ∧ r35_ValidTable_0 N t n i = some (if (t.drop i).all rowOk = true then .inl () else .inr false)
  | k, 0, i, hn, _ => by omega
  | 0, n + 1, i, hn, hi => by
    rw [brake_ValidTable_0, r35_ValidTable_0, if_neg (dneg (by omega)), if_neg (dneg (by omega)), List.drop_eq_nil_of_le (by omega)]; exact ⟨rfl, rfl⟩
  | k + 1, n + 1, i, hn, hi => by
    have hlt : i < t.length := by omega
    obtain ⟨h1, h2⟩ := tbl_loop N ht k n (i + 1) (by omega) (by omega)
    rw [brake_ValidTable_0, r35_ValidTable_0, if_pos (dpos (by omega)), if_pos (dpos (by omega)), getI_nat (at_lt hlt), bind_some', prow, rrow N (at_lt hlt), bind_some', bind_some', drop_at (at_lt hlt), lt_def, w64s (by omega), h1, h2, List.all_cons]
    by_cases h : rowOk t[i] = true
    · simp only [h, Bool.not_true, Bool.false_eq_true, if_false, Bool.true_and, and_self]
    · simp only [Bool.not_eq_true] at h
      simp only [h, Bool.not_false, if_true, Bool.false_and, Bool.false_eq_true, if_false, and_self]

theorem tbl_ok (N : Nat) {t : List BrakeRow} (ht : t.length ≤ 1000) (hN : 1001 ≤ N) : brake_ValidTable N t = some (tblOk t) ∧ r35_ValidTable N t = some (tblOk t) := by
  obtain ⟨h1, h2⟩ := tbl_loop N ht t.length N 0 (by omega) (by omega)
  simp only [Int.natCast_zero, List.drop_zero] at h1 h2
  unfold brake_ValidTable r35_ValidTable tblOk
  rw [h1, h2]
  simp only [bind_some']
  have hc : decide ((t.length : Int) ≤ 64) = decide (t.length ≤ 64) := by rw [decide_eq_decide]; omega
  constructor
  · by_cases h : t.all rowOk = true
    · simp only [h, if_true, lt_def, Bool.true_and, hc]
    · simp only [Bool.not_eq_true] at h
      simp only [h, Bool.false_eq_true, if_false, Bool.false_and]
  · by_cases h64 : 64 < t.length
    · rw [if_pos (dpos (by omega)), decide_eq_false (show ¬ t.length ≤ 64 by omega), Bool.and_false]
    · rw [if_neg (dneg (by omega)), decide_eq_true (show t.length ≤ 64 by omega), Bool.and_true]
      by_cases h : t.all rowOk = true
      · simp only [h, if_true]
      · simp only [Bool.not_eq_true] at h
        simp only [h, Bool.false_eq_true, if_false]

/-! ### The percentage that is required -/
/-- Does a row count at a speed and a gradient? -/
def elig (s g : Int) (r : BrakeRow) : Bool := decide (s ≤ r.speed) && decide (g ≤ r.grade)
def reqF (s g : Int) : List BrakeRow → Int × Bool → Int × Bool
  | [], b => b
  | r :: t, b => reqF s g t (if (elig s g r && (!b.2 || decide (r.percent < b.1))) = true then (r.percent, true) else b)

theorem req_loop (N : Nat) {t : List BrakeRow} (ht : t.length ≤ 1000) (s g : Int) : ∀ (k n i : Nat) (b : Int × Bool), k < n → i + k = t.length →
    brake_required_0 N s g t t.length n b.1 b.2 i = some (reqF s g (t.drop i) b) ∧ r35_need_0 N t s g n b.1 b.2 i = some (reqF s g (t.drop i) b)
  | k, 0, i, b, hn, _ => by omega
  | 0, n + 1, i, b, hn, hi => by
    rw [brake_required_0, r35_need_0, if_neg (dneg (by omega)), if_neg (dneg (by omega)), List.drop_eq_nil_of_le (by omega)]; exact ⟨rfl, rfl⟩
  | k + 1, n + 1, i, b, hn, hi => by
    have hlt : i < t.length := by omega
    have hp2 : brake_required_2 N s g b.1 b.2 t[i] = some (elig s g t[i] && (!b.2 || decide (t[i].percent < b.1))) := by
      unfold brake_required_2 elig
      cases decide (s ≤ t[i].speed) <;> cases decide (g ≤ t[i].grade) <;> cases b.2 <;> rfl
    have hr2 : r35_need_2 N t s g b.1 b.2 i = some (elig s g t[i] && (!b.2 || decide (t[i].percent < b.1))) := by
      unfold r35_need_2 elig
      rw [getI_nat (at_lt hlt)]
      simp only [bind_some']
      cases decide (s ≤ t[i].speed) <;> cases decide (g ≤ t[i].grade) <;> cases b.2 <;> rfl
    have hp1 : brake_required_1 N s g b.1 b.2 t i = some (if (elig s g t[i] && (!b.2 || decide (t[i].percent < b.1))) = true then (t[i].percent, true) else b) := by
      unfold brake_required_1
      rw [getI_nat (at_lt hlt), bind_some', hp2, bind_some']
      split <;> rfl
    have hr1 : r35_need_1 N t s g b.1 b.2 i = some (if (elig s g t[i] && (!b.2 || decide (t[i].percent < b.1))) = true then (t[i].percent, true) else b) := by
      unfold r35_need_1
      rw [hr2, bind_some', getI_nat (at_lt hlt), bind_some']
      split <;> rfl
    rw [brake_required_0, r35_need_0, if_pos (dpos (by omega)), if_pos (dpos (by omega)), hp1, hr1, bind_some', bind_some', lt_def, w64s (by omega), drop_at (at_lt hlt)]
    exact req_loop N ht s g k n (i + 1) _ (by omega) (by omega)

theorem req_ok (N : Nat) {t : List BrakeRow} (ht : t.length ≤ 1000) (hN : 1001 ≤ N) (s g : Int) : brake_required N t s g = some (reqF s g t (0, false)) ∧ r35_need N t s g = some (reqF s g t (0, false)) := by
  obtain ⟨h1, h2⟩ := req_loop N ht s g t.length N 0 (0, false) (by omega) (by omega)
  simp only [Int.natCast_zero, List.drop_zero] at h1 h2
  unfold brake_required r35_need
  rw [h1, h2]
  exact ⟨rfl, rfl⟩

/-- What 'Required' answers. -/
def requ (t : List BrakeRow) (s g : Int) : Int × Int :=
  if tblOk t = true then (if (inB s 1 200 && inB g 0 500) = true then (if (reqF s g t (0, false)).2 = true then ((reqF s g t (0, false)).1, 0) else (0, 15)) else (0, 2)) else (0, 1)

theorem requ_ok (N : Nat) {t : List BrakeRow} (ht : t.length ≤ 1000) (hN : 1001 ≤ N) (s g : Int) : brake_Required N t s g = some (requ t s g) ∧ r35_Required N t s g = some (requ t s g) := by
  obtain ⟨h1, h2⟩ := tbl_ok N ht hN
  obtain ⟨h3, h4⟩ := req_ok N ht hN s g
  have h5 : brake_Required_0 N s g = some (!(inB s 1 200 && inB g 0 500)) := by
    unfold brake_Required_0
    simp only [in_ok, bind_some']
    cases inB s 1 200 <;> cases inB g 0 500 <;> rfl
  have h6 : r35_Required_0 N s g = some (!(inB s 1 200 && inB g 0 500)) := by
    unfold r35_Required_0 inB
    by_cases a : s < 1
    · rw [if_pos (dpos a), decide_eq_false (show ¬ 1 ≤ s by omega)]; rfl
    rw [if_neg (dneg a), decide_eq_true (show 1 ≤ s by omega)]
    by_cases b : 200 < s
    · rw [if_pos (dpos b), decide_eq_false (show ¬ s ≤ 200 by omega)]; rfl
    rw [if_neg (dneg b), decide_eq_true (show s ≤ 200 by omega)]
    by_cases c : g < 0
    · rw [if_pos (dpos c), decide_eq_false (show ¬ 0 ≤ g by omega)]; rfl
    rw [if_neg (dneg c), decide_eq_true (show 0 ≤ g by omega)]
    by_cases d : 500 < g
    · rw [decide_eq_true d, decide_eq_false (show ¬ g ≤ 500 by omega)]; rfl
    · rw [decide_eq_false d, decide_eq_true (show g ≤ 500 by omega)]; rfl
  unfold brake_Required r35_Required requ
  rw [h1, h2, h3, h4, h5, h6]
  simp only [bind_some']
  cases tblOk t <;> cases (inB s 1 200 && inB g 0 500) <;> cases (reqF s g t (0, false)).2 <;> exact ⟨rfl, rfl⟩

/-- What is known of the required percentage. -/
theorem reqF_spec (s g : Int) : ∀ (t : List BrakeRow) (b : Int × Bool), ((reqF s g t b).2 = true ↔ b.2 = true ∨ ∃ r ∈ t, elig s g r = true) ∧
    ((reqF s g t b).2 = true → (∀ r ∈ t, elig s g r = true → (reqF s g t b).1 ≤ r.percent) ∧ (b.2 = true → (reqF s g t b).1 ≤ b.1) ∧ ((b.2 = true ∧ (reqF s g t b).1 = b.1) ∨ ∃ r ∈ t, elig s g r = true ∧ (reqF s g t b).1 = r.percent))
  | [], b => by simp [reqF]
  | r :: t, b => by
    obtain ⟨h1, h2⟩ := reqF_spec s g t (if (elig s g r && (!b.2 || decide (r.percent < b.1))) = true then (r.percent, true) else b)
    simp only [reqF]
    generalize hR : reqF s g t (if (elig s g r && (!b.2 || decide (r.percent < b.1))) = true then (r.percent, true) else b) = R at h1 h2 ⊢
    by_cases he : elig s g r = true
    · by_cases hb : b.2 = true
      · by_cases hlt : r.percent < b.1
        · simp only [he, hb, hlt, decide_true, Bool.not_true, Bool.false_or, Bool.and_self, if_true, true_or, true_iff] at h1 h2
          refine ⟨by simp [h1, hb], fun hR2 => ?_⟩
          obtain ⟨g1, g2, g3⟩ := h2 hR2
          have g2 := g2 trivial
          refine ⟨fun x hx hxe => ?_, fun _ => by omega, ?_⟩
          · rcases List.mem_cons.1 hx with rfl | hx
            · exact g2
            · exact g1 x hx hxe
          · rcases g3 with ⟨_, g3⟩ | ⟨x, hx, hxe, hxp⟩
            · exact .inr ⟨r, by simp, he, g3⟩
            · exact .inr ⟨x, by simp [hx], hxe, hxp⟩
        · simp only [he, hb, hlt, decide_false, Bool.not_true, Bool.or_self, Bool.and_false, Bool.false_eq_true, if_false, true_or, true_iff, true_and] at h1 h2
          refine ⟨by simp [h1, hb], fun hR2 => ?_⟩
          obtain ⟨g1, g2, g3⟩ := h2 hR2
          have g2 := g2 trivial
          refine ⟨fun x hx hxe => ?_, fun _ => g2, ?_⟩
          · rcases List.mem_cons.1 hx with rfl | hx
            · omega
            · exact g1 x hx hxe
          · rcases g3 with g3 | ⟨x, hx, hxe, hxp⟩
            · exact .inl ⟨hb, g3⟩
            · exact .inr ⟨x, by simp [hx], hxe, hxp⟩
      · simp only [Bool.not_eq_true] at hb
        simp only [he, hb, Bool.not_false, Bool.true_or, Bool.and_self, if_true, true_or, true_iff] at h1 h2
        refine ⟨by simp [h1, he], fun hR2 => ?_⟩
        obtain ⟨g1, g2, g3⟩ := h2 hR2
        have g2 := g2 trivial
        refine ⟨fun x hx hxe => ?_, fun h => (by rw [hb] at h; cases h), ?_⟩
        · rcases List.mem_cons.1 hx with rfl | hx
          · exact g2
          · exact g1 x hx hxe
        · rcases g3 with ⟨_, g3⟩ | ⟨x, hx, hxe, hxp⟩
          · exact .inr ⟨r, by simp, he, g3⟩
          · exact .inr ⟨x, by simp [hx], hxe, hxp⟩
    · simp only [Bool.not_eq_true] at he
      simp only [he, Bool.false_and, Bool.false_eq_true, if_false] at h1 h2
      refine ⟨by simp [h1, he], fun hR2 => ?_⟩
      obtain ⟨g1, g2, g3⟩ := h2 hR2
      refine ⟨fun x hx hxe => ?_, g2, ?_⟩
      · rcases List.mem_cons.1 hx with rfl | hx
        · rw [he] at hxe; cases hxe
        · exact g1 x hx hxe
      · rcases g3 with g3 | ⟨x, hx, hxe, hxp⟩
        · exact .inl g3
        · exact .inr ⟨x, by simp [hx], hxe, hxp⟩

/-- The least percentage of the rows that count. -/
theorem req_min {s g : Int} {t : List BrakeRow} : ((reqF s g t (0, false)).2 = true ↔ ∃ r ∈ t, elig s g r = true) ∧ ((reqF s g t (0, false)).2 = true → (∀ r ∈ t, elig s g r = true → (reqF s g t (0, false)).1 ≤ r.percent) ∧ ∃ r ∈ t, elig s g r = true ∧ (reqF s g t (0, false)).1 = r.percent) := by
  obtain ⟨h1, h2⟩ := reqF_spec s g t (0, false)
  refine ⟨by simpa using h1, fun h => ?_⟩
  obtain ⟨g1, _, g3⟩ := h2 h
  exact ⟨g1, by simpa using g3⟩

/-! ### Factors -/
def factor (x : Int) : Int := if x ≤ 5000 then 100 else if 7000 < x then 80 else 100 - (x - 5000 + 99) / 100
theorem factor_bound (x : Int) : 80 ≤ factor x ∧ factor x ≤ 100 := by
  unfold factor
  split
  · omega
  · split <;> omega
theorem factor_ok (N : Nat) (x : Int) : brake_Factor N x = some (factor x) ∧ r35_Factor N x = some (factor x) := by
  unfold brake_Factor r35_Factor factor
  by_cases h1 : x ≤ 5000
  · rw [if_pos (lpos h1), if_pos (lpos h1), if_pos h1]; exact ⟨rfl, rfl⟩
  · rw [if_neg (lneg h1), if_neg (lneg h1), if_neg h1]
    have key : ∀ y : Int, 5000 < y → y ≤ 10000 → IntKind.wrap .i64 (100 - IntKind.wrap .i64 (Int.tdiv (IntKind.wrap .i64 (IntKind.wrap .i64 (y - 5000) + 99)) 100)) = 100 - (y - 5000 + 99) / 100 := by
      intro y h2 h3
      rw [w64 (n := y - 5000) (by omega) (by omega), w64 (n := y - 5000 + 99) (by omega) (by omega), Int.tdiv_eq_ediv_of_nonneg (by omega), w64 (n := (y - 5000 + 99) / 100) (by omega) (by omega), w64 (by omega) (by omega)]
    constructor
    · by_cases h2 : 10000 < x
      · rw [if_pos (dpos h2), if_pos (by omega)]
      · rw [if_neg (dneg h2), lt_def, key x (by omega) (by omega)]
        by_cases h3 : 7000 < x
        · rw [if_pos h3]; congr 1; omega
        · rw [if_neg h3]; congr 1; omega
    · by_cases h3 : 7000 < x
      · rw [if_pos (dpos h3), if_pos h3]
      · rw [if_neg (dneg h3), lt_def, key x (by omega) (by omega), if_neg h3]

/-! ### Brakes that are cut off -/
theorem off_loop (N : Nat) {l : List Int} (hl : l.length ≤ 1000) (x : Int) : ∀ (k n i : Nat), k < n → i + k = l.length → r35_Off_0 N l x n i = some (if x ∈ l.drop i then .inr true else .inl ())
  | k, 0, i, hn, _ => by omega
  | 0, n + 1, i, hn, hi => by rw [r35_Off_0, if_neg (dneg (by omega)), List.drop_eq_nil_of_le (by omega)]; rfl
  | k + 1, n + 1, i, hn, hi => by
    have hlt : i < l.length := by omega
    rw [r35_Off_0, if_pos (dpos (by omega)), getI_nat (at_lt hlt), bind_some', drop_at (at_lt hlt), lt_def, w64s (by omega), off_loop N hl x k n (i + 1) (by omega) (by omega)]
    by_cases h : l[i] = x
    · rw [if_pos (by simpa using h), if_pos (by simp [h])]
    · have h' : ¬ x = l[i] := fun e => h e.symm
      rw [if_neg (by simpa using h)]
      simp only [List.mem_cons, h', false_or]
theorem off_ok (N : Nat) {l : List Int} (hl : l.length ≤ 1000) (hN : 1001 ≤ N) (x : Int) : r35_Off N l x = some (decide (x ∈ l)) := by
  have := off_loop N hl x l.length N 0 (by omega) (by omega)
  simp only [Int.natCast_zero, List.drop_zero] at this
  unfold r35_Off
  rw [this]
  by_cases h : x ∈ l <;> simp [h, bind_some']

/-- The error of a list of cut brakes of a train of 'n' wagons. -/
def offErr (n : Nat) (off : List Int) : Int := if off.all (fun o => inB o 0 ((n : Int) - 1)) = true then (if off.Nodup then 0 else 8) else 2

theorem rng_loop (N : Nat) {l : List Wagon} (hl : l.length ≤ 1000) {off : List Int} (ho : off.length ≤ 1000) (b : Brakes) : ∀ (k n i : Nat), k < n → i + k = off.length →
    brake_Total_0 N l off off.length n b i = some (if (off.drop i).all (fun o => inB o 0 ((l.length : Int) - 1)) = true then .inl b else .inr (Brakes.mk 0 0 0 0 0 0 0, 2)) ∧
    r35_Total_0 N l off n b i = some (if (off.drop i).all (fun o => inB o 0 ((l.length : Int) - 1)) = true then .inl b else .inr (Brakes.mk 0 0 0 0 0 0 0, 2))
  | k, 0, i, hn, _ => by omega
  | 0, n + 1, i, hn, hi => by
    rw [brake_Total_0, r35_Total_0, if_neg (dneg (by omega)), if_neg (dneg (by omega)), List.drop_eq_nil_of_le (by omega)]; exact ⟨rfl, rfl⟩
  | k + 1, n + 1, i, hn, hi => by
    have hlt : i < off.length := by omega
    obtain ⟨h1, h2⟩ := rng_loop N hl ho b k n (i + 1) (by omega) (by omega)
    have hw : IntKind.wrap .i64 ((l.length : Int) - 1) = (l.length : Int) - 1 := w64 (by omega) (by omega)
    have hr : r35_Total_1 N l off i = some (!inB off[i] 0 ((l.length : Int) - 1)) := by
      unfold r35_Total_1 inB
      rw [getI_nat (at_lt hlt)]
      simp only [bind_some']
      by_cases a : off[i] < 0
      · rw [if_pos (dpos a), decide_eq_false (show ¬ 0 ≤ off[i] by omega)]; rfl
      · rw [if_neg (dneg a), decide_eq_true (show 0 ≤ off[i] by omega)]
        by_cases b : (l.length : Int) ≤ off[i]
        · rw [decide_eq_true b, decide_eq_false (show ¬ off[i] ≤ (l.length : Int) - 1 by omega)]; rfl
        · rw [decide_eq_false b, decide_eq_true (show off[i] ≤ (l.length : Int) - 1 by omega)]; rfl
    rw [brake_Total_0, r35_Total_0, if_pos (dpos (by omega)), if_pos (dpos (by omega)), getI_nat (at_lt hlt), bind_some', hw, in_ok, hr, bind_some', bind_some', drop_at (at_lt hlt), lt_def, w64s (by omega), h1, h2, List.all_cons]
    by_cases h : inB off[i] 0 ((l.length : Int) - 1) = true
    · simp only [h, Bool.not_true, Bool.false_eq_true, if_false, Bool.true_and, and_self]
    · simp only [Bool.not_eq_true] at h
      simp only [h, Bool.not_false, if_true, Bool.false_and, Bool.false_eq_true, if_false, and_self]

/-- The marks of the brakes that are cut off. -/
def Marks (c : List Bool) (n : Nat) (off : List Int) : Prop := c.length = n ∧ ∀ j : Nat, j < n → c[j]? = some (decide ((j : Int) ∈ off))

theorem dup_loop (N : Nat) {off : List Int} (ho : off.length ≤ 1000) {m : Nat} (hr : ∀ o ∈ off, 0 ≤ o ∧ o ≤ (m : Int) - 1) (b : Brakes) : ∀ (k n i : Nat) (c : List Bool), k < n → i + k = off.length → (off.take i).Nodup → Marks c m (off.take i) →
    ∃ c', brake_Total_1 N off off.length n b c i = some (if off.Nodup then .inl (b, c') else .inr (Brakes.mk 0 0 0 0 0 0 0, 8)) ∧ (off.Nodup → Marks c' m off)
  | k, 0, i, c, hn, _, _, _ => by omega
  | 0, n + 1, i, c, hn, hi, hd, hm => by
    rw [brake_Total_1, if_neg (dneg (by omega))]
    rw [List.take_of_length_le (by omega)] at hd hm
    exact ⟨c, by rw [if_pos hd], fun _ => hm⟩
  | k + 1, n + 1, i, c, hn, hi, hd, hm => by
    have hlt : i < off.length := by omega
    obtain ⟨h0, h1⟩ := hr _ (List.getElem_mem hlt)
    obtain ⟨j, hj⟩ := Int.eq_ofNat_of_zero_le h0
    have hjm : j < m := by omega
    have hg := hm.2 j hjm
    have htk : off.take (i + 1) = off.take i ++ [off[i]] := List.take_succ_eq_append_getElem hlt
    rw [brake_Total_1, if_pos (dpos (by omega)), getI_nat (at_lt hlt), bind_some', hj, getI_nat hg]
    simp only [bind_some']
    by_cases hmem : (j : Int) ∈ off.take i
    · rw [if_pos (by simpa using hmem)]
      have hnd : ¬ off.Nodup := by
        intro h
        have h2 : (off.take (i + 1)).Nodup := List.Nodup.sublist (List.take_sublist _ _) h
        rw [htk, List.nodup_append] at h2
        exact h2.2.2 _ hmem _ (by simp) hj.symm
      exact ⟨c, by rw [if_neg hnd], fun h => absurd h hnd⟩
    · rw [if_neg (by simpa using hmem), lt_def, Int.toNat_natCast, w64s (by omega)]
      refine dup_loop N ho hr b k n (i + 1) (c.set j true) (by omega) (by omega) ?_ ⟨by simp [hm.1], fun q hq => ?_⟩
      · rw [htk, List.nodup_append]
        refine ⟨hd, by simp, fun x hx y hy => ?_⟩
        simp at hy
        subst hy
        rw [hj]
        intro e; subst e; exact hmem hx
      · rw [htk, List.getElem?_set]
        by_cases hq' : j = q
        · subst hq'
          rw [if_pos rfl, if_pos (by rw [hm.1]; exact hq)]
          simp [hj]
        · rw [if_neg hq', hm.2 q hq]
          congr 1
          rw [decide_eq_decide, hj]
          simp only [List.mem_append, List.mem_singleton]
          constructor
          · exact .inl
          · rintro (h | h)
            · exact h
            · omega

theorem rdup2_loop (N : Nat) (hN : 1001 ≤ N) {off : List Int} (ho : off.length ≤ 1000) (b : Brakes) : ∀ (k n i : Nat), k < n → i + k = off.length → (off.take i).Nodup →
    r35_Total_2 N off n b i = some (if off.Nodup then .inl b else .inr (Brakes.mk 0 0 0 0 0 0 0, 8))
  | k, 0, i, hn, _, _ => by omega
  | 0, n + 1, i, hn, hi, hd => by
    rw [r35_Total_2, if_neg (dneg (by omega))]
    rw [List.take_of_length_le (by omega)] at hd
    rw [if_pos hd]
  | k + 1, n + 1, i, hn, hi, hd => by
    have hlt : i < off.length := by omega
    have htk : off.take (i + 1) = off.take i ++ [off[i]] := List.take_succ_eq_append_getElem hlt
    rw [r35_Total_2, if_pos (dpos (by omega)), cutI_take (by omega), bind_some', getI_nat (at_lt hlt), bind_some', off_ok N (by rw [List.length_take]; omega) hN, bind_some']
    by_cases hmem : off[i] ∈ off.take i
    · rw [if_pos (by simpa using hmem), if_neg ?_]
      intro h
      have h2 : (off.take (i + 1)).Nodup := List.Nodup.sublist (List.take_sublist _ _) h
      rw [htk, List.nodup_append] at h2
      exact h2.2.2 _ hmem _ (by simp) rfl
    · rw [if_neg (by simpa using hmem), lt_def, w64s (by omega)]
      refine rdup2_loop N hN ho b k n (i + 1) (by omega) (by omega) ?_
      rw [htk, List.nodup_append]
      refine ⟨hd, by simp, fun x hx y hy => ?_⟩
      simp at hy
      subst hy
      intro e; subst e; exact hmem hx

/-- The braked mass of the wagons from number 'i' on. -/
def brk (off : List Int) : Nat → List Wagon → Int
  | _, [] => 0
  | i, w :: l => (if (i : Int) ∈ off then 0 else w.brake) + brk off (i + 1) l
theorem brk_bound {off : List Int} : ∀ {l : List Wagon} {i : Nat}, (∀ w ∈ l, 0 ≤ w.brake ∧ w.brake ≤ w.mass ∧ w.mass ≤ 2000) → 0 ≤ brk off i l ∧ brk off i l ≤ sumL (·.mass) l ∧ brk off i l ≤ 2000 * l.length
  | [], i, _ => by simp [brk, sumL]
  | w :: l, i, h => by
    have h1 := h w (by simp)
    have h2 := brk_bound (off := off) (l := l) (i := i + 1) fun x hx => h x (by simp [hx])
    simp only [brk, sumL_cons, List.length_cons]
    split <;> omega

theorem brk_loop (N : Nat) (hN : 1001 ≤ N) {l : List Wagon} (hl : l.length ≤ 100) (hv : ∀ w ∈ l, 0 ≤ w.brake ∧ w.brake ≤ w.mass ∧ w.mass ≤ 2000) {off : List Int} (ho : off.length ≤ 1000) {c : List Bool} (hm : Marks c l.length off) (x : Brakes) : ∀ (k n i : Nat) (s : Int), k < n → i + k = l.length → 0 ≤ s → s ≤ 2000 * i →
    brake_Total_2 N c l l.length n { x with braked := s } i = some { x with braked := s + brk off i (l.drop i) } ∧ r35_Total_3 N l off n { x with braked := s } i = some { x with braked := s + brk off i (l.drop i) }
  | k, 0, i, s, hn, _, _, _ => by omega
  | 0, n + 1, i, s, hn, hi, _, _ => by
    rw [brake_Total_2, r35_Total_3, if_neg (dneg (by omega)), if_neg (dneg (by omega)), List.drop_eq_nil_of_le (by omega)]
    simp [brk]
  | k + 1, n + 1, i, s, hn, hi, h0, h1 => by
    have hlt : i < l.length := by omega
    have hb := hv _ (List.getElem_mem hlt)
    have hp : brake_Total_3 N c { x with braked := s } l i = some { x with braked := s + (if (i : Int) ∈ off then 0 else l[i].brake) } := by
      unfold brake_Total_3
      rw [getI_nat (at_lt hlt), bind_some', getI_nat (hm.2 i hlt), bind_some']
      by_cases h : (i : Int) ∈ off
      · simp [h]
      · simp only [h, decide_false, Bool.not_false, if_true, if_false]
        rw [w64 (n := s + l[i].brake) (by omega) (by omega)]
    have hr : r35_Total_4 N l off { x with braked := s } i = some { x with braked := s + (if (i : Int) ∈ off then 0 else l[i].brake) } := by
      unfold r35_Total_4
      rw [off_ok N ho hN, bind_some']
      by_cases h : (i : Int) ∈ off
      · simp [h]
      · simp only [h, decide_false, Bool.not_false, if_true, if_false, getI_nat (at_lt hlt), bind_some']
        rw [w64 (n := s + l[i].brake) (by omega) (by omega)]
    obtain ⟨i1, i2⟩ := brk_loop N hN hl hv ho hm x k n (i + 1) (s + (if (i : Int) ∈ off then 0 else l[i].brake)) (by omega) (by omega) (by split <;> omega) (by split <;> omega)
    rw [brake_Total_2, r35_Total_3, if_pos (dpos (by omega)), if_pos (dpos (by omega)), hp, hr, bind_some', bind_some', lt_def, w64s (by omega), i1, i2, drop_at (at_lt hlt)]
    simp only [brk, Int.add_assoc, and_self]

/-- What 'Total' answers. -/
def tot (l : List Wagon) (off : List Int) : Brakes × Int :=
  if listErr l ≠ 0 then (Brakes.mk 0 0 0 0 0 0 0, listErr l) else if offErr l.length off ≠ 0 then (Brakes.mk 0 0 0 0 0 0 0, offErr l.length off)
  else (Brakes.mk (sumL (·.length) l) (sumL (·.axles) l) (sumL (·.mass) l) (brk off 0 l * factor (sumL (·.length) l) / 100)
    (if 0 < sumL (·.mass) l then 100 * (brk off 0 l * factor (sumL (·.length) l) / 100) / sumL (·.mass) l else 0) 0 0, 0)

theorem mass_pos {l : List Wagon} (h : listErr l = 0) : 50 * (l.length : Int) ≤ sumL (·.mass) l ∧ sumL (·.mass) l ≤ 2000 * l.length := by
  obtain ⟨_, hz, _⟩ := listErr_zero.1 h
  exact sumL_bound fun w hw => (wag_ranges (hz w hw)).2.1

theorem tot_ok (N : Nat) (hN : 1001 ≤ N) {l : List Wagon} (hF : l.length ≤ 96 → ∀ w ∈ l, Fu N w) {off : List Int} (ho : off.length ≤ 1000) : brake_Total N l off = some (tot l off) ∧ r35_Total N l off = some (tot l off) := by
  obtain ⟨h1, h2⟩ := total_ok N (by omega) hF
  unfold brake_Total r35_Total tot
  rw [h1, h2]
  simp only [bind_some']
  unfold totals
  by_cases he : listErr l = 0
  · obtain ⟨hl96, hz, _⟩ := listErr_zero.1 he
    have hv : ∀ w ∈ l, 0 ≤ w.brake ∧ w.brake ≤ w.mass ∧ w.mass ≤ 2000 := fun w hw => by have := wag_ranges (hz w hw); omega
    have hmk : mkI false (l.length : Int) = some (List.replicate l.length false) := by
      unfold mkI; rw [if_pos (by omega)]; simp
    obtain ⟨r1, r2⟩ := rng_loop N (l := l) (by omega) ho (Brakes.mk 0 0 0 0 0 0 0) off.length N 0 (by omega) (by omega)
    simp only [Int.natCast_zero, List.drop_zero] at r1 r2
    simp only [he, if_true, bne00, Bool.false_eq_true, if_false, hmk, bind_some', r1, r2, ne_eq, not_true_eq_false]
    unfold offErr
    by_cases hr : off.all (fun o => inB o 0 ((l.length : Int) - 1)) = true
    · have hr' : ∀ o ∈ off, 0 ≤ o ∧ o ≤ (l.length : Int) - 1 := fun o hm => inB_iff.1 (List.all_eq_true.1 hr o hm)
      obtain ⟨c, d1, d2⟩ := dup_loop N ho hr' (Brakes.mk 0 0 0 0 0 0 0) off.length N 0 (List.replicate l.length false) (by omega) (by omega) (by simp) ⟨by simp, fun j hj => by simp [hj]⟩
      have d3 := rdup2_loop N hN ho (Brakes.mk 0 0 0 0 0 0 0) off.length N 0 (by omega) (by omega) (by simp)
      simp only [Int.natCast_zero] at d1 d3
      simp only [hr, if_true, d1, d3, bind_some']
      by_cases hd : off.Nodup
      · obtain ⟨b1, b2⟩ := brk_loop N hN (l := l) (by omega) hv ho (d2 hd) (Brakes.mk (sumL (·.length) l) (sumL (·.axles) l) (sumL (·.mass) l) 0 0 0 0) l.length N 0 0 (by omega) (by omega) (by omega) (by omega)
        simp only [Int.natCast_zero, List.drop_zero, Int.zero_add] at b1 b2
        have hb := brk_bound (off := off) (i := 0) hv
        have hm := mass_pos he
        obtain ⟨f1, f2⟩ := factor_ok N (sumL (·.length) l)
        have hf := factor_bound (sumL (·.length) l)
        simp only [hd, if_true, b1, b2, f1, f2, bind_some', not_true_eq_false, if_false]
        generalize hB : brk off 0 l = B at hb ⊢
        generalize hFf : factor (sumL (·.length) l) = f at hf ⊢
        generalize hM : sumL (·.mass) l = M at hb hm ⊢
        have hBf : 0 ≤ B * f ∧ B * f ≤ 20000000 := by
          refine ⟨Int.mul_nonneg (by omega) (by omega), ?_⟩
          have : B * f ≤ 192000 * 100 := Int.mul_le_mul (by omega) (by omega) (by omega) (by omega)
          omega
        have e1 : IntKind.wrap .i64 (Int.tdiv (IntKind.wrap .i64 (B * f)) 100) = B * f / 100 := by
          rw [w64 (n := B * f) (by omega) (by omega), Int.tdiv_eq_ediv_of_nonneg hBf.1, w64 (by omega) (by omega)]
        rw [e1]
        generalize hC : B * f / 100 = C
        have hCb : 0 ≤ C ∧ C ≤ 200000 := by omega
        unfold brake_Total_4 r35_Total_5
        by_cases hpos : 0 < M
        · have e2 : divI (IntKind.wrap .i64 (100 * C)) M = some (100 * C / M) := by
            unfold divI
            rw [if_neg (by omega), w64 (by omega) (by omega), Int.tdiv_eq_ediv_of_nonneg (by omega)]
          have hq : 0 ≤ 100 * C / M ∧ 100 * C / M ≤ 20000000 := by
            refine ⟨Int.ediv_nonneg (by omega) (by omega), ?_⟩
            have := Int.ediv_le_self M (show 0 ≤ 100 * C by omega)
            omega
          simp only [hpos, decide_true, if_true, e2, bind_some']
          rw [w64 (n := 100 * C / M) (by omega) (by omega)]
          exact ⟨rfl, rfl⟩
        · simp only [hpos, decide_false, Bool.false_eq_true, if_false, bind_some', and_self]
      · simp only [hd, if_false]
        exact ⟨rfl, rfl⟩
    · simp only [hr, if_false]
      exact ⟨rfl, rfl⟩
  · have e0 : (listErr l != 0) = true := by simpa using he
    simp only [he, if_false, e0, if_true, ne_eq, not_false_eq_true, and_self]

/-! ### Sheets -/
def sheet (l : List Wagon) (off : List Int) (t : List BrakeRow) (s g : Int) : Brakes × Int :=
  if (tot l off).2 ≠ 0 then (Brakes.mk 0 0 0 0 0 0 0, (tot l off).2) else if (requ t s g).2 ≠ 0 then (Brakes.mk 0 0 0 0 0 0 0, (requ t s g).2)
  else ({ (tot l off).1 with required := (requ t s g).1, missing := max 0 (((requ t s g).1 * (tot l off).1.mass + 99) / 100 - (tot l off).1.braked) }, 0)

theorem requ_bound {t : List BrakeRow} {s g : Int} : 0 ≤ (requ t s g).1 ∧ (requ t s g).1 ≤ 250 := by
  unfold requ
  split
  · rename_i ht
    split
    · split
      · rename_i h
        obtain ⟨_, r, hr, _, he⟩ := req_min.2 h
        simp only [tblOk, Bool.and_eq_true, List.all_eq_true] at ht
        have := ht.1 r hr
        simp only [rowOk, Bool.and_eq_true, inB_iff] at this
        simp only []
        omega
      · simp
    · simp
  · simp
theorem tot_bound {l : List Wagon} {off : List Int} (h : (tot l off).2 = 0) : listErr l = 0 ∧ offErr l.length off = 0 ∧ 0 ≤ (tot l off).1.mass ∧ (tot l off).1.mass ≤ 192000 ∧ 0 ≤ (tot l off).1.braked ∧ (tot l off).1.braked ≤ 192000 := by
  unfold tot at h ⊢
  split at h
  · rename_i h1; exact absurd h h1
  · rename_i h1
    split at h
    · rename_i h2; exact absurd h h2
    · rename_i h2
      have he : listErr l = 0 := by simpa using h1
      obtain ⟨hl96, hz, _⟩ := listErr_zero.1 he
      have hv : ∀ w ∈ l, 0 ≤ w.brake ∧ w.brake ≤ w.mass ∧ w.mass ≤ 2000 := fun w hw => by have := wag_ranges (hz w hw); omega
      have hb := brk_bound (off := off) (i := 0) hv
      have hm := mass_pos he
      have hf := factor_bound (sumL (·.length) l)
      refine ⟨he, by simpa using h2, ?_⟩
      rw [if_neg h1, if_neg h2]
      simp only []
      generalize brk off 0 l = B at hb ⊢
      generalize factor (sumL (·.length) l) = f at hf ⊢
      have hBf : 0 ≤ B * f ∧ B * f ≤ 192000 * 100 := by
        refine ⟨Int.mul_nonneg (by omega) (by omega), Int.mul_le_mul (by omega) (by omega) (by omega) (by omega)⟩
      omega

theorem sheet_ok (N : Nat) (hN : 1001 ≤ N) {l : List Wagon} (hF : l.length ≤ 96 → ∀ w ∈ l, Fu N w) {off : List Int} (ho : off.length ≤ 1000) {t : List BrakeRow} (ht : t.length ≤ 1000) (s g : Int) :
    brake_Sheet N l off t s g = some (sheet l off t s g) ∧ r35_Sheet N l off t s g = some (sheet l off t s g) := by
  obtain ⟨h1, h2⟩ := tot_ok N hN hF ho
  obtain ⟨h3, h4⟩ := requ_ok N ht hN s g
  unfold brake_Sheet r35_Sheet sheet
  rw [h1, h2, h3, h4]
  simp only [bind_some']
  by_cases ha : (tot l off).2 = 0
  · by_cases hb : (requ t s g).2 = 0
    · have q := requ_bound (t := t) (s := s) (g := g)
      obtain ⟨_, _, m0, m1, b0, b1⟩ := tot_bound ha
      simp only [ha, hb, bne00, Bool.false_eq_true, if_false, ne_eq, not_true_eq_false]
      generalize (requ t s g).1 = R at q ⊢
      generalize hM : (tot l off).1.mass = M at m0 m1 ⊢
      generalize hC : (tot l off).1.braked = C at b0 b1 ⊢
      have hRM : 0 ≤ R * M ∧ R * M ≤ 250 * 192000 := ⟨Int.mul_nonneg (by omega) (by omega), Int.mul_le_mul (by omega) (by omega) (by omega) (by omega)⟩
      have e : IntKind.wrap .i64 (IntKind.wrap .i64 (Int.tdiv (IntKind.wrap .i64 (IntKind.wrap .i64 (R * M) + 99)) 100) - C) = (R * M + 99) / 100 - C := by
        rw [w64 (n := R * M) (by omega) (by omega), w64 (n := R * M + 99) (by omega) (by omega), Int.tdiv_eq_ediv_of_nonneg (by omega), w64 (n := (R * M + 99) / 100) (by omega) (by omega), w64 (by omega) (by omega)]
      rw [e]
      exact ⟨rfl, rfl⟩
    · have e0 : ((requ t s g).2 != 0) = true := by simpa using hb
      simp only [ha, bne00, hb, e0, if_true, Bool.false_eq_true, if_false, ne_eq, not_true_eq_false, not_false_eq_true, and_self]
  · have e0 : ((tot l off).2 != 0) = true := by simpa using ha
    simp only [ha, e0, if_true, ne_eq, not_false_eq_true, and_self]

/-! ### The fastest speed -/
def fastF (t : List BrakeRow) (g p : Int) : List BrakeRow → Int → Int
  | [], b => b
  | r :: l, b => fastF t g p l (if ((reqF r.speed g t (0, false)).2 && decide ((reqF r.speed g t (0, false)).1 ≤ p)) = true then max b r.speed else b)

theorem fast_loop (N : Nat) (hN : 1001 ≤ N) {t : List BrakeRow} (ht : t.length ≤ 1000) (g : Int) (x : Brakes) : ∀ (k n i : Nat) (b : Int), k < n → i + k = t.length →
    brake_Fastest_0 N t g x t t.length n b i = some (fastF t g x.percent (t.drop i) b) ∧ r35_Fastest_1 N t g x n b i = some (fastF t g x.percent (t.drop i) b)
  | k, 0, i, b, hn, _ => by omega
  | 0, n + 1, i, b, hn, hi => by
    rw [brake_Fastest_0, r35_Fastest_1, if_neg (dneg (by omega)), if_neg (dneg (by omega)), List.drop_eq_nil_of_le (by omega)]; exact ⟨rfl, rfl⟩
  | k + 1, n + 1, i, b, hn, hi => by
    have hlt : i < t.length := by omega
    obtain ⟨q1, q2⟩ := req_ok N ht hN t[i].speed g
    obtain ⟨i1, i2⟩ := fast_loop N hN ht g x k n (i + 1) (if ((reqF t[i].speed g t (0, false)).2 && decide ((reqF t[i].speed g t (0, false)).1 ≤ x.percent)) = true then max b t[i].speed else b) (by omega) (by omega)
    have hp : brake_Fastest_1 N t g x b t i = some (if ((reqF t[i].speed g t (0, false)).2 && decide ((reqF t[i].speed g t (0, false)).1 ≤ x.percent)) = true then max b t[i].speed else b) := by
      unfold brake_Fastest_1 brake_Fastest_2
      rw [getI_nat (at_lt hlt), bind_some', q1, bind_some']
      cases (reqF t[i].speed g t (0, false)).2 <;> cases decide ((reqF t[i].speed g t (0, false)).1 ≤ x.percent) <;> rfl
    have hr : r35_Fastest_2 N t g x b i = some (if ((reqF t[i].speed g t (0, false)).2 && decide ((reqF t[i].speed g t (0, false)).1 ≤ x.percent)) = true then max b t[i].speed else b) := by
      unfold r35_Fastest_2 r35_Fastest_3
      rw [getI_nat (at_lt hlt), bind_some', q2, bind_some']
      cases (reqF t[i].speed g t (0, false)).2 <;> cases decide ((reqF t[i].speed g t (0, false)).1 ≤ x.percent) <;> rfl
    rw [brake_Fastest_0, r35_Fastest_1, if_pos (dpos (by omega)), if_pos (dpos (by omega)), hp, hr, bind_some', bind_some', lt_def, w64s (by omega), i1, i2, drop_at (at_lt hlt)]
    exact ⟨rfl, rfl⟩

def fast (l : List Wagon) (off : List Int) (t : List BrakeRow) (g : Int) : Int × Int :=
  if (tot l off).2 ≠ 0 then (0, (tot l off).2) else if tblOk t = false then (0, 1) else if inB g 0 500 = false then (0, 2)
  else if fastF t g (tot l off).1.percent t 0 = 0 then (0, 15) else (fastF t g (tot l off).1.percent t 0, 0)

theorem fast_ok (N : Nat) (hN : 1001 ≤ N) {l : List Wagon} (hF : l.length ≤ 96 → ∀ w ∈ l, Fu N w) {off : List Int} (ho : off.length ≤ 1000) {t : List BrakeRow} (ht : t.length ≤ 1000) (g : Int) :
    brake_Fastest N l off t g = some (fast l off t g) ∧ r35_Fastest N l off t g = some (fast l off t g) := by
  obtain ⟨h1, h2⟩ := tot_ok N hN hF ho
  obtain ⟨h3, h4⟩ := tbl_ok N ht hN
  obtain ⟨h5, h6⟩ := fast_loop N hN ht g (tot l off).1 t.length N 0 0 (by omega) (by omega)
  simp only [Int.natCast_zero, List.drop_zero] at h5 h6
  have h7 : r35_Fastest_0 N g = some (!inB g 0 500) := by
    unfold r35_Fastest_0 inB
    by_cases c : g < 0
    · rw [if_pos (dpos c), decide_eq_false (show ¬ 0 ≤ g by omega)]; rfl
    rw [if_neg (dneg c), decide_eq_true (show 0 ≤ g by omega)]
    by_cases d : 500 < g
    · rw [decide_eq_true d, decide_eq_false (show ¬ g ≤ 500 by omega)]; rfl
    · rw [decide_eq_false d, decide_eq_true (show g ≤ 500 by omega)]; rfl
  unfold brake_Fastest r35_Fastest fast
  rw [h1, h2, h3, h4, h7]
  simp only [bind_some', lt_def, in_ok, h5, h6]
  by_cases ha : (tot l off).2 = 0
  · simp only [ha, bne00, Bool.false_eq_true, if_false, ne_eq, not_true_eq_false]
    cases tblOk t with
    | false => exact ⟨rfl, rfl⟩
    | true =>
      cases inB g 0 500 with
      | false => exact ⟨rfl, rfl⟩
      | true =>
        simp only [Bool.not_true, Bool.false_eq_true, if_false, Bool.true_eq_false]
        by_cases hz : fastF t g (tot l off).1.percent t 0 = 0
        · simp only [hz, beq_self_eq_true, if_true, and_self]
        · have e : (fastF t g (tot l off).1.percent t 0 == 0) = false := by simpa using hz
          simp only [hz, e, Bool.false_eq_true, if_false, and_self]
  · have e0 : ((tot l off).2 != 0) = true := by simpa using ha
    simp only [ha, e0, if_true, ne_eq, not_false_eq_true, and_self]

/-- All functions agree. -/
theorem exact_ok (N : Nat) (hN : 1001 ≤ N) {l : List Wagon} (hF : l.length ≤ 96 → ∀ w ∈ l, Fu N w) {off : List Int} (ho : off.length ≤ 1000) {t : List BrakeRow} (ht : t.length ≤ 1000) (s g : Int) : l35_exact N l off t s g = some true := by
  obtain ⟨a1, a2⟩ := tot_ok N hN hF ho
  obtain ⟨b1, b2⟩ := requ_ok N ht hN s g
  obtain ⟨c1, c2⟩ := sheet_ok N hN hF ho ht s g
  obtain ⟨d1, d2⟩ := fast_ok N hN hF ho ht g
  obtain ⟨e1, e2⟩ := tbl_ok N ht hN
  unfold l35_exact l35_exact_0
  rw [a1, a2, b1, b2, c1, c2, d1, d2, e1, e2]
  simp only [bind_some', beq_self_eq_true, decide_true, if_true, lt_def]
end Go.W
