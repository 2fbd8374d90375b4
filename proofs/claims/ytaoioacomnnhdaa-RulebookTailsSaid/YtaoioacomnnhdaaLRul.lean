/- Rules: when they are valid. -/
import Derived.Test.YtaoioacomnnhdaaLLoop
import Derived.Test.YtaoioacomnnhdaaLTot
set_option linter.unusedVariables false
set_option linter.unusedSimpArgs false
set_option maxRecDepth 100000
namespace Go.W
open Go.AM

def rvalid (r : Rule) : Bool := decide (1 ≤ r.number ∧ r.number ≤ 9999 ∧ 1 ≤ r.kind ∧ r.kind ≤ 9 ∧ 0 ≤ r.a ∧ r.a ≤ 1000000 ∧ 0 ≤ r.b ∧ r.b ≤ 1000000 ∧ 0 ≤ r.c ∧ r.c ≤ 1000000)
theorem rvalid_iff {r : Rule} : rvalid r = true ↔ 1 ≤ r.number ∧ r.number ≤ 9999 ∧ 1 ≤ r.kind ∧ r.kind ≤ 9 ∧ 0 ≤ r.a ∧ r.a ≤ 1000000 ∧ 0 ≤ r.b ∧ r.b ≤ 1000000 ∧ 0 ≤ r.c ∧ r.c ≤ 1000000 := by simp [rvalid]

theorem sbe {a b : Bool} (h : a = true ↔ b = true) : some a = some b := by rw [Bool.eq_iff_iff.2 h]
def n3 (x : Int) : Bool := decide (x < 0 ∨ 1000000 < x)
theorem rvr1 (N : Nat) (x : Int) : rulebook_valid_1 N x = some (n3 x) := by
  unfold rulebook_valid_1
  by_cases h : x < 0 <;> simp [n3, h]

theorem prule (N : Nat) (hN : 5 ≤ N) (r : Rule) : rulebook_valid N r = some (rvalid r) := by
  have hloop : ∀ n, rulebook_valid_0 N [r.a, r.b, r.c] 3 (n + 4) 0 = some (if n3 r.a = true ∨ n3 r.b = true ∨ n3 r.c = true then .inr false else .inl ()) := by
    intro n
    rw [rulebook_valid_0, if_pos (by decide), show getI [r.a, r.b, r.c] 0 = some r.a from rfl, bind_some', rvr1, bind_some']
    by_cases ha : n3 r.a = true
    · rw [if_pos ha, if_pos (.inl ha)]
    rw [if_neg ha, show IntKind.wrap .i64 (0 + 1) = 1 from rfl, rulebook_valid_0, if_pos (by decide), show getI [r.a, r.b, r.c] 1 = some r.b from rfl, bind_some', rvr1, bind_some']
    by_cases hb : n3 r.b = true
    · rw [if_pos hb, if_pos (.inr (.inl hb))]
    rw [if_neg hb, show IntKind.wrap .i64 (1 + 1) = 2 from rfl, rulebook_valid_0, if_pos (by decide), show getI [r.a, r.b, r.c] 2 = some r.c from rfl, bind_some', rvr1, bind_some']
    by_cases hc : n3 r.c = true
    · rw [if_pos hc, if_pos (.inr (.inr hc))]
    rw [if_neg hc, show IntKind.wrap .i64 (2 + 1) = 3 from rfl, rulebook_valid_0, if_neg (by decide), if_neg (by simp [ha, hb, hc])]
  have h2 : rulebook_valid_2 N r = some (decide (1 ≤ r.number ∧ r.number ≤ 9999 ∧ 1 ≤ r.kind ∧ r.kind ≤ 9)) := by
    unfold rulebook_valid_2
    by_cases a : 1 ≤ r.number <;> by_cases b : r.number ≤ 9999 <;> by_cases c : 1 ≤ r.kind <;> simp [a, b, c, lt_def]
  obtain ⟨M, rfl⟩ : ∃ M, N = (M + 1) + 4 := ⟨N - 5, by omega⟩
  unfold rulebook_valid
  rw [show (([r.a, r.b, r.c] : List Int).length : Int) = 3 from rfl, hloop, bind_some', h2]
  by_cases h : n3 r.a = true ∨ n3 r.b = true ∨ n3 r.c = true
  · rw [if_pos h]
    simp only [n3, decide_eq_true_eq] at h
    refine sbe ?_
    simp only [rvalid_iff, Bool.false_eq_true, false_iff]
    omega
  · rw [if_neg h]
    simp only [n3, decide_eq_true_eq] at h
    rw [bind_some']
    refine sbe ?_
    simp only [rvalid_iff, decide_eq_true_eq]
    omega

theorem rrule (N : Nat) (r : Rule) : r36_valid N r = some (rvalid r) := by
  have h1 : r36_valid_0 N r = some (!decide (1 ≤ r.number ∧ r.number ≤ 9999 ∧ 1 ≤ r.kind ∧ r.kind ≤ 9)) := by
    unfold r36_valid_0
    simp only [decide_eq_true_eq]
    repeat' split
    all_goals
      refine sbe ?_
      simp only [decide_eq_true_eq, Bool.not_eq_true', decide_eq_false_iff_not, true_iff]
      omega
  have h2 : r36_valid_1 N r = some (decide (0 ≤ r.a ∧ r.a ≤ 1000000 ∧ 0 ≤ r.b ∧ r.b ≤ 1000000 ∧ 0 ≤ r.c ∧ r.c ≤ 1000000)) := by
    unfold r36_valid_1
    simp only [decide_eq_true_eq, lt_def]
    repeat' split
    all_goals
      refine sbe ?_
      simp only [decide_eq_true_eq, Bool.false_eq_true, false_iff]
      omega
  unfold r36_valid
  rw [h1, bind_some', h2]
  by_cases h : 1 ≤ r.number ∧ r.number ≤ 9999 ∧ 1 ≤ r.kind ∧ r.kind ≤ 9
  · rw [decide_eq_true h, if_neg (by decide), bind_some']
    refine sbe ?_
    simp only [rvalid_iff, decide_eq_true_eq]
    omega
  · rw [decide_eq_false h, if_pos (by decide)]
    refine sbe ?_
    simp only [rvalid_iff, Bool.false_eq_true, false_iff]
    omega

/-! ### Lists of rules -/
def rp (l : List Rule) (i : Nat) (x : Rule) : Bool := !rvalid x || decide (x.number ∈ (l.take i).map (·.number))
def rout (x : Rule) : Int := if rvalid x = true then 8 else 1
/-- The error of a list of rules. -/
def rErr (l : List Rule) : Int := if 32 < l.length then 3 else match res (rp l) (fun _ x => rout x) 0 l with | .inl _ => 0 | .inr e => e

theorem mem_nums {l : List Rule} {x : Rule} : (x.number ∈ l.map (·.number)) ↔ ∃ (j : Nat) (y : Rule), l[j]? = some y ∧ (y.number == x.number) = true := by
  rw [List.mem_map]
  constructor
  · rintro ⟨y, hy, he⟩
    obtain ⟨j, hj⟩ := List.getElem?_of_mem hy
    exact ⟨j, y, hj, by simpa using he⟩
  · rintro ⟨j, y, hj, he⟩
    exact ⟨y, List.mem_of_getElem? hj, by simpa using he⟩

theorem cont_ok (N : Nat) (hN : 1001 ≤ N) {l : List Rule} (hl : l.length ≤ 1000) (x : Rule) : slices_ContainsFunc_api_Rule_api_Rule__rulebook_Valid_1 N l x = some (decide (x.number ∈ l.map (·.number))) := by
  have h := first_gen (l := l) (fun _ y => y.number == x.number) (fun i _ => (i : Int)) (fun n i => slices_IndexFunc_api_Rule_api_Rule__rulebook_Valid_1_0 N l x l.length n i) (fun n => by
    show slices_IndexFunc_api_Rule_api_Rule__rulebook_Valid_1_0 N l x l.length (n + 1) _ = _
    rw [slices_IndexFunc_api_Rule_api_Rule__rulebook_Valid_1_0, if_neg (dneg (by omega))]) (fun n i y hy => by
    show slices_IndexFunc_api_Rule_api_Rule__rulebook_Valid_1_0 N l x l.length (n + 1) _ = _
    have hlt := (List.getElem?_eq_some_iff.1 hy).1
    rw [slices_IndexFunc_api_Rule_api_Rule__rulebook_Valid_1_0, if_pos (dpos (by omega)), getI_nat hy, bind_some', w64s (by omega)]
    rfl) l.length N 0 (by omega) (by omega)
  simp only [Int.natCast_zero, List.drop_zero] at h
  unfold slices_ContainsFunc_api_Rule_api_Rule__rulebook_Valid_1 slices_IndexFunc_api_Rule_api_Rule__rulebook_Valid_1
  rw [h, bind_some']
  rcases res_first (fun _ (y : Rule) => y.number == x.number) l 0 with ⟨h1, h2⟩ | ⟨h1, h2⟩
  · rw [h1]
    rcases firstI_spec (fun _ (y : Rule) => y.number == x.number) l 0 with ⟨_, h4⟩ | ⟨j, y, h4, _⟩
    · rw [decide_eq_false]
      · rfl
      · intro hm
        obtain ⟨j, y, hj, he⟩ := mem_nums.1 hm
        have := h4 j y hj
        rw [he] at this; cases this
    · rw [h2] at h4; omega
  · rw [h1]
    rcases firstI_spec (fun _ (y : Rule) => y.number == x.number) l 0 with ⟨h3, _⟩ | ⟨j, y, h4, h5, h6, _⟩
    · omega
    · rw [decide_eq_true (mem_nums.2 ⟨j, y, h5, h6⟩)]
      simp only [bind_some', lt_def, lpos h2]

theorem rcont_ok (N : Nat) {l : List Rule} (hl : l.length ≤ 1000) {i : Nat} {x : Rule} (hx : l[i]? = some x) (hN : 1001 ≤ N) : r36_Valid_1 N l i N 0 = some (if x.number ∈ (l.take i).map (·.number) then .inr 8 else .inl ()) := by
  have hi := (List.getElem?_eq_some_iff.1 hx).1
  have hlen : (l.take i).length = i := by simp; omega
  have h := first_gen (l := l.take i) (fun _ y => y.number == x.number) (fun i _ => (8 : Int)) (fun n k => r36_Valid_1 N l i n k) (fun n => by
    show r36_Valid_1 N l i (n + 1) _ = _
    rw [r36_Valid_1, if_neg (dneg (by omega))]) (fun n k y hy => by
    show r36_Valid_1 N l i (n + 1) _ = _
    have hlt := (List.getElem?_eq_some_iff.1 hy).1
    have hy' : l[k]? = some y := by rw [List.getElem?_take] at hy; split at hy <;> simp_all
    rw [r36_Valid_1, if_pos (dpos (by omega)), getI_nat hy', bind_some', getI_nat hx, bind_some', lt_def, w64s (by omega)]) i N 0 (by omega) (by omega)
  simp only [Int.natCast_zero, List.drop_zero] at h
  rw [h]
  congr 1
  have key : ∀ (m : List Rule) (i : Nat), res (fun _ (y : Rule) => y.number == x.number) (fun i _ => (8 : Int)) i m = if x.number ∈ m.map (·.number) then .inr 8 else .inl () := by
    intro m
    induction m with
    | nil => intro i; rfl
    | cons y m ih =>
      intro i
      rw [res]
      by_cases he : y.number = x.number
      · rw [if_pos (by simpa using he), if_pos (by simp [he])]
      · rw [if_neg (by simpa using he), ih]
        have : (x.number ∈ (y :: m).map (·.number)) ↔ x.number ∈ m.map (·.number) := by
          simp only [List.map_cons, List.mem_cons]
          constructor
          · rintro (h | h)
            · exact absurd h.symm he
            · exact h
          · exact .inr
        by_cases hm : x.number ∈ m.map (·.number)
        · rw [if_pos hm, if_pos (this.2 hm)]
        · rw [if_neg hm, if_neg (fun h => hm (this.1 h))]
  exact key _ _

theorem rules_ok (N : Nat) (hN : 1001 ≤ N) {l : List Rule} (hl : l.length ≤ 1000) : rulebook_Valid N l = some (rErr l) ∧ r36_Valid N l = some (rErr l) := by
  unfold rulebook_Valid r36_Valid rErr
  by_cases h32 : 32 < l.length
  · rw [if_pos (dpos (by omega)), if_pos (dpos (by omega)), if_pos h32]; exact ⟨rfl, rfl⟩
  · rw [if_neg (dneg (by omega)), if_neg (dneg (by omega)), if_neg h32]
    have h1 := first_gen (l := l) (rp l) (fun _ x => rout x) (fun n i => rulebook_Valid_0 N l l l.length n i) (fun n => by
      show rulebook_Valid_0 N l l l.length (n + 1) _ = _
      rw [rulebook_Valid_0, if_neg (dneg (by omega))]) (fun n i x hx => by
      show rulebook_Valid_0 N l l l.length (n + 1) _ = _
      have hlt := (List.getElem?_eq_some_iff.1 hx).1
      rw [rulebook_Valid_0, if_pos (dpos (by omega)), getI_nat hx, bind_some', prule N (by omega), bind_some', cutI_take (by omega), bind_some', cont_ok N hN (by simp; omega), bind_some', w64s (by omega), rp, rout]
      cases rvalid x
      · rfl
      · simp only [Bool.not_true, Bool.false_eq_true, if_false, Bool.false_or, if_true]) l.length N 0 (by omega) (by omega)
    have h2 := first_gen (l := l) (rp l) (fun _ x => rout x) (fun n i => r36_Valid_0 N l n i) (fun n => by
      show r36_Valid_0 N l (n + 1) _ = _
      rw [r36_Valid_0, if_neg (dneg (by omega))]) (fun n i x hx => by
      show r36_Valid_0 N l (n + 1) _ = _
      have hlt := (List.getElem?_eq_some_iff.1 hx).1
      rw [r36_Valid_0, if_pos (dpos (by omega)), getI_nat hx, bind_some', rrule N, bind_some', rcont_ok N hl hx hN, bind_some', rp, rout]
      cases rvalid x
      · rfl
      · simp only [Bool.not_true, Bool.false_eq_true, if_false, Bool.false_or, if_true, decide_eq_true_eq]
        by_cases hm : x.number ∈ (l.take i).map (·.number)
        · rw [if_pos hm, if_pos hm]
        · rw [if_neg hm, if_neg hm]
          simp only [lt_def, w64s (show i < 9223372036854775807 by omega)]) l.length N 0 (by omega) (by omega)
    simp only [Int.natCast_zero, List.drop_zero] at h1 h2
    rw [h1, h2, bind_some']
    cases res (rp l) (fun _ x => rout x) 0 l <;> exact ⟨rfl, rfl⟩
theorem rErr_zero {l : List Rule} (h : rErr l = 0) : l.length ≤ 32 ∧ ∀ x ∈ l, rvalid x = true := by
  unfold rErr at h
  split at h
  · cases h
  · rename_i h32
    refine ⟨by omega, ?_⟩
    have key : ∀ (m : List Rule) (i : Nat), (match res (rp l) (fun _ x => rout x) i m with | .inl _ => (0 : Int) | .inr e => e) = 0 → ∀ x ∈ m, rvalid x = true := by
      intro m
      induction m with
      | nil => intro i _ x hx; simp at hx
      | cons y m ih =>
        intro i h x hx
        rw [res] at h
        by_cases hp : rp l i y = true
        · rw [if_pos hp] at h
          simp only [rout] at h
          split at h <;> cases h
        · rw [if_neg hp] at h
          rcases List.mem_cons.1 hx with rfl | hx
          · simp only [rp, Bool.or_eq_true, not_or, Bool.not_eq_true'] at hp
            simpa using hp.1
          · exact ih _ h x hx
    exact key l 0 h
end Go.W
