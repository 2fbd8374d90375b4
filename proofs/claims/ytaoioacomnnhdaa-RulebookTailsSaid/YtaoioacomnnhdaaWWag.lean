/- Wagons that the maker makes are valid. -/
import Derived.Test.YtaoioacomnnhdaaWNum2
set_option linter.unusedVariables false
set_option linter.unusedSimpArgs false
set_option maxRecDepth 100000
namespace Go.W
open Go.AM

/-- The number that the digits 8 to 10 tell. -/
def tagOf (l : List UInt8) : Int := (((l[8]?).map fun u => (u.toNat : Int) - 48).getD 0) * 100 + (((l[9]?).map fun u => (u.toNat : Int) - 48).getD 0) * 10 + ((l[10]?).map fun u => (u.toNat : Int) - 48).getD 0

theorem number_ok (M : Nat) {c : Int} {s : Maker} {x1 : Int} (hs : Mk c s) (hc : c ≤ 1000000000) (h0 : 0 ≤ x1) (h1 : x1 ≤ 1000000) :
    ∃ num s' u, Maker_Number (M + 60) s x1 = some (num, s') ∧ Mk (c + 11) s' ∧ getI num 4 = some u ∧ wagonnumber_Valid (M + 60) num = some 0 ∧ (x1 ≤ 999 → tagOf num = x1) ∧ num.length = 12 := by
  obtain ⟨l, s', g1, g2, g3, g4⟩ := digits_ok M hs hc
  have t1 : ∀ q : Int, 0 ≤ Int.tmod q 10 ∨ q < 0 := fun q => by by_cases hq : 0 ≤ q; exact .inl (Int.tmod_nonneg _ hq); exact .inr (by omega)
  have dg : ∀ q : Int, 0 ≤ q → ∃ u, toU8 (IntKind.wrap .u8 (IntKind.wrap .i64 (48 + Int.tmod q 10))) = some u ∧ Dig u ∧ (u.toNat : Int) = 48 + Int.tmod q 10 := fun q hq => by
    obtain ⟨u, a, b, e⟩ := dig_u8 (Int.tmod_nonneg 10 hq) (Int.tmod_lt_of_pos q (by omega : (0 : Int) < 10))
    exact ⟨u, a, b, e⟩
  have q1 : 0 ≤ IntKind.wrap .i64 (Int.tdiv x1 100) := by rw [Int.tdiv_eq_ediv_of_nonneg h0, w64 (by omega) (by omega)]; omega
  have q2 : 0 ≤ IntKind.wrap .i64 (Int.tdiv x1 10) := by rw [Int.tdiv_eq_ediv_of_nonneg h0, w64 (by omega) (by omega)]; omega
  obtain ⟨u1, a1, b1, v1⟩ := dg _ q1
  obtain ⟨u2, a2, b2, v2⟩ := dg _ q2
  obtain ⟨u3, a3, b3, v3⟩ := dg _ h0
  have hap : appI l [] = some l := by simp [appI, LIM, g3]
  have hset : ∀ (l : List UInt8) (i : Nat) (u : UInt8), (∀ w ∈ l, Dig w) → Dig u → ∀ w ∈ l.set i u, Dig w := fun l i u hl hu w hw => by
    rcases List.mem_or_eq_of_mem_set hw with hw | hw
    · exact hl w hw
    · subst hw; exact hu
  have d1 := hset l 8 u1 g4 b1
  have d2 := hset _ 9 u2 d1 b2
  have d3 := hset _ 10 u3 d2 b3
  obtain ⟨y, u, e1, e2, e3, e4, e5⟩ := valid_ok M (l := ((l.set 8 u1).set 9 u2).set 10 u3) (by simp [g3]) d3
  obtain ⟨x8, hx8, _⟩ := getI_ok (xs := l) (i := 8) (by omega) (by omega)
  obtain ⟨x9, hx9, _⟩ := getI_ok (xs := l.set 8 u1) (i := 9) (by omega) (by simp [g3])
  obtain ⟨x10, hx10, _⟩ := getI_ok (xs := (l.set 8 u1).set 9 u2) (i := 10) (by omega) (by simp [g3])
  obtain ⟨x4, hx4, _⟩ := getI_ok (xs := ((l.set 8 u1).set 9 u2).set 10 u3 ++ [u]) (i := 4) (by omega) (by simp [g3])
  have htag : x1 ≤ 999 → tagOf (((l.set 8 u1).set 9 u2).set 10 u3 ++ [u]) = x1 := by
    intro h999
    have l8 : (((l.set 8 u1).set 9 u2).set 10 u3 ++ [u])[8]? = some u1 := by rw [List.getElem?_append_left (by simp [g3])]; simp [List.getElem?_set, g3]
    have l9 : (((l.set 8 u1).set 9 u2).set 10 u3 ++ [u])[9]? = some u2 := by rw [List.getElem?_append_left (by simp [g3])]; simp [List.getElem?_set, g3]
    have l10 : (((l.set 8 u1).set 9 u2).set 10 u3 ++ [u])[10]? = some u3 := by rw [List.getElem?_append_left (by simp [g3])]; simp [List.getElem?_set, g3]
    rw [Int.tdiv_eq_ediv_of_nonneg h0, w64 (by omega) (by omega), Int.tmod_eq_emod_of_nonneg (by omega)] at v1 v2
    rw [Int.tmod_eq_emod_of_nonneg h0] at v3
    unfold tagOf
    rw [l8, l9, l10]
    simp only [Option.map_some, Option.getD_some]
    omega
  refine ⟨_, s', x4, ?_, g2, hx4, e5, htag, by simp [g3]⟩
  unfold Maker_Number
  rw [g1, bind_some']
  simp only [hap, bind_some', hx8, a1, lt_def]
  rw [show ((8 : Int)).toNat = 8 from rfl, hx9]
  simp only [bind_some', a2, lt_def]
  rw [show ((9 : Int)).toNat = 9 from rfl, hx10]
  simp only [bind_some', a3, lt_def]
  rw [show ((10 : Int)).toNat = 10 from rfl, e1]
  simp only [bind_some', e2, e4]

def kd (t : Int) : Int := if t = 55 ∨ t = 56 then 1 else if t = 50 ∨ t = 52 then 2 else if t = 57 then 3 else 0

theorem kind_ok {N : Nat} {num : List UInt8} {u : UInt8} (h : wagonnumber_Valid N num = some 0) (hu : getI num 4 = some u) : wagonnumber_Kind N num = some (kd u.toNat, 0) := by
  unfold wagonnumber_Kind wagonnumber_Kind_0 wagonnumber_Kind_1 kd
  rw [h, bind_some', if_neg (by simp), hu, bind_some']
  simp only [lt_def]
  by_cases h1 : (u.toNat : Int) = 55
  · simp [h1]
  by_cases h2 : (u.toNat : Int) = 56
  · simp [h1, h2]
  by_cases h3 : (u.toNat : Int) = 50
  · simp [h1, h2, h3]
  by_cases h4 : (u.toNat : Int) = 52
  · simp [h1, h2, h3, h4]
  by_cases h5 : (u.toNat : Int) = 57
  · simp [h1, h2, h3, h4, h5]
  · simp [h1, h2, h3, h4, h5]

/-- A good wagon of a kind. -/
structure GW (N : Nat) (k : Int) (w : Wagon) : Prop where
  num : wagonnumber_Kind N w.number = some (k, 0)
  kind : k = 0 ∨ k = 1 ∨ k = 2 ∨ k = 3
  ax : w.axles = if k = 2 then 2 else if k = 3 then 6 else 4
  len : w.length ∈ ([80, 120, 142, 199, 262, 400] : List Int)
  len3 : k = 3 → 120 ≤ w.length
  mass : 50 ≤ w.mass ∧ w.mass ≤ 2000
  brake : 0 ≤ w.brake ∧ w.brake ≤ w.mass
  goods : 0 ≤ w.goods ∧ w.goods ≤ 9
  dest : consist_name N w.dest = some true

theorem GW.valid {N : Nat} {k : Int} {w : Wagon} (h : GW N k w) : consist_Valid N w = some 0 := by
  have hl : 80 ≤ w.length ∧ w.length ≤ 400 := by
    have := h.len
    simp only [List.mem_cons, List.not_mem_nil, or_false] at this
    omega
  have h3 := h.len3
  obtain ⟨main_main, gosem_cut⟩ := h.mass
  obtain ⟨b0, b1⟩ := h.brake
  obtain ⟨g0, g1⟩ := h.goods
  have hax := h.ax
  have e2 : consist_Valid_2 N w = some false := by
    unfold consist_Valid_2
    rw [if_neg (by simp; omega), if_neg (by simp; omega), if_neg (by simp; omega), lt_def]
    congr 1; simp; omega
  have e1 : ∀ x5, x5 ≤ w.length → consist_Valid_1 N w x5 = some false := fun x5 hx => by
    unfold consist_Valid_1
    rw [if_neg (by simp; omega), if_neg (by simp; omega), if_neg (by simp; omega), lt_def]
    congr 1; simp; omega
  unfold consist_Valid
  rw [h.num, bind_some']
  simp only []
  rw [if_neg (by simp)]
  rcases h.kind with hk | hk | hk | hk <;> subst hk <;> simp at hax h3 <;> simp [consist_Valid_0, consist_axles, lt_def, hax, e2, h.dest, e1 80 hl.1] <;> simp [e1 120 h3, e2, h.dest]

theorem name_ok (M : Nat) {c : Int} {s : Maker} (hs : Mk c s) (hc : c ≤ 1000000000) : ∃ nm s', Maker_Name (M + 60) s = some (nm, s') ∧ Mk (c + 1) s' ∧ consist_name (M + 60) nm = some true ∧ nm.length ≤ 12 := by
  obtain ⟨r, s', h1, h2, h3, h4⟩ := next_ok (M + 60) 10 (by omega) (by omega) hs (by omega)
  unfold Maker_Name
  rw [h1, bind_some']
  obtain ⟨x, hx, hm, _⟩ := getI_ok (xs := ([[97], [98], [99], [100], [101], [110, 111, 114, 116, 104], [115, 111, 117, 116, 104], [112, 111, 114, 116, 49], [120, 57], [97, 98, 99, 100, 101, 102, 103, 104, 105, 106, 107, 108]] : List (List UInt8))) h2 (by simpa using h3)
  simp only [hx, bind_some']
  refine ⟨x, s', rfl, h4, ?_⟩
  simp only [List.mem_cons, List.not_mem_nil, or_false] at hm
  rcases hm with rfl | rfl | rfl | rfl | rfl | rfl | rfl | rfl | rfl | rfl <;> exact ⟨rfl, by decide⟩

theorem wagon_ok (M : Nat) {c : Int} {s : Maker} {x1 : Int} (hs : Mk c s) (hc : c ≤ 900000000) (h0 : 0 ≤ x1) (h1 : x1 ≤ 1000000) :
    ∃ w s' k, Maker_Wagon (M + 60) s x1 = some (w, s') ∧ Mk (c + 17) s' ∧ GW (M + 60) k w ∧ (x1 ≤ 999 → tagOf w.number = x1) ∧ w.number.length = 12 ∧ w.dest.length ≤ 12 := by
  obtain ⟨num, s1, u, a1, a2, a3, a4, a5, a6⟩ := number_ok M hs (by omega) h0 h1
  obtain ⟨len, s2, b1, b2, b3⟩ := pick_ok (M + 60) [80, 120, 142, 199, 262, 400] (by simp) (by simp) a2 (by omega)
  obtain ⟨mass, s3, c1, c2, c3⟩ := pick_ok (M + 60) [50, 120, 400, 800, 2000] (by simp) (by simp) b3 (by omega)
  obtain ⟨goods, s4, d1, d2, d3⟩ := pick_ok (M + 60) [0, 0, 0, 1, 3, 9] (by simp) (by simp) c3 (by omega)
  obtain ⟨r, s5, e1, e2, e3, e4⟩ := next_ok (M + 60) 5 (by omega) (by omega) d3 (by omega)
  obtain ⟨nm, s6, f1, f2, f3, f4⟩ := name_ok M e4 (by omega)
  obtain ⟨q, s7, g1, g2, g3, g4⟩ := next_ok (M + 60) 5 (by omega) (by omega) f2 (by omega)
  have hk := kind_ok a4 a3
  have hm : 50 ≤ mass ∧ mass ≤ 2000 := by simp only [List.mem_cons, List.not_mem_nil, or_false] at c2; omega
  have hg : 0 ≤ goods ∧ goods ≤ 9 := by simp only [List.mem_cons, List.not_mem_nil, or_false] at d2; omega
  have hb : 0 ≤ IntKind.wrap .i64 (Int.tdiv (IntKind.wrap .i64 (mass * q)) 4) ∧ IntKind.wrap .i64 (Int.tdiv (IntKind.wrap .i64 (mass * q)) 4) ≤ mass := by
    have hq : q = 0 ∨ q = 1 ∨ q = 2 ∨ q = 3 ∨ q = 4 := by omega
    have hle : 0 ≤ mass * q ∧ mass * q ≤ mass * 4 := by rcases hq with rfl | rfl | rfl | rfl | rfl <;> omega
    rw [w64 (n := mass * q) (by omega) (by omega), Int.tdiv_eq_ediv_of_nonneg hle.1, w64 (by omega) (by omega)]
    omega
  have hmk : Mk (c + 17) s7 := by rw [show c + 17 = c + 11 + 1 + 1 + 1 + 1 + 1 + 1 by omega]; exact g4
  unfold Maker_Wagon
  simp only [a1, b1, c1, d1, e1, f1, a3, g1, bind_some']
  have ht : (u.toNat : Int) = 50 ∨ (u.toNat : Int) = 52 ∨ (u.toNat : Int) = 57 ∨ (u.toNat : Int) = 55 ∨ (u.toNat : Int) = 56 ∨ ((u.toNat : Int) ≠ 50 ∧ (u.toNat : Int) ≠ 52 ∧ (u.toNat : Int) ≠ 57 ∧ (u.toNat : Int) ≠ 55 ∧ (u.toNat : Int) ≠ 56) := by omega
  unfold Maker_Wagon_0 Maker_Wagon_1
  rcases ht with ht | ht | ht | ht | ht | ⟨n1, n2, n3, n4, n5⟩
  · rw [ht] at hk ⊢
    exact ⟨_, _, 2, rfl, hmk, ⟨hk, by simp, by simp, b2, by simp, hm, hb, hg, f3⟩, a5, a6, f4⟩
  · rw [ht] at hk ⊢
    exact ⟨_, _, 2, rfl, hmk, ⟨hk, by simp, by simp, b2, by simp, hm, hb, hg, f3⟩, a5, a6, f4⟩
  · rw [ht] at hk ⊢
    refine ⟨_, _, 3, rfl, hmk, ⟨hk, by simp, by simp, ?_, ?_, hm, hb, hg, f3⟩, a5, a6, f4⟩
    · simp only [List.mem_cons, List.not_mem_nil, or_false] at b2 ⊢
      rcases b2 with rfl | rfl | rfl | rfl | rfl | rfl <;> omega
    · intro _
      exact Int.le_max_right _ _
  · rw [ht] at hk ⊢
    exact ⟨_, _, 1, rfl, hmk, ⟨hk, by simp, by simp, b2, by simp, hm, hb, hg, f3⟩, a5, a6, f4⟩
  · rw [ht] at hk ⊢
    exact ⟨_, _, 1, rfl, hmk, ⟨hk, by simp, by simp, b2, by simp, hm, hb, hg, f3⟩, a5, a6, f4⟩
  · have hk0 : kd u.toNat = 0 := by unfold kd; rw [if_neg (by omega), if_neg (by omega), if_neg (by omega)]
    rw [hk0] at hk
    have hb50 : ((u.toNat : Int) == 50) = false := by simpa using n1
    have hb52 : ((u.toNat : Int) == 52) = false := by simpa using n2
    have hb57 : ((u.toNat : Int) == 57) = false := by simpa using n3
    simp only [lt_def, hb50, hb52, hb57, Bool.false_eq_true, if_false, bind_some']
    exact ⟨_, _, 0, rfl, hmk, ⟨hk, by simp, by simp, b2, by simp, hm, hb, hg, f3⟩, a5, a6, f4⟩
end Go.W
