/- LRp4 LRp5 LRpP LRpS LSoJ LSo1 LSo2 LSo3 LSo4 LSo5 LSo6 LSoL LSoK LSo -/
import Derived.Test.YtnmaanodnakopaaMe
section
set_option linter.unusedVariables false
set_option linter.unusedSimpArgs false
namespace Go.W
open Go.AM
def passF (d : Disorder) (a : List Spot) (rd : Nat → Int) (n : Int) : Nat → List Item → List Pull
  | _, [] => []
  | i, _ :: l => (if 0 ≤ rd i then [] else (match whyF d a rd i n with | some p => [p] | none => [])) ++ passF d a rd n (i + 1) l
theorem pass_mem {d : Disorder} {a : List Spot} {rd : Nat → Int} {n : Int} {p : Pull} : ∀ {l : List Item} {i : Nat}, p ∈ passF d a rd n i l ↔ ∃ x, i ≤ x ∧ x < i + l.length ∧ ¬ 0 ≤ rd x ∧ whyF d a rd x n = some p
  | [], i => by simp [passF]; omega
  | y :: l, i => by
    rw [passF, List.mem_append, pass_mem]
    constructor
    · rintro (h | ⟨x, h1, h2, h3⟩)
      · split at h
        · simp at h
        · rename_i hn
          split at h
          · rename_i q hq
            simp at h; subst h
            exact ⟨i, Nat.le_refl _, by simp, hn, hq⟩
          · simp at h
      · exact ⟨x, by omega, by simp; omega, h3⟩
    · rintro ⟨x, h1, h2, h3, h4⟩
      by_cases hx : x = i
      · subst hx
        left
        rw [if_neg h3, h4]; simp
      · exact .inr ⟨x, by omega, by simp at h2; omega, h3, h4⟩
theorem pass_len {d : Disorder} {a : List Spot} {rd : Nat → Int} {n : Int} : ∀ {l : List Item} {i : Nat}, (passF d a rd n i l).length ≤ l.length
  | [], i => by simp [passF]
  | y :: l, i => by
    rw [passF, List.length_append]
    have := pass_len (d := d) (a := a) (rd := rd) (n := n) (l := l) (i := i + 1)
    have : (if 0 ≤ rd i then ([] : List Pull) else (match whyF d a rd i n with | some p => [p] | none => [])).length ≤ 1 := by
      split
      · simp
      · split <;> simp
    simp; omega
theorem pass_inc {d : Disorder} {a : List Spot} {rd : Nat → Int} {n : Int} : ∀ {l : List Item} {i : Nat}, (passF d a rd n i l).Pairwise fun p q => p.item < q.item
  | [], i => by simp [passF]
  | y :: l, i => by
    rw [passF, List.pairwise_append]
    refine ⟨?_, pass_inc, fun p hp q hq => ?_⟩
    · split
      · simp
      · split <;> simp
    · obtain ⟨x, h1, h2, h3, h4⟩ := pass_mem.1 hq
      have hqx := (whyF_some h4).1
      split at hp
      · simp at hp
      · split at hp
        · rename_i q' hq'
          simp at hp; subst hp
          have := (whyF_some hq').1
          omega
        · simp at hp
theorem pass_ok {d : Disorder} {a : List Spot} {rd : List Int} (hS : Sc d a rd) (N : Nat) (hN : 200 ≤ N) (n : Int) (d0 : Disorder) (hd : d0 = d) : ∀ (k m i : Nat) (out : List Pull), k < m → i + k = d.items.length → out.length + k ≤ 200 →
    zaT_1 N (Scene.mk d0 [] []) n (d.items.length : Int) a rd m out (i : Int) = some (out ++ passF d a (rdx rd) n i (d.items.drop i))
  | k, 0, i, out, h, _, _ => by omega
  | 0, m + 1, i, out, h, hi, hl => by
    unfold zaT_1
    rw [if_neg (by simp; omega), List.drop_of_length_le (by omega), passF, List.append_nil]
  | k + 1, m + 1, i, out, h, hi, hl => by
    subst hd
    have hlt : i < d0.items.length := by omega
    have hli := hS.ok.li
    have step : zaT_2 N (Scene.mk d0 [] []) out n (i : Int) a rd = some (out ++ (if 0 ≤ rdx rd i then [] else (match whyF d0 a (rdx rd) i n with | some p => [p] | none => []))) := by
      unfold zaT_2
      rw [rdx_at hS hlt, bind_some', bind_some']
      by_cases h0 : 0 ≤ rdx rd i
      · rw [if_pos (by simpa using h0), if_pos h0, List.append_nil]
      · rw [if_neg (by simpa using h0), if_neg h0, why_ok hS N hN hlt, bind_some']
        cases whyF d0 a (rdx rd) i n with
        | none => simp
        | some p => simp only; rw [if_pos trivial, appI_ok (by simp; omega), bind_some']
    rw [zaT_1, if_pos (by simp; omega), step, bind_some', w64s (by omega), pass_ok hS N hN n d0 rfl k m (i + 1) _ (by omega) (by omega) (by
      rw [List.length_append]
      have : (if 0 ≤ rdx rd i then ([] : List Pull) else (match whyF d0 a (rdx rd) i n with | some p => [p] | none => [])).length ≤ 1 := by
        split
        · simp
        · split <;> simp
      omega), drop_at (at_lt hlt), passF, List.append_assoc]
def setR (n : Int) : List Pull → List Int → List Int
  | [], rd => rd
  | p :: l, rd => setR n l (rd.set p.item.toNat n)
theorem setR_len (n : Int) : ∀ (l : List Pull) (rd : List Int), (setR n l rd).length = rd.length
  | [], rd => rfl
  | p :: l, rd => by rw [setR, setR_len, List.length_set]
theorem rdx_set {rd : List Int} {i j : Nat} {v : Int} (hi : i < rd.length) : rdx (rd.set i v) j = if i = j then v else rdx rd j := by
  unfold rdx
  rw [List.getElem?_set]
  by_cases h : i = j
  · subst h; rw [if_pos rfl, if_pos hi, if_pos rfl]; rfl
  · rw [if_neg h, if_neg h]
theorem rdx_setR (n : Int) : ∀ (l : List Pull) (rd : List Int), (∀ p ∈ l, 0 ≤ p.item ∧ p.item.toNat < rd.length) → ∀ x, rdx (setR n l rd) x = if ∃ p ∈ l, p.item = (x : Int) then n else rdx rd x
  | [], rd, _, x => by rw [setR, if_neg (by simp)]
  | p :: l, rd, h, x => by
    obtain ⟨h0, h1⟩ := h p List.mem_cons_self
    rw [setR, rdx_setR n l _ (fun q hq => by rw [List.length_set]; exact h q (List.mem_cons_of_mem _ hq)) x, rdx_set h1]
    by_cases hl : ∃ q ∈ l, q.item = (x : Int)
    · obtain ⟨q, hq, he⟩ := hl
      rw [if_pos ⟨q, hq, he⟩, if_pos ⟨q, List.mem_cons_of_mem _ hq, he⟩]
    · rw [if_neg hl]
      by_cases hp : p.item.toNat = x
      · rw [if_pos hp, if_pos ⟨p, List.mem_cons_self, by omega⟩]
      · rw [if_neg hp, if_neg]
        rintro ⟨q, hq, he⟩
        rcases List.mem_cons.1 hq with rfl | hq
        · omega
        · exact hl ⟨q, hq, he⟩
theorem set_ok (N : Nat) {out nw : List Pull} (n : Int) (hl : out.length + nw.length ≤ 1000) : ∀ (k m i : Nat) (rd : List Int), k < m → i + k = nw.length → (∀ p ∈ nw, 0 ≤ p.item ∧ p.item.toNat < rd.length) →
    zaT_3 N (out ++ nw) n (out.length, (out ++ nw).length) (nw.length : Int) m (i : Int) rd = some (setR n (nw.drop i) rd)
  | k, 0, i, rd, h, _, _ => by omega
  | 0, m + 1, i, rd, h, hi, hr => by
    unfold zaT_3
    rw [if_neg (by simp; omega), List.drop_of_length_le (by omega), setR]
  | k + 1, m + 1, i, rd, h, hi, hr => by
    have hlt : i < nw.length := by omega
    have hp := hr _ (List.getElem_mem hlt)
    have e1 : List.drop out.length (List.take (out ++ nw).length (out ++ nw)) = nw := by rw [List.take_of_length_le (Nat.le_refl _), List.drop_left]
    have e2 : getI (out ++ nw) ((out.length : Int) + i) = some nw[i] := by
      rw [show (out.length : Int) + i = ((out.length + i : Nat) : Int) by omega]
      refine getI_nat ?_
      rw [List.getElem?_append_right (by omega), show out.length + i - out.length = i by omega]
      exact at_lt hlt
    have e3 : ∃ v, getI rd nw[i].item = some v := by
      obtain ⟨j, hj⟩ := Int.eq_ofNat_of_zero_le hp.1
      rw [hj] at hp ⊢
      exact ⟨_, getI_nat (at_lt (by simpa using hp.2))⟩
    obtain ⟨v, e3⟩ := e3
    rw [zaT_3, if_pos (by simp; omega)]
    simp only [e1]
    rw [getI_nat (at_lt hlt), bind_some', e2, bind_some', e3, bind_some', bind_some', lt_def, w64s (by omega), set_ok N n hl k m (i + 1) _ (by omega) (by omega) (fun p hp' => by rw [List.length_set]; exact hr p hp'), drop_at (at_lt hlt), setR]
structure PI (d : Disorder) (a : List Spot) (out : List Pull) (rd : List Int) (n : Nat) : Prop where
  sc : Sc d a rd
  nd : (out.map Pull.item).Nodup
  it : ∀ p ∈ out, ∃ x : Nat, p.item = x ∧ x < d.items.length ∧ rdx rd x = p.round ∧ 0 ≤ p.round ∧ p.round < n
  ju : ∀ p ∈ out, ∀ x : Nat, p.item = x → juB d a (rdx rd) x p.reason p.because p.round = true
  on : ∀ x, rdx rd x = -1 ∨ ∃ p ∈ out, p.item = (x : Int)
  st : 1 ≤ n → ∀ x, x < d.items.length → rdx rd x = -1 → homeB d a x = true ∧ ∀ y, y < d.items.length → (ahB d y x && neB a y x) = false
theorem juB_mono {d : Disorder} {a : List Spot} {rd rd' : Nat → Int} {x : Nat} {r y n : Int} (h : ∀ y, 0 ≤ rd y → rd' y = rd y) (hj : juB d a rd x r y n = true) : juB d a rd' x r y n = true := by
  have pu : ∀ y n, puB rd y n = true → puB rd' y n = true := by
    intro y n hp
    unfold puB at hp ⊢
    simp only [Bool.and_eq_true, decide_eq_true_eq] at hp ⊢
    rw [h y hp.1]; exact hp
  unfold juB at hj ⊢
  split
  · rename_i h1; rw [if_pos h1] at hj; exact hj
  · rename_i h1; rw [if_neg h1] at hj
    split
    · rename_i h2; rw [if_pos h2] at hj; cases hj
    · rename_i h2; rw [if_neg h2] at hj
      split
      · rename_i h3; rw [if_pos h3] at hj; exact hj
      · rename_i h3; rw [if_neg h3] at hj
        split
        · rename_i h4; rw [if_pos h4] at hj
          simp only [Bool.and_eq_true] at hj ⊢
          exact ⟨hj.1, pu _ _ hj.2⟩
        · rename_i h4; rw [if_neg h4] at hj
          split
          · rename_i h5; rw [if_pos h5] at hj
            simp only [Bool.and_eq_true] at hj ⊢
            exact ⟨hj.1, pu _ _ hj.2⟩
          · rename_i h5; rw [if_neg h5] at hj; cases hj
theorem PI.len {d : Disorder} {a : List Spot} {out : List Pull} {rd : List Int} {n : Nat} (h : PI d a out rd n) : out.length ≤ d.items.length := by
  have h1 : (out.map Pull.item).length ≤ ((List.range d.items.length).map fun (x : Nat) => (x : Int)).length := by
    refine List.Nodup.length_le_of_subset h.nd fun i hi => ?_
    obtain ⟨p, hp, rfl⟩ := List.mem_map.1 hi
    obtain ⟨x, h1, h2, _⟩ := h.it p hp
    exact List.mem_map.2 ⟨x, List.mem_range.2 h2, h1.symm⟩
  simpa using h1
theorem PI.step {d : Disorder} {a : List Spot} {out : List Pull} {rd : List Int} {n : Nat} (h : PI d a out rd n) : PI d a (out ++ passF d a (rdx rd) n 0 d.items) (setR n (passF d a (rdx rd) n 0 d.items) rd) (n + 1) := by
  have hli := h.sc.ok.li
  have mem : ∀ p, p ∈ passF d a (rdx rd) n 0 d.items → ∃ x, x < d.items.length ∧ rdx rd x = -1 ∧ whyF d a (rdx rd) x n = some p ∧ p.item = x := by
    intro p hp
    obtain ⟨x, _, h2, h3, h4⟩ := pass_mem.1 hp
    refine ⟨x, by omega, ?_, h4, (whyF_some h4).1⟩
    rcases h.on x with h5 | ⟨q, hq, hqx⟩
    · exact h5
    · obtain ⟨x', g1, g2, g3, g4, _⟩ := h.it q hq
      have : x' = x := by omega
      subst this
      omega
  have hR := rdx_setR n (passF d a (rdx rd) n 0 d.items) rd (fun p hp => by
    obtain ⟨x, h1, _, _, h4⟩ := mem p hp
    rw [h.sc.rl]; omega)
  have keep : ∀ y, 0 ≤ rdx rd y → rdx (setR n (passF d a (rdx rd) n 0 d.items) rd) y = rdx rd y := by
    intro y hy
    rw [hR y, if_neg]
    rintro ⟨p, hp, he⟩
    obtain ⟨x, _, h2, _, h4⟩ := mem p hp
    have : x = y := by omega
    subst this; omega
  refine ⟨⟨h.sc.ok, h.sc.at', by rw [setR_len]; exact h.sc.rl⟩, ?_, fun p hp => ?_, fun p hp x hx => ?_, fun x => ?_, fun _ x hx hr => ?_⟩
  · rw [List.map_append, List.nodup_append]
    refine ⟨h.nd, ?_, fun i hi j hj hij => ?_⟩
    · rw [List.Nodup, List.pairwise_map]
      exact pass_inc.imp fun hlt he => by omega
    · subst hij
      obtain ⟨p, hp, rfl⟩ := List.mem_map.1 hi
      obtain ⟨q, hq, he⟩ := List.mem_map.1 hj
      obtain ⟨x, g1, g2, g3, g4, _⟩ := h.it p hp
      obtain ⟨y, _, k2, _, k4⟩ := mem q hq
      have : x = y := by omega
      subst this; omega
  · rcases List.mem_append.1 hp with hp | hp
    · obtain ⟨x, g1, g2, g3, g4, g5⟩ := h.it p hp
      exact ⟨x, g1, g2, by rw [keep x (by omega)]; exact g3, g4, by omega⟩
    · obtain ⟨x, k1, k2, k3, k4⟩ := mem p hp
      have k5 := (whyF_some k3).2.1
      exact ⟨x, k4, k1, by rw [hR x, if_pos ⟨p, hp, k4⟩, k5], by omega, by omega⟩
  · rcases List.mem_append.1 hp with hp | hp
    · exact juB_mono keep (h.ju p hp x hx)
    · obtain ⟨y, k1, k2, k3, k4⟩ := mem p hp
      obtain ⟨_, k5, k6, _⟩ := whyF_some k3
      have : y = x := by omega
      subst this
      rw [k5]
      exact juB_mono keep k6
  · rw [hR x]
    split
    · rename_i hh
      obtain ⟨p, hp, he⟩ := hh
      exact .inr ⟨p, List.mem_append.2 (.inr hp), he⟩
    · rcases h.on x with h1 | ⟨p, hp, he⟩
      · exact .inl h1
      · exact .inr ⟨p, List.mem_append.2 (.inl hp), he⟩
  · rw [hR x] at hr
    split at hr
    · omega
    · rename_i hh
      by_cases hn : n = 0
      · subst hn
        have hw : whyF d a (rdx rd) x ((0 : Nat) : Int) = none := by
          cases hw : whyF d a (rdx rd) x ((0 : Nat) : Int) with
          | none => rfl
          | some p => exact (hh ⟨p, pass_mem.2 ⟨x, by omega, by omega, by omega, hw⟩, (whyF_some hw).1⟩).elim
        obtain ⟨w1, w2⟩ := whyF_none hw
        have hb := w1 rfl
        refine ⟨hb, fun y hy => ?_⟩
        have := (w2 y hy).1
        unfold juB at this
        rw [if_neg (by omega), if_neg (by omega), if_pos ⟨rfl, rfl⟩, hb, Int.toNat_natCast] at this
        simpa using this
      · exact h.st (by omega) x hx hr
def remN (d : Disorder) (out : List Pull) : Nat := d.items.length - out.length
structure PsOk (d : Disorder) (a : List Spot) (out : List Pull) (rd : List Int) : Prop where
  sc : Sc d a rd
  nd : (out.map Pull.item).Nodup
  it : ∀ p ∈ out, ∃ x : Nat, p.item = x ∧ x < d.items.length ∧ rdx rd x = p.round ∧ 0 ≤ p.round
  ju : ∀ p ∈ out, ∀ x : Nat, p.item = x → juB d a (rdx rd) x p.reason p.because p.round = true
  on : ∀ x, rdx rd x = -1 ∨ ∃ p ∈ out, p.item = (x : Int)
  st : ∀ x, x < d.items.length → rdx rd x = -1 → homeB d a x = true ∧ ∀ y, y < d.items.length → (ahB d y x && neB a y x) = false ∧ (0 ≤ rdx rd y → ahB d y x = false ∧ neB a x y = false)
theorem rounds (N : Nat) (hN : 300 ≤ N) {d : Disorder} {a : List Spot} : ∀ (m : Nat) (n : Nat) (out : List Pull) (rd : List Int), PI d a out rd n → remN d out + (if n = 0 then 2 else 1) < m + (if n = 0 then 0 else 0) → n + m ≤ 100000 →
    ∃ out' rd', zaT_0 N d (Scene.mk d [] []) a m out (n : Int) rd = some out' ∧ PsOk d a out' rd'
  | 0, n, out, rd, h, hm, _ => by simp at hm
  | m + 1, n, out, rd, h, hm, hb => by
    have hli := h.sc.ok.li
    have hS := h.step
    have hlen := h.len
    have hlen2 := hS.len
    rw [List.length_append] at hlen2
    have e1 := pass_ok h.sc N (by omega) (n : Int) d rfl d.items.length N 0 out (by omega) (by omega) (by omega)
    rw [List.drop_zero] at e1
    have e1 : zaT_1 N (Scene.mk d [] []) (n : Int) (d.items.length : Int) a rd N out 0 = _ := e1
    generalize hnw : passF d a (rdx rd) (n : Int) 0 d.items = nw at *
    have hnr : ∀ p ∈ nw, 0 ≤ p.item ∧ p.item.toNat < rd.length := by
      intro p hp
      obtain ⟨x, g1, g2, _⟩ := hS.it p (List.mem_append.2 (.inr hp))
      rw [h.sc.rl]; omega
    have e2 := set_ok N (n : Int) (out := out) (nw := nw) (by omega) nw.length N 0 rd (by omega) (by omega) hnr
    rw [List.drop_zero] at e2
    have e2 : zaT_3 N (out ++ nw) (n : Int) (out.length, (out ++ nw).length) (nw.length : Int) N 0 rd = _ := e2
    have e3 : cutI (out ++ nw) (out.length : Int) ((out ++ nw).length : Int) = some nw := by
      rw [cutI_drop (by simp), List.drop_left]
    have e4 : List.drop (Int.toNat (out.length : Int)) (List.take (Int.toNat ((out ++ nw).length : Int)) (out ++ nw)) = nw := by
      rw [Int.toNat_natCast, Int.toNat_natCast, List.take_of_length_le (Nat.le_refl _), List.drop_left]
    rw [zaT_0, lt_def, e1, bind_some', e3, bind_some']
    simp only [e4]
    rw [Int.toNat_natCast, Int.toNat_natCast, e2, bind_some']
    by_cases hn : n = 0
    · subst hn
      have e5 : zaT_4 N (out ++ nw) ((0 : Nat) : Int) (out.length : Int) = some false := rfl
      rw [e5, bind_some', if_neg (by simp), lt_def, w64s (by omega)]
      refine rounds N hN m 1 _ _ hS ?_ (by omega)
      unfold remN at hm ⊢
      rw [List.length_append]
      simp at hm ⊢; omega
    · have e5 : zaT_4 N (out ++ nw) (n : Int) (out.length : Int) = some (((out ++ nw).length : Int) == (out.length : Int)) := by
        unfold zaT_4
        rw [if_pos (by simp; omega)]
      rw [e5, bind_some']
      by_cases he : nw = []
      · subst he
        rw [if_pos (by simp)]
        refine ⟨_, rd, rfl, ?_⟩
        rw [List.append_nil]
        refine ⟨h.sc, h.nd, fun p hp => ?_, h.ju, h.on, fun x hx hr => ?_⟩
        · obtain ⟨x, g1, g2, g3, g4, _⟩ := h.it p hp
          exact ⟨x, g1, g2, g3, g4⟩
        · obtain ⟨s1, s2⟩ := h.st (by omega) x hx hr
          refine ⟨s1, fun y hy => ⟨s2 y hy, fun hry => ?_⟩⟩
          have hw : whyF d a (rdx rd) x (n : Int) = none := by
            cases hw : whyF d a (rdx rd) x (n : Int) with
            | none => rfl
            | some p =>
              have : p ∈ passF d a (rdx rd) (n : Int) 0 d.items := pass_mem.2 ⟨x, by omega, by omega, by omega, hw⟩
              rw [hnw] at this; simp at this
          obtain ⟨_, w2⟩ := whyF_none hw
          obtain ⟨w3, w4⟩ := w2 y hy
          have w4 := w4 (by omega)
          have hlt : rdx rd y < n := by
            rcases h.on y with h1 | ⟨p, hp, he⟩
            · omega
            · obtain ⟨x', g1, g2, g3, g4, g5⟩ := h.it p hp
              have : x' = y := by omega
              subst this; omega
          have hp : puB (rdx rd) y n = true := by unfold puB; simp; omega
          unfold juB at w3 w4
          rw [if_neg (by omega), if_neg (by omega), if_neg (by omega), if_pos rfl, Int.toNat_natCast, hp] at w3
          rw [if_neg (by omega), if_neg (by omega), if_neg (by omega), if_neg (by omega), if_pos rfl, Int.toNat_natCast, hp] at w4
          exact ⟨by simpa using w3, by simpa using w4⟩
      · have hpos : 0 < nw.length := List.length_pos_iff.2 he
        rw [if_neg (by simp; omega), lt_def, w64s (by omega)]
        refine rounds N hN m (n + 1) _ _ hS ?_ (by omega)
        unfold remN at hm ⊢
        rw [List.length_append]
        simp [hn] at hm ⊢; omega
theorem PsOk.perm {d : Disorder} {a : List Spot} {out out' : List Pull} {rd : List Int} (h : PsOk d a out rd) (hp : out'.Perm out) : PsOk d a out' rd := by
  refine ⟨h.sc, (hp.map _).nodup_iff.2 h.nd, fun p hm => h.it p (hp.mem_iff.1 hm), fun p hm => h.ju p (hp.mem_iff.1 hm), fun x => ?_, h.st⟩
  rcases h.on x with h1 | ⟨p, hm, he⟩
  · exact .inl h1
  · exact .inr ⟨p, hp.mem_iff.2 hm, he⟩
theorem pulls_ok (N : Nat) (hN : 300 ≤ N) (hN2 : N ≤ 99000) {d : Disorder} (hD : DOk d) : ∃ ps a rd, zaT N d = some (ps, 0) ∧ PsOk d a ps rd ∧ (ps.Pairwise fun p q => p.item ≤ q.item) := by
  obtain ⟨a, h1, h2⟩ := open_ok N (by omega) hD
  have hli := hD.li
  have h0 : PI d a [] (List.replicate d.items.length (-1)) 0 := by
    have hr : ∀ x, rdx (List.replicate d.items.length (-1)) x = -1 := by
      intro x
      unfold rdx
      rw [List.getElem?_replicate]
      split <;> rfl
    exact ⟨⟨hD, h2, by simp⟩, by simp, by simp, by simp, fun x => .inl (hr x), fun h => by omega⟩
  obtain ⟨out, rd, g1, g2⟩ := rounds N hN N 0 [] _ h0 (by unfold remN; simp; omega) (by omega)
  have g1 : zaT_0 N d (Scene.mk d [] []) a N [] 0 (List.replicate d.items.length (-1)) = _ := g1
  unfold zaT
  rw [valid_ok N (by omega) hD, bind_some', if_neg (by simp), h1, bind_some']
  simp only
  rw [g1, bind_some']
  have hlen : out.length ≤ d.items.length := by
    have h1 : (out.map Pull.item).length ≤ ((List.range d.items.length).map fun (x : Nat) => (x : Int)).length := by
      refine List.Nodup.length_le_of_subset g2.nd fun i hi => ?_
      obtain ⟨p, hp, rfl⟩ := List.mem_map.1 hi
      obtain ⟨x, h1, h2, _⟩ := g2.it p hp
      exact List.mem_map.2 ⟨x, List.mem_range.2 h2, h1.symm⟩
    simpa using h1
  letI : Inhabited Pull := ⟨Pull.mk 0 0 0 0⟩
  have hs : @srtI Pull ⟨Pull.mk 0 0 0 0⟩ (fun (a b : Pull) => cmpI a.item b.item) out = some (srtL (fun (a b : Pull) => cmpI a.item b.item) out) := by
    unfold srtI
    rw [if_pos (by omega)]
  rw [hs, bind_some']
  refine ⟨_, a, rd, rfl, g2.perm (srtL_perm (fun (a b : Pull) => cmpI a.item b.item) (swo_key Pull.item) out), srtL_sorted Pull.item out⟩
end Go.W
end
section
set_option linter.unusedVariables false
set_option linter.unusedSimpArgs false
namespace Go.W
open Go.AM
theorem res_c {α : Type} (p : Nat → α → Bool) : ∀ (l : List α) (i : Nat), (res p (fun _ _ => false) i l = .inl () ∧ ∀ (j : Nat) (x : α), l[j]? = some x → p (i + j) x = false) ∨ (res p (fun _ _ => false) i l = .inr false ∧ ∃ (j : Nat) (x : α), l[j]? = some x ∧ p (i + j) x = true)
  | [], i => .inl ⟨rfl, fun j x h => by simp at h⟩
  | y :: l, i => by
    rw [res]
    by_cases h : p i y = true
    · rw [if_pos h]; exact .inr ⟨rfl, 0, y, by simp, h⟩
    · rw [if_neg h]
      rcases res_c p l (i + 1) with ⟨h1, h2⟩ | ⟨h1, j, x, h2, h3⟩
      · refine .inl ⟨h1, fun j x hx => ?_⟩
        cases j with
        | zero => simp at hx; subst hx; simpa using h
        | succ j => have := h2 j x (by simpa using hx); rwa [show i + 1 + j = i + (j + 1) by omega] at this
      · exact .inr ⟨h1, j + 1, x, by simpa using h2, by rwa [show i + 1 + j = i + (j + 1) by omega] at h3⟩
theorem at_uniq {d : Disorder} {a a' : List Spot} (hD : DOk d) (h : AtOk d a) (h' : AtOk d a') : a = a' := by
  refine List.ext_getElem (by rw [h.len, h'.len]) fun x h1 h2 => ?_
  obtain ⟨t, p, hp⟩ := hD.tk.all x (by rw [← h.len]; exact h1)
  have e1 := h.ps t p x hp
  have e2 := h'.ps t p x hp
  rw [at_lt h1] at e1
  rw [at_lt h2] at e2
  rw [← e2] at e1
  exact Option.some.inj e1
def badP (n : Nat) (rd : List Int) (p : Pull) : Bool := decide (p.item < 0) || (decide ((n : Int) ≤ p.item) || (decide (0 ≤ rdx rd p.item.toNat) || decide (p.round < 0)))
def ckR (n : Nat) : List Pull → List Int → Option (List Int)
  | [], rd => some rd
  | p :: l, rd => if badP n rd p = true then none else ckR n l (rd.set p.item.toNat p.round)
theorem ck0 (N : Nat) {d : Disorder} {l : List Pull} (hl : l.length ≤ 100000) : ∀ (k m i : Nat) (rd : List Int), k < m → i + k = l.length → rd.length = d.items.length →
    zaV_0 N d l (l.length : Int) m (i : Int) rd = some (match ckR d.items.length (l.drop i) rd with | some r => .inl r | none => .inr false)
  | k, 0, i, rd, h, _, _ => by omega
  | 0, m + 1, i, rd, h, hi, hr => by
    unfold zaV_0
    rw [if_neg (by simp; omega), List.drop_of_length_le (by omega), ckR]
  | k + 1, m + 1, i, rd, h, hi, hr => by
    have hlt : i < l.length := by omega
    have step : zaV_1 N d l[i] rd = some (badP d.items.length rd l[i]) := by
      unfold zaV_1 badP
      by_cases h1 : l[i].item < 0
      · rw [if_pos (by simpa using h1)]; simp [h1]
      · rw [if_neg (by simpa using h1)]
        by_cases h2 : (d.items.length : Int) ≤ l[i].item
        · rw [if_pos (by simpa using h2)]; simp [h2]
        · rw [if_neg (by simpa using h2)]
          obtain ⟨j, hj⟩ := Int.eq_ofNat_of_zero_le (show 0 ≤ l[i].item by omega)
          have hjr : j < rd.length := by omega
          have hg : getI rd l[i].item = some (rdx rd j) := by
            rw [hj, getI_nat (at_lt hjr)]; unfold rdx; rw [at_lt hjr]; rfl
          rw [hg, bind_some', bind_some', hj, Int.toNat_natCast]
          by_cases h3 : 0 ≤ rdx rd j
          · rw [if_pos (by simpa using h3)]; simp [h3]
          · rw [if_neg (by simpa using h3), decide_eq_false h3, decide_eq_false (by omega : ¬ (j : Int) < 0), decide_eq_false (by omega : ¬ (d.items.length : Int) ≤ (j : Int))]; rfl
    rw [zaV_0, if_pos (by simp; omega), getI_nat (at_lt hlt), bind_some', step, bind_some', drop_at (at_lt hlt), ckR]
    by_cases hb : badP d.items.length rd l[i] = true
    · rw [if_pos hb, if_pos hb]
    · rw [if_neg hb, if_neg hb]
      unfold badP at hb
      simp only [Bool.or_eq_true, decide_eq_true_eq, not_or] at hb
      obtain ⟨j, hj⟩ := Int.eq_ofNat_of_zero_le (show 0 ≤ l[i].item by omega)
      have hjr : j < rd.length := by omega
      have hg : getI rd l[i].item = some (rdx rd j) := by
        rw [hj, getI_nat (at_lt hjr)]; unfold rdx; rw [at_lt hjr]; rfl
      rw [hg, bind_some', bind_some', lt_def, w64s (by omega)]
      exact ck0 N hl k m (i + 1) _ (by omega) (by omega) (by rw [List.length_set]; exact hr)
structure CkS (n : Nat) (l : List Pull) (rd rd' : List Int) : Prop where
  len : rd'.length = rd.length
  it : ∀ p ∈ l, ∃ x : Nat, p.item = x ∧ x < n ∧ rdx rd' x = p.round ∧ 0 ≤ p.round ∧ ¬ 0 ≤ rdx rd x
  nd : (l.map Pull.item).Nodup
  on : ∀ x, rdx rd' x = rdx rd x ∨ ∃ p ∈ l, p.item = (x : Int)
  kp : ∀ x, 0 ≤ rdx rd x → rdx rd' x = rdx rd x
theorem ckR_some {n : Nat} : ∀ {l : List Pull} {rd rd' : List Int}, rd.length = n → ckR n l rd = some rd' → CkS n l rd rd'
  | [], rd, rd', hr, h => by
    cases h
    exact ⟨rfl, by simp, by simp, fun x => .inl rfl, fun x _ => rfl⟩
  | p :: l, rd, rd', hr, h => by
    rw [ckR] at h
    split at h
    · cases h
    · rename_i hb
      unfold badP at hb
      simp only [Bool.or_eq_true, decide_eq_true_eq, not_or] at hb
      have hS := ckR_some (by rw [List.length_set]; exact hr) h
      have hlt : p.item.toNat < rd.length := by omega
      have hset := fun x => rdx_set (rd := rd) (j := x) (v := p.round) hlt
      refine ⟨by rw [hS.len, List.length_set], fun q hq => ?_, ?_, fun x => ?_, fun x hx => ?_⟩
      · rcases List.mem_cons.1 hq with rfl | hq
        · refine ⟨q.item.toNat, by omega, by omega, ?_, by omega, hb.2.2.1⟩
          have e1 := hset q.item.toNat
          rw [if_pos rfl] at e1
          rw [hS.kp _ (by omega), e1]
        · obtain ⟨x, g1, g2, g3, g4, g5⟩ := hS.it q hq
          refine ⟨x, g1, g2, g3, g4, ?_⟩
          rw [hset x] at g5
          split at g5
          · omega
          · exact g5
      · rw [List.map_cons, List.nodup_cons]
        refine ⟨fun hm => ?_, hS.nd⟩
        obtain ⟨q, hq, he⟩ := List.mem_map.1 hm
        obtain ⟨x, g1, g2, g3, g4, g5⟩ := hS.it q hq
        rw [hset x, if_pos (by omega)] at g5
        omega
      · rcases hS.on x with h1 | ⟨q, hq, he⟩
        · rw [hset x] at h1
          split at h1
          · exact .inr ⟨p, List.mem_cons_self, by omega⟩
          · exact .inl h1
        · exact .inr ⟨q, List.mem_cons_of_mem _ hq, he⟩
      · have e1 := hset x
        rw [if_neg (fun e => by subst e; exact hb.2.2.1 hx)] at e1
        rw [hS.kp x (by omega), e1]
theorem ckR_ok {n : Nat} : ∀ {l : List Pull} {rd : List Int}, rd.length = n → (l.map Pull.item).Nodup → (∀ p ∈ l, ∃ x : Nat, p.item = x ∧ x < n ∧ 0 ≤ p.round ∧ ¬ 0 ≤ rdx rd x) → ∃ rd', ckR n l rd = some rd'
  | [], rd, _, _, _ => ⟨rd, rfl⟩
  | p :: l, rd, hr, hn, h => by
    obtain ⟨x, h1, h2, h3, h4⟩ := h p List.mem_cons_self
    rw [List.map_cons, List.nodup_cons] at hn
    rw [ckR, if_neg (by
      unfold badP
      simp only [Bool.or_eq_true, decide_eq_true_eq, not_or]
      refine ⟨by omega, by omega, ?_, by omega⟩
      rw [h1, Int.toNat_natCast]; exact h4)]
    refine ckR_ok (by rw [List.length_set]; exact hr) hn.2 fun q hq => ?_
    obtain ⟨y, k1, k2, k3, k4⟩ := h q (List.mem_cons_of_mem _ hq)
    refine ⟨y, k1, k2, k3, ?_⟩
    rw [rdx_set (by omega), if_neg]
    · exact k4
    · intro he
      refine hn.1 (List.mem_map.2 ⟨q, hq, ?_⟩)
      omega
def agB (d : Disorder) (a : List Spot) (rd : Nat → Int) (x y : Nat) : Bool := !homeB d a x || ((ahB d y x && neB a y x) || (decide (0 ≤ rd y) && (ahB d y x || neB a x y)))
def agX (d : Disorder) (a : List Spot) (rd : Nat → Int) (x : Nat) : Bool := (List.range d.items.length).any fun y => agB d a rd x y
theorem ck5 {d : Disorder} {a : List Spot} {rd : List Int} (hS : Sc d a rd) (N : Nat) (hN : 200 ≤ N) {x : Nat} (hx : x < d.items.length) (a0 : List Spot) (r0 : List Int) :
    zaV_5 N (Scene.mk d a0 r0) (x : Int) rd (d.items.length : Int) a N 0 = some (if agX d a (rdx rd) x = true then .inr false else .inl ()) := by
  have hli := hS.ok.li
  have h := first_gen (l := d.items) (fun y _ => agB d a (rdx rd) x y) (fun _ _ => false) (zaV_5 N (Scene.mk d a0 r0) (x : Int) rd (d.items.length : Int) a) (fun n => by unfold zaV_5; rw [if_neg (by simp)]) (fun n y w hw => by
    have hy := (List.getElem?_eq_some_iff.1 hw).1
    have e6 : zaV_6 N (Scene.mk d [] []) (x : Int) (y : Int) rd a = some (homeB d a x && (ahB d y x && neB a y x)) := by
      unfold zaV_6
      simp only
      rw [home_ok hS N hx, bind_some']
      cases homeB d a x with
      | false => rw [if_neg (by simp)]; rfl
      | true =>
        rw [if_pos rfl, ahead_ok hS N hx hy, bind_some']
        cases ahB d y x with
        | false => rw [if_neg (by simp)]; rfl
        | true => rw [if_pos rfl, near_ok hS N hy hx, bind_some']; rfl
    have e7 : zaV_7 N (Scene.mk d [] []) (x : Int) (y : Int) (homeB d a x && (ahB d y x && neB a y x)) rd a = some (agB d a (rdx rd) x y) := by
      unfold zaV_7 agB
      simp only
      rw [home_ok hS N hx, bind_some']
      cases homeB d a x with
      | false => rfl
      | true =>
        rw [if_neg (by simp)]
        by_cases h1 : (ahB d y x && neB a y x) = true
        · rw [h1]; rfl
        · have h1 : (ahB d y x && neB a y x) = false := by simpa using h1
          rw [h1, if_neg (by simp), rdx_at hS hy, bind_some', bind_some']
          by_cases h2 : 0 ≤ rdx rd y
          · rw [if_pos (by simpa using h2), ahead_ok hS N hx hy, bind_some', decide_eq_true h2]
            cases ahB d y x with
            | true => rfl
            | false => rw [if_neg (by simp), near_ok hS N hx hy, bind_some']; rfl
          · rw [if_neg (by simpa using h2), decide_eq_false h2]; rfl
    rw [zaV_5, if_pos (by simp; omega), e6, bind_some', e7, bind_some', w64s (by omega)]) d.items.length N 0 (by omega) (by omega)
  have h : zaV_5 N (Scene.mk d a0 r0) (x : Int) rd (d.items.length : Int) a N 0 = _ := h
  rw [h, List.drop_zero]
  congr 1
  unfold agX
  rcases res_c (fun y (_ : Item) => agB d a (rdx rd) x y) d.items 0 with ⟨h1, h2⟩ | ⟨h1, j, z, h2, h3⟩
  · rw [h1, if_neg]
    simp only [List.any_eq_true, not_exists, not_and]
    intro y hy
    have := h2 y _ (at_lt (List.mem_range.1 hy))
    simpa using this
  · rw [h1, if_pos]
    rw [List.any_eq_true]
    exact ⟨j, List.mem_range.2 (List.getElem?_eq_some_iff.1 h2).1, by simpa using h3⟩
def opB (d : Disorder) (a : List Spot) (rd : Nat → Int) : Bool := (List.range d.items.length).any fun x => !decide (0 ≤ rd x) && agX d a rd x
theorem ck3 {d : Disorder} {a : List Spot} {rd : List Int} (hS : Sc d a rd) (N : Nat) (hN : 200 ≤ N) (a0 : List Spot) (r0 : List Int) :
    zaV_3 N d (Scene.mk d a0 r0) rd (rd.length : Int) a N 0 = some (if opB d a (rdx rd) = true then .inr false else .inl ()) := by
  have hli := hS.ok.li
  have hrl := hS.rl
  have h := first_gen (l := rd) (fun x _ => !decide (0 ≤ rdx rd x) && agX d a (rdx rd) x) (fun _ _ => false) (zaV_3 N d (Scene.mk d a0 r0) rd (rd.length : Int) a) (fun n => by unfold zaV_3; rw [if_neg (by simp)]) (fun n x w hw => by
    have hx := (List.getElem?_eq_some_iff.1 hw).1
    rw [hrl] at hx
    have e4 : zaV_4 N d (Scene.mk d [] []) rd (x : Int) a = some (if (!decide (0 ≤ rdx rd x) && agX d a (rdx rd) x) = true then .inr false else .inl ()) := by
      unfold zaV_4
      rw [rdx_at hS hx, bind_some', bind_some']
      by_cases h1 : 0 ≤ rdx rd x
      · rw [if_pos (by simpa using h1), decide_eq_true h1]; rfl
      · rw [if_neg (by simpa using h1), decide_eq_false h1]
        simp only
        rw [ck5 hS N hN hx, bind_some']
        cases agX d a (rdx rd) x <;> rfl
    rw [zaV_3, if_pos (by simp; omega), e4, bind_some']
    by_cases hc : (!decide (0 ≤ rdx rd x) && agX d a (rdx rd) x) = true
    · rw [if_pos hc, if_pos hc]
    · rw [if_neg hc, if_neg hc]
      simp only
      rw [w64s (by omega)]) rd.length N 0 (by omega) (by omega)
  have h : zaV_3 N d (Scene.mk d a0 r0) rd (rd.length : Int) a N 0 = _ := h
  rw [h, List.drop_zero]
  congr 1
  unfold opB
  rcases res_c (fun x (_ : Int) => !decide (0 ≤ rdx rd x) && agX d a (rdx rd) x) rd 0 with ⟨h1, h2⟩ | ⟨h1, j, z, h2, h3⟩
  · rw [h1, if_neg]
    simp only [List.any_eq_true, not_exists, not_and]
    intro y hy
    have := h2 y _ (at_lt (by rw [hrl]; exact List.mem_range.1 hy))
    rw [Nat.zero_add] at this
    rw [this]; simp
  · rw [h1, if_pos]
    rw [List.any_eq_true]
    exact ⟨j, List.mem_range.2 (by rw [← hrl]; exact (List.getElem?_eq_some_iff.1 h2).1), by simpa using h3⟩
theorem opB_iff {d : Disorder} {a : List Spot} {rd : Nat → Int} (hn : ∀ x, 0 ≤ rd x ∨ rd x = -1) : opB d a rd = false ↔ ∀ x, x < d.items.length → rd x = -1 → homeB d a x = true ∧ ∀ y, y < d.items.length → (ahB d y x && neB a y x) = false ∧ (0 ≤ rd y → ahB d y x = false ∧ neB a x y = false) := by
  unfold opB agX
  constructor
  · intro h x hx hr
    rw [List.any_eq_false] at h
    have h1 := h x (List.mem_range.2 hx)
    rw [decide_eq_false (by omega), Bool.not_false, Bool.true_and, Bool.not_eq_true, List.any_eq_false] at h1
    have key : ∀ y, y < d.items.length → homeB d a x = true ∧ (ahB d y x && neB a y x) = false ∧ (0 ≤ rd y → ahB d y x = false ∧ neB a x y = false) := by
      intro y hy
      have := h1 y (List.mem_range.2 hy)
      unfold agB at this
      simp only [Bool.or_eq_true, not_or, Bool.not_eq_true, Bool.not_eq_false'] at this
      obtain ⟨g1, g2, g3⟩ := this
      refine ⟨g1, g2, fun h0 => ?_⟩
      rw [decide_eq_true h0, Bool.true_and, Bool.or_eq_false_iff] at g3
      exact g3
    exact ⟨(key x hx).1, fun y hy => (key y hy).2⟩
  · intro h
    rw [List.any_eq_false]
    intro x hx
    have hx := List.mem_range.1 hx
    rcases hn x with h0 | h0
    · rw [decide_eq_true h0]; simp
    · rw [decide_eq_false (by omega), Bool.not_false, Bool.true_and, Bool.not_eq_true, List.any_eq_false]
      obtain ⟨g1, g2⟩ := h x hx h0
      intro y hy
      obtain ⟨g3, g4⟩ := g2 y (List.mem_range.1 hy)
      unfold agB
      rw [g1, g3]
      by_cases h2 : 0 ≤ rd y
      · obtain ⟨g5, g6⟩ := g4 h2
        rw [g5, g6]; simp
      · rw [decide_eq_false h2]; simp
theorem juB_congr {d : Disorder} {a : List Spot} {rd rd' : Nat → Int} (h : rd = rd') : juB d a rd = juB d a rd' := by rw [h]
theorem check_ok (N : Nat) (hN : 1000 ≤ N) {d : Disorder} (hD : DOk d) {a : List Spot} (hA : AtOk d a) (l : List Pull) (hl : l.length ≤ 900) : ∃ b, zaV N d l = some b ∧ (b = true ↔ ∃ rd, PsOk d a l rd) := by
  have hli := hD.li
  obtain ⟨a', h1, h2⟩ := open_ok N (by omega) hD
  obtain rfl := at_uniq hD hA h2
  have e0 := ck0 N (d := d) (l := l) (by omega) l.length N 0 (List.replicate d.items.length (-1)) (by omega) (by omega) (by simp)
  have e0 : zaV_0 N d l (l.length : Int) N 0 (List.replicate d.items.length (-1)) = _ := e0
  rw [List.drop_zero] at e0
  have hr0 : ∀ x, rdx (List.replicate d.items.length (-1)) x = -1 := by
    intro x
    unfold rdx
    rw [List.getElem?_replicate]
    split <;> rfl
  unfold zaV
  rw [h1, bind_some']
  simp only
  rw [e0, bind_some']
  cases hc : ckR d.items.length l (List.replicate d.items.length (-1)) with
  | none =>
    simp only
    refine ⟨false, rfl, ?_⟩
    constructor
    · intro h; cases h
    · rintro ⟨rd, hP⟩
      obtain ⟨rd', hh⟩ := ckR_ok (n := d.items.length) (l := l) (rd := List.replicate d.items.length (-1)) (by simp) hP.nd (fun p hp => by
        obtain ⟨x, g1, g2, _, g4⟩ := hP.it p hp
        exact ⟨x, g1, g2, g4, by rw [hr0]; omega⟩)
      rw [hc] at hh; cases hh
  | some rd =>
    simp only
    have hS := ckR_some (by simp) hc
    have hsc : Sc d a rd := ⟨hD, hA, by rw [hS.len]; simp⟩
    have hn : ∀ x, 0 ≤ rdx rd x ∨ rdx rd x = -1 := by
      intro x
      rcases hS.on x with h | ⟨p, hp, he⟩
      · rw [hr0] at h; exact .inr h
      · obtain ⟨y, g1, g2, g3, g4, _⟩ := hS.it p hp
        have : y = x := by omega
        subst this; left; omega
    have e2 := first_gen (l := l) (fun _ p => !juB d a (rdx rd) p.item.toNat p.reason p.because p.round) (fun _ _ => false) (zaV_2 N (Scene.mk d [] []) l (l.length : Int) a rd) (fun n => by unfold zaV_2; rw [if_neg (by simp)]) (fun n i p hp => by
      have hi := (List.getElem?_eq_some_iff.1 hp).1
      obtain ⟨x, g1, g2, _⟩ := hS.it p (List.mem_of_getElem? hp)
      rw [zaV_2, if_pos (by simp; omega), getI_nat hp, bind_some']
      simp only
      rw [g1, just_ok hsc N g2, bind_some', Int.toNat_natCast, w64s (by omega)]) l.length N 0 (by omega) (by omega)
    have e2 : zaV_2 N (Scene.mk d [] []) l (l.length : Int) a rd N 0 = _ := e2
    rw [e2, bind_some', List.drop_zero]
    have mk : ∀ rd', PsOk d a l rd' → rdx rd' = rdx rd := by
      intro rd' hP
      funext x
      by_cases hx : ∃ p ∈ l, p.item = (x : Int)
      · obtain ⟨p, hp, he⟩ := hx
        obtain ⟨y, g1, _, g3, _⟩ := hP.it p hp
        obtain ⟨y', g1', _, g3', _⟩ := hS.it p hp
        have e1 : y = x := by omega
        have e2 : y' = x := by omega
        subst e1; subst e2
        omega
      · rcases hP.on x with h | h
        · rcases hS.on x with h' | h'
          · rw [hr0] at h'; omega
          · exact (hx h').elim
        · exact (hx h).elim
    rcases res_c (fun (_ : Nat) (p : Pull) => !juB d a (rdx rd) p.item.toNat p.reason p.because p.round) l 0 with ⟨q1, q2⟩ | ⟨q1, j, p, q2, q3⟩
    · rw [q1]
      simp only
      rw [ck3 hsc N (by omega), bind_some']
      have hju : ∀ p ∈ l, ∀ x : Nat, p.item = x → juB d a (rdx rd) x p.reason p.because p.round = true := by
        intro p hp x hx
        obtain ⟨j, hj, he⟩ := List.mem_iff_getElem.1 hp
        have := q2 j p (by rw [List.getElem?_eq_getElem hj, he])
        simp only [Bool.not_eq_false'] at this
        rwa [hx, Int.toNat_natCast] at this
      cases ho : opB d a (rdx rd) with
      | true =>
        refine ⟨false, rfl, ?_⟩
        constructor
        · intro h; cases h
        · rintro ⟨rd', hP⟩
          have := (opB_iff hn).2 (by
            have := hP.st
            rw [mk rd' hP] at this
            exact this)
          rw [ho] at this; cases this
      | false =>
        refine ⟨true, rfl, ?_⟩
        constructor
        · intro _
          refine ⟨rd, hsc, hS.nd, fun p hp => ?_, hju, fun x => ?_, (opB_iff hn).1 ho⟩
          · obtain ⟨x, g1, g2, g3, g4, _⟩ := hS.it p hp
            exact ⟨x, g1, g2, g3, g4⟩
          · rcases hS.on x with h | h
            · rw [hr0] at h; exact .inl h
            · exact .inr h
        · intro _; rfl
    · rw [q1]
      simp only
      refine ⟨false, rfl, ?_⟩
      constructor
      · intro h; cases h
      · rintro ⟨rd', hP⟩
        have hp := List.mem_of_getElem? q2
        obtain ⟨x, g1, g2, _⟩ := hP.it p hp
        have := hP.ju p hp x g1
        rw [mk rd' hP] at this
        rw [g1, Int.toNat_natCast, this] at q3
        cases q3
theorem Check_ok (N : Nat) (hN : 1000 ≤ N) {d : Disorder} (hD : DOk d) {a : List Spot} (hA : AtOk d a) (l : List Pull) (hl : l.length ≤ 900) : ∃ b, zaS N d l = some (b, 0) ∧ (b = true ↔ ∃ rd, PsOk d a l rd) := by
  obtain ⟨b, h1, h2⟩ := check_ok N hN hD hA l hl
  unfold zaS
  rw [valid_ok N (by omega) hD, bind_some', if_neg (by simp), h1, bind_some']
  exact ⟨b, rfl, h2⟩
end Go.W
end
section
set_option linter.unusedVariables false
set_option linter.unusedSimpArgs false
set_option maxRecDepth 100000
namespace Go.W
open Go.AM
theorem srt_eq {α : Type} (x0 : α) (f : α → Int) {out l : List α} (hp : out.Perm l) (hl : l.Pairwise fun x y => f x < f y) (hs : out.length < 1000000) : @srtI α ⟨x0⟩ (fun a b => cmpI (f a) (f b)) out = some l := by
  letI : Inhabited α := ⟨x0⟩
  unfold srtI
  rw [if_pos (by omega)]
  congr 1
  have h1 := (srtL_perm (fun a b => cmpI (f a) (f b)) (swo_key f) out).trans hp
  have h2 := srtL_sorted f out
  have inj : ∀ a ∈ l, ∀ b ∈ l, f a = f b → a = b := by
    intro a ha b hb hab
    obtain ⟨i, hi, rfl⟩ := List.mem_iff_getElem.1 ha
    obtain ⟨j, hj, rfl⟩ := List.mem_iff_getElem.1 hb
    rcases Nat.lt_trichotomy i j with h | h | h
    · have := (List.pairwise_iff_getElem.1 hl) i j hi hj h; omega
    · subst h; rfl
    · have := (List.pairwise_iff_getElem.1 hl) j i hj hi h; omega
  refine List.Perm.eq_of_pairwise (le := fun x y => f x ≤ f y) (fun a b ha hb h h' => inj a (h1.mem_iff.1 ha) b hb (by omega)) h2 (hl.imp fun h => by omega) h1
def disA : Disorder := Disorder.mk [(Item.mk 0 1 0 100), (Item.mk 0 0 0 100)] [0] [[0, 1]]
def disB : Disorder := Disorder.mk [(Item.mk 0 2 0 100), (Item.mk 0 1 0 100)] [0] [[0], [1]]
theorem saneA : zaT 1000 disA = some ([(Pull.mk 0 3 1 0), (Pull.mk 1 2 0 1)], 0) := by
  have h1 : zaU 1000 disA = some true := by kernel_rfl
  have h2 : zbC 1000 disA = some (Scene.mk disA [] [], [Spot.mk 0 0, Spot.mk 0 1], [-1, -1]) := by kernel_rfl
  have h3 : zaT_0 1000 disA (Scene.mk disA [] []) [Spot.mk 0 0, Spot.mk 0 1] 1000 [] 0 [-1, -1] = some [(Pull.mk 0 3 1 0), (Pull.mk 1 2 0 1)] := by kernel_rfl
  unfold zaT
  rw [h1, bind_some', if_neg (by simp), h2, bind_some']
  simp only
  rw [h3, bind_some', srt_eq (Pull.mk 0 0 0 0) Pull.item (List.Perm.refl _) (by simp) (by simp), bind_some']
theorem saneB : zaT 1000 disB = some ([(Pull.mk 0 3 1 1), (Pull.mk 1 1 (-1) 0)], 0) := by
  have h1 : zaU 1000 disB = some true := by kernel_rfl
  have h2 : zbC 1000 disB = some (Scene.mk disB [] [], [Spot.mk 0 0, Spot.mk 1 0], [-1, -1]) := by kernel_rfl
  have h3 : zaT_0 1000 disB (Scene.mk disB [] []) [Spot.mk 0 0, Spot.mk 1 0] 1000 [] 0 [-1, -1] = some [(Pull.mk 1 1 (-1) 0), (Pull.mk 0 3 1 1)] := by kernel_rfl
  unfold zaT
  rw [h1, bind_some', if_neg (by simp), h2, bind_some']
  simp only
  rw [h3, bind_some', srt_eq (Pull.mk 0 0 0 0) Pull.item (List.Perm.swap _ _ _) (by simp) (by simp), bind_some']
theorem sane33 : zbR 1000 = some true := by
  unfold zbR
  have hA := saneA
  have hB := saneB
  unfold disA at hA
  unfold disB at hB
  rw [hA, bind_some', hB, bind_some']
  have hC : zaS 1000 (Disorder.mk [(Item.mk 0 2 0 100), (Item.mk 0 1 0 100)] [0] [[0], [1]]) [(Pull.mk 0 3 1 1), (Pull.mk 1 1 (-1) 0)] = some (true, 0) := by kernel_rfl
  simp only
  rw [hC, bind_some']
  have hZ : zbR_0 1000 [(Pull.mk 0 3 1 0), (Pull.mk 1 2 0 1)] 0 [(Pull.mk 0 3 1 1), (Pull.mk 1 1 (-1) 0)] 0 true 0 = some true := by kernel_rfl
  simp only
  rw [hZ, bind_some']
theorem ne_irr {a : List Spot} {x : Nat} : neB a x x = false := by unfold neB; simp
theorem ah_irr {d : Disorder} {x : Nat} : ahB d x x = false := by unfold ahB; simp
theorem PsOk.len {d : Disorder} {a : List Spot} {out : List Pull} {rd : List Int} (h : PsOk d a out rd) : out.length ≤ d.items.length := by
  have h1 : (out.map Pull.item).length ≤ ((List.range d.items.length).map fun (x : Nat) => (x : Int)).length := by
    refine List.Nodup.length_le_of_subset h.nd fun i hi => ?_
    obtain ⟨p, hp, rfl⟩ := List.mem_map.1 hi
    obtain ⟨x, h1, h2, _⟩ := h.it p hp
    exact List.mem_map.2 ⟨x, List.mem_range.2 h2, h1.symm⟩
  simpa using h1
end Go.W
end
section
set_option linter.unusedVariables false
set_option linter.unusedSimpArgs false
namespace Go.W
open Go.AM
def pulB (l : List Pull) (i : Int) : Bool := decide (∃ p ∈ l, p.item = i)
theorem conF (N : Nat) (l : List Pull) (i : Int) (hN : l.length < N) (hl : l.length ≤ 100000) : zaA N l i = some (pulB l i) := by
  unfold zaA zaB
  have h := first_gen (l := l) (fun _ p => p.item == i) (fun j _ => (j : Int)) (zaB_0 N l i (l.length : Int)) (fun n => by unfold zaB_0; rw [if_neg (by simp)]) (fun n j p hp => by
    have hj := (List.getElem?_eq_some_iff.1 hp).1
    have h1 : zaH N p i = some (p.item == i) := rfl
    rw [zaB_0, if_pos (by simp; omega), getI_nat hp, bind_some', h1, bind_some', w64s (by omega)]) l.length N 0 hN (by omega)
  have h : zaB_0 N l i (l.length : Int) N 0 = _ := h
  rw [h, bind_some', List.drop_zero]
  have e : ∀ r : Int, (firstI (fun (_ : Nat) (p : Pull) => p.item == i) 0 l = r) → decide (0 ≤ r) = pulB l i := by
    intro r hr
    unfold pulB
    rcases firstI_spec (fun (_ : Nat) (p : Pull) => p.item == i) l 0 with ⟨h1, h2⟩ | ⟨j, p, h1, h2, h3, h4⟩
    · rw [← hr, h1]
      symm
      rw [show (decide ((0 : Int) ≤ -1)) = false from rfl, decide_eq_false_iff_not]
      rintro ⟨p, hp, he⟩
      obtain ⟨j, hj, hh⟩ := List.mem_iff_getElem.1 hp
      have := h2 j p (by rw [List.getElem?_eq_getElem hj, hh])
      simp [he] at this
    · rw [← hr, h1, decide_eq_true (by omega)]
      symm
      rw [decide_eq_true_iff]
      exact ⟨p, List.mem_of_getElem? h2, by simpa using h3⟩
  rcases res_first (fun (_ : Nat) (p : Pull) => p.item == i) l 0 with ⟨h1, h2⟩ | ⟨h1, h2⟩
  · rw [h1]
    simp only
    rw [bind_some', lt_def, e _ h2]
  · rw [h1]
    simp only
    rw [bind_some', lt_def, e _ rfl]
theorem set_self {α : Type} {l : List α} {i : Nat} {a : α} (h : l[i]? = some a) : l.set i a = l := by
  apply List.ext_getElem?
  intro j
  rw [List.getElem?_set]
  have hi := (List.getElem?_eq_some_iff.1 h).1
  by_cases hij : i = j
  · subst hij; rw [if_pos rfl, if_pos hi, h]
  · simp [hij]
def kpB (l : List Pull) (stay : Bool) (i : Int) : Bool := !(pulB l i == stay)
theorem split1 (N : Nat) (hN : 1000 ≤ N) (ps : List Pull) (hp : ps.length ≤ 900) (stay : Bool) (t : Nat) (l : List Int) (hl : l.length ≤ 1000) : ∀ (k m i : Nat) (x7 : List (List Int)) (cur : List Int), k < m → i + k = l.length → cur.length + k ≤ 2000 → x7[t]? = some cur →
    zaW_1 N ps stay (t : Int) l (l.length : Int) m x7 (i : Int) = some (x7.set t (cur ++ (l.drop i).filter (kpB ps stay)))
  | k, 0, i, x7, cur, h, _, _, _ => by omega
  | 0, m + 1, i, x7, cur, h, hi, hc, hx => by
    unfold zaW_1
    rw [if_neg (by simp; omega), List.drop_of_length_le (by omega), List.filter_nil, List.append_nil, set_self hx]
  | k + 1, m + 1, i, x7, cur, h, hi, hc, hx => by
    have hlt : i < l.length := by omega
    have ht := (List.getElem?_eq_some_iff.1 hx).1
    rw [zaW_1, if_pos (by simp; omega)]
    have step : zaW_2 N ps stay x7 (t : Int) l (i : Int) = some (if kpB ps stay l[i] = true then x7.set t (cur ++ [l[i]]) else x7) := by
      unfold zaW_2
      rw [getI_nat (at_lt hlt), bind_some', conF N ps _ (by omega) (by omega), bind_some']
      show (if kpB ps stay l[i] = true then _ else _) = _
      by_cases hk : kpB ps stay l[i] = true
      · rw [if_pos hk, if_pos hk, getI_nat hx, bind_some', bind_some', appI_ok (by simp; omega), bind_some', bind_some', if_pos rfl, bind_some', Int.toNat_natCast]
      · rw [if_neg hk, if_neg hk]
    rw [step, bind_some', w64s (by omega), drop_at (at_lt hlt), List.filter_cons]
    by_cases hk : kpB ps stay l[i] = true
    · rw [if_pos hk, if_pos hk, split1 N hN ps hp stay t l hl k m (i + 1) _ (cur ++ [l[i]]) (by omega) (by omega) (by simp; omega) (by rw [List.getElem?_set_self ht]), List.set_set, List.append_assoc]
      rfl
    · rw [if_neg hk, if_neg hk, split1 N hN ps hp stay t l hl k m (i + 1) x7 cur (by omega) (by omega) (by omega) hx]
theorem split0 (N : Nat) (hN : 1000 ≤ N) (ps : List Pull) (hp : ps.length ≤ 900) (stay : Bool) (ts : List (List Int)) (hts : ts.length ≤ 900) (hl : ∀ l ∈ ts, l.length ≤ 900) : ∀ (k m t : Nat) (x7 : List (List Int)), k < m → t + k = ts.length → x7.length = ts.length →
    (∀ (t' : Nat) (l : List Int), ts[t']? = some l → x7[t']? = some (if t' < t then l.filter (kpB ps stay) else [])) → zaW_0 N ps stay ts (ts.length : Int) m x7 (t : Int) = some (ts.map fun l => l.filter (kpB ps stay))
  | k, 0, t, x7, h, _, _, _ => by omega
  | 0, m + 1, t, x7, h, ht, hx, hI => by
    unfold zaW_0
    rw [if_neg (by simp; omega)]
    congr 1
    refine List.ext_getElem (by simp [hx]) fun j h1 h2 => ?_
    have := hI j _ (at_lt (by omega))
    rw [at_lt h1, if_pos (by omega)] at this
    rw [List.getElem_map]
    exact Option.some.inj this
  | k + 1, m + 1, t, x7, h, ht, hx, hI => by
    have hlt : t < ts.length := by omega
    have hc := hI t _ (at_lt hlt)
    rw [if_neg (by omega)] at hc
    have hll := hl _ (List.getElem_mem hlt)
    have h1 := split1 N hN ps hp stay t ts[t] (by omega) ts[t].length N 0 x7 [] (by omega) (by omega) (by simp; omega) hc
    have h1 : zaW_1 N ps stay (t : Int) ts[t] (ts[t].length : Int) N x7 0 = _ := h1
    rw [zaW_0, if_pos (by simp; omega), getI_nat (at_lt hlt), bind_some', h1, bind_some', w64s (by omega), List.drop_zero, List.nil_append]
    refine split0 N hN ps hp stay ts hts hl k m (t + 1) _ (by omega) (by omega) (by simp [hx]) fun t' l hl' => ?_
    rw [List.getElem?_set]
    by_cases he : t = t'
    · subst he
      rw [if_pos rfl, if_pos (by omega), if_pos (by omega)]
      rw [at_lt hlt] at hl'; cases hl'; rfl
    · rw [if_neg he, hI t' l hl']
      congr 1
      by_cases h2 : t' < t
      · rw [if_pos h2, if_pos (by omega)]
      · rw [if_neg h2, if_neg (by omega)]
theorem trk_len {d : Disorder} (hD : DOk d) : ∀ l ∈ d.tracks, l.length ≤ 96 := by
  intro l hl
  obtain ⟨t, ht, he⟩ := List.mem_iff_getElem.1 hl
  have h0 : d.tracks[t]? = some l := by rw [List.getElem?_eq_getElem ht, he]
  have h1 := tot_succ h0
  have h2 := tot_le (ts := d.tracks) (d.tracks.length - (t + 1)) (t + 1)
  rw [show t + 1 + (d.tracks.length - (t + 1)) = d.tracks.length by omega, hD.tk.tot] at h2
  have := hD.li
  omega
theorem split_ok (N : Nat) (hN : 1000 ≤ N) {d : Disorder} (hD : DOk d) (ps : List Pull) (hp : ps.length ≤ 900) (stay : Bool) : zaW N d ps stay = some (d.tracks.map fun l => l.filter (kpB ps stay)) := by
  have := hD.lt
  unfold zaW
  rw [mkI_ok (by omega) (by omega), bind_some']
  have h := split0 N hN ps hp stay d.tracks (by omega) (fun l hl => by have := trk_len hD l hl; omega) d.tracks.length N 0 (List.replicate (d.tracks.length : Int).toNat []) (by omega) (by omega) (by simp) (fun t' l hl => by
    have := (List.getElem?_eq_some_iff.1 hl).1
    rw [List.getElem?_replicate, if_pos (by simpa using this), if_neg (by omega)])
  have h : zaW_0 N ps stay d.tracks (d.tracks.length : Int) N (List.replicate (d.tracks.length : Int).toNat []) 0 = _ := h
  rw [h, bind_some']
theorem rest_ok (N : Nat) (hN : 1000 ≤ N) {d : Disorder} (hD : DOk d) {a : List Spot} {ps : List Pull} {rd : List Int} (hP : PsOk d a ps rd) : zbB N d ps = some (d.tracks.map (fun l => l.filter (kpB ps true)), 0) := by
  have hli := hD.li
  have hlen := hP.len
  obtain ⟨b, g1, g2⟩ := Check_ok N hN hD hP.sc.at' ps (by omega)
  have hb : b = true := g2.2 ⟨rd, hP⟩
  subst hb
  unfold zbB
  rw [g1, bind_some', lt_def, if_neg (by simp), lt_def, if_neg (by simp), split_ok N hN hD ps (by omega) true, bind_some']
  simp
theorem filter_pre {α : Type} {q : α → Bool} : ∀ {l : List α}, (∀ (i j : Nat) (x y : α), i < j → l[i]? = some x → l[j]? = some y → q y = true → q x = true) → l.filter q = l.take (l.filter q).length
  | [], _ => rfl
  | x :: l, h => by
    rw [List.filter_cons]
    by_cases hx : q x = true
    · rw [if_pos hx, List.length_cons, List.take_succ_cons]
      congr 1
      exact filter_pre fun i j a b hij ha hb => h (i + 1) (j + 1) a b (by omega) (by simpa using ha) (by simpa using hb)
    · rw [if_neg hx]
      have : l.filter q = [] := by
        rw [List.filter_eq_nil_iff]
        intro y hy hq
        obtain ⟨j, hj, he⟩ := List.mem_iff_getElem.1 hy
        exact hx (h 0 (j + 1) x y (by omega) rfl (by simp [List.getElem?_eq_getElem hj, he]) hq)
      rw [this]; rfl
theorem pul_rd {d : Disorder} {a : List Spot} {ps : List Pull} {rd : List Int} (hP : PsOk d a ps rd) (x : Nat) : kpB ps true (x : Int) = true ↔ rdx rd x = -1 := by
  unfold kpB pulB
  simp only [beq_true, Bool.not_eq_true', decide_eq_false_iff_not]
  constructor
  · intro h
    rcases hP.on x with h1 | h1
    · exact h1
    · exact (h h1).elim
  · rintro h ⟨p, hp, he⟩
    obtain ⟨y, g1, g2, g3, g4⟩ := hP.it p hp
    have : y = x := by omega
    subst this; omega
theorem spot_of {d : Disorder} {a : List Spot} (hA : AtOk d a) {t p x : Nat} (h : posD d.tracks t p = some (x : Int)) : atx a x = Spot.mk t p := by
  unfold atx; rw [hA.ps t p x h]; rfl
theorem near_of {d : Disorder} {a : List Spot} (hA : AtOk d a) {t p q x y : Nat} (h : posD d.tracks t p = some (x : Int)) (h' : posD d.tracks t q = some (y : Int)) (hpq : p < q) : neB a y x = true := by
  unfold neB
  rw [spot_of hA h, spot_of hA h']
  simp; omega
theorem stay_pre {d : Disorder} {a : List Spot} {ps : List Pull} {rd : List Int} (hP : PsOk d a ps rd) {t : Nat} {l : List Int} (hl : d.tracks[t]? = some l) : l.filter (kpB ps true) = l.take (l.filter (kpB ps true)).length := by
  have hD := hP.sc.ok
  refine filter_pre fun i j x y hij hx hy hq => ?_
  have px : posD d.tracks t i = some x := by unfold posD; rw [hl]; exact hx
  have py : posD d.tracks t j = some y := by unfold posD; rw [hl]; exact hy
  obtain ⟨x0, rfl⟩ := Int.eq_ofNat_of_zero_le (hD.tk.rg _ _ _ px).1
  obtain ⟨y0, rfl⟩ := Int.eq_ofNat_of_zero_le (hD.tk.rg _ _ _ py).1
  have rx := hD.tk.rg _ _ _ px
  have ry := hD.tk.rg _ _ _ py
  rw [pul_rd hP] at hq ⊢
  obtain ⟨_, s2⟩ := hP.st y0 (by omega) hq
  rcases hP.on x0 with h1 | ⟨p, hp, he⟩
  · exact h1
  · obtain ⟨z, g1, g2, g3, g4⟩ := hP.it p hp
    have : z = x0 := by omega
    subst this
    have := ((s2 z g2).2 (by omega)).2
    rw [near_of hP.sc.at' px py hij] at this
    cases this
theorem sum_len (ts : List (List Int)) (q : Int → Bool) : ((ts.map fun l => l.filter q).map List.length).sum = (ts.flatten.filter q).length := by
  rw [← List.length_flatten, ← List.filter_flatten]
theorem mem_flat {ts : List (List Int)} {i : Int} : i ∈ ts.flatten ↔ ∃ t p, posD ts t p = some i := by
  rw [List.mem_flatten]
  constructor
  · rintro ⟨l, hl, hi⟩
    obtain ⟨t, ht, he⟩ := List.mem_iff_getElem.1 hl
    obtain ⟨p, hp, hh⟩ := List.mem_iff_getElem.1 hi
    refine ⟨t, p, ?_⟩
    unfold posD
    rw [List.getElem?_eq_getElem ht, he, Option.bind_some, List.getElem?_eq_getElem hp, hh]
  · rintro ⟨t, p, h⟩
    unfold posD at h
    cases hl : ts[t]? with
    | none => rw [hl] at h; cases h
    | some l =>
      rw [hl] at h
      exact ⟨l, List.mem_of_getElem? hl, List.mem_of_getElem? h⟩
theorem flat_nd {ts : List (List Int)} {n : Nat} (h : TkOk ts n) : ts.flatten.Nodup := by
  rw [List.Nodup, List.pairwise_flatten]
  constructor
  · intro l hl
    obtain ⟨t, ht, he⟩ := List.mem_iff_getElem.1 hl
    refine List.pairwise_iff_getElem.2 fun i j hi hj hij hh => ?_
    have e1 : posD ts t i = some l[i] := by unfold posD; rw [List.getElem?_eq_getElem ht, he]; exact at_lt hi
    have e2 : posD ts t j = some l[j] := by unfold posD; rw [List.getElem?_eq_getElem ht, he]; exact at_lt hj
    rw [← hh] at e2
    have := (h.inj _ _ _ _ _ e1 e2).2
    omega
  · refine List.pairwise_iff_getElem.2 fun t t' ht ht' hlt => ?_
    intro i hi i' hi' hii
    subst hii
    obtain ⟨p, hp, hh⟩ := List.mem_iff_getElem.1 hi
    obtain ⟨q, hq, hg⟩ := List.mem_iff_getElem.1 hi'
    have e1 : posD ts t p = some i := by unfold posD; rw [List.getElem?_eq_getElem ht, Option.bind_some, List.getElem?_eq_getElem hp, hh]
    have e2 : posD ts t' q = some i := by unfold posD; rw [List.getElem?_eq_getElem ht', Option.bind_some, List.getElem?_eq_getElem hq, hg]
    have := (h.inj _ _ _ _ _ e1 e2).1
    omega
theorem stay_cnt {d : Disorder} {a : List Spot} {ps : List Pull} {rd : List Int} (hP : PsOk d a ps rd) : ps.length + (((d.tracks.map fun l => l.filter (kpB ps true))).map List.length).sum = d.items.length := by
  have hD := hP.sc.ok
  have hnd := flat_nd hD.tk
  have hfl : d.tracks.flatten.length = d.items.length := by
    rw [List.length_flatten, ← tot_all]; exact hD.tk.tot
  rw [sum_len]
  have h1 : (d.tracks.flatten.filter (fun i => !kpB ps true i)).length = ps.length := by
    have e : ∀ i, (!kpB ps true i) = pulB ps i := by intro i; unfold kpB; simp
    refine Nat.le_antisymm ?_ ?_
    · have : (d.tracks.flatten.filter (fun i => !kpB ps true i)).length ≤ (ps.map Pull.item).length := by
        refine List.Nodup.length_le_of_subset (hnd.filter _) fun i hi => ?_
        have := (List.mem_filter.1 hi).2
        rw [e] at this
        unfold pulB at this
        obtain ⟨p, hp, he⟩ := of_decide_eq_true this
        exact List.mem_map.2 ⟨p, hp, he⟩
      simpa using this
    · have : (ps.map Pull.item).length ≤ (d.tracks.flatten.filter (fun i => !kpB ps true i)).length := by
        refine List.Nodup.length_le_of_subset hP.nd fun i hi => ?_
        obtain ⟨p, hp, rfl⟩ := List.mem_map.1 hi
        obtain ⟨x, g1, g2, _⟩ := hP.it p hp
        refine List.mem_filter.2 ⟨?_, ?_⟩
        · rw [g1]; exact mem_flat.2 (hD.tk.all x g2)
        · rw [e]; unfold pulB; exact decide_eq_true ⟨p, hp, rfl⟩
      simpa using this
  have h2 : d.tracks.flatten.length = (d.tracks.flatten.filter (kpB ps true)).length + (d.tracks.flatten.filter (fun i => !kpB ps true i)).length := by
    induction d.tracks.flatten with
    | nil => rfl
    | cons i l ih =>
      rw [List.filter_cons, List.filter_cons]
      cases kpB ps true i <;> simp <;> omega
  omega
end Go.W
end
section
set_option linter.unusedVariables false
set_option linter.unusedSimpArgs false
namespace Go.W
open Go.AM
theorem tk_iff {ts : List (List Int)} {n : Nat} : TkOk ts n ↔ ts.flatten.Nodup ∧ (∀ i ∈ ts.flatten, 0 ≤ i ∧ i < n) ∧ ts.flatten.length = n := by
  constructor
  · intro h
    refine ⟨flat_nd h, fun i hi => ?_, ?_⟩
    · obtain ⟨t, p, hp⟩ := mem_flat.1 hi
      exact h.rg _ _ _ hp
    · rw [List.length_flatten, ← tot_all, h.tot]
  · rintro ⟨h1, h2, h3⟩
    refine ⟨fun t p i hi => h2 i (mem_flat.2 ⟨t, p, hi⟩), fun t p t' p' i hi hi' => ?_, fun x hx => ?_, by rw [tot_all, ← List.length_flatten, h3]⟩
    · rw [List.Nodup, List.pairwise_flatten] at h1
      obtain ⟨g1, g2⟩ := h1
      unfold posD at hi hi'
      cases hl : ts[t]? with
      | none => rw [hl] at hi; cases hi
      | some l =>
        cases hl' : ts[t']? with
        | none => rw [hl'] at hi'; cases hi'
        | some l' =>
          rw [hl] at hi
          rw [hl'] at hi'
          have hi : l[p]? = some i := hi
          have hi' : l'[p']? = some i := hi'
          obtain ⟨a1, a2⟩ := List.getElem?_eq_some_iff.1 hl
          obtain ⟨b1, b2⟩ := List.getElem?_eq_some_iff.1 hl'
          obtain ⟨c1, c2⟩ := List.getElem?_eq_some_iff.1 hi
          obtain ⟨e1, e2⟩ := List.getElem?_eq_some_iff.1 hi'
          have far : ∀ (u u' : Nat) (hu : u < ts.length) (hu' : u' < ts.length), u < u' → i ∈ ts[u] → i ∈ ts[u'] → False := by
            intro u u' hu hu' hlt m m'
            exact (List.pairwise_iff_getElem.1 g2) u u' hu hu' hlt i m i m' rfl
          rcases Nat.lt_trichotomy t t' with hlt | heq | hgt
          · exact (far t t' a1 b1 hlt (by rw [a2]; exact List.mem_of_getElem? hi) (by rw [b2]; exact List.mem_of_getElem? hi')).elim
          · subst heq
            rw [hl] at hl'
            cases hl'
            refine ⟨rfl, ?_⟩
            have nd := g1 l (List.mem_of_getElem? hl)
            rcases Nat.lt_trichotomy p p' with h | h | h
            · exact absurd (c2.trans e2.symm) ((List.pairwise_iff_getElem.1 nd) p p' c1 e1 h)
            · exact h
            · exact absurd (e2.trans c2.symm) ((List.pairwise_iff_getElem.1 nd) p' p e1 c1 h)
          · exact (far t' t b1 a1 hgt (by rw [b2]; exact List.mem_of_getElem? hi') (by rw [a2]; exact List.mem_of_getElem? hi)).elim
    · by_cases hm : (x : Int) ∈ ts.flatten
      · obtain ⟨t, p, hp⟩ := mem_flat.1 hm
        exact ⟨t, p, hp⟩
      · exfalso
        have h4 : ((x : Int) :: ts.flatten).length ≤ ((List.range n).map fun (y : Nat) => (y : Int)).length := by
          refine List.Nodup.length_le_of_subset (List.nodup_cons.2 ⟨hm, h1⟩) fun i hi => ?_
          rcases List.mem_cons.1 hi with rfl | hi
          · exact List.mem_map.2 ⟨x, List.mem_range.2 hx, rfl⟩
          · obtain ⟨r1, r2⟩ := h2 i hi
            exact List.mem_map.2 ⟨i.toNat, List.mem_range.2 (by omega), by omega⟩
        simp only [List.length_cons, List.length_map, List.length_range] at h4
        omega
theorem kp_t (l : List Pull) (x : Int) : kpB l true x = !pulB l x := by unfold kpB; cases pulB l x <;> rfl
theorem kp_f (l : List Pull) (x : Int) : kpB l false x = pulB l x := by unfold kpB; cases pulB l x <;> rfl
def itI (d : Disorder) (i : Int) : Item := itm d i.toNat
theorem itI_at {d : Disorder} {i : Int} (h : 0 ≤ i ∧ i < d.items.length) : getI d.items i = some (itI d i) := by
  obtain ⟨j, rfl⟩ := Int.eq_ofNat_of_zero_le h.1
  unfold itI
  rw [Int.toNat_natCast]
  exact itm_at (by omega)
theorem con0 (N : Nat) (xss : List (List Int)) (hx : xss.length ≤ 900) (hl : ∀ l ∈ xss, l.length ≤ 900) : ∀ (k m i : Nat) (s : Nat), k < m → i + k = xss.length → s + 900 * k ≤ 900000 →
    ∃ r : Nat, zaD_0 N xss (xss.length : Int) m (s : Int) (i : Int) = some (r : Int) ∧ r ≤ 900000
  | k, 0, i, s, h, _, _ => by omega
  | 0, m + 1, i, s, h, hi, hs => by
    rw [zaD_0, if_neg (by simp; omega)]
    exact ⟨s, rfl, by omega⟩
  | k + 1, m + 1, i, s, h, hi, hs => by
    have hlt : i < xss.length := by omega
    have hll := hl _ (List.getElem_mem hlt)
    have step : zaD_1 N (s : Int) xss (i : Int) = some ((s + xss[i].length : Nat) : Int) := by
      unfold zaD_1
      rw [getI_nat (at_lt hlt), bind_some', lt_def, w64 (by omega) (by omega), if_neg (by simp; omega)]
      congr 1
    rw [zaD_0, if_pos (by simp; omega), step, bind_some', w64s (by omega)]
    exact con0 N xss hx hl k m (i + 1) _ (by omega) (by omega) (by omega)
theorem grow_ok (N : Nat) (n : Nat) (hn : n ≤ 900000) : zaF N (n : Int) = some [] := by
  unfold zaF zaF_0
  rw [if_neg (by simp), bind_some', lt_def]
  have e : IntKind.wrap .i64 ((n : Int) - IntKind.wrap .i64 (0 - (([] : List Int).length : Int))) = (n : Int) := by
    rw [w64 (n := 0 - (([] : List Int).length : Int)) (by simp) (by simp), w64 (by simp <;> omega) (by simp <;> omega)]; simp
  rw [e]
  unfold zaF_1
  by_cases h : (0 : Int) < n
  · rw [if_pos (by simpa using h), if_pos (by simpa using h), mkI_ok (by omega) (by omega), bind_some']
    have : cutI (List.replicate (n : Int).toNat (0 : Int)) 0 (([] : List Int).length : Int) = some [] := by
      have := cutI_take (xs := List.replicate (n : Int).toNat (0 : Int)) (i := 0) (by omega)
      simpa using this
    rw [this, bind_some', bind_some']
  · rw [if_neg (by simpa using h), bind_some']
theorem con2 (N : Nat) (xss : List (List Int)) (hx : xss.length ≤ 900) (hl : ∀ l ∈ xss, l.length ≤ 900) : ∀ (k m i : Nat) (out : List Int), k < m → i + k = xss.length → out.length + 900 * k ≤ 900000 →
    zaD_2 N xss (xss.length : Int) m out (i : Int) = some (out ++ (xss.drop i).flatten)
  | k, 0, i, out, h, _, _ => by omega
  | 0, m + 1, i, out, h, hi, hs => by
    rw [zaD_2, if_neg (by simp; omega), List.drop_of_length_le (by omega)]; simp
  | k + 1, m + 1, i, out, h, hi, hs => by
    have hlt : i < xss.length := by omega
    have hll := hl _ (List.getElem_mem hlt)
    rw [zaD_2, if_pos (by simp; omega), getI_nat (at_lt hlt), bind_some', appI_ok (by omega), bind_some', w64s (by omega), con2 N xss hx hl k m (i + 1) _ (by omega) (by omega) (by simp; omega), drop_at (at_lt hlt), List.flatten_cons, List.append_assoc]
theorem concat_ok (N : Nat) (hN : 1000 ≤ N) (xss : List (List Int)) (hx : xss.length ≤ 900) (hl : ∀ l ∈ xss, l.length ≤ 900) : zaD N xss = some xss.flatten := by
  obtain ⟨r, h1, h2⟩ := con0 N xss hx hl xss.length N 0 0 (by omega) (by omega) (by omega)
  have h1 : zaD_0 N xss (xss.length : Int) N 0 0 = _ := h1
  have h3 := con2 N xss hx hl xss.length N 0 [] (by omega) (by omega) (by simp; omega)
  rw [List.drop_zero, List.nil_append] at h3
  have h3 : zaD_2 N xss (xss.length : Int) N [] 0 = _ := h3
  unfold zaD
  rw [h1, bind_some', grow_ok N r h2, bind_some', h3, bind_some']
theorem job1 (N : Nat) {d : Disorder} (xs : List Int) (hx : xs.length ≤ 900) (hr : ∀ i ∈ xs, 0 ≤ i ∧ i < d.items.length) (w : Int) : ∀ (k m i : Nat) (J : List Item) (out : List Item), k < m → i + k = xs.length → out.length + k ≤ 2000 →
    zbK_1 N d xs (xs.length : Int) m (Job.mk J w) (i : Int) out = some (Job.mk [] w, out ++ (xs.drop i).map (itI d))
  | k, 0, i, J, out, h, _, _ => by omega
  | 0, m + 1, i, J, out, h, hi, ho => by
    rw [zbK_1, if_neg (by simp; omega), List.drop_of_length_le (by omega), List.map_nil, List.append_nil]
  | k + 1, m + 1, i, J, out, h, hi, ho => by
    have hlt : i < xs.length := by omega
    rw [zbK_1, if_pos (by simp; omega), getI_nat (at_lt hlt), bind_some', bind_some', itI_at (hr _ (List.getElem_mem hlt)), bind_some', appI_ok (by simp; omega), bind_some', w64s (by omega), job1 N xs hx hr w k m (i + 1) _ _ (by omega) (by omega) (by simp; omega), drop_at (at_lt hlt), List.map_cons, List.append_assoc]
    rfl
theorem jin (N : Nat) (x lo hi : Int) : zbZ N x lo hi = some (decide (lo ≤ x ∧ x ≤ hi)) := by
  unfold zbZ zbZ_0
  by_cases h : lo ≤ x
  · rw [if_pos (by simpa using h), lt_def, bind_some']; simp [h]
  · rw [if_neg (by simpa using h), bind_some']; simp [h]
theorem jval (N : Nat) (J : Job) (hJ : J.items.length ≤ 96) (hN : 200 ≤ N) (hw : 0 ≤ J.weight ∧ J.weight ≤ 12) (hi : ∀ x ∈ J.items, 0 ≤ x.train ∧ x.train ≤ 15 ∧ 0 ≤ x.block ∧ x.block < 32 ∧ x.round = 0 ∧ 1 ≤ x.length ∧ x.length ≤ 400) : zbM N J = some 0 := by
  unfold zbM
  rw [if_neg (by simp; omega), jin, bind_some', decide_eq_true hw, if_neg (by simp)]
  have h := first_gen (l := J.items) (fun _ _ => false) (fun _ _ => (0 : Int)) (zbM_0 N J J.items (J.items.length : Int)) (fun n => by unfold zbM_0; rw [if_neg (by simp)]) (fun n i x hx => by
    have hlt := (List.getElem?_eq_some_iff.1 hx).1
    have hr := hi x (List.mem_of_getElem? hx)
    have e1 : zbM_1 N x = some false := by
      unfold zbM_1
      rw [jin, bind_some', decide_eq_true (by omega), if_neg (by simp), jin, bind_some', decide_eq_true (by omega), if_neg (by simp), jin, bind_some', decide_eq_true (by omega), if_neg (by simp), jin, bind_some', decide_eq_true (by omega)]
      rfl
    have e2 : zbM_2 N J (i : Int) x = some false := by
      unfold zbM_2
      by_cases h0 : 0 < i
      · obtain ⟨j, rfl⟩ : ∃ j, i = j + 1 := ⟨i - 1, by omega⟩
        have hj : j < J.items.length := by omega
        have hp := hi _ (List.getElem_mem hj)
        rw [if_pos (by simp <;> omega), w64p (by omega), getI_nat (at_lt hj), bind_some']
        congr 1
        rw [decide_eq_false_iff_not]; omega
      · rw [if_neg (by simp <;> omega)]
    rw [zbM_0, if_pos (by simp; omega), getI_nat hx, bind_some', e1, bind_some', if_neg (by simp), e2, bind_some', if_neg (by simp), if_neg (by simp), w64s (by omega)]) J.items.length N 0 (by omega) (by omega)
  have h : zbM_0 N J J.items (J.items.length : Int) N 0 = _ := h
  rw [List.drop_zero] at h
  have hres : ∀ (l : List Item) (i : Nat), res (fun _ _ => false) (fun _ _ => (0 : Int)) i l = .inl () := by
    intro l
    induction l with
    | nil => intro i; rfl
    | cons x l ih => intro i; rw [res, if_neg (by simp), ih]
  rw [hres] at h
  rw [h, bind_some']
def jobL (d : Disorder) (ps : List Pull) : List Int := d.tracks.flatten.filter (pulB ps)
theorem flat_filter (ts : List (List Int)) (q : Int → Bool) : (ts.map fun l => l.filter q).flatten = ts.flatten.filter q := by
  induction ts with
  | nil => rfl
  | cons l ts ih => rw [List.map_cons, List.flatten_cons, List.flatten_cons, List.filter_append, ih]
theorem flat_len {d : Disorder} (hD : DOk d) : d.tracks.flatten.length = d.items.length := by
  have := (tk_iff.1 hD.tk).2.2
  exact this
theorem jobL_len {d : Disorder} (hD : DOk d) (ps : List Pull) : (jobL d ps).length ≤ d.items.length := by
  have h : (jobL d ps).length ≤ d.tracks.flatten.length := List.length_filter_le _ _
  rw [flat_len hD] at h
  exact h
theorem jobL_rg {d : Disorder} (hD : DOk d) (ps : List Pull) : ∀ i ∈ jobL d ps, 0 ≤ i ∧ i < d.items.length := fun i hi => (tk_iff.1 hD.tk).2.1 i (List.mem_filter.1 hi).1
end Go.W
end
section
set_option linter.unusedVariables false
set_option linter.unusedSimpArgs false
namespace Go.W
open Go.AM
structure J0 (j : Job) : Prop where
  li : j.items.length ≤ 90
  wt : j.weight = 12
  it : ∀ x ∈ j.items, 0 ≤ x.train ∧ x.train < 16 ∧ 0 ≤ x.block ∧ x.block < 32 ∧ x.round = 0 ∧ 1 ≤ x.length ∧ x.length ≤ 400
def ji (j : Job) (x : Nat) : Item := (j.items[x]?).getD (Item.mk 0 0 0 0)
section
variable {j : Job} (hJ : J0 j) (N : Nat)
theorem ji_at {x : Nat} (hx : x < j.items.length) : getI j.items (x : Int) = some (ji j x) := by
  rw [getI_nat (at_lt hx)]; unfold ji; rw [at_lt hx]; rfl
theorem ji_mem {x : Nat} (hx : x < j.items.length) : ji j x ∈ j.items := by
  unfold ji; rw [at_lt hx]; exact List.getElem_mem hx
include hJ
theorem v11_ok (hN : 200 ≤ N) : zbN N j = some 0 := by
  have hli := hJ.li
  have hw := hJ.wt
  unfold zbN zbN_0
  rw [if_neg (by simp; omega), if_neg (by simp; omega), bind_some', if_neg (by simp; omega)]
  have h := first_gen (l := j.items) (fun _ _ => false) (fun _ _ => (0 : Int)) (zbN_1 N j) (fun n => by unfold zbN_1; rw [if_neg (by simp)]) (fun n i x hx => by
    have hi := (List.getElem?_eq_some_iff.1 hx).1
    have hr := hJ.it x (List.mem_of_getElem? hx)
    have e2 : zbN_2 N x = some false := by
      unfold zbN_2
      rw [if_neg (by simp; omega), if_neg (by simp; omega), if_neg (by simp; omega), if_neg (by simp; omega), if_neg (by simp; omega), if_neg (by simp; omega), if_neg (by simp; omega)]
      simp; omega
    have e3 : zbN_3 N j (i : Int) x = some false := by
      unfold zbN_3
      by_cases h0 : 0 < i
      · obtain ⟨q, rfl⟩ : ∃ q, i = q + 1 := ⟨i - 1, by omega⟩
        have hq : q < j.items.length := by omega
        have hp := hJ.it _ (List.getElem_mem hq)
        rw [if_pos (by simp <;> omega), w64p (by omega), getI_nat (at_lt hq), bind_some']
        congr 1
        rw [decide_eq_false_iff_not]; omega
      · rw [if_neg (by simp <;> omega)]
    rw [zbN_1, if_pos (by simp; omega), getI_nat hx, bind_some', e2, bind_some', if_neg (by simp), e3, bind_some', if_neg (by simp), if_neg (by simp), lt_def, w64s (by omega)]) j.items.length N 0 (by omega) (by omega)
  have h : zbN_1 N j N 0 = _ := h
  have hres : ∀ (l : List Item) (i : Nat), res (fun _ _ => false) (fun _ _ => (0 : Int)) i l = .inl () := by
    intro l
    induction l with
    | nil => intro i; rfl
    | cons x l ih => intro i; rw [res, if_neg (by simp), ih]
  rw [hres] at h
  rw [h, bind_some']
end
def kB (j : Job) (x y : Nat) : Bool := (ji j x).train == (ji j y).train && decide ((ji j x).block < (ji j y).block)
def stI (x y : Nat) : Int := if y < x then 1 else 0
theorem kind_ok (N : Nat) {j : Job} {x y : Nat} (hx : x < j.items.length) (hy : y < j.items.length) : zbT N j (x : Int) (y : Int) = some (if kB j x y = true then 1 + stI x y else 0) := by
  unfold zbT zbT_0 kB stI
  rw [ji_at hx, bind_some', ji_at hy, bind_some']
  by_cases h1 : (ji j x).train = (ji j y).train
  · rw [if_neg (by simpa using h1), lt_def, bind_some']
    by_cases h2 : (ji j x).block < (ji j y).block
    · rw [if_neg (by simp; omega), lt_def]
      by_cases h3 : y < x
      · rw [if_pos (show decide ((y : Int) < (x : Int)) = true by simp; omega), if_pos (by simp [h1, h2]), if_pos h3]; rfl
      · rw [if_neg (show ¬ decide ((y : Int) < (x : Int)) = true by simp; omega), if_pos (by simp [h1, h2]), if_neg h3]; rfl
    · rw [if_pos (by simp; omega), if_neg (by simp [h2])]
  · rw [if_pos (by simpa using h1), bind_some', if_pos rfl, if_neg (by simp [h1])]
theorem strict_ok (N : Nat) {j : Job} {x y : Nat} (hx : x < j.items.length) (hy : y < j.items.length) (h : kB j x y = true) : zbH N j (x : Int) (y : Int) = some (stI x y) := by
  unfold zbH
  rw [kind_ok N hx hy, bind_some', if_pos h, lt_def]
  congr 1
  unfold stI
  split <;> rfl
def vx (v : List Int) (x : Nat) : Int := (v[x]?).getD 0
theorem vx_at {v : List Int} {x : Nat} (hx : x < v.length) : getI v (x : Int) = some (vx v x) := by
  rw [getI_nat (at_lt hx)]; unfold vx; rw [at_lt hx]; rfl
theorem vx_set {v : List Int} {i y : Nat} {a : Int} (hi : i < v.length) : vx (v.set i a) y = if i = y then a else vx v y := by
  unfold vx
  rw [List.getElem?_set]
  by_cases h : i = y
  · rw [if_pos h, if_pos h, if_pos (by omega)]; rfl
  · rw [if_neg h, if_neg h]
theorem base_ok (N : Nat) {j : Job} {v : List Int} {y : Nat} (hy : y < j.items.length) (hl : v.length = j.items.length) (hb : j.items.length ≤ 90) (hv : ∀ x, 0 ≤ vx v x ∧ vx v x ≤ 1000) : ∀ (k m i : Nat) (n0 : Int), k < m → i + k = j.items.length → 0 ≤ n0 → n0 ≤ 1001 →
    ∃ n, zbS_0 N v (y : Int) j m n0 (i : Int) = some n ∧ n0 ≤ n ∧ (∀ x, i ≤ x → x < j.items.length → kB j x y = true → vx v x + stI x y ≤ n) ∧ (n = n0 ∨ ∃ x, x < j.items.length ∧ kB j x y = true ∧ n = vx v x + stI x y)
  | k, 0, i, n0, h, _, _, _ => by omega
  | 0, m + 1, i, n0, h, hi, h0, h1 => by
    rw [zbS_0, if_neg (by simp; omega)]
    exact ⟨n0, rfl, Int.le_refl _, fun x h1 h2 => by omega, .inl rfl⟩
  | k + 1, m + 1, i, n0, h, hi, h0, h1 => by
    have hlt : i < j.items.length := by omega
    have hvi := hv i
    have hst : 0 ≤ stI i y ∧ stI i y ≤ 1 := by unfold stI; split <;> omega
    have step : zbS_1 N v (y : Int) j n0 (i : Int) = some (if kB j i y = true then max n0 (vx v i + stI i y) else n0) := by
      unfold zbS_1
      rw [kind_ok N hlt hy, bind_some']
      by_cases hk : kB j i y = true
      · rw [if_pos hk, if_pos (by simp; omega), vx_at (by omega), bind_some', strict_ok N hlt hy hk, bind_some', lt_def, w64 (by omega) (by omega), if_pos hk]
      · rw [if_neg hk, if_neg (by simp), if_neg hk]
    rw [zbS_0, if_pos (by simp; omega), step, bind_some', lt_def, w64s (by omega)]
    obtain ⟨n, g1, g2, g3, g4⟩ := base_ok N hy hl hb hv k m (i + 1) (if kB j i y = true then max n0 (vx v i + stI i y) else n0) (by omega) (by omega) (by split <;> omega) (by split <;> omega)
    refine ⟨n, g1, by split at g2 <;> omega, fun x hx1 hx2 hk => ?_, ?_⟩
    · by_cases hxi : x = i
      · subst hxi
        rw [if_pos hk] at g2; omega
      · exact g3 x (by omega) hx2 hk
    · rcases g4 with g4 | g4
      · by_cases hk : kB j i y = true
        · rw [if_pos hk] at g4
          by_cases hc : n0 ≤ vx v i + stI i y
          · exact .inr ⟨i, hlt, hk, by omega⟩
          · exact .inl (by omega)
        · rw [if_neg hk] at g4; exact .inl g4
      · exact .inr g4
theorem bits_le (N : Nat) : ∀ (b m : Nat) (n k : Int), b < m → 0 ≤ k → k < 2 ^ b → 0 ≤ n → n + b ≤ 1000 → b ≤ 60 → ∃ r, zcA_1 N m n k = some r ∧ r ≤ n + b
  | b, 0, n, k, h, _, _, _, _, _ => by omega
  | 0, m + 1, n, k, h, h0, h1, _, _, _ => by
    have : k = 0 := by simp at h1; omega
    subst this
    rw [zcA_1, if_neg (by simp)]
    exact ⟨n, rfl, by omega⟩
  | b + 1, m + 1, n, k, h, h0, h1, hn0, hn, hb => by
    rw [zcA_1]
    by_cases hk : 0 < k
    · have e2 : 0 ≤ Int.tmod k 2 ∧ Int.tmod k 2 ≤ 1 := by
        have := Int.tmod_nonneg (2 : Int) h0
        have := Int.tmod_lt_of_pos k (show (0 : Int) < 2 by omega)
        omega
      have e3 : Int.tdiv k 2 = k / 2 := Int.tdiv_eq_ediv_of_nonneg h0
      have hp : (2 : Int) ^ (b + 1) = 2 * 2 ^ b := by rw [Int.pow_succ]; omega
      have hpb : (2 : Int) ^ b ≤ 2 ^ 60 := by
        have : (2 : Nat) ^ b ≤ 2 ^ 60 := Nat.pow_le_pow_right (by omega) (by omega)
        exact_mod_cast this
      have hp60 : (2 : Int) ^ 60 = 1152921504606846976 := rfl
      rw [if_pos (by simpa using hk), lt_def, w64 (by omega) (by omega), lt_def, e3, w64 (by omega) (by omega)]
      obtain ⟨r, g1, g2⟩ := bits_le N b m (n + Int.tmod k 2) (k / 2) (by omega) (by omega) (by omega) (by omega) (by omega) (by omega)
      exact ⟨r, g1, by omega⟩
    · rw [if_neg (by simpa using hk)]
      exact ⟨n, rfl, by omega⟩
theorem form_ok (N : Nat) : zbW N 0 12 = some true := rfl
theorem is_ok (N : Nat) (hN : 50 ≤ N) {k : Int} (h0 : 0 ≤ k) (h1 : k < 4096) : zcA N k 0 12 = some true := by
  have e0 : zcA_0 N k 0 12 = some false := by
    unfold zcA_0
    rw [form_ok, bind_some', if_neg (by simp), if_neg (by simp; omega), if_neg (by simp; omega)]
    have e1 : shN .i64 0 = some 0 := rfl
    have e2 : IntKind.wrap .i64 (1 * ((2 ^ 0 : Nat) : Int)) = 1 := rfl
    have e3 : modI k 1 = some 0 := by unfold modI; simp
    rw [e1, bind_some', e2, e3, bind_some', bind_some', e2]
    rfl
  unfold zcA
  have e1 : shN .i64 0 = some 0 := rfl
  have e2 : Int.fdiv k ((2 ^ 0 : Nat) : Int) = k := by simp
  rw [e0, bind_some', if_neg (by simp), e1, bind_some', lt_def, e2]
  obtain ⟨r, g1, g2⟩ := bits_le N 12 N 0 k (by omega) h0 (by simpa using h1) (by omega) (by omega) (by omega)
  rw [g1, bind_some', lt_def]
  congr 1
  rw [decide_eq_true_iff]
  omega
theorem next12_ok (N : Nat) (hN : 50 ≤ N) {k : Int} (h0 : 0 ≤ k) (h1 : k < 4096) : zbV N k 0 12 = some (k, 0) := by
  unfold zbV zbV_0
  rw [form_ok, bind_some', if_neg (by simp), bind_some', if_neg (by simp; omega)]
  obtain ⟨M, rfl⟩ : ∃ M, N = M + 1 := ⟨N - 1, by omega⟩
  rw [zbV_1, if_pos (by simp; omega), is_ok (M + 1) hN h0 h1, bind_some', if_pos rfl, bind_some']
theorem long_ok (N : Nat) : ∀ (b m : Nat) (k s : Int), b < m → 0 ≤ k → k < 2 ^ b → 0 ≤ s → s + b ≤ 60 → ∃ r : Int, zbU_0 N m k s = some r ∧ s ≤ r ∧ r ≤ s + b ∧ k < 2 ^ (r - s).toNat
  | b, 0, k, s, h, _, _, _, _ => by omega
  | 0, m + 1, k, s, h, h0, h1, _, _ => by
    have : k = 0 := by simp at h1; omega
    subst this
    rw [zbU_0, if_neg (by simp)]
    exact ⟨s, rfl, by omega, by omega, by simp⟩
  | b + 1, m + 1, k, s, h, h0, h1, hs0, hs => by
    rw [zbU_0]
    by_cases hk : 0 < k
    · have e3 : Int.tdiv k 2 = k / 2 := Int.tdiv_eq_ediv_of_nonneg h0
      have hp : (2 : Int) ^ (b + 1) = 2 * 2 ^ b := by rw [Int.pow_succ]; omega
      have hpb : (2 : Int) ^ b ≤ 2 ^ 60 := by
        have : (2 : Nat) ^ b ≤ 2 ^ 60 := Nat.pow_le_pow_right (by omega) (by omega)
        exact_mod_cast this
      have hp60 : (2 : Int) ^ 60 = 1152921504606846976 := rfl
      rw [if_pos (by simpa using hk), lt_def, w64 (by omega) (by omega), lt_def, e3, w64 (by omega) (by omega)]
      obtain ⟨r, g1, g2, g3, g4⟩ := long_ok N b m (k / 2) (s + 1) (by omega) (by omega) (by omega) (by omega) (by omega)
      refine ⟨r, g1, by omega, by omega, ?_⟩
      have e : (r - s).toNat = (r - (s + 1)).toNat + 1 := by omega
      rw [e, Int.pow_succ]
      omega
    · rw [if_neg (by simpa using hk)]
      have : k = 0 := by omega
      subst this
      exact ⟨s, rfl, by omega, by omega, by simp⟩
end Go.W
end
section
set_option linter.unusedVariables false
set_option linter.unusedSimpArgs false
namespace Go.W
open Go.AM
structure LI (j : Job) (v : List Int) (most : Int) (Dn : Nat → Prop) : Prop where
  len : v.length = j.items.length
  pos : ∀ x, 0 ≤ vx v x
  lo : ∀ x, x < j.items.length → vx v x ≤ (ji j x).block
  ok : ∀ y, y < j.items.length → Dn y → ∀ x, x < j.items.length → kB j x y = true → vx v x + stI x y ≤ vx v y
  un : ∀ x, x < j.items.length → ¬ Dn x → vx v x = 0
  ms : ∀ x, vx v x ≤ most
  mb : 0 ≤ most ∧ most ≤ 31
theorem ji_rg {j : Job} (hJ : J0 j) {x : Nat} (hx : x < j.items.length) : 0 ≤ (ji j x).train ∧ (ji j x).train < 16 ∧ 0 ≤ (ji j x).block ∧ (ji j x).block < 32 ∧ (ji j x).round = 0 ∧ 1 ≤ (ji j x).length ∧ (ji j x).length ≤ 400 := hJ.it _ (ji_mem hx)
theorem kB_blk {j : Job} {x y : Nat} (h : kB j x y = true) : (ji j x).block < (ji j y).block := by
  unfold kB at h
  simp only [Bool.and_eq_true, decide_eq_true_eq] at h
  exact h.2
theorem vx_ge {v : List Int} {x : Nat} (h : v.length ≤ x) : vx v x = 0 := by unfold vx; rw [List.getElem?_eq_none h]; rfl
theorem least1 (N : Nat) (hN : 200 ≤ N) {j : Job} (hJ : J0 j) (b : Nat) (hb : b < 32) (p : Plan) : ∀ (k m i : Nat) (v : List Int) (most : Int), k < m → i + k = j.items.length →
    LI j v most (fun x => (ji j x).block < b ∨ ((ji j x).block = b ∧ x < i)) →
    ∃ v' most', zbO_1 N j (b : Int) m p v most (i : Int) = some (.inl (p, v', most')) ∧ LI j v' most' (fun x => (ji j x).block < ((b + 1 : Nat) : Int))
  | k, 0, i, v, most, h, _, _ => by omega
  | 0, m + 1, i, v, most, h, hi, hL => by
    have hl := hL.len
    rw [zbO_1, if_neg (by simp; omega)]
    refine ⟨v, most, rfl, hL.len, hL.pos, hL.lo, fun y hy hd x hx hk => hL.ok y hy (by omega) x hx hk, fun x hx hd => hL.un x hx (by omega), hL.ms, hL.mb⟩
  | k + 1, m + 1, i, v, most, h, hi, hL => by
    have hl := hL.len
    have hli := hJ.li
    have hlt : i < j.items.length := by omega
    have hr := ji_rg hJ hlt
    rw [zbO_1, if_pos (by simp; omega)]
    by_cases hbk : (ji j i).block = (b : Int)
    · have hb0 : ∀ x, 0 ≤ vx v x ∧ vx v x ≤ 1000 := fun x => ⟨hL.pos x, by have := hL.ms x; have := hL.mb; omega⟩
      obtain ⟨n, g1, g2, g3, g4⟩ := base_ok N hlt hl hli hb0 j.items.length N 0 0 (by omega) (by omega) (by omega) (by omega)
      have g1 : zbS_0 N v (i : Int) j N 0 0 = _ := g1
      have hn : n ≤ b := by
        rcases g4 with g4 | ⟨x, hx, hk, g4⟩
        · omega
        · have h1 := kB_blk hk
          have h2 := hL.lo x hx
          have : stI x i ≤ 1 := by unfold stI; split <;> omega
          omega
      have hv : i < v.length := by omega
      have step : zbO_2 N j p v most (b : Int) (i : Int) = some (.inl (p, v.set i n, max most n)) := by
        unfold zbO_2
        rw [ji_at hlt, bind_some', if_neg (by simpa using hbk)]
        unfold zbS
        rw [g1, bind_some', bind_some', bind_some', hr.2.2.2.2.1, hJ.wt, next12_ok N (by omega) g2 (by omega), bind_some', if_neg (by simp), vx_at hv, bind_some', bind_some', lt_def, lt_def, Int.toNat_natCast]
      rw [step, bind_some']
      simp only
      rw [lt_def, w64s (by omega)]
      refine least1 N hN hJ b hb p k m (i + 1) (v.set i n) (max most n) (by omega) (by omega) ⟨by rw [List.length_set]; exact hl, fun x => ?_, fun x hx => ?_, fun y hy hd x hx hk => ?_, fun x hx hd => ?_, fun x => ?_, by have := hL.mb; omega⟩
      · rw [vx_set hv]; split
        · exact g2
        · exact hL.pos x
      · rw [vx_set hv]; split
        · rename_i e; subst e; omega
        · exact hL.lo x hx
      · have h1 := kB_blk hk
        have hxi : i ≠ x := by
          intro e
          subst e
          omega
        rw [vx_set hv, if_neg hxi, vx_set hv]
        split
        · rename_i e
          subst e
          exact g3 x (Nat.zero_le _) hx hk
        · rename_i hyi
          exact hL.ok y hy (by omega) x hx hk
      · have hxi : i ≠ x := by
          intro e
          subst e
          omega
        rw [vx_set hv, if_neg hxi]
        exact hL.un x hx (by omega)
      · rw [vx_set hv]; split
        · omega
        · have := hL.ms x; omega
    · have step : zbO_2 N j p v most (b : Int) (i : Int) = some (.inl (p, v, most)) := by
        unfold zbO_2
        rw [ji_at hlt, bind_some', if_pos (by simpa using hbk)]
      rw [step, bind_some']
      simp only
      rw [lt_def, w64s (by omega)]
      refine least1 N hN hJ b hb p k m (i + 1) v most (by omega) (by omega) ⟨hL.len, hL.pos, hL.lo, fun y hy hd x hx hk => hL.ok y hy ?_ x hx hk, fun x hx hd => hL.un x hx ?_, hL.ms, hL.mb⟩
      · rcases hd with hd | ⟨hd, hd2⟩
        · exact .inl hd
        · refine .inr ⟨hd, ?_⟩
          by_cases e : y = i
          · subst e; exact absurd hd hbk
          · omega
      · intro hc
        rcases hc with hc | ⟨hc, hc2⟩
        · exact hd (.inl hc)
        · exact hd (.inr ⟨hc, by omega⟩)
theorem least0 (N : Nat) (hN : 200 ≤ N) {j : Job} (hJ : J0 j) (p : Plan) : ∀ (k m b : Nat) (v : List Int) (most : Int), k < m → b + k = 32 → LI j v most (fun x => (ji j x).block < (b : Int)) →
    ∃ v' most', zbO_0 N j m p v most (b : Int) = some (.inl (p, v', most')) ∧ LI j v' most' (fun x => (ji j x).block < 32)
  | k, 0, b, v, most, h, _, _ => by omega
  | 0, m + 1, b, v, most, h, hb, hL => by
    have : b = 32 := by omega
    subst this
    rw [zbO_0, if_neg (by simp)]
    exact ⟨v, most, rfl, hL⟩
  | k + 1, m + 1, b, v, most, h, hb, hL => by
    have hli := hJ.li
    obtain ⟨v', most', g1, g2⟩ := least1 N hN hJ b (by omega) p j.items.length N 0 v most (by omega) (by omega) ⟨hL.len, hL.pos, hL.lo, fun y hy hd x hx hk => hL.ok y hy (by omega) x hx hk, fun x hx hd => hL.un x hx (by omega), hL.ms, hL.mb⟩
    have g1 : zbO_1 N j (b : Int) N p v most 0 = _ := g1
    rw [zbO_0, if_pos (by simp; omega), g1, bind_some']
    simp only
    rw [lt_def, w64s (by omega)]
    exact least0 N hN hJ p k m (b + 1) v' most' (by omega) (by omega) g2
structure Cd (j : Job) (s : Nat) (v : List Int) : Prop where
  len : v.length = j.items.length
  s12 : s ≤ 5
  rg : ∀ x, 0 ≤ vx v x ∧ vx v x < 2 ^ s
  ok : ∀ x y, x < j.items.length → y < j.items.length → kB j x y = true → vx v x + stI x y ≤ vx v y
theorem least_ok (N : Nat) (hN : 200 ≤ N) {j : Job} (hJ : J0 j) : ∃ (s : Nat) (v : List Int), zbO N j = some (Plan.mk (s : Int) v, 0) ∧ Cd j s v := by
  have hli := hJ.li
  unfold zbO
  rw [v11_ok hJ N hN, bind_some', if_neg (by simp)]
  have hm : mkI (0 : Int) (j.items.length : Int) = some (List.replicate j.items.length 0) := by unfold mkI; rw [if_pos (by omega)]; rfl
  have hz : ∀ x, vx (List.replicate j.items.length (0 : Int)) x = 0 := by
    intro x
    unfold vx
    rw [List.getElem?_replicate]
    split <;> rfl
  rw [hm, bind_some']
  obtain ⟨v, most, g1, g2⟩ := least0 N hN hJ (Plan.mk 0 []) 32 N 0 (List.replicate j.items.length 0) 0 (by omega) (by omega)
    ⟨by simp, fun x => by rw [hz]; omega, fun x hx => by rw [hz]; exact (ji_rg hJ hx).2.2.1, fun y hy hd x hx hk => by
      have := (ji_rg hJ hy).2.2.1
      omega, fun x _ _ => hz x, fun x => by rw [hz]; omega, by omega⟩
  have g1 : zbO_0 N j N (Plan.mk 0 []) (List.replicate j.items.length 0) 0 0 = _ := g1
  rw [g1, bind_some']
  simp only
  obtain ⟨r, q1, q2, q3, q4⟩ := long_ok N 5 N most 0 (by omega) g2.mb.1 (by have := g2.mb; have : (2 : Int) ^ 5 = 32 := rfl; omega) (by omega) (by omega)
  unfold zbU
  rw [q1, bind_some', bind_some']
  obtain ⟨s, rfl⟩ := Int.eq_ofNat_of_zero_le q2
  refine ⟨s, v, rfl, g2.len, by omega, fun x => ⟨g2.pos x, ?_⟩, fun x y hx hy hk => g2.ok y hy (ji_rg hJ hy).2.2.2.1 x hx hk⟩
  have := g2.ms x
  have e : ((s : Int) - 0).toNat = s := by omega
  rw [e] at q4
  omega
end Go.W
end
section
set_option linter.unusedVariables false
set_option linter.unusedSimpArgs false
namespace Go.W
open Go.AM
theorem pow5 {s : Nat} (h : s ≤ 5) : (2 : Nat) ^ s ≤ 32 := by
  have : (2 : Nat) ^ s ≤ 2 ^ 5 := Nat.pow_le_pow_right (by omega) h
  simpa using this
theorem powI (s : Nat) : ((2 ^ s : Nat) : Int) = (2 : Int) ^ s := by simp
theorem cd_small {j : Job} {s : Nat} {v : List Int} (hC : Cd j s v) (x : Nat) : 0 ≤ vx v x ∧ vx v x < 32 := by
  have h := hC.rg x
  have h5 := pow5 hC.s12
  have : (2 : Int) ^ s ≤ 32 := by rw [← powI]; omega
  omega
theorem valid14_ok (N : Nat) (hN : 200 ≤ N) {j : Job} (hJ : J0 j) {s : Nat} {v : List Int} (hC : Cd j s v) : zbP N j (Plan.mk (s : Int) v) = some 0 := by
  have hli := hJ.li
  have hs := hC.s12
  have hlen := hC.len
  unfold zbP zbP_0
  rw [v11_ok hJ N hN, bind_some', if_neg (by simp)]
  simp only
  rw [if_neg (by simp), if_neg (by simp; omega), bind_some', if_neg (by simp [hlen])]
  have h := first_gen (l := v) (fun _ _ => false) (fun _ _ => (0 : Int)) (zbP_1 N j (Plan.mk (s : Int) v)) (fun n => by unfold zbP_1; rw [if_neg (by simp)]) (fun n i x hx => by
    have hi := (List.getElem?_eq_some_iff.1 hx).1
    have hv := hC.rg i
    have hv2 := cd_small hC i
    have e : vx v i = x := by unfold vx; rw [hx]; rfl
    have h5 := pow5 hs
    have hpw : (0 : Int) ≤ ((2 ^ s : Nat) : Int) ∧ ((2 ^ s : Nat) : Int) ≤ 32 := ⟨Int.natCast_nonneg _, by exact_mod_cast h5⟩
    have e1 : shN .i64 (s : Int) = some s := by
      unfold shN
      have h64 : IntKind.i64.bits = 64 := rfl
      rw [if_pos (by omega), h64, Int.toNat_natCast]
      congr 1
      omega
    have e2 : zbP_2 N j (Plan.mk (s : Int) v) (i : Int) = some false := by
      unfold zbP_2
      simp only
      rw [getI_nat hx, bind_some', e1, bind_some', Int.one_mul, w64 (by omega) (by omega), if_neg (by simp; rw [← e]; exact hv.2), bind_some', ji_at (show i < j.items.length by omega), bind_some', (ji_rg hJ (show i < j.items.length by omega)).2.2.2.2.1, hJ.wt, is_ok N (by omega) (by omega) (by omega), bind_some']
      rfl
    rw [zbP_1, if_pos (by simp; omega), e2, bind_some', if_neg (by simp), if_neg (by simp), lt_def, w64s (by omega)]) v.length N 0 (by omega) (by omega)
  have h : zbP_1 N j (Plan.mk (s : Int) v) N 0 = _ := h
  have hres : ∀ (l : List Int) (i : Nat), res (fun _ _ => false) (fun _ _ => (0 : Int)) i l = .inl () := by
    intro l
    induction l with
    | nil => intro i; rfl
    | cons x l ih => intro i; rw [res, if_neg (by simp), ih]
  rw [hres] at h
  rw [h, bind_some']
theorem trains_ok (N : Nat) (hN : 200 ≤ N) {j : Job} (hJ : J0 j) : ∃ t : Nat, zbI N j = some (t : Int) ∧ t ≤ 16 ∧ ∀ x, x < j.items.length → (ji j x).train < t := by
  have hli := hJ.li
  have loop : ∀ (k m i : Nat) (n0 : Nat), k < m → i + k = j.items.length → n0 ≤ 16 → ∃ t : Nat, zbI_0 N j m (n0 : Int) (i : Int) = some (t : Int) ∧ t ≤ 16 ∧ n0 ≤ t ∧ ∀ x, i ≤ x → x < j.items.length → (ji j x).train < t := by
    intro k
    induction k with
    | zero =>
      intro m i n0 h hi h0
      obtain ⟨m, rfl⟩ : ∃ q, m = q + 1 := ⟨m - 1, by omega⟩
      rw [zbI_0, if_neg (by simp; omega)]
      exact ⟨n0, rfl, h0, Nat.le_refl _, fun x h1 h2 => by omega⟩
    | succ k ih =>
      intro m i n0 h hi h0
      obtain ⟨m, rfl⟩ : ∃ q, m = q + 1 := ⟨m - 1, by omega⟩
      have hlt : i < j.items.length := by omega
      have hr := ji_rg hJ hlt
      obtain ⟨t, ht⟩ := Int.eq_ofNat_of_zero_le hr.1
      rw [zbI_0, if_pos (by simp; omega), ji_at hlt, bind_some', ht, lt_def, w64s (by omega), lt_def, w64s (by omega)]
      have e : max (n0 : Int) ((t + 1 : Nat) : Int) = ((max n0 (t + 1) : Nat) : Int) := by omega
      rw [e]
      obtain ⟨q, g1, g2, g3, g4⟩ := ih m (i + 1) (max n0 (t + 1)) (by omega) (by omega) (by omega)
      refine ⟨q, g1, g2, by omega, fun x h1 h2 => ?_⟩
      by_cases hx : x = i
      · subst hx; omega
      · exact g4 x (by omega) h2
  obtain ⟨t, g1, g2, g3, g4⟩ := loop j.items.length N 0 0 (by omega) (by omega) (by omega)
  have g1 : zbI_0 N j N 0 0 = _ := g1
  unfold zbI
  rw [g1, bind_some']
  exact ⟨t, rfl, g2, fun x hx => g4 x (Nat.zero_le _) hx⟩
def bt (v : List Int) (x b : Nat) : Bool := (vx v x).toNat.testBit b
theorem and1 : ∀ (c : Fin 32) (b : Fin 5), (bitsV .and .i64 (Int.fdiv (c.val : Int) ((2 ^ b.val : Nat) : Int)) 1 == 1) = c.val.testBit b.val := by decide +kernel
def nxtS (v : List Int) (x : Nat) : Nat → Nat → Option Nat
  | 0, _ => none
  | k + 1, b => if bt v x b = true then some b else nxtS v x k (b + 1)
theorem push0 (N : Nat) {j : Job} {s : Nat} {v : List Int} (hC : Cd j s v) {x : Nat} (hx : x < j.items.length) {st tr : List (List Int)} (hst : st.length = s) (hsl : ∀ l ∈ st, l.length ≤ 1000) : ∀ (k m b : Nat), k < m → b + k = s →
    zbA_0 N (x : Int) (Plan.mk (s : Int) v) m (b : Int) st tr = some (match nxtS v x k b with | none => .inl (st, tr) | some c => .inr (st.set c (((st[c]?).getD []) ++ [(x : Int)]), tr))
  | k, 0, b, h, _ => by omega
  | 0, m + 1, b, h, hb => by
    rw [zbA_0, if_neg (by simp; omega), nxtS]
  | k + 1, m + 1, b, h, hb => by
    have hs := hC.s12
    have hlt : b < st.length := by omega
    have hxv : x < v.length := by rw [hC.len]; exact hx
    obtain ⟨c0, c1⟩ := cd_small hC x
    have hll := hsl _ (List.getElem_mem hlt)
    have e1 : shN .i64 (b : Int) = some b := by
      unfold shN
      have h64 : IntKind.i64.bits = 64 := rfl
      rw [if_pos (by omega), h64, Int.toNat_natCast]
      congr 1
      omega
    have e2 := and1 ⟨(vx v x).toNat, by omega⟩ ⟨b, by omega⟩
    have e3 : (((⟨(vx v x).toNat, by omega⟩ : Fin 32).val : Nat) : Int) = vx v x := by simp; omega
    rw [e3] at e2
    rw [zbA_0, if_pos (by simp; omega)]
    simp only
    rw [vx_at hxv, bind_some', e1, bind_some', e2]
    show (if bt v x b = true then _ else _) = _
    rw [nxtS]
    by_cases hbt : bt v x b = true
    · rw [if_pos hbt, if_pos hbt]
      simp only
      rw [getI_nat (at_lt hlt), bind_some', bind_some', appI_ok (by simp; omega), bind_some', bind_some', if_pos trivial, bind_some', Int.toNat_natCast, at_lt hlt]
      rfl
    · rw [if_neg hbt, if_neg hbt, lt_def, w64s (by omega)]
      exact push0 N hC hx hst hsl k m (b + 1) (by omega) (by omega)
def putT (ts : List (List Int)) (t : Nat) (x : Nat) : List (List Int) := ts.set t (((ts[t]?).getD []) ++ [(x : Int)])
def pushF (j : Job) (s : Nat) (v : List Int) (x t : Nat) (q : List (List Int) × List (List Int)) : List (List Int) × List (List Int) :=
  match nxtS v x (s - t) t with
  | some c => (putT q.1 c x, q.2)
  | none => (q.1, putT q.2 (ji j x).train.toNat x)
theorem push_ok (N : Nat) (hN : 200 ≤ N) {j : Job} (hJ : J0 j) {s : Nat} {v : List Int} (hC : Cd j s v) {x : Nat} (hx : x < j.items.length) {st tr : List (List Int)} (hst : st.length = s) (hsl : ∀ l ∈ st, l.length ≤ 1000) (htr : (ji j x).train < tr.length) (htl : ∀ l ∈ tr, l.length ≤ 1000) (t : Nat) (ht : t ≤ s) (y : Yard) :
    zbA N y j (Plan.mk (s : Int) v) (x : Int) (t : Int) st tr = some (Yard.mk [] [] (IntKind.wrap .i64 (y.moves + 1)) y.pushes, (pushF j s v x t (st, tr)).1, (pushF j s v x t (st, tr)).2) := by
  have hs := hC.s12
  have hr := ji_rg hJ hx
  unfold zbA
  rw [push0 N hC hx hst hsl (s - t) N t (by omega) (by omega), bind_some']
  unfold pushF
  cases hn : nxtS v x (s - t) t with
  | some c => rfl
  | none =>
    simp only
    obtain ⟨q, hq⟩ := Int.eq_ofNat_of_zero_le hr.1
    have hq2 : q < tr.length := by omega
    have hll := htl _ (List.getElem_mem hq2)
    rw [ji_at hx, bind_some', hq, getI_nat (at_lt hq2), bind_some', bind_some', appI_ok (by simp; omega), bind_some', bind_some', if_pos trivial, bind_some', Int.toNat_natCast]
    unfold putT
    rw [at_lt hq2]
    rfl
end Go.W
end
section
set_option linter.unusedVariables false
set_option linter.unusedSimpArgs false
namespace Go.W
open Go.AM
def ints (l : List Nat) : List Int := l.map fun (x : Nat) => (x : Int)
def mkS (f : Nat → List Nat) (n : Nat) : List (List Int) := (List.range n).map fun b => ints (f b)
theorem mkS_len {f : Nat → List Nat} {n : Nat} : (mkS f n).length = n := by simp [mkS]
theorem mkS_at {f : Nat → List Nat} {n b : Nat} (h : b < n) : (mkS f n)[b]? = some (ints (f b)) := by
  simp [mkS, h]
theorem mkS_mem {f : Nat → List Nat} {n k : Nat} (h : ∀ b, b < n → (f b).length ≤ k) : ∀ l ∈ mkS f n, l.length ≤ k := by
  intro l hl
  obtain ⟨b, hb, rfl⟩ := List.mem_map.1 hl
  rw [ints, List.length_map]
  exact h b (List.mem_range.1 hb)
theorem mkS_set {f : Nat → List Nat} {n b : Nat} {l : List Nat} (h : b < n) : (mkS f n).set b (ints l) = mkS (fun c => if c = b then l else f c) n := by
  refine List.ext_getElem? fun c => ?_
  rw [List.getElem?_set]
  by_cases hc : c < n
  · by_cases hbc : b = c
    · subst hbc
      rw [if_pos rfl, if_pos (by rw [mkS_len]; exact h), mkS_at hc, if_pos rfl]
    · rw [if_neg hbc, mkS_at hc, mkS_at hc, if_neg (fun e => hbc e.symm)]
  · have h1 : (mkS f n)[c]? = none := List.getElem?_eq_none (by rw [mkS_len]; omega)
    have h2 : (mkS (fun c => if c = b then l else f c) n)[c]? = none := List.getElem?_eq_none (by rw [mkS_len]; omega)
    rw [if_neg (by omega), h1, h2]
theorem putT_mk {f : Nat → List Nat} {n b x : Nat} (h : b < n) : putT (mkS f n) b x = mkS (fun c => if c = b then f b ++ [x] else f c) n := by
  unfold putT
  rw [mkS_at h, Option.getD_some]
  have : ints (f b) ++ [(x : Int)] = ints (f b ++ [x]) := by simp [ints]
  rw [this, mkS_set h]
theorem nxtS_lt {v : List Int} {x c : Nat} : ∀ {k b : Nat}, nxtS v x k b = some c → b ≤ c ∧ c < b + k ∧ bt v x c = true ∧ ∀ d, b ≤ d → d < c → bt v x d = false
  | 0, b, h => by cases h
  | k + 1, b, h => by
    rw [nxtS] at h
    by_cases hb : bt v x b = true
    · rw [if_pos hb] at h
      cases h
      exact ⟨Nat.le_refl _, by omega, hb, fun d h1 h2 => by omega⟩
    · rw [if_neg hb] at h
      obtain ⟨h1, h2, h3, h4⟩ := nxtS_lt h
      refine ⟨by omega, by omega, h3, fun d g1 g2 => ?_⟩
      by_cases hd : d = b
      · subst hd; simpa using hb
      · exact h4 d (by omega) g2
def loc (s : Nat) (v : List Int) (t x : Nat) : Option Nat := nxtS v x (s - t) t
theorem loc_step {s : Nat} {v : List Int} {t x : Nat} (h : t < s) : loc s v t x = if bt v x t = true then some t else loc s v (t + 1) x := by
  unfold loc
  rw [show s - t = (s - (t + 1)) + 1 by omega, nxtS]
theorem loc_end {s : Nat} {v : List Int} {x : Nat} : loc s v s x = none := by
  unfold loc
  rw [Nat.sub_self]; rfl
theorem loc_ge {s : Nat} {v : List Int} {t x c : Nat} (h : loc s v t x = some c) : t ≤ c ∧ c < s := by
  have := nxtS_lt h
  unfold loc at h
  by_cases ht : t ≤ s
  · omega
  · rw [show s - t = 0 by omega] at h; cases h
def onS (s : Nat) (v : List Int) (t : Nat) (l : List Nat) (b : Nat) : List Nat := l.filter fun x => decide (loc s v t x = some b)
def trn (j : Job) (x : Nat) : Nat := (ji j x).train.toNat
def onT (j : Job) (s : Nat) (v : List Int) (t : Nat) (l : List Nat) (k : Nat) : List Nat := l.filter fun x => decide (loc s v t x = none ∧ trn j x = k)
theorem pushF_mk {j : Job} {s : Nat} {v : List Int} {x t nt : Nat} {f g : Nat → List Nat} (ht : trn j x < nt) : pushF j s v x t (mkS f s, mkS g nt) = (mkS (fun b => f b ++ onS s v t [x] b) s, mkS (fun k => g k ++ onT j s v t [x] k) nt) := by
  unfold pushF
  cases hn : nxtS v x (s - t) t with
  | some c =>
    have hl : loc s v t x = some c := hn
    have hc := loc_ge hl
    simp only
    rw [putT_mk hc.2]
    have e1 : (fun k => g k ++ onT j s v t [x] k) = g := by
      funext k
      simp [onT, hl]
    have e2 : (fun d => if d = c then f c ++ [x] else f d) = fun b => f b ++ onS s v t [x] b := by
      funext d
      by_cases hd : d = c
      · subst hd; rw [if_pos rfl]; simp [onS, hl]
      · rw [if_neg hd]; simp [onS, hl]; exact fun e => hd e.symm
    rw [e1, e2]
  | none =>
    have hl : loc s v t x = none := hn
    simp only
    have e0 : (ji j x).train.toNat = trn j x := rfl
    rw [e0, putT_mk ht]
    have e1 : (fun b => f b ++ onS s v t [x] b) = f := by
      funext b
      simp [onS, hl]
    have e2 : (fun d => if d = trn j x then g (trn j x) ++ [x] else g d) = fun k => g k ++ onT j s v t [x] k := by
      funext d
      by_cases hd : d = trn j x
      · subst hd; rw [if_pos rfl]; simp [onT, hl]
      · rw [if_neg hd]; simp [onT, hl]; exact fun e => hd e.symm
    rw [e1, e2]
theorem onS_app {s : Nat} {v : List Int} {t b : Nat} (l l' : List Nat) : onS s v t (l ++ l') b = onS s v t l b ++ onS s v t l' b := by simp [onS]
theorem onT_app {j : Job} {s : Nat} {v : List Int} {t b : Nat} (l l' : List Nat) : onT j s v t (l ++ l') b = onT j s v t l b ++ onT j s v t l' b := by simp [onT]
def ord (v : List Int) (n : Nat) : Nat → List Nat
  | 0 => List.range n
  | t + 1 => (ord v n t).filter (fun x => !bt v x t) ++ (ord v n t).filter fun x => bt v x t
theorem ord_perm {v : List Int} {n : Nat} : ∀ t, (ord v n t).Perm (List.range n)
  | 0 => List.Perm.refl _
  | t + 1 => by
    rw [ord]
    have h := List.filter_append_perm (fun x => bt v x t) (ord v n t)
    exact (List.perm_append_comm.trans h).trans (ord_perm t)
theorem ord_mem {v : List Int} {n t x : Nat} : x ∈ ord v n t ↔ x < n := by rw [(ord_perm t).mem_iff, List.mem_range]
theorem ord_len {v : List Int} {n t : Nat} : (ord v n t).length = n := by rw [(ord_perm t).length_eq, List.length_range]
theorem ord_S {s : Nat} {v : List Int} {n t b : Nat} (h : t < s) (hb : b ≠ t) : onS s v (t + 1) (ord v n (t + 1)) b = onS s v t (ord v n t) b ++ onS s v (t + 1) ((ord v n t).filter fun x => bt v x t) b := by
  rw [ord, onS_app]
  congr 1
  unfold onS
  rw [List.filter_filter]
  refine List.filter_congr fun x hx => ?_
  rw [loc_step h]
  cases hbt : bt v x t with
  | true => simp; omega
  | false => simp
theorem ord_T {j : Job} {s : Nat} {v : List Int} {n t k : Nat} (h : t < s) : onT j s v (t + 1) (ord v n (t + 1)) k = onT j s v t (ord v n t) k ++ onT j s v (t + 1) ((ord v n t).filter fun x => bt v x t) k := by
  rw [ord, onT_app]
  congr 1
  unfold onT
  rw [List.filter_filter]
  refine List.filter_congr fun x hx => ?_
  rw [loc_step h]
  cases hbt : bt v x t with
  | true => simp
  | false => simp
theorem ord_t {s : Nat} {v : List Int} {n t : Nat} (h : t < s) : onS s v t (ord v n t) t = (ord v n t).filter fun x => bt v x t := by
  unfold onS
  refine List.filter_congr fun x hx => ?_
  rw [loc_step h]
  cases hbt : bt v x t with
  | true => simp
  | false =>
    simp
    intro hc
    have := loc_ge hc
    omega
theorem ord_S0 {s : Nat} {v : List Int} {n t : Nat} (h : t < s) : onS s v (t + 1) (ord v n (t + 1)) t = [] := by
  unfold onS
  rw [List.filter_eq_nil_iff]
  intro x hx
  simp
  intro hc
  have := loc_ge hc
  omega
def keyL (v : List Int) (t x y : Nat) : Prop := (vx v x).toNat % 2 ^ t < (vx v y).toNat % 2 ^ t ∨ ((vx v x).toNat % 2 ^ t = (vx v y).toNat % 2 ^ t ∧ x < y)
theorem mod_step (c t : Nat) : c % 2 ^ (t + 1) = c % 2 ^ t + (if c.testBit t = true then 2 ^ t else 0) := by
  rw [Nat.mod_pow_succ, Nat.testBit_eq_decide_div_mod_eq]
  rcases Nat.mod_two_eq_zero_or_one (c / 2 ^ t) with h | h
  · rw [h]; simp
  · rw [h]; simp
theorem ord_sorted {v : List Int} {n : Nat} : ∀ t, (ord v n t).Pairwise (keyL v t)
  | 0 => by
    rw [ord]
    refine List.Pairwise.imp (fun {a b} (h : a < b) => ?_) List.pairwise_lt_range
    exact .inr ⟨by simp [Nat.mod_one], h⟩
  | t + 1 => by
    have ih := ord_sorted (v := v) (n := n) t
    have same : ∀ {x y : Nat}, bt v x t = bt v y t → keyL v t x y → keyL v (t + 1) x y := by
      intro x y hxy h
      unfold bt at hxy
      unfold keyL at h ⊢
      rw [mod_step, mod_step, hxy]
      omega
    rw [ord, List.pairwise_append]
    refine ⟨?_, ?_, fun x hx y hy => ?_⟩
    · refine (ih.filter _).imp_of_mem fun {a b} ha hb h => same ?_ h
      have h1 := (List.mem_filter.1 ha).2
      have h2 := (List.mem_filter.1 hb).2
      simp at h1 h2
      rw [h1, h2]
    · refine (ih.filter _).imp_of_mem fun {a b} ha hb h => same ?_ h
      have h1 := (List.mem_filter.1 ha).2
      have h2 := (List.mem_filter.1 hb).2
      rw [h1, h2]
    · have h1 := (List.mem_filter.1 hx).2
      have h2 := (List.mem_filter.1 hy).2
      simp at h1
      unfold bt at h1 h2
      left
      rw [mod_step, mod_step, h1, h2]
      simp
      have := Nat.mod_lt (vx v x).toNat (show 0 < 2 ^ t from Nat.two_pow_pos t)
      omega
end Go.W
end
section
set_option linter.unusedVariables false
set_option linter.unusedSimpArgs false
namespace Go.W
open Go.AM
theorem ints_len (l : List Nat) : (ints l).length = l.length := by simp [ints]
theorem ints_at {l : List Nat} {i x : Nat} (h : l[i]? = some x) : (ints l)[i]? = some (x : Int) := by simp [ints, h]
theorem onS_len {s : Nat} {v : List Int} {t b : Nat} (l : List Nat) : (onS s v t l b).length ≤ l.length := List.length_filter_le _ _
theorem onT_len {j : Job} {s : Nat} {v : List Int} {t b : Nat} (l : List Nat) : (onT j s v t l b).length ≤ l.length := List.length_filter_le _ _
section
variable {j : Job} (hJ : J0 j) {s : Nat} {v : List Int} (hC : Cd j s v) (N : Nat) (hN : 200 ≤ N) {nt : Nat} (hnt : ∀ x, x < j.items.length → trn j x < nt)
include hJ hC hN hnt
theorem push_mk {x t : Nat} (hx : x < j.items.length) (ht : t ≤ s) {f g : Nat → List Nat} (hf : ∀ b, (f b).length ≤ 900) (hg : ∀ b, (g b).length ≤ 900) (y : Yard) :
    zbA N y j (Plan.mk (s : Int) v) (x : Int) (t : Int) (mkS f s) (mkS g nt) = some (Yard.mk [] [] (IntKind.wrap .i64 (y.moves + 1)) y.pushes, mkS (fun b => f b ++ onS s v t [x] b) s, mkS (fun k => g k ++ onT j s v t [x] k) nt) := by
  have h1 := hnt x hx
  have h2 := (ji_rg hJ hx).1
  have h3 : trn j x = (ji j x).train.toNat := rfl
  rw [push_ok N hN hJ hC hx mkS_len (mkS_mem fun b _ => by have := hf b; omega) (by rw [mkS_len]; omega) (mkS_mem fun b _ => by have := hg b; omega) t ht y, pushF_mk h1]
theorem at3_ok {t : Nat} (ht : t ≤ s) (l : List Nat) (hl : ∀ x ∈ l, x < j.items.length) (hll : l.length ≤ 100) : ∀ (k m i : Nat) (y : Yard) (f g : Nat → List Nat), k < m → i + k = l.length → (∀ b, (f b).length + k ≤ 900) → (∀ b, (g b).length + k ≤ 900) →
    ∃ mv, zcB_3 N j (Plan.mk (s : Int) v) (t : Int) (ints l) m y (i : Int) (mkS f s) (mkS g nt) = some (Yard.mk [] [] mv y.pushes, mkS (fun b => f b ++ onS s v t (l.drop i) b) s, mkS (fun k => g k ++ onT j s v t (l.drop i) k) nt)
  | k, 0, i, y, f, g, h, _, _, _ => by omega
  | 0, m + 1, i, y, f, g, h, hi, hf, hg => by
    rw [zcB_3, if_neg (by rw [ints_len]; simp; omega), List.drop_of_length_le (by omega)]
    refine ⟨y.moves, ?_⟩
    have e1 : (fun b => f b ++ onS s v t [] b) = f := by funext b; simp [onS]
    have e2 : (fun k => g k ++ onT j s v t [] k) = g := by funext b; simp [onT]
    rw [e1, e2]
  | k + 1, m + 1, i, y, f, g, h, hi, hf, hg => by
    have hlt : i < l.length := by omega
    rw [zcB_3, if_pos (by rw [ints_len]; simp; omega), getI_nat (ints_at (at_lt hlt)), bind_some', push_mk hJ hC N hN hnt (hl _ (List.getElem_mem hlt)) ht (fun b => by have := hf b; omega) (fun b => by have := hg b; omega), bind_some']
    simp only
    rw [lt_def, w64s (by omega)]
    obtain ⟨mv, e⟩ := at3_ok ht l hl hll k m (i + 1) (Yard.mk [] [] (IntKind.wrap .i64 (y.moves + 1)) y.pushes) (fun b => f b ++ onS s v t [l[i]] b) (fun k => g k ++ onT j s v t [l[i]] k) (by omega) (by omega)
      (fun b => by have := hf b; have := onS_len (s := s) (v := v) (t := t) (b := b) [l[i]]; simp at this ⊢; omega)
      (fun b => by have := hg b; have := onT_len (j := j) (s := s) (v := v) (t := t) (b := b) [l[i]]; simp at this ⊢; omega)
    refine ⟨mv, ?_⟩
    simp only at e
    rw [e, drop_at (at_lt hlt)]
    have e1 : (fun b => f b ++ onS s v t [l[i]] b ++ onS s v t (l.drop (i + 1)) b) = fun b => f b ++ onS s v t (l[i] :: l.drop (i + 1)) b := by
      funext b
      rw [List.append_assoc, ← onS_app]; rfl
    have e2 : (fun k => g k ++ onT j s v t [l[i]] k ++ onT j s v t (l.drop (i + 1)) k) = fun k => g k ++ onT j s v t (l[i] :: l.drop (i + 1)) k := by
      funext b
      rw [List.append_assoc, ← onT_app]; rfl
    rw [e1, e2]
theorem at4_0 : ∀ (k m i : Nat) (y : Yard) (f g : Nat → List Nat), k < m → i + k = j.items.length → (∀ b, (f b).length + k ≤ 900) → (∀ b, (g b).length + k ≤ 900) →
    ∃ mv, zcB_4 N j (Plan.mk (s : Int) v) 0 m y (i : Int) (mkS f s) (mkS g nt) = some (Yard.mk [] [] mv y.pushes, mkS (fun b => f b ++ onS s v 0 ((List.range j.items.length).drop i) b) s, mkS (fun k => g k ++ onT j s v 0 ((List.range j.items.length).drop i) k) nt)
  | k, 0, i, y, f, g, h, _, _, _ => by omega
  | 0, m + 1, i, y, f, g, h, hi, hf, hg => by
    rw [zcB_4, if_neg (by simp; omega), List.drop_of_length_le (by simp; omega)]
    refine ⟨y.moves, ?_⟩
    have e1 : (fun b => f b ++ onS s v 0 [] b) = f := by funext b; simp [onS]
    have e2 : (fun k => g k ++ onT j s v 0 [] k) = g := by funext b; simp [onT]
    rw [e1, e2]
  | k + 1, m + 1, i, y, f, g, h, hi, hf, hg => by
    have hlt : i < j.items.length := by omega
    have hli := hJ.li
    have hr := ji_rg hJ hlt
    have hp := push_mk hJ hC N hN hnt (x := i) (t := 0) hlt (Nat.zero_le _) (f := f) (g := g) (fun b => by have := hf b; omega) (fun b => by have := hg b; omega) (Yard.mk [] [] y.moves y.pushes)
    have hp : zbA N (Yard.mk [] [] y.moves y.pushes) j (Plan.mk (s : Int) v) (i : Int) 0 (mkS f s) (mkS g nt) = _ := hp
    have step : zcB_5 N j (Plan.mk (s : Int) v) (Yard.mk [] [] y.moves y.pushes) 0 (i : Int) (mkS f s) (mkS g nt) = some (Yard.mk [] [] (IntKind.wrap .i64 (y.moves + 1)) y.pushes, mkS (fun b => f b ++ onS s v 0 [i] b) s, mkS (fun k => g k ++ onT j s v 0 [i] k) nt) := by
      unfold zcB_5
      rw [ji_at hlt, bind_some', hr.2.2.2.2.1, if_pos (by simp), hp, bind_some']
    rw [zcB_4, if_pos (by simp; omega), step, bind_some']
    simp only
    rw [lt_def, w64s (by omega)]
    obtain ⟨mv, e⟩ := at4_0 k m (i + 1) (Yard.mk [] [] (IntKind.wrap .i64 (y.moves + 1)) y.pushes) (fun b => f b ++ onS s v 0 [i] b) (fun k => g k ++ onT j s v 0 [i] k) (by omega) (by omega)
      (fun b => by have := hf b; have := onS_len (s := s) (v := v) (t := 0) (b := b) [i]; simp at this ⊢; omega)
      (fun b => by have := hg b; have := onT_len (j := j) (s := s) (v := v) (t := 0) (b := b) [i]; simp at this ⊢; omega)
    refine ⟨mv, ?_⟩
    simp only at e
    have hd : (List.range j.items.length).drop i = i :: (List.range j.items.length).drop (i + 1) := drop_at (by simp [hlt])
    rw [e, hd]
    have e1 : (fun b => f b ++ onS s v 0 [i] b ++ onS s v 0 ((List.range j.items.length).drop (i + 1)) b) = fun b => f b ++ onS s v 0 (i :: (List.range j.items.length).drop (i + 1)) b := by
      funext b
      rw [List.append_assoc, ← onS_app]; rfl
    have e2 : (fun k => g k ++ onT j s v 0 [i] k ++ onT j s v 0 ((List.range j.items.length).drop (i + 1)) k) = fun k => g k ++ onT j s v 0 (i :: (List.range j.items.length).drop (i + 1)) k := by
      funext b
      rw [List.append_assoc, ← onT_app]; rfl
    rw [e1, e2]
omit hC hN hnt in
theorem at4_p {t : Nat} (ht : 0 < t) (p : Plan) (st tr : List (List Int)) : ∀ (k m i : Nat) (y : Yard), k < m → i + k = j.items.length →
    zcB_4 N j p (t : Int) m y (i : Int) st tr = some (Yard.mk [] [] y.moves y.pushes, st, tr)
  | k, 0, i, y, h, _ => by omega
  | 0, m + 1, i, y, h, hi => by
    rw [zcB_4, if_neg (by simp; omega)]
  | k + 1, m + 1, i, y, h, hi => by
    have hlt : i < j.items.length := by omega
    have hli := hJ.li
    have hr := ji_rg hJ hlt
    have step : zcB_5 N j p (Yard.mk [] [] y.moves y.pushes) (t : Int) (i : Int) st tr = some (Yard.mk [] [] y.moves y.pushes, st, tr) := by
      unfold zcB_5
      rw [ji_at hlt, bind_some', hr.2.2.2.2.1, if_neg (by simp; omega)]
    rw [zcB_4, if_pos (by simp; omega), step, bind_some']
    simp only
    rw [lt_def, w64s (by omega)]
    exact at4_p ht p st tr k m (i + 1) (Yard.mk [] [] y.moves y.pushes) (by omega) (by omega)
theorem at1_s {T : Nat} (hT : T < s) (y : Yard) :
    ∃ mv pu, zcB_1 N j (Plan.mk (s : Int) v) y ((T + 1 : Nat) : Int) (mkS (onS s v T (ord v j.items.length T)) s) (mkS (onT j s v T (ord v j.items.length T)) nt) = some (Yard.mk [] [] mv pu, mkS (onS s v (T + 1) (ord v j.items.length (T + 1))) s, mkS (onT j s v (T + 1) (ord v j.items.length (T + 1))) nt) := by
  have hli := hJ.li
  have hs := hC.s12
  have hfl : ∀ b, (onS s v T (ord v j.items.length T) b).length ≤ 90 := fun b => by have := onS_len (s := s) (v := v) (t := T) (b := b) (ord v j.items.length T); rw [ord_len] at this; omega
  have hgl : ∀ b, (onT j s v T (ord v j.items.length T) b).length ≤ 90 := fun b => by have := onT_len (j := j) (s := s) (v := v) (t := T) (b := b) (ord v j.items.length T); rw [ord_len] at this; omega
  have hget : getI (mkS (onS s v T (ord v j.items.length T)) s) (T : Int) = some (ints (onS s v T (ord v j.items.length T) T)) := getI_nat (mkS_at hT)
  have hlm : ∀ x ∈ onS s v T (ord v j.items.length T) T, x < j.items.length := fun x hx => ord_mem.1 (List.mem_filter.1 hx).1
  have hset : (mkS (onS s v T (ord v j.items.length T)) s).set T [] = mkS (fun c => if c = T then [] else onS s v T (ord v j.items.length T) c) s := mkS_set (l := []) hT
  have hq : ∀ b, ((fun c => if c = T then ([] : List Nat) else onS s v T (ord v j.items.length T) c) b).length + (onS s v T (ord v j.items.length T) T).length ≤ 900 := by
    intro b
    have h1 := hfl T
    have h2 := hfl b
    simp only
    by_cases hbT : b = T
    · rw [if_pos hbT, List.length_nil]; omega
    · rw [if_neg hbT]; omega
  obtain ⟨mv, e3⟩ := at3_ok hJ hC N hN hnt (t := T + 1) (by omega) (onS s v T (ord v j.items.length T) T) hlm (by have := hfl T; omega) (onS s v T (ord v j.items.length T) T).length N 0 (Yard.mk [] [] y.moves y.pushes) (fun c => if c = T then [] else onS s v T (ord v j.items.length T) c) (onT j s v T (ord v j.items.length T)) (by have := hfl T; omega) (by omega)
    hq (fun b => by have := hfl T; have := hgl b; omega)
  rw [List.drop_zero, ord_t hT] at e3
  have e1 : (fun b => (if b = T then [] else onS s v T (ord v j.items.length T) b) ++ onS s v (T + 1) ((ord v j.items.length T).filter fun x => bt v x T) b) = onS s v (T + 1) (ord v j.items.length (T + 1)) := by
    funext b
    by_cases hb : b = T
    · subst hb
      rw [if_pos rfl, ord_S0 hT, List.nil_append]
      unfold onS
      rw [List.filter_eq_nil_iff]
      intro x hx
      simp
      intro hc
      have := loc_ge hc
      omega
    · rw [if_neg hb, ord_S hT hb]
  have e2 : (fun k => onT j s v T (ord v j.items.length T) k ++ onT j s v (T + 1) ((ord v j.items.length T).filter fun x => bt v x T) k) = onT j s v (T + 1) (ord v j.items.length (T + 1)) := by
    funext b
    rw [ord_T hT]
  rw [e1, e2] at e3
  have hw : IntKind.wrap .i64 (((T + 1 : Nat) : Int) - 1) = (T : Int) := w64p (by omega)
  have step : zcB_2 N j (Plan.mk (s : Int) v) (Yard.mk [] [] y.moves y.pushes) ((T + 1 : Nat) : Int) (decide ((0 : Int) < ((T + 1 : Nat) : Int))) (mkS (onS s v T (ord v j.items.length T)) s) (mkS (onT j s v T (ord v j.items.length T)) nt) = some (Yard.mk [] [] mv y.pushes, mkS (onS s v (T + 1) (ord v j.items.length (T + 1))) s, mkS (onT j s v (T + 1) (ord v j.items.length (T + 1))) nt) := by
    unfold zcB_2
    have e3 : zcB_3 N j (Plan.mk (s : Int) v) ((T + 1 : Nat) : Int) (ints ((ord v j.items.length T).filter fun x => bt v x T)) N (Yard.mk [] [] y.moves y.pushes) 0 _ _ = _ := e3
    rw [if_pos (by simp <;> omega), hw, hget, bind_some', bind_some', bind_some', if_pos rfl, bind_some', Int.toNat_natCast, hset, ord_t hT, e3, bind_some']
  unfold zcB_1
  rw [step, bind_some']
  simp only
  have e4 := at4_p hJ N (t := T + 1) (by omega) (Plan.mk (s : Int) v) (mkS (onS s v (T + 1) (ord v j.items.length (T + 1))) s) (mkS (onT j s v (T + 1) (ord v j.items.length (T + 1))) nt) j.items.length N 0 (Yard.mk [] [] mv y.pushes) (by omega) (by omega)
  have e4 : zcB_4 N j (Plan.mk (s : Int) v) ((T + 1 : Nat) : Int) N (Yard.mk [] [] mv y.pushes) 0 _ _ = _ := e4
  rw [e4, bind_some']
  simp only
  split
  · exact ⟨_, _, rfl⟩
  · exact ⟨_, _, rfl⟩
end
end Go.W
end
section
set_option linter.unusedVariables false
set_option linter.unusedSimpArgs false
namespace Go.W
open Go.AM
theorem mkS_nil (n : Nat) : List.replicate n ([] : List Int) = mkS (fun _ => []) n := by
  refine List.ext_getElem? fun c => ?_
  by_cases hc : c < n
  · rw [mkS_at hc, List.getElem?_replicate, if_pos hc]; rfl
  · rw [List.getElem?_eq_none (by simp; omega), List.getElem?_eq_none (by rw [mkS_len]; omega)]
section
variable {j : Job} (hJ : J0 j) {s : Nat} {v : List Int} (hC : Cd j s v) (N : Nat) (hN : 200 ≤ N) {nt : Nat} (hnt : ∀ x, x < j.items.length → trn j x < nt)
include hJ hC hN hnt
theorem at0_s : ∀ (k m T : Nat) (y : Yard), k < m → T + k = s →
    ∃ mv pu, zcB_0 N (s : Int) j (Plan.mk (s : Int) v) m y ((T + 1 : Nat) : Int) (mkS (onS s v T (ord v j.items.length T)) s) (mkS (onT j s v T (ord v j.items.length T)) nt) = some (Yard.mk [] [] mv pu, mkS (onS s v s (ord v j.items.length s)) s, mkS (onT j s v s (ord v j.items.length s)) nt)
  | k, 0, T, y, h, _ => by omega
  | 0, m + 1, T, y, h, hT => by
    have : T = s := by omega
    subst this
    rw [zcB_0, if_neg (by simp; omega)]
    exact ⟨_, _, rfl⟩
  | k + 1, m + 1, T, y, h, hT => by
    have hs := hC.s12
    obtain ⟨mv, pu, e⟩ := at1_s hJ hC N hN hnt (T := T) (by omega) (Yard.mk [] [] y.moves y.pushes)
    rw [zcB_0, if_pos (by simp; omega), e, bind_some']
    simp only
    rw [lt_def, w64s (by omega)]
    exact at0_s k m (T + 1) (Yard.mk [] [] mv pu) (by omega) (by omega)
theorem at0_ok (y : Yard) : ∃ mv pu, zcB_0 N (s : Int) j (Plan.mk (s : Int) v) N y 0 (mkS (fun _ => []) s) (mkS (fun _ => []) nt) = some (Yard.mk [] [] mv pu, mkS (onS s v s (ord v j.items.length s)) s, mkS (onT j s v s (ord v j.items.length s)) nt) := by
  have hs := hC.s12
  have hli := hJ.li
  obtain ⟨M, rfl⟩ : ∃ M, N = M + 1 := ⟨N - 1, by omega⟩
  obtain ⟨mv, e4⟩ := at4_0 hJ hC (M + 1) hN hnt j.items.length (M + 1) 0 (Yard.mk [] [] y.moves y.pushes) (fun _ => []) (fun _ => []) (by omega) (by omega) (fun b => by simp; omega) (fun b => by simp; omega)
  rw [List.drop_zero] at e4
  have e4 : zcB_4 (M + 1) j (Plan.mk (s : Int) v) 0 (M + 1) (Yard.mk [] [] y.moves y.pushes) 0 (mkS (fun _ => []) s) (mkS (fun _ => []) nt) = some (Yard.mk [] [] mv y.pushes, mkS (fun b => [] ++ onS s v 0 (List.range j.items.length) b) s, mkS (fun k => [] ++ onT j s v 0 (List.range j.items.length) k) nt) := e4
  have e1 : (fun b => [] ++ onS s v 0 (List.range j.items.length) b) = onS s v 0 (ord v j.items.length 0) := by funext b; rfl
  have e2 : (fun k => [] ++ onT j s v 0 (List.range j.items.length) k) = onT j s v 0 (ord v j.items.length 0) := by funext b; rfl
  rw [e1, e2] at e4
  have e5 : ∃ mv pu, zcB_1 (M + 1) j (Plan.mk (s : Int) v) (Yard.mk [] [] y.moves y.pushes) 0 (mkS (fun _ => []) s) (mkS (fun _ => []) nt) = some (Yard.mk [] [] mv pu, mkS (onS s v 0 (ord v j.items.length 0)) s, mkS (onT j s v 0 (ord v j.items.length 0)) nt) := by
    unfold zcB_1 zcB_2
    rw [if_neg (by simp), bind_some']
    simp only
    rw [e4, bind_some']
    simp only
    split
    · exact ⟨_, _, rfl⟩
    · exact ⟨_, _, rfl⟩
  obtain ⟨mv2, pu, e5⟩ := e5
  rw [zcB_0, if_pos (by simp), e5, bind_some']
  simp only
  have e6 : IntKind.wrap .i64 (0 + 1) = ((0 + 1 : Nat) : Int) := by rw [w64 (by omega) (by omega)]; rfl
  rw [lt_def, e6]
  exact at0_s hJ hC (M + 1) hN hnt s M 0 (Yard.mk [] [] mv2 pu) (by omega) (by omega)
end
def trk14 (j : Job) (s : Nat) (v : List Int) (k : Nat) : List Nat := (ord v j.items.length s).filter fun x => decide (trn j x = k)
theorem onT_end {j : Job} {s : Nat} {v : List Int} : onT j s v s (ord v j.items.length s) = trk14 j s v := by
  funext k
  unfold onT trk14
  refine List.filter_congr fun x hx => ?_
  rw [loc_end]
  simp
theorem run_ok (N : Nat) (hN : 200 ≤ N) {j : Job} (hJ : J0 j) {s : Nat} {v : List Int} (hC : Cd j s v) : ∃ (nt : Nat) (mv : Int), zbY N j (Plan.mk (s : Int) v) = some (Sorted.mk (mkS (trk14 j s v) nt) mv, 0) ∧ ∀ x, x < j.items.length → trn j x < nt := by
  have hs := hC.s12
  have hli := hJ.li
  obtain ⟨nt, t1, t2, t3⟩ := trains_ok N hN hJ
  have hnt : ∀ x, x < j.items.length → trn j x < nt := fun x hx => by
    have h1 := t3 x hx
    have h2 := (ji_rg hJ hx).1
    have h3 : trn j x = (ji j x).train.toNat := rfl
    omega
  have m1 : mkI ([] : List Int) (s : Int) = some (List.replicate s []) := by unfold mkI; rw [if_pos (by omega)]; rfl
  have m2 : mkI ([] : List Int) (nt : Int) = some (List.replicate nt []) := by unfold mkI; rw [if_pos (by omega)]; rfl
  obtain ⟨mv, pu, e⟩ := at0_ok hJ hC N hN hnt (Yard.mk [] [] 0 0)
  have eA : zcB N j (Plan.mk (s : Int) v) (s : Int) = some (Yard.mk (mkS (onS s v s (ord v j.items.length s)) s) (mkS (trk14 j s v) nt) mv pu) := by
    unfold zcB
    simp only
    rw [m1, bind_some', t1, bind_some', m2, bind_some', mkS_nil, mkS_nil, e, bind_some']
    simp only [List.map_id', onT_end]
  refine ⟨nt, mv, ?_, hnt⟩
  unfold zbY
  rw [valid14_ok N hN hJ hC, bind_some', if_neg (by simp)]
  simp only
  rw [eA, bind_some']
theorem trk14_ok {j : Job} (hJ : J0 j) {s : Nat} {v : List Int} (hC : Cd j s v) (k : Nat) : (trk14 j s v k).Pairwise fun x y => (ji j x).block ≤ (ji j y).block := by
  unfold trk14
  refine ((ord_sorted (v := v) (n := j.items.length) s).filter _).imp_of_mem fun {x y} hx hy h => ?_
  obtain ⟨x1, x2⟩ := List.mem_filter.1 hx
  obtain ⟨y1, y2⟩ := List.mem_filter.1 hy
  have x1 := ord_mem.1 x1
  have y1 := ord_mem.1 y1
  have x2 : trn j x = k := by simpa using x2
  have y2 : trn j y = k := by simpa using y2
  refine Int.not_lt.1 fun hlt => ?_
  have hrx := ji_rg hJ x1
  have hry := ji_rg hJ y1
  have htr : (ji j y).train = (ji j x).train := by
    have h3 : trn j x = (ji j x).train.toNat := rfl
    have h4 : trn j y = (ji j y).train.toNat := rfl
    omega
  have hk : kB j y x = true := by
    unfold kB
    simp [htr, hlt]
  have h1 := hC.ok y x y1 x1 hk
  obtain ⟨a0, a1⟩ := hC.rg x
  obtain ⟨b0, b1⟩ := hC.rg y
  have ax : (vx v x).toNat < 2 ^ s := by
    have : ((vx v x).toNat : Int) < ((2 ^ s : Nat) : Int) := by rw [powI]; omega
    omega
  have ay : (vx v y).toNat < 2 ^ s := by
    have : ((vx v y).toNat : Int) < ((2 ^ s : Nat) : Int) := by rw [powI]; omega
    omega
  unfold keyL at h
  rw [Nat.mod_eq_of_lt ax, Nat.mod_eq_of_lt ay] at h
  unfold stI at h1
  split at h1
  · omega
  · omega
end Go.W
end
section
set_option linter.unusedVariables false
set_option linter.unusedSimpArgs false
namespace Go.W
open Go.AM
structure LK (d : Disorder) (L : Nat → List Int) : Prop where
  rg : ∀ k, ∀ i ∈ L k, ∃ x : Nat, i = x ∧ x < d.items.length ∧ (itm d x).train = k
  bl : ∀ k, (L k).Pairwise fun i i' => (itm d i.toNat).block ≤ (itm d i'.toNat).block
  nd : ∀ k, (L k).Nodup
  al : ∀ x : Nat, x < d.items.length → (x : Int) ∈ L (itm d x).train.toNat
def sb (s : List Bool) (x : Nat) : Bool := (s[x]?).getD false
theorem sb_at {s : List Bool} {x : Nat} (h : x < s.length) : getI s (x : Int) = some (sb s x) := by
  rw [getI_nat (at_lt h)]; unfold sb; rw [at_lt h]; rfl
theorem sb_set {s : List Bool} {i x : Nat} (h : i < s.length) : sb (s.set i true) x = if i = x then true else sb s x := by
  unfold sb
  rw [List.getElem?_set]
  by_cases hx : i = x
  · rw [if_pos hx, if_pos hx, if_pos (by omega)]; rfl
  · rw [if_neg hx, if_neg hx]
structure SI5 (d : Disorder) (L : Nat → List Int) (k p : Nat) (s : List Bool) : Prop where
  len : s.length = d.items.length
  iff : ∀ x : Nat, x < d.items.length → (sb s x = true ↔ (itm d x).train < k ∨ ((itm d x).train = k ∧ ∃ q, q < p ∧ (L k)[q]? = some (x : Int)))
theorem so5 (N : Nat) {d : Disorder} (hD : DOk d) {L : Nat → List Int} (hL : LK d L) (k : Nat) (hll : (L k).length ≤ 500) : ∀ (r m p : Nat) (s : List Bool), r < m → p + r = (L k).length → SI5 d L k p s →
    ∃ s', zaN_5 N d (k : Int) (L k) m s (p : Int) = some (.inl s') ∧ SI5 d L k (L k).length s'
  | r, 0, p, s, h, _, _ => by omega
  | 0, m + 1, p, s, h, hp, hI => by
    rw [zaN_5, if_neg (by simp; omega)]
    exact ⟨s, rfl, by rw [show (L k).length = p by omega]; exact hI⟩
  | r + 1, m + 1, p, s, h, hp, hI => by
    have hlt : p < (L k).length := by omega
    obtain ⟨x, hx, hxn, htr⟩ := hL.rg k _ (List.getElem_mem hlt)
    have hat : (L k)[p]? = some (x : Int) := by rw [at_lt hlt, hx]
    have hxs : x < s.length := by rw [hI.len]; exact hxn
    have hns : sb s x = false := by
      cases hs : sb s x with
      | false => rfl
      | true =>
        rcases (hI.iff x hxn).1 hs with h1 | ⟨_, q, h1, h2⟩
        · omega
        · exfalso
          obtain ⟨q1, q2⟩ := List.getElem?_eq_some_iff.1 h2
          obtain ⟨p1, p2⟩ := List.getElem?_eq_some_iff.1 hat
          exact (List.pairwise_iff_getElem.1 (hL.nd k)) q p q1 p1 h1 (q2.trans p2.symm)
    have step : zaN_6 N d s (k : Int) (L k) (p : Int) (x : Int) = some false := by
      unfold zaN_6
      rw [if_neg (by simp), if_neg (by simp; omega), sb_at hxs, bind_some', bind_some', hns, if_neg (by simp), itm_at hxn, bind_some', htr, if_neg (by simp)]
      by_cases h0 : 0 < p
      · obtain ⟨q, rfl⟩ : ∃ q, p = q + 1 := ⟨p - 1, by omega⟩
        have hq : q < (L k).length := by omega
        obtain ⟨w, hw, hwn, _⟩ := hL.rg k _ (List.getElem_mem hq)
        have hb := (List.pairwise_iff_getElem.1 (hL.bl k)) q (q + 1) hq hlt (by omega)
        rw [hw, hx, Int.toNat_natCast, Int.toNat_natCast] at hb
        rw [if_pos (by simp <;> omega), w64p (by omega), getI_nat (at_lt hq), bind_some', bind_some', hw, itm_at hwn, bind_some', bind_some']
        congr 1
        rw [decide_eq_false_iff_not]; omega
      · rw [if_neg (by simp <;> omega)]
    rw [zaN_5, if_pos (by simp; omega), getI_nat hat, bind_some', bind_some', step, bind_some', if_neg (by simp), sb_at hxs, bind_some', bind_some', lt_def, lt_def, Int.toNat_natCast, w64s (by omega)]
    refine so5 N hD hL k hll r m (p + 1) (s.set x true) (by omega) (by omega) ⟨by rw [List.length_set]; exact hI.len, fun y hy => ?_⟩
    rw [sb_set hxs]
    by_cases hxy : x = y
    · subst hxy
      rw [if_pos rfl]
      exact ⟨fun _ => .inr ⟨htr, p, by omega, hat⟩, fun _ => rfl⟩
    · rw [if_neg hxy, hI.iff y hy]
      constructor
      · rintro (h1 | ⟨h1, q, h2, h3⟩)
        · exact .inl h1
        · exact .inr ⟨h1, q, by omega, h3⟩
      · rintro (h1 | ⟨h1, q, h2, h3⟩)
        · exact .inl h1
        · refine .inr ⟨h1, q, ?_, h3⟩
          by_cases hq : q = p
          · subst hq
            rw [hat] at h3
            injection h3 with h3
            exact absurd (by omega) hxy
          · omega
theorem so5_next {d : Disorder} (hD : DOk d) {L : Nat → List Int} (hL : LK d L) {k : Nat} {s : List Bool} (h : SI5 d L k (L k).length s) : SI5 d L (k + 1) 0 s where
  len := h.len
  iff := fun x hx => by
    rw [h.iff x hx]
    have hr := hD.it _ (itm_mem hx)
    constructor
    · rintro (h1 | ⟨h1, _⟩)
      · exact .inl (by omega)
      · exact .inl (by omega)
    · rintro (h1 | ⟨_, q, h2, _⟩)
      · by_cases h2 : (itm d x).train < k
        · exact .inl h2
        · have h3 : (itm d x).train = k := by omega
          refine .inr ⟨h3, ?_⟩
          have hm := hL.al x hx
          rw [h3, Int.toNat_natCast] at hm
          obtain ⟨q, hq, he⟩ := List.mem_iff_getElem.1 hm
          exact ⟨q, hq, by rw [at_lt hq, he]⟩
      · omega
theorem so7 (N : Nat) {s : List Bool} (hs : s.length ≤ 500) (ha : ∀ x, x < s.length → sb s x = true) : ∀ (r m x : Nat), r < m → x + r = s.length → zaN_7 N s m (x : Int) = some (.inl ())
  | r, 0, x, h, _ => by omega
  | 0, m + 1, x, h, hx => by rw [zaN_7, if_neg (by simp; omega)]
  | r + 1, m + 1, x, h, hx => by
    have hlt : x < s.length := by omega
    rw [zaN_7, if_pos (by simp; omega), sb_at hlt, bind_some', bind_some', ha x hlt, if_neg (by simp), lt_def, w64s (by omega)]
    exact so7 N hs ha r m (x + 1) (by omega) (by omega)
end Go.W
end
section
set_option linter.unusedVariables false
set_option linter.unusedSimpArgs false
namespace Go.W
open Go.AM
def ofI (xs : List Int) (x : Nat) : Int := (xs[x]?).getD 0
def stK (d : Disorder) (ps : List Pull) (k : Nat) : List Int :=
  match d.homes[k]? with
  | some h => (((d.tracks.map fun l => l.filter (kpB ps true))[h.toNat]?).getD [])
  | none => []
def jobJ (d : Disorder) (ps : List Pull) : Job := Job.mk ((jobL d ps).map (itI d)) 12
theorem job_j0 {d : Disorder} (hD : DOk d) (hn : d.items.length ≤ 90) (ps : List Pull) : J0 (jobJ d ps) where
  li := by
    have := jobL_len hD ps
    unfold jobJ
    simp; omega
  wt := rfl
  it := fun x hx => by
    obtain ⟨i, hi, rfl⟩ := List.mem_map.1 hx
    obtain ⟨r1, r2⟩ := jobL_rg hD ps i hi
    have hlt : i.toNat < d.items.length := by omega
    have hh := hD.it _ (itm_mem hlt)
    have hlh := hD.lh
    unfold itI
    exact ⟨hh.1, by omega, hh.2.2.1, hh.2.2.2.1, hh.2.2.2.2.1, hh.2.2.2.2.2.1, hh.2.2.2.2.2.2⟩
theorem job_at {d : Disorder} {ps : List Pull} {q : Nat} (hq : q < (jobL d ps).length) : ji (jobJ d ps) q = itI d (ofI (jobL d ps) q) ∧ (jobL d ps)[q]? = some (ofI (jobL d ps) q) := by
  unfold ji jobJ ofI
  simp only
  rw [List.getElem?_map, at_lt hq]
  exact ⟨rfl, rfl⟩
theorem job_nd {d : Disorder} (hD : DOk d) (ps : List Pull) : (jobL d ps).Nodup := (tk_iff.1 hD.tk).1.filter _
section
variable {d : Disorder} (hD : DOk d) {a : List Spot} {ps : List Pull} {rd : List Int} (hP : PsOk d a ps rd)
include hD hP
theorem st_mem {k : Nat} {i : Int} (h : i ∈ stK d ps k) : ∃ (x t p : Nat) (l : List Int), i = x ∧ x < d.items.length ∧ (itm d x).train = k ∧ rdx rd x = -1 ∧ d.tracks[t]? = some l ∧ stK d ps k = l.filter (kpB ps true) := by
  unfold stK at h ⊢
  cases hh : d.homes[k]? with
  | none => rw [hh] at h; simp at h
  | some hm =>
    rw [hh] at h
    simp only at h ⊢
    have hr := hD.hm hm (List.mem_of_getElem? hh)
    obtain ⟨t, rfl⟩ := Int.eq_ofNat_of_zero_le hr.1
    rw [Int.toNat_natCast] at h ⊢
    have ht : t < d.tracks.length := by omega
    rw [List.getElem?_map, at_lt ht] at h ⊢
    simp only [Option.map_some, Option.getD_some] at h ⊢
    obtain ⟨h1, h2⟩ := List.mem_filter.1 h
    obtain ⟨p, hp, he⟩ := List.mem_iff_getElem.1 h1
    have hpos : posD d.tracks t p = some i := by unfold posD; rw [at_lt ht]; show d.tracks[t][p]? = _; rw [at_lt hp, he]
    have hrg := hD.tk.rg _ _ _ hpos
    obtain ⟨x, rfl⟩ := Int.eq_ofNat_of_zero_le hrg.1
    have hx : x < d.items.length := by omega
    have hrd := (pul_rd hP x).1 h2
    refine ⟨x, t, p, d.tracks[t], rfl, hx, ?_, hrd, at_lt ht, rfl⟩
    have hst := (hP.st x hx hrd).1
    have hsp := spot_of hP.sc.at' hpos
    unfold homeB at hst
    rw [hsp] at hst
    have hst : ((t : Nat) : Int) = hmx d x := by simpa using hst
    have hit := hD.it _ (itm_mem hx)
    obtain ⟨q, hq⟩ := Int.eq_ofNat_of_zero_le hit.1
    have hq2 : q < d.homes.length := by omega
    unfold hmx at hst
    rw [hq, Int.toNat_natCast, at_lt hq2, Option.getD_some] at hst
    obtain ⟨k1, k2⟩ := List.getElem?_eq_some_iff.1 hh
    rw [hq]
    rcases Nat.lt_trichotomy q k with hlt | heq | hgt
    · exact absurd (hst.symm.trans k2.symm) ((List.pairwise_iff_getElem.1 hD.hd) q k hq2 k1 hlt)
    · rw [heq]
    · exact absurd (k2.trans hst) ((List.pairwise_iff_getElem.1 hD.hd) k q k1 hq2 hgt)
theorem st_sorted (k : Nat) : (stK d ps k).Pairwise fun i i' => (itm d i.toNat).block ≤ (itm d i'.toNat).block := by
  unfold stK
  cases hh : d.homes[k]? with
  | none => simp
  | some hm =>
    simp only
    have hr := hD.hm hm (List.mem_of_getElem? hh)
    obtain ⟨t, rfl⟩ := Int.eq_ofNat_of_zero_le hr.1
    rw [Int.toNat_natCast]
    have ht : t < d.tracks.length := by omega
    rw [List.getElem?_map, at_lt ht]
    simp only [Option.map_some, Option.getD_some]
    have hall : ∀ i ∈ d.tracks[t].filter (kpB ps true), i ∈ stK d ps k := by
      intro i hi
      unfold stK
      rw [hh]
      simp only
      rw [Int.toNat_natCast, List.getElem?_map, at_lt ht]
      exact hi
    have base : d.tracks[t].Pairwise fun i i' => i ∈ stK d ps k → i' ∈ stK d ps k → (itm d i.toNat).block ≤ (itm d i'.toNat).block := by
      refine List.pairwise_iff_getElem.2 fun p q hp hq hpq h1 h2 => ?_
      obtain ⟨x, _, _, _, hx, hxn, htx, hrx, _⟩ := st_mem hD hP h1
      obtain ⟨y, _, _, _, hy, hyn, hty, hry, _⟩ := st_mem hD hP h2
      have px : posD d.tracks t p = some (x : Int) := by unfold posD; rw [at_lt ht]; show d.tracks[t][p]? = _; rw [at_lt hp, hx]
      have py : posD d.tracks t q = some (y : Int) := by unfold posD; rw [at_lt ht]; show d.tracks[t][q]? = _; rw [at_lt hq, hy]
      have hne := near_of hP.sc.at' px py hpq
      have hst := ((hP.st x hxn hrx).2 y hyn).1
      rw [hne, Bool.and_true] at hst
      unfold ahB at hst
      rw [hx, hy, Int.toNat_natCast, Int.toNat_natCast]
      rw [htx, hty] at hst
      simp at hst
      exact hst
    refine (base.filter _).imp_of_mem fun {i i'} hi hi' h => h (hall i hi) (hall i' hi')
omit hP in
theorem st_nd (k : Nat) : (stK d ps k).Nodup := by
  unfold stK
  cases hh : d.homes[k]? with
  | none => simp
  | some hm =>
    simp only
    cases hl : (d.tracks.map fun l => l.filter (kpB ps true))[hm.toNat]? with
    | none => simp
    | some l =>
      rw [Option.getD_some]
      rw [List.getElem?_map] at hl
      cases hl2 : d.tracks[hm.toNat]? with
      | none => rw [hl2] at hl; cases hl
      | some l2 =>
        rw [hl2] at hl
        cases hl
        have hnd := (tk_iff.1 hD.tk).1
        rw [List.Nodup, List.pairwise_flatten] at hnd
        exact (hnd.1 l2 (List.mem_of_getElem? hl2)).filter _
theorem st_all {x : Nat} (hx : x < d.items.length) (hr : rdx rd x = -1) : (x : Int) ∈ stK d ps (itm d x).train.toNat := by
  have hit := hD.it _ (itm_mem hx)
  obtain ⟨q, hq⟩ := Int.eq_ofNat_of_zero_le hit.1
  have hq2 : q < d.homes.length := by omega
  obtain ⟨t, p, hpos⟩ := hD.tk.all x hx
  have hst := (hP.st x hx hr).1
  have hsp := spot_of hP.sc.at' hpos
  unfold homeB hmx at hst
  rw [hsp, hq, Int.toNat_natCast, at_lt hq2, Option.getD_some] at hst
  have hst : ((t : Nat) : Int) = d.homes[q] := by simpa using hst
  unfold stK
  rw [hq, Int.toNat_natCast, at_lt hq2]
  simp only
  rw [← hst, Int.toNat_natCast, List.getElem?_map]
  unfold posD at hpos
  cases hl : d.tracks[t]? with
  | none => rw [hl] at hpos; cases hpos
  | some l =>
    rw [hl] at hpos
    have hpos : l[p]? = some (x : Int) := hpos
    exact List.mem_filter.2 ⟨List.mem_of_getElem? hpos, (pul_rd hP x).2 hr⟩
end
end Go.W
end
section
set_option linter.unusedVariables false
set_option linter.unusedSimpArgs false
namespace Go.W
open Go.AM
def endK (d : Disorder) (ps : List Pull) (s : Nat) (v : List Int) (k : Nat) : List Int := stK d ps k ++ (trk14 (jobJ d ps) s v k).map (ofI (jobL d ps))
theorem job_len {d : Disorder} {ps : List Pull} : (jobJ d ps).items.length = (jobL d ps).length := by simp [jobJ]
theorem trk_mem {d : Disorder} (hD : DOk d) {ps : List Pull} {s : Nat} {v : List Int} {k q : Nat} (h : q ∈ trk14 (jobJ d ps) s v k) : q < (jobL d ps).length ∧ ∃ x : Nat, ofI (jobL d ps) q = x ∧ x < d.items.length ∧ (itm d x).train = k ∧ pulB ps (x : Int) = true ∧ ji (jobJ d ps) q = itm d x := by
  obtain ⟨h1, h2⟩ := List.mem_filter.1 h
  have h1 := ord_mem.1 h1
  rw [job_len] at h1
  obtain ⟨j1, j2⟩ := job_at (d := d) (ps := ps) h1
  have hm := List.mem_of_getElem? j2
  obtain ⟨r1, r2⟩ := jobL_rg hD ps _ hm
  obtain ⟨x, hx⟩ := Int.eq_ofNat_of_zero_le r1
  have hp := (List.mem_filter.1 hm).2
  rw [hx] at hp j1
  have e : ji (jobJ d ps) q = itm d x := by rw [j1]; unfold itI; rw [Int.toNat_natCast]
  have hit := hD.it _ (itm_mem (d := d) (x := x) (by omega))
  have h2 : trn (jobJ d ps) q = k := by simpa using h2
  have h3 : trn (jobJ d ps) q = (ji (jobJ d ps) q).train.toNat := rfl
  rw [e] at h3
  exact ⟨h1, x, hx, by omega, by omega, hp, e⟩
theorem pul_ge {d : Disorder} {a : List Spot} {ps : List Pull} {rd : List Int} (hP : PsOk d a ps rd) {x : Nat} (h : pulB ps (x : Int) = true) : 0 ≤ rdx rd x := by
  unfold pulB at h
  obtain ⟨p, hp, he⟩ := of_decide_eq_true h
  obtain ⟨y, g1, g2, g3, g4⟩ := hP.it p hp
  have : y = x := by omega
  subst this; omega
theorem end_ok {d : Disorder} (hD : DOk d) (hn : d.items.length ≤ 90) {a : List Spot} {ps : List Pull} {rd : List Int} (hP : PsOk d a ps rd) {s : Nat} {v : List Int} (hC : Cd (jobJ d ps) s v) : LK d (endK d ps s v) where
  rg := fun k i hi => by
    rcases List.mem_append.1 hi with hi | hi
    · obtain ⟨x, _, _, _, h1, h2, h3, _⟩ := st_mem hD hP hi
      exact ⟨x, h1, h2, h3⟩
    · obtain ⟨q, hq, rfl⟩ := List.mem_map.1 hi
      obtain ⟨_, x, h1, h2, h3, _⟩ := trk_mem hD hq
      exact ⟨x, h1, h2, h3⟩
  bl := fun k => by
    unfold endK
    rw [List.pairwise_append]
    refine ⟨st_sorted hD hP k, ?_, fun i hi i' hi' => ?_⟩
    · rw [List.pairwise_map]
      refine (trk14_ok (job_j0 hD hn ps) hC k).imp_of_mem fun {q q'} hq hq' h => ?_
      obtain ⟨_, x, h1, _, _, _, h2⟩ := trk_mem hD hq
      obtain ⟨_, y, g1, _, _, _, g2⟩ := trk_mem hD hq'
      rw [h1, g1, Int.toNat_natCast, Int.toNat_natCast, ← h2, ← g2]
      exact h
    · obtain ⟨q, hq, rfl⟩ := List.mem_map.1 hi'
      obtain ⟨_, y, g1, gy, g3, g4, g2⟩ := trk_mem hD hq
      obtain ⟨x, _, _, _, h1, h2, h3, h4, _⟩ := st_mem hD hP hi
      have hst := (((hP.st x h2 h4).2 y gy).2 (pul_ge hP g4)).1
      unfold ahB at hst
      rw [h1, g1, Int.toNat_natCast, Int.toNat_natCast]
      rw [h3, g3] at hst
      simp at hst
      exact hst
  nd := fun k => by
    unfold endK
    rw [List.Nodup, List.pairwise_append]
    refine ⟨st_nd hD k, ?_, fun i hi i' hi' e => ?_⟩
    · rw [List.pairwise_map]
      have hnd : (trk14 (jobJ d ps) s v k).Nodup := ((ord_perm (v := v) (n := (jobJ d ps).items.length) s).nodup_iff.2 List.nodup_range).filter _
      refine List.Pairwise.imp_of_mem (fun {q q'} hq hq' h => ?_) hnd
      intro e
      obtain ⟨q1, _⟩ := trk_mem hD hq
      obtain ⟨q2, _⟩ := trk_mem hD hq'
      have a1 := (job_at (d := d) (ps := ps) q1).2
      have a2 := (job_at (d := d) (ps := ps) q2).2
      rw [← e] at a2
      obtain ⟨b1, b2⟩ := List.getElem?_eq_some_iff.1 a1
      obtain ⟨c1, c2⟩ := List.getElem?_eq_some_iff.1 a2
      have nd := List.pairwise_iff_getElem.1 (job_nd hD ps)
      rcases Nat.lt_trichotomy q q' with hlt | heq | hgt
      · exact nd q q' b1 c1 hlt (b2.trans c2.symm)
      · exact h heq
      · exact nd q' q c1 b1 hgt (c2.trans b2.symm)
    · obtain ⟨q, hq, rfl⟩ := List.mem_map.1 hi'
      obtain ⟨_, y, g1, gy, g3, g4, g2⟩ := trk_mem hD hq
      obtain ⟨x, _, _, _, h1, h2, h3, h4, _⟩ := st_mem hD hP hi
      have hge := pul_ge hP g4
      have : x = y := by omega
      subst this
      omega
  al := fun x hx => by
    have hit := hD.it _ (itm_mem hx)
    rcases hP.on x with h | ⟨p, hp, he⟩
    · exact List.mem_append.2 (.inl (st_all hD hP hx h))
    · have hpb : pulB ps (x : Int) = true := by
        unfold pulB
        exact decide_eq_true ⟨p, hp, he⟩
      obtain ⟨t, q, hpos⟩ := hD.tk.all x hx
      have hm : (x : Int) ∈ jobL d ps := List.mem_filter.2 ⟨mem_flat.2 ⟨t, q, hpos⟩, hpb⟩
      obtain ⟨i, hi, he⟩ := List.mem_iff_getElem.1 hm
      obtain ⟨a1, a2⟩ := job_at (d := d) (ps := ps) hi
      rw [at_lt hi, he] at a2
      injection a2 with a2
      refine List.mem_append.2 (.inr (List.mem_map.2 ⟨i, List.mem_filter.2 ⟨ord_mem.2 (by rw [job_len]; exact hi), ?_⟩, a2.symm⟩))
      rw [decide_eq_true_iff]
      have h3 : trn (jobJ d ps) i = (ji (jobJ d ps) i).train.toNat := rfl
      rw [h3, a1, ← a2]
      rfl
theorem so4 (N : Nat) {of : List Int} {s nt : Nat} {j : Job} {v : List Int} {mv : Int} {k : Nat} (hk : k < nt) (hq : ∀ q ∈ trk14 j s v k, q < of.length) (hl : (trk14 j s v k).length ≤ 200) : ∀ (r m i : Nat) (out : List Int), r < m → i + r = (trk14 j s v k).length → out.length + r ≤ 2000 →
    zaN_4 N of (Sorted.mk (mkS (trk14 j s v) nt) mv) (k : Int) m out (i : Int) = some (out ++ ((trk14 j s v k).drop i).map (ofI of))
  | r, 0, i, out, h, _, _ => by omega
  | 0, m + 1, i, out, h, hi, ho => by
    rw [zaN_4, getI_nat (mkS_at hk), bind_some', if_neg (by rw [ints_len]; simp; omega), List.drop_of_length_le (by omega)]; simp
  | r + 1, m + 1, i, out, h, hi, ho => by
    have hlt : i < (trk14 j s v k).length := by omega
    have hq1 := hq _ (List.getElem_mem hlt)
    have hof : getI of (((trk14 j s v k)[i] : Nat) : Int) = some (ofI of (trk14 j s v k)[i]) := by
      rw [getI_nat (at_lt hq1)]; unfold ofI; rw [at_lt hq1]; rfl
    rw [zaN_4, getI_nat (mkS_at hk), bind_some', if_pos (by rw [ints_len]; simp; omega), bind_some', getI_nat (ints_at (at_lt hlt)), bind_some', hof, bind_some', bind_some', appI_ok (by simp; omega), bind_some', lt_def, w64s (by omega), so4 N hk hq hl r m (i + 1) _ (by omega) (by omega) (by simp; omega), drop_at (at_lt hlt), List.map_cons, List.append_assoc]
    rfl
theorem so2 (N : Nat) (hN : 1000 ≤ N) {d : Disorder} (hD : DOk d) (hn : d.items.length ≤ 90) {a : List Spot} {ps : List Pull} {rd : List Int} (hP : PsOk d a ps rd) {s : Nat} {v : List Int} (hC : Cd (jobJ d ps) s v) {nt : Nat} {mv : Int} (hnt : ∀ x, x < (jobJ d ps).items.length → trn (jobJ d ps) x < nt) : ∀ (r m k : Nat) (sn : List Bool), r < m → k + r = d.homes.length → SI5 d (endK d ps s v) k 0 sn →
    ∃ sn', zaN_2 N d (d.tracks.map fun l => l.filter (kpB ps true)) (jobL d ps) (Sorted.mk (mkS (trk14 (jobJ d ps) s v) nt) mv) m sn (k : Int) = some (.inl sn') ∧ SI5 d (endK d ps s v) d.homes.length 0 sn'
  | r, 0, k, sn, h, _, _ => by omega
  | 0, m + 1, k, sn, h, hk, hI => by
    rw [zaN_2, if_neg (by simp; omega)]
    exact ⟨sn, rfl, by rw [show d.homes.length = k by omega]; exact hI⟩
  | r + 1, m + 1, k, sn, h, hk, hI => by
    have hlt : k < d.homes.length := by omega
    have hlh := hD.lh
    have hr := hD.hm _ (List.getElem_mem hlt)
    obtain ⟨t, ht⟩ := Int.eq_ofNat_of_zero_le hr.1
    have ht2 : t < d.tracks.length := by omega
    have hst : (d.tracks.map fun l => l.filter (kpB ps true))[t]? = some (stK d ps k) := by
      unfold stK
      rw [at_lt hlt]
      simp only
      rw [ht, Int.toNat_natCast, List.getElem?_map, at_lt ht2]
      rfl
    have hsl : (stK d ps k).length ≤ 96 := by
      have hm := List.mem_of_getElem? hst
      obtain ⟨l, hl, he⟩ := List.mem_map.1 hm
      have h1 := trk_len hD l hl
      have h2 : (l.filter (kpB ps true)).length ≤ l.length := List.length_filter_le _ _
      rw [← he]; omega
    have htl : (trk14 (jobJ d ps) s v k).length ≤ 90 := by
      have h1 : (trk14 (jobJ d ps) s v k).length ≤ (ord v (jobJ d ps).items.length s).length := List.length_filter_le _ _
      rw [ord_len, job_len] at h1
      have := jobL_len hD ps
      omega
    have e3 : zaN_3 N (jobL d ps) (Sorted.mk (mkS (trk14 (jobJ d ps) s v) nt) mv) (k : Int) (stK d ps k) (decide ((k : Int) < ((mkS (trk14 (jobJ d ps) s v) nt).length : Int))) = some (endK d ps s v k) := by
      unfold zaN_3
      rw [mkS_len]
      by_cases hkn : k < nt
      · have e := so4 N (of := jobL d ps) (s := s) (j := jobJ d ps) (v := v) (mv := mv) hkn (fun q hq => (trk_mem hD hq).1) (by omega) (trk14 (jobJ d ps) s v k).length N 0 (stK d ps k) (by omega) (by omega) (by omega)
        rw [List.drop_zero] at e
        have e : zaN_4 N (jobL d ps) (Sorted.mk (mkS (trk14 (jobJ d ps) s v) nt) mv) (k : Int) N (stK d ps k) 0 = _ := e
        rw [if_pos (by simp; omega), e, bind_some']
        rfl
      · rw [if_neg (by simp; omega)]
        have : trk14 (jobJ d ps) s v k = [] := by
          unfold trk14
          rw [List.filter_eq_nil_iff]
          intro x hx
          have := hnt x (ord_mem.1 hx)
          simp; omega
        unfold endK
        rw [this, List.map_nil, List.append_nil]
    have hll : (endK d ps s v k).length ≤ 500 := by
      unfold endK
      rw [List.length_append, List.length_map]; omega
    obtain ⟨s', g1, g2⟩ := so5 N hD (end_ok hD hn hP hC) k hll (endK d ps s v k).length N 0 sn (by omega) (by omega) hI
    have g1 : zaN_5 N d (k : Int) (endK d ps s v k) N sn 0 = _ := g1
    rw [zaN_2, if_pos (by simp; omega), getI_nat (at_lt hlt), bind_some', ht, getI_nat hst, bind_some', appI_ok (by simp; omega), bind_some', List.nil_append]
    simp only
    rw [e3, bind_some', g1, bind_some']
    simp only
    rw [lt_def, w64s (by omega)]
    exact so2 N hN hD hn hP hC hnt r m (k + 1) s' (by omega) (by omega) (so5_next hD (end_ok hD hn hP hC) g2)
theorem jobL_ps {d : Disorder} (hD : DOk d) {a : List Spot} {ps : List Pull} {rd : List Int} (hP : PsOk d a ps rd) : (jobL d ps).length = ps.length := by
  have h1 := stay_cnt hP
  rw [sum_len] at h1
  have h2 := flat_len hD
  have h3 : (d.tracks.flatten.filter (kpB ps true)).length + (jobL d ps).length = d.tracks.flatten.length := by
    unfold jobL
    have hp := (List.filter_append_perm (pulB ps) d.tracks.flatten).length_eq
    rw [List.length_append] at hp
    have : d.tracks.flatten.filter (kpB ps true) = d.tracks.flatten.filter fun x => !pulB ps x := List.filter_congr fun x _ => kp_t ps x
    rw [this]; omega
  omega
theorem sortsT : ∀ (t : List Int), ∃ N, zaN N t = some true := by
  intro t
  refine ⟨1000, ?_⟩
  unfold zaN zbX
  rw [bind_some']
  obtain ⟨d, s0, e1, hD, _, hn, _, _⟩ := made_dis 1000 (by omega) (mk0 t) 14 (by omega)
  rw [e1, bind_some']
  simp only
  obtain ⟨ps, a, rd, e2, hP, _⟩ := pulls_ok 1000 (by omega) (by omega) hD
  have hli := hD.li
  have hlt := hD.lt
  have hlen := hP.len
  have e3 := rest_ok 1000 (by omega) hD hP
  rw [e2, bind_some']
  simp only
  rw [e3, bind_some']
  obtain ⟨b, g1, g2⟩ := Check_ok 1000 (by omega) hD hP.sc.at' ps (by omega)
  have hb : b = true := g2.2 ⟨rd, hP⟩
  subst hb
  have hjl := jobL_len hD ps
  have hjr := jobL_rg hD ps
  have hJ := job_j0 hD (by omega) ps
  have e4 : zbK 1000 d ps 12 = some (jobJ d ps, jobL d ps, 0) := by
    have c1 := concat_ok 1000 (by omega) (d.tracks.map fun t => t.filter (kpB ps false)) (by rw [List.length_map]; omega) (fun t ht => by
      obtain ⟨u, hu, rfl⟩ := List.mem_map.1 ht
      have := trk_len hD u hu
      have h2 : (u.filter (kpB ps false)).length ≤ u.length := List.length_filter_le _ _
      omega)
    have c2 : (d.tracks.map fun t => t.filter (kpB ps false)).flatten = jobL d ps := by
      rw [flat_filter]
      unfold jobL
      congr 1
      funext x
      exact kp_f ps x
    rw [c2] at c1
    have c3 := job1 1000 (d := d) (jobL d ps) (by omega) hjr 12 (jobL d ps).length 1000 0 [] [] (by omega) (by omega) (by simp; omega)
    rw [List.drop_zero, List.nil_append] at c3
    have c3 : zbK_1 1000 d (jobL d ps) ((jobL d ps).length : Int) 1000 (Job.mk [] 12) 0 [] = _ := c3
    have c4 := jval 1000 (jobJ d ps) (by rw [job_len]; omega) (by omega) (by unfold jobJ; simp) (fun x hx => by
      have := hJ.it x hx
      exact ⟨this.1, by omega, this.2.2.1, this.2.2.2.1, this.2.2.2.2.1, this.2.2.2.2.2.1, this.2.2.2.2.2.2⟩)
    unfold zbK
    have hw : zbK_0 1000 12 = some false := rfl
    rw [g1, bind_some', lt_def, if_neg (by simp), hw, bind_some', if_neg (by simp), lt_def, if_neg (by simp), split_ok 1000 (by omega) hD ps (by omega) false, bind_some']
    simp only [List.map_id']
    rw [c1, bind_some', c3, bind_some']
    simp only
    have c4 : zbM 1000 (Job.mk ((jobL d ps).map (itI d)) 12) = some 0 := c4
    rw [c4, bind_some', if_neg (by simp)]
    rfl
  simp only
  rw [e4, bind_some']
  simp only
  have e5 : zaN_0 1000 d ps (d.tracks.map fun l => l.filter (kpB ps true)) 0 (jobJ d ps) (jobL d ps) 0 = some false := by
    have h1 := jobL_ps hD hP
    unfold zaN_0
    rw [if_neg (by simp), if_neg (by simp), if_neg (by simp [h1]), if_neg (by rw [job_len]; simp [h1])]
    simp
  rw [e5, bind_some', if_neg (by simp)]
  obtain ⟨s, v, e6, hC⟩ := least_ok 1000 (by omega) hJ
  obtain ⟨nt, mv, e7, hnt⟩ := run_ok 1000 (by omega) hJ hC
  rw [e6, bind_some']
  simp only
  rw [e7, bind_some']
  simp only
  have e8 : zaN_1 1000 0 0 = some false := rfl
  rw [e8, bind_some', if_neg (by simp), mkI_ok (by omega) (by omega), bind_some', Int.toNat_natCast]
  obtain ⟨sn, e9, hI⟩ := so2 1000 (by omega) hD (by omega) hP hC (mv := mv) hnt d.homes.length 1000 0 (List.replicate d.items.length false) (by have := hD.lh; omega) (by omega) ⟨by simp, fun x hx => by
    have hit := hD.it _ (itm_mem hx)
    unfold sb
    rw [List.getElem?_replicate, if_pos hx]
    simp; omega⟩
  have e9 : zaN_2 1000 d (d.tracks.map fun l => l.filter (kpB ps true)) (jobL d ps) (Sorted.mk (mkS (trk14 (jobJ d ps) s v) nt) mv) 1000 (List.replicate d.items.length false) 0 = _ := e9
  rw [e9, bind_some']
  simp only
  have e10 := so7 1000 (s := sn) (by rw [hI.len]; omega) (fun x hx => by
    rw [hI.len] at hx
    have hit := hD.it _ (itm_mem hx)
    exact (hI.iff x hx).2 (.inl (by omega))) sn.length 1000 0 (by rw [hI.len]; omega) (by omega)
  have e10 : zaN_7 1000 sn 1000 0 = _ := e10
  rw [e10, bind_some']
  simp only
  rw [sane33, bind_some']
end Go.W
end
