/- Wheel: the law on known trains. -/
import Derived.Test.YthlaohffhjlkbaaWKnown
import Derived.Test.YthlaohffhjlkbaaWSane
set_option linter.unusedVariables false
set_option linter.unusedSimpArgs false
set_option maxRecDepth 100000
namespace Go.W
open Go.AM

theorem near_snoc {B x y : Int} (h1 : -B ≤ x - y) (h2 : x - y ≤ B) : ∀ {a b : List Int}, Near B a b → Near B (a ++ [x]) (b ++ [y])
  | [], [], _ => ⟨h1, h2, trivial⟩
  | a :: l, b :: m, h => ⟨h.1, h.2.1, near_snoc h1 h2 h.2.2⟩
  | [], _ :: _, h => by simp [Near] at h
  | _ :: _, [], h => by simp [Near] at h

theorem from88 (N : Nat) {c : Int} {s : Maker} (hs : Mk c s) (hc : c ≤ 1000000) : ∃ x s', Maker_From N s (-8) 8 = some (x, s') ∧ -8 ≤ x ∧ x ≤ 8 ∧ Mk (c + 1) s' := by
  obtain ⟨r, s', h, r0, r1, m⟩ := next_ok N 17 (by omega) (by omega) hs (by omega)
  unfold Maker_From
  rw [show IntKind.wrap .i64 (IntKind.wrap .i64 (8 - (-8)) + 1) = 17 from by decide, h, bind_some']
  dsimp only
  rw [w64 (by omega) (by omega), lt_def]
  exact ⟨_, _, rfl, by omega, by omega, m⟩

theorem noise_loop (N : Nat) {D : List Int} (hD : Pos D) (hl : D.length ≤ 100) : ∀ (k n i : Nat) (s : Maker) (c : Int) (a : List Int), k < n → i + k = D.length → a.length = i → Mk c s → c + k ≤ 100000 → Near 8 a (D.take i) → (∀ x ∈ a, 1 ≤ x ∧ x ≤ 9008) →
    ∃ m, l07_WheelKnown_3 N n s (a ++ D.drop i) i = some m ∧ Near 8 m D ∧ ∀ x ∈ m, 1 ≤ x ∧ x ≤ 9008
  | k, 0, i, s, c, a, hn, _, _, _, _, _, _ => by omega
  | 0, n + 1, i, s, c, a, hn, hi, ha, hs, hc, hm, hr => by
    rw [l07_WheelKnown_3, if_neg (dneg (by simp; omega)), List.drop_eq_nil_of_le (by omega), List.append_nil]
    rw [List.take_of_length_le (by omega)] at hm
    exact ⟨a, rfl, hm, hr⟩
  | k + 1, n + 1, i, s, c, a, hn, hi, ha, hs, hc, hm, hr => by
    have hlt : i < D.length := by omega
    have hx := hD _ (List.getElem_mem hlt)
    obtain ⟨e, s1, h1, e0, e1, m1⟩ := from88 N hs (by omega)
    have hg : (a ++ D.drop i)[i]? = some D[i] := by
      rw [List.getElem?_append_right (by omega), ha, Nat.sub_self, drop_at (at_lt hlt)]; rfl
    have hset : ∀ y : Int, (a ++ D.drop i).set i y = (a ++ [y]) ++ D.drop (i + 1) := fun y => by
      rw [List.set_append_right _ _ (by omega), ha, Nat.sub_self, drop_at (at_lt hlt), List.set_cons_zero, List.append_assoc]; rfl
    rw [l07_WheelKnown_3, if_pos (dpos (by simp; omega)), getI_nat hg, bind_some', h1, bind_some', bind_some']
    dsimp only
    rw [lt_def, w64 (n := D[i] + e) (by omega) (by omega), Int.toNat_natCast, hset, lt_def, w64s (by omega)]
    refine noise_loop N hD hl k n (i + 1) s1 (c + 1) (a ++ [max 1 (D[i] + e)]) (by omega) (by omega) (by simp; omega) m1 (by omega) ?_ (fun y hy => ?_)
    · rw [List.take_succ_eq_append_getElem hlt]
      exact near_snoc (by omega) (by omega) hm
    · rcases List.mem_append.1 hy with hy | hy
      · exact hr y hy
      · simp at hy; omega

theorem chk_fine' {d : List Int} {p : List (List Int)} {tol : Int} (F : Fine d p) (h0 : 0 ≤ tol) (h1 : tol ≤ 10000) : chk d p tol = 0 := by
  have hdl := F.dl
  have hpl := F.pl
  unfold chk
  rw [if_neg (by omega), if_neg, if_pos]
  · simp only [Bool.and_eq_true, decide_eq_true_eq, List.all_eq_true, inR_iff]
    exact ⟨⟨⟨h0, h1⟩, F.d⟩, fun q hq => (F.p q hq).2⟩
  · intro h
    obtain ⟨q, hq, h⟩ := List.any_eq_true.1 h
    have := (F.p q hq).1
    simp at h; omega
theorem recog_val {d : List Int} {p : List (List Int)} {tol : Int} (F : Fine d p) (h0 : 0 ≤ tol) (h1 : tol ≤ 10000) {c : Int × Int} (hc : (tabN tol p d (d.length + 1)).head? = some c) (hz : 0 ≤ c.1) : recog d p tol = (picks tol p d (d.length + 1) (d.length + 1), c.1, 0) := by
  unfold recog
  rw [if_pos (chk_fine' F h0 h1), hc]
  dsimp only
  rw [if_neg (by omega)]

theorem known_law (x0 : List Int) : l07_WheelKnown 3000 x0 = some true := by
  obtain ⟨l, s0, h0, m0, l0, d0⟩ := wagons_ok 3000 (by omega) 8 (by omega) (mk0 x0) (by omega)
  have hs : l07_sane 3000 = some true := sane07' (by omega)
  unfold l07_WheelKnown gen_New
  rw [bind_some', show (8 : Int) = ((8 : Nat) : Int) from rfl, h0, bind_some']
  dsimp only
  by_cases hl0 : l.length = 0
  · rw [if_pos (by simp [hl0]), hs]; rfl
  · obtain ⟨w, l', rfl⟩ : ∃ w l', l = w :: l' := by
      cases l with
      | nil => simp at hl0
      | cons w l' => exact ⟨w, l', rfl⟩
    have hF : ∀ x ∈ w :: l', Fu 3000 x := fun x hx => wagErr_fu (d0.ok x hx) (by omega)
    have hz : fstE (w :: l') = 0 := by
      have : ∀ l : List Wagon, (∀ w ∈ l, wagErr w = 0) → fstE l = 0 := by
        intro l
        induction l with
        | nil => intro _; rfl
        | cons w l ih => intro h; rw [fstE_ok (h w (by simp))]; exact ih fun x hx => h x (by simp [hx])
      exact this _ d0.ok
    have hdE : distE (w :: l') = (dst (w :: l') 0 (-1) [], 0) := by
      unfold distE
      rw [if_neg (by omega), if_neg (by simp [hz])]
    have hP : Pos (dst (w :: l') 0 (-1) []) := dst_pos d0.ok (fun x hx => by simp at hx) (by omega) (.inr rfl) (.inr rfl) (by omega)
    have hdl := dst_len (l := w :: l') (f := 0) (last := -1) (out := [])
    simp only [List.length_nil] at hdl
    have e2 := pat_loop 3000 (by omega) (l := w :: l') (by omega) hF d0.ok (w :: l').length 3000 0 [] (by omega) (by omega) (by simp at l0 ⊢; omega)
    simp only [Int.natCast_zero, List.drop_zero, List.nil_append] at e2
    have hpat : l07_patterns 3000 (w :: l') = some ((w :: l').map pat) := by
      unfold l07_patterns
      rw [e2]; rfl
    obtain ⟨g, last', hD, hlast⟩ := dst_cons (d0.ok w (by simp)) (l := l') (f := 0) (last := -1) (by omega)
    rw [if_neg (by omega), List.nil_append] at hD
    obtain ⟨hwr, _⟩ := wag_ranges (d0.ok w (by simp))
    have hpR : ∀ q ∈ (w :: l').map pat, q.length ≤ 5 ∧ ∀ x ∈ q, InR x := fun q hq => by
      obtain ⟨v, hv, rfl⟩ := List.mem_map.1 hq
      obtain ⟨o, t, he, _, _, hasc, hr⟩ := ofs_asc (d0.ok v hv)
      obtain ⟨hvr, _⟩ := wag_ranges (d0.ok v hv)
      refine ⟨?_, ?_⟩
      · have : (of v).length ≤ 6 := (ofs_len _ _).2
        unfold pat; rw [dif_len]; omega
      · unfold pat; rw [he]
        exact dif_pos' hasc fun x hx => by have := hr x hx; omega
    generalize hDd : dst (w :: l') 0 (-1) [] = D at hdE hP hdl hD ⊢
    generalize hpp : (w :: l').map pat = p at hpat hpR
    have hpl : p.length = (w :: l').length := by rw [← hpp]; simp
    have F : Fine D p := ⟨by omega, by omega, fun x hx => by have := hP x hx; unfold InR; omega, hpR⟩
    have hCv : ∀ (B tol : Int) (m : List Int), B ≤ tol → Near B m D → Cv tol B p m := fun B tol m ht hm => by
      rw [← hpp]
      exact cv_train ht l' w (0 + 10 * w.length) last' m d0.ok (by omega) hlast (hD ▸ hm)
    obtain ⟨c, c1, c2, c3⟩ := cv_le (tol := 0) F (B := 0) (by omega) p D.length (fun q hq => hq) (by omega) (by
      rw [Nat.sub_self, List.drop_zero]; exact hCv 0 0 D (by omega) (near_refl (by omega) D))
    have hc0 : c.1 = 0 := by simp at c3; omega
    obtain ⟨ps1, ps2⟩ := picks_sum (tol := 0) F (D.length + 1) (D.length + 1) c (by omega) (by omega) c1 c2
    have hpkl := picks_len (d := D) (p := p) (tol := 0) (D.length + 1) (D.length + 1)
    rw [if_neg (by simp; omega), (Distances_ok 3000 (by omega) (l := w :: l') (fun _ => hF)).2, bind_some', hdE, hpat, bind_some']
    dsimp only
    rw [recognize_ok 3000 (by omega), bind_some', recog_val F (by omega) (by omega) c1 c2]
    dsimp only
    rw [show l07_WheelKnown_0 3000 c.1 0 = some false from by
      unfold l07_WheelKnown_0
      rw [if_neg (by decide), hc0]; rfl, bind_some', if_neg (by decide)]
    have ax := axle_loop 3000 (p := p) (fun q hq => (hpR q hq).1) (l := picks 0 p D (D.length + 1) (D.length + 1)) ps1 (by omega) (picks 0 p D (D.length + 1) (D.length + 1)).length 3000 0 0 (by omega) (by omega) (by omega) (by omega)
    simp only [Int.natCast_zero, List.drop_zero, Int.zero_add] at ax
    rw [ax, ps2, bind_some']
    dsimp only
    rw [appI_ok (by simp; omega), bind_some', List.nil_append]
    obtain ⟨m, n1, n2, n3⟩ := noise_loop 3000 hP (by omega) D.length 3000 0 s0 (0 + 10000) [] (by omega) (by omega) rfl m0 (by omega) (by simp [Near]) (by simp)
    simp only [Int.natCast_zero, List.drop_zero, List.nil_append] at n1
    have hml := near_len n2
    have F2 : Fine m p := ⟨by omega, by omega, fun x hx => by have := n3 x hx; unfold InR; omega, hpR⟩
    obtain ⟨a, a1, a2, a3⟩ := cv_le (tol := 10) F2 (B := 8) (by omega) p m.length (fun q hq => hq) (by omega) (by
      rw [Nat.sub_self, List.drop_zero]; exact hCv 8 10 m (by omega) n2)
    obtain ⟨b, b1, b2, b3⟩ := tab_mono F2 (show (10 : Int) ≤ 30 by omega) (m.length + 1) (m.length + 1) a (by omega) (by omega) a1 a2
    rw [n1, bind_some', recognize_ok 3000 (by omega), bind_some', recognize_ok 3000 (by omega), bind_some', recog_val F2 (by omega) (by omega) a1 a2, recog_val F2 (by omega) (by omega) b1 b2]
    dsimp only
    unfold l07_WheelKnown_4
    rw [w64s (by omega), if_pos (by simp), if_pos (by decide), if_pos (by decide), if_pos (lpos b3), w64 (n := 8 * (m.length : Int)) (by omega) (by omega), if_pos (lpos a3), hs]; rfl
theorem knownT (x0 : List Int) : ∃ N, l07_WheelKnown N x0 = some true := ⟨3000, known_law x0⟩
end Go.W
