/- Writes, appends, copies, calls. -/
import Derived.Test.YtaoioacomnnhdaaAmEff
set_option linter.unusedSimpArgs false
set_option linter.unusedVariables false
namespace Go.AM

theorem reset_same {w : World} {c : Nat} {cs : Array Value} {t : TypeId} {fz : Nat × Nat} (h : w.heap[c]? = some (.cells cs t fz)) : reset w c cs t fz = w := by
  have : w.heap.setIfInBounds c (.cells cs t fz) = w.heap := by
    apply Array.ext_getElem?
    intro k
    by_cases hk : k = c
    · subst hk
      have hlt := (Array.getElem?_eq_some_iff.1 h).1
      rw [Array.getElem?_setIfInBounds_self_of_lt hlt, h]
    · rw [Array.getElem?_setIfInBounds_ne (by omega)]
  simp only [reset, this]

theorem reset_reset {w : World} {c : Nat} {cs cs' : Array Value} {t : TypeId} {fz : Nat × Nat} : reset (reset w c cs t fz) c cs' t fz = reset w c cs' t fz := by
  simp [reset]

theorem setCell_reset {w : World} {c o : Nat} {cs : Array Value} {t : TypeId} {fz : Nat × Nat} {v : Value} (h : w.heap[c]? = some (.cells cs t fz)) : w.setCell ⟨c, o, none⟩ v = reset w c (cs.setIfInBounds o v) t fz := by
  have : (w.setCell ⟨c, o, none⟩ v).heap = (reset w c (cs.setIfInBounds o v) t fz).heap := by
    simp only [World.setCell, reset]
    apply Array.ext_getElem?
    intro k
    rw [Array.getElem?_modify]
    by_cases hk : c = k
    · subst hk
      have hlt := (Array.getElem?_eq_some_iff.1 h).1
      rw [if_pos rfl, h, Array.getElem?_setIfInBounds_self_of_lt hlt]
      simp
    · rw [if_neg hk, Array.getElem?_setIfInBounds_ne hk]
  simp only [World.setCell] at this
  simp only [World.setCell, reset, this] at *

theorem run_storeN {P : Program} (c o : Nat) (t : TypeId) (fz : Nat × Nat) : ∀ (vs : List Value) (i : Nat) (cs : Array Value) (w : World), w.heap[c]? = some (.cells cs t fz) → (∀ k : Nat, k < cs.size → ¬ (fz.1 ≤ k ∧ k < fz.2)) →
    o + i + vs.length ≤ cs.size → (∀ v ∈ vs, v.oneCell' = true) → (storeCells ⟨c, o, none⟩ vs i).run P w = .ok () (reset w c (setN cs.toList (o + i) vs).toArray t fz)
  | [], i, cs, w, h, hf, hl, h1 => by
    simp only [storeCells, setN, Array.toArray_toList, reset_same h]
    rfl
  | v :: vs, i, cs, w, h, hf, hl, h1 => by
    simp only [List.length_cons] at hl
    have hlt := (Array.getElem?_eq_some_iff.1 h).1
    have hc : w.cell? ⟨c, o + i, none⟩ = some cs[o + i] := by simp [World.cell?, h]
    have hfr : w.frozen? ⟨c, o + i, none⟩ = false := by
      have := hf (o + i) (by omega)
      simp only [World.frozen?, h]
      simp only [Bool.and_eq_false_iff, decide_eq_false_iff_not]
      by_cases hh : fz.1 ≤ o + i
      · exact .inr (fun h2 => this ⟨hh, h2⟩)
      · exact .inl hh
    have ih := run_storeN (P := P) c o t fz vs (i + 1) (cs.setIfInBounds (o + i) v) (reset w c (cs.setIfInBounds (o + i) v) t fz) (reset_self hlt) (by simpa using hf) (by simp; omega) (fun x hx => h1 x (by simp [hx]))
    simp only [storeCells, Sem.run_bind, add_none, run_store P w ⟨c, o + i, none⟩ v _ (h1 v (by simp)), hc, hfr, Bool.false_eq_true, if_false, Result.andThen_ok, setCell_reset h]
    rw [ih, reset_reset]
    simp [setN, Nat.add_assoc]

theorem L2.one {j : Emb} : ∀ {L K : List Value}, L2 (VR0 j) L K → ∀ v ∈ K, v.oneCell' = true
  | [], [], _, v, hv => by simp at hv
  | a :: L, b :: K, ⟨h1, h2⟩, v, hv => by
    rcases List.mem_cons.1 hv with rfl | hv
    · exact h1.one
    · exact L2.one h2 v hv
  | [], _ :: _, h, _, _ => h.elim
  | _ :: _, [], h, _, _ => h.elim

/-- The elements of a slice or a string, as the model reads them. -/
theorem elems_sound {P : Program} {j : Emb} {m : Mem} {w : World} (hR : RdOk P j m w) {sz : Nat} {y cy : Value} {new : List Value} (hv : VR j y cy) (h : elems m sz y = some new) :
    (Builtin.lenOf cy).run P w = .ok (lenV y) w ∧ ∃ ds : List Value, L2 (VR0 j) new ds ∧ (new.length = lenV y * sz → ∀ k, k ≤ lenV y → ∀ w' : World, w'.heap = w.heap → (Builtin.firstCells sz k cy).run P w' = .ok (ds.take (k * sz)).toArray w') := by
  cases y with
  | slice a l c =>
    cases a with
    | none =>
      have hcy := hv.sliceNil
      subst hcy
      simp only [elems, Option.some.injEq] at h
      subst h
      refine ⟨by simp [Builtin.lenOf, lenV], [], True.intro, fun hn k hk w' hw => ?_⟩
      simp [Builtin.firstCells]
    | some a =>
      obtain ⟨b, off, spot⟩ := a
      obtain ⟨q, hs, hj, hc⟩ := hv.slice
      simp only at hs hj
      subst hs
      simp only [elems] at h
      obtain ⟨ds, hl, hn, hdd⟩ := rdN_sound hR hj _ _ _ h
      have key : ∀ (a' : Addr) (cc : Nat), cy = .slice (some a') l cc → (a' = ⟨q.blk, off, none⟩ ∨ l = 0) → (Builtin.lenOf cy).run P w = .ok (lenV (.slice (some ⟨b, off, none⟩) l c)) w ∧
          ∃ ds : List Value, L2 (VR0 j) new ds ∧ (new.length = lenV (.slice (some ⟨b, off, none⟩) l c) * sz → ∀ k, k ≤ lenV (.slice (some ⟨b, off, none⟩) l c) → ∀ w' : World, w'.heap = w.heap → (Builtin.firstCells sz k cy).run P w' = .ok (ds.take (k * sz)).toArray w') := by
        intro a' cc hcy ho
        subst hcy
        refine ⟨by simp [Builtin.lenOf, lenV], ds, hl, fun hnn k hk w' hw => ?_⟩
        simp only [lenV] at hk
        simp only [Builtin.firstCells]
        have hlen : (ds.take (k * sz)).length = k * sz := by
          rw [List.length_take, hn]
          exact Nat.min_eq_left (Nat.mul_le_mul_right _ hk)
        rcases ho with rfl | ho
        · exact run_cells hlen (fun i u hu => by
            rw [List.getElem?_take] at hu
            split at hu
            · have := hdd i u hu
              rw [← this]; simp only [World.cell?, hw]
            · cases hu)
        · subst ho
          have hk0 : k = 0 := by omega
          subst hk0
          simp only [Nat.zero_mul, List.take_zero]
          exact run_cells0
      rcases hc with ⟨_, hc⟩ | ⟨_, _, _, _, _, _, hc⟩ | ⟨_, hl0, o', hc⟩ | ⟨_, hl0, a', hc⟩
      · exact key _ _ hc (.inl rfl)
      · exact key _ _ hc (.inl rfl)
      · exact key _ 0 (by rw [hc, hl0]) (.inr hl0)
      · exact key a' 0 (by rw [hc, hl0]) (.inr hl0)
  | string s =>
    have hcy := hv.str
    subst hcy
    simp only [elems] at h
    split at h
    · rename_i hsz
      subst hsz
      simp only [Option.some.injEq] at h
      subst h
      refine ⟨by simp [Builtin.lenOf, lenV], s.data.toList.map fun u => .int .u8 u.toNat, flat0_L2 (by simp only [List.all_map, List.all_eq_true, Function.comp]; intro u _; rfl), fun hn k hk w' hw => ?_⟩
      simp only [Builtin.firstCells, Sem.run_pure, Nat.mul_one, lenV] at hk ⊢
      congr 1
      apply Array.ext'
      simp only [ByteArray.data_extract, Array.toList_map, Array.toList_extract, List.extract_eq_drop_take', List.drop_zero, List.map_take]
    · cases h
  | _ => simp [elems] at h

/-- An append that has room. -/
theorem run_append_in {P : Program} {t u ty e : TypeId} {i : TypeInfo} {base : Option Addr} {l c n : Nat} {cy : Value} {w : World} {new : Array Value} (ht : P.underlying t = some (.slice e)) (hi : P.info? e = some i)
    (hu : (∃ e', P.underlying u = some (.slice e')) ∨ P.underlying u = some .string) (hn : (Builtin.lenOf cy).run P w = .ok n w) (hc : l + n ≤ c) (hf : (Builtin.firstCells i.size n cy).run P w = .ok new w) :
    (Builtin.append_ #[t, u] ty #[.slice base l c, cy]).run P w =
      match base with
      | some a => ((storeCells (a.add (l * i.size)) new.toList).run P w).andThen fun _ w => .ok (.slice base (l + n) c) w
      | none => .ok (.slice base (l + n) c) w := by
  rcases hu with ⟨e', hd⟩ | hd <;> cases base <;> simp [Builtin.append_, run_u ht, run_u hd, run_so hi, hn, hc, hf]

/-- An append that needs a new block. -/
theorem run_append_out {P : Program} {t u ty e : TypeId} {i : TypeInfo} {z : Value} {base : Option Addr} {l c n : Nat} {cy : Value} {w : World} {old new : Array Value} (ht : P.underlying t = some (.slice e)) (hi : P.info? e = some i) (hz : i.zero = some z)
    (hu : (∃ e', P.underlying u = some (.slice e')) ∨ P.underlying u = some .string) (hn : ∀ w, (Builtin.lenOf cy).run P w = .ok n w) (hc : c < l + n) (hm : l + n < 9223372036854775807) (hb : (l + n) * i.bytes ≤ 140737488355328)
    (ho : ∀ w', w'.heap = w.heap → (Builtin.firstCells i.size l (.slice base l c)).run P w' = .ok old w') (hf : ∀ w', w'.heap = w.heap → (Builtin.firstCells i.size n cy).run P w' = .ok new w') :
    (Builtin.append_ #[t, u] ty #[.slice base l c, cy]).run P w =
      .ok (.slice (some ⟨w.heap.size, 0, none⟩) (l + n) (grownCap w (l + n) c e)) (w.drew.alloc (.cells (old ++ new ++ Builtin.zeroCells z.cells (grownCap w (l + n) c e - (l + n))) e)) := by
  have h1 : ¬ (l + n ≤ c) := by omega
  have h2 : ¬ (9223372036854775807 < ((l : Int) + (n : Int))) := by omega
  have hfit := growslice_fits hc hb
  have h3 : ¬ (281474976710656 < Builtin.nextslicecap (l + n) c * i.bytes) := by omega
  have ho' := ho w.drew rfl
  have hf' := hf w.drew rfl
  rcases hu with ⟨e', hd⟩ | hd <;> simp [Builtin.append_, run_u ht, run_u hd, run_so hi, run_ti hi, run_zv hi hz, hn, h1, h2, h3, Question.forced, ho', hf', newRow, grownCap]

end Go.AM
