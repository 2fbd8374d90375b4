/- The data that a law is given, as the abstract machine finds it. -/
import Derived.Test.YthlaohffhjlkbaaAmGen2
import Derived.Below
set_option linter.unusedVariables false
set_option linter.unusedSimpArgs false
namespace Go.AM

theorem mem0_dead (w : World) : ∀ b, (mem0 w).next ≤ b → (mem0 w).blk b = .dead := (mem0_wf w).dead
theorem mem0_fz (w : World) : Fz (mem0 w).blk (mem0 w) := fun b hb => ⟨rfl, by
  by_cases h : b < (mem0 w).next
  · exact h
  · exact absurd (mem0_dead w b (by omega)) hb⟩
theorem mem0_live {w : World} {b : Nat} (h : b < w.heap.size) : (mem0 w).blk b ≠ .dead := by
  simp [mem0, h]
theorem ldz0 {w : World} {b o : Nat} {v : Value} (h : (mem0 w).load b o = some v) : ldz (mem0 w).blk b o = some v := by
  unfold Mem.load at h
  unfold ldz
  exact h

/-- A slice of ints that came in. -/
def IntRow (k : IntKind) (w : World) (a : Option Addr) (len cap : Nat) (zs : List Int) : Prop :=
  (a = none ∧ len = 0 ∧ cap = 0 ∧ zs = []) ∨
  ∃ x, a = some x ∧ x.spot = none ∧ x.block < w.heap.size ∧ len ≤ cap ∧ cap ≤ maxLen ∧ zs.length = cap ∧ ∀ i, i < zs.length → w.cell? (x.add i) = some (.int k (zs.getD i 0))

theorem IntRow.vr {k : IntKind} {w : World} {a : Option Addr} {len cap : Nat} {zs : List Int} (h : IntRow k w a len cap zs) : VR (emb0 w) (.slice a len cap) (.slice a len cap) := by
  refine VR.of0 ?_
  rcases h with ⟨rfl, rfl, rfl, rfl⟩ | ⟨⟨b, off, spot⟩, rfl, hs, hb, hl, hm, _⟩
  · rfl
  · have hs : spot = none := hs
    subst hs
    have hb : b < w.heap.size := hb
    refine ⟨⟨b, 0, 0⟩, rfl, by simp [emb0, hb], .inl ⟨?_, rfl⟩⟩
    simp only [maxLen] at hm
    simp only [BIG]; omega

theorem IntRow.slr {k : IntKind} {t : TypeId} {w : World} {a : Option Addr} {len cap : Nat} {zs : List Int} (h : IntRow k w a len cap zs) : SlR (TInt t k) (mem0 w).blk (zs.take len) (.slice a len cap) := by
  rcases h with ⟨rfl, rfl, rfl, rfl⟩ | ⟨⟨b, off, spot⟩, rfl, hs, hb, hl, hm, hz, hc⟩
  · exact .inl ⟨rfl, rfl⟩
  · have hs : spot = none := hs
    subst hs
    have hb : b < w.heap.size := hb
    have hlen : (zs.take len).length = len := by rw [List.length_take]; omega
    refine .inr ⟨b, off, cap, by rw [hlen], mem0_live hb, .inr ⟨by simp only [maxLen] at hm; simp only [BIG]; omega, by rw [hlen]; exact hl⟩, fun i x hi => ⟨[.int k x], rfl, fun q u hq => ?_⟩⟩
    cases q with
    | succ q => simp at hq
    | zero =>
      simp at hq
      subst hq
      have hi' := (List.getElem?_eq_some_iff.1 hi).1
      rw [hlen] at hi'
      have hcell := hc i (by omega)
      rw [List.getElem?_take, if_pos hi'] at hi
      have hx : zs.getD i 0 = x := by simp [List.getD, hi]
      rw [hx] at hcell
      have := mem0_load (w := w) (b := b) (i := off + i) (v := .int k x) (by
        have ha : (⟨b, off, none⟩ : Addr).add i = ⟨b, off + i, none⟩ := by
          by_cases h0 : i = 0
          · subst h0; rfl
          · simp [Addr.add, h0]
        rw [← ha]; exact hcell) rfl
      have e : off + i * (TInt t k).sz + 0 = off + i := by simp [TInt, Ty.flat]
      rw [e]
      exact ldz0 this
end Go.AM
