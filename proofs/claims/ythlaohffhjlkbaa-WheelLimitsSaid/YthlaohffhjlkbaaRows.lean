/-
  No cell of these rows narrows 'for every input' (looked for: loops, veiled, ifaces, maps, wideKeys, modest, calm, conditions, laid).
  DERIVED. THE GIVEN ROWS OF THIS SEAT. 7 by the template 'for every input the law returns true; each argument reads behind the call as it read before'; 0 by the template 'total and deterministic' (their statements: YthlaohffhjlkbaaTotals.lean).
  GIVEN WITH THE SEED: the statements are not yours to turn. If you find one false, say at which input.
  Laid BY PROGRAM, IN A SANDBOX (cutbox-rows.mjs): the forced cells as the released guide's own fill.sh prints them over the translation d38e7f89a9f68bc5… (all of the seat's roots in one cut). By AI agents, Wed Nov 11 2026. No macro, syntax, notation, axiom, sorry.
-/
import Derived.Test.YthlaohffhjlkbaaChecked
import GoSem.Claim
import GoSem.ClaimJoined
import GoSem.ClaimMapViews
import Derived.JoinedTies
import Derived.KernelRfl
namespace Go.Proofs.Ythlaohffhjlkbaa
/- THE CELL 'sum', in the pinned program and in every row, IS THE sha256 OF THE DUMP (.gsa) THAT YthlaohffhjlkbaaProg.lean LOADS. Nothing in Lean hashes anything: it is a label: what it is worth is what the hold of that sum in a sandbox is worth. -/
noncomputable def Try.pinned : Pinned := { name := "ythlaohffhjlkbaa", sum := "d38e7f89a9f68bc5896250be3ee0b12353bad9a18fc4fb8ea22eea5d07bdc106", checked := Try.checked }
namespace Rows
def none {H : Type} : Left H := { results := [], args := [] }

/-- 'humpyardlaw07.WheelLimits': WHATEVER THE INPUT: true; the input reads as it did. -/
def wheelLimitsSpec : ChangeSpec := { name := "wheelLimits", fn := fun _ => fun
  | [d1, d2] => { results := [.lit (.bool true)], args := [d1, d2] }
  | _ => none }
def wheelLimitsRow : OpenClaim := { program := "ythlaohffhjlkbaa", sum := "d38e7f89a9f68bc5896250be3ee0b12353bad9a18fc4fb8ea22eea5d07bdc106", func := "humpyard/humpyardlaw07.WheelLimits", spec := "wheelLimits", apart := false }
def WheelLimitsSaid : Prop := wheelLimitsRow.holds Try.pinned (OpenSpec.ofChange wheelLimitsSpec)

/-- ITS FALSE NEIGHBOUR: 'it returns false'. Refute it at one input. -/
def wheelLimitsWrong : ChangeSpec := { name := "wheelLimits", fn := fun _ => fun
  | [d1, d2] => { results := [.lit (.bool false)], args := [d1, d2] }
  | _ => none }
def WheelLimitsWrongFalsely : Prop := wheelLimitsRow.holds Try.pinned (OpenSpec.ofChange wheelLimitsWrong)

/-- 'humpyardlaw07.WheelSymmetric': WHATEVER THE INPUT: true; the input reads as it did. -/
def wheelSymmetricSpec : ChangeSpec := { name := "wheelSymmetric", fn := fun _ => fun
  | [d] => { results := [.lit (.bool true)], args := [d] }
  | _ => none }
def wheelSymmetricRow : OpenClaim := { program := "ythlaohffhjlkbaa", sum := "d38e7f89a9f68bc5896250be3ee0b12353bad9a18fc4fb8ea22eea5d07bdc106", func := "humpyard/humpyardlaw07.WheelSymmetric", spec := "wheelSymmetric", apart := false }
def WheelSymmetricSaid : Prop := wheelSymmetricRow.holds Try.pinned (OpenSpec.ofChange wheelSymmetricSpec)

/-- ITS FALSE NEIGHBOUR: 'it returns false'. Refute it at one input. -/
def wheelSymmetricWrong : ChangeSpec := { name := "wheelSymmetric", fn := fun _ => fun
  | [d] => { results := [.lit (.bool false)], args := [d] }
  | _ => none }
def WheelSymmetricWrongFalsely : Prop := wheelSymmetricRow.holds Try.pinned (OpenSpec.ofChange wheelSymmetricWrong)

/-- 'humpyardlaw07.WheelRecognizes': WHATEVER THE INPUT: true; the input reads as it did. -/
def wheelRecognizesSpec : ChangeSpec := { name := "wheelRecognizes", fn := fun _ => fun
  | [d1, d2, d3, d4] => { results := [.lit (.bool true)], args := [d1, d2, d3, d4] }
  | _ => none }
def wheelRecognizesRow : OpenClaim := { program := "ythlaohffhjlkbaa", sum := "d38e7f89a9f68bc5896250be3ee0b12353bad9a18fc4fb8ea22eea5d07bdc106", func := "humpyard/humpyardlaw07.WheelRecognizes", spec := "wheelRecognizes", apart := false }
def WheelRecognizesSaid : Prop := wheelRecognizesRow.holds Try.pinned (OpenSpec.ofChange wheelRecognizesSpec)

/-- ITS FALSE NEIGHBOUR: 'it returns false'. Refute it at one input. -/
def wheelRecognizesWrong : ChangeSpec := { name := "wheelRecognizes", fn := fun _ => fun
  | [d1, d2, d3, d4] => { results := [.lit (.bool false)], args := [d1, d2, d3, d4] }
  | _ => none }
def WheelRecognizesWrongFalsely : Prop := wheelRecognizesRow.holds Try.pinned (OpenSpec.ofChange wheelRecognizesWrong)

/-- 'humpyardlaw07.WheelKnown': WHATEVER THE INPUT: true; the input reads as it did. -/
def wheelKnownSpec : ChangeSpec := { name := "wheelKnown", fn := fun _ => fun
  | [d] => { results := [.lit (.bool true)], args := [d] }
  | _ => none }
def wheelKnownRow : OpenClaim := { program := "ythlaohffhjlkbaa", sum := "d38e7f89a9f68bc5896250be3ee0b12353bad9a18fc4fb8ea22eea5d07bdc106", func := "humpyard/humpyardlaw07.WheelKnown", spec := "wheelKnown", apart := false }
def WheelKnownSaid : Prop := wheelKnownRow.holds Try.pinned (OpenSpec.ofChange wheelKnownSpec)

/-- ITS FALSE NEIGHBOUR: 'it returns false'. Refute it at one input. -/
def wheelKnownWrong : ChangeSpec := { name := "wheelKnown", fn := fun _ => fun
  | [d] => { results := [.lit (.bool false)], args := [d] }
  | _ => none }
def WheelKnownWrongFalsely : Prop := wheelKnownRow.holds Try.pinned (OpenSpec.ofChange wheelKnownWrong)

/-- 'humpyardlaw07.WheelLeast': WHATEVER THE INPUT: true; the input reads as it did. -/
def wheelLeastSpec : ChangeSpec := { name := "wheelLeast", fn := fun _ => fun
  | [d] => { results := [.lit (.bool true)], args := [d] }
  | _ => none }
def wheelLeastRow : OpenClaim := { program := "ythlaohffhjlkbaa", sum := "d38e7f89a9f68bc5896250be3ee0b12353bad9a18fc4fb8ea22eea5d07bdc106", func := "humpyard/humpyardlaw07.WheelLeast", spec := "wheelLeast", recurses := true, apart := false }
def WheelLeastSaid : Prop := wheelLeastRow.holds Try.pinned (OpenSpec.ofChange wheelLeastSpec)

/-- ITS FALSE NEIGHBOUR: 'it returns false'. Refute it at one input. -/
def wheelLeastWrong : ChangeSpec := { name := "wheelLeast", fn := fun _ => fun
  | [d] => { results := [.lit (.bool false)], args := [d] }
  | _ => none }
def WheelLeastWrongFalsely : Prop := wheelLeastRow.holds Try.pinned (OpenSpec.ofChange wheelLeastWrong)

/-- 'humpyardlaw07.WheelOffsets': WHATEVER THE INPUT: true; the input reads as it did. -/
def wheelOffsetsSpec : ChangeSpec := { name := "wheelOffsets", fn := fun _ => fun
  | [d1, d2, d3] => { results := [.lit (.bool true)], args := [d1, d2, d3] }
  | _ => none }
def wheelOffsetsRow : OpenClaim := { program := "ythlaohffhjlkbaa", sum := "d38e7f89a9f68bc5896250be3ee0b12353bad9a18fc4fb8ea22eea5d07bdc106", func := "humpyard/humpyardlaw07.WheelOffsets", spec := "wheelOffsets", apart := false }
def WheelOffsetsSaid : Prop := wheelOffsetsRow.holds Try.pinned (OpenSpec.ofChange wheelOffsetsSpec)

/-- ITS FALSE NEIGHBOUR: 'it returns false'. Refute it at one input. -/
def wheelOffsetsWrong : ChangeSpec := { name := "wheelOffsets", fn := fun _ => fun
  | [d1, d2, d3] => { results := [.lit (.bool false)], args := [d1, d2, d3] }
  | _ => none }
def WheelOffsetsWrongFalsely : Prop := wheelOffsetsRow.holds Try.pinned (OpenSpec.ofChange wheelOffsetsWrong)

/-- 'humpyardlaw07.WheelMeasures': WHATEVER THE INPUT: true; the input reads as it did. -/
def wheelMeasuresSpec : ChangeSpec := { name := "wheelMeasures", fn := fun _ => fun
  | [d1, d2, d3, d4, d5] => { results := [.lit (.bool true)], args := [d1, d2, d3, d4, d5] }
  | _ => none }
def wheelMeasuresRow : OpenClaim := { program := "ythlaohffhjlkbaa", sum := "d38e7f89a9f68bc5896250be3ee0b12353bad9a18fc4fb8ea22eea5d07bdc106", func := "humpyard/humpyardlaw07.WheelMeasures", spec := "wheelMeasures", apart := false }
def WheelMeasuresSaid : Prop := wheelMeasuresRow.holds Try.pinned (OpenSpec.ofChange wheelMeasuresSpec)

/-- ITS FALSE NEIGHBOUR: 'it returns false'. Refute it at one input. -/
def wheelMeasuresWrong : ChangeSpec := { name := "wheelMeasures", fn := fun _ => fun
  | [d1, d2, d3, d4, d5] => { results := [.lit (.bool false)], args := [d1, d2, d3, d4, d5] }
  | _ => none }
def WheelMeasuresWrongFalsely : Prop := wheelMeasuresRow.holds Try.pinned (OpenSpec.ofChange wheelMeasuresWrong)

/- THE SECOND FORM. 'bulk': how many values and letters a reading holds, each counted each time it is reached (what is shared counts as often as it is met; a slice's spare places count too). A statement '..UptoSaid' is the law's where the arguments, and the package variables that the reading takes, are together of bulk at most 1048576: NARROWER than '..Said'. Prove '..Said' where nothing that the law and all that it calls make is longer than what came in: it says more and counts as full. Else prove '..UptoSaid'. A law counts once. -/
mutual
def uptoBulk {H : Type} : DataW H → Nat
  | .lit (.string bytes) => bytes.length + 1
  | .lit _ => 1
  | .nil => 1
  | .ptr d => uptoBulk d + 1
  | .slice elems spare => uptoBulkAll elems + uptoBulkAll spare + 1
  | .agg parts => uptoBulkAll parts + 1
  | .iface _ d => uptoBulk d + 1
  | .map entries => uptoBulkEntries entries + 1
  | .held _ => 1
def uptoBulkAll {H : Type} : List (DataW H) → Nat
  | [] => 0
  | d :: r => uptoBulk d + uptoBulkAll r
def uptoBulkEntries {H : Type} : List (Lit × DataW H) → Nat
  | [] => 0
  | x :: r => uptoBulkEntry x + uptoBulkEntries r
def uptoBulkEntry {H : Type} : Lit × DataW H → Nat
  | (.string bytes, d) => bytes.length + uptoBulk d + 1
  | (_, d) => uptoBulk d + 1
 end
def uptoSmall : (H : Type) → List (DataW H) → Bool := fun _ ds => decide (uptoBulkAll ds ≤ 1048576)
def OpenSpec.upto (s : _root_.Go.ChangeSpec) : _root_.Go.OpenSpec := { _root_.Go.OpenSpec.ofChange s with cond := some uptoSmall }

/-- 'humpyardlaw07.WheelLimits', WHERE WHAT IT READS IS OF BULK AT MOST 1048576: true; the input reads as it did. -/
def wheelLimitsUptoRow : OpenClaim := { program := "ythlaohffhjlkbaa", sum := "d38e7f89a9f68bc5896250be3ee0b12353bad9a18fc4fb8ea22eea5d07bdc106", func := "humpyard/humpyardlaw07.WheelLimits", spec := "wheelLimits", apart := false, narrowed := true }
def WheelLimitsUptoSaid : Prop := wheelLimitsUptoRow.holds Try.pinned (OpenSpec.upto wheelLimitsSpec)

/-- 'humpyardlaw07.WheelSymmetric', WHERE WHAT IT READS IS OF BULK AT MOST 1048576: true; the input reads as it did. -/
def wheelSymmetricUptoRow : OpenClaim := { program := "ythlaohffhjlkbaa", sum := "d38e7f89a9f68bc5896250be3ee0b12353bad9a18fc4fb8ea22eea5d07bdc106", func := "humpyard/humpyardlaw07.WheelSymmetric", spec := "wheelSymmetric", apart := false, narrowed := true }
def WheelSymmetricUptoSaid : Prop := wheelSymmetricUptoRow.holds Try.pinned (OpenSpec.upto wheelSymmetricSpec)

/-- 'humpyardlaw07.WheelRecognizes', WHERE WHAT IT READS IS OF BULK AT MOST 1048576: true; the input reads as it did. -/
def wheelRecognizesUptoRow : OpenClaim := { program := "ythlaohffhjlkbaa", sum := "d38e7f89a9f68bc5896250be3ee0b12353bad9a18fc4fb8ea22eea5d07bdc106", func := "humpyard/humpyardlaw07.WheelRecognizes", spec := "wheelRecognizes", apart := false, narrowed := true }
def WheelRecognizesUptoSaid : Prop := wheelRecognizesUptoRow.holds Try.pinned (OpenSpec.upto wheelRecognizesSpec)

/-- 'humpyardlaw07.WheelKnown', WHERE WHAT IT READS IS OF BULK AT MOST 1048576: true; the input reads as it did. -/
def wheelKnownUptoRow : OpenClaim := { program := "ythlaohffhjlkbaa", sum := "d38e7f89a9f68bc5896250be3ee0b12353bad9a18fc4fb8ea22eea5d07bdc106", func := "humpyard/humpyardlaw07.WheelKnown", spec := "wheelKnown", apart := false, narrowed := true }
def WheelKnownUptoSaid : Prop := wheelKnownUptoRow.holds Try.pinned (OpenSpec.upto wheelKnownSpec)

/-- 'humpyardlaw07.WheelLeast', WHERE WHAT IT READS IS OF BULK AT MOST 1048576: true; the input reads as it did. -/
def wheelLeastUptoRow : OpenClaim := { program := "ythlaohffhjlkbaa", sum := "d38e7f89a9f68bc5896250be3ee0b12353bad9a18fc4fb8ea22eea5d07bdc106", func := "humpyard/humpyardlaw07.WheelLeast", spec := "wheelLeast", recurses := true, apart := false, narrowed := true }
def WheelLeastUptoSaid : Prop := wheelLeastUptoRow.holds Try.pinned (OpenSpec.upto wheelLeastSpec)

/-- 'humpyardlaw07.WheelOffsets', WHERE WHAT IT READS IS OF BULK AT MOST 1048576: true; the input reads as it did. -/
def wheelOffsetsUptoRow : OpenClaim := { program := "ythlaohffhjlkbaa", sum := "d38e7f89a9f68bc5896250be3ee0b12353bad9a18fc4fb8ea22eea5d07bdc106", func := "humpyard/humpyardlaw07.WheelOffsets", spec := "wheelOffsets", apart := false, narrowed := true }
def WheelOffsetsUptoSaid : Prop := wheelOffsetsUptoRow.holds Try.pinned (OpenSpec.upto wheelOffsetsSpec)

/-- 'humpyardlaw07.WheelMeasures', WHERE WHAT IT READS IS OF BULK AT MOST 1048576: true; the input reads as it did. -/
def wheelMeasuresUptoRow : OpenClaim := { program := "ythlaohffhjlkbaa", sum := "d38e7f89a9f68bc5896250be3ee0b12353bad9a18fc4fb8ea22eea5d07bdc106", func := "humpyard/humpyardlaw07.WheelMeasures", spec := "wheelMeasures", apart := false, narrowed := true }
def WheelMeasuresUptoSaid : Prop := wheelMeasuresUptoRow.holds Try.pinned (OpenSpec.upto wheelMeasuresSpec)

end Rows
end Go.Proofs.Ythlaohffhjlkbaa
