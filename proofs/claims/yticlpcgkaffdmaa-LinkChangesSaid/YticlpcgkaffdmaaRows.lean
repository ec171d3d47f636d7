/-
  No cell of these rows narrows 'for every input' (looked for: loops, veiled, ifaces, maps, wideKeys, modest, calm, conditions, laid).
  DERIVED. THE GIVEN ROWS OF THIS SEAT. 6 by the template 'for every input the law returns true; each argument reads behind the call as it read before'; 0 by the template 'total and deterministic' (their statements: YticlpcgkaffdmaaTotals.lean).
  GIVEN WITH THE SEED: the statements are not yours to turn. If you find one false, say at which input.
  Laid BY PROGRAM, IN A SANDBOX (cutbox-rows.mjs): the forced cells as the released guide's own fill.sh prints them over the translation 9306009afffc9ff5… (all of the seat's roots in one cut). By AI agents, Wed Nov 11 2026. No macro, syntax, notation, axiom, sorry.
-/
import Derived.Test.YticlpcgkaffdmaaChecked
import GoSem.Claim
import GoSem.ClaimJoined
import GoSem.ClaimMapViews
import Derived.JoinedTies
import Derived.KernelRfl
namespace Go.Proofs.Yticlpcgkaffdmaa
/- THE CELL 'sum', in the pinned program and in every row, IS THE sha256 OF THE DUMP (.gsa) THAT YticlpcgkaffdmaaProg.lean LOADS. Nothing in Lean hashes anything: it is a label: what it is worth is what the hold of that sum in a sandbox is worth. -/
noncomputable def Try.pinned : Pinned := { name := "yticlpcgkaffdmaa", sum := "9306009afffc9ff5bb5ff5857c4e985e88c0a460b78f0e70630d3b6c8d430976", checked := Try.checked }
namespace Rows
def none {H : Type} : Left H := { results := [], args := [] }

/-- 'regulatorlaw10.LinkMatchesReference': WHATEVER THE INPUT: true; the input reads as it did. -/
def linkMatchesReferenceSpec : ChangeSpec := { name := "linkMatchesReference", fn := fun _ => fun
  | [d1, d2, d3, d4, d5] => { results := [.lit (.bool true)], args := [d1, d2, d3, d4, d5] }
  | _ => none }
def linkMatchesReferenceRow : OpenClaim := { program := "yticlpcgkaffdmaa", sum := "9306009afffc9ff5bb5ff5857c4e985e88c0a460b78f0e70630d3b6c8d430976", func := "regulator/regulatorlaw10.LinkMatchesReference", spec := "linkMatchesReference", unfollowed := true, recurses := true, apart := false }
def LinkMatchesReferenceSaid : Prop := linkMatchesReferenceRow.holds Try.pinned (OpenSpec.ofChange linkMatchesReferenceSpec)

/-- ITS FALSE NEIGHBOUR: 'it returns false'. Refute it at one input. -/
def linkMatchesReferenceWrong : ChangeSpec := { name := "linkMatchesReference", fn := fun _ => fun
  | [d1, d2, d3, d4, d5] => { results := [.lit (.bool false)], args := [d1, d2, d3, d4, d5] }
  | _ => none }
def LinkMatchesReferenceWrongFalsely : Prop := linkMatchesReferenceRow.holds Try.pinned (OpenSpec.ofChange linkMatchesReferenceWrong)

/-- 'regulatorlaw10.LinkTruth': WHATEVER THE INPUT: true; the input reads as it did. -/
def linkTruthSpec : ChangeSpec := { name := "linkTruth", fn := fun _ => fun
  | [d1, d2, d3, d4, d5, d6, d7, d8] => { results := [.lit (.bool true)], args := [d1, d2, d3, d4, d5, d6, d7, d8] }
  | _ => none }
def linkTruthRow : OpenClaim := { program := "yticlpcgkaffdmaa", sum := "9306009afffc9ff5bb5ff5857c4e985e88c0a460b78f0e70630d3b6c8d430976", func := "regulator/regulatorlaw10.LinkTruth", spec := "linkTruth", unfollowed := true, recurses := true, apart := false }
def LinkTruthSaid : Prop := linkTruthRow.holds Try.pinned (OpenSpec.ofChange linkTruthSpec)

/-- ITS FALSE NEIGHBOUR: 'it returns false'. Refute it at one input. -/
def linkTruthWrong : ChangeSpec := { name := "linkTruth", fn := fun _ => fun
  | [d1, d2, d3, d4, d5, d6, d7, d8] => { results := [.lit (.bool false)], args := [d1, d2, d3, d4, d5, d6, d7, d8] }
  | _ => none }
def LinkTruthWrongFalsely : Prop := linkTruthRow.holds Try.pinned (OpenSpec.ofChange linkTruthWrong)

/-- 'regulatorlaw10.LinkTight': WHATEVER THE INPUT: true; the input reads as it did. -/
def linkTightSpec : ChangeSpec := { name := "linkTight", fn := fun _ => fun
  | [d1, d2, d3, d4] => { results := [.lit (.bool true)], args := [d1, d2, d3, d4] }
  | _ => none }
def linkTightRow : OpenClaim := { program := "yticlpcgkaffdmaa", sum := "9306009afffc9ff5bb5ff5857c4e985e88c0a460b78f0e70630d3b6c8d430976", func := "regulator/regulatorlaw10.LinkTight", spec := "linkTight", unfollowed := true, recurses := true, apart := false }
def LinkTightSaid : Prop := linkTightRow.holds Try.pinned (OpenSpec.ofChange linkTightSpec)

/-- ITS FALSE NEIGHBOUR: 'it returns false'. Refute it at one input. -/
def linkTightWrong : ChangeSpec := { name := "linkTight", fn := fun _ => fun
  | [d1, d2, d3, d4] => { results := [.lit (.bool false)], args := [d1, d2, d3, d4] }
  | _ => none }
def LinkTightWrongFalsely : Prop := linkTightRow.holds Try.pinned (OpenSpec.ofChange linkTightWrong)

/-- 'regulatorlaw10.LinkNarrow': WHATEVER THE INPUT: true; the input reads as it did. -/
def linkNarrowSpec : ChangeSpec := { name := "linkNarrow", fn := fun _ => fun
  | [d1, d2, d3, d4, d5, d6] => { results := [.lit (.bool true)], args := [d1, d2, d3, d4, d5, d6] }
  | _ => none }
def linkNarrowRow : OpenClaim := { program := "yticlpcgkaffdmaa", sum := "9306009afffc9ff5bb5ff5857c4e985e88c0a460b78f0e70630d3b6c8d430976", func := "regulator/regulatorlaw10.LinkNarrow", spec := "linkNarrow", unfollowed := true, recurses := true, apart := false }
def LinkNarrowSaid : Prop := linkNarrowRow.holds Try.pinned (OpenSpec.ofChange linkNarrowSpec)

/-- ITS FALSE NEIGHBOUR: 'it returns false'. Refute it at one input. -/
def linkNarrowWrong : ChangeSpec := { name := "linkNarrow", fn := fun _ => fun
  | [d1, d2, d3, d4, d5, d6] => { results := [.lit (.bool false)], args := [d1, d2, d3, d4, d5, d6] }
  | _ => none }
def LinkNarrowWrongFalsely : Prop := linkNarrowRow.holds Try.pinned (OpenSpec.ofChange linkNarrowWrong)

/-- 'regulatorlaw10.LinkWidths': WHATEVER THE INPUT: true; the input reads as it did. -/
def linkWidthsSpec : ChangeSpec := { name := "linkWidths", fn := fun _ => fun
  | [d1, d2] => { results := [.lit (.bool true)], args := [d1, d2] }
  | _ => none }
def linkWidthsRow : OpenClaim := { program := "yticlpcgkaffdmaa", sum := "9306009afffc9ff5bb5ff5857c4e985e88c0a460b78f0e70630d3b6c8d430976", func := "regulator/regulatorlaw10.LinkWidths", spec := "linkWidths", unfollowed := true, recurses := true, apart := false }
def LinkWidthsSaid : Prop := linkWidthsRow.holds Try.pinned (OpenSpec.ofChange linkWidthsSpec)

/-- ITS FALSE NEIGHBOUR: 'it returns false'. Refute it at one input. -/
def linkWidthsWrong : ChangeSpec := { name := "linkWidths", fn := fun _ => fun
  | [d1, d2] => { results := [.lit (.bool false)], args := [d1, d2] }
  | _ => none }
def LinkWidthsWrongFalsely : Prop := linkWidthsRow.holds Try.pinned (OpenSpec.ofChange linkWidthsWrong)

/-- 'regulatorlaw10.LinkChanges': WHATEVER THE INPUT: true; the input reads as it did. -/
def linkChangesSpec : ChangeSpec := { name := "linkChanges", fn := fun _ => fun
  | [d1, d2, d3, d4] => { results := [.lit (.bool true)], args := [d1, d2, d3, d4] }
  | _ => none }
def linkChangesRow : OpenClaim := { program := "yticlpcgkaffdmaa", sum := "9306009afffc9ff5bb5ff5857c4e985e88c0a460b78f0e70630d3b6c8d430976", func := "regulator/regulatorlaw10.LinkChanges", spec := "linkChanges", unfollowed := true, recurses := true, apart := false }
def LinkChangesSaid : Prop := linkChangesRow.holds Try.pinned (OpenSpec.ofChange linkChangesSpec)

/-- ITS FALSE NEIGHBOUR: 'it returns false'. Refute it at one input. -/
def linkChangesWrong : ChangeSpec := { name := "linkChanges", fn := fun _ => fun
  | [d1, d2, d3, d4] => { results := [.lit (.bool false)], args := [d1, d2, d3, d4] }
  | _ => none }
def LinkChangesWrongFalsely : Prop := linkChangesRow.holds Try.pinned (OpenSpec.ofChange linkChangesWrong)

/- THE SECOND FORM. 'bulk': how many values and letters a reading holds, each counted each time it is reached (what is shared counts as often as it is met; a slice's spare places count too). A statement '..UptoSaid' is the law's where the arguments, and the package variables that the reading takes, are together of bulk at most 1048576: NARROWER than '..Said'. Prove '..Said' where nothing that the law and all that it calls make is longer than what came in: it says more and counts as full. Else prove '..UptoSaid'. A law counts once. -/
mutual
def uptoBulk {H : Type} : DataW H → Nat
  | .lit (.string bytes) => bytes.length + 1
  | .lit _ => 1
  | .nil => 1
  | .ptr d => uptoBulk d + 1
  | .slice elems spare => uptoBulkAll elems + uptoBulkAll spare + 1
  | .agg parts => uptoBulkAll parts + 1
  | .iface _ d => uptoBulk d + 1
  | .map entries => uptoBulkEntries entries + 1
  | .held _ => 1
def uptoBulkAll {H : Type} : List (DataW H) → Nat
  | [] => 0
  | d :: r => uptoBulk d + uptoBulkAll r
def uptoBulkEntries {H : Type} : List (Lit × DataW H) → Nat
  | [] => 0
  | x :: r => uptoBulkEntry x + uptoBulkEntries r
def uptoBulkEntry {H : Type} : Lit × DataW H → Nat
  | (.string bytes, d) => bytes.length + uptoBulk d + 1
  | (_, d) => uptoBulk d + 1
 end
def uptoSmall : (H : Type) → List (DataW H) → Bool := fun _ ds => decide (uptoBulkAll ds ≤ 1048576)
def OpenSpec.upto (s : _root_.Go.ChangeSpec) : _root_.Go.OpenSpec := { _root_.Go.OpenSpec.ofChange s with cond := some uptoSmall }

/-- 'regulatorlaw10.LinkMatchesReference', WHERE WHAT IT READS IS OF BULK AT MOST 1048576: true; the input reads as it did. -/
def linkMatchesReferenceUptoRow : OpenClaim := { program := "yticlpcgkaffdmaa", sum := "9306009afffc9ff5bb5ff5857c4e985e88c0a460b78f0e70630d3b6c8d430976", func := "regulator/regulatorlaw10.LinkMatchesReference", spec := "linkMatchesReference", unfollowed := true, recurses := true, apart := false, narrowed := true }
def LinkMatchesReferenceUptoSaid : Prop := linkMatchesReferenceUptoRow.holds Try.pinned (OpenSpec.upto linkMatchesReferenceSpec)

/-- 'regulatorlaw10.LinkTruth', WHERE WHAT IT READS IS OF BULK AT MOST 1048576: true; the input reads as it did. -/
def linkTruthUptoRow : OpenClaim := { program := "yticlpcgkaffdmaa", sum := "9306009afffc9ff5bb5ff5857c4e985e88c0a460b78f0e70630d3b6c8d430976", func := "regulator/regulatorlaw10.LinkTruth", spec := "linkTruth", unfollowed := true, recurses := true, apart := false, narrowed := true }
def LinkTruthUptoSaid : Prop := linkTruthUptoRow.holds Try.pinned (OpenSpec.upto linkTruthSpec)

/-- 'regulatorlaw10.LinkTight', WHERE WHAT IT READS IS OF BULK AT MOST 1048576: true; the input reads as it did. -/
def linkTightUptoRow : OpenClaim := { program := "yticlpcgkaffdmaa", sum := "9306009afffc9ff5bb5ff5857c4e985e88c0a460b78f0e70630d3b6c8d430976", func := "regulator/regulatorlaw10.LinkTight", spec := "linkTight", unfollowed := true, recurses := true, apart := false, narrowed := true }
def LinkTightUptoSaid : Prop := linkTightUptoRow.holds Try.pinned (OpenSpec.upto linkTightSpec)

/-- 'regulatorlaw10.LinkNarrow', WHERE WHAT IT READS IS OF BULK AT MOST 1048576: true; the input reads as it did. -/
def linkNarrowUptoRow : OpenClaim := { program := "yticlpcgkaffdmaa", sum := "9306009afffc9ff5bb5ff5857c4e985e88c0a460b78f0e70630d3b6c8d430976", func := "regulator/regulatorlaw10.LinkNarrow", spec := "linkNarrow", unfollowed := true, recurses := true, apart := false, narrowed := true }
def LinkNarrowUptoSaid : Prop := linkNarrowUptoRow.holds Try.pinned (OpenSpec.upto linkNarrowSpec)

/-- 'regulatorlaw10.LinkWidths', WHERE WHAT IT READS IS OF BULK AT MOST 1048576: true; the input reads as it did. -/
def linkWidthsUptoRow : OpenClaim := { program := "yticlpcgkaffdmaa", sum := "9306009afffc9ff5bb5ff5857c4e985e88c0a460b78f0e70630d3b6c8d430976", func := "regulator/regulatorlaw10.LinkWidths", spec := "linkWidths", unfollowed := true, recurses := true, apart := false, narrowed := true }
def LinkWidthsUptoSaid : Prop := linkWidthsUptoRow.holds Try.pinned (OpenSpec.upto linkWidthsSpec)

/-- 'regulatorlaw10.LinkChanges', WHERE WHAT IT READS IS OF BULK AT MOST 1048576: true; the input reads as it did. -/
def linkChangesUptoRow : OpenClaim := { program := "yticlpcgkaffdmaa", sum := "9306009afffc9ff5bb5ff5857c4e985e88c0a460b78f0e70630d3b6c8d430976", func := "regulator/regulatorlaw10.LinkChanges", spec := "linkChanges", unfollowed := true, recurses := true, apart := false, narrowed := true }
def LinkChangesUptoSaid : Prop := linkChangesUptoRow.holds Try.pinned (OpenSpec.upto linkChangesSpec)

end Rows
end Go.Proofs.Yticlpcgkaffdmaa
