import Derived.Test.YtioaahmkebojiaaGreatDoorWC01
import Derived.LaidMore
import Derived.SevenTiedAt
import Derived.Test.YtioaahmkebojiaaGreatDoorRows
import Derived.Test.YtioaahmkebojiaaGreatDoorWC08
namespace Go.Proofs.YtioaahmkebojiaaGreatDoor.worldCounters
set_option linter.unusedVariables false
set_option linter.unusedSimpArgs false
set_option maxHeartbeats 4000000
set_option maxRecDepth 100000
open Go.ChangeShapes Go.WideShapes Go.ChangeAt Go.RowKit
theorem own : ownKnob Tryz.prog.godebug = none := by kernel_rfl
theorem laid : laidOutB Tryz.prog = true := by kernel_rfl
theorem zRp : ∀ t ∈ Tryz.f3.params.toList, Tryz.prog.readableRec t = true ∧ t < Tryz.prog.types.size := by
 rw [Tryz.params3]
 simp only [yOd, yOe, yOf, yOg, yOi]
 exact ⟨⟨by kernel_rfl, yPn kq⟩, ⟨by kernel_rfl, yPn kq⟩, ⟨by kernel_rfl, yPn kq⟩, ⟨by kernel_rfl, yPn kq⟩, ⟨by kernel_rfl, yPn kq⟩⟩
theorem zVz (os : Os) (args : Array Value) : laidMetH Tryz.prog Rows.worldCountersRow.laid ((World.doorLaid Tryz.prog 4000 os).forCall (fun _ _ => 0) ⟨#[], args, []⟩).memory :=
 laidMetH_of_parts3 (fuel := 8) (laidMet_of_run' 8 kq kq) kq kq
theorem yBk : Tryz.pinned.checked.prog.funcNamed Rows.worldCountersRow.func = some 3 := by kernel_rfl
theorem j_2 : laidOutB Tryz.pinned.checked.prog = true := by kernel_rfl
theorem j_3 : mapsRowed Tryz.pinned.checked.prog = true := by kernel_rfl
theorem j_10 : (Rows.worldCountersRow.inPlace == Tryz.pinned.checked.prog.inPlace 3) = true := by kernel_rfl
theorem j_11 : (Rows.worldCountersRow.unfollowed == Tryz.pinned.checked.prog.unfollowed 3) = true := by kernel_rfl
theorem j_12 : (Rows.worldCountersRow.recurses == Tryz.pinned.checked.prog.recurses 3) = true := by kernel_rfl
theorem j_13 : (Rows.worldCountersRow.named == Tryz.pinned.checked.prog.varsNamed 3) = true := by kernel_rfl
theorem j_23 : (Rows.worldCountersRow.plainKeys == Tryz.pinned.checked.prog.plainKeys) = true := by kernel_rfl
theorem j_25 : Tryz.pinned.checked.prog.stopsHeard = true := by kernel_rfl
theorem j_27 : (Rows.worldCountersRow.lifted == Tryz.pinned.checked.prog.liftsFinal) = true := by kernel_rfl
theorem bt {a b : Bool} (h : a = true) (k : b = true) : (a && b) = true := by rw [h, k]; rfl
theorem zYd : joinedFacts Tryz.pinned.checked.prog 3 Tryz.f3 Rows.worldCountersSpec Rows.worldCountersRow = true := by
 unfold joinedFacts
 exact (bt (bt (bt (bt (bt (bt (bt (bt (bt (bt (bt (bt (bt (bt (bt (bt (bt (bt (bt (bt (bt (bt (bt (bt (bt (bt (bt (bt (bt (bt (bt kq j_2) j_3) kq) kq) kq) kq) kq) kq) j_10) j_11) j_12) j_13) kq) kq) kq) kq) kq) kq) kq) kq) kq) j_23) kq) j_25) kq) j_27) kq) kq) kq) kq) kq)
theorem yBj : Tryz.f3.isWrapper Tryz.pinned.checked.prog Rows.worldCountersRow.wrapper Rows.worldCountersRow.mainSum := by unfold Func.isWrapper; first | (rw [if_pos (by decide +kernel)]; kernel_rfl) | (rw [if_neg (by decide +kernel)]; exact ⟨rfl, rfl⟩)
theorem zY3 : ∀ t ∈ Tryz.f3.params.toList, Tryz.prog.wantsStandIn t = false := by
 rw [Tryz.params3]
 simp only [yOd, yOe, yOf, yOg, yOi]
 exact ⟨by kernel_rfl, by kernel_rfl, by kernel_rfl, by kernel_rfl, by kernel_rfl⟩
end Go.Proofs.YtioaahmkebojiaaGreatDoor.worldCounters
