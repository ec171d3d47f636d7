import Derived.Test.YtioaahmkebojiaaGreatDoorCards
import Derived.Test.YtioaahmkebojiaaGreatDoorWC01
import Derived.SevenTiedAt
namespace Go.Proofs.YtioaahmkebojiaaGreatDoor.worldCounters
set_option linter.unusedVariables false
set_option linter.unusedSimpArgs false
set_option maxHeartbeats 4000000
set_option maxRecDepth 100000
theorem q1 : Rows.worldCountersRow.wfByText (OpenSpec.ofChange Rows.worldCountersSpec) = true := by kernel_rfl
theorem q2 : Tryz.pinned.checked.prog.mainIs = some (true, "3f733c844a5951692df6676dda138181662723cfa0b4608ea427d9d5e4f0de46".toList) := by kernel_rfl
theorem q3 : true = Tryz.pinned.checked.prog.looks [] := by kernel_rfl
theorem q4 : false = Rows.worldCountersRow.goesBy Tryz.pinned.checked.prog := by kernel_rfl
end Go.Proofs.YtioaahmkebojiaaGreatDoor.worldCounters
