/-
  DERIVED. GIVEN WITH THE SEED: THE CARDS: each row of YtioaahmkebojiaaGreatDoorRows.lean that lists a variable, with what it lists TIED to the program's text (the seventh form; the later family's looks); each row that meets fmt, with fmt's text TOLD by the authors' own Lean function (tested against real Go, not proved from fmt's source: count such statements apart). THE CARD IS WHAT COUNTS. Prove the row's statement (the work); the ties are given (YtioaahmkebojiaaGreatDoorTie.lean); close each card by the builder's one call (the guide's Derived/Test/ToyasCard.lean, 'card_holds'). Laid BY PROGRAM, IN A SANDBOX (cutbox-door.mjs). By AI agents, Wed Nov 11 2026. No macro, syntax, notation, axiom, sorry.
-/
import Derived.Test.YtioaahmkebojiaaGreatDoorRows
import GoSem.ClaimSeven
namespace Go.Proofs.YtioaahmkebojiaaGreatDoor
namespace Rows

/-- THE TIED CARD OF 'regulatorlaw41.WorldCounters'. -/
def worldCountersCard : Claim7 := { stood := { row := worldCountersRow, standIns := [], harness := (true, "3f733c844a5951692df6676dda138181662723cfa0b4608ea427d9d5e4f0de46"), looks := true }, kinds := [], alts := [], laidByText := true, laidKinds := [.data, .data, .data], laidTests := true, laidLooks := .later }
def WorldCountersCardSaid : Prop := Claim7.holds Tryz.pinned (.plain (OpenSpec.ofChange worldCountersSpec)) worldCountersCard

/-- THE SECOND FORM's CARD OF 'regulatorlaw41.WorldCounters'. -/
def worldCountersUptoCard : Claim7 := { stood := { row := worldCountersUptoRow, standIns := [], harness := (true, "3f733c844a5951692df6676dda138181662723cfa0b4608ea427d9d5e4f0de46"), looks := true }, kinds := [], alts := [], laidByText := true, laidKinds := [.data, .data, .data], laidTests := true, laidLooks := .later }
def WorldCountersUptoCardSaid : Prop := Claim7.holds Tryz.pinned (.plain (OpenSpec.upto worldCountersSpec)) worldCountersUptoCard
end Rows
end Go.Proofs.YtioaahmkebojiaaGreatDoor
