/-
  DERIVED. GIVEN WITH THE SEED: THE CARDS: each row of YtchpbdecipcelaaGreatDoorRows.lean that lists a variable, with what it lists TIED to the program's text (the seventh form; the later family's looks); each row that meets fmt, with fmt's text TOLD by the authors' own Lean function (tested against real Go, not proved from fmt's source: count such statements apart). THE CARD IS WHAT COUNTS. Prove the row's statement (the work); the ties are given (YtchpbdecipcelaaGreatDoorTie.lean); close each card by the builder's one call (the guide's Derived/Test/ToyasCard.lean, 'card_holds'). Laid BY PROGRAM, IN A SANDBOX (cutbox-door.mjs). By AI agents, Wed Nov 11 2026. No macro, syntax, notation, axiom, sorry.
-/
import Derived.Test.YtchpbdecipcelaaGreatDoorRows
import GoSem.ClaimSeven
namespace Go.Proofs.YtchpbdecipcelaaGreatDoor
namespace Rows

/-- THE TIED CARD OF 'regulatorlaw44.VerdictMatchesReference'. -/
def verdictMatchesReferenceCard : Claim7 := { stood := { row := verdictMatchesReferenceRow, standIns := [], harness := (true, "eac7376d477e7e5c080e9ee201fb6c7de8c55b804c17dc0cd5f5374ee70a1342"), looks := false }, kinds := [], alts := [], laidByText := true, laidKinds := [.data, .data, .data], laidTests := true, laidLooks := .later }
def VerdictMatchesReferenceCardSaid : Prop := Claim7.holds Tryz.pinned (.plain (OpenSpec.ofChange verdictMatchesReferenceSpec)) verdictMatchesReferenceCard

/-- THE TIED CARD OF 'regulatorlaw44.VerdictExact'. -/
def verdictExactCard : Claim7 := { stood := { row := verdictExactRow, standIns := [], harness := (true, "eac7376d477e7e5c080e9ee201fb6c7de8c55b804c17dc0cd5f5374ee70a1342"), looks := false }, kinds := [], alts := [], laidByText := true, laidKinds := [.data, .data, .data], laidTests := true, laidLooks := .later }
def VerdictExactCardSaid : Prop := Claim7.holds Tryz.pinned (.plain (OpenSpec.ofChange verdictExactSpec)) verdictExactCard

/-- THE TIED CARD OF 'regulatorlaw44.VerdictNever'. -/
def verdictNeverCard : Claim7 := { stood := { row := verdictNeverRow, standIns := [], harness := (true, "eac7376d477e7e5c080e9ee201fb6c7de8c55b804c17dc0cd5f5374ee70a1342"), looks := false }, kinds := [], alts := [], laidByText := true, laidKinds := [.data, .data, .data], laidTests := true, laidLooks := .later }
def VerdictNeverCardSaid : Prop := Claim7.holds Tryz.pinned (.plain (OpenSpec.ofChange verdictNeverSpec)) verdictNeverCard

/-- THE TIED CARD OF 'regulatorlaw44.VerdictFinds'. -/
def verdictFindsCard : Claim7 := { stood := { row := verdictFindsRow, standIns := [], harness := (true, "eac7376d477e7e5c080e9ee201fb6c7de8c55b804c17dc0cd5f5374ee70a1342"), looks := false }, kinds := [], alts := [], laidByText := true, laidKinds := [.data, .data, .data], laidTests := true, laidLooks := .later }
def VerdictFindsCardSaid : Prop := Claim7.holds Tryz.pinned (.plain (OpenSpec.ofChange verdictFindsSpec)) verdictFindsCard

/-- THE TIED CARD OF 'regulatorlaw44.VerdictHonest'. -/
def verdictHonestCard : Claim7 := { stood := { row := verdictHonestRow, standIns := [], harness := (true, "eac7376d477e7e5c080e9ee201fb6c7de8c55b804c17dc0cd5f5374ee70a1342"), looks := false }, kinds := [], alts := [], laidByText := true, laidKinds := [.data, .data, .data], laidTests := true, laidLooks := .later }
def VerdictHonestCardSaid : Prop := Claim7.holds Tryz.pinned (.plain (OpenSpec.ofChange verdictHonestSpec)) verdictHonestCard

/-- THE TIED CARD OF 'regulatorlaw44.VerdictSmallest'. -/
def verdictSmallestCard : Claim7 := { stood := { row := verdictSmallestRow, standIns := [], harness := (true, "eac7376d477e7e5c080e9ee201fb6c7de8c55b804c17dc0cd5f5374ee70a1342"), looks := false }, kinds := [], alts := [], laidByText := true, laidKinds := [.data, .data, .data], laidTests := true, laidLooks := .later }
def VerdictSmallestCardSaid : Prop := Claim7.holds Tryz.pinned (.plain (OpenSpec.ofChange verdictSmallestSpec)) verdictSmallestCard

/-- THE TIED CARD OF 'regulatorlaw44.VerdictMore'. -/
def verdictMoreCard : Claim7 := { stood := { row := verdictMoreRow, standIns := [], harness := (true, "eac7376d477e7e5c080e9ee201fb6c7de8c55b804c17dc0cd5f5374ee70a1342"), looks := false }, kinds := [], alts := [], laidByText := true, laidKinds := [.data, .data, .data], laidTests := true, laidLooks := .later }
def VerdictMoreCardSaid : Prop := Claim7.holds Tryz.pinned (.plain (OpenSpec.ofChange verdictMoreSpec)) verdictMoreCard

/-- THE SECOND FORM's CARD OF 'regulatorlaw44.VerdictMatchesReference'. -/
def verdictMatchesReferenceUptoCard : Claim7 := { stood := { row := verdictMatchesReferenceUptoRow, standIns := [], harness := (true, "eac7376d477e7e5c080e9ee201fb6c7de8c55b804c17dc0cd5f5374ee70a1342"), looks := false }, kinds := [], alts := [], laidByText := true, laidKinds := [.data, .data, .data], laidTests := true, laidLooks := .later }
def VerdictMatchesReferenceUptoCardSaid : Prop := Claim7.holds Tryz.pinned (.plain (OpenSpec.upto verdictMatchesReferenceSpec)) verdictMatchesReferenceUptoCard

/-- THE SECOND FORM's CARD OF 'regulatorlaw44.VerdictExact'. -/
def verdictExactUptoCard : Claim7 := { stood := { row := verdictExactUptoRow, standIns := [], harness := (true, "eac7376d477e7e5c080e9ee201fb6c7de8c55b804c17dc0cd5f5374ee70a1342"), looks := false }, kinds := [], alts := [], laidByText := true, laidKinds := [.data, .data, .data], laidTests := true, laidLooks := .later }
def VerdictExactUptoCardSaid : Prop := Claim7.holds Tryz.pinned (.plain (OpenSpec.upto verdictExactSpec)) verdictExactUptoCard

/-- THE SECOND FORM's CARD OF 'regulatorlaw44.VerdictNever'. -/
def verdictNeverUptoCard : Claim7 := { stood := { row := verdictNeverUptoRow, standIns := [], harness := (true, "eac7376d477e7e5c080e9ee201fb6c7de8c55b804c17dc0cd5f5374ee70a1342"), looks := false }, kinds := [], alts := [], laidByText := true, laidKinds := [.data, .data, .data], laidTests := true, laidLooks := .later }
def VerdictNeverUptoCardSaid : Prop := Claim7.holds Tryz.pinned (.plain (OpenSpec.upto verdictNeverSpec)) verdictNeverUptoCard

/-- THE SECOND FORM's CARD OF 'regulatorlaw44.VerdictFinds'. -/
def verdictFindsUptoCard : Claim7 := { stood := { row := verdictFindsUptoRow, standIns := [], harness := (true, "eac7376d477e7e5c080e9ee201fb6c7de8c55b804c17dc0cd5f5374ee70a1342"), looks := false }, kinds := [], alts := [], laidByText := true, laidKinds := [.data, .data, .data], laidTests := true, laidLooks := .later }
def VerdictFindsUptoCardSaid : Prop := Claim7.holds Tryz.pinned (.plain (OpenSpec.upto verdictFindsSpec)) verdictFindsUptoCard

/-- THE SECOND FORM's CARD OF 'regulatorlaw44.VerdictHonest'. -/
def verdictHonestUptoCard : Claim7 := { stood := { row := verdictHonestUptoRow, standIns := [], harness := (true, "eac7376d477e7e5c080e9ee201fb6c7de8c55b804c17dc0cd5f5374ee70a1342"), looks := false }, kinds := [], alts := [], laidByText := true, laidKinds := [.data, .data, .data], laidTests := true, laidLooks := .later }
def VerdictHonestUptoCardSaid : Prop := Claim7.holds Tryz.pinned (.plain (OpenSpec.upto verdictHonestSpec)) verdictHonestUptoCard

/-- THE SECOND FORM's CARD OF 'regulatorlaw44.VerdictSmallest'. -/
def verdictSmallestUptoCard : Claim7 := { stood := { row := verdictSmallestUptoRow, standIns := [], harness := (true, "eac7376d477e7e5c080e9ee201fb6c7de8c55b804c17dc0cd5f5374ee70a1342"), looks := false }, kinds := [], alts := [], laidByText := true, laidKinds := [.data, .data, .data], laidTests := true, laidLooks := .later }
def VerdictSmallestUptoCardSaid : Prop := Claim7.holds Tryz.pinned (.plain (OpenSpec.upto verdictSmallestSpec)) verdictSmallestUptoCard

/-- THE SECOND FORM's CARD OF 'regulatorlaw44.VerdictMore'. -/
def verdictMoreUptoCard : Claim7 := { stood := { row := verdictMoreUptoRow, standIns := [], harness := (true, "eac7376d477e7e5c080e9ee201fb6c7de8c55b804c17dc0cd5f5374ee70a1342"), looks := false }, kinds := [], alts := [], laidByText := true, laidKinds := [.data, .data, .data], laidTests := true, laidLooks := .later }
def VerdictMoreUptoCardSaid : Prop := Claim7.holds Tryz.pinned (.plain (OpenSpec.upto verdictMoreSpec)) verdictMoreUptoCard
end Rows
end Go.Proofs.YtchpbdecipcelaaGreatDoor
