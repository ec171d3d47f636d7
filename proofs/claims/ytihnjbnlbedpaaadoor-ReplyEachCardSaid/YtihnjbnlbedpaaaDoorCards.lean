/-
  DERIVED. GIVEN WITH THE SEED: THE CARDS: each row of YtihnjbnlbedpaaaDoorRows.lean that lists a variable, with what it lists TIED to the program's text (the seventh form; the later family's looks); each row that meets fmt, with fmt's text TOLD by the authors' own Lean function (tested against real Go, not proved from fmt's source: count such statements apart). THE CARD IS WHAT COUNTS. Prove the row's statement (the work); the ties are given (YtihnjbnlbedpaaaDoorTie.lean); close each card by the builder's one call (the guide's Derived/Test/ToyasCard.lean, 'card_holds'). Laid BY PROGRAM, IN A SANDBOX (cutbox-door.mjs). By AI agents, Wed Nov 11 2026. No macro, syntax, notation, axiom, sorry.
-/
import Derived.Test.YtihnjbnlbedpaaaDoorRows
import GoSem.ClaimSeven
namespace Go.Proofs.YtihnjbnlbedpaaaDoor
namespace Rows

/-- THE TIED CARD OF 'regulatorlaw22.KeysMatchesReference'. -/
def keysMatchesReferenceCard : Claim7 := { stood := { row := keysMatchesReferenceRow, standIns := [], harness := (true, "f03f9d0d95eb4a4f132eb6485371c5f76e245f400a86df3bf45fabf8f3d6027b"), looks := false }, kinds := [], alts := [], laidByText := true, laidKinds := [.data, .data, .data], laidTests := true, laidLooks := .later }
def KeysMatchesReferenceCardSaid : Prop := Claim7.holds Tryd.pinned (.plain (OpenSpec.ofChange keysMatchesReferenceSpec)) keysMatchesReferenceCard

/-- THE TIED CARD OF 'regulatorlaw22.KeysAnnounced'. -/
def keysAnnouncedCard : Claim7 := { stood := { row := keysAnnouncedRow, standIns := [], harness := (true, "f03f9d0d95eb4a4f132eb6485371c5f76e245f400a86df3bf45fabf8f3d6027b"), looks := false }, kinds := [], alts := [], laidByText := true, laidKinds := [.data, .data, .data], laidTests := true, laidLooks := .later }
def KeysAnnouncedCardSaid : Prop := Claim7.holds Tryd.pinned (.plain (OpenSpec.ofChange keysAnnouncedSpec)) keysAnnouncedCard

/-- THE TIED CARD OF 'regulatorlaw22.KeysAlways'. -/
def keysAlwaysCard : Claim7 := { stood := { row := keysAlwaysRow, standIns := [], harness := (true, "f03f9d0d95eb4a4f132eb6485371c5f76e245f400a86df3bf45fabf8f3d6027b"), looks := false }, kinds := [], alts := [], laidByText := true, laidKinds := [.data, .data, .data], laidTests := true, laidLooks := .later }
def KeysAlwaysCardSaid : Prop := Claim7.holds Tryd.pinned (.plain (OpenSpec.ofChange keysAlwaysSpec)) keysAlwaysCard

/-- THE TIED CARD OF 'regulatorlaw22.KeysForged'. -/
def keysForgedCard : Claim7 := { stood := { row := keysForgedRow, standIns := [], harness := (true, "f03f9d0d95eb4a4f132eb6485371c5f76e245f400a86df3bf45fabf8f3d6027b"), looks := false }, kinds := [], alts := [], laidByText := true, laidKinds := [.data, .data, .data], laidTests := true, laidLooks := .later }
def KeysForgedCardSaid : Prop := Claim7.holds Tryd.pinned (.plain (OpenSpec.ofChange keysForgedSpec)) keysForgedCard

/-- THE TIED CARD OF 'regulatorlaw22.KeysLast'. -/
def keysLastCard : Claim7 := { stood := { row := keysLastRow, standIns := [], harness := (true, "f03f9d0d95eb4a4f132eb6485371c5f76e245f400a86df3bf45fabf8f3d6027b"), looks := false }, kinds := [], alts := [], laidByText := true, laidKinds := [.data, .data, .data], laidTests := true, laidLooks := .later }
def KeysLastCardSaid : Prop := Claim7.holds Tryd.pinned (.plain (OpenSpec.ofChange keysLastSpec)) keysLastCard

/-- THE TIED CARD OF 'regulatorlaw22.KeysPub'. -/
def keysPubCard : Claim7 := { stood := { row := keysPubRow, standIns := [], harness := (true, "f03f9d0d95eb4a4f132eb6485371c5f76e245f400a86df3bf45fabf8f3d6027b"), looks := false }, kinds := [], alts := [], laidByText := true, laidKinds := [.data, .data, .data], laidTests := true, laidLooks := .later }
def KeysPubCardSaid : Prop := Claim7.holds Tryd.pinned (.plain (OpenSpec.ofChange keysPubSpec)) keysPubCard

/-- THE TIED CARD OF 'regulatorlaw23.ReplyMessages'. -/
def replyMessagesCard : Claim7 := { stood := { row := replyMessagesRow, standIns := [], harness := (true, "f03f9d0d95eb4a4f132eb6485371c5f76e245f400a86df3bf45fabf8f3d6027b"), looks := false }, kinds := [], alts := [], laidByText := true, laidKinds := [.data, .data, .data], laidTests := true, laidLooks := .later }
def ReplyMessagesCardSaid : Prop := Claim7.holds Tryd.pinned (.plain (OpenSpec.ofChange replyMessagesSpec)) replyMessagesCard

/-- THE TIED CARD OF 'regulatorlaw23.ReplyHonest'. -/
def replyHonestCard : Claim7 := { stood := { row := replyHonestRow, standIns := [], harness := (true, "f03f9d0d95eb4a4f132eb6485371c5f76e245f400a86df3bf45fabf8f3d6027b"), looks := false }, kinds := [], alts := [], laidByText := true, laidKinds := [.data, .data, .data], laidTests := true, laidLooks := .later }
def ReplyHonestCardSaid : Prop := Claim7.holds Tryd.pinned (.plain (OpenSpec.ofChange replyHonestSpec)) replyHonestCard

/-- THE TIED CARD OF 'regulatorlaw23.ReplyEach'. -/
def replyEachCard : Claim7 := { stood := { row := replyEachRow, standIns := [], harness := (true, "f03f9d0d95eb4a4f132eb6485371c5f76e245f400a86df3bf45fabf8f3d6027b"), looks := false }, kinds := [], alts := [], laidByText := true, laidKinds := [.data, .data, .data], laidTests := true, laidLooks := .later }
def ReplyEachCardSaid : Prop := Claim7.holds Tryd.pinned (.plain (OpenSpec.ofChange replyEachSpec)) replyEachCard

/-- THE SECOND FORM's CARD OF 'regulatorlaw22.KeysMatchesReference'. -/
def keysMatchesReferenceUptoCard : Claim7 := { stood := { row := keysMatchesReferenceUptoRow, standIns := [], harness := (true, "f03f9d0d95eb4a4f132eb6485371c5f76e245f400a86df3bf45fabf8f3d6027b"), looks := false }, kinds := [], alts := [], laidByText := true, laidKinds := [.data, .data, .data], laidTests := true, laidLooks := .later }
def KeysMatchesReferenceUptoCardSaid : Prop := Claim7.holds Tryd.pinned (.plain (OpenSpec.upto keysMatchesReferenceSpec)) keysMatchesReferenceUptoCard

/-- THE SECOND FORM's CARD OF 'regulatorlaw22.KeysAnnounced'. -/
def keysAnnouncedUptoCard : Claim7 := { stood := { row := keysAnnouncedUptoRow, standIns := [], harness := (true, "f03f9d0d95eb4a4f132eb6485371c5f76e245f400a86df3bf45fabf8f3d6027b"), looks := false }, kinds := [], alts := [], laidByText := true, laidKinds := [.data, .data, .data], laidTests := true, laidLooks := .later }
def KeysAnnouncedUptoCardSaid : Prop := Claim7.holds Tryd.pinned (.plain (OpenSpec.upto keysAnnouncedSpec)) keysAnnouncedUptoCard

/-- THE SECOND FORM's CARD OF 'regulatorlaw22.KeysAlways'. -/
def keysAlwaysUptoCard : Claim7 := { stood := { row := keysAlwaysUptoRow, standIns := [], harness := (true, "f03f9d0d95eb4a4f132eb6485371c5f76e245f400a86df3bf45fabf8f3d6027b"), looks := false }, kinds := [], alts := [], laidByText := true, laidKinds := [.data, .data, .data], laidTests := true, laidLooks := .later }
def KeysAlwaysUptoCardSaid : Prop := Claim7.holds Tryd.pinned (.plain (OpenSpec.upto keysAlwaysSpec)) keysAlwaysUptoCard

/-- THE SECOND FORM's CARD OF 'regulatorlaw22.KeysForged'. -/
def keysForgedUptoCard : Claim7 := { stood := { row := keysForgedUptoRow, standIns := [], harness := (true, "f03f9d0d95eb4a4f132eb6485371c5f76e245f400a86df3bf45fabf8f3d6027b"), looks := false }, kinds := [], alts := [], laidByText := true, laidKinds := [.data, .data, .data], laidTests := true, laidLooks := .later }
def KeysForgedUptoCardSaid : Prop := Claim7.holds Tryd.pinned (.plain (OpenSpec.upto keysForgedSpec)) keysForgedUptoCard

/-- THE SECOND FORM's CARD OF 'regulatorlaw22.KeysLast'. -/
def keysLastUptoCard : Claim7 := { stood := { row := keysLastUptoRow, standIns := [], harness := (true, "f03f9d0d95eb4a4f132eb6485371c5f76e245f400a86df3bf45fabf8f3d6027b"), looks := false }, kinds := [], alts := [], laidByText := true, laidKinds := [.data, .data, .data], laidTests := true, laidLooks := .later }
def KeysLastUptoCardSaid : Prop := Claim7.holds Tryd.pinned (.plain (OpenSpec.upto keysLastSpec)) keysLastUptoCard

/-- THE SECOND FORM's CARD OF 'regulatorlaw22.KeysPub'. -/
def keysPubUptoCard : Claim7 := { stood := { row := keysPubUptoRow, standIns := [], harness := (true, "f03f9d0d95eb4a4f132eb6485371c5f76e245f400a86df3bf45fabf8f3d6027b"), looks := false }, kinds := [], alts := [], laidByText := true, laidKinds := [.data, .data, .data], laidTests := true, laidLooks := .later }
def KeysPubUptoCardSaid : Prop := Claim7.holds Tryd.pinned (.plain (OpenSpec.upto keysPubSpec)) keysPubUptoCard

/-- THE SECOND FORM's CARD OF 'regulatorlaw23.ReplyMessages'. -/
def replyMessagesUptoCard : Claim7 := { stood := { row := replyMessagesUptoRow, standIns := [], harness := (true, "f03f9d0d95eb4a4f132eb6485371c5f76e245f400a86df3bf45fabf8f3d6027b"), looks := false }, kinds := [], alts := [], laidByText := true, laidKinds := [.data, .data, .data], laidTests := true, laidLooks := .later }
def ReplyMessagesUptoCardSaid : Prop := Claim7.holds Tryd.pinned (.plain (OpenSpec.upto replyMessagesSpec)) replyMessagesUptoCard

/-- THE SECOND FORM's CARD OF 'regulatorlaw23.ReplyHonest'. -/
def replyHonestUptoCard : Claim7 := { stood := { row := replyHonestUptoRow, standIns := [], harness := (true, "f03f9d0d95eb4a4f132eb6485371c5f76e245f400a86df3bf45fabf8f3d6027b"), looks := false }, kinds := [], alts := [], laidByText := true, laidKinds := [.data, .data, .data], laidTests := true, laidLooks := .later }
def ReplyHonestUptoCardSaid : Prop := Claim7.holds Tryd.pinned (.plain (OpenSpec.upto replyHonestSpec)) replyHonestUptoCard

/-- THE SECOND FORM's CARD OF 'regulatorlaw23.ReplyEach'. -/
def replyEachUptoCard : Claim7 := { stood := { row := replyEachUptoRow, standIns := [], harness := (true, "f03f9d0d95eb4a4f132eb6485371c5f76e245f400a86df3bf45fabf8f3d6027b"), looks := false }, kinds := [], alts := [], laidByText := true, laidKinds := [.data, .data, .data], laidTests := true, laidLooks := .later }
def ReplyEachUptoCardSaid : Prop := Claim7.holds Tryd.pinned (.plain (OpenSpec.upto replyEachSpec)) replyEachUptoCard
end Rows
end Go.Proofs.YtihnjbnlbedpaaaDoor
