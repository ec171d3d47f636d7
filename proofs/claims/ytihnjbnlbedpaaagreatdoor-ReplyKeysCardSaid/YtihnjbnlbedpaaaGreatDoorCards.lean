/-
  DERIVED. GIVEN WITH THE SEED: THE CARDS: each row of YtihnjbnlbedpaaaGreatDoorRows.lean that lists a variable, with what it lists TIED to the program's text (the seventh form; the later family's looks); each row that meets fmt, with fmt's text TOLD by the authors' own Lean function (tested against real Go, not proved from fmt's source: count such statements apart). THE CARD IS WHAT COUNTS. Prove the row's statement (the work); the ties are given (YtihnjbnlbedpaaaGreatDoorTie.lean); close each card by the builder's one call (the guide's Derived/Test/ToyasCard.lean, 'card_holds'). Laid BY PROGRAM, IN A SANDBOX (cutbox-door.mjs). By AI agents, Wed Nov 11 2026. No macro, syntax, notation, axiom, sorry.
-/
import Derived.Test.YtihnjbnlbedpaaaGreatDoorRows
import GoSem.ClaimSeven
namespace Go.Proofs.YtihnjbnlbedpaaaGreatDoor
namespace Rows

/-- THE TIED CARD OF 'regulatorlaw23.ReplyMatchesReference'. -/
def replyMatchesReferenceCard : Claim7 := { stood := { row := replyMatchesReferenceRow, standIns := [], harness := (true, "5ce7bd9cb362a87a45f3f58c7667173b50d04af4b4a802b818ffd929f7f91cf8"), looks := false }, kinds := [], alts := [], laidByText := true, laidKinds := [.data, .data, .data], laidTests := true, laidLooks := .later }
def ReplyMatchesReferenceCardSaid : Prop := Claim7.holds Tryz.pinned (.plain (OpenSpec.ofChange replyMatchesReferenceSpec)) replyMatchesReferenceCard

/-- THE TIED CARD OF 'regulatorlaw23.ReplySigned'. -/
def replySignedCard : Claim7 := { stood := { row := replySignedRow, standIns := [], harness := (true, "5ce7bd9cb362a87a45f3f58c7667173b50d04af4b4a802b818ffd929f7f91cf8"), looks := false }, kinds := [], alts := [], laidByText := true, laidKinds := [.data, .data, .data], laidTests := true, laidLooks := .later }
def ReplySignedCardSaid : Prop := Claim7.holds Tryz.pinned (.plain (OpenSpec.ofChange replySignedSpec)) replySignedCard

/-- THE TIED CARD OF 'regulatorlaw23.ReplyKeys'. -/
def replyKeysCard : Claim7 := { stood := { row := replyKeysRow, standIns := [], harness := (true, "5ce7bd9cb362a87a45f3f58c7667173b50d04af4b4a802b818ffd929f7f91cf8"), looks := false }, kinds := [], alts := [], laidByText := true, laidKinds := [.data, .data, .data], laidTests := true, laidLooks := .later }
def ReplyKeysCardSaid : Prop := Claim7.holds Tryz.pinned (.plain (OpenSpec.ofChange replyKeysSpec)) replyKeysCard

/-- THE TIED CARD OF 'regulatorlaw23.ReplySent'. -/
def replySentCard : Claim7 := { stood := { row := replySentRow, standIns := [], harness := (true, "5ce7bd9cb362a87a45f3f58c7667173b50d04af4b4a802b818ffd929f7f91cf8"), looks := false }, kinds := [], alts := [], laidByText := true, laidKinds := [.data, .data, .data], laidTests := true, laidLooks := .later }
def ReplySentCardSaid : Prop := Claim7.holds Tryz.pinned (.plain (OpenSpec.ofChange replySentSpec)) replySentCard

/-- THE TIED CARD OF 'regulatorlaw28.SiteMatchesReference'. -/
def siteMatchesReferenceCard : Claim7 := { stood := { row := siteMatchesReferenceRow, standIns := [], harness := (true, "5ce7bd9cb362a87a45f3f58c7667173b50d04af4b4a802b818ffd929f7f91cf8"), looks := false }, kinds := [], alts := [], laidByText := true, laidKinds := [.data, .data, .data], laidTests := true, laidLooks := .later }
def SiteMatchesReferenceCardSaid : Prop := Claim7.holds Tryz.pinned (.plain (OpenSpec.ofChange siteMatchesReferenceSpec)) siteMatchesReferenceCard

/-- THE TIED CARD OF 'regulatorlaw28.SitePeers'. -/
def sitePeersCard : Claim7 := { stood := { row := sitePeersRow, standIns := [], harness := (true, "5ce7bd9cb362a87a45f3f58c7667173b50d04af4b4a802b818ffd929f7f91cf8"), looks := false }, kinds := [], alts := [], laidByText := true, laidKinds := [.data, .data, .data], laidTests := true, laidLooks := .later }
def SitePeersCardSaid : Prop := Claim7.holds Tryz.pinned (.plain (OpenSpec.ofChange sitePeersSpec)) sitePeersCard

/-- THE TIED CARD OF 'regulatorlaw28.SiteLonger'. -/
def siteLongerCard : Claim7 := { stood := { row := siteLongerRow, standIns := [], harness := (true, "5ce7bd9cb362a87a45f3f58c7667173b50d04af4b4a802b818ffd929f7f91cf8"), looks := false }, kinds := [], alts := [], laidByText := true, laidKinds := [.data, .data, .data], laidTests := true, laidLooks := .later }
def SiteLongerCardSaid : Prop := Claim7.holds Tryz.pinned (.plain (OpenSpec.ofChange siteLongerSpec)) siteLongerCard

/-- THE TIED CARD OF 'regulatorlaw28.SiteOthers'. -/
def siteOthersCard : Claim7 := { stood := { row := siteOthersRow, standIns := [], harness := (true, "5ce7bd9cb362a87a45f3f58c7667173b50d04af4b4a802b818ffd929f7f91cf8"), looks := false }, kinds := [], alts := [], laidByText := true, laidKinds := [.data, .data, .data], laidTests := true, laidLooks := .later }
def SiteOthersCardSaid : Prop := Claim7.holds Tryz.pinned (.plain (OpenSpec.ofChange siteOthersSpec)) siteOthersCard

/-- THE TIED CARD OF 'regulatorlaw28.SiteRate'. -/
def siteRateCard : Claim7 := { stood := { row := siteRateRow, standIns := [], harness := (true, "5ce7bd9cb362a87a45f3f58c7667173b50d04af4b4a802b818ffd929f7f91cf8"), looks := false }, kinds := [], alts := [], laidByText := true, laidKinds := [.data, .data, .data], laidTests := true, laidLooks := .later }
def SiteRateCardSaid : Prop := Claim7.holds Tryz.pinned (.plain (OpenSpec.ofChange siteRateSpec)) siteRateCard

/-- THE TIED CARD OF 'regulatorlaw28.SiteKeys'. -/
def siteKeysCard : Claim7 := { stood := { row := siteKeysRow, standIns := [], harness := (true, "5ce7bd9cb362a87a45f3f58c7667173b50d04af4b4a802b818ffd929f7f91cf8"), looks := false }, kinds := [], alts := [], laidByText := true, laidKinds := [.data, .data, .data], laidTests := true, laidLooks := .later }
def SiteKeysCardSaid : Prop := Claim7.holds Tryz.pinned (.plain (OpenSpec.ofChange siteKeysSpec)) siteKeysCard

/-- THE SECOND FORM's CARD OF 'regulatorlaw23.ReplyMatchesReference'. -/
def replyMatchesReferenceUptoCard : Claim7 := { stood := { row := replyMatchesReferenceUptoRow, standIns := [], harness := (true, "5ce7bd9cb362a87a45f3f58c7667173b50d04af4b4a802b818ffd929f7f91cf8"), looks := false }, kinds := [], alts := [], laidByText := true, laidKinds := [.data, .data, .data], laidTests := true, laidLooks := .later }
def ReplyMatchesReferenceUptoCardSaid : Prop := Claim7.holds Tryz.pinned (.plain (OpenSpec.upto replyMatchesReferenceSpec)) replyMatchesReferenceUptoCard

/-- THE SECOND FORM's CARD OF 'regulatorlaw23.ReplySigned'. -/
def replySignedUptoCard : Claim7 := { stood := { row := replySignedUptoRow, standIns := [], harness := (true, "5ce7bd9cb362a87a45f3f58c7667173b50d04af4b4a802b818ffd929f7f91cf8"), looks := false }, kinds := [], alts := [], laidByText := true, laidKinds := [.data, .data, .data], laidTests := true, laidLooks := .later }
def ReplySignedUptoCardSaid : Prop := Claim7.holds Tryz.pinned (.plain (OpenSpec.upto replySignedSpec)) replySignedUptoCard

/-- THE SECOND FORM's CARD OF 'regulatorlaw23.ReplyKeys'. -/
def replyKeysUptoCard : Claim7 := { stood := { row := replyKeysUptoRow, standIns := [], harness := (true, "5ce7bd9cb362a87a45f3f58c7667173b50d04af4b4a802b818ffd929f7f91cf8"), looks := false }, kinds := [], alts := [], laidByText := true, laidKinds := [.data, .data, .data], laidTests := true, laidLooks := .later }
def ReplyKeysUptoCardSaid : Prop := Claim7.holds Tryz.pinned (.plain (OpenSpec.upto replyKeysSpec)) replyKeysUptoCard

/-- THE SECOND FORM's CARD OF 'regulatorlaw23.ReplySent'. -/
def replySentUptoCard : Claim7 := { stood := { row := replySentUptoRow, standIns := [], harness := (true, "5ce7bd9cb362a87a45f3f58c7667173b50d04af4b4a802b818ffd929f7f91cf8"), looks := false }, kinds := [], alts := [], laidByText := true, laidKinds := [.data, .data, .data], laidTests := true, laidLooks := .later }
def ReplySentUptoCardSaid : Prop := Claim7.holds Tryz.pinned (.plain (OpenSpec.upto replySentSpec)) replySentUptoCard

/-- THE SECOND FORM's CARD OF 'regulatorlaw28.SiteMatchesReference'. -/
def siteMatchesReferenceUptoCard : Claim7 := { stood := { row := siteMatchesReferenceUptoRow, standIns := [], harness := (true, "5ce7bd9cb362a87a45f3f58c7667173b50d04af4b4a802b818ffd929f7f91cf8"), looks := false }, kinds := [], alts := [], laidByText := true, laidKinds := [.data, .data, .data], laidTests := true, laidLooks := .later }
def SiteMatchesReferenceUptoCardSaid : Prop := Claim7.holds Tryz.pinned (.plain (OpenSpec.upto siteMatchesReferenceSpec)) siteMatchesReferenceUptoCard

/-- THE SECOND FORM's CARD OF 'regulatorlaw28.SitePeers'. -/
def sitePeersUptoCard : Claim7 := { stood := { row := sitePeersUptoRow, standIns := [], harness := (true, "5ce7bd9cb362a87a45f3f58c7667173b50d04af4b4a802b818ffd929f7f91cf8"), looks := false }, kinds := [], alts := [], laidByText := true, laidKinds := [.data, .data, .data], laidTests := true, laidLooks := .later }
def SitePeersUptoCardSaid : Prop := Claim7.holds Tryz.pinned (.plain (OpenSpec.upto sitePeersSpec)) sitePeersUptoCard

/-- THE SECOND FORM's CARD OF 'regulatorlaw28.SiteLonger'. -/
def siteLongerUptoCard : Claim7 := { stood := { row := siteLongerUptoRow, standIns := [], harness := (true, "5ce7bd9cb362a87a45f3f58c7667173b50d04af4b4a802b818ffd929f7f91cf8"), looks := false }, kinds := [], alts := [], laidByText := true, laidKinds := [.data, .data, .data], laidTests := true, laidLooks := .later }
def SiteLongerUptoCardSaid : Prop := Claim7.holds Tryz.pinned (.plain (OpenSpec.upto siteLongerSpec)) siteLongerUptoCard

/-- THE SECOND FORM's CARD OF 'regulatorlaw28.SiteOthers'. -/
def siteOthersUptoCard : Claim7 := { stood := { row := siteOthersUptoRow, standIns := [], harness := (true, "5ce7bd9cb362a87a45f3f58c7667173b50d04af4b4a802b818ffd929f7f91cf8"), looks := false }, kinds := [], alts := [], laidByText := true, laidKinds := [.data, .data, .data], laidTests := true, laidLooks := .later }
def SiteOthersUptoCardSaid : Prop := Claim7.holds Tryz.pinned (.plain (OpenSpec.upto siteOthersSpec)) siteOthersUptoCard

/-- THE SECOND FORM's CARD OF 'regulatorlaw28.SiteRate'. -/
def siteRateUptoCard : Claim7 := { stood := { row := siteRateUptoRow, standIns := [], harness := (true, "5ce7bd9cb362a87a45f3f58c7667173b50d04af4b4a802b818ffd929f7f91cf8"), looks := false }, kinds := [], alts := [], laidByText := true, laidKinds := [.data, .data, .data], laidTests := true, laidLooks := .later }
def SiteRateUptoCardSaid : Prop := Claim7.holds Tryz.pinned (.plain (OpenSpec.upto siteRateSpec)) siteRateUptoCard

/-- THE SECOND FORM's CARD OF 'regulatorlaw28.SiteKeys'. -/
def siteKeysUptoCard : Claim7 := { stood := { row := siteKeysUptoRow, standIns := [], harness := (true, "5ce7bd9cb362a87a45f3f58c7667173b50d04af4b4a802b818ffd929f7f91cf8"), looks := false }, kinds := [], alts := [], laidByText := true, laidKinds := [.data, .data, .data], laidTests := true, laidLooks := .later }
def SiteKeysUptoCardSaid : Prop := Claim7.holds Tryz.pinned (.plain (OpenSpec.upto siteKeysSpec)) siteKeysUptoCard
end Rows
end Go.Proofs.YtihnjbnlbedpaaaGreatDoor
