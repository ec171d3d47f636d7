/-
  DERIVED. GIVEN WITH THE SEED: THE CARDS: each row of YtcdgncmkkknmlaaGreatDoorRows.lean that lists a variable, with what it lists TIED to the program's text (the seventh form; the later family's looks); each row that meets fmt, with fmt's text TOLD by the authors' own Lean function (tested against real Go, not proved from fmt's source: count such statements apart). THE CARD IS WHAT COUNTS. Prove the row's statement (the work); the ties are given (YtcdgncmkkknmlaaGreatDoorTie.lean); close each card by the builder's one call (the guide's Derived/Test/ToyasCard.lean, 'card_holds'). Laid BY PROGRAM, IN A SANDBOX (cutbox-door.mjs). By AI agents, Wed Nov 11 2026. No macro, syntax, notation, axiom, sorry.
-/
import Derived.Test.YtcdgncmkkknmlaaGreatDoorRows
import GoSem.ClaimSeven
namespace Go.Proofs.YtcdgncmkkknmlaaGreatDoor
namespace Rows

/-- THE TIED CARD OF 'regulatorlaw28.SiteMatchesReference'. -/
def siteMatchesReferenceCard : Claim7 := { stood := { row := siteMatchesReferenceRow, standIns := [], harness := (true, "bdbce13e0338d1066a521fb25f624607550d77b794f55120ee3bc7ffadf94d56"), looks := false }, kinds := [], alts := [], laidByText := true, laidKinds := [.data, .data, .data], laidTests := true, laidLooks := .later }
def SiteMatchesReferenceCardSaid : Prop := Claim7.holds Tryz.pinned (.plain (OpenSpec.ofChange siteMatchesReferenceSpec)) siteMatchesReferenceCard

/-- THE TIED CARD OF 'regulatorlaw28.SitePeers'. -/
def sitePeersCard : Claim7 := { stood := { row := sitePeersRow, standIns := [], harness := (true, "bdbce13e0338d1066a521fb25f624607550d77b794f55120ee3bc7ffadf94d56"), looks := false }, kinds := [], alts := [], laidByText := true, laidKinds := [.data, .data, .data], laidTests := true, laidLooks := .later }
def SitePeersCardSaid : Prop := Claim7.holds Tryz.pinned (.plain (OpenSpec.ofChange sitePeersSpec)) sitePeersCard

/-- THE TIED CARD OF 'regulatorlaw28.SiteLonger'. -/
def siteLongerCard : Claim7 := { stood := { row := siteLongerRow, standIns := [], harness := (true, "bdbce13e0338d1066a521fb25f624607550d77b794f55120ee3bc7ffadf94d56"), looks := false }, kinds := [], alts := [], laidByText := true, laidKinds := [.data, .data, .data], laidTests := true, laidLooks := .later }
def SiteLongerCardSaid : Prop := Claim7.holds Tryz.pinned (.plain (OpenSpec.ofChange siteLongerSpec)) siteLongerCard

/-- THE TIED CARD OF 'regulatorlaw28.SiteOthers'. -/
def siteOthersCard : Claim7 := { stood := { row := siteOthersRow, standIns := [], harness := (true, "bdbce13e0338d1066a521fb25f624607550d77b794f55120ee3bc7ffadf94d56"), looks := false }, kinds := [], alts := [], laidByText := true, laidKinds := [.data, .data, .data], laidTests := true, laidLooks := .later }
def SiteOthersCardSaid : Prop := Claim7.holds Tryz.pinned (.plain (OpenSpec.ofChange siteOthersSpec)) siteOthersCard

/-- THE TIED CARD OF 'regulatorlaw28.SiteRate'. -/
def siteRateCard : Claim7 := { stood := { row := siteRateRow, standIns := [], harness := (true, "bdbce13e0338d1066a521fb25f624607550d77b794f55120ee3bc7ffadf94d56"), looks := false }, kinds := [], alts := [], laidByText := true, laidKinds := [.data, .data, .data], laidTests := true, laidLooks := .later }
def SiteRateCardSaid : Prop := Claim7.holds Tryz.pinned (.plain (OpenSpec.ofChange siteRateSpec)) siteRateCard

/-- THE TIED CARD OF 'regulatorlaw28.SiteKeys'. -/
def siteKeysCard : Claim7 := { stood := { row := siteKeysRow, standIns := [], harness := (true, "bdbce13e0338d1066a521fb25f624607550d77b794f55120ee3bc7ffadf94d56"), looks := false }, kinds := [], alts := [], laidByText := true, laidKinds := [.data, .data, .data], laidTests := true, laidLooks := .later }
def SiteKeysCardSaid : Prop := Claim7.holds Tryz.pinned (.plain (OpenSpec.ofChange siteKeysSpec)) siteKeysCard

/-- THE SECOND FORM's CARD OF 'regulatorlaw28.SiteMatchesReference'. -/
def siteMatchesReferenceUptoCard : Claim7 := { stood := { row := siteMatchesReferenceUptoRow, standIns := [], harness := (true, "bdbce13e0338d1066a521fb25f624607550d77b794f55120ee3bc7ffadf94d56"), looks := false }, kinds := [], alts := [], laidByText := true, laidKinds := [.data, .data, .data], laidTests := true, laidLooks := .later }
def SiteMatchesReferenceUptoCardSaid : Prop := Claim7.holds Tryz.pinned (.plain (OpenSpec.upto siteMatchesReferenceSpec)) siteMatchesReferenceUptoCard

/-- THE SECOND FORM's CARD OF 'regulatorlaw28.SitePeers'. -/
def sitePeersUptoCard : Claim7 := { stood := { row := sitePeersUptoRow, standIns := [], harness := (true, "bdbce13e0338d1066a521fb25f624607550d77b794f55120ee3bc7ffadf94d56"), looks := false }, kinds := [], alts := [], laidByText := true, laidKinds := [.data, .data, .data], laidTests := true, laidLooks := .later }
def SitePeersUptoCardSaid : Prop := Claim7.holds Tryz.pinned (.plain (OpenSpec.upto sitePeersSpec)) sitePeersUptoCard

/-- THE SECOND FORM's CARD OF 'regulatorlaw28.SiteLonger'. -/
def siteLongerUptoCard : Claim7 := { stood := { row := siteLongerUptoRow, standIns := [], harness := (true, "bdbce13e0338d1066a521fb25f624607550d77b794f55120ee3bc7ffadf94d56"), looks := false }, kinds := [], alts := [], laidByText := true, laidKinds := [.data, .data, .data], laidTests := true, laidLooks := .later }
def SiteLongerUptoCardSaid : Prop := Claim7.holds Tryz.pinned (.plain (OpenSpec.upto siteLongerSpec)) siteLongerUptoCard

/-- THE SECOND FORM's CARD OF 'regulatorlaw28.SiteOthers'. -/
def siteOthersUptoCard : Claim7 := { stood := { row := siteOthersUptoRow, standIns := [], harness := (true, "bdbce13e0338d1066a521fb25f624607550d77b794f55120ee3bc7ffadf94d56"), looks := false }, kinds := [], alts := [], laidByText := true, laidKinds := [.data, .data, .data], laidTests := true, laidLooks := .later }
def SiteOthersUptoCardSaid : Prop := Claim7.holds Tryz.pinned (.plain (OpenSpec.upto siteOthersSpec)) siteOthersUptoCard

/-- THE SECOND FORM's CARD OF 'regulatorlaw28.SiteRate'. -/
def siteRateUptoCard : Claim7 := { stood := { row := siteRateUptoRow, standIns := [], harness := (true, "bdbce13e0338d1066a521fb25f624607550d77b794f55120ee3bc7ffadf94d56"), looks := false }, kinds := [], alts := [], laidByText := true, laidKinds := [.data, .data, .data], laidTests := true, laidLooks := .later }
def SiteRateUptoCardSaid : Prop := Claim7.holds Tryz.pinned (.plain (OpenSpec.upto siteRateSpec)) siteRateUptoCard

/-- THE SECOND FORM's CARD OF 'regulatorlaw28.SiteKeys'. -/
def siteKeysUptoCard : Claim7 := { stood := { row := siteKeysUptoRow, standIns := [], harness := (true, "bdbce13e0338d1066a521fb25f624607550d77b794f55120ee3bc7ffadf94d56"), looks := false }, kinds := [], alts := [], laidByText := true, laidKinds := [.data, .data, .data], laidTests := true, laidLooks := .later }
def SiteKeysUptoCardSaid : Prop := Claim7.holds Tryz.pinned (.plain (OpenSpec.upto siteKeysSpec)) siteKeysUptoCard
end Rows
end Go.Proofs.YtcdgncmkkknmlaaGreatDoor
