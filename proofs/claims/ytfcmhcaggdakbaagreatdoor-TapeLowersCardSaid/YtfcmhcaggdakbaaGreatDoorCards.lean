/-
  DERIVED. GIVEN WITH THE SEED: THE CARDS: each row of YtfcmhcaggdakbaaGreatDoorRows.lean that lists a variable, with what it lists TIED to the program's text (the seventh form; the later family's looks); each row that meets fmt, with fmt's text TOLD by the authors' own Lean function (tested against real Go, not proved from fmt's source: count such statements apart). THE CARD IS WHAT COUNTS. Prove the row's statement (the work); the ties are given (YtfcmhcaggdakbaaGreatDoorTie.lean); close each card by the builder's one call (the guide's Derived/Test/ToyasCard.lean, 'card_holds'). Laid BY PROGRAM, IN A SANDBOX (cutbox-door.mjs). By AI agents, Wed Nov 11 2026. No macro, syntax, notation, axiom, sorry.
-/
import Derived.Test.YtfcmhcaggdakbaaGreatDoorRows
import GoSem.ClaimSeven
namespace Go.Proofs.YtfcmhcaggdakbaaGreatDoor
namespace Rows

/-- THE TIED CARD OF 'talweglaw13.ScopeMore'. -/
def scopeMoreCard : Claim7 := { stood := { row := scopeMoreRow, standIns := [], harness := (true, "0ca56b71036be3e3797db323327b276f7efcc072c278a3af7a2bf417cac0f595"), looks := true }, kinds := [], alts := [], laidByText := true, laidKinds := [.data, .data, .data, .data, .sentinel, .sentinel, .pinned], laidTests := true, laidLooks := .later }
def ScopeMoreCardSaid : Prop := Claim7.holds Tryz.pinned (.plain (OpenSpec.ofChange scopeMoreSpec)) scopeMoreCard

/-- THE TIED CARD OF 'talweglaw13.ScopeFront'. -/
def scopeFrontCard : Claim7 := { stood := { row := scopeFrontRow, standIns := [], harness := (true, "0ca56b71036be3e3797db323327b276f7efcc072c278a3af7a2bf417cac0f595"), looks := true }, kinds := [], alts := [], laidByText := true, laidKinds := [.data, .data, .data, .data, .sentinel, .sentinel, .pinned], laidTests := true, laidLooks := .later }
def ScopeFrontCardSaid : Prop := Claim7.holds Tryz.pinned (.plain (OpenSpec.ofChange scopeFrontSpec)) scopeFrontCard

/-- THE TIED CARD OF 'talweglaw12.ShowTells'. -/
def showTellsCard : Claim7 := { stood := { row := showTellsRow, standIns := [], harness := (true, "0ca56b71036be3e3797db323327b276f7efcc072c278a3af7a2bf417cac0f595"), looks := true }, kinds := [], alts := [], laidByText := true, laidKinds := [.data, .data, .data, .data, .sentinel, .sentinel, .pinned], laidTests := true, laidLooks := .later }
def ShowTellsCardSaid : Prop := Claim7.holds Tryz.pinned (.plain (OpenSpec.ofChange showTellsSpec)) showTellsCard

/-- THE TIED CARD OF 'talweglaw12.ShowBack'. -/
def showBackCard : Claim7 := { stood := { row := showBackRow, standIns := [], harness := (true, "0ca56b71036be3e3797db323327b276f7efcc072c278a3af7a2bf417cac0f595"), looks := true }, kinds := [], alts := [], laidByText := true, laidKinds := [.data, .data, .data, .data, .sentinel, .sentinel, .pinned], laidTests := true, laidLooks := .later }
def ShowBackCardSaid : Prop := Claim7.holds Tryz.pinned (.plain (OpenSpec.ofChange showBackSpec)) showBackCard

/-- THE TIED CARD OF 'talweglaw12.ShowAgain'. -/
def showAgainCard : Claim7 := { stood := { row := showAgainRow, standIns := [], harness := (true, "0ca56b71036be3e3797db323327b276f7efcc072c278a3af7a2bf417cac0f595"), looks := true }, kinds := [], alts := [], laidByText := true, laidKinds := [.data, .data, .data, .data, .sentinel, .sentinel, .pinned], laidTests := true, laidLooks := .later }
def ShowAgainCardSaid : Prop := Claim7.holds Tryz.pinned (.plain (OpenSpec.ofChange showAgainSpec)) showAgainCard

/-- THE TIED CARD OF 'talweglaw12.ShowUnlike'. -/
def showUnlikeCard : Claim7 := { stood := { row := showUnlikeRow, standIns := [], harness := (true, "0ca56b71036be3e3797db323327b276f7efcc072c278a3af7a2bf417cac0f595"), looks := true }, kinds := [], alts := [], laidByText := true, laidKinds := [.data, .data, .data, .data, .sentinel, .sentinel, .pinned], laidTests := true, laidLooks := .later }
def ShowUnlikeCardSaid : Prop := Claim7.holds Tryz.pinned (.plain (OpenSpec.ofChange showUnlikeSpec)) showUnlikeCard

/-- THE TIED CARD OF 'talweglaw12.ShowNeeds'. -/
def showNeedsCard : Claim7 := { stood := { row := showNeedsRow, standIns := [], harness := (true, "0ca56b71036be3e3797db323327b276f7efcc072c278a3af7a2bf417cac0f595"), looks := true }, kinds := [], alts := [], laidByText := true, laidKinds := [.data, .data, .data, .data, .sentinel, .sentinel, .pinned], laidTests := true, laidLooks := .later }
def ShowNeedsCardSaid : Prop := Claim7.holds Tryz.pinned (.plain (OpenSpec.ofChange showNeedsSpec)) showNeedsCard

/-- THE TIED CARD OF 'talweglaw14.TapeLowers'. -/
def tapeLowersCard : Claim7 := { stood := { row := tapeLowersRow, standIns := [], harness := (true, "0ca56b71036be3e3797db323327b276f7efcc072c278a3af7a2bf417cac0f595"), looks := true }, kinds := [], alts := [], laidByText := true, laidKinds := [.data, .data, .data, .data, .sentinel, .sentinel, .pinned], laidTests := true, laidLooks := .later }
def TapeLowersCardSaid : Prop := Claim7.holds Tryz.pinned (.plain (OpenSpec.ofChange tapeLowersSpec)) tapeLowersCard

/-- THE TIED CARD OF 'talweglaw14.TapeRights'. -/
def tapeRightsCard : Claim7 := { stood := { row := tapeRightsRow, standIns := [], harness := (true, "0ca56b71036be3e3797db323327b276f7efcc072c278a3af7a2bf417cac0f595"), looks := true }, kinds := [], alts := [], laidByText := true, laidKinds := [.data, .data, .data, .data, .sentinel, .sentinel, .pinned], laidTests := true, laidLooks := .later }
def TapeRightsCardSaid : Prop := Claim7.holds Tryz.pinned (.plain (OpenSpec.ofChange tapeRightsSpec)) tapeRightsCard

/-- THE TIED CARD OF 'talweglaw14.TapeFront'. -/
def tapeFrontCard : Claim7 := { stood := { row := tapeFrontRow, standIns := [], harness := (true, "0ca56b71036be3e3797db323327b276f7efcc072c278a3af7a2bf417cac0f595"), looks := true }, kinds := [], alts := [], laidByText := true, laidKinds := [.data, .data, .data, .data, .sentinel, .sentinel, .pinned], laidTests := true, laidLooks := .later }
def TapeFrontCardSaid : Prop := Claim7.holds Tryz.pinned (.plain (OpenSpec.ofChange tapeFrontSpec)) tapeFrontCard

/-- THE TIED CARD OF 'talweglaw14.TapeHeavy'. -/
def tapeHeavyCard : Claim7 := { stood := { row := tapeHeavyRow, standIns := [], harness := (true, "0ca56b71036be3e3797db323327b276f7efcc072c278a3af7a2bf417cac0f595"), looks := true }, kinds := [], alts := [], laidByText := true, laidKinds := [.data, .data, .data, .data, .sentinel, .sentinel, .pinned], laidTests := true, laidLooks := .later }
def TapeHeavyCardSaid : Prop := Claim7.holds Tryz.pinned (.plain (OpenSpec.ofChange tapeHeavySpec)) tapeHeavyCard

/-- THE TIED CARD OF 'talweglaw14.TapeRight'. -/
def tapeRightCard : Claim7 := { stood := { row := tapeRightRow, standIns := [], harness := (true, "0ca56b71036be3e3797db323327b276f7efcc072c278a3af7a2bf417cac0f595"), looks := true }, kinds := [], alts := [], laidByText := true, laidKinds := [.data, .data, .data, .data, .sentinel, .sentinel, .pinned], laidTests := true, laidLooks := .later }
def TapeRightCardSaid : Prop := Claim7.holds Tryz.pinned (.plain (OpenSpec.ofChange tapeRightSpec)) tapeRightCard

/-- THE SECOND FORM's CARD OF 'talweglaw13.ScopeMore'. -/
def scopeMoreUptoCard : Claim7 := { stood := { row := scopeMoreUptoRow, standIns := [], harness := (true, "0ca56b71036be3e3797db323327b276f7efcc072c278a3af7a2bf417cac0f595"), looks := true }, kinds := [], alts := [], laidByText := true, laidKinds := [.data, .data, .data, .data, .sentinel, .sentinel, .pinned], laidTests := true, laidLooks := .later }
def ScopeMoreUptoCardSaid : Prop := Claim7.holds Tryz.pinned (.plain (OpenSpec.upto scopeMoreSpec)) scopeMoreUptoCard

/-- THE SECOND FORM's CARD OF 'talweglaw13.ScopeFront'. -/
def scopeFrontUptoCard : Claim7 := { stood := { row := scopeFrontUptoRow, standIns := [], harness := (true, "0ca56b71036be3e3797db323327b276f7efcc072c278a3af7a2bf417cac0f595"), looks := true }, kinds := [], alts := [], laidByText := true, laidKinds := [.data, .data, .data, .data, .sentinel, .sentinel, .pinned], laidTests := true, laidLooks := .later }
def ScopeFrontUptoCardSaid : Prop := Claim7.holds Tryz.pinned (.plain (OpenSpec.upto scopeFrontSpec)) scopeFrontUptoCard

/-- THE SECOND FORM's CARD OF 'talweglaw12.ShowTells'. -/
def showTellsUptoCard : Claim7 := { stood := { row := showTellsUptoRow, standIns := [], harness := (true, "0ca56b71036be3e3797db323327b276f7efcc072c278a3af7a2bf417cac0f595"), looks := true }, kinds := [], alts := [], laidByText := true, laidKinds := [.data, .data, .data, .data, .sentinel, .sentinel, .pinned], laidTests := true, laidLooks := .later }
def ShowTellsUptoCardSaid : Prop := Claim7.holds Tryz.pinned (.plain (OpenSpec.upto showTellsSpec)) showTellsUptoCard

/-- THE SECOND FORM's CARD OF 'talweglaw12.ShowBack'. -/
def showBackUptoCard : Claim7 := { stood := { row := showBackUptoRow, standIns := [], harness := (true, "0ca56b71036be3e3797db323327b276f7efcc072c278a3af7a2bf417cac0f595"), looks := true }, kinds := [], alts := [], laidByText := true, laidKinds := [.data, .data, .data, .data, .sentinel, .sentinel, .pinned], laidTests := true, laidLooks := .later }
def ShowBackUptoCardSaid : Prop := Claim7.holds Tryz.pinned (.plain (OpenSpec.upto showBackSpec)) showBackUptoCard

/-- THE SECOND FORM's CARD OF 'talweglaw12.ShowAgain'. -/
def showAgainUptoCard : Claim7 := { stood := { row := showAgainUptoRow, standIns := [], harness := (true, "0ca56b71036be3e3797db323327b276f7efcc072c278a3af7a2bf417cac0f595"), looks := true }, kinds := [], alts := [], laidByText := true, laidKinds := [.data, .data, .data, .data, .sentinel, .sentinel, .pinned], laidTests := true, laidLooks := .later }
def ShowAgainUptoCardSaid : Prop := Claim7.holds Tryz.pinned (.plain (OpenSpec.upto showAgainSpec)) showAgainUptoCard

/-- THE SECOND FORM's CARD OF 'talweglaw12.ShowUnlike'. -/
def showUnlikeUptoCard : Claim7 := { stood := { row := showUnlikeUptoRow, standIns := [], harness := (true, "0ca56b71036be3e3797db323327b276f7efcc072c278a3af7a2bf417cac0f595"), looks := true }, kinds := [], alts := [], laidByText := true, laidKinds := [.data, .data, .data, .data, .sentinel, .sentinel, .pinned], laidTests := true, laidLooks := .later }
def ShowUnlikeUptoCardSaid : Prop := Claim7.holds Tryz.pinned (.plain (OpenSpec.upto showUnlikeSpec)) showUnlikeUptoCard

/-- THE SECOND FORM's CARD OF 'talweglaw12.ShowNeeds'. -/
def showNeedsUptoCard : Claim7 := { stood := { row := showNeedsUptoRow, standIns := [], harness := (true, "0ca56b71036be3e3797db323327b276f7efcc072c278a3af7a2bf417cac0f595"), looks := true }, kinds := [], alts := [], laidByText := true, laidKinds := [.data, .data, .data, .data, .sentinel, .sentinel, .pinned], laidTests := true, laidLooks := .later }
def ShowNeedsUptoCardSaid : Prop := Claim7.holds Tryz.pinned (.plain (OpenSpec.upto showNeedsSpec)) showNeedsUptoCard

/-- THE SECOND FORM's CARD OF 'talweglaw14.TapeLowers'. -/
def tapeLowersUptoCard : Claim7 := { stood := { row := tapeLowersUptoRow, standIns := [], harness := (true, "0ca56b71036be3e3797db323327b276f7efcc072c278a3af7a2bf417cac0f595"), looks := true }, kinds := [], alts := [], laidByText := true, laidKinds := [.data, .data, .data, .data, .sentinel, .sentinel, .pinned], laidTests := true, laidLooks := .later }
def TapeLowersUptoCardSaid : Prop := Claim7.holds Tryz.pinned (.plain (OpenSpec.upto tapeLowersSpec)) tapeLowersUptoCard

/-- THE SECOND FORM's CARD OF 'talweglaw14.TapeRights'. -/
def tapeRightsUptoCard : Claim7 := { stood := { row := tapeRightsUptoRow, standIns := [], harness := (true, "0ca56b71036be3e3797db323327b276f7efcc072c278a3af7a2bf417cac0f595"), looks := true }, kinds := [], alts := [], laidByText := true, laidKinds := [.data, .data, .data, .data, .sentinel, .sentinel, .pinned], laidTests := true, laidLooks := .later }
def TapeRightsUptoCardSaid : Prop := Claim7.holds Tryz.pinned (.plain (OpenSpec.upto tapeRightsSpec)) tapeRightsUptoCard

/-- THE SECOND FORM's CARD OF 'talweglaw14.TapeFront'. -/
def tapeFrontUptoCard : Claim7 := { stood := { row := tapeFrontUptoRow, standIns := [], harness := (true, "0ca56b71036be3e3797db323327b276f7efcc072c278a3af7a2bf417cac0f595"), looks := true }, kinds := [], alts := [], laidByText := true, laidKinds := [.data, .data, .data, .data, .sentinel, .sentinel, .pinned], laidTests := true, laidLooks := .later }
def TapeFrontUptoCardSaid : Prop := Claim7.holds Tryz.pinned (.plain (OpenSpec.upto tapeFrontSpec)) tapeFrontUptoCard

/-- THE SECOND FORM's CARD OF 'talweglaw14.TapeHeavy'. -/
def tapeHeavyUptoCard : Claim7 := { stood := { row := tapeHeavyUptoRow, standIns := [], harness := (true, "0ca56b71036be3e3797db323327b276f7efcc072c278a3af7a2bf417cac0f595"), looks := true }, kinds := [], alts := [], laidByText := true, laidKinds := [.data, .data, .data, .data, .sentinel, .sentinel, .pinned], laidTests := true, laidLooks := .later }
def TapeHeavyUptoCardSaid : Prop := Claim7.holds Tryz.pinned (.plain (OpenSpec.upto tapeHeavySpec)) tapeHeavyUptoCard

/-- THE SECOND FORM's CARD OF 'talweglaw14.TapeRight'. -/
def tapeRightUptoCard : Claim7 := { stood := { row := tapeRightUptoRow, standIns := [], harness := (true, "0ca56b71036be3e3797db323327b276f7efcc072c278a3af7a2bf417cac0f595"), looks := true }, kinds := [], alts := [], laidByText := true, laidKinds := [.data, .data, .data, .data, .sentinel, .sentinel, .pinned], laidTests := true, laidLooks := .later }
def TapeRightUptoCardSaid : Prop := Claim7.holds Tryz.pinned (.plain (OpenSpec.upto tapeRightSpec)) tapeRightUptoCard
end Rows
end Go.Proofs.YtfcmhcaggdakbaaGreatDoor
