/-
  DERIVED. GIVEN WITH THE SEED: THE CARDS: each row of YtmgpifkekofacaaGreatDoorRows.lean that lists a variable, with what it lists TIED to the program's text (the seventh form; the later family's looks); each row that meets fmt, with fmt's text TOLD by the authors' own Lean function (tested against real Go, not proved from fmt's source: count such statements apart). THE CARD IS WHAT COUNTS. Prove the row's statement (the work); the ties are given (YtmgpifkekofacaaGreatDoorTie.lean); close each card by the builder's one call (the guide's Derived/Test/ToyasCard.lean, 'card_holds'). Laid BY PROGRAM, IN A SANDBOX (cutbox-door.mjs). By AI agents, Wed Nov 11 2026. No macro, syntax, notation, axiom, sorry.
-/
import Derived.Test.YtmgpifkekofacaaGreatDoorRows
import GoSem.ClaimSeven
namespace Go.Proofs.YtmgpifkekofacaaGreatDoor
namespace Rows

/-- THE TIED CARD OF 'talweglaw11.TreeParses'. -/
def treeParsesCard : Claim7 := { stood := { row := treeParsesRow, standIns := [], harness := (true, "8db630988ed388c0cb758a5cc9ada2dd0114342f01dc20fa802387ea2b35e090"), looks := true }, kinds := [], alts := [], laidByText := true, laidKinds := [.data, .data, .data, .data, .sentinel, .sentinel, .pinned], laidTests := true, laidLooks := .later }
def TreeParsesCardSaid : Prop := Claim7.holds Tryz.pinned (.plain (OpenSpec.ofChange treeParsesSpec)) treeParsesCard

/-- THE TIED CARD OF 'talweglaw11.TreeRights'. -/
def treeRightsCard : Claim7 := { stood := { row := treeRightsRow, standIns := [], harness := (true, "8db630988ed388c0cb758a5cc9ada2dd0114342f01dc20fa802387ea2b35e090"), looks := true }, kinds := [], alts := [], laidByText := true, laidKinds := [.data, .data, .data, .data, .sentinel, .sentinel, .pinned], laidTests := true, laidLooks := .later }
def TreeRightsCardSaid : Prop := Claim7.holds Tryz.pinned (.plain (OpenSpec.ofChange treeRightsSpec)) treeRightsCard

/-- THE TIED CARD OF 'talweglaw11.TreeRight'. -/
def treeRightCard : Claim7 := { stood := { row := treeRightRow, standIns := [], harness := (true, "8db630988ed388c0cb758a5cc9ada2dd0114342f01dc20fa802387ea2b35e090"), looks := true }, kinds := [], alts := [], laidByText := true, laidKinds := [.data, .data, .data, .data, .sentinel, .sentinel, .pinned], laidTests := true, laidLooks := .later }
def TreeRightCardSaid : Prop := Claim7.holds Tryz.pinned (.plain (OpenSpec.ofChange treeRightSpec)) treeRightCard

/-- THE TIED CARD OF 'talweglaw11.TreeJoins'. -/
def treeJoinsCard : Claim7 := { stood := { row := treeJoinsRow, standIns := [], harness := (true, "8db630988ed388c0cb758a5cc9ada2dd0114342f01dc20fa802387ea2b35e090"), looks := true }, kinds := [], alts := [], laidByText := true, laidKinds := [.data, .data, .data, .data, .sentinel, .sentinel, .pinned], laidTests := true, laidLooks := .later }
def TreeJoinsCardSaid : Prop := Claim7.holds Tryz.pinned (.plain (OpenSpec.ofChange treeJoinsSpec)) treeJoinsCard

/-- THE TIED CARD OF 'talweglaw11.TreeBlanks'. -/
def treeBlanksCard : Claim7 := { stood := { row := treeBlanksRow, standIns := [], harness := (true, "8db630988ed388c0cb758a5cc9ada2dd0114342f01dc20fa802387ea2b35e090"), looks := true }, kinds := [], alts := [], laidByText := true, laidKinds := [.data, .data, .data, .data, .sentinel, .sentinel, .pinned], laidTests := true, laidLooks := .later }
def TreeBlanksCardSaid : Prop := Claim7.holds Tryz.pinned (.plain (OpenSpec.ofChange treeBlanksSpec)) treeBlanksCard

/-- THE TIED CARD OF 'talweglaw11.TreeEnds'. -/
def treeEndsCard : Claim7 := { stood := { row := treeEndsRow, standIns := [], harness := (true, "8db630988ed388c0cb758a5cc9ada2dd0114342f01dc20fa802387ea2b35e090"), looks := true }, kinds := [], alts := [], laidByText := true, laidKinds := [.data, .data, .data, .data, .sentinel, .sentinel, .pinned], laidTests := true, laidLooks := .later }
def TreeEndsCardSaid : Prop := Claim7.holds Tryz.pinned (.plain (OpenSpec.ofChange treeEndsSpec)) treeEndsCard

/-- THE TIED CARD OF 'talweglaw13.ScopeWhere'. -/
def scopeWhereCard : Claim7 := { stood := { row := scopeWhereRow, standIns := [], harness := (true, "8db630988ed388c0cb758a5cc9ada2dd0114342f01dc20fa802387ea2b35e090"), looks := true }, kinds := [], alts := [], laidByText := true, laidKinds := [.data, .data, .data, .data, .sentinel, .sentinel, .pinned], laidTests := true, laidLooks := .later }
def ScopeWhereCardSaid : Prop := Claim7.holds Tryz.pinned (.plain (OpenSpec.ofChange scopeWhereSpec)) scopeWhereCard

/-- THE TIED CARD OF 'talweglaw13.ScopeMore'. -/
def scopeMoreCard : Claim7 := { stood := { row := scopeMoreRow, standIns := [], harness := (true, "8db630988ed388c0cb758a5cc9ada2dd0114342f01dc20fa802387ea2b35e090"), looks := true }, kinds := [], alts := [], laidByText := true, laidKinds := [.data, .data, .data, .data, .sentinel, .sentinel, .pinned], laidTests := true, laidLooks := .later }
def ScopeMoreCardSaid : Prop := Claim7.holds Tryz.pinned (.plain (OpenSpec.ofChange scopeMoreSpec)) scopeMoreCard

/-- THE TIED CARD OF 'talweglaw13.ScopeRenames'. -/
def scopeRenamesCard : Claim7 := { stood := { row := scopeRenamesRow, standIns := [], harness := (true, "8db630988ed388c0cb758a5cc9ada2dd0114342f01dc20fa802387ea2b35e090"), looks := true }, kinds := [], alts := [], laidByText := true, laidKinds := [.data, .data, .data, .data, .sentinel, .sentinel, .pinned], laidTests := true, laidLooks := .later }
def ScopeRenamesCardSaid : Prop := Claim7.holds Tryz.pinned (.plain (OpenSpec.ofChange scopeRenamesSpec)) scopeRenamesCard

/-- THE TIED CARD OF 'talweglaw13.ScopeFront'. -/
def scopeFrontCard : Claim7 := { stood := { row := scopeFrontRow, standIns := [], harness := (true, "8db630988ed388c0cb758a5cc9ada2dd0114342f01dc20fa802387ea2b35e090"), looks := true }, kinds := [], alts := [], laidByText := true, laidKinds := [.data, .data, .data, .data, .sentinel, .sentinel, .pinned], laidTests := true, laidLooks := .later }
def ScopeFrontCardSaid : Prop := Claim7.holds Tryz.pinned (.plain (OpenSpec.ofChange scopeFrontSpec)) scopeFrontCard

/-- THE TIED CARD OF 'talweglaw13.ScopeChecks'. -/
def scopeChecksCard : Claim7 := { stood := { row := scopeChecksRow, standIns := [], harness := (true, "8db630988ed388c0cb758a5cc9ada2dd0114342f01dc20fa802387ea2b35e090"), looks := true }, kinds := [], alts := [], laidByText := true, laidKinds := [.data, .data, .data, .data, .sentinel, .sentinel, .pinned], laidTests := true, laidLooks := .later }
def ScopeChecksCardSaid : Prop := Claim7.holds Tryz.pinned (.plain (OpenSpec.ofChange scopeChecksSpec)) scopeChecksCard

/-- THE SECOND FORM's CARD OF 'talweglaw11.TreeParses'. -/
def treeParsesUptoCard : Claim7 := { stood := { row := treeParsesUptoRow, standIns := [], harness := (true, "8db630988ed388c0cb758a5cc9ada2dd0114342f01dc20fa802387ea2b35e090"), looks := true }, kinds := [], alts := [], laidByText := true, laidKinds := [.data, .data, .data, .data, .sentinel, .sentinel, .pinned], laidTests := true, laidLooks := .later }
def TreeParsesUptoCardSaid : Prop := Claim7.holds Tryz.pinned (.plain (OpenSpec.upto treeParsesSpec)) treeParsesUptoCard

/-- THE SECOND FORM's CARD OF 'talweglaw11.TreeRights'. -/
def treeRightsUptoCard : Claim7 := { stood := { row := treeRightsUptoRow, standIns := [], harness := (true, "8db630988ed388c0cb758a5cc9ada2dd0114342f01dc20fa802387ea2b35e090"), looks := true }, kinds := [], alts := [], laidByText := true, laidKinds := [.data, .data, .data, .data, .sentinel, .sentinel, .pinned], laidTests := true, laidLooks := .later }
def TreeRightsUptoCardSaid : Prop := Claim7.holds Tryz.pinned (.plain (OpenSpec.upto treeRightsSpec)) treeRightsUptoCard

/-- THE SECOND FORM's CARD OF 'talweglaw11.TreeRight'. -/
def treeRightUptoCard : Claim7 := { stood := { row := treeRightUptoRow, standIns := [], harness := (true, "8db630988ed388c0cb758a5cc9ada2dd0114342f01dc20fa802387ea2b35e090"), looks := true }, kinds := [], alts := [], laidByText := true, laidKinds := [.data, .data, .data, .data, .sentinel, .sentinel, .pinned], laidTests := true, laidLooks := .later }
def TreeRightUptoCardSaid : Prop := Claim7.holds Tryz.pinned (.plain (OpenSpec.upto treeRightSpec)) treeRightUptoCard

/-- THE SECOND FORM's CARD OF 'talweglaw11.TreeJoins'. -/
def treeJoinsUptoCard : Claim7 := { stood := { row := treeJoinsUptoRow, standIns := [], harness := (true, "8db630988ed388c0cb758a5cc9ada2dd0114342f01dc20fa802387ea2b35e090"), looks := true }, kinds := [], alts := [], laidByText := true, laidKinds := [.data, .data, .data, .data, .sentinel, .sentinel, .pinned], laidTests := true, laidLooks := .later }
def TreeJoinsUptoCardSaid : Prop := Claim7.holds Tryz.pinned (.plain (OpenSpec.upto treeJoinsSpec)) treeJoinsUptoCard

/-- THE SECOND FORM's CARD OF 'talweglaw11.TreeBlanks'. -/
def treeBlanksUptoCard : Claim7 := { stood := { row := treeBlanksUptoRow, standIns := [], harness := (true, "8db630988ed388c0cb758a5cc9ada2dd0114342f01dc20fa802387ea2b35e090"), looks := true }, kinds := [], alts := [], laidByText := true, laidKinds := [.data, .data, .data, .data, .sentinel, .sentinel, .pinned], laidTests := true, laidLooks := .later }
def TreeBlanksUptoCardSaid : Prop := Claim7.holds Tryz.pinned (.plain (OpenSpec.upto treeBlanksSpec)) treeBlanksUptoCard

/-- THE SECOND FORM's CARD OF 'talweglaw11.TreeEnds'. -/
def treeEndsUptoCard : Claim7 := { stood := { row := treeEndsUptoRow, standIns := [], harness := (true, "8db630988ed388c0cb758a5cc9ada2dd0114342f01dc20fa802387ea2b35e090"), looks := true }, kinds := [], alts := [], laidByText := true, laidKinds := [.data, .data, .data, .data, .sentinel, .sentinel, .pinned], laidTests := true, laidLooks := .later }
def TreeEndsUptoCardSaid : Prop := Claim7.holds Tryz.pinned (.plain (OpenSpec.upto treeEndsSpec)) treeEndsUptoCard

/-- THE SECOND FORM's CARD OF 'talweglaw13.ScopeWhere'. -/
def scopeWhereUptoCard : Claim7 := { stood := { row := scopeWhereUptoRow, standIns := [], harness := (true, "8db630988ed388c0cb758a5cc9ada2dd0114342f01dc20fa802387ea2b35e090"), looks := true }, kinds := [], alts := [], laidByText := true, laidKinds := [.data, .data, .data, .data, .sentinel, .sentinel, .pinned], laidTests := true, laidLooks := .later }
def ScopeWhereUptoCardSaid : Prop := Claim7.holds Tryz.pinned (.plain (OpenSpec.upto scopeWhereSpec)) scopeWhereUptoCard

/-- THE SECOND FORM's CARD OF 'talweglaw13.ScopeMore'. -/
def scopeMoreUptoCard : Claim7 := { stood := { row := scopeMoreUptoRow, standIns := [], harness := (true, "8db630988ed388c0cb758a5cc9ada2dd0114342f01dc20fa802387ea2b35e090"), looks := true }, kinds := [], alts := [], laidByText := true, laidKinds := [.data, .data, .data, .data, .sentinel, .sentinel, .pinned], laidTests := true, laidLooks := .later }
def ScopeMoreUptoCardSaid : Prop := Claim7.holds Tryz.pinned (.plain (OpenSpec.upto scopeMoreSpec)) scopeMoreUptoCard

/-- THE SECOND FORM's CARD OF 'talweglaw13.ScopeRenames'. -/
def scopeRenamesUptoCard : Claim7 := { stood := { row := scopeRenamesUptoRow, standIns := [], harness := (true, "8db630988ed388c0cb758a5cc9ada2dd0114342f01dc20fa802387ea2b35e090"), looks := true }, kinds := [], alts := [], laidByText := true, laidKinds := [.data, .data, .data, .data, .sentinel, .sentinel, .pinned], laidTests := true, laidLooks := .later }
def ScopeRenamesUptoCardSaid : Prop := Claim7.holds Tryz.pinned (.plain (OpenSpec.upto scopeRenamesSpec)) scopeRenamesUptoCard

/-- THE SECOND FORM's CARD OF 'talweglaw13.ScopeFront'. -/
def scopeFrontUptoCard : Claim7 := { stood := { row := scopeFrontUptoRow, standIns := [], harness := (true, "8db630988ed388c0cb758a5cc9ada2dd0114342f01dc20fa802387ea2b35e090"), looks := true }, kinds := [], alts := [], laidByText := true, laidKinds := [.data, .data, .data, .data, .sentinel, .sentinel, .pinned], laidTests := true, laidLooks := .later }
def ScopeFrontUptoCardSaid : Prop := Claim7.holds Tryz.pinned (.plain (OpenSpec.upto scopeFrontSpec)) scopeFrontUptoCard

/-- THE SECOND FORM's CARD OF 'talweglaw13.ScopeChecks'. -/
def scopeChecksUptoCard : Claim7 := { stood := { row := scopeChecksUptoRow, standIns := [], harness := (true, "8db630988ed388c0cb758a5cc9ada2dd0114342f01dc20fa802387ea2b35e090"), looks := true }, kinds := [], alts := [], laidByText := true, laidKinds := [.data, .data, .data, .data, .sentinel, .sentinel, .pinned], laidTests := true, laidLooks := .later }
def ScopeChecksUptoCardSaid : Prop := Claim7.holds Tryz.pinned (.plain (OpenSpec.upto scopeChecksSpec)) scopeChecksUptoCard
end Rows
end Go.Proofs.YtmgpifkekofacaaGreatDoor
