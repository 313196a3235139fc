/-
  DERIVED. GIVEN WITH THE SEED: THE CARDS: each row of YtmflkokhhknlaaaDoorRows.lean that lists a variable, with what it lists TIED to the program's text (the seventh form; the later family's looks); each row that meets fmt, with fmt's text TOLD by the authors' own Lean function (tested against real Go, not proved from fmt's source: count such statements apart). THE CARD IS WHAT COUNTS. Prove the row's statement (the work); the ties are given (YtmflkokhhknlaaaDoorTie.lean); close each card by the builder's one call (the guide's Derived/Test/ToyasCard.lean, 'card_holds'). Laid BY PROGRAM, IN A SANDBOX (cutbox-door.mjs). By AI agents, Wed Nov 11 2026. No macro, syntax, notation, axiom, sorry.
-/
import Derived.Test.YtmflkokhhknlaaaDoorRows
import GoSem.ClaimSeven
namespace Go.Proofs.YtmflkokhhknlaaaDoor
namespace Rows

/-- THE TIED CARD OF 'talweglaw09.SignKinds'. -/
def signKindsCard : Claim7 := { stood := { row := signKindsRow, standIns := [], harness := (true, "1d08e35ecb556d48a307b969adbe3f166b181e20e2273ec7f6c4a314ae18e27f"), looks := false }, kinds := [], alts := [], laidByText := true, laidKinds := [.data, .pinned], laidTests := true, laidLooks := .later }
def SignKindsCardSaid : Prop := Claim7.holds Tryd.pinned (.plain (OpenSpec.ofChange signKindsSpec)) signKindsCard

/-- THE TIED CARD OF 'talweglaw09.SignNext'. -/
def signNextCard : Claim7 := { stood := { row := signNextRow, standIns := [], harness := (true, "1d08e35ecb556d48a307b969adbe3f166b181e20e2273ec7f6c4a314ae18e27f"), looks := false }, kinds := [], alts := [], laidByText := true, laidKinds := [.data, .pinned], laidTests := true, laidLooks := .later }
def SignNextCardSaid : Prop := Claim7.holds Tryd.pinned (.plain (OpenSpec.ofChange signNextSpec)) signNextCard

/-- THE TIED CARD OF 'talweglaw09.SignPlaces'. -/
def signPlacesCard : Claim7 := { stood := { row := signPlacesRow, standIns := [], harness := (true, "1d08e35ecb556d48a307b969adbe3f166b181e20e2273ec7f6c4a314ae18e27f"), looks := false }, kinds := [], alts := [], laidByText := true, laidKinds := [.data, .pinned], laidTests := true, laidLooks := .later }
def SignPlacesCardSaid : Prop := Claim7.holds Tryd.pinned (.plain (OpenSpec.ofChange signPlacesSpec)) signPlacesCard

/-- THE TIED CARD OF 'talweglaw09.SignNames'. -/
def signNamesCard : Claim7 := { stood := { row := signNamesRow, standIns := [], harness := (true, "1d08e35ecb556d48a307b969adbe3f166b181e20e2273ec7f6c4a314ae18e27f"), looks := false }, kinds := [], alts := [], laidByText := true, laidKinds := [.data, .pinned], laidTests := true, laidLooks := .later }
def SignNamesCardSaid : Prop := Claim7.holds Tryd.pinned (.plain (OpenSpec.ofChange signNamesSpec)) signNamesCard

/-- THE TIED CARD OF 'talweglaw09.SignWhole'. -/
def signWholeCard : Claim7 := { stood := { row := signWholeRow, standIns := [], harness := (true, "1d08e35ecb556d48a307b969adbe3f166b181e20e2273ec7f6c4a314ae18e27f"), looks := false }, kinds := [], alts := [], laidByText := true, laidKinds := [.data, .pinned], laidTests := true, laidLooks := .later }
def SignWholeCardSaid : Prop := Claim7.holds Tryd.pinned (.plain (OpenSpec.ofChange signWholeSpec)) signWholeCard

/-- THE TIED CARD OF 'talweglaw09.SignLines'. -/
def signLinesCard : Claim7 := { stood := { row := signLinesRow, standIns := [], harness := (true, "1d08e35ecb556d48a307b969adbe3f166b181e20e2273ec7f6c4a314ae18e27f"), looks := false }, kinds := [], alts := [], laidByText := true, laidKinds := [.data, .pinned], laidTests := true, laidLooks := .later }
def SignLinesCardSaid : Prop := Claim7.holds Tryd.pinned (.plain (OpenSpec.ofChange signLinesSpec)) signLinesCard

/-- THE TIED CARD OF 'talweglaw09.SignLonger'. -/
def signLongerCard : Claim7 := { stood := { row := signLongerRow, standIns := [], harness := (true, "1d08e35ecb556d48a307b969adbe3f166b181e20e2273ec7f6c4a314ae18e27f"), looks := false }, kinds := [], alts := [], laidByText := true, laidKinds := [.data, .pinned], laidTests := true, laidLooks := .later }
def SignLongerCardSaid : Prop := Claim7.holds Tryd.pinned (.plain (OpenSpec.ofChange signLongerSpec)) signLongerCard

/-- THE TIED CARD OF 'talweglaw10.LexTells'. -/
def lexTellsCard : Claim7 := { stood := { row := lexTellsRow, standIns := [], harness := (true, "1d08e35ecb556d48a307b969adbe3f166b181e20e2273ec7f6c4a314ae18e27f"), looks := false }, kinds := [], alts := [], laidByText := true, laidKinds := [.data, .pinned], laidTests := true, laidLooks := .later }
def LexTellsCardSaid : Prop := Claim7.holds Tryd.pinned (.plain (OpenSpec.ofChange lexTellsSpec)) lexTellsCard

/-- THE TIED CARD OF 'talweglaw10.LexJoins'. -/
def lexJoinsCard : Claim7 := { stood := { row := lexJoinsRow, standIns := [], harness := (true, "1d08e35ecb556d48a307b969adbe3f166b181e20e2273ec7f6c4a314ae18e27f"), looks := false }, kinds := [], alts := [], laidByText := true, laidKinds := [.data, .pinned], laidTests := true, laidLooks := .later }
def LexJoinsCardSaid : Prop := Claim7.holds Tryd.pinned (.plain (OpenSpec.ofChange lexJoinsSpec)) lexJoinsCard

/-- THE TIED CARD OF 'talweglaw10.LexAgain'. -/
def lexAgainCard : Claim7 := { stood := { row := lexAgainRow, standIns := [], harness := (true, "1d08e35ecb556d48a307b969adbe3f166b181e20e2273ec7f6c4a314ae18e27f"), looks := false }, kinds := [], alts := [], laidByText := true, laidKinds := [.data, .pinned], laidTests := true, laidLooks := .later }
def LexAgainCardSaid : Prop := Claim7.holds Tryd.pinned (.plain (OpenSpec.ofChange lexAgainSpec)) lexAgainCard

/-- THE TIED CARD OF 'talweglaw10.LexLong'. -/
def lexLongCard : Claim7 := { stood := { row := lexLongRow, standIns := [], harness := (true, "1d08e35ecb556d48a307b969adbe3f166b181e20e2273ec7f6c4a314ae18e27f"), looks := false }, kinds := [], alts := [], laidByText := true, laidKinds := [.data, .pinned], laidTests := true, laidLooks := .later }
def LexLongCardSaid : Prop := Claim7.holds Tryd.pinned (.plain (OpenSpec.ofChange lexLongSpec)) lexLongCard

/-- THE TIED CARD OF 'talweglaw10.LexFront'. -/
def lexFrontCard : Claim7 := { stood := { row := lexFrontRow, standIns := [], harness := (true, "1d08e35ecb556d48a307b969adbe3f166b181e20e2273ec7f6c4a314ae18e27f"), looks := false }, kinds := [], alts := [], laidByText := true, laidKinds := [.data, .pinned], laidTests := true, laidLooks := .later }
def LexFrontCardSaid : Prop := Claim7.holds Tryd.pinned (.plain (OpenSpec.ofChange lexFrontSpec)) lexFrontCard

/-- THE SECOND FORM's CARD OF 'talweglaw09.SignKinds'. -/
def signKindsUptoCard : Claim7 := { stood := { row := signKindsUptoRow, standIns := [], harness := (true, "1d08e35ecb556d48a307b969adbe3f166b181e20e2273ec7f6c4a314ae18e27f"), looks := false }, kinds := [], alts := [], laidByText := true, laidKinds := [.data, .pinned], laidTests := true, laidLooks := .later }
def SignKindsUptoCardSaid : Prop := Claim7.holds Tryd.pinned (.plain (OpenSpec.upto signKindsSpec)) signKindsUptoCard

/-- THE SECOND FORM's CARD OF 'talweglaw09.SignNext'. -/
def signNextUptoCard : Claim7 := { stood := { row := signNextUptoRow, standIns := [], harness := (true, "1d08e35ecb556d48a307b969adbe3f166b181e20e2273ec7f6c4a314ae18e27f"), looks := false }, kinds := [], alts := [], laidByText := true, laidKinds := [.data, .pinned], laidTests := true, laidLooks := .later }
def SignNextUptoCardSaid : Prop := Claim7.holds Tryd.pinned (.plain (OpenSpec.upto signNextSpec)) signNextUptoCard

/-- THE SECOND FORM's CARD OF 'talweglaw09.SignPlaces'. -/
def signPlacesUptoCard : Claim7 := { stood := { row := signPlacesUptoRow, standIns := [], harness := (true, "1d08e35ecb556d48a307b969adbe3f166b181e20e2273ec7f6c4a314ae18e27f"), looks := false }, kinds := [], alts := [], laidByText := true, laidKinds := [.data, .pinned], laidTests := true, laidLooks := .later }
def SignPlacesUptoCardSaid : Prop := Claim7.holds Tryd.pinned (.plain (OpenSpec.upto signPlacesSpec)) signPlacesUptoCard

/-- THE SECOND FORM's CARD OF 'talweglaw09.SignNames'. -/
def signNamesUptoCard : Claim7 := { stood := { row := signNamesUptoRow, standIns := [], harness := (true, "1d08e35ecb556d48a307b969adbe3f166b181e20e2273ec7f6c4a314ae18e27f"), looks := false }, kinds := [], alts := [], laidByText := true, laidKinds := [.data, .pinned], laidTests := true, laidLooks := .later }
def SignNamesUptoCardSaid : Prop := Claim7.holds Tryd.pinned (.plain (OpenSpec.upto signNamesSpec)) signNamesUptoCard

/-- THE SECOND FORM's CARD OF 'talweglaw09.SignWhole'. -/
def signWholeUptoCard : Claim7 := { stood := { row := signWholeUptoRow, standIns := [], harness := (true, "1d08e35ecb556d48a307b969adbe3f166b181e20e2273ec7f6c4a314ae18e27f"), looks := false }, kinds := [], alts := [], laidByText := true, laidKinds := [.data, .pinned], laidTests := true, laidLooks := .later }
def SignWholeUptoCardSaid : Prop := Claim7.holds Tryd.pinned (.plain (OpenSpec.upto signWholeSpec)) signWholeUptoCard

/-- THE SECOND FORM's CARD OF 'talweglaw09.SignLines'. -/
def signLinesUptoCard : Claim7 := { stood := { row := signLinesUptoRow, standIns := [], harness := (true, "1d08e35ecb556d48a307b969adbe3f166b181e20e2273ec7f6c4a314ae18e27f"), looks := false }, kinds := [], alts := [], laidByText := true, laidKinds := [.data, .pinned], laidTests := true, laidLooks := .later }
def SignLinesUptoCardSaid : Prop := Claim7.holds Tryd.pinned (.plain (OpenSpec.upto signLinesSpec)) signLinesUptoCard

/-- THE SECOND FORM's CARD OF 'talweglaw09.SignLonger'. -/
def signLongerUptoCard : Claim7 := { stood := { row := signLongerUptoRow, standIns := [], harness := (true, "1d08e35ecb556d48a307b969adbe3f166b181e20e2273ec7f6c4a314ae18e27f"), looks := false }, kinds := [], alts := [], laidByText := true, laidKinds := [.data, .pinned], laidTests := true, laidLooks := .later }
def SignLongerUptoCardSaid : Prop := Claim7.holds Tryd.pinned (.plain (OpenSpec.upto signLongerSpec)) signLongerUptoCard

/-- THE SECOND FORM's CARD OF 'talweglaw10.LexTells'. -/
def lexTellsUptoCard : Claim7 := { stood := { row := lexTellsUptoRow, standIns := [], harness := (true, "1d08e35ecb556d48a307b969adbe3f166b181e20e2273ec7f6c4a314ae18e27f"), looks := false }, kinds := [], alts := [], laidByText := true, laidKinds := [.data, .pinned], laidTests := true, laidLooks := .later }
def LexTellsUptoCardSaid : Prop := Claim7.holds Tryd.pinned (.plain (OpenSpec.upto lexTellsSpec)) lexTellsUptoCard

/-- THE SECOND FORM's CARD OF 'talweglaw10.LexJoins'. -/
def lexJoinsUptoCard : Claim7 := { stood := { row := lexJoinsUptoRow, standIns := [], harness := (true, "1d08e35ecb556d48a307b969adbe3f166b181e20e2273ec7f6c4a314ae18e27f"), looks := false }, kinds := [], alts := [], laidByText := true, laidKinds := [.data, .pinned], laidTests := true, laidLooks := .later }
def LexJoinsUptoCardSaid : Prop := Claim7.holds Tryd.pinned (.plain (OpenSpec.upto lexJoinsSpec)) lexJoinsUptoCard

/-- THE SECOND FORM's CARD OF 'talweglaw10.LexAgain'. -/
def lexAgainUptoCard : Claim7 := { stood := { row := lexAgainUptoRow, standIns := [], harness := (true, "1d08e35ecb556d48a307b969adbe3f166b181e20e2273ec7f6c4a314ae18e27f"), looks := false }, kinds := [], alts := [], laidByText := true, laidKinds := [.data, .pinned], laidTests := true, laidLooks := .later }
def LexAgainUptoCardSaid : Prop := Claim7.holds Tryd.pinned (.plain (OpenSpec.upto lexAgainSpec)) lexAgainUptoCard

/-- THE SECOND FORM's CARD OF 'talweglaw10.LexLong'. -/
def lexLongUptoCard : Claim7 := { stood := { row := lexLongUptoRow, standIns := [], harness := (true, "1d08e35ecb556d48a307b969adbe3f166b181e20e2273ec7f6c4a314ae18e27f"), looks := false }, kinds := [], alts := [], laidByText := true, laidKinds := [.data, .pinned], laidTests := true, laidLooks := .later }
def LexLongUptoCardSaid : Prop := Claim7.holds Tryd.pinned (.plain (OpenSpec.upto lexLongSpec)) lexLongUptoCard

/-- THE SECOND FORM's CARD OF 'talweglaw10.LexFront'. -/
def lexFrontUptoCard : Claim7 := { stood := { row := lexFrontUptoRow, standIns := [], harness := (true, "1d08e35ecb556d48a307b969adbe3f166b181e20e2273ec7f6c4a314ae18e27f"), looks := false }, kinds := [], alts := [], laidByText := true, laidKinds := [.data, .pinned], laidTests := true, laidLooks := .later }
def LexFrontUptoCardSaid : Prop := Claim7.holds Tryd.pinned (.plain (OpenSpec.upto lexFrontSpec)) lexFrontUptoCard
end Rows
end Go.Proofs.YtmflkokhhknlaaaDoor
