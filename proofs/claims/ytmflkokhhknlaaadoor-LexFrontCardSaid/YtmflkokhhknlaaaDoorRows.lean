/-
  NARROWER THAN 'FOR EVERY INPUT', by the rows' own cells (each row's printed sentence says how): SignKinds: laid · SignNext: laid · SignPlaces: laid · SignNames: laid · SignWhole: laid · SignLines: laid · SignLonger: laid · LexTells: laid · LexJoins: laid · LexAgain: laid · LexLong: laid · LexFront: laid.
  DERIVED. THE GIVEN ROWS OF THIS SEAT. 12 by the template 'for every input the law returns true; each argument reads behind the call as it read before'; 0 by the template 'total and deterministic' (their statements: YtmflkokhhknlaaaDoorTotals.lean).
  GIVEN WITH THE SEED: the statements are not yours to turn. If you find one false, say at which input.
  Laid BY PROGRAM, IN A SANDBOX (cutbox-rows.mjs): the forced cells as the released guide's own fill.sh prints them over the translation ead652c509681e8e… (all of the seat's roots in one cut). By AI agents, Wed Nov 11 2026. No macro, syntax, notation, axiom, sorry.
-/
import Derived.Test.YtmflkokhhknlaaaDoorChecked
import GoSem.PinnedTables
import GoSem.Claim
import GoSem.ClaimJoined
import GoSem.ClaimMapViews
import Derived.JoinedTies
import Derived.KernelRfl
namespace Go.Proofs.YtmflkokhhknlaaaDoor
/- THE CELL 'sum', in the pinned program and in every row, IS THE sha256 OF THE DUMP (.gsa) THAT YtmflkokhhknlaaaDoorProg.lean LOADS. Nothing in Lean hashes anything: it is a label: what it is worth is what the hold of that sum in a sandbox is worth. -/
noncomputable def Tryd.pinned : Pinned := { name := "ytmflkokhhknlaaadoor", sum := "ead652c509681e8e240bf297e82eea7765fd9d6a6ab5a397dbda68f5928b9589", checked := Tryd.checked }
namespace Rows
def none {H : Type} : Left H := { results := [], args := [] }

/- WHAT THE LISTED PACKAGE-LEVEL VARIABLES READ AS WHEN THE CALL BEGINS. Each datum BY PROGRAM (the guide's laid-datum.mjs) off the statement by which the dump's own 'gosem.cut.vars' lays the variable. In a bare row this is a premise. The card (YtmflkokhhknlaaaDoorCards.lean) ties it to the program's text. -/
def laid_unicode_utf8_acceptRanges {H : Type} : DataW H := .agg [.agg [.lit (.int .u8 128), .lit (.int .u8 191)], .agg [.lit (.int .u8 160), .lit (.int .u8 191)], .agg [.lit (.int .u8 128), .lit (.int .u8 159)], .agg [.lit (.int .u8 144), .lit (.int .u8 191)], .agg [.lit (.int .u8 128), .lit (.int .u8 143)], .agg [.lit (.int .u8 0), .lit (.int .u8 0)], .agg [.lit (.int .u8 0), .lit (.int .u8 0)], .agg [.lit (.int .u8 0), .lit (.int .u8 0)], .agg [.lit (.int .u8 0), .lit (.int .u8 0)], .agg [.lit (.int .u8 0), .lit (.int .u8 0)], .agg [.lit (.int .u8 0), .lit (.int .u8 0)], .agg [.lit (.int .u8 0), .lit (.int .u8 0)], .agg [.lit (.int .u8 0), .lit (.int .u8 0)], .agg [.lit (.int .u8 0), .lit (.int .u8 0)], .agg [.lit (.int .u8 0), .lit (.int .u8 0)], .agg [.lit (.int .u8 0), .lit (.int .u8 0)]]
/-- One of Go's own tables, pinned by name: the form's constant. -/
def laid_unicode_utf8_first : DataW Unit := Go.Pinned.utf8First

/-- 'talweglaw09.SignKinds': WHATEVER THE INPUT: true; the input reads as it did. -/
def signKindsSpec : ChangeSpec := { name := "signKinds", fn := fun _ => fun
  | [d] => { results := [.lit (.bool true)], args := [d] }
  | _ => none }
def signKindsRow : OpenClaim := { program := "ytmflkokhhknlaaadoor", sum := "ead652c509681e8e240bf297e82eea7765fd9d6a6ab5a397dbda68f5928b9589", func := "talweg/talweglaw09.SignKinds", spec := "signKinds", inPlace := ["internal/bytealg.IndexByteString"], named := ["unicode/utf8.first", "unicode/utf8.acceptRanges"], apart := false, laid := [("unicode/utf8.acceptRanges", laid_unicode_utf8_acceptRanges), ("unicode/utf8.first", laid_unicode_utf8_first)] }
def SignKindsSaid : Prop := signKindsRow.holds Tryd.pinned (OpenSpec.ofChange signKindsSpec)

/-- ITS FALSE NEIGHBOUR: 'it returns false'. Refute it at one input. -/
def signKindsWrong : ChangeSpec := { name := "signKinds", fn := fun _ => fun
  | [d] => { results := [.lit (.bool false)], args := [d] }
  | _ => none }
def SignKindsWrongFalsely : Prop := signKindsRow.holds Tryd.pinned (OpenSpec.ofChange signKindsWrong)

/-- 'talweglaw09.SignNext': WHATEVER THE INPUT: true; the input reads as it did. -/
def signNextSpec : ChangeSpec := { name := "signNext", fn := fun _ => fun
  | [d1, d2] => { results := [.lit (.bool true)], args := [d1, d2] }
  | _ => none }
def signNextRow : OpenClaim := { program := "ytmflkokhhknlaaadoor", sum := "ead652c509681e8e240bf297e82eea7765fd9d6a6ab5a397dbda68f5928b9589", func := "talweg/talweglaw09.SignNext", spec := "signNext", inPlace := ["internal/bytealg.IndexByteString"], named := ["unicode/utf8.first", "unicode/utf8.acceptRanges"], apart := false, laid := [("unicode/utf8.acceptRanges", laid_unicode_utf8_acceptRanges), ("unicode/utf8.first", laid_unicode_utf8_first)] }
def SignNextSaid : Prop := signNextRow.holds Tryd.pinned (OpenSpec.ofChange signNextSpec)

/-- ITS FALSE NEIGHBOUR: 'it returns false'. Refute it at one input. -/
def signNextWrong : ChangeSpec := { name := "signNext", fn := fun _ => fun
  | [d1, d2] => { results := [.lit (.bool false)], args := [d1, d2] }
  | _ => none }
def SignNextWrongFalsely : Prop := signNextRow.holds Tryd.pinned (OpenSpec.ofChange signNextWrong)

/-- 'talweglaw09.SignPlaces': WHATEVER THE INPUT: true; the input reads as it did. -/
def signPlacesSpec : ChangeSpec := { name := "signPlaces", fn := fun _ => fun
  | [d1, d2] => { results := [.lit (.bool true)], args := [d1, d2] }
  | _ => none }
def signPlacesRow : OpenClaim := { program := "ytmflkokhhknlaaadoor", sum := "ead652c509681e8e240bf297e82eea7765fd9d6a6ab5a397dbda68f5928b9589", func := "talweg/talweglaw09.SignPlaces", spec := "signPlaces", inPlace := ["internal/bytealg.IndexByteString"], named := ["unicode/utf8.first", "unicode/utf8.acceptRanges"], apart := false, laid := [("unicode/utf8.acceptRanges", laid_unicode_utf8_acceptRanges), ("unicode/utf8.first", laid_unicode_utf8_first)] }
def SignPlacesSaid : Prop := signPlacesRow.holds Tryd.pinned (OpenSpec.ofChange signPlacesSpec)

/-- ITS FALSE NEIGHBOUR: 'it returns false'. Refute it at one input. -/
def signPlacesWrong : ChangeSpec := { name := "signPlaces", fn := fun _ => fun
  | [d1, d2] => { results := [.lit (.bool false)], args := [d1, d2] }
  | _ => none }
def SignPlacesWrongFalsely : Prop := signPlacesRow.holds Tryd.pinned (OpenSpec.ofChange signPlacesWrong)

/-- 'talweglaw09.SignNames': WHATEVER THE INPUT: true; the input reads as it did. -/
def signNamesSpec : ChangeSpec := { name := "signNames", fn := fun _ => fun
  | [d] => { results := [.lit (.bool true)], args := [d] }
  | _ => none }
def signNamesRow : OpenClaim := { program := "ytmflkokhhknlaaadoor", sum := "ead652c509681e8e240bf297e82eea7765fd9d6a6ab5a397dbda68f5928b9589", func := "talweg/talweglaw09.SignNames", spec := "signNames", inPlace := ["internal/bytealg.IndexByteString"], named := ["unicode/utf8.first", "unicode/utf8.acceptRanges"], apart := false, laid := [("unicode/utf8.acceptRanges", laid_unicode_utf8_acceptRanges), ("unicode/utf8.first", laid_unicode_utf8_first)] }
def SignNamesSaid : Prop := signNamesRow.holds Tryd.pinned (OpenSpec.ofChange signNamesSpec)

/-- ITS FALSE NEIGHBOUR: 'it returns false'. Refute it at one input. -/
def signNamesWrong : ChangeSpec := { name := "signNames", fn := fun _ => fun
  | [d] => { results := [.lit (.bool false)], args := [d] }
  | _ => none }
def SignNamesWrongFalsely : Prop := signNamesRow.holds Tryd.pinned (OpenSpec.ofChange signNamesWrong)

/-- 'talweglaw09.SignWhole': WHATEVER THE INPUT: true; the input reads as it did. -/
def signWholeSpec : ChangeSpec := { name := "signWhole", fn := fun _ => fun
  | [d] => { results := [.lit (.bool true)], args := [d] }
  | _ => none }
def signWholeRow : OpenClaim := { program := "ytmflkokhhknlaaadoor", sum := "ead652c509681e8e240bf297e82eea7765fd9d6a6ab5a397dbda68f5928b9589", func := "talweg/talweglaw09.SignWhole", spec := "signWhole", inPlace := ["internal/bytealg.IndexByteString"], named := ["unicode/utf8.first", "unicode/utf8.acceptRanges"], apart := false, laid := [("unicode/utf8.acceptRanges", laid_unicode_utf8_acceptRanges), ("unicode/utf8.first", laid_unicode_utf8_first)] }
def SignWholeSaid : Prop := signWholeRow.holds Tryd.pinned (OpenSpec.ofChange signWholeSpec)

/-- ITS FALSE NEIGHBOUR: 'it returns false'. Refute it at one input. -/
def signWholeWrong : ChangeSpec := { name := "signWhole", fn := fun _ => fun
  | [d] => { results := [.lit (.bool false)], args := [d] }
  | _ => none }
def SignWholeWrongFalsely : Prop := signWholeRow.holds Tryd.pinned (OpenSpec.ofChange signWholeWrong)

/-- 'talweglaw09.SignLines': WHATEVER THE INPUT: true; the input reads as it did. -/
def signLinesSpec : ChangeSpec := { name := "signLines", fn := fun _ => fun
  | [d1, d2, d3] => { results := [.lit (.bool true)], args := [d1, d2, d3] }
  | _ => none }
def signLinesRow : OpenClaim := { program := "ytmflkokhhknlaaadoor", sum := "ead652c509681e8e240bf297e82eea7765fd9d6a6ab5a397dbda68f5928b9589", func := "talweg/talweglaw09.SignLines", spec := "signLines", inPlace := ["internal/bytealg.IndexByteString"], named := ["unicode/utf8.first", "unicode/utf8.acceptRanges"], apart := false, laid := [("unicode/utf8.acceptRanges", laid_unicode_utf8_acceptRanges), ("unicode/utf8.first", laid_unicode_utf8_first)] }
def SignLinesSaid : Prop := signLinesRow.holds Tryd.pinned (OpenSpec.ofChange signLinesSpec)

/-- ITS FALSE NEIGHBOUR: 'it returns false'. Refute it at one input. -/
def signLinesWrong : ChangeSpec := { name := "signLines", fn := fun _ => fun
  | [d1, d2, d3] => { results := [.lit (.bool false)], args := [d1, d2, d3] }
  | _ => none }
def SignLinesWrongFalsely : Prop := signLinesRow.holds Tryd.pinned (OpenSpec.ofChange signLinesWrong)

/-- 'talweglaw09.SignLonger': WHATEVER THE INPUT: true; the input reads as it did. -/
def signLongerSpec : ChangeSpec := { name := "signLonger", fn := fun _ => fun
  | [d1, d2] => { results := [.lit (.bool true)], args := [d1, d2] }
  | _ => none }
def signLongerRow : OpenClaim := { program := "ytmflkokhhknlaaadoor", sum := "ead652c509681e8e240bf297e82eea7765fd9d6a6ab5a397dbda68f5928b9589", func := "talweg/talweglaw09.SignLonger", spec := "signLonger", inPlace := ["internal/bytealg.IndexByteString"], named := ["unicode/utf8.first", "unicode/utf8.acceptRanges"], apart := false, laid := [("unicode/utf8.acceptRanges", laid_unicode_utf8_acceptRanges), ("unicode/utf8.first", laid_unicode_utf8_first)] }
def SignLongerSaid : Prop := signLongerRow.holds Tryd.pinned (OpenSpec.ofChange signLongerSpec)

/-- ITS FALSE NEIGHBOUR: 'it returns false'. Refute it at one input. -/
def signLongerWrong : ChangeSpec := { name := "signLonger", fn := fun _ => fun
  | [d1, d2] => { results := [.lit (.bool false)], args := [d1, d2] }
  | _ => none }
def SignLongerWrongFalsely : Prop := signLongerRow.holds Tryd.pinned (OpenSpec.ofChange signLongerWrong)

/-- 'talweglaw10.LexTells': WHATEVER THE INPUT: true; the input reads as it did. -/
def lexTellsSpec : ChangeSpec := { name := "lexTells", fn := fun _ => fun
  | [d] => { results := [.lit (.bool true)], args := [d] }
  | _ => none }
def lexTellsRow : OpenClaim := { program := "ytmflkokhhknlaaadoor", sum := "ead652c509681e8e240bf297e82eea7765fd9d6a6ab5a397dbda68f5928b9589", func := "talweg/talweglaw10.LexTells", spec := "lexTells", inPlace := ["internal/bytealg.IndexByteString", "internal/bytealg.IndexString"], unfollowed := true, recurses := true, named := ["unicode/utf8.first", "unicode/utf8.acceptRanges", "internal/bytealg.MaxLen"], apart := false, laid := [("unicode/utf8.acceptRanges", laid_unicode_utf8_acceptRanges), ("unicode/utf8.first", laid_unicode_utf8_first)] }
def LexTellsSaid : Prop := lexTellsRow.holds Tryd.pinned (OpenSpec.ofChange lexTellsSpec)

/-- ITS FALSE NEIGHBOUR: 'it returns false'. Refute it at one input. -/
def lexTellsWrong : ChangeSpec := { name := "lexTells", fn := fun _ => fun
  | [d] => { results := [.lit (.bool false)], args := [d] }
  | _ => none }
def LexTellsWrongFalsely : Prop := lexTellsRow.holds Tryd.pinned (OpenSpec.ofChange lexTellsWrong)

/-- 'talweglaw10.LexJoins': WHATEVER THE INPUT: true; the input reads as it did. -/
def lexJoinsSpec : ChangeSpec := { name := "lexJoins", fn := fun _ => fun
  | [d1, d2] => { results := [.lit (.bool true)], args := [d1, d2] }
  | _ => none }
def lexJoinsRow : OpenClaim := { program := "ytmflkokhhknlaaadoor", sum := "ead652c509681e8e240bf297e82eea7765fd9d6a6ab5a397dbda68f5928b9589", func := "talweg/talweglaw10.LexJoins", spec := "lexJoins", inPlace := ["internal/bytealg.IndexByteString", "internal/bytealg.IndexString"], unfollowed := true, recurses := true, named := ["unicode/utf8.first", "unicode/utf8.acceptRanges", "internal/bytealg.MaxLen"], apart := false, laid := [("unicode/utf8.acceptRanges", laid_unicode_utf8_acceptRanges), ("unicode/utf8.first", laid_unicode_utf8_first)] }
def LexJoinsSaid : Prop := lexJoinsRow.holds Tryd.pinned (OpenSpec.ofChange lexJoinsSpec)

/-- ITS FALSE NEIGHBOUR: 'it returns false'. Refute it at one input. -/
def lexJoinsWrong : ChangeSpec := { name := "lexJoins", fn := fun _ => fun
  | [d1, d2] => { results := [.lit (.bool false)], args := [d1, d2] }
  | _ => none }
def LexJoinsWrongFalsely : Prop := lexJoinsRow.holds Tryd.pinned (OpenSpec.ofChange lexJoinsWrong)

/-- 'talweglaw10.LexAgain': WHATEVER THE INPUT: true; the input reads as it did. -/
def lexAgainSpec : ChangeSpec := { name := "lexAgain", fn := fun _ => fun
  | [d] => { results := [.lit (.bool true)], args := [d] }
  | _ => none }
def lexAgainRow : OpenClaim := { program := "ytmflkokhhknlaaadoor", sum := "ead652c509681e8e240bf297e82eea7765fd9d6a6ab5a397dbda68f5928b9589", func := "talweg/talweglaw10.LexAgain", spec := "lexAgain", inPlace := ["internal/bytealg.IndexByteString", "internal/bytealg.IndexString"], unfollowed := true, recurses := true, named := ["unicode/utf8.first", "unicode/utf8.acceptRanges", "internal/bytealg.MaxLen"], apart := false, laid := [("unicode/utf8.acceptRanges", laid_unicode_utf8_acceptRanges), ("unicode/utf8.first", laid_unicode_utf8_first)] }
def LexAgainSaid : Prop := lexAgainRow.holds Tryd.pinned (OpenSpec.ofChange lexAgainSpec)

/-- ITS FALSE NEIGHBOUR: 'it returns false'. Refute it at one input. -/
def lexAgainWrong : ChangeSpec := { name := "lexAgain", fn := fun _ => fun
  | [d] => { results := [.lit (.bool false)], args := [d] }
  | _ => none }
def LexAgainWrongFalsely : Prop := lexAgainRow.holds Tryd.pinned (OpenSpec.ofChange lexAgainWrong)

/-- 'talweglaw10.LexLong': WHATEVER THE INPUT: true; the input reads as it did. -/
def lexLongSpec : ChangeSpec := { name := "lexLong", fn := fun _ => fun
  | [d1, d2] => { results := [.lit (.bool true)], args := [d1, d2] }
  | _ => none }
def lexLongRow : OpenClaim := { program := "ytmflkokhhknlaaadoor", sum := "ead652c509681e8e240bf297e82eea7765fd9d6a6ab5a397dbda68f5928b9589", func := "talweg/talweglaw10.LexLong", spec := "lexLong", inPlace := ["internal/bytealg.IndexByteString", "internal/bytealg.IndexString"], unfollowed := true, recurses := true, named := ["unicode/utf8.first", "unicode/utf8.acceptRanges", "internal/bytealg.MaxLen"], apart := false, laid := [("unicode/utf8.acceptRanges", laid_unicode_utf8_acceptRanges), ("unicode/utf8.first", laid_unicode_utf8_first)] }
def LexLongSaid : Prop := lexLongRow.holds Tryd.pinned (OpenSpec.ofChange lexLongSpec)

/-- ITS FALSE NEIGHBOUR: 'it returns false'. Refute it at one input. -/
def lexLongWrong : ChangeSpec := { name := "lexLong", fn := fun _ => fun
  | [d1, d2] => { results := [.lit (.bool false)], args := [d1, d2] }
  | _ => none }
def LexLongWrongFalsely : Prop := lexLongRow.holds Tryd.pinned (OpenSpec.ofChange lexLongWrong)

/-- 'talweglaw10.LexFront': WHATEVER THE INPUT: true; the input reads as it did. -/
def lexFrontSpec : ChangeSpec := { name := "lexFront", fn := fun _ => fun
  | [d1, d2] => { results := [.lit (.bool true)], args := [d1, d2] }
  | _ => none }
def lexFrontRow : OpenClaim := { program := "ytmflkokhhknlaaadoor", sum := "ead652c509681e8e240bf297e82eea7765fd9d6a6ab5a397dbda68f5928b9589", func := "talweg/talweglaw10.LexFront", spec := "lexFront", inPlace := ["internal/bytealg.IndexByteString", "internal/bytealg.IndexString"], unfollowed := true, recurses := true, named := ["unicode/utf8.first", "unicode/utf8.acceptRanges", "internal/bytealg.MaxLen"], apart := false, laid := [("unicode/utf8.acceptRanges", laid_unicode_utf8_acceptRanges), ("unicode/utf8.first", laid_unicode_utf8_first)] }
def LexFrontSaid : Prop := lexFrontRow.holds Tryd.pinned (OpenSpec.ofChange lexFrontSpec)

/-- ITS FALSE NEIGHBOUR: 'it returns false'. Refute it at one input. -/
def lexFrontWrong : ChangeSpec := { name := "lexFront", fn := fun _ => fun
  | [d1, d2] => { results := [.lit (.bool false)], args := [d1, d2] }
  | _ => none }
def LexFrontWrongFalsely : Prop := lexFrontRow.holds Tryd.pinned (OpenSpec.ofChange lexFrontWrong)

/- THE SECOND FORM. 'bulk': how many values and letters a reading holds, each counted each time it is reached (what is shared counts as often as it is met; a slice's spare places count too). A statement '..UptoSaid' is the law's where the arguments, and the package variables that the reading takes, are together of bulk at most 1048576: NARROWER than '..Said'. Prove '..Said' where nothing that the law and all that it calls make is longer than what came in: it says more and counts as full. Else prove '..UptoSaid'. A law counts once. -/
mutual
def uptoBulk {H : Type} : DataW H → Nat
  | .lit (.string bytes) => bytes.length + 1
  | .lit _ => 1
  | .nil => 1
  | .ptr d => uptoBulk d + 1
  | .slice elems spare => uptoBulkAll elems + uptoBulkAll spare + 1
  | .agg parts => uptoBulkAll parts + 1
  | .iface _ d => uptoBulk d + 1
  | .map entries => uptoBulkEntries entries + 1
  | .held _ => 1
def uptoBulkAll {H : Type} : List (DataW H) → Nat
  | [] => 0
  | d :: r => uptoBulk d + uptoBulkAll r
def uptoBulkEntries {H : Type} : List (Lit × DataW H) → Nat
  | [] => 0
  | x :: r => uptoBulkEntry x + uptoBulkEntries r
def uptoBulkEntry {H : Type} : Lit × DataW H → Nat
  | (.string bytes, d) => bytes.length + uptoBulk d + 1
  | (_, d) => uptoBulk d + 1
 end
def uptoSmall : (H : Type) → List (DataW H) → Bool := fun _ ds => decide (uptoBulkAll ds ≤ 1048576)
def OpenSpec.upto (s : _root_.Go.ChangeSpec) : _root_.Go.OpenSpec := { _root_.Go.OpenSpec.ofChange s with cond := some uptoSmall }

/-- 'talweglaw09.SignKinds', WHERE WHAT IT READS IS OF BULK AT MOST 1048576: true; the input reads as it did. -/
def signKindsUptoRow : OpenClaim := { program := "ytmflkokhhknlaaadoor", sum := "ead652c509681e8e240bf297e82eea7765fd9d6a6ab5a397dbda68f5928b9589", func := "talweg/talweglaw09.SignKinds", spec := "signKinds", inPlace := ["internal/bytealg.IndexByteString"], named := ["unicode/utf8.first", "unicode/utf8.acceptRanges"], apart := false, laid := [("unicode/utf8.acceptRanges", laid_unicode_utf8_acceptRanges), ("unicode/utf8.first", laid_unicode_utf8_first)], narrowed := true }
def SignKindsUptoSaid : Prop := signKindsUptoRow.holds Tryd.pinned (OpenSpec.upto signKindsSpec)

/-- 'talweglaw09.SignNext', WHERE WHAT IT READS IS OF BULK AT MOST 1048576: true; the input reads as it did. -/
def signNextUptoRow : OpenClaim := { program := "ytmflkokhhknlaaadoor", sum := "ead652c509681e8e240bf297e82eea7765fd9d6a6ab5a397dbda68f5928b9589", func := "talweg/talweglaw09.SignNext", spec := "signNext", inPlace := ["internal/bytealg.IndexByteString"], named := ["unicode/utf8.first", "unicode/utf8.acceptRanges"], apart := false, laid := [("unicode/utf8.acceptRanges", laid_unicode_utf8_acceptRanges), ("unicode/utf8.first", laid_unicode_utf8_first)], narrowed := true }
def SignNextUptoSaid : Prop := signNextUptoRow.holds Tryd.pinned (OpenSpec.upto signNextSpec)

/-- 'talweglaw09.SignPlaces', WHERE WHAT IT READS IS OF BULK AT MOST 1048576: true; the input reads as it did. -/
def signPlacesUptoRow : OpenClaim := { program := "ytmflkokhhknlaaadoor", sum := "ead652c509681e8e240bf297e82eea7765fd9d6a6ab5a397dbda68f5928b9589", func := "talweg/talweglaw09.SignPlaces", spec := "signPlaces", inPlace := ["internal/bytealg.IndexByteString"], named := ["unicode/utf8.first", "unicode/utf8.acceptRanges"], apart := false, laid := [("unicode/utf8.acceptRanges", laid_unicode_utf8_acceptRanges), ("unicode/utf8.first", laid_unicode_utf8_first)], narrowed := true }
def SignPlacesUptoSaid : Prop := signPlacesUptoRow.holds Tryd.pinned (OpenSpec.upto signPlacesSpec)

/-- 'talweglaw09.SignNames', WHERE WHAT IT READS IS OF BULK AT MOST 1048576: true; the input reads as it did. -/
def signNamesUptoRow : OpenClaim := { program := "ytmflkokhhknlaaadoor", sum := "ead652c509681e8e240bf297e82eea7765fd9d6a6ab5a397dbda68f5928b9589", func := "talweg/talweglaw09.SignNames", spec := "signNames", inPlace := ["internal/bytealg.IndexByteString"], named := ["unicode/utf8.first", "unicode/utf8.acceptRanges"], apart := false, laid := [("unicode/utf8.acceptRanges", laid_unicode_utf8_acceptRanges), ("unicode/utf8.first", laid_unicode_utf8_first)], narrowed := true }
def SignNamesUptoSaid : Prop := signNamesUptoRow.holds Tryd.pinned (OpenSpec.upto signNamesSpec)

/-- 'talweglaw09.SignWhole', WHERE WHAT IT READS IS OF BULK AT MOST 1048576: true; the input reads as it did. -/
def signWholeUptoRow : OpenClaim := { program := "ytmflkokhhknlaaadoor", sum := "ead652c509681e8e240bf297e82eea7765fd9d6a6ab5a397dbda68f5928b9589", func := "talweg/talweglaw09.SignWhole", spec := "signWhole", inPlace := ["internal/bytealg.IndexByteString"], named := ["unicode/utf8.first", "unicode/utf8.acceptRanges"], apart := false, laid := [("unicode/utf8.acceptRanges", laid_unicode_utf8_acceptRanges), ("unicode/utf8.first", laid_unicode_utf8_first)], narrowed := true }
def SignWholeUptoSaid : Prop := signWholeUptoRow.holds Tryd.pinned (OpenSpec.upto signWholeSpec)

/-- 'talweglaw09.SignLines', WHERE WHAT IT READS IS OF BULK AT MOST 1048576: true; the input reads as it did. -/
def signLinesUptoRow : OpenClaim := { program := "ytmflkokhhknlaaadoor", sum := "ead652c509681e8e240bf297e82eea7765fd9d6a6ab5a397dbda68f5928b9589", func := "talweg/talweglaw09.SignLines", spec := "signLines", inPlace := ["internal/bytealg.IndexByteString"], named := ["unicode/utf8.first", "unicode/utf8.acceptRanges"], apart := false, laid := [("unicode/utf8.acceptRanges", laid_unicode_utf8_acceptRanges), ("unicode/utf8.first", laid_unicode_utf8_first)], narrowed := true }
def SignLinesUptoSaid : Prop := signLinesUptoRow.holds Tryd.pinned (OpenSpec.upto signLinesSpec)

/-- 'talweglaw09.SignLonger', WHERE WHAT IT READS IS OF BULK AT MOST 1048576: true; the input reads as it did. -/
def signLongerUptoRow : OpenClaim := { program := "ytmflkokhhknlaaadoor", sum := "ead652c509681e8e240bf297e82eea7765fd9d6a6ab5a397dbda68f5928b9589", func := "talweg/talweglaw09.SignLonger", spec := "signLonger", inPlace := ["internal/bytealg.IndexByteString"], named := ["unicode/utf8.first", "unicode/utf8.acceptRanges"], apart := false, laid := [("unicode/utf8.acceptRanges", laid_unicode_utf8_acceptRanges), ("unicode/utf8.first", laid_unicode_utf8_first)], narrowed := true }
def SignLongerUptoSaid : Prop := signLongerUptoRow.holds Tryd.pinned (OpenSpec.upto signLongerSpec)

/-- 'talweglaw10.LexTells', WHERE WHAT IT READS IS OF BULK AT MOST 1048576: true; the input reads as it did. -/
def lexTellsUptoRow : OpenClaim := { program := "ytmflkokhhknlaaadoor", sum := "ead652c509681e8e240bf297e82eea7765fd9d6a6ab5a397dbda68f5928b9589", func := "talweg/talweglaw10.LexTells", spec := "lexTells", inPlace := ["internal/bytealg.IndexByteString", "internal/bytealg.IndexString"], unfollowed := true, recurses := true, named := ["unicode/utf8.first", "unicode/utf8.acceptRanges", "internal/bytealg.MaxLen"], apart := false, laid := [("unicode/utf8.acceptRanges", laid_unicode_utf8_acceptRanges), ("unicode/utf8.first", laid_unicode_utf8_first)], narrowed := true }
def LexTellsUptoSaid : Prop := lexTellsUptoRow.holds Tryd.pinned (OpenSpec.upto lexTellsSpec)

/-- 'talweglaw10.LexJoins', WHERE WHAT IT READS IS OF BULK AT MOST 1048576: true; the input reads as it did. -/
def lexJoinsUptoRow : OpenClaim := { program := "ytmflkokhhknlaaadoor", sum := "ead652c509681e8e240bf297e82eea7765fd9d6a6ab5a397dbda68f5928b9589", func := "talweg/talweglaw10.LexJoins", spec := "lexJoins", inPlace := ["internal/bytealg.IndexByteString", "internal/bytealg.IndexString"], unfollowed := true, recurses := true, named := ["unicode/utf8.first", "unicode/utf8.acceptRanges", "internal/bytealg.MaxLen"], apart := false, laid := [("unicode/utf8.acceptRanges", laid_unicode_utf8_acceptRanges), ("unicode/utf8.first", laid_unicode_utf8_first)], narrowed := true }
def LexJoinsUptoSaid : Prop := lexJoinsUptoRow.holds Tryd.pinned (OpenSpec.upto lexJoinsSpec)

/-- 'talweglaw10.LexAgain', WHERE WHAT IT READS IS OF BULK AT MOST 1048576: true; the input reads as it did. -/
def lexAgainUptoRow : OpenClaim := { program := "ytmflkokhhknlaaadoor", sum := "ead652c509681e8e240bf297e82eea7765fd9d6a6ab5a397dbda68f5928b9589", func := "talweg/talweglaw10.LexAgain", spec := "lexAgain", inPlace := ["internal/bytealg.IndexByteString", "internal/bytealg.IndexString"], unfollowed := true, recurses := true, named := ["unicode/utf8.first", "unicode/utf8.acceptRanges", "internal/bytealg.MaxLen"], apart := false, laid := [("unicode/utf8.acceptRanges", laid_unicode_utf8_acceptRanges), ("unicode/utf8.first", laid_unicode_utf8_first)], narrowed := true }
def LexAgainUptoSaid : Prop := lexAgainUptoRow.holds Tryd.pinned (OpenSpec.upto lexAgainSpec)

/-- 'talweglaw10.LexLong', WHERE WHAT IT READS IS OF BULK AT MOST 1048576: true; the input reads as it did. -/
def lexLongUptoRow : OpenClaim := { program := "ytmflkokhhknlaaadoor", sum := "ead652c509681e8e240bf297e82eea7765fd9d6a6ab5a397dbda68f5928b9589", func := "talweg/talweglaw10.LexLong", spec := "lexLong", inPlace := ["internal/bytealg.IndexByteString", "internal/bytealg.IndexString"], unfollowed := true, recurses := true, named := ["unicode/utf8.first", "unicode/utf8.acceptRanges", "internal/bytealg.MaxLen"], apart := false, laid := [("unicode/utf8.acceptRanges", laid_unicode_utf8_acceptRanges), ("unicode/utf8.first", laid_unicode_utf8_first)], narrowed := true }
def LexLongUptoSaid : Prop := lexLongUptoRow.holds Tryd.pinned (OpenSpec.upto lexLongSpec)

/-- 'talweglaw10.LexFront', WHERE WHAT IT READS IS OF BULK AT MOST 1048576: true; the input reads as it did. -/
def lexFrontUptoRow : OpenClaim := { program := "ytmflkokhhknlaaadoor", sum := "ead652c509681e8e240bf297e82eea7765fd9d6a6ab5a397dbda68f5928b9589", func := "talweg/talweglaw10.LexFront", spec := "lexFront", inPlace := ["internal/bytealg.IndexByteString", "internal/bytealg.IndexString"], unfollowed := true, recurses := true, named := ["unicode/utf8.first", "unicode/utf8.acceptRanges", "internal/bytealg.MaxLen"], apart := false, laid := [("unicode/utf8.acceptRanges", laid_unicode_utf8_acceptRanges), ("unicode/utf8.first", laid_unicode_utf8_first)], narrowed := true }
def LexFrontUptoSaid : Prop := lexFrontUptoRow.holds Tryd.pinned (OpenSpec.upto lexFrontSpec)

end Rows
end Go.Proofs.YtmflkokhhknlaaaDoor
