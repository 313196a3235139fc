/-
  This seat's own facts for the statements: the tables that the rows list, a world that holds them.
-/
import Derived.Test.YtmflkokhhknlaaaDoorLift
import Derived.Test.YtmflkokhhknlaaaDoorSign
import Derived.Test.YtmflkokhhknlaaaDoorCards
import Derived.Test.YtmflkokhhknlaaaDoorTie
namespace Go.Proofs.YtmflkokhhknlaaaDoor
open Go Go.Tw Go.Lib
set_option linter.unusedVariables false
set_option linter.unusedSimpArgs false
set_option linter.unnecessarySimpa false
set_option maxHeartbeats 1000000

theorem own : ownKnob Tryd.prog.godebug = none := by kernel_rfl
theorem laidOut : laidOutB Tryd.prog = true := by kernel_rfl
theorem u8extra : U8Extra Tryd.prog Tryd.lays260_ren := ⟨by kernel_rfl, by kernel_rfl, by kernel_rfl, by kernel_rfl, by kernel_rfl, by kernel_rfl, by kernel_rfl⟩
theorem tabs_of {W : World} {l : List (String × DataW Unit)} (h1 : ("unicode/utf8.first", (Go.Pinned.utf8First : DataW Unit)) ∈ l) (h2 : ("unicode/utf8.acceptRanges", (Rows.laid_unicode_utf8_acceptRanges : DataW Unit)) ∈ l) (hL : laidMet Tryd.prog l W) : Tabs (World.hp W) := by
  have e1 : (Go.Pinned.utf8First : DataW Unit) = firstData := by kernel_rfl
  have e2 : (Rows.laid_unicode_utf8_acceptRanges : DataW Unit) = acceptData := by kernel_rfl
  have r1 := laidMet.reads hL h1
  have r2 := laidMet.reads hL h2
  rw [e1] at r1
  rw [e2] at r2
  obtain ⟨t1, t2⟩ := utf8Tabs_of_reads Tryd.lays260 u8extra r1 r2
  exact ⟨fun c hc => t1 c hc, fun i hi => t2 i hi⟩

/-- An object with these cells. -/
def withCells (cs : List Value) : Obj → Obj
  | .cells _ t frozen => .cells cs.toArray t frozen
  | o => o
/-- The settled world, both tables holding what the program's text lays. -/
noncomputable def laidWorld (os : Os) : World :=
  { World.holding Tryd.prog os ⟨#[], #[], []⟩ with heap := ((World.holding Tryd.prog os ⟨#[], #[], []⟩).heap.modify 0 (withCells ((List.range 256).map fun c => Value.int .u8 (firstT c)))).modify 1 (withCells ((List.range 16).flatMap fun i => [Value.int .u8 (accLo i), Value.int .u8 (accHi i)])) }
end Go.Proofs.YtmflkokhhknlaaaDoor
