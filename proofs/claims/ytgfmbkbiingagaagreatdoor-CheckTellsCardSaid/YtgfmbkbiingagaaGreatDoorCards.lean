/-
  DERIVED. GIVEN WITH THE SEED: THE CARDS: each row of YtgfmbkbiingagaaGreatDoorRows.lean that lists a variable, with what it lists TIED to the program's text (the seventh form; the later family's looks); each row that meets fmt, with fmt's text TOLD by the authors' own Lean function (tested against real Go, not proved from fmt's source: count such statements apart). THE CARD IS WHAT COUNTS. Prove the row's statement (the work); the ties are given (YtgfmbkbiingagaaGreatDoorTie.lean); close each card by the builder's one call (the guide's Derived/Test/ToyasCard.lean, 'card_holds'). Laid BY PROGRAM, IN A SANDBOX (cutbox-door.mjs). By AI agents, Wed Nov 11 2026. No macro, syntax, notation, axiom, sorry.
-/
import Derived.Test.YtgfmbkbiingagaaGreatDoorRows
import GoSem.ClaimSeven
namespace Go.Proofs.YtgfmbkbiingagaaGreatDoor
namespace Rows

/-- THE TIED CARD OF 'calliperlaw15.CheckTells'. -/
def checkTellsCard : Claim7 := { stood := { row := checkTellsRow, standIns := [], harness := (true, "a147d60f1743b63fa6266b4d7e7b89e952d223e840ca73f626fd27512cd0ee7d"), looks := true }, kinds := [], alts := [], laidByText := true, laidKinds := [.data, .data, .data, .data, .sentinel, .sentinel, .data, .pinned], laidTests := true, laidLooks := .later }
def CheckTellsCardSaid : Prop := Claim7.holds Tryz.pinned (.plain (OpenSpec.ofChange checkTellsSpec)) checkTellsCard

/-- THE SECOND FORM's CARD OF 'calliperlaw15.CheckTells'. -/
def checkTellsUptoCard : Claim7 := { stood := { row := checkTellsUptoRow, standIns := [], harness := (true, "a147d60f1743b63fa6266b4d7e7b89e952d223e840ca73f626fd27512cd0ee7d"), looks := true }, kinds := [], alts := [], laidByText := true, laidKinds := [.data, .data, .data, .data, .sentinel, .sentinel, .data, .pinned], laidTests := true, laidLooks := .later }
def CheckTellsUptoCardSaid : Prop := Claim7.holds Tryz.pinned (.plain (OpenSpec.upto checkTellsSpec)) checkTellsUptoCard
end Rows
end Go.Proofs.YtgfmbkbiingagaaGreatDoor
