/-
  DERIVED. GIVEN WITH THE SEED: THE CARDS: each row of YtidnlfkakhmadaaGreatDoorRows.lean that lists a variable, with what it lists TIED to the program's text (the seventh form; the later family's looks); each row that meets fmt, with fmt's text TOLD by the authors' own Lean function (tested against real Go, not proved from fmt's source: count such statements apart). THE CARD IS WHAT COUNTS. Prove the row's statement (the work); the ties are given (YtidnlfkakhmadaaGreatDoorTie.lean); close each card by the builder's one call (the guide's Derived/Test/ToyasCard.lean, 'card_holds'). Laid BY PROGRAM, IN A SANDBOX (cutbox-door.mjs). By AI agents, Wed Nov 11 2026. No macro, syntax, notation, axiom, sorry.
-/
import Derived.Test.YtidnlfkakhmadaaGreatDoorRows
import GoSem.ClaimSeven
namespace Go.Proofs.YtidnlfkakhmadaaGreatDoor
namespace Rows

/-- THE TIED CARD OF 'callipertop.TopBlanks'. -/
def topBlanksCard : Claim7 := { stood := { row := topBlanksRow, standIns := [], harness := (true, "db101e772c0ae5dedf768837da098c9fe8ec3d5af7fdcaf0e1d1467bbdd14324"), looks := true }, kinds := [], alts := [], laidByText := true, laidKinds := [.data, .data, .data, .data, .sentinel, .sentinel, .data, .pinned], laidTests := true, laidLooks := .later }
def TopBlanksCardSaid : Prop := Claim7.holds Tryz.pinned (.plain (OpenSpec.ofChange topBlanksSpec)) topBlanksCard

/-- THE TIED CARD OF 'callipertop.TopNames'. -/
def topNamesCard : Claim7 := { stood := { row := topNamesRow, standIns := [], harness := (true, "db101e772c0ae5dedf768837da098c9fe8ec3d5af7fdcaf0e1d1467bbdd14324"), looks := true }, kinds := [], alts := [], laidByText := true, laidKinds := [.data, .data, .data, .data, .sentinel, .sentinel, .data, .pinned], laidTests := true, laidLooks := .later }
def TopNamesCardSaid : Prop := Claim7.holds Tryz.pinned (.plain (OpenSpec.ofChange topNamesSpec)) topNamesCard

/-- THE SECOND FORM's CARD OF 'callipertop.TopBlanks'. -/
def topBlanksUptoCard : Claim7 := { stood := { row := topBlanksUptoRow, standIns := [], harness := (true, "db101e772c0ae5dedf768837da098c9fe8ec3d5af7fdcaf0e1d1467bbdd14324"), looks := true }, kinds := [], alts := [], laidByText := true, laidKinds := [.data, .data, .data, .data, .sentinel, .sentinel, .data, .pinned], laidTests := true, laidLooks := .later }
def TopBlanksUptoCardSaid : Prop := Claim7.holds Tryz.pinned (.plain (OpenSpec.upto topBlanksSpec)) topBlanksUptoCard

/-- THE SECOND FORM's CARD OF 'callipertop.TopNames'. -/
def topNamesUptoCard : Claim7 := { stood := { row := topNamesUptoRow, standIns := [], harness := (true, "db101e772c0ae5dedf768837da098c9fe8ec3d5af7fdcaf0e1d1467bbdd14324"), looks := true }, kinds := [], alts := [], laidByText := true, laidKinds := [.data, .data, .data, .data, .sentinel, .sentinel, .data, .pinned], laidTests := true, laidLooks := .later }
def TopNamesUptoCardSaid : Prop := Claim7.holds Tryz.pinned (.plain (OpenSpec.upto topNamesSpec)) topNamesUptoCard
end Rows
end Go.Proofs.YtidnlfkakhmadaaGreatDoor
