/-
  DERIVED. GIVEN WITH THE SEED: THE CARDS: each row of YtgfmbkbiingagaaDoorRows.lean that lists a variable, with what it lists TIED to the program's text (the seventh form; the later family's looks); each row that meets fmt, with fmt's text TOLD by the authors' own Lean function (tested against real Go, not proved from fmt's source: count such statements apart). THE CARD IS WHAT COUNTS. Prove the row's statement (the work); the ties are given (YtgfmbkbiingagaaDoorTie.lean); close each card by the builder's one call (the guide's Derived/Test/ToyasCard.lean, 'card_holds'). Laid BY PROGRAM, IN A SANDBOX (cutbox-door.mjs). By AI agents, Wed Nov 11 2026. No macro, syntax, notation, axiom, sorry.
-/
import Derived.Test.YtgfmbkbiingagaaDoorRows
import GoSem.ClaimSeven
namespace Go.Proofs.YtgfmbkbiingagaaDoor
namespace Rows

/-- THE TIED CARD OF 'calliperlaw15.CheckDead'. -/
def checkDeadCard : Claim7 := { stood := { row := checkDeadRow, standIns := [], harness := (true, "899ad25f007bfae0929fa4262d70a6737175d800d70b47b21ae80f94925374db"), looks := true }, kinds := [], alts := [], laidByText := true, laidKinds := [.data, .data, .data, .data, .sentinel, .sentinel, .data, .pinned], laidTests := true, laidLooks := .later }
def CheckDeadCardSaid : Prop := Claim7.holds Tryd.pinned (.plain (OpenSpec.ofChange checkDeadSpec)) checkDeadCard

/-- THE TIED CARD OF 'calliperlaw15.CheckSlots'. -/
def checkSlotsCard : Claim7 := { stood := { row := checkSlotsRow, standIns := [], harness := (true, "899ad25f007bfae0929fa4262d70a6737175d800d70b47b21ae80f94925374db"), looks := true }, kinds := [], alts := [], laidByText := true, laidKinds := [.data, .data, .data, .data, .sentinel, .sentinel, .data, .pinned], laidTests := true, laidLooks := .later }
def CheckSlotsCardSaid : Prop := Claim7.holds Tryd.pinned (.plain (OpenSpec.ofChange checkSlotsSpec)) checkSlotsCard

/-- THE SECOND FORM's CARD OF 'calliperlaw15.CheckDead'. -/
def checkDeadUptoCard : Claim7 := { stood := { row := checkDeadUptoRow, standIns := [], harness := (true, "899ad25f007bfae0929fa4262d70a6737175d800d70b47b21ae80f94925374db"), looks := true }, kinds := [], alts := [], laidByText := true, laidKinds := [.data, .data, .data, .data, .sentinel, .sentinel, .data, .pinned], laidTests := true, laidLooks := .later }
def CheckDeadUptoCardSaid : Prop := Claim7.holds Tryd.pinned (.plain (OpenSpec.upto checkDeadSpec)) checkDeadUptoCard

/-- THE SECOND FORM's CARD OF 'calliperlaw15.CheckSlots'. -/
def checkSlotsUptoCard : Claim7 := { stood := { row := checkSlotsUptoRow, standIns := [], harness := (true, "899ad25f007bfae0929fa4262d70a6737175d800d70b47b21ae80f94925374db"), looks := true }, kinds := [], alts := [], laidByText := true, laidKinds := [.data, .data, .data, .data, .sentinel, .sentinel, .data, .pinned], laidTests := true, laidLooks := .later }
def CheckSlotsUptoCardSaid : Prop := Claim7.holds Tryd.pinned (.plain (OpenSpec.upto checkSlotsSpec)) checkSlotsUptoCard
end Rows
end Go.Proofs.YtgfmbkbiingagaaDoor
