/-
  DERIVED. GIVEN WITH THE SEED: THE CARDS: each row of YtaponjjdfcmbeaaDoorRows.lean that lists a variable, with what it lists TIED to the program's text (the seventh form; the later family's looks); each row that meets fmt, with fmt's text TOLD by the authors' own Lean function (tested against real Go, not proved from fmt's source: count such statements apart). THE CARD IS WHAT COUNTS. Prove the row's statement (the work); the ties are given (YtaponjjdfcmbeaaDoorTie.lean); close each card by the builder's one call (the guide's Derived/Test/ToyasCard.lean, 'card_holds'). Laid BY PROGRAM, IN A SANDBOX (cutbox-door.mjs). By AI agents, Wed Nov 11 2026. No macro, syntax, notation, axiom, sorry.
-/
import Derived.Test.YtaponjjdfcmbeaaDoorRows
import GoSem.ClaimSeven
namespace Go.Proofs.YtaponjjdfcmbeaaDoor
namespace Rows

/-- THE TIED CARD OF 'calliperlaw19.TreeDecodes'. -/
def treeDecodesCard : Claim7 := { stood := { row := treeDecodesRow, standIns := [], harness := (true, "0902daea356e995049bef7410df837927544ff2b82cca37895064edd0d290199"), looks := false }, kinds := [], alts := [], laidByText := true, laidKinds := [.data, .data, .data], laidTests := true, laidLooks := .later }
def TreeDecodesCardSaid : Prop := Claim7.holds Tryd.pinned (.plain (OpenSpec.ofChange treeDecodesSpec)) treeDecodesCard

/-- THE TIED CARD OF 'calliperlaw19.TreeMoved'. -/
def treeMovedCard : Claim7 := { stood := { row := treeMovedRow, standIns := [], harness := (true, "0902daea356e995049bef7410df837927544ff2b82cca37895064edd0d290199"), looks := false }, kinds := [], alts := [], laidByText := true, laidKinds := [.data, .data, .data], laidTests := true, laidLooks := .later }
def TreeMovedCardSaid : Prop := Claim7.holds Tryd.pinned (.plain (OpenSpec.ofChange treeMovedSpec)) treeMovedCard

/-- THE TIED CARD OF 'calliperlaw19.TreeNumbers'. -/
def treeNumbersCard : Claim7 := { stood := { row := treeNumbersRow, standIns := [], harness := (true, "0902daea356e995049bef7410df837927544ff2b82cca37895064edd0d290199"), looks := false }, kinds := [], alts := [], laidByText := true, laidKinds := [.data, .data, .data], laidTests := true, laidLooks := .later }
def TreeNumbersCardSaid : Prop := Claim7.holds Tryd.pinned (.plain (OpenSpec.ofChange treeNumbersSpec)) treeNumbersCard

/-- THE TIED CARD OF 'calliperlaw19.TreeWays'. -/
def treeWaysCard : Claim7 := { stood := { row := treeWaysRow, standIns := [], harness := (true, "0902daea356e995049bef7410df837927544ff2b82cca37895064edd0d290199"), looks := false }, kinds := [], alts := [], laidByText := true, laidKinds := [.data, .data, .data], laidTests := true, laidLooks := .later }
def TreeWaysCardSaid : Prop := Claim7.holds Tryd.pinned (.plain (OpenSpec.ofChange treeWaysSpec)) treeWaysCard

/-- THE SECOND FORM's CARD OF 'calliperlaw19.TreeDecodes'. -/
def treeDecodesUptoCard : Claim7 := { stood := { row := treeDecodesUptoRow, standIns := [], harness := (true, "0902daea356e995049bef7410df837927544ff2b82cca37895064edd0d290199"), looks := false }, kinds := [], alts := [], laidByText := true, laidKinds := [.data, .data, .data], laidTests := true, laidLooks := .later }
def TreeDecodesUptoCardSaid : Prop := Claim7.holds Tryd.pinned (.plain (OpenSpec.upto treeDecodesSpec)) treeDecodesUptoCard

/-- THE SECOND FORM's CARD OF 'calliperlaw19.TreeMoved'. -/
def treeMovedUptoCard : Claim7 := { stood := { row := treeMovedUptoRow, standIns := [], harness := (true, "0902daea356e995049bef7410df837927544ff2b82cca37895064edd0d290199"), looks := false }, kinds := [], alts := [], laidByText := true, laidKinds := [.data, .data, .data], laidTests := true, laidLooks := .later }
def TreeMovedUptoCardSaid : Prop := Claim7.holds Tryd.pinned (.plain (OpenSpec.upto treeMovedSpec)) treeMovedUptoCard

/-- THE SECOND FORM's CARD OF 'calliperlaw19.TreeNumbers'. -/
def treeNumbersUptoCard : Claim7 := { stood := { row := treeNumbersUptoRow, standIns := [], harness := (true, "0902daea356e995049bef7410df837927544ff2b82cca37895064edd0d290199"), looks := false }, kinds := [], alts := [], laidByText := true, laidKinds := [.data, .data, .data], laidTests := true, laidLooks := .later }
def TreeNumbersUptoCardSaid : Prop := Claim7.holds Tryd.pinned (.plain (OpenSpec.upto treeNumbersSpec)) treeNumbersUptoCard

/-- THE SECOND FORM's CARD OF 'calliperlaw19.TreeWays'. -/
def treeWaysUptoCard : Claim7 := { stood := { row := treeWaysUptoRow, standIns := [], harness := (true, "0902daea356e995049bef7410df837927544ff2b82cca37895064edd0d290199"), looks := false }, kinds := [], alts := [], laidByText := true, laidKinds := [.data, .data, .data], laidTests := true, laidLooks := .later }
def TreeWaysUptoCardSaid : Prop := Claim7.holds Tryd.pinned (.plain (OpenSpec.upto treeWaysSpec)) treeWaysUptoCard
end Rows
end Go.Proofs.YtaponjjdfcmbeaaDoor
