/-
  DERIVED. GIVEN WITH THE SEED: THE CARDS: each row of YtoingpafcodojaaGreatDoorRows.lean that lists a variable, with what it lists TIED to the program's text (the seventh form; the later family's looks); each row that meets fmt, with fmt's text TOLD by the authors' own Lean function (tested against real Go, not proved from fmt's source: count such statements apart). THE CARD IS WHAT COUNTS. Prove the row's statement (the work); the ties are given (YtoingpafcodojaaGreatDoorTie.lean); close each card by the builder's one call (the guide's Derived/Test/ToyasCard.lean, 'card_holds'). Laid BY PROGRAM, IN A SANDBOX (cutbox-door.mjs). By AI agents, Wed Nov 11 2026. No macro, syntax, notation, axiom, sorry.
-/
import Derived.Test.YtoingpafcodojaaGreatDoorRows
import GoSem.ClaimSeven
namespace Go.Proofs.YtoingpafcodojaaGreatDoor
namespace Rows

/-- THE TIED CARD OF 'calliperlaw10.ExprText'. -/
def exprTextCard : Claim7 := { stood := { row := exprTextRow, standIns := [], harness := (true, "17becb4bdc0081d553c93ea4c651e4f2393ed5a7f930a22c0fd518b66bd7328d"), looks := true }, kinds := [], alts := [], laidByText := true, laidKinds := [.data, .data, .data, .data, .sentinel, .sentinel, .data, .pinned], laidTests := true, laidLooks := .later }
def ExprTextCardSaid : Prop := Claim7.holds Tryz.pinned (.plain (OpenSpec.ofChange exprTextSpec)) exprTextCard

/-- THE TIED CARD OF 'calliperlaw10.ExprParts'. -/
def exprPartsCard : Claim7 := { stood := { row := exprPartsRow, standIns := [], harness := (true, "17becb4bdc0081d553c93ea4c651e4f2393ed5a7f930a22c0fd518b66bd7328d"), looks := true }, kinds := [], alts := [], laidByText := true, laidKinds := [.data, .data, .data, .data, .sentinel, .sentinel, .data, .pinned], laidTests := true, laidLooks := .later }
def ExprPartsCardSaid : Prop := Claim7.holds Tryz.pinned (.plain (OpenSpec.ofChange exprPartsSpec)) exprPartsCard

/-- THE TIED CARD OF 'calliperlaw10.ExprOnly'. -/
def exprOnlyCard : Claim7 := { stood := { row := exprOnlyRow, standIns := [], harness := (true, "17becb4bdc0081d553c93ea4c651e4f2393ed5a7f930a22c0fd518b66bd7328d"), looks := true }, kinds := [], alts := [], laidByText := true, laidKinds := [.data, .data, .data, .data, .sentinel, .sentinel, .data, .pinned], laidTests := true, laidLooks := .later }
def ExprOnlyCardSaid : Prop := Claim7.holds Tryz.pinned (.plain (OpenSpec.ofChange exprOnlySpec)) exprOnlyCard

/-- THE TIED CARD OF 'calliperlaw10.ExprEnv'. -/
def exprEnvCard : Claim7 := { stood := { row := exprEnvRow, standIns := [], harness := (true, "17becb4bdc0081d553c93ea4c651e4f2393ed5a7f930a22c0fd518b66bd7328d"), looks := true }, kinds := [], alts := [], laidByText := true, laidKinds := [.data, .data, .data, .data, .sentinel, .sentinel, .data, .pinned], laidTests := true, laidLooks := .later }
def ExprEnvCardSaid : Prop := Claim7.holds Tryz.pinned (.plain (OpenSpec.ofChange exprEnvSpec)) exprEnvCard

/-- THE SECOND FORM's CARD OF 'calliperlaw10.ExprText'. -/
def exprTextUptoCard : Claim7 := { stood := { row := exprTextUptoRow, standIns := [], harness := (true, "17becb4bdc0081d553c93ea4c651e4f2393ed5a7f930a22c0fd518b66bd7328d"), looks := true }, kinds := [], alts := [], laidByText := true, laidKinds := [.data, .data, .data, .data, .sentinel, .sentinel, .data, .pinned], laidTests := true, laidLooks := .later }
def ExprTextUptoCardSaid : Prop := Claim7.holds Tryz.pinned (.plain (OpenSpec.upto exprTextSpec)) exprTextUptoCard

/-- THE SECOND FORM's CARD OF 'calliperlaw10.ExprParts'. -/
def exprPartsUptoCard : Claim7 := { stood := { row := exprPartsUptoRow, standIns := [], harness := (true, "17becb4bdc0081d553c93ea4c651e4f2393ed5a7f930a22c0fd518b66bd7328d"), looks := true }, kinds := [], alts := [], laidByText := true, laidKinds := [.data, .data, .data, .data, .sentinel, .sentinel, .data, .pinned], laidTests := true, laidLooks := .later }
def ExprPartsUptoCardSaid : Prop := Claim7.holds Tryz.pinned (.plain (OpenSpec.upto exprPartsSpec)) exprPartsUptoCard

/-- THE SECOND FORM's CARD OF 'calliperlaw10.ExprOnly'. -/
def exprOnlyUptoCard : Claim7 := { stood := { row := exprOnlyUptoRow, standIns := [], harness := (true, "17becb4bdc0081d553c93ea4c651e4f2393ed5a7f930a22c0fd518b66bd7328d"), looks := true }, kinds := [], alts := [], laidByText := true, laidKinds := [.data, .data, .data, .data, .sentinel, .sentinel, .data, .pinned], laidTests := true, laidLooks := .later }
def ExprOnlyUptoCardSaid : Prop := Claim7.holds Tryz.pinned (.plain (OpenSpec.upto exprOnlySpec)) exprOnlyUptoCard

/-- THE SECOND FORM's CARD OF 'calliperlaw10.ExprEnv'. -/
def exprEnvUptoCard : Claim7 := { stood := { row := exprEnvUptoRow, standIns := [], harness := (true, "17becb4bdc0081d553c93ea4c651e4f2393ed5a7f930a22c0fd518b66bd7328d"), looks := true }, kinds := [], alts := [], laidByText := true, laidKinds := [.data, .data, .data, .data, .sentinel, .sentinel, .data, .pinned], laidTests := true, laidLooks := .later }
def ExprEnvUptoCardSaid : Prop := Claim7.holds Tryz.pinned (.plain (OpenSpec.upto exprEnvSpec)) exprEnvUptoCard
end Rows
end Go.Proofs.YtoingpafcodojaaGreatDoor
