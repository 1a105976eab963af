/-
  DERIVED. GIVEN WITH THE SEED: THE CARDS: each row of YtkeehnhamkdogaaDoorRows.lean that lists a variable, with what it lists TIED to the program's text (the seventh form; the later family's looks); each row that meets fmt, with fmt's text TOLD by the authors' own Lean function (tested against real Go, not proved from fmt's source: count such statements apart). THE CARD IS WHAT COUNTS. Prove the row's statement (the work); the ties are given (YtkeehnhamkdogaaDoorTie.lean); close each card by the builder's one call (the guide's Derived/Test/ToyasCard.lean, 'card_holds'). Laid BY PROGRAM, IN A SANDBOX (cutbox-door.mjs). By AI agents, Wed Nov 11 2026. No macro, syntax, notation, axiom, sorry.
-/
import Derived.Test.YtkeehnhamkdogaaDoorRows
import GoSem.ClaimSeven
namespace Go.Proofs.YtkeehnhamkdogaaDoor
namespace Rows

/-- THE TIED CARD OF 'calliperlaw18.ValueText'. -/
def valueTextCard : Claim7 := { stood := { row := valueTextRow, standIns := [], harness := (true, "6bf5c362cd481fe3d751572f1504a6a0b0d69aeef9018b1fcd6deae6dbd4dcf7"), looks := true }, kinds := [], alts := [], laidByText := true, laidKinds := [.data, .data, .data, .sentinel, .sentinel], laidTests := true, laidLooks := .later }
def ValueTextCardSaid : Prop := Claim7.holds Tryd.pinned (.plain (OpenSpec.ofChange valueTextSpec)) valueTextCard

/-- THE TIED CARD OF 'calliperlaw18.ValueParse'. -/
def valueParseCard : Claim7 := { stood := { row := valueParseRow, standIns := [], harness := (true, "6bf5c362cd481fe3d751572f1504a6a0b0d69aeef9018b1fcd6deae6dbd4dcf7"), looks := true }, kinds := [], alts := [], laidByText := true, laidKinds := [.data, .data, .data, .sentinel, .sentinel], laidTests := true, laidLooks := .later }
def ValueParseCardSaid : Prop := Claim7.holds Tryd.pinned (.plain (OpenSpec.ofChange valueParseSpec)) valueParseCard

/-- THE TIED CARD OF 'calliperlaw18.ValueEqual'. -/
def valueEqualCard : Claim7 := { stood := { row := valueEqualRow, standIns := [], harness := (true, "6bf5c362cd481fe3d751572f1504a6a0b0d69aeef9018b1fcd6deae6dbd4dcf7"), looks := true }, kinds := [], alts := [], laidByText := true, laidKinds := [.data, .data, .data, .sentinel, .sentinel], laidTests := true, laidLooks := .later }
def ValueEqualCardSaid : Prop := Claim7.holds Tryd.pinned (.plain (OpenSpec.ofChange valueEqualSpec)) valueEqualCard

/-- THE TIED CARD OF 'calliperlaw18.ValueLists'. -/
def valueListsCard : Claim7 := { stood := { row := valueListsRow, standIns := [], harness := (true, "6bf5c362cd481fe3d751572f1504a6a0b0d69aeef9018b1fcd6deae6dbd4dcf7"), looks := true }, kinds := [], alts := [], laidByText := true, laidKinds := [.data, .data, .data, .sentinel, .sentinel], laidTests := true, laidLooks := .later }
def ValueListsCardSaid : Prop := Claim7.holds Tryd.pinned (.plain (OpenSpec.ofChange valueListsSpec)) valueListsCard

/-- THE TIED CARD OF 'calliperlaw18.ValueDeep'. -/
def valueDeepCard : Claim7 := { stood := { row := valueDeepRow, standIns := [], harness := (true, "6bf5c362cd481fe3d751572f1504a6a0b0d69aeef9018b1fcd6deae6dbd4dcf7"), looks := true }, kinds := [], alts := [], laidByText := true, laidKinds := [.data, .data, .data, .sentinel, .sentinel], laidTests := true, laidLooks := .later }
def ValueDeepCardSaid : Prop := Claim7.holds Tryd.pinned (.plain (OpenSpec.ofChange valueDeepSpec)) valueDeepCard

/-- THE TIED CARD OF 'calliperlaw18.ValueBack'. -/
def valueBackCard : Claim7 := { stood := { row := valueBackRow, standIns := [], harness := (true, "6bf5c362cd481fe3d751572f1504a6a0b0d69aeef9018b1fcd6deae6dbd4dcf7"), looks := true }, kinds := [], alts := [], laidByText := true, laidKinds := [.data, .data, .data, .data, .sentinel, .sentinel, .pinned], laidTests := true, laidLooks := .later }
def ValueBackCardSaid : Prop := Claim7.holds Tryd.pinned (.plain (OpenSpec.ofChange valueBackSpec)) valueBackCard

/-- THE SECOND FORM's CARD OF 'calliperlaw18.ValueText'. -/
def valueTextUptoCard : Claim7 := { stood := { row := valueTextUptoRow, standIns := [], harness := (true, "6bf5c362cd481fe3d751572f1504a6a0b0d69aeef9018b1fcd6deae6dbd4dcf7"), looks := true }, kinds := [], alts := [], laidByText := true, laidKinds := [.data, .data, .data, .sentinel, .sentinel], laidTests := true, laidLooks := .later }
def ValueTextUptoCardSaid : Prop := Claim7.holds Tryd.pinned (.plain (OpenSpec.upto valueTextSpec)) valueTextUptoCard

/-- THE SECOND FORM's CARD OF 'calliperlaw18.ValueParse'. -/
def valueParseUptoCard : Claim7 := { stood := { row := valueParseUptoRow, standIns := [], harness := (true, "6bf5c362cd481fe3d751572f1504a6a0b0d69aeef9018b1fcd6deae6dbd4dcf7"), looks := true }, kinds := [], alts := [], laidByText := true, laidKinds := [.data, .data, .data, .sentinel, .sentinel], laidTests := true, laidLooks := .later }
def ValueParseUptoCardSaid : Prop := Claim7.holds Tryd.pinned (.plain (OpenSpec.upto valueParseSpec)) valueParseUptoCard

/-- THE SECOND FORM's CARD OF 'calliperlaw18.ValueEqual'. -/
def valueEqualUptoCard : Claim7 := { stood := { row := valueEqualUptoRow, standIns := [], harness := (true, "6bf5c362cd481fe3d751572f1504a6a0b0d69aeef9018b1fcd6deae6dbd4dcf7"), looks := true }, kinds := [], alts := [], laidByText := true, laidKinds := [.data, .data, .data, .sentinel, .sentinel], laidTests := true, laidLooks := .later }
def ValueEqualUptoCardSaid : Prop := Claim7.holds Tryd.pinned (.plain (OpenSpec.upto valueEqualSpec)) valueEqualUptoCard

/-- THE SECOND FORM's CARD OF 'calliperlaw18.ValueLists'. -/
def valueListsUptoCard : Claim7 := { stood := { row := valueListsUptoRow, standIns := [], harness := (true, "6bf5c362cd481fe3d751572f1504a6a0b0d69aeef9018b1fcd6deae6dbd4dcf7"), looks := true }, kinds := [], alts := [], laidByText := true, laidKinds := [.data, .data, .data, .sentinel, .sentinel], laidTests := true, laidLooks := .later }
def ValueListsUptoCardSaid : Prop := Claim7.holds Tryd.pinned (.plain (OpenSpec.upto valueListsSpec)) valueListsUptoCard

/-- THE SECOND FORM's CARD OF 'calliperlaw18.ValueDeep'. -/
def valueDeepUptoCard : Claim7 := { stood := { row := valueDeepUptoRow, standIns := [], harness := (true, "6bf5c362cd481fe3d751572f1504a6a0b0d69aeef9018b1fcd6deae6dbd4dcf7"), looks := true }, kinds := [], alts := [], laidByText := true, laidKinds := [.data, .data, .data, .sentinel, .sentinel], laidTests := true, laidLooks := .later }
def ValueDeepUptoCardSaid : Prop := Claim7.holds Tryd.pinned (.plain (OpenSpec.upto valueDeepSpec)) valueDeepUptoCard

/-- THE SECOND FORM's CARD OF 'calliperlaw18.ValueBack'. -/
def valueBackUptoCard : Claim7 := { stood := { row := valueBackUptoRow, standIns := [], harness := (true, "6bf5c362cd481fe3d751572f1504a6a0b0d69aeef9018b1fcd6deae6dbd4dcf7"), looks := true }, kinds := [], alts := [], laidByText := true, laidKinds := [.data, .data, .data, .data, .sentinel, .sentinel, .pinned], laidTests := true, laidLooks := .later }
def ValueBackUptoCardSaid : Prop := Claim7.holds Tryd.pinned (.plain (OpenSpec.upto valueBackSpec)) valueBackUptoCard
end Rows
end Go.Proofs.YtkeehnhamkdogaaDoor
