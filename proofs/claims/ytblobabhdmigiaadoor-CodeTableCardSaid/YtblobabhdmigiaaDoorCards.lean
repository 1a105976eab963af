/-
  DERIVED. GIVEN WITH THE SEED: THE CARDS: each row of YtblobabhdmigiaaDoorRows.lean that lists a variable, with what it lists TIED to the program's text (the seventh form; the later family's looks); each row that meets fmt, with fmt's text TOLD by the authors' own Lean function (tested against real Go, not proved from fmt's source: count such statements apart). THE CARD IS WHAT COUNTS. Prove the row's statement (the work); the ties are given (YtblobabhdmigiaaDoorTie.lean); close each card by the builder's one call (the guide's Derived/Test/ToyasCard.lean, 'card_holds'). Laid BY PROGRAM, IN A SANDBOX (cutbox-door.mjs). By AI agents, Wed Nov 11 2026. No macro, syntax, notation, axiom, sorry.
-/
import Derived.Test.YtblobabhdmigiaaDoorRows
import GoSem.ClaimSeven
namespace Go.Proofs.YtblobabhdmigiaaDoor
namespace Rows

/-- THE TIED CARD OF 'calliperlaw14.CodeTable'. -/
def codeTableCard : Claim7 := { stood := { row := codeTableRow, standIns := [], harness := (true, "f31f7581d06f9d6a98a94627372079b82f998c7446d582bd0ff4c34c3a667b94"), looks := true }, kinds := [], alts := [], laidByText := true, laidKinds := [.data, .data, .data, .data, .sentinel, .sentinel, .data, .pinned], laidTests := true, laidLooks := .later }
def CodeTableCardSaid : Prop := Claim7.holds Tryd.pinned (.plain (OpenSpec.ofChange codeTableSpec)) codeTableCard

/-- THE TIED CARD OF 'calliperlaw14.CodeText'. -/
def codeTextCard : Claim7 := { stood := { row := codeTextRow, standIns := [], harness := (true, "f31f7581d06f9d6a98a94627372079b82f998c7446d582bd0ff4c34c3a667b94"), looks := true }, kinds := [], alts := [], laidByText := true, laidKinds := [.data, .data, .data, .data, .sentinel, .sentinel, .data, .pinned], laidTests := true, laidLooks := .later }
def CodeTextCardSaid : Prop := Claim7.holds Tryd.pinned (.plain (OpenSpec.ofChange codeTextSpec)) codeTextCard

/-- THE TIED CARD OF 'calliperlaw14.CodeParse'. -/
def codeParseCard : Claim7 := { stood := { row := codeParseRow, standIns := [], harness := (true, "f31f7581d06f9d6a98a94627372079b82f998c7446d582bd0ff4c34c3a667b94"), looks := true }, kinds := [], alts := [], laidByText := true, laidKinds := [.data, .data, .data, .data, .sentinel, .sentinel, .data, .pinned], laidTests := true, laidLooks := .later }
def CodeParseCardSaid : Prop := Claim7.holds Tryd.pinned (.plain (OpenSpec.ofChange codeParseSpec)) codeParseCard

/-- THE TIED CARD OF 'calliperlaw14.CodeJoins'. -/
def codeJoinsCard : Claim7 := { stood := { row := codeJoinsRow, standIns := [], harness := (true, "f31f7581d06f9d6a98a94627372079b82f998c7446d582bd0ff4c34c3a667b94"), looks := true }, kinds := [], alts := [], laidByText := true, laidKinds := [.data, .data, .data, .data, .sentinel, .sentinel, .data, .pinned], laidTests := true, laidLooks := .later }
def CodeJoinsCardSaid : Prop := Claim7.holds Tryd.pinned (.plain (OpenSpec.ofChange codeJoinsSpec)) codeJoinsCard

/-- THE SECOND FORM's CARD OF 'calliperlaw14.CodeTable'. -/
def codeTableUptoCard : Claim7 := { stood := { row := codeTableUptoRow, standIns := [], harness := (true, "f31f7581d06f9d6a98a94627372079b82f998c7446d582bd0ff4c34c3a667b94"), looks := true }, kinds := [], alts := [], laidByText := true, laidKinds := [.data, .data, .data, .data, .sentinel, .sentinel, .data, .pinned], laidTests := true, laidLooks := .later }
def CodeTableUptoCardSaid : Prop := Claim7.holds Tryd.pinned (.plain (OpenSpec.upto codeTableSpec)) codeTableUptoCard

/-- THE SECOND FORM's CARD OF 'calliperlaw14.CodeText'. -/
def codeTextUptoCard : Claim7 := { stood := { row := codeTextUptoRow, standIns := [], harness := (true, "f31f7581d06f9d6a98a94627372079b82f998c7446d582bd0ff4c34c3a667b94"), looks := true }, kinds := [], alts := [], laidByText := true, laidKinds := [.data, .data, .data, .data, .sentinel, .sentinel, .data, .pinned], laidTests := true, laidLooks := .later }
def CodeTextUptoCardSaid : Prop := Claim7.holds Tryd.pinned (.plain (OpenSpec.upto codeTextSpec)) codeTextUptoCard

/-- THE SECOND FORM's CARD OF 'calliperlaw14.CodeParse'. -/
def codeParseUptoCard : Claim7 := { stood := { row := codeParseUptoRow, standIns := [], harness := (true, "f31f7581d06f9d6a98a94627372079b82f998c7446d582bd0ff4c34c3a667b94"), looks := true }, kinds := [], alts := [], laidByText := true, laidKinds := [.data, .data, .data, .data, .sentinel, .sentinel, .data, .pinned], laidTests := true, laidLooks := .later }
def CodeParseUptoCardSaid : Prop := Claim7.holds Tryd.pinned (.plain (OpenSpec.upto codeParseSpec)) codeParseUptoCard

/-- THE SECOND FORM's CARD OF 'calliperlaw14.CodeJoins'. -/
def codeJoinsUptoCard : Claim7 := { stood := { row := codeJoinsUptoRow, standIns := [], harness := (true, "f31f7581d06f9d6a98a94627372079b82f998c7446d582bd0ff4c34c3a667b94"), looks := true }, kinds := [], alts := [], laidByText := true, laidKinds := [.data, .data, .data, .data, .sentinel, .sentinel, .data, .pinned], laidTests := true, laidLooks := .later }
def CodeJoinsUptoCardSaid : Prop := Claim7.holds Tryd.pinned (.plain (OpenSpec.upto codeJoinsSpec)) codeJoinsUptoCard
end Rows
end Go.Proofs.YtblobabhdmigiaaDoor
