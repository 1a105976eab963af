/-
  No cell of these rows narrows 'for every input' (looked for: loops, veiled, ifaces, maps, wideKeys, modest, calm, conditions, laid).
  DERIVED. THE GIVEN ROWS OF THIS SEAT. 4 by the template 'for every input the law returns true; each argument reads behind the call as it read before'; 0 by the template 'total and deterministic' (their statements: YtnpbhdphbbdefaaTotals.lean).
  GIVEN WITH THE SEED: the statements are not yours to turn. If you find one false, say at which input.
  Laid BY PROGRAM, IN A SANDBOX (cutbox-rows.mjs): the forced cells as the released guide's own fill.sh prints them over the translation 2d9f8d968db5c4be… (all of the seat's roots in one cut). By AI agents, Wed Nov 11 2026. No macro, syntax, notation, axiom, sorry.
-/
import Derived.Test.YtnpbhdphbbdefaaChecked
import GoSem.Claim
import GoSem.ClaimJoined
import GoSem.ClaimMapViews
import Derived.JoinedTies
import Derived.KernelRfl
namespace Go.Proofs.Ytnpbhdphbbdefaa
/- THE CELL 'sum', in the pinned program and in every row, IS THE sha256 OF THE DUMP (.gsa) THAT YtnpbhdphbbdefaaProg.lean LOADS. Nothing in Lean hashes anything: it is a label: what it is worth is what the hold of that sum in a sandbox is worth. -/
noncomputable def Try.pinned : Pinned := { name := "ytnpbhdphbbdefaa", sum := "2d9f8d968db5c4be57cd5274202700a73c04f7dd186e3b58ef9464a93ae168c8", checked := Try.checked }
namespace Rows
def none {H : Type} : Left H := { results := [], args := [] }

/-- 'calliperlaw02.EndsPuts': WHATEVER THE INPUT: true; the input reads as it did. -/
def endsPutsSpec : ChangeSpec := { name := "endsPuts", fn := fun _ => fun
  | [d1, d2, d3] => { results := [.lit (.bool true)], args := [d1, d2, d3] }
  | _ => none }
def endsPutsRow : OpenClaim := { program := "ytnpbhdphbbdefaa", sum := "2d9f8d968db5c4be57cd5274202700a73c04f7dd186e3b58ef9464a93ae168c8", func := "calliper/calliperlaw02.EndsPuts", spec := "endsPuts", apart := false }
def EndsPutsSaid : Prop := endsPutsRow.holds Try.pinned (OpenSpec.ofChange endsPutsSpec)

/-- ITS FALSE NEIGHBOUR: 'it returns false'. Refute it at one input. -/
def endsPutsWrong : ChangeSpec := { name := "endsPuts", fn := fun _ => fun
  | [d1, d2, d3] => { results := [.lit (.bool false)], args := [d1, d2, d3] }
  | _ => none }
def EndsPutsWrongFalsely : Prop := endsPutsRow.holds Try.pinned (OpenSpec.ofChange endsPutsWrong)

/-- 'calliperlaw02.EndsGets': WHATEVER THE INPUT: true; the input reads as it did. -/
def endsGetsSpec : ChangeSpec := { name := "endsGets", fn := fun _ => fun
  | [d1, d2, d3] => { results := [.lit (.bool true)], args := [d1, d2, d3] }
  | _ => none }
def endsGetsRow : OpenClaim := { program := "ytnpbhdphbbdefaa", sum := "2d9f8d968db5c4be57cd5274202700a73c04f7dd186e3b58ef9464a93ae168c8", func := "calliper/calliperlaw02.EndsGets", spec := "endsGets", apart := false }
def EndsGetsSaid : Prop := endsGetsRow.holds Try.pinned (OpenSpec.ofChange endsGetsSpec)

/-- ITS FALSE NEIGHBOUR: 'it returns false'. Refute it at one input. -/
def endsGetsWrong : ChangeSpec := { name := "endsGets", fn := fun _ => fun
  | [d1, d2, d3] => { results := [.lit (.bool false)], args := [d1, d2, d3] }
  | _ => none }
def EndsGetsWrongFalsely : Prop := endsGetsRow.holds Try.pinned (OpenSpec.ofChange endsGetsWrong)

/-- 'calliperlaw02.EndsBack': WHATEVER THE INPUT: true; the input reads as it did. -/
def endsBackSpec : ChangeSpec := { name := "endsBack", fn := fun _ => fun
  | [d1, d2, d3] => { results := [.lit (.bool true)], args := [d1, d2, d3] }
  | _ => none }
def endsBackRow : OpenClaim := { program := "ytnpbhdphbbdefaa", sum := "2d9f8d968db5c4be57cd5274202700a73c04f7dd186e3b58ef9464a93ae168c8", func := "calliper/calliperlaw02.EndsBack", spec := "endsBack", apart := false }
def EndsBackSaid : Prop := endsBackRow.holds Try.pinned (OpenSpec.ofChange endsBackSpec)

/-- ITS FALSE NEIGHBOUR: 'it returns false'. Refute it at one input. -/
def endsBackWrong : ChangeSpec := { name := "endsBack", fn := fun _ => fun
  | [d1, d2, d3] => { results := [.lit (.bool false)], args := [d1, d2, d3] }
  | _ => none }
def EndsBackWrongFalsely : Prop := endsBackRow.holds Try.pinned (OpenSpec.ofChange endsBackWrong)

/-- 'calliperlaw02.EndsTurn': WHATEVER THE INPUT: true; the input reads as it did. -/
def endsTurnSpec : ChangeSpec := { name := "endsTurn", fn := fun _ => fun
  | [d1, d2] => { results := [.lit (.bool true)], args := [d1, d2] }
  | _ => none }
def endsTurnRow : OpenClaim := { program := "ytnpbhdphbbdefaa", sum := "2d9f8d968db5c4be57cd5274202700a73c04f7dd186e3b58ef9464a93ae168c8", func := "calliper/calliperlaw02.EndsTurn", spec := "endsTurn", apart := false }
def EndsTurnSaid : Prop := endsTurnRow.holds Try.pinned (OpenSpec.ofChange endsTurnSpec)

/-- ITS FALSE NEIGHBOUR: 'it returns false'. Refute it at one input. -/
def endsTurnWrong : ChangeSpec := { name := "endsTurn", fn := fun _ => fun
  | [d1, d2] => { results := [.lit (.bool false)], args := [d1, d2] }
  | _ => none }
def EndsTurnWrongFalsely : Prop := endsTurnRow.holds Try.pinned (OpenSpec.ofChange endsTurnWrong)

/- THE SECOND FORM. 'bulk': how many values and letters a reading holds, each counted each time it is reached (what is shared counts as often as it is met; a slice's spare places count too). A statement '..UptoSaid' is the law's where the arguments, and the package variables that the reading takes, are together of bulk at most 1048576: NARROWER than '..Said'. Prove '..Said' where nothing that the law and all that it calls make is longer than what came in: it says more and counts as full. Else prove '..UptoSaid'. A law counts once. -/
mutual
def uptoBulk {H : Type} : DataW H → Nat
  | .lit (.string bytes) => bytes.length + 1
  | .lit _ => 1
  | .nil => 1
  | .ptr d => uptoBulk d + 1
  | .slice elems spare => uptoBulkAll elems + uptoBulkAll spare + 1
  | .agg parts => uptoBulkAll parts + 1
  | .iface _ d => uptoBulk d + 1
  | .map entries => uptoBulkEntries entries + 1
  | .held _ => 1
def uptoBulkAll {H : Type} : List (DataW H) → Nat
  | [] => 0
  | d :: r => uptoBulk d + uptoBulkAll r
def uptoBulkEntries {H : Type} : List (Lit × DataW H) → Nat
  | [] => 0
  | x :: r => uptoBulkEntry x + uptoBulkEntries r
def uptoBulkEntry {H : Type} : Lit × DataW H → Nat
  | (.string bytes, d) => bytes.length + uptoBulk d + 1
  | (_, d) => uptoBulk d + 1
 end
def uptoSmall : (H : Type) → List (DataW H) → Bool := fun _ ds => decide (uptoBulkAll ds ≤ 1048576)
def OpenSpec.upto (s : _root_.Go.ChangeSpec) : _root_.Go.OpenSpec := { _root_.Go.OpenSpec.ofChange s with cond := some uptoSmall }

/-- 'calliperlaw02.EndsPuts', WHERE WHAT IT READS IS OF BULK AT MOST 1048576: true; the input reads as it did. -/
def endsPutsUptoRow : OpenClaim := { program := "ytnpbhdphbbdefaa", sum := "2d9f8d968db5c4be57cd5274202700a73c04f7dd186e3b58ef9464a93ae168c8", func := "calliper/calliperlaw02.EndsPuts", spec := "endsPuts", apart := false, narrowed := true }
def EndsPutsUptoSaid : Prop := endsPutsUptoRow.holds Try.pinned (OpenSpec.upto endsPutsSpec)

/-- 'calliperlaw02.EndsGets', WHERE WHAT IT READS IS OF BULK AT MOST 1048576: true; the input reads as it did. -/
def endsGetsUptoRow : OpenClaim := { program := "ytnpbhdphbbdefaa", sum := "2d9f8d968db5c4be57cd5274202700a73c04f7dd186e3b58ef9464a93ae168c8", func := "calliper/calliperlaw02.EndsGets", spec := "endsGets", apart := false, narrowed := true }
def EndsGetsUptoSaid : Prop := endsGetsUptoRow.holds Try.pinned (OpenSpec.upto endsGetsSpec)

/-- 'calliperlaw02.EndsBack', WHERE WHAT IT READS IS OF BULK AT MOST 1048576: true; the input reads as it did. -/
def endsBackUptoRow : OpenClaim := { program := "ytnpbhdphbbdefaa", sum := "2d9f8d968db5c4be57cd5274202700a73c04f7dd186e3b58ef9464a93ae168c8", func := "calliper/calliperlaw02.EndsBack", spec := "endsBack", apart := false, narrowed := true }
def EndsBackUptoSaid : Prop := endsBackUptoRow.holds Try.pinned (OpenSpec.upto endsBackSpec)

/-- 'calliperlaw02.EndsTurn', WHERE WHAT IT READS IS OF BULK AT MOST 1048576: true; the input reads as it did. -/
def endsTurnUptoRow : OpenClaim := { program := "ytnpbhdphbbdefaa", sum := "2d9f8d968db5c4be57cd5274202700a73c04f7dd186e3b58ef9464a93ae168c8", func := "calliper/calliperlaw02.EndsTurn", spec := "endsTurn", apart := false, narrowed := true }
def EndsTurnUptoSaid : Prop := endsTurnUptoRow.holds Try.pinned (OpenSpec.upto endsTurnSpec)

end Rows
end Go.Proofs.Ytnpbhdphbbdefaa
