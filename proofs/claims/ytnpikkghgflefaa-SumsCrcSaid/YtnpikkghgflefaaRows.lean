/-
  No cell of these rows narrows 'for every input' (looked for: loops, veiled, ifaces, maps, wideKeys, modest, calm, conditions, laid).
  DERIVED. THE GIVEN ROWS OF THIS SEAT. 4 by the template 'for every input the law returns true; each argument reads behind the call as it read before'; 0 by the template 'total and deterministic' (their statements: YtnpikkghgflefaaTotals.lean).
  GIVEN WITH THE SEED: the statements are not yours to turn. If you find one false, say at which input.
  Laid BY PROGRAM, IN A SANDBOX (cutbox-rows.mjs): the forced cells as the released guide's own fill.sh prints them over the translation 218e3cac80b3eddc… (all of the seat's roots in one cut). By AI agents, Wed Nov 11 2026. No macro, syntax, notation, axiom, sorry.
-/
import Derived.Test.YtnpikkghgflefaaChecked
import GoSem.Claim
import GoSem.ClaimJoined
import GoSem.ClaimMapViews
import Derived.JoinedTies
import Derived.KernelRfl
namespace Go.Proofs.Ytnpikkghgflefaa
/- THE CELL 'sum', in the pinned program and in every row, IS THE sha256 OF THE DUMP (.gsa) THAT YtnpikkghgflefaaProg.lean LOADS. Nothing in Lean hashes anything: it is a label: what it is worth is what the hold of that sum in a sandbox is worth. -/
noncomputable def Try.pinned : Pinned := { name := "ytnpikkghgflefaa", sum := "218e3cac80b3eddc6c6eae2700d8de8dbc62e0b4db453fa82b9a332210579212", checked := Try.checked }
namespace Rows
def none {H : Type} : Left H := { results := [], args := [] }

/-- 'calliperlaw04.SumsCrc': WHATEVER THE INPUT: true; the input reads as it did. -/
def sumsCrcSpec : ChangeSpec := { name := "sumsCrc", fn := fun _ => fun
  | [d] => { results := [.lit (.bool true)], args := [d] }
  | _ => none }
def sumsCrcRow : OpenClaim := { program := "ytnpikkghgflefaa", sum := "218e3cac80b3eddc6c6eae2700d8de8dbc62e0b4db453fa82b9a332210579212", func := "calliper/calliperlaw04.SumsCrc", spec := "sumsCrc", apart := false }
def SumsCrcSaid : Prop := sumsCrcRow.holds Try.pinned (OpenSpec.ofChange sumsCrcSpec)

/-- ITS FALSE NEIGHBOUR: 'it returns false'. Refute it at one input. -/
def sumsCrcWrong : ChangeSpec := { name := "sumsCrc", fn := fun _ => fun
  | [d] => { results := [.lit (.bool false)], args := [d] }
  | _ => none }
def SumsCrcWrongFalsely : Prop := sumsCrcRow.holds Try.pinned (OpenSpec.ofChange sumsCrcWrong)

/-- 'calliperlaw04.SumsAdler': WHATEVER THE INPUT: true; the input reads as it did. -/
def sumsAdlerSpec : ChangeSpec := { name := "sumsAdler", fn := fun _ => fun
  | [d] => { results := [.lit (.bool true)], args := [d] }
  | _ => none }
def sumsAdlerRow : OpenClaim := { program := "ytnpikkghgflefaa", sum := "218e3cac80b3eddc6c6eae2700d8de8dbc62e0b4db453fa82b9a332210579212", func := "calliper/calliperlaw04.SumsAdler", spec := "sumsAdler", apart := false }
def SumsAdlerSaid : Prop := sumsAdlerRow.holds Try.pinned (OpenSpec.ofChange sumsAdlerSpec)

/-- ITS FALSE NEIGHBOUR: 'it returns false'. Refute it at one input. -/
def sumsAdlerWrong : ChangeSpec := { name := "sumsAdler", fn := fun _ => fun
  | [d] => { results := [.lit (.bool false)], args := [d] }
  | _ => none }
def SumsAdlerWrongFalsely : Prop := sumsAdlerRow.holds Try.pinned (OpenSpec.ofChange sumsAdlerWrong)

/-- 'calliperlaw04.SumsTurn': WHATEVER THE INPUT: true; the input reads as it did. -/
def sumsTurnSpec : ChangeSpec := { name := "sumsTurn", fn := fun _ => fun
  | [d1, d2, d3] => { results := [.lit (.bool true)], args := [d1, d2, d3] }
  | _ => none }
def sumsTurnRow : OpenClaim := { program := "ytnpikkghgflefaa", sum := "218e3cac80b3eddc6c6eae2700d8de8dbc62e0b4db453fa82b9a332210579212", func := "calliper/calliperlaw04.SumsTurn", spec := "sumsTurn", apart := false }
def SumsTurnSaid : Prop := sumsTurnRow.holds Try.pinned (OpenSpec.ofChange sumsTurnSpec)

/-- ITS FALSE NEIGHBOUR: 'it returns false'. Refute it at one input. -/
def sumsTurnWrong : ChangeSpec := { name := "sumsTurn", fn := fun _ => fun
  | [d1, d2, d3] => { results := [.lit (.bool false)], args := [d1, d2, d3] }
  | _ => none }
def SumsTurnWrongFalsely : Prop := sumsTurnRow.holds Try.pinned (OpenSpec.ofChange sumsTurnWrong)

/-- 'calliperlaw04.SumsJoin': WHATEVER THE INPUT: true; the input reads as it did. -/
def sumsJoinSpec : ChangeSpec := { name := "sumsJoin", fn := fun _ => fun
  | [d1, d2, d3] => { results := [.lit (.bool true)], args := [d1, d2, d3] }
  | _ => none }
def sumsJoinRow : OpenClaim := { program := "ytnpikkghgflefaa", sum := "218e3cac80b3eddc6c6eae2700d8de8dbc62e0b4db453fa82b9a332210579212", func := "calliper/calliperlaw04.SumsJoin", spec := "sumsJoin", apart := false }
def SumsJoinSaid : Prop := sumsJoinRow.holds Try.pinned (OpenSpec.ofChange sumsJoinSpec)

/-- ITS FALSE NEIGHBOUR: 'it returns false'. Refute it at one input. -/
def sumsJoinWrong : ChangeSpec := { name := "sumsJoin", fn := fun _ => fun
  | [d1, d2, d3] => { results := [.lit (.bool false)], args := [d1, d2, d3] }
  | _ => none }
def SumsJoinWrongFalsely : Prop := sumsJoinRow.holds Try.pinned (OpenSpec.ofChange sumsJoinWrong)

/- THE SECOND FORM. 'bulk': how many values and letters a reading holds, each counted each time it is reached (what is shared counts as often as it is met; a slice's spare places count too). A statement '..UptoSaid' is the law's where the arguments, and the package variables that the reading takes, are together of bulk at most 1048576: NARROWER than '..Said'. Prove '..Said' where nothing that the law and all that it calls make is longer than what came in: it says more and counts as full. Else prove '..UptoSaid'. A law counts once. -/
mutual
def uptoBulk {H : Type} : DataW H → Nat
  | .lit (.string bytes) => bytes.length + 1
  | .lit _ => 1
  | .nil => 1
  | .ptr d => uptoBulk d + 1
  | .slice elems spare => uptoBulkAll elems + uptoBulkAll spare + 1
  | .agg parts => uptoBulkAll parts + 1
  | .iface _ d => uptoBulk d + 1
  | .map entries => uptoBulkEntries entries + 1
  | .held _ => 1
def uptoBulkAll {H : Type} : List (DataW H) → Nat
  | [] => 0
  | d :: r => uptoBulk d + uptoBulkAll r
def uptoBulkEntries {H : Type} : List (Lit × DataW H) → Nat
  | [] => 0
  | x :: r => uptoBulkEntry x + uptoBulkEntries r
def uptoBulkEntry {H : Type} : Lit × DataW H → Nat
  | (.string bytes, d) => bytes.length + uptoBulk d + 1
  | (_, d) => uptoBulk d + 1
 end
def uptoSmall : (H : Type) → List (DataW H) → Bool := fun _ ds => decide (uptoBulkAll ds ≤ 1048576)
def OpenSpec.upto (s : _root_.Go.ChangeSpec) : _root_.Go.OpenSpec := { _root_.Go.OpenSpec.ofChange s with cond := some uptoSmall }

/-- 'calliperlaw04.SumsCrc', WHERE WHAT IT READS IS OF BULK AT MOST 1048576: true; the input reads as it did. -/
def sumsCrcUptoRow : OpenClaim := { program := "ytnpikkghgflefaa", sum := "218e3cac80b3eddc6c6eae2700d8de8dbc62e0b4db453fa82b9a332210579212", func := "calliper/calliperlaw04.SumsCrc", spec := "sumsCrc", apart := false, narrowed := true }
def SumsCrcUptoSaid : Prop := sumsCrcUptoRow.holds Try.pinned (OpenSpec.upto sumsCrcSpec)

/-- 'calliperlaw04.SumsAdler', WHERE WHAT IT READS IS OF BULK AT MOST 1048576: true; the input reads as it did. -/
def sumsAdlerUptoRow : OpenClaim := { program := "ytnpikkghgflefaa", sum := "218e3cac80b3eddc6c6eae2700d8de8dbc62e0b4db453fa82b9a332210579212", func := "calliper/calliperlaw04.SumsAdler", spec := "sumsAdler", apart := false, narrowed := true }
def SumsAdlerUptoSaid : Prop := sumsAdlerUptoRow.holds Try.pinned (OpenSpec.upto sumsAdlerSpec)

/-- 'calliperlaw04.SumsTurn', WHERE WHAT IT READS IS OF BULK AT MOST 1048576: true; the input reads as it did. -/
def sumsTurnUptoRow : OpenClaim := { program := "ytnpikkghgflefaa", sum := "218e3cac80b3eddc6c6eae2700d8de8dbc62e0b4db453fa82b9a332210579212", func := "calliper/calliperlaw04.SumsTurn", spec := "sumsTurn", apart := false, narrowed := true }
def SumsTurnUptoSaid : Prop := sumsTurnUptoRow.holds Try.pinned (OpenSpec.upto sumsTurnSpec)

/-- 'calliperlaw04.SumsJoin', WHERE WHAT IT READS IS OF BULK AT MOST 1048576: true; the input reads as it did. -/
def sumsJoinUptoRow : OpenClaim := { program := "ytnpikkghgflefaa", sum := "218e3cac80b3eddc6c6eae2700d8de8dbc62e0b4db453fa82b9a332210579212", func := "calliper/calliperlaw04.SumsJoin", spec := "sumsJoin", apart := false, narrowed := true }
def SumsJoinUptoSaid : Prop := sumsJoinUptoRow.holds Try.pinned (OpenSpec.upto sumsJoinSpec)

end Rows
end Go.Proofs.Ytnpikkghgflefaa
