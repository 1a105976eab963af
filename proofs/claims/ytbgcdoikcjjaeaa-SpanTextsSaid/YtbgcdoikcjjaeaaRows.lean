/-
  No cell of these rows narrows 'for every input' (looked for: loops, veiled, ifaces, maps, wideKeys, modest, calm, conditions, laid).
  DERIVED. THE GIVEN ROWS OF THIS SEAT. 4 by the template 'for every input the law returns true; each argument reads behind the call as it read before'; 0 by the template 'total and deterministic' (their statements: YtbgcdoikcjjaeaaTotals.lean).
  GIVEN WITH THE SEED: the statements are not yours to turn. If you find one false, say at which input.
  Laid BY PROGRAM, IN A SANDBOX (cutbox-rows.mjs): the forced cells as the released guide's own fill.sh prints them over the translation 162c332df33a053b… (all of the seat's roots in one cut). By AI agents, Wed Nov 11 2026. No macro, syntax, notation, axiom, sorry.
-/
import Derived.Test.YtbgcdoikcjjaeaaChecked
import GoSem.Claim
import GoSem.ClaimJoined
import GoSem.ClaimMapViews
import Derived.JoinedTies
import Derived.KernelRfl
namespace Go.Proofs.Ytbgcdoikcjjaeaa
/- THE CELL 'sum', in the pinned program and in every row, IS THE sha256 OF THE DUMP (.gsa) THAT YtbgcdoikcjjaeaaProg.lean LOADS. Nothing in Lean hashes anything: it is a label: what it is worth is what the hold of that sum in a sandbox is worth. -/
noncomputable def Try.pinned : Pinned := { name := "ytbgcdoikcjjaeaa", sum := "162c332df33a053b10a2f088cc9f0fb5f31c4b7d1f368e879be234d8806fe18b", checked := Try.checked }
namespace Rows
def none {H : Type} : Left H := { results := [], args := [] }

/-- 'calliperlaw05.SpanGood': WHATEVER THE INPUT: true; the input reads as it did. -/
def spanGoodSpec : ChangeSpec := { name := "spanGood", fn := fun _ => fun
  | [d1, d2] => { results := [.lit (.bool true)], args := [d1, d2] }
  | _ => none }
def spanGoodRow : OpenClaim := { program := "ytbgcdoikcjjaeaa", sum := "162c332df33a053b10a2f088cc9f0fb5f31c4b7d1f368e879be234d8806fe18b", func := "calliper/calliperlaw05.SpanGood", spec := "spanGood", apart := false }
def SpanGoodSaid : Prop := spanGoodRow.holds Try.pinned (OpenSpec.ofChange spanGoodSpec)

/-- ITS FALSE NEIGHBOUR: 'it returns false'. Refute it at one input. -/
def spanGoodWrong : ChangeSpec := { name := "spanGood", fn := fun _ => fun
  | [d1, d2] => { results := [.lit (.bool false)], args := [d1, d2] }
  | _ => none }
def SpanGoodWrongFalsely : Prop := spanGoodRow.holds Try.pinned (OpenSpec.ofChange spanGoodWrong)

/-- 'calliperlaw05.SpanTexts': WHATEVER THE INPUT: true; the input reads as it did. -/
def spanTextsSpec : ChangeSpec := { name := "spanTexts", fn := fun _ => fun
  | [d1, d2, d3] => { results := [.lit (.bool true)], args := [d1, d2, d3] }
  | _ => none }
def spanTextsRow : OpenClaim := { program := "ytbgcdoikcjjaeaa", sum := "162c332df33a053b10a2f088cc9f0fb5f31c4b7d1f368e879be234d8806fe18b", func := "calliper/calliperlaw05.SpanTexts", spec := "spanTexts", apart := false }
def SpanTextsSaid : Prop := spanTextsRow.holds Try.pinned (OpenSpec.ofChange spanTextsSpec)

/-- ITS FALSE NEIGHBOUR: 'it returns false'. Refute it at one input. -/
def spanTextsWrong : ChangeSpec := { name := "spanTexts", fn := fun _ => fun
  | [d1, d2, d3] => { results := [.lit (.bool false)], args := [d1, d2, d3] }
  | _ => none }
def SpanTextsWrongFalsely : Prop := spanTextsRow.holds Try.pinned (OpenSpec.ofChange spanTextsWrong)

/-- 'calliperlaw05.SpanParts': WHATEVER THE INPUT: true; the input reads as it did. -/
def spanPartsSpec : ChangeSpec := { name := "spanParts", fn := fun _ => fun
  | [d1, d2] => { results := [.lit (.bool true)], args := [d1, d2] }
  | _ => none }
def spanPartsRow : OpenClaim := { program := "ytbgcdoikcjjaeaa", sum := "162c332df33a053b10a2f088cc9f0fb5f31c4b7d1f368e879be234d8806fe18b", func := "calliper/calliperlaw05.SpanParts", spec := "spanParts", apart := false }
def SpanPartsSaid : Prop := spanPartsRow.holds Try.pinned (OpenSpec.ofChange spanPartsSpec)

/-- ITS FALSE NEIGHBOUR: 'it returns false'. Refute it at one input. -/
def spanPartsWrong : ChangeSpec := { name := "spanParts", fn := fun _ => fun
  | [d1, d2] => { results := [.lit (.bool false)], args := [d1, d2] }
  | _ => none }
def SpanPartsWrongFalsely : Prop := spanPartsRow.holds Try.pinned (OpenSpec.ofChange spanPartsWrong)

/-- 'calliperlaw05.SpanWithin': WHATEVER THE INPUT: true; the input reads as it did. -/
def spanWithinSpec : ChangeSpec := { name := "spanWithin", fn := fun _ => fun
  | [d1, d2] => { results := [.lit (.bool true)], args := [d1, d2] }
  | _ => none }
def spanWithinRow : OpenClaim := { program := "ytbgcdoikcjjaeaa", sum := "162c332df33a053b10a2f088cc9f0fb5f31c4b7d1f368e879be234d8806fe18b", func := "calliper/calliperlaw05.SpanWithin", spec := "spanWithin", apart := false }
def SpanWithinSaid : Prop := spanWithinRow.holds Try.pinned (OpenSpec.ofChange spanWithinSpec)

/-- ITS FALSE NEIGHBOUR: 'it returns false'. Refute it at one input. -/
def spanWithinWrong : ChangeSpec := { name := "spanWithin", fn := fun _ => fun
  | [d1, d2] => { results := [.lit (.bool false)], args := [d1, d2] }
  | _ => none }
def SpanWithinWrongFalsely : Prop := spanWithinRow.holds Try.pinned (OpenSpec.ofChange spanWithinWrong)

/- THE SECOND FORM. 'bulk': how many values and letters a reading holds, each counted each time it is reached (what is shared counts as often as it is met; a slice's spare places count too). A statement '..UptoSaid' is the law's where the arguments, and the package variables that the reading takes, are together of bulk at most 1048576: NARROWER than '..Said'. Prove '..Said' where nothing that the law and all that it calls make is longer than what came in: it says more and counts as full. Else prove '..UptoSaid'. A law counts once. -/
mutual
def uptoBulk {H : Type} : DataW H → Nat
  | .lit (.string bytes) => bytes.length + 1
  | .lit _ => 1
  | .nil => 1
  | .ptr d => uptoBulk d + 1
  | .slice elems spare => uptoBulkAll elems + uptoBulkAll spare + 1
  | .agg parts => uptoBulkAll parts + 1
  | .iface _ d => uptoBulk d + 1
  | .map entries => uptoBulkEntries entries + 1
  | .held _ => 1
def uptoBulkAll {H : Type} : List (DataW H) → Nat
  | [] => 0
  | d :: r => uptoBulk d + uptoBulkAll r
def uptoBulkEntries {H : Type} : List (Lit × DataW H) → Nat
  | [] => 0
  | x :: r => uptoBulkEntry x + uptoBulkEntries r
def uptoBulkEntry {H : Type} : Lit × DataW H → Nat
  | (.string bytes, d) => bytes.length + uptoBulk d + 1
  | (_, d) => uptoBulk d + 1
 end
def uptoSmall : (H : Type) → List (DataW H) → Bool := fun _ ds => decide (uptoBulkAll ds ≤ 1048576)
def OpenSpec.upto (s : _root_.Go.ChangeSpec) : _root_.Go.OpenSpec := { _root_.Go.OpenSpec.ofChange s with cond := some uptoSmall }

/-- 'calliperlaw05.SpanGood', WHERE WHAT IT READS IS OF BULK AT MOST 1048576: true; the input reads as it did. -/
def spanGoodUptoRow : OpenClaim := { program := "ytbgcdoikcjjaeaa", sum := "162c332df33a053b10a2f088cc9f0fb5f31c4b7d1f368e879be234d8806fe18b", func := "calliper/calliperlaw05.SpanGood", spec := "spanGood", apart := false, narrowed := true }
def SpanGoodUptoSaid : Prop := spanGoodUptoRow.holds Try.pinned (OpenSpec.upto spanGoodSpec)

/-- 'calliperlaw05.SpanTexts', WHERE WHAT IT READS IS OF BULK AT MOST 1048576: true; the input reads as it did. -/
def spanTextsUptoRow : OpenClaim := { program := "ytbgcdoikcjjaeaa", sum := "162c332df33a053b10a2f088cc9f0fb5f31c4b7d1f368e879be234d8806fe18b", func := "calliper/calliperlaw05.SpanTexts", spec := "spanTexts", apart := false, narrowed := true }
def SpanTextsUptoSaid : Prop := spanTextsUptoRow.holds Try.pinned (OpenSpec.upto spanTextsSpec)

/-- 'calliperlaw05.SpanParts', WHERE WHAT IT READS IS OF BULK AT MOST 1048576: true; the input reads as it did. -/
def spanPartsUptoRow : OpenClaim := { program := "ytbgcdoikcjjaeaa", sum := "162c332df33a053b10a2f088cc9f0fb5f31c4b7d1f368e879be234d8806fe18b", func := "calliper/calliperlaw05.SpanParts", spec := "spanParts", apart := false, narrowed := true }
def SpanPartsUptoSaid : Prop := spanPartsUptoRow.holds Try.pinned (OpenSpec.upto spanPartsSpec)

/-- 'calliperlaw05.SpanWithin', WHERE WHAT IT READS IS OF BULK AT MOST 1048576: true; the input reads as it did. -/
def spanWithinUptoRow : OpenClaim := { program := "ytbgcdoikcjjaeaa", sum := "162c332df33a053b10a2f088cc9f0fb5f31c4b7d1f368e879be234d8806fe18b", func := "calliper/calliperlaw05.SpanWithin", spec := "spanWithin", apart := false, narrowed := true }
def SpanWithinUptoSaid : Prop := spanWithinUptoRow.holds Try.pinned (OpenSpec.upto spanWithinSpec)

end Rows
end Go.Proofs.Ytbgcdoikcjjaeaa
