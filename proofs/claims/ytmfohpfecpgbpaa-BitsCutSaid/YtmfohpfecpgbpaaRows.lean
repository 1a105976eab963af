/-
  No cell of these rows narrows 'for every input' (looked for: loops, veiled, ifaces, maps, wideKeys, modest, calm, conditions, laid).
  DERIVED. THE GIVEN ROWS OF THIS SEAT. 5 by the template 'for every input the law returns true; each argument reads behind the call as it read before'; 0 by the template 'total and deterministic' (their statements: YtmfohpfecpgbpaaTotals.lean).
  GIVEN WITH THE SEED: the statements are not yours to turn. If you find one false, say at which input.
  Laid BY PROGRAM, IN A SANDBOX (cutbox-rows.mjs): the forced cells as the released guide's own fill.sh prints them over the translation d02416a83cbf2763… (all of the seat's roots in one cut). By AI agents, Wed Nov 11 2026. No macro, syntax, notation, axiom, sorry.
-/
import Derived.Test.YtmfohpfecpgbpaaChecked
import GoSem.Claim
import GoSem.ClaimJoined
import GoSem.ClaimMapViews
import Derived.JoinedTies
import Derived.KernelRfl
namespace Go.Proofs.Ytmfohpfecpgbpaa
/- THE CELL 'sum', in the pinned program and in every row, IS THE sha256 OF THE DUMP (.gsa) THAT YtmfohpfecpgbpaaProg.lean LOADS. Nothing in Lean hashes anything: it is a label: what it is worth is what the hold of that sum in a sandbox is worth. -/
noncomputable def Try.pinned : Pinned := { name := "ytmfohpfecpgbpaa", sum := "d02416a83cbf2763a825575a635e5dc8f540ad25f88586a739c9e09d2905bffb", checked := Try.checked }
namespace Rows
def none {H : Type} : Left H := { results := [], args := [] }

/-- 'calliperlaw03.BitsLay': WHATEVER THE INPUT: true; the input reads as it did. -/
def bitsLaySpec : ChangeSpec := { name := "bitsLay", fn := fun _ => fun
  | [d1, d2, d3] => { results := [.lit (.bool true)], args := [d1, d2, d3] }
  | _ => none }
def bitsLayRow : OpenClaim := { program := "ytmfohpfecpgbpaa", sum := "d02416a83cbf2763a825575a635e5dc8f540ad25f88586a739c9e09d2905bffb", func := "calliper/calliperlaw03.BitsLay", spec := "bitsLay", apart := false }
def BitsLaySaid : Prop := bitsLayRow.holds Try.pinned (OpenSpec.ofChange bitsLaySpec)

/-- ITS FALSE NEIGHBOUR: 'it returns false'. Refute it at one input. -/
def bitsLayWrong : ChangeSpec := { name := "bitsLay", fn := fun _ => fun
  | [d1, d2, d3] => { results := [.lit (.bool false)], args := [d1, d2, d3] }
  | _ => none }
def BitsLayWrongFalsely : Prop := bitsLayRow.holds Try.pinned (OpenSpec.ofChange bitsLayWrong)

/-- 'calliperlaw03.BitsSplit': WHATEVER THE INPUT: true; the input reads as it did. -/
def bitsSplitSpec : ChangeSpec := { name := "bitsSplit", fn := fun _ => fun
  | [d1, d2, d3] => { results := [.lit (.bool true)], args := [d1, d2, d3] }
  | _ => none }
def bitsSplitRow : OpenClaim := { program := "ytmfohpfecpgbpaa", sum := "d02416a83cbf2763a825575a635e5dc8f540ad25f88586a739c9e09d2905bffb", func := "calliper/calliperlaw03.BitsSplit", spec := "bitsSplit", apart := false }
def BitsSplitSaid : Prop := bitsSplitRow.holds Try.pinned (OpenSpec.ofChange bitsSplitSpec)

/-- ITS FALSE NEIGHBOUR: 'it returns false'. Refute it at one input. -/
def bitsSplitWrong : ChangeSpec := { name := "bitsSplit", fn := fun _ => fun
  | [d1, d2, d3] => { results := [.lit (.bool false)], args := [d1, d2, d3] }
  | _ => none }
def BitsSplitWrongFalsely : Prop := bitsSplitRow.holds Try.pinned (OpenSpec.ofChange bitsSplitWrong)

/-- 'calliperlaw03.BitsBack': WHATEVER THE INPUT: true; the input reads as it did. -/
def bitsBackSpec : ChangeSpec := { name := "bitsBack", fn := fun _ => fun
  | [d1, d2, d3] => { results := [.lit (.bool true)], args := [d1, d2, d3] }
  | _ => none }
def bitsBackRow : OpenClaim := { program := "ytmfohpfecpgbpaa", sum := "d02416a83cbf2763a825575a635e5dc8f540ad25f88586a739c9e09d2905bffb", func := "calliper/calliperlaw03.BitsBack", spec := "bitsBack", apart := false }
def BitsBackSaid : Prop := bitsBackRow.holds Try.pinned (OpenSpec.ofChange bitsBackSpec)

/-- ITS FALSE NEIGHBOUR: 'it returns false'. Refute it at one input. -/
def bitsBackWrong : ChangeSpec := { name := "bitsBack", fn := fun _ => fun
  | [d1, d2, d3] => { results := [.lit (.bool false)], args := [d1, d2, d3] }
  | _ => none }
def BitsBackWrongFalsely : Prop := bitsBackRow.holds Try.pinned (OpenSpec.ofChange bitsBackWrong)

/-- 'calliperlaw03.BitsOne': WHATEVER THE INPUT: true; the input reads as it did. -/
def bitsOneSpec : ChangeSpec := { name := "bitsOne", fn := fun _ => fun
  | [d1, d2, d3] => { results := [.lit (.bool true)], args := [d1, d2, d3] }
  | _ => none }
def bitsOneRow : OpenClaim := { program := "ytmfohpfecpgbpaa", sum := "d02416a83cbf2763a825575a635e5dc8f540ad25f88586a739c9e09d2905bffb", func := "calliper/calliperlaw03.BitsOne", spec := "bitsOne", apart := false }
def BitsOneSaid : Prop := bitsOneRow.holds Try.pinned (OpenSpec.ofChange bitsOneSpec)

/-- ITS FALSE NEIGHBOUR: 'it returns false'. Refute it at one input. -/
def bitsOneWrong : ChangeSpec := { name := "bitsOne", fn := fun _ => fun
  | [d1, d2, d3] => { results := [.lit (.bool false)], args := [d1, d2, d3] }
  | _ => none }
def BitsOneWrongFalsely : Prop := bitsOneRow.holds Try.pinned (OpenSpec.ofChange bitsOneWrong)

/-- 'calliperlaw03.BitsCut': WHATEVER THE INPUT: true; the input reads as it did. -/
def bitsCutSpec : ChangeSpec := { name := "bitsCut", fn := fun _ => fun
  | [d1, d2, d3] => { results := [.lit (.bool true)], args := [d1, d2, d3] }
  | _ => none }
def bitsCutRow : OpenClaim := { program := "ytmfohpfecpgbpaa", sum := "d02416a83cbf2763a825575a635e5dc8f540ad25f88586a739c9e09d2905bffb", func := "calliper/calliperlaw03.BitsCut", spec := "bitsCut", apart := false }
def BitsCutSaid : Prop := bitsCutRow.holds Try.pinned (OpenSpec.ofChange bitsCutSpec)

/-- ITS FALSE NEIGHBOUR: 'it returns false'. Refute it at one input. -/
def bitsCutWrong : ChangeSpec := { name := "bitsCut", fn := fun _ => fun
  | [d1, d2, d3] => { results := [.lit (.bool false)], args := [d1, d2, d3] }
  | _ => none }
def BitsCutWrongFalsely : Prop := bitsCutRow.holds Try.pinned (OpenSpec.ofChange bitsCutWrong)

/- THE SECOND FORM. 'bulk': how many values and letters a reading holds, each counted each time it is reached (what is shared counts as often as it is met; a slice's spare places count too). A statement '..UptoSaid' is the law's where the arguments, and the package variables that the reading takes, are together of bulk at most 1048576: NARROWER than '..Said'. Prove '..Said' where nothing that the law and all that it calls make is longer than what came in: it says more and counts as full. Else prove '..UptoSaid'. A law counts once. -/
mutual
def uptoBulk {H : Type} : DataW H → Nat
  | .lit (.string bytes) => bytes.length + 1
  | .lit _ => 1
  | .nil => 1
  | .ptr d => uptoBulk d + 1
  | .slice elems spare => uptoBulkAll elems + uptoBulkAll spare + 1
  | .agg parts => uptoBulkAll parts + 1
  | .iface _ d => uptoBulk d + 1
  | .map entries => uptoBulkEntries entries + 1
  | .held _ => 1
def uptoBulkAll {H : Type} : List (DataW H) → Nat
  | [] => 0
  | d :: r => uptoBulk d + uptoBulkAll r
def uptoBulkEntries {H : Type} : List (Lit × DataW H) → Nat
  | [] => 0
  | x :: r => uptoBulkEntry x + uptoBulkEntries r
def uptoBulkEntry {H : Type} : Lit × DataW H → Nat
  | (.string bytes, d) => bytes.length + uptoBulk d + 1
  | (_, d) => uptoBulk d + 1
 end
def uptoSmall : (H : Type) → List (DataW H) → Bool := fun _ ds => decide (uptoBulkAll ds ≤ 1048576)
def OpenSpec.upto (s : _root_.Go.ChangeSpec) : _root_.Go.OpenSpec := { _root_.Go.OpenSpec.ofChange s with cond := some uptoSmall }

/-- 'calliperlaw03.BitsLay', WHERE WHAT IT READS IS OF BULK AT MOST 1048576: true; the input reads as it did. -/
def bitsLayUptoRow : OpenClaim := { program := "ytmfohpfecpgbpaa", sum := "d02416a83cbf2763a825575a635e5dc8f540ad25f88586a739c9e09d2905bffb", func := "calliper/calliperlaw03.BitsLay", spec := "bitsLay", apart := false, narrowed := true }
def BitsLayUptoSaid : Prop := bitsLayUptoRow.holds Try.pinned (OpenSpec.upto bitsLaySpec)

/-- 'calliperlaw03.BitsSplit', WHERE WHAT IT READS IS OF BULK AT MOST 1048576: true; the input reads as it did. -/
def bitsSplitUptoRow : OpenClaim := { program := "ytmfohpfecpgbpaa", sum := "d02416a83cbf2763a825575a635e5dc8f540ad25f88586a739c9e09d2905bffb", func := "calliper/calliperlaw03.BitsSplit", spec := "bitsSplit", apart := false, narrowed := true }
def BitsSplitUptoSaid : Prop := bitsSplitUptoRow.holds Try.pinned (OpenSpec.upto bitsSplitSpec)

/-- 'calliperlaw03.BitsBack', WHERE WHAT IT READS IS OF BULK AT MOST 1048576: true; the input reads as it did. -/
def bitsBackUptoRow : OpenClaim := { program := "ytmfohpfecpgbpaa", sum := "d02416a83cbf2763a825575a635e5dc8f540ad25f88586a739c9e09d2905bffb", func := "calliper/calliperlaw03.BitsBack", spec := "bitsBack", apart := false, narrowed := true }
def BitsBackUptoSaid : Prop := bitsBackUptoRow.holds Try.pinned (OpenSpec.upto bitsBackSpec)

/-- 'calliperlaw03.BitsOne', WHERE WHAT IT READS IS OF BULK AT MOST 1048576: true; the input reads as it did. -/
def bitsOneUptoRow : OpenClaim := { program := "ytmfohpfecpgbpaa", sum := "d02416a83cbf2763a825575a635e5dc8f540ad25f88586a739c9e09d2905bffb", func := "calliper/calliperlaw03.BitsOne", spec := "bitsOne", apart := false, narrowed := true }
def BitsOneUptoSaid : Prop := bitsOneUptoRow.holds Try.pinned (OpenSpec.upto bitsOneSpec)

/-- 'calliperlaw03.BitsCut', WHERE WHAT IT READS IS OF BULK AT MOST 1048576: true; the input reads as it did. -/
def bitsCutUptoRow : OpenClaim := { program := "ytmfohpfecpgbpaa", sum := "d02416a83cbf2763a825575a635e5dc8f540ad25f88586a739c9e09d2905bffb", func := "calliper/calliperlaw03.BitsCut", spec := "bitsCut", apart := false, narrowed := true }
def BitsCutUptoSaid : Prop := bitsCutUptoRow.holds Try.pinned (OpenSpec.upto bitsCutSpec)

end Rows
end Go.Proofs.Ytmfohpfecpgbpaa
