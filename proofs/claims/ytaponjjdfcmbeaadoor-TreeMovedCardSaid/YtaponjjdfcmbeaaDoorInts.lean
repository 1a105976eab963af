/- A slice of integers that came in, opened: nil, or cells that hold integers of the kind. No condition. -/
import Derived.Test.YtaponjjdfcmbeaaDoorBase
import Derived.ProofKit
import Derived.SizedLaws
import Derived.OpenShut
namespace Go.Proofs.YtaponjjdfcmbeaaDoor
open Go.ChangeShapes Go.WideShapes Go.ChangeAt Go.RowKit

/-- What a slice of integers that came in is: nil, or the first of its integers stand in its cells. -/
def IntsArg (k : IntKind) (w : World) (v : Value) (xs : List Int) : Prop :=
  (v = .slice none 0 0 ∧ xs = []) ∨ ∃ (a : Addr) (cap : Nat), v = .slice (some a) xs.length cap ∧ xs.length ≤ cap ∧ cap ≤ 9223372036854775807 ∧ (∀ i, i < xs.length → w.cell? (a.add i) = some (.int k (xs.getD i 0))) ∧ ∀ n ∈ xs, (Lit.int k n).wf = true
theorem open_ints_arg {H : Type} {enc : TypeId × Value → H} {P : Program} {w : World} {base : Nat} {sp : Nat → Bool} {held : Bool} {r : Reach} {b0 : Nat} {t e : TypeId} {k : IntKind} {v : Value} {d : DataW H} {ps : List MemPlace} (ht : P.underlying t = some (.slice e)) (he : P.underlying e = some (.int k)) (hc : P.cellsOf e = 1)
    (hval : Value.okWide P w r b0 t v) (hd : DataW.Trod enc P w base sp held t v d ps) : ∃ xs, IntsArg k w v xs := by
  obtain ⟨a0, l0, c0, rfl⟩ := okWide_slice ht hval
  obtain ⟨fuel, hf⟩ := hd
  rcases open_ints ht he hc hf with ⟨hcs, _⟩ | ⟨a, len, cap, zs, hcs, _, hl, hm, hz, _, hcell, hwf⟩
  · simp [Value.cells] at hcs
    obtain ⟨rfl, rfl, rfl⟩ := hcs
    exact ⟨[], Or.inl ⟨rfl, rfl⟩⟩
  · simp [Value.cells] at hcs
    obtain ⟨rfl, rfl, rfl⟩ := hcs
    have hzl : l0 ≤ zs.length := by rw [hz]; split <;> omega
    have hlen : (zs.take l0).length = l0 := by rw [List.length_take]; omega
    refine ⟨zs.take l0, Or.inr ⟨a, _, by rw [hlen], by rw [hlen]; exact hl, hm, fun i hi => ?_, fun n hn => hwf n (List.mem_of_mem_take hn)⟩⟩
    rw [hlen] at hi
    rw [hcell i (by omega)]
    simp [List.getD, List.getElem?_take, hi]
end Go.Proofs.YtaponjjdfcmbeaaDoor
