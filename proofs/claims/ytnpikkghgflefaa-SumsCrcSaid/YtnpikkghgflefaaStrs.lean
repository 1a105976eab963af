/- A slice of strings that came in, opened: nil, or cells that hold strings. No condition. -/
import Derived.Test.YtnpikkghgflefaaBase
import Derived.ProofKit
import Derived.SizedLaws
import Derived.OpenShut
import Derived.Deep.Strs
namespace Go.Proofs.Ytnpikkghgflefaa
open Go.ChangeShapes Go.WideShapes Go.ChangeAt Go.RowKit

/-- What a slice of strings that came in is. -/
def StrsArg (w : World) (v : Value) : Prop :=
  v = .slice none 0 0 ∨ ∃ (a : Addr) (len cap : Nat) (Sx : Nat → ByteArray), v = .slice (some a) len cap ∧ len ≤ cap ∧ cap ≤ 9223372036854775807 ∧ ∀ i, i < len → w.cell? (a.add i) = some (.string (Sx i)) ∧ (Sx i).size ≤ 9223372036854775807
theorem open_strs_arg {H : Type} {enc : TypeId × Value → H} {P : Program} {w : World} {base : Nat} {sp : Nat → Bool} {held : Bool} {r : Reach} {b0 : Nat} {t e : TypeId} {v : Value} {d : DataW H} {ps : List MemPlace} (ht : P.underlying t = some (.slice e)) (he : P.underlying e = some .string) (hc : P.cellsOf e = 1)
    (hval : Value.okWide P w r b0 t v) (hd : DataW.Trod enc P w base sp held t v d ps) : StrsArg w v := by
  obtain ⟨a0, l0, c0, rfl⟩ := okWide_slice ht hval
  obtain ⟨fuel, hf⟩ := hd
  rcases Deep.open_strs ht he hc hf with ⟨hcs, _⟩ | ⟨a, len, cap, m, Sx, hcs, _, hl, hm, hmm, _, hcell⟩
  · simp [Value.cells] at hcs
    obtain ⟨rfl, rfl, rfl⟩ := hcs
    exact Or.inl rfl
  · simp [Value.cells] at hcs
    obtain ⟨rfl, rfl, rfl⟩ := hcs
    exact Or.inr ⟨a, _, _, Sx, rfl, hl, hm, fun i hi => hcell i (by rw [hmm]; split <;> omega)⟩
end Go.Proofs.Ytnpikkghgflefaa
