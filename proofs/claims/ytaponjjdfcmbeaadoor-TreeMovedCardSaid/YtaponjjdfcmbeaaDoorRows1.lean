/- Slices whose cells are known, nil or not, under one word. No condition. -/
import Derived.Test.YtaponjjdfcmbeaaDoorInts
import Derived.Deep.OwnRows
namespace Go.Proofs.YtaponjjdfcmbeaaDoor
open Go.RowKit

/-- It returns a value of which R holds, and only makes memory. -/
def Ret (R : Value → World → Prop) (w : World) (e : Ending) (w' : World) : Prop := ∃ v, e = .returned v ∧ Below w.heap.size w w' ∧ R v w'
theorem Ret.mono {R R' : Value → World → Prop} {w w' : World} {e : Ending} (h : Ret R w e w') (hR : ∀ v, R v w' → R' v w') : Ret R' w e w' := by
  obtain ⟨v, h1, h2, h3⟩ := h
  exact ⟨v, h1, h2, hR v h3⟩

/-- A slice of n elements whose cells read cs. -/
def RowIs (w : World) (v : Value) (n : Nat) (cs : List Value) : Prop :=
  ∃ (o : Option Addr) (cap : Nat), v = .slice o n cap ∧ n ≤ cap ∧ cap ≤ 9223372036854775807 ∧ (n ≠ 0 → ∃ g f, o = some ⟨g, f, none⟩) ∧ ∀ g f, o = some ⟨g, f, none⟩ → ∀ j u, cs[j]? = some u → w.cell? ⟨g, f + j, none⟩ = some u

theorem RowIs.nil (w : World) : RowIs w (.slice none 0 0) 0 [] := ⟨none, 0, rfl, by omega, by omega, fun h => absurd rfl h, fun _ _ h => by cases h⟩
theorem RowIs.mono {w w' : World} {v : Value} {n : Nat} {cs : List Value} (h : RowIs w v n cs) (hb : Below w.heap.size w w') : RowIs w' v n cs := by
  obtain ⟨o, cap, h1, h2, h3, h4, h5⟩ := h
  exact ⟨o, cap, h1, h2, h3, h4, fun g f ha j u hj => (hb.cell (Go.block_lt_of_cell (h5 g f ha j u hj))).trans (h5 g f ha j u hj)⟩
theorem RowIs.of_owns {w : World} {base : Nat} {e : TypeId} {size : Nat} {v : Value} {n : Nat} {xs : List Value} (h : w.ownsRow base e size v n xs) : RowIs w v n xs := by
  have hc := fun g hg => h.cells (g := g) hg
  rcases h.2 with ⟨rfl, rfl⟩ | ⟨g, cap, cur, rfl, _, hg, h1, h2, _, _⟩
  · exact ⟨none, 0, rfl, by omega, by omega, fun h => absurd rfl h, fun _ _ h => by cases h⟩
  · refine ⟨some ⟨g, 0, none⟩, cap, rfl, h1, by unfold maxLen at h2; omega, fun _ => ⟨g, 0, rfl⟩, fun g' f' ha j u hj => ?_⟩
    have := Option.some.inj ha
    simp only [Addr.mk.injEq] at this
    obtain ⟨rfl, rfl, _⟩ := this
    have := hc g rfl j u hj
    simpa [Addr.add_lit] using this
theorem RowIs.of_ints {k : IntKind} {w : World} {v : Value} {xs : List Int} (h : IntsArg k w v xs) : RowIs w v xs.length (xs.map (Value.int k)) := by
  rcases h with ⟨rfl, rfl⟩ | ⟨a, cap, rfl, h1, h2, hc, _⟩
  · exact RowIs.nil w
  · refine ⟨some a, cap, rfl, h1, h2, fun hn => ?_, fun g f ha j u hj => ?_⟩
    · obtain ⟨g, f, sp⟩ := a
      have h0 := hc 0 (by omega)
      cases sp with
      | none => exact ⟨g, f, rfl⟩
      | some sp =>
        simp only [Addr.add, World.cell?] at h0
        split at h0 <;> simp at h0
    · obtain rfl := Option.some.inj ha
      rw [List.getElem?_map] at hj
      obtain ⟨x, hx, rfl⟩ := Option.map_eq_some_iff.1 hj
      obtain ⟨hl, rfl⟩ := List.getElem?_eq_some_iff.1 hx
      have := hc j hl
      rw [Addr.add_lit] at this
      rw [this]
      simp [List.getD, List.getElem?_eq_getElem hl]
theorem cell_mono {w w' : World} {a : Addr} {v : Value} (h : w.cell? a = some v) (hb : Below w.heap.size w w') : w'.cell? a = some v := (hb.cell (p := a) (Go.block_lt_of_cell h)).trans h
theorem block_mono {w w' : World} {g : Nat} {O : Obj} (h : w.heap[g]? = some O) (hb : Below w.heap.size w w') : w'.heap[g]? = some O := (hb.block g (lt_of_block h)).trans h
theorem ints_mono {k : IntKind} {w w' : World} {v : Value} {xs : List Int} (h : IntsArg k w v xs) (hb : Below w.heap.size w w') : IntsArg k w' v xs := by
  rcases h with h1 | ⟨a, cap, h1, h2, h3, hc, hwf⟩
  · exact Or.inl h1
  · exact Or.inr ⟨a, cap, h1, h2, h3, fun i hi => (hb.cell (p := a.add i) (Go.block_lt_of_cell (hc i hi))).trans (hc i hi), hwf⟩
theorem ownsRow_below {w w' : World} {base : Nat} {e : TypeId} {size : Nat} {v : Value} {n : Nat} {xs : List Value} (h : w.ownsRow base e size v n xs) (hb : Below w.heap.size w w') : w'.ownsRow base e size v n xs := by
  refine ⟨h.1, ?_⟩
  have hlt := h.lt
  rcases h.2 with h2 | ⟨g, cap, cur, rfl, h3, hg, h4⟩
  · exact Or.inl h2
  · exact Or.inr ⟨g, cap, cur, rfl, h3, (hb.block g (hlt g rfl).2).trans hg, h4⟩
theorem ownsRow_base {w : World} {base base' : Nat} {e : TypeId} {size : Nat} {v : Value} {n : Nat} {xs : List Value} (h : w.ownsRow base e size v n xs) (hb : base' ≤ base) : w.ownsRow base' e size v n xs := by
  refine ⟨h.1, ?_⟩
  rcases h.2 with h2 | ⟨g, cap, cur, rfl, h3, h4⟩
  · exact Or.inl h2
  · exact Or.inr ⟨g, cap, cur, rfl, Nat.le_trans hb h3, h4⟩
/-- The address of its cells, once it holds one. -/
theorem RowIs.addr {o : Option Addr} {n : Nat} (h : n ≠ 0 → ∃ g f, o = some ⟨g, f, none⟩) (i : Nat) (hi : i < n) : ∃ g f, o = some ⟨g, f, none⟩ := h (by omega)
theorem ints_cell {k : IntKind} {w : World} {g f : Nat} {xs : List Int} (h : ∀ j u, (xs.map (Value.int k))[j]? = some u → w.cell? ⟨g, f + j, none⟩ = some u) (i : Nat) (hi : i < xs.length) : w.cell? ⟨g, f + i, none⟩ = some (.int k xs[i]) :=
  h i _ (by rw [List.getElem?_map, List.getElem?_eq_getElem hi]; rfl)
theorem ints_wf {k : IntKind} {w : World} {v : Value} {xs : List Int} (h : IntsArg k w v xs) : ∀ n ∈ xs, (Lit.int k n).wf = true := by
  rcases h with ⟨_, rfl⟩ | ⟨_, _, _, _, _, _, h⟩
  · simp
  · exact h
theorem ints_len {k : IntKind} {w : World} {v : Value} {xs : List Int} (h : IntsArg k w v xs) : xs.length ≤ 9223372036854775807 := by
  rcases h with ⟨_, rfl⟩ | ⟨_, _, _, h1, h2, _, _⟩
  · simp
  · omega
/-! ### A row that a loop fills from its start on -/
def rowTo (f : Nat → Value) (z : Value) (m i : Nat) : Array Value := ((List.range m).map fun j => if j < i then f j else z).toArray
theorem rowTo_size (f : Nat → Value) (z : Value) (m i : Nat) : (rowTo f z m i).size = m := by simp [rowTo]
theorem rowTo_zero (f : Nat → Value) (z : Value) (m : Nat) : madeCells #[z] m = rowTo f z m 0 := by
  apply Array.ext'
  simp [madeCells, rowTo, Nat.mod_one]
theorem rowTo_get (f : Nat → Value) (z : Value) (m i j : Nat) (h : j < m) : (rowTo f z m i)[j]? = some (if j < i then f j else z) := by
  simp [rowTo, h]
theorem rowTo_step (f : Nat → Value) (z : Value) (m i : Nat) (hi : i < m) : (rowTo f z m i).setIfInBounds i (f i) = rowTo f z m (i + 1) := by
  apply Array.ext
  · simp [rowTo]
  · intro j h1 h2
    have hj : j < m := by simpa [rowTo] using h2
    rw [Array.getElem_setIfInBounds (by rw [rowTo_size]; exact hj)]
    simp only [rowTo, List.getElem_toArray, List.getElem_map, List.getElem_range]
    by_cases e : i = j
    · subst e; simp
    · rw [if_neg e]
      by_cases h3 : j < i
      · rw [if_pos h3, if_pos (by omega)]
      · rw [if_neg h3, if_neg (by omega)]
theorem rowTo_full (f : Nat → Value) (z : Value) (m : Nat) : rowTo f z m m = ((List.range m).map f).toArray := by
  unfold rowTo
  congr 1
  exact List.map_congr_left fun j hj => by rw [if_pos (List.mem_range.1 hj)]
/-- A whole block as a slice. -/
theorem RowIs.of_block {w : World} {g n : Nat} {cs : List Value} {e : TypeId} {fr : Nat × Nat} (hn : n ≤ 9223372036854775807) (h : w.heap[g]? = some (.cells cs.toArray e fr)) : RowIs w (.slice (some ⟨g, 0, none⟩) n n) n cs :=
  ⟨_, n, rfl, Nat.le_refl _, hn, fun _ => ⟨g, 0, rfl⟩, fun g' f' ha j u hj => by
    have := Option.some.inj ha
    simp only [Addr.mk.injEq] at this
    obtain ⟨rfl, rfl, _⟩ := this
    rw [Nat.zero_add, Go.cell_of_row _ _ _ _ _ _ h]
    simpa using hj⟩
end Go.Proofs.YtaponjjdfcmbeaaDoor
