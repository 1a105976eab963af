/- Views and ways that came in, as data. No condition. -/
import Derived.Test.YtaponjjdfcmbeaaDoorArg
import Derived.Test.YtaponjjdfcmbeaaDoorL1
namespace Go.Proofs.YtaponjjdfcmbeaaDoor
set_option linter.unusedVariables false
set_option linter.unusedSimpArgs false
open Go.RowKit
set_option maxRecDepth 100000

theorem list_of {α : Type} {f : α → List D} {p : α → Prop} : ∀ {rows : List (List D)}, (∀ r ∈ rows, ∃ x, p x ∧ r = f x) → ∃ l : List α, rows = l.map f ∧ ∀ x ∈ l, p x
  | [], _ => ⟨[], rfl, by simp⟩
  | r :: rows, h => by
    obtain ⟨x, h1, h2⟩ := h r (by simp)
    obtain ⟨l, h3, h4⟩ := list_of (rows := rows) (f := f) (p := p) (fun q hq => h q (List.mem_cons_of_mem _ hq))
    refine ⟨x :: l, by rw [h2, h3]; rfl, fun y hy => ?_⟩
    rcases List.mem_cons.1 hy with rfl | hy
    · exact h1
    · exact h4 y hy
section
variable {P : Program} {d : Nat} {t : TypeId} {ds : List D}
theorem DT_int {k : IntKind} (hu : P.underlying t = some (.int k)) (h : DT P (d + 1) t ds) : ∃ z, ds = [.v (.int k z)] ∧ (Lit.int k z).wf = true := by
  unfold DT at h; rw [hu] at h; exact h
theorem DT_bool (hu : P.underlying t = some .bool) (h : DT P (d + 1) t ds) : ∃ b, ds = [.v (.bool b)] := by
  unfold DT at h; rw [hu] at h; exact h
theorem DT_str (hu : P.underlying t = some .string) (h : DT P (d + 1) t ds) : ∃ s, ds = [.v (.string s)] ∧ s.size ≤ maxLen := by
  unfold DT at h; rw [hu] at h; exact h
theorem DT_slice {e : TypeId} (hu : P.underlying t = some (.slice e)) (h : DT P (d + 1) t ds) : ∃ rows, ds = [.sl (P.cellsOf e) rows] ∧ rows.length ≤ maxLen ∧ ∀ r ∈ rows, DT P d e r := by
  unfold DT at h; rw [hu] at h; exact h
theorem DT_struct {fs : Array Field} (hu : P.underlying t = some (.struct fs)) (h : DT P (d + 1) t ds) : ∃ ps : List (List D), ds = ps.flatten ∧ All2 (fun (f : Field) p => DT P d f.type p) fs.toList ps := by
  unfold DT at h; rw [hu] at h; exact h
theorem DT_array {n : Nat} {e : TypeId} (hu : P.underlying t = some (.array n e)) (h : DT P (d + 1) t ds) : ∃ ps : List (List D), ps.length = n ∧ ds = ps.flatten ∧ ∀ p ∈ ps, DT P d e p := by
  unfold DT at h; rw [hu] at h; exact h
end
theorem dt_ints {d : Nat} {x : D} (h : DT Tryd.prog (d + 2) 48 [x]) : ∃ l : List Int, x = dints l ∧ l.length ≤ 9223372036854775807 ∧ ∀ n ∈ l, -9223372036854775808 ≤ n ∧ n ≤ 9223372036854775807 := by
  obtain ⟨rows, h1, h2, h3⟩ := DT_slice Tryd.underlying48 h
  obtain ⟨l, h4, h5⟩ := list_of (f := irow) (p := fun n : Int => -9223372036854775808 ≤ n ∧ n ≤ 9223372036854775807) (fun r hr => by
    obtain ⟨z, hz, hw⟩ := DT_int Tryd.underlying3 (h3 r hr)
    exact ⟨z, wf_i64 hw, hz⟩)
  have e : Tryd.prog.cellsOf 3 = 1 := by kernel_rfl
  rw [e, h4] at h1
  cases h1
  exact ⟨l, rfl, by rw [h4, List.length_map] at h2; unfold maxLen at h2; omega, h5⟩
theorem dt_views {d : Nat} {x : D} (h : DT Tryd.prog (d + 4) 22 [x]) : ∃ l : List GV, x = dviews l ∧ (l.length ≤ 9223372036854775807) ∧ ∀ v ∈ l, v.ok ∧ v.kids.length ≤ 9223372036854775807 := by
  obtain ⟨rows, h1, h2, h3⟩ := DT_slice Tryd.underlying22 h
  obtain ⟨l, h4, h5⟩ := list_of (f := vrow) (p := fun v : GV => v.ok ∧ v.kids.length ≤ 9223372036854775807) (fun r hr => by
    obtain ⟨ps, e1, hp⟩ := DT_struct Tryd.underlying65 (h3 r hr)
    obtain ⟨p0, ps, rfl, q0, hp⟩ := hp.cons_left
    obtain ⟨p1, ps, rfl, q1, hp⟩ := hp.cons_left
    obtain ⟨p2, ps, rfl, q2, hp⟩ := hp.cons_left
    obtain ⟨p3, ps, rfl, q3, hp⟩ := hp.cons_left
    obtain ⟨p4, ps, rfl, q4, hp⟩ := hp.cons_left
    obtain ⟨p5, ps, rfl, q5, hp⟩ := hp.cons_left
    obtain ⟨p6, ps, rfl, q6, hp⟩ := hp.cons_left
    obtain rfl := hp.nil_left
    obtain ⟨z0, rfl, w0⟩ := DT_int Tryd.underlying3 q0
    obtain ⟨z1, rfl, w1⟩ := DT_int Tryd.underlying3 q1
    obtain ⟨z2, rfl, w2⟩ := DT_int Tryd.underlying3 q2
    obtain ⟨b3, rfl⟩ := DT_bool Tryd.underlying4 q3
    obtain ⟨z4, rfl, w4⟩ := DT_int Tryd.underlying3 q4
    obtain ⟨z5, rfl, w5⟩ := DT_int Tryd.underlying3 q5
    obtain ⟨x6, rfl⟩ : ∃ x, p6 = [x] := by obtain ⟨rows, e, _⟩ := DT_slice Tryd.underlying48 q6; exact ⟨_, e⟩
    obtain ⟨ks, rfl, hl, _⟩ := dt_ints q6
    exact ⟨⟨z0, z1, z2, b3, z4, z5, ks⟩, ⟨⟨wf_i64 w0, wf_i64 w1, wf_i64 w2, wf_i64 w4, wf_i64 w5⟩, hl⟩, e1⟩)
  have e : Tryd.prog.cellsOf 65 = 7 := by kernel_rfl
  rw [e, h4] at h1
  cases h1
  exact ⟨l, rfl, by rw [h4, List.length_map] at h2; unfold maxLen at h2; omega, h5⟩
end Go.Proofs.YtaponjjdfcmbeaaDoor
