/- Arguments that came in, read as data: numbers, strings, truth values, structs, arrays and slices of such. Condition: the type is one of these, to some depth. -/
import Derived.Test.YtkeehnhamkdogaaDoorE15
import Derived.Test.YtkeehnhamkdogaaDoorRow
namespace Go.Proofs.YtkeehnhamkdogaaDoor
set_option linter.unusedVariables false
set_option linter.unusedSimpArgs false
open Go.ChangeShapes Go.WideShapes Go.ChangeAt Go.RowKit

def tilesF (P : Program) : Nat → List Field → Nat → Bool
  | o, [], n => Nat.beq o n
  | o, f :: fs, n => Nat.beq f.offset o && tilesF P (o + P.cellsOf f.type) fs n
/-- Is a type one that is read, to so many levels? -/
def okT (P : Program) : Nat → TypeId → Bool
  | 0, _ => false
  | d + 1, t => match P.underlying t with
    | some .bool | some (.int _) | some .string => true
    | some (.slice e) => Nat.blt 0 (P.cellsOf e) && okT P d e
    | some (.array n e) => Nat.beq (n * P.cellsOf e) (P.cellsOf t) && okT P d e
    | some (.struct fs) => tilesF P 0 fs.toList (P.cellsOf t) && fs.toList.all fun f => okT P d f.type
    | _ => false
/-- What the cells of a value of a type read as. -/
def DT (P : Program) : Nat → TypeId → List D → Prop
  | 0, _, _ => False
  | d + 1, t, ds => match P.underlying t with
    | some .bool => ∃ b, ds = [.v (.bool b)]
    | some (.int k) => ∃ z, ds = [.v (.int k z)] ∧ (Lit.int k z).wf = true
    | some .string => ∃ s, ds = [.v (.string s)] ∧ s.size ≤ maxLen
    | some (.slice e) => ∃ rows, ds = [.sl (P.cellsOf e) rows] ∧ rows.length ≤ maxLen ∧ ∀ r ∈ rows, DT P d e r
    | some (.array n e) => ∃ ps : List (List D), ps.length = n ∧ ds = ps.flatten ∧ ∀ p ∈ ps, DT P d e p
    | some (.struct fs) => ∃ ps : List (List D), ds = ps.flatten ∧ All2 (fun (f : Field) p => DT P d f.type p) fs.toList ps
    | _ => False
theorem choose_list {α : Type} {Q : Nat → α → Prop} : ∀ {n : Nat}, (∀ i, i < n → ∃ a, Q i a) → ∃ L : List α, L.length = n ∧ ∀ i a, L[i]? = some a → Q i a
  | 0, _ => ⟨[], rfl, fun i a h => by simp at h⟩
  | n + 1, h => by
    obtain ⟨L, h1, h2⟩ := choose_list (n := n) (fun i hi => h i (by omega))
    obtain ⟨a, ha⟩ := h n (by omega)
    refine ⟨L ++ [a], by simp [h1], fun i b hb => ?_⟩
    rw [List.getElem?_append] at hb
    split at hb
    · exact h2 i b hb
    · rename_i hlt
      have hi : i - L.length = 0 := by
        rcases Nat.eq_zero_or_pos (i - L.length) with h | h
        · exact h
        · rw [List.getElem?_eq_none (by simp; omega)] at hb; cases hb
      rw [hi] at hb
      simp at hb
      obtain rfl : i = n := by omega
      rw [← hb]; exact ha
theorem flatten_at {α : Type} {size : Nat} (h0 : 0 < size) : ∀ {rows : List (List α)} (_ : ∀ r ∈ rows, r.length = size) {j : Nat} {d : α}, rows.flatten[j]? = some d → ∃ r, rows[j / size]? = some r ∧ r[j % size]? = some d
  | [], _, j, d, h => by simp at h
  | a :: rows, hr, j, d, h => by
    have ha := hr a (by simp)
    by_cases hj : j < size
    · rw [List.flatten_cons, List.getElem?_append_left (by omega)] at h
      rw [Nat.div_eq_of_lt hj, Nat.mod_eq_of_lt hj]
      exact ⟨a, rfl, h⟩
    · rw [List.flatten_cons, List.getElem?_append_right (by omega), ha] at h
      obtain ⟨r, h1, h2⟩ := flatten_at h0 (fun r hr' => hr r (by simp [hr'])) h
      refine ⟨r, ?_, ?_⟩
      · rw [show j / size = (j - size) / size + 1 by rw [Nat.div_eq_sub_div h0 (by omega)]]
        simpa using h1
      · rw [Nat.mod_eq_sub_mod (by omega)]; exact h2
/-- All memory of a world. -/
def Sall (w : World) : Nat → Prop := fun b => b < w.heap.size
theorem cell_lt {w : World} {a : Addr} {u : Value} (h : w.cell? a = some u) : a.block < w.heap.size ∧ a.spot = none := by
  unfold World.cell? at h
  split at h
  · rename_i c t f hc
    refine ⟨(Array.getElem?_eq_some_iff.1 hc).1, ?_⟩
    split at h
    · cases h
    · rename_i hs
      cases hsp : a.spot with
      | none => rfl
      | some k => rw [hsp] at hs; simp at hs
  · cases h
theorem cells_get {w : World} {base : Nat} {a : Addr} {n : Nat} {cs : List Value} (h : w.cells? base a n = some cs) : cs.length = n ∧ ∀ i, i < n → w.cell? (a.add i) = cs[i]? := by
  unfold World.cells? at h
  split at h
  · obtain ⟨h1, h2⟩ := mapM_isSome h
    rw [List.length_range] at h1
    refine ⟨h1.symm, fun i hi => ?_⟩
    obtain ⟨b, hb1, hb2⟩ := h2 i i (by simp [hi])
    rw [hb1, hb2]
  · cases h
section
variable {H : Type} {enc : TypeId × Value → H} {P : Program} {w : World} {base : Nat} {sp : Nat → Bool} {held : Bool}
theorem parts_all {R : D → Value → Prop} {T : Field → List D → Prop} : ∀ (fs : List Field) (o : Nat) (cs : List Value) (n : Nat), cs.length = n → tilesF P o fs n = true → o ≤ n →
    (∀ f ∈ fs, ∃ ds, T f ds ∧ All2 R ds ((cs.drop f.offset).take (P.cellsOf f.type))) → ∃ ps : List (List D), All2 T fs ps ∧ All2 R ps.flatten (cs.drop o)
  | [], o, cs, n, hl, ht, _, _ => by
    have : o = n := Nat.eq_of_beq_eq_true ht
    exact ⟨[], .nil, by rw [List.drop_of_length_le (by omega)]; exact .nil⟩
  | f :: fs, o, cs, n, hl, ht, ho, h => by
    simp only [tilesF, Bool.and_eq_true] at ht
    have ho' : f.offset = o := Nat.eq_of_beq_eq_true ht.1
    obtain ⟨ds, h1, h2⟩ := h f (by simp)
    have hle : o + P.cellsOf f.type ≤ n := by
      have key : ∀ (fs : List Field) (o : Nat), tilesF P o fs n = true → o ≤ n := fun fs => by
        induction fs with
        | nil => intro o h; exact Nat.le_of_eq (Nat.eq_of_beq_eq_true h)
        | cons g gs ih =>
          intro o h
          simp only [tilesF, Bool.and_eq_true] at h
          have := ih _ h.2
          omega
      exact key fs _ ht.2
    obtain ⟨ps, h3, h4⟩ := parts_all fs _ cs n hl ht.2 hle (fun g hg => h g (by simp [hg]))
    refine ⟨ds :: ps, .cons h1 h3, ?_⟩
    rw [List.flatten_cons, ho'] at *
    have := h2.append h4
    rwa [← List.drop_drop, List.take_append_drop] at this
theorem trod_dt : ∀ (d fuel : Nat) (t : TypeId) (cs : List Value) (x : DataW H × List MemPlace), okT P d t = true → DataW.trod enc P w base sp held fuel t cs = some x → ∃ ds, DT P d t ds ∧ All2 (Imm (Sall w) w) ds cs
  | 0, _, _, _, _, h, _ => by cases h
  | d + 1, fuel, t, cs, x, hok, h => by
    unfold okT at hok
    unfold DT
    split at hok
    · rename_i hu
      obtain ⟨b, rfl, _⟩ := DataW.trod_bool hu h
      exact ⟨_, ⟨b, rfl⟩, .cons (Imm.v rfl) .nil⟩
    · rename_i k hu
      obtain ⟨n, rfl, _, hw⟩ := DataW.trod_int hu h
      exact ⟨_, ⟨n, rfl, hw⟩, .cons (Imm.v rfl) .nil⟩
    · rename_i hu
      obtain ⟨s, rfl, _, hs⟩ := DataW.trod_string hu h
      exact ⟨_, ⟨s, rfl, hs⟩, .cons (Imm.v rfl) .nil⟩
    · rename_i e hu
      simp only [Bool.and_eq_true] at hok
      have h0 : 0 < P.cellsOf e := Nat.lt_of_succ_le (Nat.le_of_ble_eq_true hok.1)
      rcases DataW.trod_slice hu h with ⟨rfl, _⟩ | ⟨a, len, cap, elems, rest, n, _, rfl, _, _, hlc, hcm, hel, hel2, _⟩
      · exact ⟨_, ⟨[], rfl, by simp, by simp⟩, .cons Imm.nil .nil⟩
      · have hone : ∀ i, i < len → ∃ ds, DT P d e ds ∧ ∃ cs', w.cells? base (a.add (i * P.cellsOf e)) (P.cellsOf e) = some cs' ∧ All2 (Imm (Sall w) w) ds cs' := fun i hi => by
          have h1 := hel2 i hi
          rw [List.getElem?_eq_getElem (by omega)] at h1
          obtain ⟨cs', h2, h3⟩ := Option.bind_eq_some_iff.1 h1
          obtain ⟨ds, h4, h5⟩ := trod_dt d n e cs' _ hok.2 h3
          exact ⟨ds, h4, cs', h2, h5⟩
        obtain ⟨rows, hr1, hr2⟩ := choose_list hone
        have hrm : ∀ r ∈ rows, ∃ i, i < len ∧ rows[i]? = some r := fun r hr => by
          obtain ⟨i, hi⟩ := List.getElem?_of_mem hr
          exact ⟨i, by have := (List.getElem?_eq_some_iff.1 hi).1; omega, hi⟩
        have hdt : ∀ r ∈ rows, DT P d e r := fun r hr => by
          obtain ⟨i, _, hi⟩ := hrm r hr
          exact (hr2 i r hi).1
        have hrl : ∀ r ∈ rows, r.length = P.cellsOf e := fun r hr => by
          obtain ⟨i, _, hi⟩ := hrm r hr
          obtain ⟨_, cs', h2, h3⟩ := hr2 i r hi
          rw [h3.len, (cells_get h2).1]
        refine ⟨_, ⟨rows, rfl, by omega, hdt⟩, .cons ?_ .nil⟩
        by_cases hz : len = 0
        · subst hz
          obtain rfl := List.eq_nil_of_length_eq_zero hr1
          exact Imm.sl0
        · obtain ⟨r0, _, cs0, h2, _⟩ := hone 0 (by omega)
          have h3 := (cells_get h2).2 0 h0
          rw [Nat.zero_mul] at h3
          have e0 : (a.add 0).add 0 = a := rfl
          rw [e0, List.getElem?_eq_getElem (by rw [(cells_get h2).1]; exact h0)] at h3
          obtain ⟨hb, hs⟩ := cell_lt h3
          obtain ⟨g, f, spot⟩ := a
          simp only at hs hb
          subst hs
          rw [← hr1]
          have hat : ∀ j dd, rows.flatten[j]? = some dd → ∃ u, w.cell? ⟨g, f + j, none⟩ = some u ∧ Imm (Sall w) w dd u := fun j dd hj => by
            obtain ⟨r, e1, e2⟩ := flatten_at h0 hrl hj
            obtain ⟨_, cs', e3, e4⟩ := hr2 _ r e1
            obtain ⟨u, e5, e6⟩ := e4.at_left e2
            refine ⟨u, ?_, e6⟩
            have e7 := (cells_get e3).2 (j % P.cellsOf e) (Nat.mod_lt _ h0)
            rw [Addr.add_lit, Addr.add_lit, e5] at e7
            rw [← e7]
            congr 2
            rw [Nat.add_assoc, Nat.mul_comm, Nat.div_add_mod]
          refine Imm.sl (fun j => (w.cell? ⟨g, f + j, none⟩).getD undef) hb (by omega) hrl (fun j dd hj => ?_) (fun j dd hj => ?_)
          · obtain ⟨u, e1, _⟩ := hat j dd hj
            rw [e1]; rfl
          · obtain ⟨u, e1, e2⟩ := hat j dd hj
            rw [e1]; exact e2
    · rename_i n e hu
      simp only [Bool.and_eq_true] at hok
      have hn : n * P.cellsOf e = P.cellsOf t := Nat.eq_of_beq_eq_true hok.1
      obtain ⟨xs, m, _, _, hl, hx, hall⟩ := DataW.trod_array hu h
      have hone : ∀ i, i < n → ∃ ds, DT P d e ds ∧ All2 (Imm (Sall w) w) ds ((cs.drop (i * P.cellsOf e)).take (P.cellsOf e)) := fun i hi => by
        have h1 := hall i hi
        rw [List.getElem?_eq_getElem (by omega)] at h1
        exact trod_dt d m e _ _ hok.2 h1
      obtain ⟨ps, hp1, hp2⟩ := choose_list hone
      refine ⟨ps.flatten, ⟨ps, hp1, rfl, fun p hp => ?_⟩, ?_⟩
      · obtain ⟨i, hi⟩ := List.getElem?_of_mem hp
        exact (hp2 i p hi).1
      · have key : ∀ (ps : List (List D)) (o : Nat), (∀ i p, ps[i]? = some p → All2 (Imm (Sall w) w) p ((cs.drop ((o + i) * P.cellsOf e)).take (P.cellsOf e))) → (o + ps.length) * P.cellsOf e = cs.length → All2 (Imm (Sall w) w) ps.flatten (cs.drop (o * P.cellsOf e)) := fun ps => by
          induction ps with
          | nil => intro o _ hlen; rw [List.drop_of_length_le (by simp at hlen; omega)]; exact .nil
          | cons p ps ih =>
            intro o hp hlen
            have h1 := hp 0 p rfl
            have h2 := ih (o + 1) (fun i q hq => by have := hp (i + 1) q (by simpa using hq); rwa [show o + 1 + i = o + (i + 1) by omega]) (by rw [← hlen, List.length_cons]; congr 1; omega)
            rw [List.flatten_cons]
            have := h1.append h2
            rwa [Nat.add_zero, Nat.add_mul, Nat.one_mul, ← List.drop_drop, List.take_append_drop] at this
        have := key ps 0 (fun i p hi => by rw [Nat.zero_add]; exact (hp2 i p hi).2) (by rw [Nat.zero_add, hp1, hn, hl])
        simpa using this
    · rename_i fs hu
      simp only [Bool.and_eq_true] at hok
      obtain ⟨xs, m, _, _, hl, hx, hall⟩ := DataW.trod_struct hu h
      obtain ⟨ps, h1, h2⟩ := parts_all (R := Imm (Sall w) w) (T := fun f p => DT P d f.type p) fs.toList 0 cs _ hl hok.1 (Nat.zero_le _) (fun f hf => by
        obtain ⟨i, hi⟩ := List.getElem?_of_mem hf
        have hlt := (List.getElem?_eq_some_iff.1 hi).1
        have h1 := hall i f (by simpa using hi)
        rw [List.getElem?_eq_getElem (by simp at hlt; omega)] at h1
        exact trod_dt d m f.type _ _ (List.all_eq_true.1 hok.2 f hf) h1)
      exact ⟨ps.flatten, ⟨ps, rfl, h1⟩, by simpa using h2⟩
    · cases hok
/-- An argument that came in reads as data of its type. -/
theorem open_dt {d : Nat} {r : Reach} {b0 : Nat} {t : TypeId} {v : Value} {dd : DataW H} {ps : List MemPlace} (hok : okT P d t = true) (hag : (P.underlying t).map aggD = some false) (hval : Value.okWide P w r b0 t v) (hd : DataW.Trod enc P w base sp held t v dd ps) :
    ∃ x, DT P d t [x] ∧ Imm (Sall w) w x v := by
  obtain ⟨fuel, hf⟩ := hd
  obtain ⟨ds, h1, h2⟩ := trod_dt d fuel t _ _ hok hf
  have hone : v.oneCell' = true := by
    cases d with
    | zero => cases hok
    | succ d =>
      unfold okT at hok
      split at hok
      · rename_i hu; obtain ⟨b, rfl⟩ := okWide_bool hu hval; rfl
      · rename_i hu; obtain ⟨n, rfl⟩ := okWide_int hu hval; rfl
      · rename_i hu; obtain ⟨s, rfl⟩ := okWide_string hu hval; rfl
      · rename_i hu; obtain ⟨a, l, c, rfl⟩ := okWide_slice hu hval; rfl
      · rename_i hu; rw [hu] at hag; cases hag
      · rename_i hu; rw [hu] at hag; cases hag
      · cases hok
  rw [oneCell_cells hone] at h2
  have hl := h2.len
  match ds, h2, hl with
  | [x], h2, _ => exact ⟨x, h1, h2.head⟩
end
end Go.Proofs.YtkeehnhamkdogaaDoor
