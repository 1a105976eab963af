/- A string's bytes appended to an own row. Condition: bytes are of size 1. -/
import Derived.Test.YtkeehnhamkdogaaDoorE7b
import Derived.Lib.AppendStr
namespace Go.Proofs.YtkeehnhamkdogaaDoor
set_option linter.unusedVariables false
set_option linter.unusedSimpArgs false
open Go.RowKit

/-- An append of a string to an own row of bytes: the row's block is the old one, or one that is new. -/
theorem run_append_row_str {P : Program} (w : World) (t u ty e : TypeId) (i : TypeInfo) (ht : P.underlying t = some (.slice e)) (hu : P.underlying u = some .string) (hi : P.info? e = some i) (hz : i.zero = some (.int .u8 0))
    (hsize : i.size = 1) (hby : i.bytes = 1) (v : Value) (n : Nat) (xs : List Value) (hown : w.ownsRow 0 e 1 v n xs) (s : ByteArray) (hb : n + s.size ≤ 140737488355328) :
    ∃ v' w', (Builtin.append_ #[t, u] ty #[v, .string s]).run P w = .ok v' w' ∧ w'.ownsRow 0 e 1 v' (n + s.size) (xs ++ Lib.strCells s) ∧ w.grownBy w' v.ownBlock ∧ (v'.ownBlock = v.ownBlock ∨ ∀ g, v'.ownBlock = some g → w.heap.size ≤ g) := by
  have h63 : n + s.size ≤ maxLen := by unfold maxLen; omega
  rcases hown.2 with ⟨rfl, rfl⟩ | ⟨g, cap, cur, rfl, hg, hgg, hnc, hcm, hcs, htk⟩
  · have hx : xs = [] := List.eq_nil_of_length_eq_zero (by simpa using hown.1)
    subst hx
    obtain ⟨v', w', hr, h2, h3, _⟩ := Lib.run_append_own_string (P := P) w w.heap.size t u ty e i ht hu hi hz hsize hby (.slice none 0 0) 0 [] (World.ownsRow_nil w _ e 1) s h63 hb (Nat.le_refl _)
    exact ⟨v', w', hr, base0 h2, h3, Or.inr fun g hg => (h2.lt g hg).1⟩
  · obtain ⟨v', w', hr, h2, h3, _⟩ := Lib.run_append_own_string (P := P) w 0 t u ty e i ht hu hi hz hsize hby _ n xs hown s h63 hb (Nat.zero_le _)
    refine ⟨v', w', hr, h2, h3, ?_⟩
    by_cases hroom : n + s.size ≤ cap
    · have hcs' : cur.size = cap := by simpa using hcs
      have hr2 := Lib.run_append_room_string (P := P) w t u ty e i ht hu hi hsize g n cap cur hgg s hroom (by omega)
      rw [hr] at hr2
      cases hr2
      exact .inl rfl
    · have holds : ∀ j u, xs[j]? = some u → w.cell? ((⟨g, 0, none⟩ : Addr).add j) = some u := hown.cells (g := g) rfl
      have hr2 := Lib.run_append_grow_string (P := P) w t u ty e i (.int .u8 0) ht hu hi hz ⟨g, 0, none⟩ n cap xs (by rw [hsize]; simpa using hown.1) holds s (by omega) (by omega) (by rw [hby]; exact growslice_fits (by omega) (by omega))
      rw [hr] at hr2
      cases hr2
      refine .inr fun g' hg' => ?_
      cases hg'
      exact Nat.le_refl _
section
variable {P : Program} {Γ : Glob} {L : Nat → Option Lay} {o : Oper} {ev : Operand → Option TV} {mem : Nat → Option Blk} {nx : Nat} {K : Res → Prop}
def InfoU8 (P : Program) (e : TypeId) : Prop := ∃ i, P.info? e = some i ∧ i.zero = some (.int .u8 0) ∧ i.size = 1 ∧ i.bytes = 1
def exAppendS (P : Program) (L : Nat → Option Lay) (ev : Operand → Option TV) (mem : Nat → Option Blk) (nx : Nat) (t t' : TypeId) (s x : Operand) (K : Res → Prop) : Prop :=
  match L t, L t', ev x with
  | some ⟨_, _, _, .sl e⟩, some ⟨_, _, _, .str⟩, some (.o (.c (.d (.v (.string str))))) => match dstRows ev mem 1 e s with
    | some (r1, k1) => InfoU8 P e ∧ r1.length + str.size ≤ 140737488355328 ∧ ∃ rows', r1 ++ byteRows str.data.toList = rows' ∧ K ⟨.o (.c (.row nx)), k1, dead k1, [.row 1 e rows']⟩
    | none => False
  | _, _, _ => False
theorem exAppendS_ok (hL : LOk P L) {t t' : TypeId} {s x : Operand} (ho : o.op = .call { callee := .builtin .append, args := #[s, x], argTypes := #[t, t'] }) (h : exAppendS P L ev mem nx t t' s x K) : ∃ r, Spec P Γ o ev mem nx r ∧ K r := by
  have hsm : s ∈ o.op.operands := by simp [ho, Op.operands, Call.operands]
  have hxm : x ∈ o.op.operands := by simp [ho, Op.operands, Call.operands]
  unfold exAppendS at h
  split at h
  · rename_i e _ _ _ str hl hl' hx
    have hu := ((layOf_ok (hL _ _ hl)).under rfl).1 e rfl
    have hu' := ((layOf_ok (hL _ _ hl')).under rfl).2.1 rfl
    split at h
    · rename_i r1 k1 hd
      obtain ⟨⟨i, h1, h5, h3, h4⟩, hbytes, rows', rfl, h⟩ := h
      refine ⟨_, spec_gen fun ι S A w hs q1 q2 => ?_, h⟩
      obtain ⟨xs, hown, hall1, hrow1, hblk⟩ := dstRows_ok hd (A := A) (fun tv htv => q1 s hsm tv htv) (fun k hk b hb => q2 k hk b hb)
      have hxv := V_v (q1 x hxm _ hx)
      obtain ⟨v', w', hrun, hown', hg, hv'⟩ := run_append_row_str (P := P) w t t' (‹Oper›).type e i hu hu' h1 h5 h3 h4 (A.eval s) r1.length xs hown str hbytes
      obtain ⟨hb', hsl'⟩ := own_blk hown'
      obtain ⟨hb0, _⟩ := own_blk hown
      have hSb : ∀ b, S b → w'.heap[b]? = w.heap[b]? := fun b hb => hg.block b (hs b hb) (fun he => (hblk b (by rw [hb0, ← he])).1 hb)
      have hall2 : All2 (Imm S w) (byteRows str.data.toList).flatten (Lib.strCells str) := by
        rw [byteRows_flat]
        refine All2.map_left ⟨by simp [Lib.strCells], fun i a b ha hb => ?_⟩
        simp only [Lib.strCells, List.getElem?_map, ha, Option.map_some, Option.some.injEq] at hb
        subst hb
        exact Imm.v rfl
      have hlr : (byteRows str.data.toList).length = str.size := by simp [byteRows]
      refine ⟨v', w', fun k => if k = nx then v' else ι k, S, .inl (by simp [execOp, ho, hxv, resolve, invoke, builtin, hrun]), ⟨by simp, hsl'⟩, fun k hk => if_neg (by simp at hk; omega), fun _ h => h, fun _ h => .inl h, fun b hb => Nat.lt_of_lt_of_le (hs b hb) hg.size, hg.os, hg.tape, hg.output, hg.size, fun b hb hne => ?_, fun k b hk => ?_, fun i b hb => ?_, fun i b hb hl g hgv => ?_, fun i j b b' g hi hj _ _ _ _ => ?_⟩
      · refine hg.block b hb (fun he => ?_)
        obtain ⟨_, k, hk, hkb⟩ := hblk b (by rw [hb0, ← he])
        exact hne k (List.mem_map.2 ⟨(k, .dead), List.mem_map.2 ⟨k, hk, rfl⟩, rfl⟩) hkb
      · obtain ⟨k', _, he⟩ := List.mem_map.1 hk
        cases he
        trivial
      · obtain ⟨rfl, rfl⟩ := one_at hb
        refine ⟨xs ++ Lib.strCells str, by simpa [hlr] using hown', ?_, fun r hr => ?_, fun b hb => ?_⟩
        · rw [List.flatten_append]
          exact (hall1.append hall2).mono fun a u hau => hau.mono hSb (fun _ h => h)
        · rcases List.mem_append.1 hr with hr | hr
          · exact hrow1 r hr
          · obtain ⟨b, _, rfl⟩ := List.mem_map.1 hr; rfl
        · simp only [Nat.add_zero, if_true] at hb
          rw [hb'] at hb
          rcases hv' with hv' | hv'
          · rw [hv', ← hb0] at hb
            exact (hblk b hb).1
          · intro hSS
            have := hv' b hb
            have := hs b hSS
            omega
      · obtain ⟨rfl, rfl⟩ := one_at hb
        simp only [Nat.add_zero, if_true] at hgv
        rw [hb'] at hgv
        rcases hv' with hv' | hv'
        · rw [hv', ← hb0] at hgv
          obtain ⟨hn, k, hk, hkb⟩ := hblk g hgv
          exact ⟨hn, .inr ⟨k, List.mem_map.2 ⟨k, hk, rfl⟩, hkb⟩⟩
        · have := hv' g hgv
          exact ⟨fun hSS => by have := hs g hSS; omega, .inl this⟩
      · obtain ⟨rfl, _⟩ := one_at hi
        obtain ⟨rfl, _⟩ := one_at hj
        rfl
    · exact h.elim
  · exact h.elim
end
end Go.Proofs.YtkeehnhamkdogaaDoor
