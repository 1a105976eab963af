/- The bytes of an own row taken as a string (strings.Builder's String). Condition: the row isn't empty. -/
import Derived.Test.YtkeehnhamkdogaaDoorE7c
import Derived.Lib.UnsafeStr
namespace Go.Proofs.YtkeehnhamkdogaaDoor
set_option linter.unusedVariables false
set_option linter.unusedSimpArgs false
open Go.RowKit
section
variable {P : Program} {Γ : Glob} {L : Nat → Option Lay} {o : Oper} {ev : Operand → Option TV} {mem : Nat → Option Blk} {nx : Nat} {K : Res → Prop}
def exUData (ev : Operand → Option TV) (mem : Nat → Option Blk) (x : Operand) (K : Res → Prop) : Prop :=
  match ev x with
  | some (.o (.c (.row k))) => match mem k with
    | some (.row size _ rows) => 0 < rows.length ∧ K ⟨.o (.c (.rptr k size 0 0)), [k], [], []⟩
    | _ => False
  | _ => False
theorem row_block {ι : Nat → Value} {S : Nat → Prop} {w : World} {k size : Nat} {e : TypeId} {rows : List (List D)} (h : BlkOk ι S w k (.row size e rows)) (hr : 0 < rows.length) :
    ∃ g cap cur cs, ι k = .slice (some ⟨g, 0, none⟩) rows.length cap ∧ w.heap[g]? = some (.cells cur e (0, 0)) ∧ rows.length ≤ cap ∧ cap ≤ maxLen ∧ cur.size = cap * size ∧ All2 (Imm S w) rows.flatten cs ∧ (∀ j u, cs[j]? = some u → w.cell? ((⟨g, 0, none⟩ : Addr).add j) = some u) := by
  obtain ⟨cs, h1, h2, _, _⟩ := h
  rcases h1.2 with ⟨_, hz⟩ | ⟨g, cap, cur, hv, _, h3, h4, h5, h6, _⟩
  · omega
  · exact ⟨g, cap, cur, cs, hv, h3, h4, h5, h6, h2, h1.cells (g := g) (by rw [hv]; rfl)⟩
theorem exUData_ok {x : Operand} {ts : Array TypeId} (ho : o.op = .call { callee := .builtin .unsafeSliceData, args := #[x], argTypes := ts }) (h : exUData ev mem x K) : ∃ r, Spec P Γ o ev mem nx r ∧ K r := by
  unfold exUData at h
  split at h
  · rename_i k hx
    split at h
    · rename_i size e rows hk
      obtain ⟨hr, h⟩ := h
      refine ⟨_, spec_gen fun ι S A w hs q1 q2 => ?_, h⟩
      obtain ⟨g, cap, cur, cs, hv, _, hc, _⟩ := row_block (q2 k (by simp) _ hk) hr
      have hxv : A.eval x = ι k := (q1 x (by simp [ho, Op.operands, Call.operands]) _ hx).1
      refine ⟨.pointer (some ⟨g, 0, none⟩), w, ι, S, .inl ?_, ⟨g, _, cap, hv, by simp⟩, fun _ _ => rfl, fun _ h => h, fun _ h => .inl h, hs, rfl, rfl, rfl, Nat.le_refl _, fun _ _ _ => rfl, (fun _ _ h => by simp at h), (fun _ _ h => by simp at h), (fun _ _ h => by simp at h), (fun _ _ _ _ _ h => by simp at h)⟩
      have := Lib.run_unsafeSliceData_row (P := P) w ts (‹Oper›).type ⟨g, 0, none⟩ rows.length cap (by omega)
      simp [execOp, ho, hxv, hv, resolve, invoke, builtin, this]
    · exact h.elim
  · exact h.elim
def exUStr (P : Program) (ev : Operand → Option TV) (mem : Nat → Option Blk) (pt : TypeId) (p n : Operand) (K : Res → Prop) : Prop :=
  match ev p, ev n with
  | some (.o (.c (.rptr k _ i j))), some (.o (.c (.d (.v (.int kk m))))) => match mem k with
    | some (.row size e rows) => (P.underlying pt = some (.pointer e) ∧ P.cellsOf e = 1) ∧ i = 0 ∧ j = 0 ∧ kk = .i64 ∧ size = 1 ∧ ∃ l, rows = byteRows l ∧ l ≠ [] ∧ m = l.length ∧ K ⟨Tstr ⟨l.toArray⟩, [k], [(k, .dead)], []⟩
    | _ => False
  | _, _ => False
theorem exUStr_ok {pt it : TypeId} {p n : Operand} (ho : o.op = .call { callee := .builtin .unsafeString, args := #[p, n], argTypes := #[pt, it] }) (h : exUStr P ev mem pt p n K) : ∃ r, Spec P Γ o ev mem nx r ∧ K r := by
  unfold exUStr at h
  split at h
  · rename_i k sz i j kk m hp hn
    split at h
    · rename_i size e rows hk
      obtain ⟨⟨hpt, hce⟩, rfl, rfl, rfl, rfl, l, rfl, hl0, rfl, h⟩ := h
      refine ⟨_, spec_gen fun ι S A w hs q1 q2 => ?_, h⟩
      have hlen : (byteRows l).length = l.length := by simp [byteRows]
      have hpos : 0 < l.length := List.length_pos_iff.2 hl0
      obtain ⟨g, cap, cur, cs, hv, hg, hc1, hc2, hc3, hall, hcell⟩ := row_block (q2 k (by simp) _ hk) (by omega)
      obtain ⟨b, n', cap', e1, e2⟩ := q1 p (by simp [ho, Op.operands, Call.operands]) _ hp
      rw [hv] at e1
      cases e1
      have hnv := V_v (q1 n (by simp [ho, Op.operands, Call.operands]) _ hn)
      have hcells : ∀ j x, l[j]? = some x → w.cell? ((⟨g, 0, none⟩ : Addr).add j) = some (.int .u8 x.toNat) := fun j x hx => by
        rw [byteRows_flat] at hall
        obtain ⟨u, hu1, hu2⟩ := hall.at_left (i := j) (a := D.v (.int .u8 x.toNat)) (by simp [hx])
        cases hu2
        exact hcell j _ hu1
      have hrun := Lib.run_unsafeString_row (P := P) w pt it (‹Oper›).type e hpt hce g cur.size (by simp [World.shape?, hg]) l hl0 (by rw [hlen] at hc1; omega) (by unfold maxLen at hc2; omega) hcells
      have hother : ∀ b, b ≠ g → (w.freeze ⟨g, 0, none⟩ l.length).heap[b]? = w.heap[b]? := fun b hb => by
        unfold World.freeze
        split
        · rfl
        · simp only [Array.getElem?_modify]
          rw [if_neg (fun e => hb e.symm)]
      have hsz : (w.freeze ⟨g, 0, none⟩ l.length).heap.size = w.heap.size := by
        unfold World.freeze
        split <;> simp
      refine ⟨.string ⟨l.toArray⟩, w.freeze ⟨g, 0, none⟩ l.length, ι, S, .inl ?_, V_mk rfl, fun _ _ => rfl, fun _ h => h, fun _ h => .inl h, fun b hb => by rw [hsz]; exact hs b hb, ?_, ?_, ?_, by rw [hsz]; exact Nat.le_refl _, fun b _ hne => hother b (fun e => ?_), fun k' b' hk' => ?_, (fun _ _ h => by simp at h), (fun _ _ h => by simp at h), (fun _ _ _ _ _ h => by simp at h)⟩
      · simp only [Nat.zero_mul, Nat.add_zero] at e2
        simp [execOp, ho, e2, hnv, resolve, invoke, builtin, hrun]
      · unfold World.freeze; split <;> rfl
      · unfold World.freeze; split <;> rfl
      · unfold World.freeze; split <;> rfl
      · subst e
        exact hne k (by simp) (by rw [hv]; rfl)
      · simp only [List.mem_singleton, Prod.mk.injEq] at hk'
        obtain ⟨rfl, rfl⟩ := hk'
        trivial
    · exact h.elim
  · exact h.elim
end
end Go.Proofs.YtkeehnhamkdogaaDoor
