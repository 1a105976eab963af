/- What single operations do to the abstract state: stores, slices made, appends. No condition. -/
import Derived.Test.YtkeehnhamkdogaaDoorE5
namespace Go.Proofs.YtkeehnhamkdogaaDoor
set_option linter.unusedVariables false
set_option linter.unusedSimpArgs false
open Go.RowKit

section
variable {P : Program} {Γ : Glob} {L : Nat → Option Lay} {o : Oper} {ev : Operand → Option TV} {mem : Nat → Option Blk} {nx : Nat} {K : Res → Prop}

/-! ### Stores -/
def exStore (L : Nat → Option Lay) (ev : Operand → Option TV) (mem : Nat → Option Blk) (t : TypeId) (p x : Operand) (K : Res → Prop) : Prop :=
  match L t, ev p, (ev x).bind TV.cells with
  | some l, some (.o (.c (.ptr k off))), some cs => match mem k with
    | some (.obj cells tg) => match Nat.beq cs.length l.size, Nat.ble (off + cs.length) cells.length with
      | true, true => K ⟨.no, [k], [(k, .obj (setAt cells off cs) tg)], []⟩
      | _, _ => False
    | _ => False
  | some l, some (.o (.c (.rptr k size i j))), some cs => match mem k, asD cs with
    | some (.row size' e rows), some ds => size' = size ∧ ∃ r, rows[i]? = some r ∧ (match Nat.beq ds.length l.size, Nat.ble (j + ds.length) size with
      | true, true => ∃ rows', rows.set i (setAt r j ds) = rows' ∧ K ⟨.no, [k], [(k, .row size' e rows')], []⟩
      | _, _ => False)
    | _, _ => False
  | _, _, _ => False
theorem flatten_set {α : Type} {size : Nat} (ds : List α) (j : Nat) (hj : j + ds.length ≤ size) : ∀ {rows : List (List α)} (_ : ∀ r ∈ rows, r.length = size) (i : Nat) (r : List α), rows[i]? = some r → (rows.set i (setAt r j ds)).flatten = setAt rows.flatten (i * size + j) ds
  | [], _, i, r, h => by simp at h
  | a :: rows, hr, 0, r, h => by
    simp only [List.getElem?_cons_zero, Option.some.injEq] at h
    subst h
    have ha := hr a (by simp)
    simp only [List.set_cons_zero, List.flatten_cons, Nat.zero_mul, Nat.zero_add, setAt]
    rw [List.take_append_of_le_length (by omega), List.drop_append_of_le_length (by omega), List.append_assoc, List.append_assoc]
  | a :: rows, hr, i + 1, r, h => by
    have ha := hr a (by simp)
    have ih := flatten_set ds j hj (fun r hr' => hr r (by simp [hr'])) i r (by simpa using h) (rows := rows)
    simp only [List.set_cons_succ, List.flatten_cons, ih]
    have e : (i + 1) * size + j = a.length + (i * size + j) := by rw [ha, Nat.add_mul]; omega
    rw [e]
    simp only [setAt]
    rw [List.take_length_add_append, show a.length + (i * size + j) + ds.length = a.length + (i * size + j + ds.length) by omega, List.drop_length_add_append]
    simp only [List.append_assoc]
theorem setAt_len {α : Type} (l : List α) (off : Nat) (m : List α) (h : off + m.length ≤ l.length) : (setAt l off m).length = l.length := by
  simp [setAt]
  omega
theorem exStore_ok (hL : LOk P L) {t : TypeId} {p x : Operand} (ho : o.op = .store t p x) (h : exStore L ev mem t p x K) : ∃ r, Spec P Γ o ev mem nx r ∧ K r := by
  have hpm : p ∈ o.op.operands := by simp [ho, Op.operands]
  have hxm : x ∈ o.op.operands := by simp [ho, Op.operands]
  unfold exStore at h
  split at h
  · rename_i l k off cs hl hp hx
    have hlay := layOf_ok (hL _ _ hl)
    obtain ⟨tv, hxv, hcs⟩ := Option.bind_eq_some_iff.1 hx
    split at h
    · rename_i cells tg hk
      split at h
      · rename_i hb1 hb2
        have e1 := Nat.eq_of_beq_eq_true hb1
        have e2 := Nat.le_of_ble_eq_true hb2
        refine ⟨_, spec_gen fun ι S A w hs q1 q2 => ?_, h⟩
        obtain ⟨b, hb, hpe⟩ := q1 p hpm _ hp
        obtain ⟨b', arr, ty, h3, h4, h5, h6⟩ := q2 k (by simp) _ hk
        obtain rfl : b = b' := by rw [hb] at h3; cases h3; rfl
        have hall := V_cells (q1 x hxm _ hxv) hcs
        have hlen := h5.len
        have hul : (A.eval x).cells.size = cs.length := by rw [hall.len]; simp
        have hst := run_storeCells_at P b off ty.1 (A.eval x).cells.toList 0 arr w h4 (by simp at hlen ⊢; omega) (fun v hv => by
          obtain ⟨i, hi, rfl⟩ := List.getElem_of_mem hv
          obtain ⟨a, ha, hav⟩ := hall.at_right (List.getElem?_eq_getElem hi)
          exact hav.one)
        simp only [Nat.add_zero] at hst
        have hset : arr.toList.take off ++ (A.eval x).cells.toList ++ arr.toList.drop (off + (A.eval x).cells.toList.length) = setAt arr.toList off (A.eval x).cells.toList := rfl
        rw [hset] at hst
        have hrun : (storeVar t ⟨b, off, none⟩ (A.eval x)).run P w = .ok () (w.setRow b (setAt arr.toList off (A.eval x).cells.toList).toArray) := by
          unfold storeVar
          rw [Sem.run_bind, hlay.sizeOf, Result.andThen_ok]
          rw [if_neg (by simp [hul, e1])]
          exact hst
        have hSb : ∀ b', S b' → (w.setRow b (setAt arr.toList off (A.eval x).cells.toList).toArray).heap[b']? = w.heap[b']? := fun b' hb' => setRow_other w b b' _ (fun e => h6 (e ▸ hb'))
        refine ⟨undef, w.setRow b (setAt arr.toList off (A.eval x).cells.toList).toArray, ι, S, .inr ⟨?_, rfl⟩, ?_⟩
        · simp only [execOp, ho, hpe, Instr.storeAt, Instr.sureAddr]
          simp only [Sem.run_bind, Sem.run_pure, Result.andThen_ok, hrun]
        · refine ⟨trivial, fun _ _ => rfl, fun _ h => h, fun _ h => .inl h, (fun b' hb' => by have := hs b' hb'; simpa using this), rfl, rfl, rfl, by simp, fun b' _ hne => ?_, fun k' b' hk' => ?_, (fun _ _ h => by simp at h), (fun _ _ h => by simp at h), (fun _ _ _ _ _ h => by simp at h)⟩
          · refine setRow_other w b b' _ (fun e => ?_)
            subst e
            exact hne k (by simp) (by rw [hb]; rfl)
          · simp only [List.mem_singleton, Prod.mk.injEq] at hk'
            obtain ⟨rfl, rfl⟩ := hk'
            refine ⟨b, _, ty, hb, setRow_heap w b arr _ ty.1 _ h4, ?_, h6⟩
            exact (h5.setAt hall off).mono fun a u hau => VC.mono hSb (fun _ h => h) (fun _ _ => rfl) hau
      · exact h.elim
    · exact h.elim
  · rename_i l k size i j cs hl hp hx
    have hlay := layOf_ok (hL _ _ hl)
    obtain ⟨tv, hxv, hcs⟩ := Option.bind_eq_some_iff.1 hx
    split at h
    · rename_i size' e rows ds hk hds
      obtain ⟨rfl, r, hr, h⟩ := h
      split at h
      · rename_i hb1 hb2
        have e1 := Nat.eq_of_beq_eq_true hb1
        have e2 := Nat.le_of_ble_eq_true hb2
        obtain ⟨rows', rfl, h⟩ := h
        refine ⟨_, spec_gen fun ι S A w hs q1 q2 => ?_, h⟩
        obtain ⟨b, n, cap, hb, hpe⟩ := q1 p hpm _ hp
        obtain ⟨us, h3, h4, h5, h6⟩ := q2 k (by simp) _ hk
        have hall := asD_ok hds (V_cells (q1 x hxm _ hxv) hcs)
        have hul : (A.eval x).cells.size = ds.length := by rw [hall.len]; simp
        have hlt := (List.getElem?_eq_some_iff.1 hr).1
        have hSb6 : ¬ S b := h6 b (by rw [hb]; rfl)
        rcases h3.2 with ⟨h7, _⟩ | ⟨g, cap', cur, h7, h8, h9, h10, h11, h12, h13⟩
        · rw [hb] at h7; cases h7
        rw [hb] at h7
        cases h7
        have hbound : i * size' + size' ≤ rows.length * size' := by rw [← Nat.succ_mul]; exact Nat.mul_le_mul_right _ hlt
        have hcur : rows.length * size' ≤ cur.size := by rw [h12]; exact Nat.mul_le_mul_right _ h10
        have hst := run_storeCells_at P b (i * size' + j) e (A.eval x).cells.toList 0 cur w h9 (by simp; omega) (fun v hv => by
          obtain ⟨i, hi, rfl⟩ := List.getElem_of_mem hv
          obtain ⟨a, ha, hav⟩ := hall.at_right (List.getElem?_eq_getElem hi)
          exact hav.one)
        simp only [Nat.add_zero] at hst
        have hset : cur.toList.take (i * size' + j) ++ (A.eval x).cells.toList ++ cur.toList.drop (i * size' + j + (A.eval x).cells.toList.length) = setAt cur.toList (i * size' + j) (A.eval x).cells.toList := rfl
        rw [hset] at hst
        have hrun : (storeVar t ⟨b, i * size' + j, none⟩ (A.eval x)).run P w = .ok () (w.setRow b (setAt cur.toList (i * size' + j) (A.eval x).cells.toList).toArray) := by
          unfold storeVar
          rw [Sem.run_bind, hlay.sizeOf, Result.andThen_ok]
          rw [if_neg (by simp [hul, e1])]
          exact hst
        have hSb : ∀ b', S b' → (w.setRow b (setAt cur.toList (i * size' + j) (A.eval x).cells.toList).toArray).heap[b']? = w.heap[b']? := fun b' hb' => setRow_other w b b' _ (fun e => hSb6 (e ▸ hb'))
        have hlenu : (A.eval x).cells.toList.length = ds.length := by simpa using hul
        refine ⟨undef, w.setRow b (setAt cur.toList (i * size' + j) (A.eval x).cells.toList).toArray, ι, S, .inr ⟨?_, rfl⟩, ?_⟩
        · simp only [execOp, ho, hpe, Instr.storeAt, Instr.sureAddr]
          simp only [Sem.run_bind, Sem.run_pure, Result.andThen_ok, hrun]
        · refine ⟨trivial, fun _ _ => rfl, fun _ h => h, fun _ h => .inl h, (fun b' hb' => by have := hs b' hb'; simpa using this), rfl, rfl, rfl, by simp, fun b' _ hne => ?_, fun k' b' hk' => ?_, (fun _ _ h => by simp at h), (fun _ _ h => by simp at h), (fun _ _ _ _ _ h => by simp at h)⟩
          · refine setRow_other w b b' _ (fun e => ?_)
            subst e
            exact hne k (by simp) (by rw [hb]; rfl)
          · simp only [List.mem_singleton, Prod.mk.injEq] at hk'
            obtain ⟨rfl, rfl⟩ := hk'
            have hrl : r.length = size' := h5 r (List.mem_of_getElem? hr)
            have hr' : (setAt r j ds).length = size' := by rw [setAt_len _ _ _ (by omega), hrl]
            refine ⟨setAt us (i * size' + j) (A.eval x).cells.toList, ⟨?_, .inr ⟨b, cap, _, by rw [hb]; simp, h8, setRow_heap w b cur _ e _ h9, by simpa using h10, h11, ?_, ?_⟩⟩, ?_, ?_, h6⟩
            · rw [setAt_len _ _ _ (by rw [hlenu, ← h4.len, flatten_len h5]; omega), ← h4.len, flatten_len h5, List.length_set]
            · simp only [List.size_toArray]
              rw [setAt_len _ _ _ (by rw [hlenu]; simp; omega)]
              simpa using h12
            · rw [← h13]
              simp only [List.length_set]
              unfold setAt
              rw [hlenu]
              apply List.ext_getElem?
              intro m
              simp only [List.getElem?_take, List.getElem?_append, List.length_take, List.length_append, List.getElem?_drop, Array.length_toList, hlenu]
              split
              · rename_i hm
                have hmin1 : min (i * size' + j) cur.size = i * size' + j := by omega
                have hmin2 : min (i * size' + j) (min (rows.length * size') cur.size) = i * size' + j := by omega
                rw [hmin1, hmin2]
                split
                · split
                  · first | rfl | (split <;> first | rfl | omega)
                  · rfl
                · rw [if_pos (by omega)]
              · rename_i hm
                have hmin2 : min (i * size' + j) (min (rows.length * size') cur.size) = i * size' + j := by omega
                rw [hmin2]
                rw [if_neg (by omega), if_neg (by omega)]
            · rw [flatten_set ds j e2 h5 i r hr]
              exact (h4.setAt hall _).mono fun a u hau => hau.mono hSb (fun _ h => h)
            · intro r' hr''
              rcases List.mem_or_eq_of_mem_set hr'' with h | h
              · exact h5 r' h
              · rw [h]; exact hr'
      · exact h.elim
    · exact h.elim
  · exact h.elim
end
end Go.Proofs.YtkeehnhamkdogaaDoor
