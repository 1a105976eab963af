/- What single operations do to the abstract state: numbers, strings, addresses, loads and stores. No condition. -/
import Derived.Test.YtkeehnhamkdogaaDoorE1
import Derived.WalkSpells
import Derived.WalkLawsBesides
import Derived.Great.BuildSlice
namespace Go.Proofs.YtkeehnhamkdogaaDoor
set_option linter.unusedVariables false
set_option linter.unusedSimpArgs false
open Go.RowKit

/-! ### The types' table -/
inductive LK where
  | st (fs : List (Nat × Nat × Bool))
  | arr (n : Nat) (e : TypeId)
  | sl (e : TypeId)
  | str
  | bool
  | int (k : IntKind)
  | other
structure Lay where
  size : Nat
  bytes : Nat
  zero : List Value
  kind : LK
def LK.agg : LK → Bool | .st _ | .arr _ _ => true | _ => false
def aggD : TypeDesc → Bool | .struct _ | .array _ _ => true | _ => false
def fieldLay (P : Program) (f : Field) : Option (Nat × Nat × Bool) :=
  match P.info? f.type, P.underlying f.type with
  | some i, some d => some (f.offset, i.size, aggD d)
  | _, _ => none
def kindOf (P : Program) : TypeDesc → Option LK
  | .struct fields => (fields.toList.mapM (fieldLay P)).map .st
  | .array n e => some (.arr n e)
  | .slice e => some (.sl e)
  | .string => some .str
  | .bool => some .bool
  | .int k => some (.int k)
  | _ => some .other
def layOf (P : Program) (t : TypeId) : Option Lay :=
  match P.info? t, P.underlying t with
  | some i, some d => match i.zero, kindOf P d with
    | some z, some k => some ⟨i.size, i.bytes, z.cells.toList, k⟩
    | _, _ => none
  | _, _ => none
def LOk (P : Program) (L : Nat → Option Lay) : Prop := ∀ t l, L t = some l → layOf P t = some l

structure LayOk (P : Program) (t : TypeId) (l : Lay) : Prop where
  ex : ∃ i d z, P.info? t = some i ∧ P.underlying t = some d ∧ i.size = l.size ∧ i.bytes = l.bytes ∧ i.zero = some z ∧ z.cells.toList = l.zero ∧ kindOf P d = some l.kind
theorem layOf_ok {P : Program} {t : TypeId} {l : Lay} (h : layOf P t = some l) : LayOk P t l := by
  unfold layOf at h
  split at h
  · rename_i i d hi hd
    split at h
    · rename_i z k hz hk
      cases h
      exact ⟨i, d, z, hi, hd, rfl, rfl, hz, rfl, hk⟩
    · cases h
  · cases h
theorem mapM_isSome {α β : Type} {f : α → Option β} {l : List α} {m : List β} (h : l.mapM f = some m) : l.length = m.length ∧ ∀ (i : Nat) a, l[i]? = some a → ∃ b, f a = some b ∧ m[i]? = some b := by
  induction l generalizing m with
  | nil => simp at h; subst h; exact ⟨rfl, fun i a h => by simp at h⟩
  | cons a l ih =>
    simp only [List.mapM_cons, Option.bind_eq_bind, Option.pure_def] at h
    cases hf : f a with
    | none => simp [hf] at h
    | some b =>
      cases hr : l.mapM f with
      | none => simp [hf, hr] at h
      | some r =>
        simp [hf, hr] at h
        subst h
        obtain ⟨h1, h2⟩ := ih hr
        refine ⟨by simp [h1], fun i x hx => ?_⟩
        cases i with
        | zero => simp at hx; subst hx; exact ⟨b, hf, rfl⟩
        | succ i => simpa using h2 i x (by simpa using hx)
section
variable {P : Program} {t : TypeId} {l : Lay} (h : LayOk P t l)
include h
theorem LayOk.agg (w : World) : (isAgg t).run P w = .ok l.kind.agg w := by
  obtain ⟨i, d, z, h1, h2, _, _, _, _, h6⟩ := h.ex
  unfold isAgg
  rw [Sem.run_bind, run_underlying h2 w]
  cases d with
  | struct fs =>
    simp only [kindOf] at h6
    cases hm : fs.toList.mapM (fieldLay P) with
    | none => simp [hm] at h6
    | some m => simp [hm] at h6; rw [← h6]; rfl
  | _ => simp only [kindOf, Option.some.injEq] at h6; rw [← h6]; rfl
theorem LayOk.sizeOf (w : World) : (sizeOf t).run P w = .ok l.size w := by
  obtain ⟨i, d, z, h1, h2, h3, _⟩ := h.ex
  simp [Go.sizeOf, typeInfo, h1, h3]
theorem LayOk.cellsOf : P.cellsOf t = l.size := by
  obtain ⟨i, d, z, h1, h2, h3, _⟩ := h.ex
  simp [Program.cellsOf, h1, h3]
theorem LayOk.under {k : LK} (hk : l.kind = k) : (∀ e, k = .sl e → P.underlying t = some (.slice e)) ∧ (k = .str → P.underlying t = some .string) ∧ (k = .bool → P.underlying t = some .bool) ∧ (∀ i, k = .int i → P.underlying t = some (.int i)) ∧ (∀ n e, k = .arr n e → P.underlying t = some (.array n e)) ∧
    (∀ fs, k = .st fs → ∃ fields : Array Field, P.underlying t = some (.struct fields) ∧ fields.toList.mapM (fieldLay P) = some fs) := by
  obtain ⟨i, d, z, h1, h2, h3, h4, h5, h6, h7⟩ := h.ex
  rw [hk] at h7
  cases d with
  | struct fs =>
    simp only [kindOf] at h7
    cases hm : fs.toList.mapM (fieldLay P) with
    | none => simp [hm] at h7
    | some m =>
      simp [hm] at h7
      refine ⟨?_, ?_, ?_, ?_, ?_, ?_⟩
      all_goals first | (intro fs' e; rw [← h7] at e; cases e; exact ⟨_, h2, hm⟩) | (intros; rename_i e; rw [← h7] at e; cases e)
  | _ =>
    simp only [kindOf, Option.some.injEq] at h7
    subst h7
    refine ⟨?_, ?_, ?_, ?_, ?_, ?_⟩ <;> intros <;> rename_i e <;> first | (cases e; exact h2) | cases e
end

/-! ### Specs -/
def Ops (o : Oper) (ev : Operand → Option TV) (ι : Nat → Value) (S : Nat → Prop) (a : Act) (w : World) : Prop := ∀ x ∈ o.op.operands, ∀ tv, ev x = some tv → V ι S w tv (a.eval x)
def Rds (rd : List Nat) (mem : Nat → Option Blk) (ι : Nat → Value) (S : Nat → Prop) (w : World) : Prop := ∀ k ∈ rd, ∀ b, mem k = some b → BlkOk ι S w k b
section
variable {P : Program} {Γ : Glob} {o : Oper} {ev : Operand → Option TV} {mem : Nat → Option Blk} {nx : Nat}
theorem After.same {ι : Nat → Value} {S : Nat → Prop} {w : World} {v : TV} {rd : List Nat} {x : Value} (hs : ∀ b, S b → b < w.heap.size) (hv : V ι S w v x) : After ι S w nx ⟨v, rd, [], []⟩ x ι S w :=
  ⟨hv, fun _ _ => rfl, fun _ h => h, fun _ h => .inl h, hs, rfl, rfl, rfl, Nat.le_refl _, fun _ _ _ => rfl, (fun _ _ h => by simp at h), (fun _ _ h => by simp at h), (fun _ _ h => by simp at h), (fun _ _ _ _ _ h => by simp at h)⟩
theorem spec_gen {r : Res} (h : ∀ ι S a w, (∀ b, S b → b < w.heap.size) → Ops o ev ι S a w → Rds r.rd mem ι S w → ∃ x w' ι' S', ((execOp a.eval o).run P w = .ok (.value x) w' ∨ ((execOp a.eval o).run P w = .ok .skip w' ∧ x = undef)) ∧ After ι S w nx r x ι' S' w') : Spec P Γ o ev mem nx r := by
  intro Q next ι S a w h1 _ _ h2 h3 hK _
  obtain ⟨x, w', ι', S', hr, hA⟩ := h ι S a w h1 h2 h3
  unfold Oper.wp
  rcases hr with hr | ⟨hr, rfl⟩
  · rw [hr, Oper.upon_value]
    exact hK _ _ _ _ hA
  · rw [hr, Oper.upon_skip]
    exact hK _ _ _ _ hA
theorem spec_val {v : TV} {rd : List Nat} (h : ∀ ι S a w, Ops o ev ι S a w → Rds rd mem ι S w → ∃ x, (execOp a.eval o).run P w = .ok (.value x) w ∧ V ι S w v x) : Spec P Γ o ev mem nx ⟨v, rd, [], []⟩ :=
  spec_gen fun ι S a w h1 h2 h3 => by
    obtain ⟨x, hr, hv⟩ := h ι S a w h2 h3
    exact ⟨x, w, ι, S, .inl hr, After.same h1 hv⟩
end

/-! ### The abstract values of operands -/
abbrev Tint (k : IntKind) (n : Int) : TV := .o (.c (.d (.v (.int k n))))
abbrev Tbool (b : Bool) : TV := .o (.c (.d (.v (.bool b))))
abbrev Tstr (s : ByteArray) : TV := .o (.c (.d (.v (.string s))))
abbrev Tnil : TV := .o (.c (.d (.v (.slice none 0 0))))
abbrev Tsl (size : Nat) (rows : List (List D)) : TV := .o (.c (.d (.sl size rows)))
def TV.cells : TV → Option (List CV)
  | .o (.c x) => some [x]
  | .o (.g l) => some l
  | _ => none
def ofCells (agg : Bool) (l : List CV) : Option TV := if agg then some (.o (.g l)) else match l with
  | [x] => some (.o (.c x))
  | _ => none
section
variable {ι : Nat → Value} {S : Nat → Prop} {w : World}
theorem oneCell_cells {u : Value} (h : u.oneCell' = true) : u.cells.toList = [u] := by
  cases u <;> first | rfl | (simp [Value.oneCell'] at h)
theorem V_cells {tv : TV} {u : Value} {l : List CV} (h : V ι S w tv u) (hl : tv.cells = some l) : All2 (VC ι S w) l u.cells.toList := by
  cases tv with
  | no => cases hl
  | und => cases hl
  | tup l => cases hl
  | pan v => cases hl
  | o x =>
    cases x with
    | c x =>
      cases hl
      have h' : VC ι S w x u := h
      rw [oneCell_cells h'.one]
      exact .cons h' .nil
    | g l =>
      cases hl
      obtain ⟨us, rfl, h2⟩ := h
      exact h2
theorem V_ofCells {agg : Bool} {l : List CV} {tv : TV} {us : List Value} (h : ofCells agg l = some tv) (ha : All2 (VC ι S w) l us) :
    (agg = true ∧ V ι S w tv (.agg us.toArray)) ∨ (agg = false ∧ ∃ u, us = [u] ∧ V ι S w tv u) := by
  unfold ofCells at h
  split at h
  · rename_i hagg
    cases h
    exact .inl ⟨hagg, us, rfl, ha⟩
  · rename_i hagg
    split at h
    · cases h
      obtain ⟨u, rfl, hu⟩ := ha.one_left
      exact .inr ⟨by simpa using hagg, u, rfl, hu⟩
    · cases h
theorem V_int {k : IntKind} {n : Int} {u : Value} (h : V ι S w (Tint k n) u) : u = .int k n := by
  have h' : Imm S w _ u := h
  cases h'; rfl
theorem V_v {x u : Value} (h : V ι S w (.o (.c (.d (.v x)))) u) : u = x := by
  have h' : Imm S w _ u := h
  cases h'; rfl
theorem V_mk {x : Value} (h : x.oneCell' = true) : V ι S w (.o (.c (.d (.v x)))) x := Imm.v h
end

/-! ### Loading and storing -/
theorem run_load_range {P : Program} {t : TypeId} {l : Lay} (hl : LayOk P t l) {w : World} {g f : Nat} {us : List Value} (hus : us.length = l.size) (hc : ∀ j u, us[j]? = some u → w.cell? ⟨g, f + j, none⟩ = some u) :
    (l.kind.agg = true → (loadVar t ⟨g, f, none⟩).run P w = .ok (.agg us.toArray) w) ∧ (l.kind.agg = false → ∀ u, us = [u] → (loadVar t ⟨g, f, none⟩).run P w = .ok u w) := by
  constructor
  · intro ha
    have := run_loadCells_list (P := P) w ⟨g, f, none⟩ us (fun j v hj => by rw [Addr.add_lit]; exact hc j v hj)
    rw [hus] at this
    simp [loadVar, hl.agg, hl.sizeOf, ha, this]
  · intro ha u hu
    subst hu
    have := hc 0 u rfl
    rw [Nat.add_zero] at this
    simp [loadVar, hl.agg, ha, run_load, this]
theorem VC.cell_of_all {ι : Nat → Value} {S : Nat → Prop} {w : World} {cells : List CV} {us : List Value} (h : All2 (VC ι S w) cells us) (off n : Nat) : All2 (VC ι S w) ((cells.drop off).take n) ((us.drop off).take n) := (h.drop off).take n
def setAt {α : Type} (l : List α) (off : Nat) (new : List α) : List α := l.take off ++ new ++ l.drop (off + new.length)
theorem All2.setAt {α β : Type} {R : α → β → Prop} {l m l' m'} (h : All2 R l m) (h' : All2 R l' m') (off : Nat) : All2 R (setAt l off l') (setAt m off m') := by
  unfold Go.Proofs.YtkeehnhamkdogaaDoor.setAt
  rw [h'.len]
  exact ((h.take off).append h').append (h.drop _)

section
variable {P : Program} {Γ : Glob} {L : Nat → Option Lay} {o : Oper} {ev : Operand → Option TV} {mem : Nat → Option Blk} {nx : Nat} {K : Res → Prop}

def exLoad (L : Nat → Option Lay) (ev : Operand → Option TV) (mem : Nat → Option Blk) (t : TypeId) (p : Operand) (K : Res → Prop) : Prop :=
  match L t with
  | none => False
  | some l => match ev p with
    | some (.o (.c (.ptr k off))) => match mem k with
      | some (.obj cells _) => match Nat.ble (off + l.size) cells.length, ofCells l.kind.agg ((cells.drop off).take l.size) with
        | true, some v => K ⟨v, [k], [], []⟩
        | _, _ => False
      | _ => False
    | some (.o (.c (.eptr cs))) => match Nat.ble l.size cs.length, ofCells l.kind.agg ((cs.take l.size).map .d) with
      | true, some v => K ⟨v, [], [], []⟩
      | _, _ => False
    | some (.o (.c (.rptr k size i j))) => match mem k with
      | some (.row size' _ rows) => size' = size ∧ ∃ r, rows[i]? = some r ∧ (match Nat.ble (j + l.size) size, ofCells l.kind.agg (((r.drop j).take l.size).map .d) with
        | true, some v => K ⟨v, [k], [], []⟩
        | _, _ => False)
      | _ => False
    | _ => False

theorem drop_take_get {α : Type} {l : List α} {off n j : Nat} {a : α} (h : ((l.drop off).take n)[j]? = some a) : l[off + j]? = some a ∧ j < n := by
  rw [List.getElem?_take] at h
  split at h
  · rename_i hlt; rw [List.getElem?_drop] at h; exact ⟨h, hlt⟩
  · cases h
theorem exLoad_ok (hL : LOk P L) {t : TypeId} {p : Operand} (ho : o.op = .load t p) (h : exLoad L ev mem t p K) : ∃ r, Spec P Γ o ev mem nx r ∧ K r := by
  unfold exLoad at h
  split at h
  · exact h.elim
  rename_i l hl
  have hlay := layOf_ok (hL _ _ hl)
  have fin : ∀ {v : TV} {rd : List Nat} {cs : List CV}, ofCells l.kind.agg cs = some v → (∀ ι S a w, Ops o ev ι S a w → Rds rd mem ι S w → ∃ g f us, a.eval p = .pointer (some ⟨g, f, none⟩) ∧ us.length = l.size ∧ (∀ j u, us[j]? = some u → w.cell? ⟨g, f + j, none⟩ = some u) ∧ All2 (VC ι S w) cs us) →
      Spec P Γ o ev mem nx ⟨v, rd, [], []⟩ := fun hv hh => spec_val fun ι S a w h1 h2 => by
    obtain ⟨g, f, us, he, hlen, hc, hall⟩ := hh ι S a w h1 h2
    have hr := run_load_range (P := P) hlay (w := w) hlen hc
    rcases V_ofCells hv hall with ⟨ha, hV⟩ | ⟨ha, u, rfl, hV⟩
    · exact ⟨_, by simp [execOp, ho, he, Instr.loadAt, Instr.sureAddr, hr.1 ha], hV⟩
    · exact ⟨_, by simp [execOp, ho, he, Instr.loadAt, Instr.sureAddr, hr.2 ha u rfl], hV⟩
  have hmem : p ∈ o.op.operands := by simp [ho, Op.operands]
  split at h
  · rename_i k off hp
    split at h
    · rename_i cells tg hk
      split at h
      · rename_i v hle hv
        refine ⟨_, fin hv (fun ι S a w h1 h2 => ?_), h⟩
        obtain ⟨b, hb, hb2⟩ := h1 p hmem _ hp
        obtain ⟨b', arr, ty, h3, h4, h5, _⟩ := h2 k (by simp) _ hk
        obtain rfl : b = b' := by rw [hb] at h3; cases h3; rfl
        have hlen := h5.len
        have hle' := Nat.le_of_ble_eq_true hle
        refine ⟨b, off, (arr.toList.drop off).take l.size, hb2, by simp at hlen ⊢; omega, fun j u hj => ?_, (h5.drop off).take _⟩
        obtain ⟨hj1, hj2⟩ := drop_take_get hj
        rw [cell_of_row w b (off + j) arr ty.1 (0, 0) h4]
        simpa using hj1
      · exact h.elim
    · exact h.elim
  · rename_i cs hp
    split at h
    · rename_i v hle hv
      refine ⟨_, fin hv (fun ι S a w h1 h2 => ?_), h⟩
      obtain ⟨g, f, us, hb, hs, hc⟩ := h1 p hmem _ hp
      have hle' := Nat.le_of_ble_eq_true hle
      refine ⟨g, f, (List.range l.size).map us, hb, by simp, fun j u hj => ?_, ?_⟩
      · obtain ⟨hj1, hj2⟩ := List.getElem?_eq_some_iff.1 hj
        simp at hj1 hj2
        subst hj2
        exact (hc j cs[j] (by simp)).1
      · refine All2.map_left ⟨by simp; omega, fun j d u hd hu => ?_⟩
        rw [List.getElem?_take] at hd
        split at hd
        · obtain ⟨hu1, hu2⟩ := List.getElem?_eq_some_iff.1 hu
          simp at hu1 hu2
          subst hu2
          exact (hc j d hd).2
        · cases hd
    · exact h.elim
  · rename_i k size i j hp
    split at h
    · rename_i size' e rows hk
      obtain ⟨rfl, r, hr, h⟩ := h
      split at h
      · rename_i v hle hv
        refine ⟨_, fin hv (fun ι S a w h1 h2 => ?_), h⟩
        obtain ⟨b, n, cap, hb, hb2⟩ := h1 p hmem _ hp
        obtain ⟨cs, h3, h4, h5, h6⟩ := h2 k (by simp) _ hk
        have hle' := Nat.le_of_ble_eq_true hle
        have hrl := h5 r (List.mem_of_getElem? hr)
        have hcell := h3.cells (g := b) (by rw [hb]; rfl)
        have hget : ∀ m d, r[m]? = some d → ∃ u, cs[i * size' + m]? = some u ∧ Imm S w d u := fun m d hm => h4.at_left (flatten_get h5 hr hm)
        refine ⟨b, i * size' + j, (cs.drop (i * size' + j)).take l.size, hb2, ?_, fun m u hm => ?_, ?_⟩
        · have : i * size' + size' ≤ cs.length := by
            rw [← h4.len, flatten_len h5, ← Nat.succ_mul]
            exact Nat.mul_le_mul_right _ (List.getElem?_eq_some_iff.1 hr).1
          simp
          omega
        · obtain ⟨hm1, hm2⟩ := drop_take_get hm
          have := hcell _ _ hm1
          rw [Addr.add_lit, Nat.zero_add] at this
          exact this
        · refine All2.map_left ⟨?_, fun m d u hd hu => ?_⟩
          · have : i * size' + size' ≤ cs.length := by
              rw [← h4.len, flatten_len h5, ← Nat.succ_mul]
              exact Nat.mul_le_mul_right _ (List.getElem?_eq_some_iff.1 hr).1
            simp [hrl]
            omega
          · obtain ⟨hd1, _⟩ := drop_take_get hd
            obtain ⟨hu1, _⟩ := drop_take_get hu
            obtain ⟨u', hu', hI⟩ := hget _ _ hd1
            rw [← Nat.add_assoc, hu1] at hu'
            cases hu'
            exact hI
      · exact h.elim
    · exact h.elim
  · exact h.elim
end
end Go.Proofs.YtkeehnhamkdogaaDoor
