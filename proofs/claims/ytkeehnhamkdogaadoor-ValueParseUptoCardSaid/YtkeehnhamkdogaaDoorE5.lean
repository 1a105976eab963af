/- What single operations do to the abstract state: stores, new variables, structs, slices made, appends. No condition. -/
import Derived.Test.YtkeehnhamkdogaaDoorE4
import Derived.Laws.MakeOwn
namespace Go.Proofs.YtkeehnhamkdogaaDoor
set_option linter.unusedVariables false
set_option linter.unusedSimpArgs false
open Go.RowKit

section
variable {P : Program} {Γ : Glob} {L : Nat → Option Lay} {o : Oper} {ev : Operand → Option TV} {mem : Nat → Option Blk} {nx : Nat} {K : Res → Prop}

/-- Data among cells. -/
def asD : List CV → Option (List D)
  | [] => some []
  | .d x :: l => (asD l).map (x :: ·)
  | _ :: _ => none
theorem asD_ok {ι : Nat → Value} {S : Nat → Prop} {w : World} : ∀ {l : List CV} {ds : List D} {us : List Value}, asD l = some ds → All2 (VC ι S w) l us → All2 (Imm S w) ds us
  | [], ds, us, h, ha => by
    simp only [asD, Option.some.injEq] at h
    subst h
    obtain rfl := ha.nil_left
    exact .nil
  | .d x :: l, ds, us, h, ha => by
    simp only [asD] at h
    cases hl : asD l with
    | none => simp [hl] at h
    | some ds' =>
      simp only [hl, Option.map_some, Option.some.injEq] at h
      subst h
      obtain ⟨u, us', rfl, h1, h2⟩ := ha.cons_left
      exact .cons h1 (asD_ok hl h2)
  | .ptr _ _ :: _, _, _, h, _ => by simp [asD] at h
  | .eptr _ :: _, _, _, h, _ => by simp [asD] at h
  | .rptr _ _ _ _ :: _, _, _, h, _ => by simp [asD] at h
  | .row _ :: _, _, _, h, _ => by simp [asD] at h
/-- Cells turned into data: a row that is laid among data is given up. -/
def eat (mem : Nat → Option Blk) : List CV → Option (List D × List Nat)
  | [] => some ([], [])
  | .d x :: l => (eat mem l).map fun p => (x :: p.1, p.2)
  | .row k :: l => match mem k, eat mem l with
    | some (.row size _ rows), some p => some (.sl size rows :: p.1, k :: p.2)
    | _, _ => none
  | _ :: _ => none
theorem row_imm {ι : Nat → Value} {S S' : Nat → Prop} {w : World} {k size : Nat} {e : TypeId} {rows : List (List D)} (h : BlkOk ι S w k (.row size e rows)) (hS : ∀ b, S b → S' b) (hk : ∀ g, blkOf (ι k) = some g → S' g) : Imm S' w (.sl size rows) (ι k) := by
  obtain ⟨cs, h1, h2, h3, _⟩ := h
  have hlen : cs.length = rows.length * size := by rw [← h2.len, flatten_len h3]
  rcases h1.2 with ⟨h4, h5⟩ | ⟨g, cap, cur, h4, _, h5, h6, _⟩
  · rw [h4]
    have : rows = [] := List.eq_nil_of_length_eq_zero h5
    rw [this]
    exact .nil
  · rw [h4]
    have hc := h1.cells (g := g) (by rw [h4]; rfl)
    refine Imm.sl (fun j => cs.getD j undef) (hk g (by rw [h4]; rfl)) h6 h3 (fun j d hj => ?_) (fun j d hj => ?_)
    · obtain ⟨u, hu, _⟩ := h2.at_left hj
      have := hc j u hu
      rw [Addr.add_lit, Nat.zero_add] at this
      simp [this, List.getD, hu]
    · obtain ⟨u, hu, hI⟩ := h2.at_left hj
      simp only [List.getD, hu, Option.getD_some]
      exact hI.mono (fun _ _ => rfl) hS
theorem row_lt {ι : Nat → Value} {S : Nat → Prop} {w : World} {k size : Nat} {e : TypeId} {rows : List (List D)} (h : BlkOk ι S w k (.row size e rows)) : ∀ g, blkOf (ι k) = some g → g < w.heap.size ∧ ¬ S g := fun g hg => by
  obtain ⟨cs, h1, _, _, h4⟩ := h
  refine ⟨?_, h4 g hg⟩
  rcases h1.2 with ⟨h5, _⟩ | ⟨g', cap, cur, h5, _, h6, _⟩
  · rw [h5] at hg; cases hg
  · rw [h5] at hg; cases hg
    exact (Array.getElem?_eq_some_iff.1 h6).1
/-- What lies still when the rows ks are given up. -/
def giveUp (ι : Nat → Value) (S : Nat → Prop) (ks : List Nat) : Nat → Prop := fun b => S b ∨ ∃ k ∈ ks, blkOf (ι k) = some b
theorem eat_ok {ι : Nat → Value} {S S' : Nat → Prop} {w : World} (hS : ∀ b, S b → S' b) : ∀ {l : List CV} {ds : List D} {ks : List Nat} {us : List Value}, eat mem l = some (ds, ks) → All2 (VC ι S w) l us → (∀ k ∈ ks, ∀ b, mem k = some b → BlkOk ι S w k b) → (∀ k ∈ ks, ∀ g, blkOf (ι k) = some g → S' g) → All2 (Imm S' w) ds us
  | [], ds, ks, us, h, ha, _, _ => by
    simp only [eat, Option.some.injEq, Prod.mk.injEq] at h
    obtain ⟨rfl, rfl⟩ := h
    obtain rfl := ha.nil_left
    exact .nil
  | .d x :: l, ds, ks, us, h, ha, hb, hs => by
    simp only [eat] at h
    cases hl : eat mem l with
    | none => simp [hl] at h
    | some p =>
      simp only [hl, Option.map_some, Option.some.injEq, Prod.mk.injEq] at h
      obtain ⟨rfl, rfl⟩ := h
      obtain ⟨u, us', rfl, h1, h2⟩ := ha.cons_left
      exact .cons (Imm.mono (fun _ _ => rfl) hS h1) (eat_ok hS hl h2 hb hs)
  | .row k :: l, ds, ks, us, h, ha, hb, hs => by
    simp only [eat] at h
    split at h
    · rename_i size e rows p hk hl
      simp only [Option.some.injEq, Prod.mk.injEq] at h
      obtain ⟨rfl, rfl⟩ := h
      obtain ⟨u, us', rfl, h1, h2⟩ := ha.cons_left
      obtain ⟨rfl, _⟩ := h1
      exact .cons (row_imm (hb k (by simp) _ hk) hS (hs k (by simp))) (eat_ok hS hl h2 (fun k' hk' => hb k' (by simp [hk'])) (fun k' hk' => hs k' (by simp [hk'])))
    · cases h
  | .ptr _ _ :: _, _, _, _, h, _, _, _ => by simp [eat] at h
  | .eptr _ :: _, _, _, _, h, _, _, _ => by simp [eat] at h
  | .rptr _ _ _ _ :: _, _, _, _, h, _, _, _ => by simp [eat] at h
theorem eat_rows {l : List CV} : ∀ {ds : List D} {ks : List Nat}, eat mem l = some (ds, ks) → ∀ k ∈ ks, ∃ size e rows, mem k = some (.row size e rows) := by
  induction l with
  | nil => intro ds ks h k hk; simp only [eat, Option.some.injEq, Prod.mk.injEq] at h; obtain ⟨rfl, rfl⟩ := h; simp at hk
  | cons x l ih =>
    intro ds ks h k hk
    cases x with
    | d x =>
      simp only [eat] at h
      cases hl : eat mem l with
      | none => simp [hl] at h
      | some p =>
        simp only [hl, Option.map_some, Option.some.injEq, Prod.mk.injEq] at h
        obtain ⟨rfl, rfl⟩ := h
        exact ih hl k hk
    | row k' =>
      simp only [eat] at h
      split at h
      · rename_i size e rows p hk' hl
        simp only [Option.some.injEq, Prod.mk.injEq] at h
        obtain ⟨rfl, rfl⟩ := h
        rcases List.mem_cons.1 hk with rfl | hk
        · exact ⟨_, _, _, hk'⟩
        · exact ih hl k hk
      · cases h
    | _ => simp [eat] at h
abbrev dead (ks : List Nat) : List (Nat × Blk) := ks.map fun k => (k, Blk.dead)

theorem one_at {α : Type} {i : Nat} {a b : α} (h : [a][i]? = some b) : i = 0 ∧ b = a := by
  cases i with
  | zero => simp at h; exact ⟨rfl, h.symm⟩
  | succ i => simp at h
/-- A new block: what is known behind it; the rows ks are given up. -/
theorem After.made {ι : Nat → Value} {S : Nat → Prop} {w : World} {v : TV} {rd ks : List Nat} {b : Blk} {O : Obj} {X x : Value} (hs : ∀ b, S b → b < w.heap.size) (hks : ∀ k ∈ ks, ∃ size e rows, BlkOk ι S w k (.row size e rows))
    (hX : blkOf X = some w.heap.size) (hok : BlkOk (fun k => if k = nx then X else ι k) (giveUp ι S ks) (w.alloc O) nx b) (hv : V (fun k => if k = nx then X else ι k) (giveUp ι S ks) (w.alloc O) v x) :
    After ι S w nx ⟨v, rd, dead ks, [b]⟩ x (fun k => if k = nx then X else ι k) (giveUp ι S ks) (w.alloc O) := by
  have hlt : ∀ b, giveUp ι S ks b → b < w.heap.size := fun b hb => by
    rcases hb with hb | ⟨k, hk, hb⟩
    · exact hs b hb
    · obtain ⟨size, e, rows, h⟩ := hks k hk
      exact (row_lt h b hb).1
  refine ⟨hv, fun k hk => if_neg (by simp at hk; omega), fun b hb => .inl hb, fun b hb => ?_, (fun b hb => by have := hlt b hb; simp; omega), rfl, rfl, rfl, by simp, fun b hb _ => heap_alloc_old w O hb, fun k b hk => ?_, fun i b' hb' => ?_, fun i b' hb' hl g hg => ?_, fun i j b b' g hi hj _ _ _ _ => ?_⟩
  · rcases hb with hb | ⟨k, hk, hb⟩
    · exact .inl hb
    · exact .inr (.inr ⟨k, List.mem_map.2 ⟨k, hk, rfl⟩, hb⟩)
  · obtain ⟨k', _, he⟩ := List.mem_map.1 hk
    cases he
    trivial
  · obtain ⟨rfl, rfl⟩ := one_at hb'
    exact hok
  · obtain ⟨rfl, rfl⟩ := one_at hb'
    simp only [Nat.add_zero, if_true] at hg
    rw [hX] at hg
    cases hg
    exact ⟨fun h => by have := hs _ h; omega, .inl (Nat.le_refl _)⟩
  · obtain ⟨rfl, _⟩ := one_at hi
    obtain ⟨rfl, _⟩ := one_at hj
    rfl

/-! ### New variables -/
/-- Objects whose first cell is a pointer keep their type in mind: a strings.Builder. -/
def tagOf (l : Lay) (t : TypeId) : TypeId := match l.zero with
  | .pointer none :: _ => t
  | _ => 0
theorem tagOf_ok (l : Lay) (t : TypeId) : tagOf l t = 0 ∨ t = tagOf l t := by
  unfold tagOf
  split
  · exact .inr rfl
  · exact .inl rfl
def exAlloc (L : Nat → Option Lay) (nx : Nat) (t : TypeId) (K : Res → Prop) : Prop :=
  match L t with
  | some l => match l.zero.all Value.oneCell' with
    | true => K ⟨.o (.c (.ptr nx 0)), [], [], [.obj (l.zero.map fun x => .d (.v x)) (tagOf l t)]⟩
    | false => False
  | none => False
theorem giveUp_nil {ι : Nat → Value} {S : Nat → Prop} : giveUp ι S [] = S := by
  funext b
  simp [giveUp]
theorem VC_alloc {ι : Nat → Value} {S : Nat → Prop} {w : World} {O : Obj} {X : Value} (hs : ∀ b, S b → b < w.heap.size) {x : CV} {u : Value} (hm : x.men nx = false) (h : VC ι S w x u) : VC (fun k => if k = nx then X else ι k) S (w.alloc O) x u :=
  VC.mono (fun b hb => heap_alloc_old w O (hs b hb)) (fun _ h => h) (fun k hk => if_neg (fun e => by subst e; rw [hm] at hk; cases hk)) h
theorem exAlloc_ok (hL : LOk P L) {t : TypeId} (ho : o.op = .alloc t) (h : exAlloc L nx t K) : ∃ r, Spec P Γ o ev mem nx r ∧ K r := by
  unfold exAlloc at h
  split at h
  · rename_i l hl
    split at h
    · rename_i hone
      obtain ⟨i, d, z, h1, h2, h3, h4, h5, h6, h7⟩ := (layOf_ok (hL _ _ hl)).ex
      refine ⟨_, spec_gen fun ι S A w hs q1 q2 => ⟨.pointer (some ⟨w.heap.size, 0, none⟩), w.alloc (.cells z.cells t), fun k => if k = nx then .pointer (some ⟨w.heap.size, 0, none⟩) else ι k, S, .inl ?_, ?_⟩, h⟩
      · simp [execOp, ho, Instr.alloc, zeroValue, typeInfo, h1, h5, newVar, newRow]
      · have := After.made (nx := nx) (ι := ι) (S := S) (w := w) (v := .o (.c (.ptr nx 0))) (rd := []) (ks := []) (b := .obj (l.zero.map fun x => .d (.v x)) (tagOf l t)) (O := .cells z.cells t) (X := .pointer (some ⟨w.heap.size, 0, none⟩)) (x := .pointer (some ⟨w.heap.size, 0, none⟩)) hs (by simp) rfl
        rw [giveUp_nil] at this
        refine this ⟨w.heap.size, z.cells, ⟨t, tagOf_ok l t⟩, by simp, heap_alloc_new w _, ?_, fun hS => by have := hs _ hS; omega⟩ ⟨w.heap.size, by simp, rfl⟩
        rw [h6]
        exact All2.map_left ⟨rfl, fun i a b ha hb => by rw [ha] at hb; cases hb; exact Imm.v (List.all_eq_true.1 hone a (List.mem_of_getElem? ha))⟩
    · exact h.elim
  · exact h.elim
def exBox (ev : Operand → Option TV) (nx : Nat) (x : Operand) (K : Res → Prop) : Prop :=
  match (ev x).bind TV.cells with
  | some l => match l.any (CV.men nx) with
    | false => K ⟨.o (.c (.ptr nx 0)), [], [], [.obj l]⟩
    | true => False
  | none => False
theorem exBox_ok {t : TypeId} {x : Operand} (ho : o.op = .box t x) (h : exBox ev nx x K) : ∃ r, Spec P Γ o ev mem nx r ∧ K r := by
  unfold exBox at h
  split at h
  · rename_i l hl
    split at h
    · rename_i hm
      obtain ⟨tv, hx, hc⟩ := Option.bind_eq_some_iff.1 hl
      refine ⟨_, spec_gen fun ι S A w hs q1 q2 => ⟨.pointer (some ⟨w.heap.size, 0, none⟩), w.alloc (.cells (A.eval x).cells t), fun k => if k = nx then .pointer (some ⟨w.heap.size, 0, none⟩) else ι k, S, .inl ?_, ?_⟩, h⟩
      · simp [execOp, ho, Instr.box, newVar, newRow]
      · have := After.made (nx := nx) (ι := ι) (S := S) (w := w) (v := .o (.c (.ptr nx 0))) (rd := []) (ks := []) (b := .obj l) (O := .cells (A.eval x).cells t) (X := .pointer (some ⟨w.heap.size, 0, none⟩)) (x := .pointer (some ⟨w.heap.size, 0, none⟩)) hs (by simp) rfl
        rw [giveUp_nil] at this
        refine this ⟨w.heap.size, _, ⟨t, .inl rfl⟩, by simp, heap_alloc_new w _, ?_, fun hS => by have := hs _ hS; omega⟩ ⟨w.heap.size, by simp, rfl⟩
        exact (V_cells (q1 x (by simp [ho, Op.operands]) _ hx) hc).mono_mem fun a u ha hau => VC_alloc hs (by simpa using List.any_eq_false.1 hm a ha) hau
    · exact h.elim
  · exact h.elim

/-! ### Structs and slices from their parts -/
def fillC (place : Nat → Option (Nat × Nat)) (cells : List CV) : List (Nat × Option TV) → Option (List CV)
  | [] => some cells
  | (i, v) :: rest => match place i, v.bind TV.cells with
    | some (off, size), some l => match Nat.beq l.length size, Nat.ble (off + l.length) cells.length with
      | true, true => fillC place (setAt cells off l) rest
      | _, _ => none
    | _, _ => none
theorem foldl_set (off : Nat) : ∀ (us : List Value) (k : Nat) (arr : Array Value), off + k + us.length ≤ arr.size →
    ((us.zipIdx k).foldl (fun cs (x : Value × Nat) => cs.setIfInBounds (off + x.2) x.1) arr).toList = setAt arr.toList (off + k) us
  | [], k, arr, _ => by simp [setAt]
  | u :: us, k, arr, h => by
    simp only [List.zipIdx_cons, List.foldl_cons]
    rw [foldl_set off us (k + 1) _ (by simp at h ⊢; omega)]
    simp only [setAt, Array.toList_setIfInBounds]
    simp only [List.length_cons] at h
    have hlt : off + k < arr.toList.length := by simp; omega
    rw [show off + (k + 1) = off + k + 1 by omega, List.take_set, List.take_succ_eq_append_getElem hlt, List.drop_set_of_lt (by omega)]
    rw [List.set_append_right _ _ (by simp; omega)]
    simp only [List.length_take, List.append_assoc, List.length_cons]
    rw [show off + k - min (off + k) arr.toList.length = 0 by simp at hlt ⊢; omega, List.set_cons_zero]
    simp only [List.singleton_append, List.cons_append, List.nil_append]
    congr 3
    congr 1
    omega
theorem fill_ok {ι : Nat → Value} {S : Nat → Prop} {w : World} {place : Nat → Option (Nat × Nat)} : ∀ {ps : List (Nat × Option TV)} {qs : List (Nat × Value)} {cells cs : List CV} {arr : Array Value}, fillC place cells ps = some cs → All2 (VC ι S w) cells arr.toList →
    All2 (fun p q => p.1 = q.1 ∧ ∀ tv, p.2 = some tv → V ι S w tv q.2) ps qs → ∃ arr', Instr.fill place arr qs = some arr' ∧ All2 (VC ι S w) cs arr'.toList
  | [], qs, cells, cs, arr, h, ha, hp => by
    simp only [fillC, Option.some.injEq] at h
    subst h
    obtain rfl := hp.nil_left
    exact ⟨arr, rfl, ha⟩
  | (i, v) :: ps, qs, cells, cs, arr, h, ha, hp => by
    obtain ⟨⟨i', u⟩, qs, rfl, ⟨rfl, hv⟩, hp'⟩ := hp.cons_left
    simp only [fillC] at h
    split at h
    · rename_i off size l hpl hl
      split at h
      · rename_i hb1 hb2
        obtain ⟨tv, rfl, hc⟩ := Option.bind_eq_some_iff.1 hl
        have hall := V_cells (hv tv rfl) hc
        have e1 := Nat.eq_of_beq_eq_true hb1
        have e2 := Nat.le_of_ble_eq_true hb2
        have hul : u.cells.size = l.length := by rw [hall.len]; simp
        have hcl : cells.length = arr.size := by simpa using ha.len
        have hset : (u.cells.zipIdx.foldl (fun cs (x : Value × Nat) => cs.setIfInBounds (off + x.2) x.1) arr).toList = setAt arr.toList off u.cells.toList := by
          rw [← Array.foldl_toList, Array.toList_zipIdx]
          have := foldl_set off u.cells.toList 0 arr (by simp; omega)
          simpa using this
        obtain ⟨arr', h1, h2⟩ := fill_ok h (arr := u.cells.zipIdx.foldl (fun cs (x : Value × Nat) => cs.setIfInBounds (off + x.2) x.1) arr) (by rw [hset]; exact ha.setAt hall off) hp'
        refine ⟨arr', ?_, h2⟩
        simp only [Instr.fill, hpl]
        rw [if_neg (by rw [hul, e1, ← hcl]; simp; omega)]
        exact h1
      · cases h
    · cases h
def evParts (ev : Operand → Option TV) (ps : Array (Nat × Operand)) : List (Nat × Option TV) := ps.toList.map fun p => (p.1, ev p.2)
theorem parts_ok {ι : Nat → Value} {S : Nat → Prop} {w : World} {A : Act} {ps : Array (Nat × Operand)} (h : ∀ x ∈ ps.toList.map (·.2), ∀ tv, ev x = some tv → V ι S w tv (A.eval x)) :
    All2 (fun (p : Nat × Option TV) (q : Nat × Value) => p.1 = q.1 ∧ ∀ tv, p.2 = some tv → V ι S w tv q.2) (evParts ev ps) (ps.map fun (i, x) => (i, A.eval x)).toList := by
  rw [Array.toList_map]
  refine All2.map_left ⟨by simp, fun i a b ha hb => ?_⟩
  rw [List.getElem?_map, ha] at hb
  cases hb
  exact ⟨rfl, fun tv htv => h _ (List.mem_map.2 ⟨a, List.mem_of_getElem? ha, rfl⟩) tv htv⟩
def exBuild (L : Nat → Option Lay) (ev : Operand → Option TV) (t : TypeId) (ps : Array (Nat × Operand)) (K : Res → Prop) : Prop :=
  match L t with
  | some ⟨_, _, zero, .st fs⟩ => match zero.all Value.oneCell', fillC (fun i => (fs[i]?).map fun x => (x.1, x.2.1)) (zero.map fun x => .d (.v x)) (evParts ev ps) with
    | true, some cs => K (pureR (.o (.g cs)))
    | _, _ => False
  | some ⟨_, _, zero, .arr _ e⟩ => match L e with
    | some le => match zero.all Value.oneCell', fillC (fun i => some (i * le.size, le.size)) (zero.map fun x => .d (.v x)) (evParts ev ps) with
      | true, some cs => K (pureR (.o (.g cs)))
      | _, _ => False
    | none => False
  | _ => False
theorem zero_all {ι : Nat → Value} {S : Nat → Prop} {w : World} {zero : List Value} (h : zero.all Value.oneCell' = true) : All2 (VC ι S w) (zero.map fun x => CV.d (.v x)) zero :=
  All2.map_left ⟨rfl, fun i a b ha hb => by rw [ha] at hb; cases hb; exact Imm.v (List.all_eq_true.1 h a (List.mem_of_getElem? ha))⟩
theorem places_ok {fields : List Field} {fs : List (Nat × Nat × Bool)} (h : fields.mapM (fieldLay P) = some fs) : fields.mapM (fun f => (P.info? f.type).map fun i => (f.offset, i.size)) = some (fs.map fun x => (x.1, x.2.1)) := by
  induction fields generalizing fs with
  | nil => simp at h; subst h; rfl
  | cons f l ih =>
    simp only [List.mapM_cons, Option.bind_eq_bind, Option.pure_def] at h ⊢
    cases hf : fieldLay P f with
    | none => simp [hf] at h
    | some b =>
      cases hr : l.mapM (fieldLay P) with
      | none => simp [hf, hr] at h
      | some r =>
        simp [hf, hr] at h
        subst h
        obtain ⟨e1, ⟨i, e2, e3⟩, _⟩ := fieldLay_spec hf
        rw [ih hr]
        simp [e2, e1, e3]
theorem exBuild_ok (hL : LOk P L) {t : TypeId} {ps : Array (Nat × Operand)} (ho : o.op = .build t ps) (h : exBuild L ev t ps K) : ∃ r, Spec P Γ o ev mem nx r ∧ K r := by
  have hops : ∀ {ι S A w}, Ops o ev ι S A w → ∀ x ∈ ps.toList.map (·.2), ∀ tv, ev x = some tv → V ι S w tv (A.eval x) := fun q1 x hx => q1 x (by simpa [ho, Op.operands] using hx)
  unfold exBuild at h
  split at h
  · rename_i sz by_ zero fs hl
    split at h
    · rename_i cs hone hf
      have hlay := layOf_ok (hL _ _ hl)
      obtain ⟨fields, hu, hm⟩ := (hlay.under rfl).2.2.2.2.2 fs rfl
      obtain ⟨i, d, z, h1, h2, h3, h4, h5, h6, h7⟩ := hlay.ex
      refine ⟨_, spec_val fun ι S A w q1 q2 => ?_, h⟩
      obtain ⟨arr', e1, e2⟩ := fill_ok (arr := z.cells) (ι := ι) (S := S) (w := w) hf (by rw [h6]; exact zero_all hone) (parts_ok (A := A) (hops q1))
      refine ⟨.agg arr', ?_, arr'.toList, rfl, e2⟩
      have hb : P.built t (ps.map fun (i, x) => (i, A.eval x)).toList = some arr' := by
        unfold Program.built
        simp only [h1, hu, h5, places_ok hm]
        rw [← e1]
        congr 1
        funext i
        simp
      simp only [execOp, ho]
      rw [Sem.run_bind, run_build w t _ _ hb]
      rfl
    · exact h.elim
  · rename_i sz by_ zero n e hl
    split at h
    · rename_i le hle
      split at h
      · rename_i cs hone hf
        have hlay := layOf_ok (hL _ _ hl)
        have hu := (hlay.under rfl).2.2.2.2.1 n e rfl
        obtain ⟨i, d, z, h1, h2, h3, h4, h5, h6, h7⟩ := hlay.ex
        obtain ⟨i', d', z', h1', h2', h3', _⟩ := (layOf_ok (hL _ _ hle)).ex
        refine ⟨_, spec_val fun ι S A w q1 q2 => ?_, h⟩
        obtain ⟨arr', e1, e2⟩ := fill_ok (arr := z.cells) (ι := ι) (S := S) (w := w) hf (by rw [h6]; exact zero_all hone) (parts_ok (A := A) (hops q1))
        refine ⟨.agg arr', ?_, arr'.toList, rfl, e2⟩
        have hb : P.built t (ps.map fun (i, x) => (i, A.eval x)).toList = some arr' := by
          unfold Program.built
          simp only [h1, hu, h5, h1']
          rw [h3', ← e1]
        simp only [execOp, ho]
        rw [Sem.run_bind, run_build w t _ _ hb]
        rfl
      · exact h.elim
    · exact h.elim
  · exact h.elim
end
end Go.Proofs.YtkeehnhamkdogaaDoor
