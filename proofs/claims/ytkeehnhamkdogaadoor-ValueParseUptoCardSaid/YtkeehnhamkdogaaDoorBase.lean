/- General lemmas that this repo's proofs share: the class of worlds that extend a world, a region that draws its order walked once in that class, small closers. No condition. -/
import Derived.Test.YtkeehnhamkdogaaDoorRows
import Derived.WalkKit
import Derived.WalkSpells
import Derived.WalkLawsBesides
import Derived.BigQuiet
import Derived.Lib.Hide
import Derived.Handy
import Derived.StillTail
import Derived.Lib.ConvBytes
namespace Go.Proofs.YtkeehnhamkdogaaDoor
set_option linter.unusedVariables false
set_option linter.unusedSimpArgs false
open Go.RowKit

theorem ret_bool {a b : Bool} (h : a = b) : Ending.returned (.bool a) = .returned (.bool b) := by rw [h]
theorem ret_int {k : IntKind} {a b : Int} (h : a = b) : Ending.returned (.int k a) = .returned (.int k b) := by rw [h]

/-- A world that extends W: of what was there nothing has turned. -/
structure Ext (W : World) where
  w : World
  b : Below W.heap.size W w

instance {W : World} : Nonempty (Ext W) := ⟨⟨W, Below.refl _ _⟩⟩
instance {W : World} : Inhabited (Ext W) := ⟨⟨W, Below.refl _ _⟩⟩

/-! ### What the walk asks of blocks' numbers, found by instances: however long the chain of worlds is -/
class ExtC (W : outParam World) (w : World) : Prop where
  b : Below W.heap.size W w
class LtC (n m : Nat) : Prop where
  h : n < m
class LeC (n m : Nat) : Prop where
  h : n ≤ m
instance (priority := 2000) (n : Nat) : LeC n n := ⟨Nat.le_refl _⟩
instance (priority := 1900) (n m : Nat) [LeC n m] : LeC n (m + 1) := ⟨Nat.le_succ_of_le LeC.h⟩
instance (priority := 1800) (n m : Nat) [LeC n m] : LeC (n + 1) (m + 1) := ⟨Nat.succ_le_succ LeC.h⟩
instance (n : Nat) (w : World) (o : Obj) [LeC n (w.heap.size + 1)] : LeC n (w.alloc o).heap.size := ⟨by rw [World.size_alloc]; exact LeC.h⟩
instance (n : Nat) (w : World) (a : Addr) (v : Value) [LeC n w.heap.size] : LeC n (w.setCell a v).heap.size := ⟨by simp only [World.setCell, Array.size_modify]; exact LeC.h⟩
instance (n : Nat) (w : World) [LeC n w.heap.size] : LeC n w.drew.heap.size := ⟨(LeC.h : n ≤ w.heap.size)⟩
instance (n : Nat) (W w : World) [h : ExtC W w] [LeC n W.heap.size] : LeC n w.heap.size := ⟨Nat.le_trans LeC.h h.b.size⟩
instance (priority := 2000) (n : Nat) : LtC n (n + 1) := ⟨Nat.lt_succ_self _⟩
instance (priority := 1900) (n m : Nat) [LtC n m] : LtC n (m + 1) := ⟨Nat.lt_succ_of_lt LtC.h⟩
instance (priority := 1800) (n m : Nat) [LtC n m] : LtC (n + 1) (m + 1) := ⟨Nat.succ_lt_succ LtC.h⟩
instance (n : Nat) (w : World) (o : Obj) [LtC n (w.heap.size + 1)] : LtC n (w.alloc o).heap.size := ⟨by rw [World.size_alloc]; exact LtC.h⟩
instance (n : Nat) (w : World) (a : Addr) (v : Value) [LtC n w.heap.size] : LtC n (w.setCell a v).heap.size := ⟨by simp only [World.setCell, Array.size_modify]; exact LtC.h⟩
instance (n : Nat) (w : World) [LtC n w.heap.size] : LtC n w.drew.heap.size := ⟨(LtC.h : n < w.heap.size)⟩
instance (n : Nat) (W w : World) [h : ExtC W w] [LtC n W.heap.size] : LtC n w.heap.size := ⟨Nat.lt_of_lt_of_le LtC.h h.b.size⟩
instance {W : World} (x : Ext W) : ExtC W x.w := ⟨x.b⟩

/-- Block b reads in w as in W. -/
class AtC (w : World) (b : Nat) (W : outParam World) : Prop where
  h : w.heap[b]? = W.heap[b]?
instance {W w : World} (b : Nat) [h : ExtC W w] [LtC b W.heap.size] : AtC w b W := ⟨h.b.block b LtC.h⟩
/-- (Named so that simp doesn't take 'cellI' for a mere renaming.) -/
def cellOf (W : World) (b o : Nat) : Option Value := W.cell? ⟨b, o, none⟩
def frozenOf (W : World) (b o : Nat) : Bool := W.frozen? ⟨b, o, none⟩
theorem cellOf_is (W : World) (b o : Nat) : cellOf W b o = W.cell? ⟨b, o, none⟩ := rfl
theorem frozenOf_is (W : World) (b o : Nat) : frozenOf W b o = W.frozen? ⟨b, o, none⟩ := rfl
theorem cellI {W w : World} (b o : Nat) [h : AtC w b W] : w.cell? ⟨b, o, none⟩ = cellOf W b o := World.cell?_of_block (w := W) (a := ⟨b, o, none⟩) h.h
theorem frozenI {W w : World} (b o : Nat) [h : AtC w b W] : w.frozen? ⟨b, o, none⟩ = frozenOf W b o := World.frozen?_of_block (w := W) (a := ⟨b, o, none⟩) h.h
theorem cellA {w : World} (O : Obj) (b o : Nat) [LtC b w.heap.size] : (w.alloc O).cell? ⟨b, o, none⟩ = w.cell? ⟨b, o, none⟩ := World.cell?_alloc_past O b o LtC.h
theorem frozenA {w : World} (O : Obj) (b o : Nat) [LtC b w.heap.size] : (w.alloc O).frozen? ⟨b, o, none⟩ = w.frozen? ⟨b, o, none⟩ := World.frozen?_alloc_past O b o LtC.h
theorem setCellA {w : World} (O : Obj) (b o : Nat) (v : Value) [LtC b w.heap.size] : (w.alloc O).setCell ⟨b, o, none⟩ v = (w.setCell ⟨b, o, none⟩ v).alloc O := World.setCell_alloc_past O b o v LtC.h

theorem below_step {B : Nat} {w W w1 : World} (h : Below B w W) (hb : Below W.heap.size W w1) (hB : B ≤ W.heap.size) : Below B w w1 := h.trans (hb.mono hB)
theorem leC {n m : Nat} [h : LeC n m] : n ≤ m := h.h

theorem below_draw (W : World) : Below W.heap.size W { W with drawn := W.drawn + 1 } := ⟨rfl, rfl, rfl, Nat.le_refl _, fun _ _ => rfl⟩

/-- A region that draws its order, every operation a read or a call that only makes memory: one walk in the text's order. -/
theorem steady_region {P : Program} {id : Nat} {Q : Exit → Act → World → Prop} {a : Act} {W : World} {l : List Oper} (hm : P.follows .mixedOrders = true) (hB : Region.lexB .any l.toArray = true)
    (h : wpQuiet P l.toArray (fun w' => ∃ x : Ext W, w' = x.w) (fun a' => ∀ w', (∃ x : Ext W, w' = x.w) → Q .normal a' w') l a) : (Code.region id l.toArray true).wp P Q a W :=
  wp_region_quiet (C := fun w' => ∃ x : Ext W, w' = x.w) hm hB ⟨⟨_, below_draw W⟩, rfl⟩ (by simpa using h)

/-- The same, the class that of an earlier world which the present one extends. -/
theorem steady_from {P : Program} {id : Nat} {Q : Exit → Act → World → Prop} {a : Act} {W w : World} {l : List Oper} (hbw : Below W.heap.size W w) (hm : P.follows .mixedOrders = true) (hB : Region.lexB .any l.toArray = true)
    (h : wpQuiet P l.toArray (fun w' => ∃ x : Ext W, w' = x.w) (fun a' => ∀ w', (∃ x : Ext W, w' = x.w) → Q .normal a' w') l a) : (Code.region id l.toArray true).wp P Q a w :=
  wp_region_quiet (C := fun w' => ∃ x : Ext W, w' = x.w) hm hB ⟨⟨_, hbw.trans ((below_draw w).mono hbw.size)⟩, rfl⟩ (by simpa using h)

/-- A callee's contract, met in a world of the class. -/
theorem Calls.steady {P : Program} {f : FuncId} {args : Array Value} {W : World} {x : Ext W} {v : Value}
    (h : Calls P f args x.w fun e w' => e = .returned v ∧ Below x.w.heap.size x.w w') : Calls P f args x.w fun e w'' => e = .returned v ∧ ∃ y : Ext W, w'' = y.w :=
  h.mono fun _ w' ⟨he, hb⟩ => ⟨he, ⟨w', x.b.trans (hb.mono x.b.size)⟩, rfl⟩


section
variable {P : Program} {ops : Array Oper} {md : Region.Mode} {C : World → Prop}

/-- Every edge that binds leads back. -/
def backB (md : Region.Mode) (ops : Array Oper) : Bool :=
  (List.range ops.size).all fun i => match ops[i]? with
    | some o => o.after.all fun e => !Region.binds md e || decide (e.on < i)
    | none => true
/-- From number n on each operation waits for all of the first n. -/
def tailB (md : Region.Mode) (ops : Array Oper) (n : Nat) : Bool :=
  (List.range ops.size).all fun t => decide (t < n) || (List.range n).all fun i => Region.waitsFor md ops t i
/-- The guards of the first n operations lie among them. -/
def guardB (ops : Array Oper) (n : Nat) : Bool :=
  (List.range n).all fun i => match ops[i]? with
    | some o => match o.guard with
      | some (j, _) => decide (j < n)
      | none => true
    | none => true

theorem backB_spec (h : backB md ops = true) {i : Nat} {o : Oper} (ho : ops[i]? = some o) {e : Edge} (he : e ∈ o.after) (hb : Region.binds md e = true) : e.on < i := by
  have h1 := List.all_eq_true.1 h i (List.mem_range.2 (Array.getElem?_eq_some_iff.1 ho).1)
  simp only [ho] at h1
  have h2 := Array.all_eq_true_iff_forall_mem.1 h1 e he
  simpa [hb] using h2

theorem tailB_spec {n : Nat} (h : tailB md ops n = true) {t i : Nat} (ht : n ≤ t) (hts : t < ops.size) (hi : i < n) : ∃ o, ops[t]? = some o ∧ ∃ e ∈ o.after, Region.binds md e = true ∧ e.on = i := by
  have h1 := List.all_eq_true.1 h t (List.mem_range.2 hts)
  simp only [Bool.or_eq_true, decide_eq_true_eq] at h1
  rcases h1 with h1 | h1
  · omega
  · exact Region.waitsFor_spec (List.all_eq_true.1 h1 i (List.mem_range.2 hi))

/-- More fuel does no harm. -/
theorem wpAny_more {Q : Exit → Act → World → Prop} : ∀ (f : Nat) (listed : Array Bool) (a : Act) (w : World), wpAny P md ops Q f listed a w → wpAny P md ops Q (f + 1) listed a w
  | 0, _, _, _, h => ⟨fun _ => h.2, fun i hi => by rw [h.1] at hi; cases hi⟩
  | f + 1, _, _, _, h => ⟨h.1, fun i hi => wpOp_mono (fun a' w' => wpAny_more f _ a' w') (h.2 i hi)⟩
theorem wpAny_moreN {Q : Exit → Act → World → Prop} (f : Nat) {listed : Array Bool} {a : Act} {w : World} (h : wpAny P md ops Q f listed a w) : ∀ k, wpAny P md ops Q (f + k) listed a w
  | 0 => h
  | k + 1 => wpAny_more _ _ _ _ (wpAny_moreN f h k)

theorem take_get {l : List Oper} {n i : Nat} (h : i < n) : (l.take n).toArray[i]? = l.toArray[i]? := by simp [h]
theorem take_none {l : List Oper} {n i : Nat} (h : n ≤ i) : (l.take n).toArray[i]? = none := by
  simp only [List.getElem?_toArray, List.getElem?_take]
  rw [if_neg (by omega)]

theorem wanted_take {l : List Oper} {n i : Nat} {o : Oper} (hg : guardB l.toArray n = true) (hi : i < n) (ho : l.toArray[i]? = some o) (tmps : Array Value) :
    Region.wanted o (yielded (l.take n).toArray tmps) = Region.wanted o (yielded l.toArray tmps) := by
  have h1 := List.all_eq_true.1 hg i (List.mem_range.2 hi)
  simp only [ho] at h1
  unfold Region.wanted
  cases hgd : o.guard with
  | none => rfl
  | some p =>
    obtain ⟨j, want⟩ := p
    simp only [hgd, decide_eq_true_eq] at h1
    simp only [yielded, take_get h1]

/-- While one of the first n has not come up, what may come up is what may come up among them. -/
theorem ready_take {l : List Oper} {n : Nat} {listed : Array Bool} (ht : tailB md l.toArray n = true) {i : Nat} (hi : i < n) (hun : listed.getD i true = false) {j : Nat}
    (hj : j ∈ Region.ready md l.toArray listed) : j < n ∧ j ∈ Region.ready md (l.take n).toArray listed := by
  have hil : listed.getD i false = false := getD_both hun
  obtain ⟨h0, o, ho, hall⟩ := mem_ready.1 hj
  have hjn : j < n := by
    rcases Nat.lt_or_ge j n with h | h
    · exact h
    · obtain ⟨o', ho', e, he, hb, hon⟩ := tailB_spec ht h (Array.getElem?_eq_some_iff.1 ho).1 hi
      have : o = o' := Option.some.inj (ho.symm.trans ho')
      subst this
      have := hall e he hb
      rw [hon, hil] at this
      cases this
  exact ⟨hjn, mem_ready.2 ⟨h0, o, by rw [take_get hjn]; exact ho, hall⟩⟩

/-- If nothing may come up among the first n, all of them have come up. -/
theorem all_listed {l : List Oper} {n : Nat} {listed : Array Bool} (hb : backB md l.toArray = true) (hs : listed.size = l.toArray.size) (hn : n ≤ l.length)
    (h : Region.ready md (l.take n).toArray listed = []) : ∀ i, i < n → listed.getD i true = true := by
  intro i
  induction i using Nat.strongRecOn with
  | _ i ih =>
    intro hi
    cases hl : listed.getD i true with
    | true => rfl
    | false =>
      have hil : i < l.toArray.size := by simp; omega
      have ho : l.toArray[i]? = some l.toArray[i] := by simp
      have : i ∈ Region.ready md (l.take n).toArray listed := mem_ready.2 ⟨hl, _, by rw [take_get hi]; exact ho, fun e he hbd => by
        have hlt := backB_spec hb ho he hbd
        have h1 := ih e.on hlt (by omega)
        have hes : e.on < listed.size := by omega
        simp only [Array.getD, hes, dite_true] at h1 ⊢
        exact h1⟩
      rw [h] at this
      cases this

def fullTo (n m : Nat) : Array Bool := ((List.range m).map fun i => decide (i < n)).toArray

/-- The first n operations in any order, then the rest one behind the other. -/
theorem wpAny_of_head_tail {l : List Oper} {n : Nat} {Q : Act → Prop} {Q' : Exit → Act → World → Prop} (hn : n ≤ l.length) (hb : backB md l.toArray = true) (ht : tailB md l.toArray n = true) (hg : guardB l.toArray n = true)
    (hseq : Region.seqB md l.toArray (l.length - n) n (fullTo n l.length) = true)
    (hQ : ∀ a w, C w → Q a → wpList P l.toArray Q' (l.drop n) a w) :
    ∀ (f : Nat) (listed : Array Bool) (a : Act) (w : World), listed.size = l.toArray.size → (∀ t, n ≤ t → t < l.length → listed.getD t true = false) → C w →
      wpAnyQ P md (l.take n).toArray C Q f listed a → wpAny P md l.toArray Q' ((l.length - n) + f) listed a w := by
  have fin : ∀ (listed : Array Bool) (a : Act) (w : World), listed.size = l.toArray.size → (∀ t, n ≤ t → t < l.length → listed.getD t true = false) → C w → Q a →
      Region.ready md (l.take n).toArray listed = [] → wpAny P md l.toArray Q' (l.length - n) listed a w := fun listed a w hs hu hw hq hr => by
    have hall := all_listed hb hs hn hr
    have hfull : listed = fullTo n l.length := by
      apply Array.ext
      · simp [fullTo, hs]
      · intro i h1 h2
        have h3 : i < l.length := by simpa [hs] using h1
        simp only [fullTo, List.getElem_toArray, List.getElem_map, List.getElem_range]
        rcases Nat.lt_or_ge i n with h | h
        · have := hall i h
          simp only [Array.getD, h1, dite_true] at this
          simpa [h] using this
        · have := hu i h h3
          simp only [Array.getD, h1, dite_true] at this
          have hni : ¬ i < n := by omega
          simpa [hni] using this
    subst hfull
    have := wpAny_of_seq (P := P) (md := md) (Q' := Q') (l.drop n) n (fullTo n l.length) a w (fun j => by simp [List.getElem?_drop]) (by rw [List.length_drop]; exact hseq) (hQ a w hw hq)
    rwa [List.length_drop] at this
  intro f
  induction f with
  | zero => exact fun listed a w hs hu hw h => fin listed a w hs hu hw h.2 h.1
  | succ f ih =>
    intro listed a w hs hu hw h
    by_cases hr : Region.ready md (l.take n).toArray listed = []
    · exact wpAny_moreN _ (fin listed a w hs hu hw (h.1 hr) hr) _
    · obtain ⟨i, hi⟩ : ∃ i, i ∈ Region.ready md (l.take n).toArray listed := by
        cases hl : Region.ready md (l.take n).toArray listed with
        | nil => exact absurd hl hr
        | cons x xs => exact ⟨x, by simp⟩
      have hin : i < n := by
        rcases Nat.lt_or_ge i n with h' | h'
        · exact h'
        · obtain ⟨_, o, ho, _⟩ := mem_ready.1 hi
          rw [take_none h'] at ho
          cases ho
      have hun := (mem_ready.1 hi).1
      have hrr : Region.ready md l.toArray listed ≠ [] := fun h0 => by
        obtain ⟨h1, o, ho, hall⟩ := mem_ready.1 hi
        have : i ∈ Region.ready md l.toArray listed := mem_ready.2 ⟨h1, o, by rw [← take_get hin]; exact ho, hall⟩
        rw [h0] at this
        cases this
      refine ⟨fun h0 => absurd h0 hrr, fun j hj => ?_⟩
      obtain ⟨hjn, hj'⟩ := ready_take ht hin hun hj
      have hq := h.2 j hj'
      have hq2 : qOp P l.toArray C j (wpAnyQ P md (l.take n).toArray C Q f (listed.setIfInBounds j true)) a := by
        unfold qOp at hq ⊢
        rw [take_get hjn] at hq
        cases ho : l.toArray[j]? with
        | none => simp only [ho] at hq ⊢; exact hq
        | some o =>
          simp only [ho] at hq ⊢
          rw [wanted_take hg hjn ho] at hq
          exact hq
      refine wpOp_of_qOp hw (fun a' w' hw' hk => ih _ a' w' (by simp [hs]) (fun t ht' htl => ?_) hw' hk) hq2
      rw [getD_set_ne true (by omega)]
      exact hu t ht' htl

/-- A region that draws its order: the first n operations read or call, in any order; the rest (stores, mostly) waits for all of them. -/
theorem wp_region_tail {id : Nat} {Q : Exit → Act → World → Prop} {a : Act} {w : World} {l : List Oper} (n : Nat) (hm : P.follows .mixedOrders = true)
    (hB : (decide (n ≤ l.length) && (Region.noSelect (l.take n).toArray && Region.lexFrom .any (l.take n).toArray n 0 (Array.replicate l.toArray.size false)) && backB .any l.toArray && tailB .any l.toArray n && guardB l.toArray n && Region.seqB .any l.toArray (l.length - n) n (fullTo n l.length)) = true)
    (hC : C { w with drawn := w.drawn + 1 })
    (h : wpQuiet P (l.take n).toArray C (fun a' => ∀ w', C w' → wpList P l.toArray Q (l.drop n) a' w') (l.take n) a) : (Code.region id l.toArray true).wp P Q a w := by
  simp only [Bool.and_eq_true, decide_eq_true_eq] at hB
  obtain ⟨⟨⟨⟨⟨hn, hlex⟩, hb⟩, ht⟩, hg⟩, hseq⟩ := hB
  refine wp_region_any hm ?_
  have hlen : (l.take n).length = n := by simp; omega
  have H := wpAnyQ_lex (C := C) (md := .any) hlex.1 (l.take n) 0 (Array.replicate l.toArray.size false) a (by simp) (by rw [hlen]; exact hlex.2) h
  rw [hlen] at H
  have := wpAny_of_head_tail (Q' := Q) hn hb ht hg hseq (fun a w hw hq => hq w hw) n _ a _ (by simp) (fun t _ htl => getD_in (by simpa using htl) (getD_replicate_false _ _)) hC H
  rw [show l.length - n + n = l.toArray.size by simp; omega] at this
  exact this
end

theorem steady_tail {P : Program} {id : Nat} {Q : Exit → Act → World → Prop} {a : Act} {W : World} {l : List Oper} (n : Nat) (hm : P.follows .mixedOrders = true)
    (hB : (decide (n ≤ l.length) && (Region.noSelect (l.take n).toArray && Region.lexFrom .any (l.take n).toArray n 0 (Array.replicate l.toArray.size false)) && backB .any l.toArray && tailB .any l.toArray n && guardB l.toArray n && Region.seqB .any l.toArray (l.length - n) n (fullTo n l.length)) = true)
    (h : wpQuiet P (l.take n).toArray (fun w' => ∃ x : Ext W, w' = x.w) (fun a' => ∀ w', (∃ x : Ext W, w' = x.w) → wpList P l.toArray Q (l.drop n) a' w') (l.take n) a) : (Code.region id l.toArray true).wp P Q a W :=
  wp_region_tail (C := fun w' => ∃ x : Ext W, w' = x.w) n hm hB ⟨⟨_, below_draw W⟩, rfl⟩ h

theorem steady_tail_from {P : Program} {id : Nat} {Q : Exit → Act → World → Prop} {a : Act} {W w : World} {l : List Oper} (hbw : Below W.heap.size W w) (n : Nat) (hm : P.follows .mixedOrders = true)
    (hB : (decide (n ≤ l.length) && (Region.noSelect (l.take n).toArray && Region.lexFrom .any (l.take n).toArray n 0 (Array.replicate l.toArray.size false)) && backB .any l.toArray && tailB .any l.toArray n && guardB l.toArray n && Region.seqB .any l.toArray (l.length - n) n (fullTo n l.length)) = true)
    (h : wpQuiet P (l.take n).toArray (fun w' => ∃ x : Ext W, w' = x.w) (fun a' => ∀ w', (∃ x : Ext W, w' = x.w) → wpList P l.toArray Q (l.drop n) a' w') (l.take n) a) : (Code.region id l.toArray true).wp P Q a w :=
  wp_region_tail (C := fun w' => ∃ x : Ext W, w' = x.w) n hm hB ⟨⟨_, hbw.trans ((below_draw w).mono hbw.size)⟩, rfl⟩ h

theorem bcell {W w1 : World} (hb : Below W.heap.size W w1) : (∀ b o, b < W.heap.size → w1.cell? ⟨b, o, none⟩ = W.cell? ⟨b, o, none⟩) ∧ (∀ b o, b < W.heap.size → w1.frozen? ⟨b, o, none⟩ = W.frozen? ⟨b, o, none⟩) :=
  ⟨fun b o h => hb.cell (p := ⟨b, o, none⟩) h, fun b o h => hb.frozen (p := ⟨b, o, none⟩) h⟩

/-! ### A slice of the call's own that grows -/

/-- 'out = append(out, x)', x laid into a block of its own by the operation ahead. -/
theorem wpList_append1 {P : Program} {ops : Array Oper} {rest : List Oper} {o : Oper} {a : Act} {Q : Exit → Act → World → Prop} {w : World} (hgd : o.guard = none) (s x : Operand) (t : TypeId)
    (ho : o.op = .call { callee := .builtin .append, args := #[s, x], argTypes := #[t, t] })
    (base : Nat) (e : TypeId) (i : TypeInfo) (z : Value) (size bytes : Nat) (ht : P.underlying t = some (.slice e)) (hi : P.info? e = some i) (hz : i.zero = some z)
    (hsize : i.size = size) (hby : i.bytes = bytes) (hzs : z.cells.size = size) (hsz : 0 < size)
    (v : Value) (n : Nat) (xs : List Value) (hs : a.eval s = v) (hown : w.ownsRow base e size v n xs) (cs : List Value)
    (hx : a.eval x = .slice (some ⟨w.heap.size, 0, none⟩) 1 1) (hl : cs.length = size) (h1 : ∀ u ∈ cs, u.oneCell' = true)
    (h63 : n + 1 ≤ maxLen) (hbytes : (n + 1) * bytes ≤ 140737488355328) (hbase : base ≤ w.heap.size)
    (h : ∀ v' w', w'.ownsRow base e size v' (n + 1) (xs ++ cs) → w.grownBy w' v.ownBlock → Below base w w' → wpList P ops Q rest (a.put o.dst v') w') :
    wpList P ops Q (o :: rest) a (w.alloc (.cells cs.toArray e)) := by
  refine wpList_append_own (w := w.alloc (.cells cs.toArray e)) hgd s x t ho base e i z size bytes ht hi hz hsize hby hzs hsz v n xs hs (hown.alloc _) ⟨w.heap.size, 0, none⟩ 1 1 cs hx (by simpa using hl) ?_ h1 h63 hbytes (by simp; omega) ?_
  · intro j u hj
    have hc : (w.alloc (.cells cs.toArray e)).cell? ⟨w.heap.size, j, none⟩ = cs[j]? := by
      rw [cell_of_row _ _ _ _ _ _ (heap_alloc_new w _)]
      simp
    simp only [Addr.add_lit, Nat.zero_add]
    rw [hc]; exact hj
  · intro v' w' h2 h3 _
    have hlt := hown.lt
    refine h v' w' h2 ⟨h3.os, h3.tape, h3.output, Nat.le_trans (by simp) h3.size, fun k hk hne => ?_⟩ ⟨h3.os, h3.tape, h3.output, Nat.le_trans (by simp) h3.size, fun k hk => ?_⟩
    · rw [h3.block k (by simp; omega) hne]
      exact Below.heap_alloc _ _ _ hk
    · rw [h3.block k (by simp; omega) (fun e => by have := hlt k e.symm; omega)]
      exact Below.heap_alloc _ _ _ (by omega)

/-- The cells of bytes. -/
def bcells (l : List UInt8) : List Value := l.map fun b => .int .u8 (b.toNat : Int)

theorem push_foldl (l : List UInt8) : ∀ s : ByteArray, (l.map fun b : UInt8 => (b.toNat : Int)).foldl (fun r n => r.push (UInt8.ofNat n.toNat)) s = ⟨s.data ++ l.toArray⟩ := by
  induction l with
  | nil => intro s; simp
  | cons b l ih =>
    intro s
    simp only [List.map_cons, List.foldl_cons]
    rw [ih]
    simp [ByteArray.push]

/-- 'string(b)', b a slice of bytes of the call's own. -/
theorem run_string_own {P : Program} {w : World} {base : Nat} {src dst e : TypeId} {v : Value} {n : Nat} {l : List UInt8} (hown : w.ownsRow base e 1 v n (bcells l))
    (hs : P.underlying src = some (.slice e)) (he : P.underlying e = some (.int .u8)) (hd : P.underlying dst = some .string) : (convert src dst v).run P w = .ok (.string ⟨l.toArray⟩) w := by
  have hlen : (bcells l).length = n := by simpa using hown.1
  have hln : l.length = n := by simpa [bcells] using hlen
  rcases hown.2 with ⟨rfl, hn⟩ | ⟨g, cap, cur, rfl, _, hg, _, _, _, _⟩
  · have : l = [] := List.eq_nil_of_length_eq_zero (by omega)
    subst this
    rw [run_convert_bytes_string w src dst e _ _ _ hs he hd]
    simp only [Conv.bytesToString, Sem.run_pure]
    rfl
  · rw [run_convert_bytes_string w src dst e _ _ _ hs he hd]
    have hb : bcells l = (l.map fun b : UInt8 => (b.toNat : Int)).map (Value.int .u8) := by simp [bcells]
    have := run_bytesToString (P := P) w ⟨g, 0, none⟩ n cap (l.map fun b : UInt8 => (b.toNat : Int)) (by
      rw [← hb]
      rw [← hlen]
      refine run_loadCells_list (w := w) _ (bcells l) fun j u hj => ?_
      exact hown.cells rfl j u hj)
    rw [this, push_foldl]
    simp

theorem below_bytes (w : World) (e : TypeId) (s : ByteArray) : Below w.heap.size w (Lib.bytesWorld w e s) :=
  ⟨rfl, rfl, rfl, by rw [Lib.bytesWorld_size]; omega, fun k hk => Lib.bytesWorld_at_old w e s k hk⟩

theorem bsize {W w1 : World} (hb : Below W.heap.size W w1) : ∀ b, b < W.heap.size → b < w1.heap.size := fun _ h => Nat.lt_of_lt_of_le h hb.size

end Go.Proofs.YtkeehnhamkdogaaDoor
