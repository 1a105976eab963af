/- A region that draws its order, whose last operations (stores) wait for all others but some that only take a part of a call's results. No condition. -/
import Derived.Test.YtbgcdoikcjjaeaaBase
namespace Go.Proofs.Ytbgcdoikcjjaeaa
open Go.RowKit

section
variable {P : Program} {ops : Array Oper} {md : Region.Mode} {C : World → Prop}

/-- An operation that takes a part of a call's results, and that no other one minds. -/
def freeB (md : Region.Mode) (ops : Array Oper) (i : Nat) : Bool := match ops[i]? with
  | some o => (match o.op with | .extract _ _ => true | _ => false) && o.guard.isNone && (List.range ops.size).all fun j => j == i || Region.waitsFor md ops i j || match ops[j]? with
      | some oj => oj.after.any (fun e => Region.binds md e && e.on == i) || o.apart ops oj
      | none => true
  | none => false
def tailF (md : Region.Mode) (ops : Array Oper) (n : Nat) : Bool :=
  (List.range ops.size).all fun t => decide (t < n) || (List.range n).all fun i => Region.waitsFor md ops t i || freeB md ops i
theorem freeB_free {i : Nat} {listed : Array Bool} (h : freeB md ops i = true) (hr : i ∈ Region.ready md ops listed) : Region.free md ops listed i = true := by
  unfold freeB at h
  unfold Region.free
  obtain ⟨_, o, ho, hall⟩ := mem_ready.1 hr
  simp only [ho, Bool.and_eq_true] at h ⊢
  refine List.all_eq_true.2 fun j hj => ?_
  have := List.all_eq_true.1 h.2 j hj
  simp only [Bool.or_eq_true] at this ⊢
  rcases this with (h1 | h1) | h1
  · exact Or.inl (Or.inl h1)
  · obtain ⟨o', ho', e, he, hb, hon⟩ := Region.waitsFor_spec h1
    have : o = o' := Option.some.inj (ho.symm.trans ho')
    subst this
    have h2 := hall e he hb
    rw [hon] at h2
    refine Or.inl (Or.inr ?_)
    rcases Nat.lt_or_ge j listed.size with h' | h'
    · simp only [Array.getD, h', dite_true] at h2 ⊢
      exact h2
    · simp [Array.getD, Nat.not_lt.2 h'] at h2
  · exact Or.inr h1
theorem tailF_spec {n : Nat} (h : tailF md ops n = true) {t i : Nat} (ht : n ≤ t) (hts : t < ops.size) (hi : i < n) (hf : freeB md ops i = false) : ∃ o, ops[t]? = some o ∧ ∃ e ∈ o.after, Region.binds md e = true ∧ e.on = i := by
  have h1 := List.all_eq_true.1 h t (List.mem_range.2 hts)
  simp only [Bool.or_eq_true, decide_eq_true_eq] at h1
  rcases h1 with h1 | h1
  · omega
  · have h2 := List.all_eq_true.1 h1 i (List.mem_range.2 hi)
    rw [hf, Bool.or_false] at h2
    exact Region.waitsFor_spec h2
theorem extract_any {ev : Operand → Value} {o : Oper} {x : Operand} {k : Nat} (h : o.op = .extract x k) {w : World} {n : Next} {w1 : World} (hr : (execOp ev o).run P w = .ok n w1) : (∃ v, n = .value v) ∧ w1 = w ∧ ∀ w', (execOp ev o).run P w' = .ok n w' := by
  unfold execOp at hr ⊢
  simp only [h] at hr ⊢
  cases hx : ev x <;> simp [hx, Instr.extract, Result.andThen] at hr ⊢
  rename_i vs
  cases hv : vs[k]? with
  | none => simp [hv] at hr
  | some v =>
    simp [hv] at hr ⊢
    exact ⟨⟨v, hr.1.symm⟩, hr.2.symm, hr.1⟩
theorem freeB_op {i : Nat} {o : Oper} (h : freeB md ops i = true) (ho : ops[i]? = some o) : (∃ x k, o.op = .extract x k) ∧ o.guard = none := by
  unfold freeB at h
  simp only [ho, Bool.and_eq_true, Option.isNone_iff_eq_none] at h
  refine ⟨?_, h.1.2⟩
  have h1 := h.1.1
  cases hop : o.op <;> simp [hop] at h1
  exact ⟨_, _, rfl⟩

/-- The first n operations in any order, then the rest one behind the other; what only takes a part of a call's results may come late, and does no harm. -/
theorem wpAny_of_head_tailF {l : List Oper} {n : Nat} {Q : Act → Prop} {Q' : Exit → Act → World → Prop} (hn : n ≤ l.length) (hb : backB md l.toArray = true) (ht : tailF md l.toArray n = true) (hg : guardB l.toArray n = true)
    (hns : Region.noSelect l.toArray = true) (hseq : Region.seqB md l.toArray (l.length - n) n (fullTo n l.length) = true)
    (hpan : ∀ c d v a w, Q' (.panic c) (a.put d v) w → Q' (.panic c) a w)
    (hQ : ∀ a w, C w → Q a → wpList P l.toArray Q' (l.drop n) a w) :
    ∀ (f : Nat) (listed : Array Bool) (a : Act) (w : World), listed.size = l.toArray.size → (∀ t, n ≤ t → t < l.length → listed.getD t true = false) → C w →
      wpAnyQ P md (l.take n).toArray C Q f listed a → wpAny P md l.toArray Q' ((l.length - n) + f) listed a w := by
  have fin : ∀ (listed : Array Bool) (a : Act) (w : World), listed.size = l.toArray.size → (∀ t, n ≤ t → t < l.length → listed.getD t true = false) → C w → Q a →
      Region.ready md (l.take n).toArray listed = [] → wpAny P md l.toArray Q' (l.length - n) listed a w := fun listed a w hs hu hw hq hr => by
    have hall := all_listed hb hs hn hr
    have hfull : listed = fullTo n l.length := by
      apply Array.ext
      · simp [fullTo, hs]
      · intro i h1 h2
        have h3 : i < l.length := by simpa [hs] using h1
        simp only [fullTo, List.getElem_toArray, List.getElem_map, List.getElem_range]
        rcases Nat.lt_or_ge i n with h | h
        · have := hall i h
          simp only [Array.getD, h1, dite_true] at this
          simpa [h] using this
        · have := hu i h h3
          simp only [Array.getD, h1, dite_true] at this
          have hni : ¬ i < n := by omega
          simpa [hni] using this
    subst hfull
    have := wpAny_of_seq (P := P) (md := md) (Q' := Q') (l.drop n) n (fullTo n l.length) a w (fun j => by simp [List.getElem?_drop]) (by rw [List.length_drop]; exact hseq) (hQ a w hw hq)
    rwa [List.length_drop] at this
  intro f
  induction f with
  | zero => exact fun listed a w hs hu hw h => fin listed a w hs hu hw h.2 h.1
  | succ f ih =>
    intro listed a w hs hu hw h
    by_cases hr : Region.ready md (l.take n).toArray listed = []
    · exact wpAny_moreN _ (fin listed a w hs hu hw (h.1 hr) hr) _
    · obtain ⟨i, hi⟩ : ∃ i, i ∈ Region.ready md (l.take n).toArray listed := by
        cases hl : Region.ready md (l.take n).toArray listed with
        | nil => exact absurd hl hr
        | cons x xs => exact ⟨x, by simp⟩
      have lift : ∀ i, i ∈ Region.ready md (l.take n).toArray listed → i < n ∧ i ∈ Region.ready md l.toArray listed := fun i hi => by
        have hin : i < n := by
          rcases Nat.lt_or_ge i n with h' | h'
          · exact h'
          · obtain ⟨_, o, ho, _⟩ := mem_ready.1 hi
            rw [take_none h'] at ho
            cases ho
        obtain ⟨h1, o, ho, hall⟩ := mem_ready.1 hi
        exact ⟨hin, mem_ready.2 ⟨h1, o, by rw [← take_get hin]; exact ho, hall⟩⟩
      have step : ∀ j, j < n → j ∈ Region.ready md (l.take n).toArray listed → qOp P l.toArray C j (wpAnyQ P md (l.take n).toArray C Q f (listed.setIfInBounds j true)) a := fun j hjn hj' => by
        have hq := h.2 j hj'
        unfold qOp at hq ⊢
        rw [take_get hjn] at hq
        cases ho : l.toArray[j]? with
        | none => simp only [ho] at hq ⊢; exact hq
        | some o =>
          simp only [ho] at hq ⊢
          rw [wanted_take hg hjn ho] at hq
          exact hq
      by_cases hfree : ∃ i, i ∈ Region.ready md (l.take n).toArray listed ∧ freeB md l.toArray i = true
      · obtain ⟨i, hi, hfi⟩ := hfree
        obtain ⟨hin, hir⟩ := lift i hi
        have hil : i < l.length := by omega
        have ho : l.toArray[i]? = some l[i] := by simp [hil]
        obtain ⟨⟨x, k, hop⟩, hgd⟩ := freeB_op hfi ho
        have hq := step i hin hi
        have hwant : Region.wanted l[i] (yielded l.toArray a.tmps) = true := by simp [Region.wanted, hgd]
        unfold qOp at hq
        simp only [ho, hwant, if_true] at hq
        obtain ⟨v, hv, hk⟩ := hq
        have hv1 := hv w hw
        have hy : ∀ w', (execOp a.eval l[i]).run P w' = .ok (.value v) w' := by
          unfold Oper.quietAt at hv1
          cases hrun : (execOp a.eval l[i]).run P w with
          | halt _ _ => rw [hrun] at hv1; cases hv1
          | ok nx w1 =>
            obtain ⟨⟨v', rfl⟩, rfl, hall⟩ := extract_any hop hrun
            rw [hrun] at hv1
            have : v' = v := by
              simp [Oper.quietUpon] at hv1
              first | exact hv1 | exact hv1.symm | exact hv1.1 | exact hv1.1.symm
            subst this
            exact hall
        rw [show l.length - n + (f + 1) = (l.length - n + f) + 1 by omega]
        refine wpAny_take (i := i) (v := v) ho hns (freeB_free hfi hir) (by simpa using hir) (fun c a w h => hpan c _ _ a w h) (Or.inl ⟨hwant, hy⟩) ?_
        refine ih _ _ w (by simp [hs]) (fun t ht' htl => ?_) hw hk
        rw [getD_set_ne true (by omega)]
        exact hu t ht' htl
      · obtain ⟨hin, hir⟩ := lift i hi
        have hnf : freeB md l.toArray i = false := by
          cases hf : freeB md l.toArray i with
          | false => rfl
          | true => exact absurd ⟨i, hi, hf⟩ hfree
        have hun := (mem_ready.1 hi).1
        have hil : listed.getD i false = false := getD_both hun
        have hrr : Region.ready md l.toArray listed ≠ [] := fun h0 => by rw [h0] at hir; cases hir
        refine ⟨fun h0 => absurd h0 hrr, fun j hj => ?_⟩
        have hjn : j < n := by
          rcases Nat.lt_or_ge j n with h' | h'
          · exact h'
          · obtain ⟨h0, o, ho, hall⟩ := mem_ready.1 hj
            obtain ⟨o', ho', e, he, hbd, hon⟩ := tailF_spec ht h' (Array.getElem?_eq_some_iff.1 ho).1 hin hnf
            have : o = o' := Option.some.inj (ho.symm.trans ho')
            subst this
            have := hall e he hbd
            rw [hon, hil] at this
            cases this
        have hj' : j ∈ Region.ready md (l.take n).toArray listed := by
          obtain ⟨h0, o, ho, hall⟩ := mem_ready.1 hj
          exact mem_ready.2 ⟨h0, o, by rw [take_get hjn]; exact ho, hall⟩
        refine wpOp_of_qOp hw (fun a' w' hw' hk => ih _ a' w' (by simp [hs]) (fun t ht' htl => ?_) hw' hk) (step j hjn hj')
        rw [getD_set_ne true (by omega)]
        exact hu t ht' htl

theorem wp_region_tailF {id : Nat} {Q : Exit → Act → World → Prop} {a : Act} {w : World} {l : List Oper} (n : Nat) (hm : P.follows .mixedOrders = true)
    (hB : (decide (n ≤ l.length) && (Region.noSelect (l.take n).toArray && Region.lexFrom .any (l.take n).toArray n 0 (Array.replicate l.toArray.size false)) && backB .any l.toArray && tailF .any l.toArray n && guardB l.toArray n && Region.noSelect l.toArray && Region.seqB .any l.toArray (l.length - n) n (fullTo n l.length)) = true)
    (hpan : ∀ c d v a w, Q (.panic c) (a.put d v) w → Q (.panic c) a w)
    (hC : C { w with drawn := w.drawn + 1 })
    (h : wpQuiet P (l.take n).toArray C (fun a' => ∀ w', C w' → wpList P l.toArray Q (l.drop n) a' w') (l.take n) a) : (Code.region id l.toArray true).wp P Q a w := by
  simp only [Bool.and_eq_true, decide_eq_true_eq] at hB
  obtain ⟨⟨⟨⟨⟨⟨hn, hlex⟩, hb⟩, ht⟩, hg⟩, hns⟩, hseq⟩ := hB
  refine wp_region_any hm ?_
  have hlen : (l.take n).length = n := by simp; omega
  have H := wpAnyQ_lex (C := C) (md := .any) hlex.1 (l.take n) 0 (Array.replicate l.toArray.size false) a (by simp) (by rw [hlen]; exact hlex.2) h
  rw [hlen] at H
  have := wpAny_of_head_tailF (Q' := Q) hn hb ht hg hns hseq hpan (fun a w hw hq => hq w hw) n _ a _ (by simp) (fun t _ htl => getD_in (by simpa using htl) (getD_replicate_false _ _)) hC H
  rw [show l.length - n + n = l.toArray.size by simp; omega] at this
  exact this
end
theorem steady_tailF {P : Program} {id : Nat} {Q : Exit → Act → World → Prop} {a : Act} {W : World} {l : List Oper} (n : Nat) (hm : P.follows .mixedOrders = true)
    (hB : (decide (n ≤ l.length) && (Region.noSelect (l.take n).toArray && Region.lexFrom .any (l.take n).toArray n 0 (Array.replicate l.toArray.size false)) && backB .any l.toArray && tailF .any l.toArray n && guardB l.toArray n && Region.noSelect l.toArray && Region.seqB .any l.toArray (l.length - n) n (fullTo n l.length)) = true)
    (hpan : ∀ c d v a w, Q (.panic c) (a.put d v) w → Q (.panic c) a w)
    (h : wpQuiet P (l.take n).toArray (fun w' => ∃ x : Ext W, w' = x.w) (fun a' => ∀ w', (∃ x : Ext W, w' = x.w) → wpList P l.toArray Q (l.drop n) a' w') (l.take n) a) : (Code.region id l.toArray true).wp P Q a W :=
  wp_region_tailF (C := fun w' => ∃ x : Ext W, w' = x.w) n hm hB hpan ⟨⟨_, below_draw W⟩, rfl⟩ h
end Go.Proofs.Ytbgcdoikcjjaeaa
