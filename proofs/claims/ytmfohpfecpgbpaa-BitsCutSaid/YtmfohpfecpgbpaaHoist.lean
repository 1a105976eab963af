/- A region that draws its order: what only reads old memory may be taken first, whatever else the region makes. No condition. -/
import Derived.Test.YtmfohpfecpgbpaaStep
namespace Go.Proofs.Ytmfohpfecpgbpaa
open Go.RowKit

section
variable {P : Program} {ops : Array Oper} {md : Region.Mode} {C : World → Prop} {Q : Exit → Act → World → Prop}

/-- Whatever order is picked; each world on the way is of the class. -/
def wpAnyC (P : Program) (md : Region.Mode) (ops : Array Oper) (C : World → Prop) (Q : Exit → Act → World → Prop) : Nat → Array Bool → Act → World → Prop
  | 0, listed, a, w => C w ∧ Region.ready md ops listed = [] ∧ Q .normal a w
  | fuel + 1, listed, a, w => C w ∧ (Region.ready md ops listed = [] → Q .normal a w) ∧ ∀ i ∈ Region.ready md ops listed, wpOp P ops Q i (wpAnyC P md ops C Q fuel (listed.setIfInBounds i true)) a w
theorem wpAny_of_C : ∀ (fuel : Nat) (listed : Array Bool) (a : Act) (w : World), wpAnyC P md ops C Q fuel listed a w → wpAny P md ops Q fuel listed a w
  | 0, _, _, _, h => h.2
  | fuel + 1, _, _, _, h => ⟨h.2.1, fun i hi => wpOp_mono (fun a' w' => wpAny_of_C fuel _ a' w') (h.2.2 i hi)⟩
theorem wpAnyC.cls : ∀ {fuel : Nat} {listed : Array Bool} {a : Act} {w : World}, wpAnyC P md ops C Q fuel listed a w → C w
  | 0, _, _, _, h => h.1
  | _ + 1, _, _, _, h => h.1
def YieldsC (P : Program) (ops : Array Oper) (C : World → Prop) (o : Oper) (v : Value) (a : Act) : Prop :=
  (Region.wanted o (yielded ops a.tmps) = true ∧ ∀ w, C w → (execOp a.eval o).run P w = .ok (.value v) w) ∨ (Region.wanted o (yielded ops a.tmps) = false ∧ v = undef)
theorem YieldsC.wpOp {i : Nat} {o : Oper} {v : Value} {a : Act} (hi : ops[i]? = some o) (hy : YieldsC P ops C o v a) {K : Act → World → Prop} {w : World} (hw : C w) (h : K (a.put o.dst v) w) : wpOp P ops Q i K a w := by
  unfold Go.wpOp
  simp only [hi]
  rcases hy with ⟨hwt, hv⟩ | ⟨hwt, rfl⟩
  · simp only [hwt, if_true, Oper.wp, hv w hw, Oper.upon]; exact .inl h
  · simp only [hwt, Bool.false_eq_true, if_false]; exact h
theorem YieldsC.of_same {o : Oper} {v : Value} {a a' : Act} (hy : YieldsC P ops C o v a) (he : execOp a'.eval o = execOp a.eval o)
    (hw : Region.wanted o (yielded ops a'.tmps) = Region.wanted o (yielded ops a.tmps)) : YieldsC P ops C o v a' := by
  unfold YieldsC at *
  rw [he, hw]
  exact hy
theorem wpOp_putC {j : Nat} {oi oj : Oper} {v : Value} (hj : ops[j]? = some oj) (hap : oi.apart ops oj = true)
    (hsi : ∀ cs b, oi.op ≠ .select cs b) (hsj : ∀ cs b, oj.op ≠ .select cs b)
    (hQ : ∀ c a w, Q (.panic c) (a.put oi.dst v) w → Q (.panic c) a w) {K : Act → World → Prop} {a : Act} {w : World}
    (hy : YieldsC P ops C oi v a) (h : wpOp P ops Q j K (a.put oi.dst v) w) :
    wpOp P ops Q j (fun a' w' => YieldsC P ops C oi v a' ∧ K (a'.put oi.dst v) w') a w := by
  obtain ⟨h1, h2, h3⟩ := Oper.apart_spec hap
  have keep : ∀ (a : Act), YieldsC P ops C oi v a → ∀ u, YieldsC P ops C oi v (a.put oj.dst u) := fun a hy u =>
    hy.of_same (execOp_put oi hsi a oj.dst u h3) (wanted_put oi a oj.dst u h3)
  have keepD : ∀ d, YieldsC P ops C oi v { a with defers := d :: a.defers } := fun d => hy.of_same rfl rfl
  unfold wpOp at *
  simp only [hj] at *
  rw [wanted_put oj a oi.dst v h1] at h
  split
  · rename_i hw
    simp only [hw, if_true] at h
    rcases h with h | ⟨hasks, hlets⟩
    case inr => exact .inr ⟨by unfold Oper.asks at *; rw [execOp_put oj hsj a oi.dst v h1] at hasks; exact hasks, hlets⟩
    refine .inl ?_
    unfold Oper.wp at *
    rw [execOp_put oj hsj a oi.dst v h1] at h
    generalize (execOp a.eval oj).run P w = r at *
    cases r with
    | ok n w' =>
      cases n <;> simp only [Oper.upon] at h ⊢
      case value u => exact ⟨keep a hy u, by rw [← Act.put_comm a v u h2]; exact h⟩
      case skip => exact ⟨keep a hy _, by rw [← Act.put_comm a v undef h2]; exact h⟩
      case defer d =>
        refine ⟨keep _ (keepD d) _, ?_⟩
        rw [← Act.put_comm _ v undef h2, ← Act.put_defers]
        exact h
      case enter f args =>
        refine Calls.mono h fun e w'' he => ?_
        cases e with
        | returned u => exact ⟨keep a hy u, by rw [← Act.put_comm a v u h2]; exact he⟩
        | panicked c => exact hQ _ _ _ he
        | outgrown => exact he
      case row row args => exact Rows.mono h fun u w'' he => ⟨keep a hy u, by rw [← Act.put_comm a v u h2]; exact he⟩
    | halt x w' =>
      cases x <;> simp only [Oper.upon] at h ⊢
      case panic u => exact hQ _ _ _ h
  · rename_i hw
    simp only [hw] at h
    exact ⟨keep a hy _, by rw [← Act.put_comm a v undef h2]; exact h⟩
theorem wpAnyC_first {i : Nat} {oi : Oper} {v : Value} (hi : ops[i]? = some oi) (hsel : ∀ (j : Nat) (o : Oper) cs b, ops[j]? = some o → o.op ≠ .select cs b)
    (hQ : ∀ c a w, Q (.panic c) (a.put oi.dst v) w → Q (.panic c) a w) :
    ∀ (fuel : Nat) (listed : Array Bool) (a : Act) (w : World),
      (∀ j oj, ops[j]? = some oj → j ≠ i → listed.getD j true = false → (∀ e ∈ oj.after, Region.binds md e = true → e.on ≠ i) → oi.apart ops oj = true) →
      i ∈ Region.ready md ops listed → YieldsC P ops C oi v a →
      wpAnyC P md ops C Q fuel (listed.setIfInBounds i true) (a.put oi.dst v) w → wpAnyC P md ops C Q (fuel + 1) listed a w := by
  intro fuel
  induction fuel with
  | zero =>
    intro listed a w _ hr hy H
    refine ⟨H.1, fun h => (by rw [h] at hr; cases hr), fun j hj => ?_⟩
    by_cases hji : j = i
    · subst hji; exact hy.wpOp hi H.1 H
    · have := ready_mono hj hji
      rw [H.2.1] at this
      cases this
  | succ fuel ih =>
    intro listed a w hfree hr hy H
    refine ⟨H.1, fun h => (by rw [h] at hr; cases hr), fun j hj => ?_⟩
    by_cases hji : j = i
    · subst hji; exact hy.wpOp hi H.1 H
    · have h1 := H.2.2 j (ready_mono hj hji)
      obtain ⟨hjun, oj, hoj, hall⟩ := mem_ready.1 hj
      have hnot : ∀ e ∈ oj.after, Region.binds md e = true → e.on ≠ i := fun e he hb heq => by
        have h1 := hall e he hb
        have h0 := (mem_ready.1 hr).1
        rw [heq] at h1
        rcases Nat.lt_or_ge i listed.size with h' | h'
        · simp [h'] at h0 h1; rw [h0] at h1; cases h1
        · simp [Array.getElem?_eq_none h'] at h1
      have h2 := wpOp_putC hoj (hfree j oj hoj hji hjun hnot) (fun cs b => hsel i oi cs b hi) (fun cs b => hsel j oj cs b hoj) hQ hy h1
      have hfree' : ∀ k ok, ops[k]? = some ok → k ≠ i → (listed.setIfInBounds j true).getD k true = false →
          (∀ e ∈ ok.after, Region.binds md e = true → e.on ≠ i) → oi.apart ops ok = true := fun k ok hk hki hun hno => by
        refine hfree k ok hk hki ?_ hno
        by_cases hjk : j = k
        · subst hjk; exact hjun
        · rw [getD_set_ne true hjk] at hun; exact hun
      refine wpOp_mono (fun a' w' h3 => ih (listed.setIfInBounds j true) a' w' hfree' (ready_mono hr (Ne.symm hji)) h3.1 ?_) h2
      rw [Array.setIfInBounds_comm _ _ hji]
      exact h3.2
theorem wpAnyC_take {i : Nat} {oi : Oper} {v : Value} {fuel : Nat} {listed : Array Bool} {a : Act} {w : World} (hi : ops[i]? = some oi)
    (hs : Region.noSelect ops = true) (hf : Region.free md ops listed i = true) (hr : (Region.ready md ops listed).contains i = true)
    (hQ : ∀ c a w, Q (.panic c) (a.put oi.dst v) w → Q (.panic c) a w) (hy : YieldsC P ops C oi v a)
    (h : wpAnyC P md ops C Q fuel (listed.setIfInBounds i true) (a.put oi.dst v) w) : wpAnyC P md ops C Q (fuel + 1) listed a w :=
  wpAnyC_first hi (Region.noSelect_spec hs) hQ fuel listed a w (Region.free_spec hi hf) (by simpa using hr) hy h

/-- The operations of a list taken first, one behind the other: what a quiet walk over them leaves. -/
def takenB (md : Region.Mode) (ops : Array Oper) : List Nat → Array Bool → Bool
  | [], _ => true
  | i :: is, listed => Region.free md ops listed i && (Region.ready md ops listed).contains i && takenB md ops is (listed.setIfInBounds i true)
def marked : List Nat → Array Bool → Array Bool
  | [], listed => listed
  | i :: is, listed => marked is (listed.setIfInBounds i true)
/-- Each operation of the list yields one value in every world of the class. -/
def takes (P : Program) (ops : Array Oper) (C : World → Prop) (K : Act → Prop) : List Oper → Act → Prop
  | [], a => K a
  | o :: os, a => ∃ v, YieldsC P ops C o v a ∧ takes P ops C K os (a.put o.dst v)
theorem wpAnyC_takes (hs : Region.noSelect ops = true) (hQ : ∀ c d v a w, Q (.panic c) (a.put d v) w → Q (.panic c) a w) {w : World} {fuel : Nat} :
    ∀ (is : List Nat) (os : List Oper) (listed : Array Bool) (a : Act), is.map (fun i => ops[i]?) = os.map some → takenB md ops is listed = true →
      takes P ops C (fun a' => wpAnyC P md ops C Q fuel (marked is listed) a' w) os a → wpAnyC P md ops C Q (fuel + is.length) listed a w
  | [], [], _, _, _, _, h => h
  | i :: is, o :: os, listed, a, hm, ht, h => by
    simp only [List.map_cons, List.cons.injEq] at hm
    simp only [takenB, Bool.and_eq_true] at ht
    obtain ⟨v, hy, h⟩ := h
    have := wpAnyC_takes hs hQ is os (listed.setIfInBounds i true) (a.put o.dst v) hm.2 ht.2 h
    rw [List.length_cons, ← Nat.add_assoc]
    exact wpAnyC_take hm.1 hs ht.1.1 ht.1.2 (fun c a w h => hQ c _ _ a w h) hy this
  | [], _ :: _, _, _, hm, _, _ => by simp at hm
  | _ :: _, [], _, _, hm, _, _ => by simp at hm
/-- An operation that yields a value, and calls nobody. -/
def readB (o : Oper) : Bool := match o.op with
  | .move _ | .assign _ | .pick _ _ _ | .load _ _ | .fieldAddr _ _ _ | .field _ _ _ | .indexAddr _ _ _ | .index _ _ _ | .binOp _ _ _ _ _ | .unOp _ _ _ | .convert _ _ _ | .slice _ _ _ _ _ | .extract _ _ => true
  | _ => false
theorem value_of_map {S : Sem Value} {w w' : World} {n : Next} (h : (do pure (Next.value (← S)) : Sem Next).run P w = .ok n w') : ∃ u, n = .value u := by
  simp only [Sem.run_bind, Result.andThen] at h
  split at h
  · simp only [Sem.run_pure, Result.ok.injEq] at h
    exact ⟨_, h.1.symm⟩
  · cases h
theorem readB_value {ev : Operand → Value} {o : Oper} (h : readB o = true) {w w' : World} {n : Next} (hr : (execOp ev o).run P w = .ok n w') : ∃ u, n = .value u := by
  obtain ⟨dst, op, type, pos, after, guard⟩ := o
  unfold readB at h
  cases op <;> simp only at h <;> try (exact absurd h (by decide))
  case move x =>
    simp only [execOp, Sem.run_pure, Result.ok.injEq] at hr
    exact ⟨_, hr.1.symm⟩
  case assign x =>
    simp only [execOp, Sem.run_pure, Result.ok.injEq] at hr
    exact ⟨_, hr.1.symm⟩
  case pick c a b =>
    simp only [execOp, Sem.run_bind, Result.andThen] at hr
    split at hr
    · split at hr <;> simp only [Sem.run_pure, Result.ok.injEq] at hr <;> exact ⟨_, hr.1.symm⟩
    · cases hr
  all_goals exact value_of_map hr
theorem takes_of_quiet {K : Act → Prop} (hC : ∃ w, C w) : ∀ (os : List Oper) (a : Act), os.all readB = true → wpQuiet P ops C K os a → takes P ops C K os a
  | [], _, _, h => h
  | o :: os, a, hr, h => by
    simp only [List.all_cons, Bool.and_eq_true] at hr
    unfold wpQuiet at h
    cases hw : Region.wanted o (yielded ops a.tmps) with
    | true =>
      rw [hw, if_pos rfl] at h
      obtain ⟨v, hv, hk⟩ := h
      refine ⟨v, Or.inl ⟨hw, fun w hcw => ?_⟩, takes_of_quiet hC os _ hr.2 hk⟩
      have h1 := hv w hcw
      unfold Oper.quietAt at h1
      cases hrun : (execOp a.eval o).run P w with
      | halt _ _ => rw [hrun] at h1; cases h1
      | ok n w1 =>
        obtain ⟨u, rfl⟩ := readB_value hr.1 hrun
        rw [hrun] at h1
        obtain ⟨rfl, rfl⟩ := h1
        rfl
    | false =>
      rw [hw, if_neg (by decide)] at h
      exact ⟨undef, Or.inr ⟨hw, rfl⟩, takes_of_quiet hC os _ hr.2 h⟩
/-- A region that draws its order: the reads of a list first. -/
theorem region_hoist {id : Nat} {a : Act} {w : World} {l : List Oper} (is : List Nat) (os : List Oper) (n : Nat) (hm : P.follows .mixedOrders = true) (hos : is.map (fun i => l.toArray[i]?) = os.map some)
    (hB : (Region.noSelect l.toArray && takenB .any l.toArray is (Array.replicate l.toArray.size false) && os.all readB && decide (n + is.length = l.length)) = true)
    (hpan : ∀ c d v a w, Q (.panic c) (a.put d v) w → Q (.panic c) a w) (hC : C { w with drawn := w.drawn + 1 })
    (h : wpQuiet P l.toArray C (fun a' => ∀ w', C w' → wpAnyC P .any l.toArray C Q n (marked is (Array.replicate l.toArray.size false)) a' w') os a) : (Code.region id l.toArray true).wp P Q a w := by
  simp only [Bool.and_eq_true, decide_eq_true_eq] at hB
  obtain ⟨⟨⟨hs, ht⟩, hr⟩, hn⟩ := hB
  refine wp_region_any hm (wpAny_of_C (C := C) _ _ _ _ ?_)
  have h1 := takes_of_quiet ⟨_, hC⟩ os a hr h
  have h2 : takes P l.toArray C (fun a' => wpAnyC P .any l.toArray C Q n (marked is (Array.replicate l.toArray.size false)) a' { w with drawn := w.drawn + 1 }) os a := by
    have mono : ∀ (os : List Oper) (a : Act) (K K' : Act → Prop), (∀ a, K a → K' a) → takes P l.toArray C K os a → takes P l.toArray C K' os a := by
      intro os
      induction os with
      | nil => exact fun a K K' hk h => hk a h
      | cons o os ih => exact fun a K K' hk ⟨v, hy, h⟩ => ⟨v, hy, ih _ K K' hk h⟩
    exact mono _ _ _ _ (fun a' hk => hk _ hC) h1
  have := wpAnyC_takes hs hpan is os _ a hos ht h2
  rw [hn] at this
  rw [List.size_toArray] at this ⊢
  exact this
theorem wpAnyC_next {rs : List Nat} {fuel : Nat} {listed : Array Bool} {a : Act} {w : World} (hr : Region.ready md ops listed = rs) (hne : rs ≠ []) (hC : C w)
    (h : ∀ i ∈ rs, wpOp P ops Q i (wpAnyC P md ops C Q fuel (listed.setIfInBounds i true)) a w) : wpAnyC P md ops C Q (fuel + 1) listed a w :=
  ⟨hC, fun h0 => absurd (hr ▸ h0) hne, hr ▸ h⟩
theorem wpAnyC_done {fuel : Nat} {listed : Array Bool} {a : Act} {w : World} (hr : Region.ready md ops listed = []) (hC : C w) (h : Q .normal a w) : wpAnyC P md ops C Q fuel listed a w := by
  cases fuel with
  | zero => exact ⟨hC, hr, h⟩
  | succ f => exact ⟨hC, fun _ => h, fun i hi => by rw [hr] at hi; cases hi⟩
theorem wpOp_at {i : Nat} {o : Oper} {K : Act → World → Prop} {a : Act} {w : World} (ho : ops[i]? = some o) (hg : o.guard = none) (h : o.wp P a w K Q) : wpOp P ops Q i K a w := by
  have hw : Region.wanted o (yielded ops a.tmps) = true := by simp [Region.wanted, hg]
  unfold wpOp
  simp only [ho, hw, if_true]
  exact Or.inl h
end
def pickL (is : List Nat) (l : List Oper) : List Oper := is.filterMap fun i => l[i]?
theorem pickL_map : ∀ (is : List Nat) (l : List Oper), (is.all fun i => decide (i < l.length)) = true → is.map (fun i => l.toArray[i]?) = (pickL is l).map some
  | [], _, _ => rfl
  | i :: is, l, h => by
    simp only [List.all_cons, Bool.and_eq_true, decide_eq_true_eq] at h
    have ih := pickL_map is l h.2
    simp only [pickL] at ih ⊢
    rw [List.map_cons, ih, List.filterMap_cons, List.getElem?_toArray, List.getElem?_eq_getElem h.1]
    rfl
theorem hoist_ext {P : Program} {Q : Exit → Act → World → Prop} {id : Nat} {a : Act} {W w : World} {l : List Oper} (hbw : Below W.heap.size W w) (is : List Nat) (n : Nat) (hm : P.follows .mixedOrders = true)
    (hB : ((is.all fun i => decide (i < l.length)) && (Region.noSelect l.toArray && takenB .any l.toArray is (Array.replicate l.toArray.size false) && (pickL is l).all readB && decide (n + is.length = l.length))) = true)
    (hpan : ∀ c d v a w, Q (.panic c) (a.put d v) w → Q (.panic c) a w)
    (h : wpQuiet P l.toArray (fun w' => ∃ x : Ext W, w' = x.w) (fun a' => ∀ w', (∃ x : Ext W, w' = x.w) → wpAnyC P .any l.toArray (fun w' => ∃ x : Ext W, w' = x.w) Q n (marked is (Array.replicate l.toArray.size false)) a' w') (pickL is l) a) : (Code.region id l.toArray true).wp P Q a w := by
  rw [Bool.and_eq_true] at hB
  exact region_hoist (C := fun w' => ∃ x : Ext W, w' = x.w) is _ n hm (pickL_map is l hB.1) hB.2 hpan ⟨⟨_, hbw.trans ((below_draw w).mono hbw.size)⟩, rfl⟩ h
theorem wpQuiet_as {P : Program} {ops : Array Oper} {C : World → Prop} {Q : Act → Prop} {l l' : List Oper} {a : Act} (e : l = l') (h : wpQuiet P ops C Q l' a) : wpQuiet P ops C Q l a := e ▸ h
theorem in_ext {W w : World} (h : Below W.heap.size W w) : ∃ x : Ext W, w = x.w := ⟨⟨w, h⟩, rfl⟩
end Go.Proofs.Ytmfohpfecpgbpaa
