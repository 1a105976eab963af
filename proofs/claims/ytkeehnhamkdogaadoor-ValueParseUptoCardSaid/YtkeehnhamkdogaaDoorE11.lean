/- Regions that draw their order: every order leads to the state of the text's order. Code, and functions. No condition. -/
import Derived.Test.YtkeehnhamkdogaaDoorE10
namespace Go.Proofs.YtkeehnhamkdogaaDoor
set_option linter.unusedVariables false
set_option linter.unusedSimpArgs false
open Go.RowKit

section
variable {C : Ctx} {E : Env}
theorem looks_op {ops : Array Oper} {o : Oper} {t : Nat} (h : Operand.tmp t ∈ o.op.operands) : t ∈ o.looksAt ops := by
  unfold Oper.looksAt
  refine List.mem_append_left _ (List.mem_filterMap.2 ⟨.tmp t, by simpa using h, rfl⟩)
theorem looks_guard {ops : Array Oper} {o : Oper} {j : Nat} {want : Bool} {d : Nat} (hg : o.guard = some (j, want)) (hd : (ops[j]?).bind (·.dst) = some d) : d ∈ o.looksAt ops := by
  unfold Oper.looksAt
  refine List.mem_append_right _ ?_
  simp [hg, hd]
def setX (X : Nat → Bool) (i : Nat) : Nat → Bool := fun j => if j = i then true else X j
theorem draw_ok {ops : Array Oper} {recs : List Rec} {st0 st' : St} {Q : Exit → Act → World → Prop} (hn : E.n = C.n ∧ E.Γ = C.Γ ∧ E.nx0 = C.nx0) (hlen : recs.map (·.o) = ops.toList) (hch : ChainOk st0 recs st') {dead : List Nat} {pj : Option Nat} (hD : DOk C ops recs dead pj) (hd : drawOk ops recs pj = true)
    (hQ : pj = none → ∀ a w, RS E st' a w → Q .normal a w) (hQp : ∀ (p : Nat) (x : Rec) (v : Value), pj = some p → recs[p]? = some x → x.r.v = .pan v → ∀ a w, RS E ⟨[], (x.st.step none x.r).mem, 0⟩ a w → Q (.panic (panE v)) a w) : ∀ (fuel : Nat) (listed : Array Bool) (a : Act) (w : World), listed.size = ops.size → (List.range ops.size).countP (fun i => !(listed.getD i false)) ≤ fuel →
      (∀ i o, ops[i]? = some o → listed.getD i false = true → ∀ e ∈ o.after, Region.binds .any e = true → listed.getD e.on false = true) → (∀ i, listed.getD i false = true → i ∉ dead) →
      RF E (ov (recs.map uT) (fun i => listed.getD i false) 0 (findL st0.tm)) (ov (recs.map uM) (fun i => listed.getD i false) 0 (findL st0.mem)) a w → wpAny C.P .any ops Q fuel listed a w := by
  have hsz : recs.length = ops.size := by have := congrArg List.length hlen; simpa using this
  have hop : ∀ {i : Nat} {x : Rec}, recs[i]? = some x → ops[i]? = some x.o := fun {i x} hx => by
    have : (recs.map (·.o))[i]? = some x.o := by simp [hx]
    rw [hlen] at this
    simpa using this
  unfold drawOk at hd
  simp only [Bool.and_eq_true] at hd
  obtain ⟨⟨hback, hpair⟩, hpanc⟩ := hd
  have hnotP : ∀ {i : Nat}, pj = some i → notP pj i = false := fun {i} h => by simp [notP, h]
  have hpairs : ∀ {i j : Nat} {x y : Rec}, i < j → recs[i]? = some x → recs[j]? = some y → (x.dead = false ∨ pj = some i) → (y.dead = false ∨ pj = some j) → ((masks ops.toList []).getD j 0).testBit i = true ∨ indep ops x y = true := fun {i j x y} hij hx hy hxd hyd => by
    have hj : j < recs.length := (List.getElem?_eq_some_iff.1 hy).1
    have h1 := List.all_eq_true.1 hpair j (by simpa using hj)
    have h2 := List.all_eq_true.1 h1 i (by simpa using hij)
    rw [hx, hy] at h2
    simp only [Bool.or_eq_true, Bool.and_eq_true] at h2
    rcases h2 with h2 | (h2 | h2) | h2
    · exact .inl h2
    · rcases hxd with h3 | h3
      · rw [h3] at h2; cases h2.1
      · rw [hnotP h3] at h2; cases h2.2
    · rcases hyd with h3 | h3
      · rw [h3] at h2; cases h2.1
      · rw [hnotP h3] at h2; cases h2.2
    · exact .inr h2
  have hready : ∀ {listed : Array Bool} {i : Nat}, i ∈ Region.ready .any ops listed → listed.getD i true = false ∧ ∃ o, ops[i]? = some o ∧ ∀ e ∈ o.after, Region.binds .any e = true → listed.getD e.on false = true := fun {listed i} h => mem_ready.1 h
  -- where nothing is ready, all have come up
  have hall : ∀ (listed : Array Bool), listed.size = ops.size → Region.ready .any ops listed = [] → ∀ i, i < ops.size → listed.getD i false = true := fun listed hs hr i => by
    induction i using Nat.strongRecOn with
    | _ i ih =>
      intro hi
      have hil : i < listed.size := by omega
      cases hl : listed.getD i true with
      | true =>
        simp only [Array.getD, hil, dite_true] at hl ⊢
        exact hl
      | false =>
        have ho : ops[i]? = some ops[i] := by simp [hi]
        have : i ∈ Region.ready .any ops listed := mem_ready.2 ⟨hl, _, ho, fun e he hb => by
          have h1 := List.all_eq_true.1 hback (ops[i], i) (by
            rw [List.mem_iff_getElem?]
            exact ⟨i, by simp [ho]⟩)
          have h2 := List.all_eq_true.1 h1 e (by simpa using he)
          simp only [hb, Bool.not_true, Bool.false_or] at h2
          have hlt : e.on < i := Nat.lt_of_succ_le (Nat.le_of_ble_eq_true h2)
          exact ih e.on hlt (by omega)⟩
        rw [hr] at this
        cases this
  have hfin : ∀ (listed : Array Bool) (a : Act) (w : World), listed.size = ops.size → (∀ i, i < ops.size → listed.getD i false = true) → (∀ i, listed.getD i false = true → i ∉ dead) →
      RF E (ov (recs.map uT) (fun i => listed.getD i false) 0 (findL st0.tm)) (ov (recs.map uM) (fun i => listed.getD i false) 0 (findL st0.mem)) a w → Q .normal a w := fun listed a w hs hX hlive hR => by
    have hpn : pj = none := by
      cases hp : pj with
      | none => rfl
      | some p =>
        have h1 := (hD.pan p hp).1
        exact absurd h1 (hlive p (hX p (by rw [← hsz]; exact hD.lt p h1)))
    obtain ⟨h1, h2⟩ := chain_end 0 (fun i => listed.getD i false) hch (fun j hj => by rw [Nat.zero_add]; exact hX j (by omega))
    rw [h1, h2] at hR
    exact hQ hpn a w hR
  intro fuel
  induction fuel with
  | zero =>
    intro listed a w hs hc _ hlive hR
    have hX : ∀ i, i < ops.size → listed.getD i false = true := fun i hi => by
      cases h : listed.getD i false with
      | true => rfl
      | false =>
        have : 0 < (List.range ops.size).countP (fun i => !(listed.getD i false)) := List.countP_pos_iff.2 ⟨i, by simpa using hi, by rw [h]; rfl⟩
        omega
    refine ⟨?_, hfin listed a w hs hX hlive hR⟩
    rw [List.eq_nil_iff_forall_not_mem]
    intro i hi
    obtain ⟨h0, o, ho, _⟩ := hready hi
    have hi' := (Array.getElem?_eq_some_iff.1 ho).1
    have := hX i hi'
    have hil : i < listed.size := by omega
    simp only [Array.getD, hil, dite_true] at this h0
    rw [this] at h0
    cases h0
  | succ fuel ih =>
    intro listed a w hs hc hdown hlive hR
    refine ⟨fun hr => hfin listed a w hs (hall listed hs hr) hlive hR, fun i hi => ?_⟩
    obtain ⟨h0, o, ho, hafter⟩ := hready hi
    have hi' : i < ops.size := (Array.getElem?_eq_some_iff.1 ho).1
    have hil : i < listed.size := by omega
    have hXi : listed.getD i false = false := by
      simp only [Array.getD, hil, dite_true] at h0 ⊢
      exact h0
    obtain ⟨x, hx⟩ : ∃ x, recs[i]? = some x := ⟨_, List.getElem?_eq_getElem (by omega)⟩
    obtain rfl : x.o = o := by have := hop hx; rw [ho] at this; cases this; rfl
    -- what waits for the one that panics never comes up
    have hxd : x.dead = false ∨ pj = some i := by
      cases hdx : x.dead with
      | false => exact .inl rfl
      | true =>
        rcases hD.why i x hx hdx with h | ⟨e, he, hb, hm⟩
        · exact .inr h.1
        · exact absurd hm (hlive _ (hafter e he hb))
    -- what is ordered ahead of i has come up; what comes behind i has not
    have hdown' : ∀ (k : Nat) (o : Oper), ops.toList[k]? = some o → listed.getD k false = true → ∀ e ∈ o.after, Region.binds .any e = true → listed.getD e.on false = true := fun k o hk => hdown k o (by simpa using hk)
    have hdownX : ∀ (k : Nat) (o : Oper), ops.toList[k]? = some o → setX (fun i => listed.getD i false) i k = true → ∀ e ∈ o.after, Region.binds .any e = true → setX (fun i => listed.getD i false) i e.on = true := fun k o hk hXk e he hb => by
      unfold setX at hXk ⊢
      split
      · rfl
      · by_cases hki : k = i
        · subst hki
          have : o = x.o := by have h1 : ops.toList[k]? = some x.o := by simpa using ho
                               rw [h1] at hk; cases hk; rfl
          subst this
          exact hafter e he hb
        · rw [if_neg hki] at hXk
          exact hdown' k o hk hXk e he hb
    have hahead : ∀ j, ((masks ops.toList []).getD i 0).testBit j = true → j ≠ i → listed.getD j false = true := fun j hj hne => by
      have := masks_down hback hdownX i (by simpa using hi') (by simp [setX]) j hj
      unfold setX at this
      rw [if_neg hne] at this
      exact this
    have hbehind : ∀ j, j < ops.size → ((masks ops.toList []).getD j 0).testBit i = true → listed.getD j false = false := fun j hj hb => by
      cases h : listed.getD j false with
      | false => rfl
      | true =>
        have := masks_down hback (X := fun i => listed.getD i false) hdown' j (by simpa using hj) h i hb
        simp only [hXi] at this
        cases this
    have hrel : ∀ {j : Nat} {y : Rec}, recs[j]? = some y → j ≠ i → y.dead = false → listed.getD j false = decide (j < i) ∨ (j < i ∧ indep ops y x = true) ∨ (i < j ∧ indep ops x y = true) := fun {j y} hy hne hyd => by
      have hj : j < ops.size := by rw [← hsz]; exact (List.getElem?_eq_some_iff.1 hy).1
      rcases Nat.lt_or_gt_of_ne hne with h | h
      · rcases hpairs h hy hx (.inl hyd) hxd with hb | hb
        · left; rw [hahead j hb hne]; simp [h]
        · exact .inr (.inl ⟨h, hb⟩)
      · rcases hpairs h hx hy hxd (.inl hyd) with hb | hb
        · left; rw [hbehind j hj hb]; simp; omega
        · exact .inr (.inr ⟨h, hb⟩)
    have hself : listed.getD i false = decide (i < i) := by rw [hXi]; simp
    have hTd : ∀ {y : Rec} {t : Nat}, uT y t ≠ none → y.dead = false ∧ y.o.dst = some t := fun {y t} h => by
      unfold uT at h
      cases hdy : y.dead with
      | true => rw [hdy] at h; exact absurd rfl h
      | false =>
        rw [hdy] at h
        simp only at h
        split at h
        · rename_i e; exact ⟨rfl, e⟩
        · exact absurd rfl h
    have hMd : ∀ {y : Rec} {k : Nat}, uM y k ≠ none → y.dead = false ∧ k ∈ y.ws.map (·.1) := fun {y k} h => by
      unfold uM at h
      refine ⟨?_, ?_⟩
      · cases hdy : y.dead with
        | true => exfalso; apply h; unfold Rec.ws; rw [hdy]; rfl
        | false => rfl
      · cases hf : findL y.ws k with
        | none => exact absurd hf h
        | some b => exact List.mem_map.2 ⟨_, findL_mem hf, rfl⟩
    -- what the operation looks at is what it finds in the text's order
    have hTm : ∀ t, t ∈ x.o.looksAt ops → ov (recs.map uT) (fun i => listed.getD i false) 0 (findL st0.tm) t = findL x.st.tm t := fun t ht => by
      rw [← (chain_at 0 hch i x hx).1 t]
      refine ov_congr _ _ _ _ _ _ _ (fun j u hu hne => ?_) rfl
      simp only [Nat.zero_add]
      rw [List.getElem?_map] at hu
      obtain ⟨y, hy, rfl⟩ := Option.map_eq_some_iff.1 hu
      by_cases hji : j = i
      · subst hji; exact hself
      obtain ⟨hyd, hdst⟩ := hTd hne
      rcases hrel hy hji hyd with h | ⟨_, h⟩ | ⟨_, h⟩
      · exact h
      · unfold indep at h
        simp only [Bool.and_eq_true] at h
        exact absurd ht ((Oper.apart_spec h.1.1.1).1 t hdst)
      · unfold indep at h
        simp only [Bool.and_eq_true] at h
        exact absurd ht ((Oper.apart_spec h.1.1.1).2.2 t hdst)
    have hMm : ∀ k, k ∈ x.rs → ov (recs.map uM) (fun i => listed.getD i false) 0 (findL st0.mem) k = findL x.st.mem k := fun k hk => by
      rw [← (chain_at 0 hch i x hx).2 k]
      refine ov_congr _ _ _ _ _ _ _ (fun j u hu hne => ?_) rfl
      simp only [Nat.zero_add]
      rw [List.getElem?_map] at hu
      obtain ⟨y, hy, rfl⟩ := Option.map_eq_some_iff.1 hu
      by_cases hji : j = i
      · subst hji; exact hself
      obtain ⟨hyd, hw⟩ := hMd hne
      rcases hrel hy hji hyd with h | ⟨_, h⟩ | ⟨_, h⟩
      · exact h
      · unfold indep at h
        simp only [Bool.and_eq_true] at h
        exact (disj_spec h.1.1.2 hw hk).elim
      · unfold indep at h
        simp only [Bool.and_eq_true] at h
        exact (disj_spec h.1.2 hw hk).elim
    have hMall : pj = some i → ∀ k, ov (recs.map uM) (fun i => listed.getD i false) 0 (findL st0.mem) k = findL x.st.mem k := fun hpi k => by
      rw [← (chain_at 0 hch i x hx).2 k]
      refine ov_congr _ _ _ _ _ _ _ (fun j u hu hne => ?_) rfl
      simp only [Nat.zero_add]
      rw [List.getElem?_map] at hu
      obtain ⟨y, hy, rfl⟩ := Option.map_eq_some_iff.1 hu
      by_cases hji : j = i
      · subst hji; exact hself
      obtain ⟨hyd, hw⟩ := hMd hne
      rw [hpi] at hpanc
      simp only at hpanc
      have h1 := List.all_eq_true.1 hpanc j (by simpa using (List.getElem?_eq_some_iff.1 hy).1)
      rw [hy] at h1
      simp only [Bool.or_eq_true, Bool.and_eq_true] at h1
      rcases h1 with h1 | ⟨h1, h2⟩
      · have : y.ws = [] := by simpa using h1
        rw [this] at hw; cases hw
      · have hlt : j < i := Nat.lt_of_succ_le (Nat.le_of_ble_eq_true h1)
        rw [hahead j h2 hji]; simp [hlt]
    -- the overlay behind it
    have hset : ∀ j, (listed.setIfInBounds i true).getD j false = setX (fun i => listed.getD i false) i j := fun j => by
      unfold setX
      by_cases hji : j = i
      · subst hji; simp [Array.getD, hil]
      · rw [if_neg hji]
        rw [getD_set_ne false (by omega)]
    have hovT : ov (recs.map uT) (fun j => (listed.setIfInBounds i true).getD j false) 0 (findL st0.tm) = app (uT x) (ov (recs.map uT) (fun i => listed.getD i false) 0 (findL st0.tm)) := by
      funext t
      simp only [hset]
      unfold app
      cases hu : uT x t with
      | some v =>
        have hdst : x.o.dst = some t := (hTd (y := x) (t := t) (by rw [hu]; simp)).2
        refine ov_last _ _ _ _ _ i (uT x) v (by simp [hx]) hu (by simp [setX]) (fun j u' hj hu' hne => ?_)
        rw [List.getElem?_map] at hu'
        obtain ⟨y, hy, rfl⟩ := Option.map_eq_some_iff.1 hu'
        obtain ⟨hyd, hdst'⟩ := hTd hne
        have hji : j ≠ i := by omega
        simp only [Nat.zero_add, setX, if_neg hji]
        rcases hrel hy hji hyd with h | ⟨h', _⟩ | ⟨_, h⟩
        · rw [h]; simp; omega
        · omega
        · unfold indep at h
          simp only [Bool.and_eq_true] at h
          exact absurd hdst' ((Oper.apart_spec h.1.1.1).2.1 t hdst)
      | none =>
        refine ov_congr _ _ _ _ _ _ _ (fun j u hu' hne => ?_) rfl
        simp only [Nat.zero_add, setX]
        split
        · rename_i e
          subst e
          rw [List.getElem?_map, hx] at hu'
          simp only [Option.map_some, Option.some.injEq] at hu'
          subst hu'
          exact absurd hu hne
        · rfl
    have hovM : ov (recs.map uM) (fun j => (listed.setIfInBounds i true).getD j false) 0 (findL st0.mem) = app (uM x) (ov (recs.map uM) (fun i => listed.getD i false) 0 (findL st0.mem)) := by
      funext k
      simp only [hset]
      unfold app
      cases hu : uM x k with
      | some v =>
        have hw : k ∈ x.rs := List.mem_append_right _ (List.mem_map.2 ⟨_, findL_mem hu, rfl⟩)
        refine ov_last _ _ _ _ _ i (uM x) v (by simp [hx]) hu (by simp [setX]) (fun j u' hj hu' hne => ?_)
        rw [List.getElem?_map] at hu'
        obtain ⟨y, hy, rfl⟩ := Option.map_eq_some_iff.1 hu'
        obtain ⟨hyd, hw'⟩ := hMd hne
        have hji : j ≠ i := by omega
        simp only [Nat.zero_add, setX, if_neg hji]
        rcases hrel hy hji hyd with h | ⟨h', _⟩ | ⟨_, h⟩
        · rw [h]; simp; omega
        · omega
        · unfold indep at h
          simp only [Bool.and_eq_true] at h
          exact (disj_spec h.1.2 hw' hw).elim
      | none =>
        refine ov_congr _ _ _ _ _ _ _ (fun j u hu' hne => ?_) rfl
        simp only [Nat.zero_add, setX]
        split
        · rename_i e
          subst e
          rw [List.getElem?_map, hx] at hu'
          simp only [Option.map_some, Option.some.injEq] at hu'
          subst hu'
          exact absurd hu hne
        · rfl
    have hnext : x.dead = false → ∀ a' w', RF E (app (uT x) (ov (recs.map uT) (fun i => listed.getD i false) 0 (findL st0.tm))) (app (uM x) (ov (recs.map uM) (fun i => listed.getD i false) 0 (findL st0.mem))) a' w' → wpAny C.P .any ops Q fuel (listed.setIfInBounds i true) a' w' := fun hxl a' w' hR' => by
      refine ih _ a' w' (by simpa using hs) ?_ (fun k o hk hXk e he hb => ?_) (fun k hk => ?_) (by rw [hovT, hovM]; exact hR')
      · have : (List.range ops.size).countP (fun j => !((listed.setIfInBounds i true).getD j false)) < (List.range ops.size).countP (fun j => !(listed.getD j false)) := by
          refine countP_lt (x := i) (fun j _ hj => ?_) (by simpa using hi') (by rw [hXi]; rfl) (by rw [hset]; simp [setX])
          rw [hset] at hj
          unfold setX at hj
          split at hj
          · cases hj
          · exact hj
        omega
      · rw [hset] at hXk ⊢
        exact hdownX k o (by simpa using hk) hXk e he hb
      · rw [hset] at hk
        unfold setX at hk
        split at hk
        · rename_i e
          subst e
          intro hm
          have := (hD.mem k x hx).2 hm
          rw [hxl] at this; cases this
        · exact hlive k hk
    have hrecx : RecOk C ops x := by
      rcases hxd with h | h
      · exact (hD.live i x hx h).1
      · obtain ⟨_, y, hy, h2, _⟩ := hD.pan i h
        rw [hx] at hy; cases hy; exact h2
    have hxrun : x.dead = true → x.run = true ∧ ∃ v, x.r.v = .pan v := fun hdx => by
      rcases hxd with h | h
      · rw [hdx] at h; cases h
      · obtain ⟨_, y, hy, _, h3, h4⟩ := hD.pan i h
        rw [hx] at hy; cases hy; exact ⟨h3, h4⟩
    obtain ⟨hguard, hrun, hskip⟩ := hrecx
    have hwant : Region.wanted x.o (yielded ops a.tmps) = x.run := by
      cases hg : x.o.guard with
      | none => rw [hg] at hguard; simp [Region.wanted, hg, hguard]
      | some p =>
        obtain ⟨j, want⟩ := p
        rw [hg] at hguard
        obtain ⟨b, hb, hr⟩ := hguard
        obtain ⟨d, hd, hf⟩ := gval_spec hb
        have hlook := looks_guard hg hd
        have hy := gval_any hR hd (by rw [hTm d hlook]; exact hf)
        rw [hr]
        exact wanted_runs hg hy
    unfold wpOp
    rw [ho]
    simp only [hwant]
    cases hxr : x.run with
    | false =>
      simp only [Bool.false_eq_true, if_false]
      have hr := hskip hxr
      have hxl : x.dead = false := by
        cases hdx : x.dead with
        | false => rfl
        | true => have := (hxrun hdx).1; rw [hxr] at this; cases this
      refine hnext hxl _ _ ?_
      rw [← putF_app x hxl, ← updF_app x hxl, hr]
      have h1 := RF_put_und hR x.o.dst
      rw [updF_pure]
      exact h1
    | true =>
      simp only [if_true]
      obtain ⟨hspec, hok⟩ := hrun hxr
      obtain ⟨q1, q2, q3, q4, q5, q6⟩ := resOk_spec hok
      refine .inl (step_ok (by rw [hn.2.1]; exact hspec) hR (fun y hy tv htv ι S I => ?_) (fun k hk b hb => ?_) (fun k b hk => ?_) (fun ni hni => ?_) (by rw [hn.2.2]; exact q6) (fun k b b' => uniqB_ok q2 k b b') (fun d hd => by rw [hn.1]; exact q5 d hd) (fun hnp a' w' hR' => ?_) (fun v hv w' hR' => ?_))
      · cases y with
        | tmp t =>
          refine ev_ok I ?_
          show ov _ _ _ _ t = some tv
          rw [hTm t (looks_op hy)]
          exact htv
        | const v => exact ev_ok I (x := .const v) htv
        | func f => exact ev_ok I (x := .func f) htv
        | global g => cases htv
      · rw [hMm k (List.mem_append_left _ hk)]; exact hb
      · obtain ⟨b', hb', hl'⟩ := q1 k b hk
        exact ⟨b', by rw [hMm k (List.mem_append_left _ (q3 k b hk))]; exact hb', hl'⟩
      · obtain ⟨h6, h7, h8⟩ := q4 ni hni
        have hnews0 : x.st.nx + ni ∈ (x.r.news x.st.nx).map (·.1) := newsL_has _ _ _ hni
        obtain ⟨q, hq, hq2⟩ := List.mem_map.1 hnews0
        obtain ⟨hs1, hs2⟩ := chain_sub hch i x hx
        have hmen : ∀ {j : Nat} {y : Rec}, recs[j]? = some y → y.dead = false → listed.getD j false = true → (∀ d, y.o.dst = some d → y.r.v.men (x.st.nx + ni) = false) ∧ ∀ p ∈ y.ws, p.2.men (x.st.nx + ni) = false := fun {j y} hy hyd hXj => by
          have hji : j ≠ i := fun e => by subst e; rw [hXi] at hXj; cases hXj
          have hless : j < i → (∀ d, y.o.dst = some d → y.r.v.men (x.st.nx + ni) = false) ∧ ∀ p ∈ y.ws, p.2.men (x.st.nx + ni) = false := fun hlt => by
            obtain ⟨m1, m2⟩ := chain_made hch i j x y hx hy hlt
            exact ⟨fun d hd => h7 _ (m1 d hyd hd), fun p hp => h8 p (m2 p hp)⟩
          rcases hrel hy hji hyd with h | ⟨h, _⟩ | ⟨_, h⟩
          · rw [hXj] at h
            exact hless (of_decide_eq_true h.symm)
          · exact hless h
          · unfold indep at h
            simp only [Bool.and_eq_true] at h
            have h3 := List.all_eq_true.1 h.2 q hq
            simp only [Bool.and_eq_true] at h3
            rw [hq2] at h3
            exact ⟨fun _ _ => by simpa using h3.1, fun p hp => by simpa using List.all_eq_true.1 h3.2 p hp⟩
        refine ⟨?_, fun t tv ht => ?_, fun k b hk => ?_⟩
        · rcases hxd with hxl | hpi
          · have hnews : x.st.nx + ni ∈ x.ws.map (·.1) := List.mem_map.2 ⟨q, by unfold Rec.ws; rw [hxl]; exact List.mem_append_right _ hq, hq2⟩
            rw [hMm _ (List.mem_append_right _ hnews)]; exact h6
          · rw [hMall hpi]; exact h6
        · rcases ov_from _ _ _ _ _ _ ht with h | ⟨j, u, hu1, hu2, hu3⟩
          · exact h7 _ (hs1 _ (findL_mem h))
          · rw [List.getElem?_map] at hu1
            obtain ⟨y, hy, rfl⟩ := Option.map_eq_some_iff.1 hu1
            simp only [Nat.zero_add] at hu2
            obtain ⟨hyd, hdst⟩ := hTd (y := y) (t := t) (by rw [hu3]; simp)
            unfold uT at hu3
            rw [hyd] at hu3
            simp only [hdst, if_true, Option.some.injEq] at hu3
            subst hu3
            exact (hmen hy hyd hu2).1 _ hdst
        · rcases ov_from _ _ _ _ _ _ hk with h | ⟨j, u, hu1, hu2, hu3⟩
          · exact h8 _ (hs2 _ (findL_mem h))
          · rw [List.getElem?_map] at hu1
            obtain ⟨y, hy, rfl⟩ := Option.map_eq_some_iff.1 hu1
            simp only [Nat.zero_add] at hu2
            exact (hmen hy (hMd (y := y) (k := k) (by rw [hu3]; simp)).1 hu2).2 _ (findL_mem hu3)
      · have hxl : x.dead = false := by
          cases hdx : x.dead with
          | false => rfl
          | true => obtain ⟨v, hv⟩ := (hxrun hdx).2; exact absurd hv (hnp v)
        exact hnext hxl a' w' (by rw [← putF_app x hxl, ← updF_app x hxl]; exact hR')
      · have hpi : pj = some i := by
          rcases hxd with h | h
          · exact absurd hv ((hD.live i x hx h).2 v)
          · exact h
        refine hQp i x v hpi hx hv a w' (RF_weak (fun t v ht => by cases ht) (fun k b hk => ?_) hR')
        rw [← updF_step] at hk
        have : ov (recs.map uM) (fun i => listed.getD i false) 0 (findL st0.mem) = findL x.st.mem := funext fun k => hMall hpi k
        rw [this]; exact hk
end
end Go.Proofs.YtkeehnhamkdogaaDoor
