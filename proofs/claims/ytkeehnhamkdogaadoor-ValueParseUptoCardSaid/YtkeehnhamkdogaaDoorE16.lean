/- A function whose one deferred closure recovers. No condition. -/
import Derived.Test.YtkeehnhamkdogaaDoorE15
import Derived.Defers
import Derived.Recover
namespace Go.Proofs.YtkeehnhamkdogaaDoor
set_option linter.unusedVariables false
set_option linter.unusedSimpArgs false
open Go.RowKit
set_option maxRecDepth 100000

/-- A piece of code over some objects, entered with slots of which something is known. -/
theorem code_after {C : Ctx} {c : Code} (hL : LOk C.P C.L) (hm : C.P.follows .mixedOrders = true) {tm : List (Nat × TV)} {m : List (Nat × Blk)} (hml : (m.all fun p => Nat.blt p.1 C.nx0) = true) {upd : List (Nat × Blk)} {new : List Blk}
    (h : vc C c ⟨tm, m, C.nx0⟩ fun e st => match e with
      | .normal => retOkP (m.map (·.1)) C.nx0 upd new st
      | _ => False)
    {ι : Nat → Value} {S : Nat → Prop} {w : World} {a : Act} (hS : ∀ b, S b → b < w.heap.size) (hG : C.Γ.G S w) (hblk : ∀ p ∈ m, BlkOk ι S w p.1 p.2)
    (hdst : ∀ p ∈ m, ∀ q ∈ m, ∀ g, p.2.live = true → q.2.live = true → blkOf (ι p.1) = some g → blkOf (ι q.1) = some g → p.1 = q.1) (htm : ∀ t tv, findL tm t = some tv → V ι S w tv (a.tmps.getD t undef)) (hsz : a.tmps.size = C.n) (hdn : a.defers = []) :
    c.wp C.P (fun e a' w' => e = .normal ∧ a'.defers = [] ∧ ∃ ι' S', After ι S w C.nx0 ⟨.und, m.map (·.1), upd, new⟩ undef ι' S' w') a w := by
  have hmlt : ∀ p ∈ m, p.1 < C.nx0 := fun p hp => Nat.lt_of_succ_le (Nat.le_of_ble_eq_true (List.all_eq_true.1 hml p hp))
  have hR : RS ⟨w, fun g => ∃ p ∈ m, p.2.live = true ∧ blkOf (ι p.1) = some g, S, C.n, C.Γ, ι, C.nx0, []⟩ ⟨tm, m, C.nx0⟩ a w :=
    ⟨ι, S, rfl, rfl, rfl, Nat.le_refl _, fun _ _ _ => rfl, hS, fun _ h => h, fun _ h => .inl h, htm, fun k b hk => hblk _ (findL_mem hk), fun k b hk hl g hg => .inl ⟨(k, b), findL_mem hk, hl, hg⟩, fun k k' b b' g hk hk' hl hl' hg hg' => hdst _ (findL_mem hk) _ (findL_mem hk') g hl hl' hg hg', hdn, hsz, hG, fun _ _ => rfl⟩
  refine Code.wp_mono (fun e a' w' hq => ?_) (vc_ok hL ⟨rfl, rfl, rfl⟩ hm c _ _ _ w h hR)
  obtain ⟨st, ⟨ι1, S1, I⟩, hq⟩ := hq
  cases e with
  | normal =>
    have hq : retOkP (m.map (·.1)) C.nx0 upd new st := hq
    unfold retOkP at hq
    split at hq
    · rename_i u n src hex
      obtain ⟨hchk, hu, hnw⟩ := hq
      obtain ⟨ι', S', A⟩ := core_after (C := C) hmlt ι1 S1 .und undef [] u n src I hex hchk hu hnw (by simp) (fun _ => rfl)
      exact ⟨rfl, I.dn, ι', S', A⟩
    · exact hq.elim
  | _ => exact hq.elim
/-- The end of a function of data: what the results are, in a state. -/
theorem end_data {C : Ctx} (hL : LOk C.P C.L) {S : Nat → Prop} {w w' : World} {st : St} {a : Act} {dd : List Deferred} {ιx : Nat → Value} {nxx : Nat} {fn : Func} {r : TV} (hR' : RS ⟨w, fun _ => False, S, C.n, C.Γ, ιx, nxx, dd⟩ st a w') (hret : retOk C.L fn.results.toList r st) :
    ∃ v, (results fn a.tmps).run C.P w' = .ok v w' ∧ ∃ x S', Ending.returned v = .returned x ∧ Below w.heap.size w w' ∧ (∀ b, S b → S' b) ∧ (∀ b, S' b → S b ∨ w.heap.size ≤ b) ∧ (∀ b, S' b → b < w'.heap.size) ∧ V ι0 S' w' r x := by
  obtain ⟨ι, S1, I⟩ := hR'
  unfold retOk at hret
  split at hret
  · rename_i ys ks hy
    obtain ⟨v, hres, hrows, hval⟩ := results_ok hL I hy
    refine ⟨v, hres, v, giveUp ι S1 ks, rfl, ⟨I.os, I.tape, I.output, I.size, fun b hb => I.old b hb (fun h => h)⟩, fun b hb => .inl (I.s0 b hb), fun b hb => ?_, fun b hb => ?_, hret _ _ _ _ (hval ι0)⟩
    · rcases hb with hb | ⟨k, hk, hb⟩
      · rcases I.sg b hb with h | h | h
        · exact .inl h
        · exact .inr h
        · exact h.elim
      · obtain ⟨size, e, rows, hm, _⟩ := hrows k hk
        rcases I.mutb k _ hm rfl b hb with h | h
        · exact h.elim
        · exact .inr h
    · rcases hb with hb | ⟨k, hk, hb⟩
      · exact I.slt b hb
      · obtain ⟨size, e, rows, _, hr⟩ := hrows k hk
        exact (row_lt hr b hb).1
  · exact hret.elim
/-- What the caught panic leaves. -/
def caughtSt (st : St) (upd : List (Nat × Blk)) : St := ⟨st.tm, upd ++ st.mem, st.nx⟩
def fnQD (L : Nat → Option Lay) (rs : List ResultVar) (r : TV) (Hit : Value → St → List (Nat × Blk) → Prop) : Exit → St → Prop
  | .normal, st | .ret, st => retOk L rs r st
  | .panic ch, st => ∃ v upd, ch = panE v ∧ Hit v st upd ∧ (upd.all fun p => match findL st.mem p.1 with | some b => b.live | none => false) = true ∧ uniqB upd = true ∧ retOk L rs r (caughtSt st upd)
  | _, _ => False
/-- The slots that the closure captures: pointers to objects. -/
def capsOk : List Nat → List Nat → St → Prop
  | t :: ts, k :: ks, st => findL st.tm t = some (.o (.c (.ptr k 0))) ∧ capsOk ts ks st
  | [], [], _ => True
  | _, _, _ => False
theorem capsOk_vs {E : Env} {ι : Nat → Value} {S : Nat → Prop} {st : St} {a : Act} {w : World} (I : Inv E ι S (findL st.tm) (findL st.mem) a w) : ∀ {caps capN : List Nat}, capsOk caps capN st → (caps.map fun t => a.tmps.getD t undef) = capN.map ι
  | [], [], _ => rfl
  | t :: ts, k :: ks, h => by
    rw [List.map_cons, List.map_cons, capsOk_vs I h.2]
    obtain ⟨b, h1, h2⟩ := I.tms t _ h.1
    rw [h2, h1]
  | [], _ :: _, h => h.elim
  | _ :: _, [], h => h.elim
/-- A function of data with one deferred closure that recovers: ahead of the 'defer' two pieces of code. -/
theorem fn_ruleD {C : Ctx} {f g : FuncId} {fn : Func} {x0 x1 rg c : Code} {t9 nx2 : Nat} {caps capN : List Nat} (hL : LOk C.P C.L) (hm : C.P.follows .mixedOrders = true) (hf : C.P.funcs[f]? = some fn) (hb : fn.body = some (.seq x0 (.seq x1 (.seq rg c)))) (hname : (fn.name == "runtime.NumGoroutine") = false)
    (hn : fn.ntmps = C.n) (h0 : C.nx0 = 0) {xs : List T1} (hx : Nat.ble xs.length C.n = true) {r : TV} (Hit : Value → St → List (Nat × Blk) → Prop)
    (hdef : ∀ (a : Act) (w : World) (Q : Exit → Act → World → Prop), a.tmps.size = C.n → (∀ u : Value, Q .normal { tmps := a.tmps.setIfInBounds t9 u, defers := { target := .fn (.func g) (caps.map fun t => a.tmps.getD t undef).toArray, args := #[] } :: a.defers } w) → rg.wp C.P Q a w)
    (henter : ∀ (vs : Array Value) (w : World), (callFunc g vs).run C.P w = .ok (.enter g vs) w)
    (hidle : ∀ (vs : List Value) (w : World), vs.length = capN.length → CallsD C.P g vs.toArray .returning w fun e u' w' => e = .returned (.tuple #[]) ∧ u' = .returning ∧ w' = w)
    (hcn : (capN.all fun k => Nat.blt k nx2) = true)
    (hhit : ∀ v st upd, Hit v st upd → ∀ (ι : Nat → Value) (S : Nat → Prop) (w : World), (∀ b, S b → b < w.heap.size) → C.Γ.G S w → (∀ k b, findL st.mem k = some b → BlkOk ι S w k b) →
      (∀ k k' b b' g, findL st.mem k = some b → findL st.mem k' = some b' → b.live = true → b'.live = true → blkOf (ι k) = some g → blkOf (ι k') = some g → k = k') →
      CallsD C.P g (capN.map ι).toArray (.panicking (panE v)) w fun e' u' w' => e' = .returned (.tuple #[]) ∧ u' = .panicking [{ v, recovered := true }] ∧ ∃ ι' S', After ι S w st.nx ⟨.und, [], upd, []⟩ undef ι' S' w')
    (h : vc C x0 ⟨argTm 0 xs, [], 0⟩ fun e st => match e with
      | .normal => vc C x1 st fun e st => match e with
        | .normal => capsOk caps capN st ∧ Nat.ble nx2 st.nx = true ∧ vc { C with nx0 := nx2 } c ⟨(t9, .no) :: st.tm, st.mem, st.nx⟩ (fnQD C.L fn.results.toList r Hit)
        | _ => False
      | _ => False) : CallsA C.P C.Γ f xs r := by
  refine ⟨⟨fn, hf, hname, by rw [hb]; rfl⟩, fun S w vs hS hG hvs => ?_⟩
  have hxl := Nat.le_of_ble_eq_true hx
  have hlen := hvs.len
  refine calls_of_wp_defers hf hb ?_
  have hR : RS ⟨w, fun _ => False, S, C.n, C.Γ, ι0, 0, []⟩ ⟨argTm 0 xs, [], 0⟩ { tmps := vs.toArray ++ Array.replicate (fn.ntmps - vs.toArray.size) undef, defers := [] } w := by
    refine ⟨ι0, S, rfl, rfl, rfl, Nat.le_refl _, fun _ _ _ => rfl, hS, fun _ h => h, fun _ h => .inl h, fun t tv ht => ?_, (fun k b hk => by cases hk), (fun k b hk => by cases hk), (fun k k' b b' g hk => by cases hk), rfl, ?_, hG, fun _ _ => rfl⟩
    · obtain ⟨x, rfl, _, hx⟩ := argTm_find xs 0 t tv ht
      rw [Nat.sub_zero] at hx
      obtain ⟨u, hu, hv⟩ := hvs.at_left hx
      have hlt := (List.getElem?_eq_some_iff.1 hu).1
      have : (vs.toArray ++ Array.replicate (fn.ntmps - vs.toArray.size) undef).getD t undef = u := by
        simp [Array.getElem?_append, hlt, hu]
        have h2 := (List.getElem?_eq_some_iff.1 hu).2
        exact h2
      show V ι0 S w (.o x) _
      dsimp only
      rw [this]
      exact hv
    · simp; omega
  refine wp_seq (Code.wp_mono (fun e a w1 hq => ?_) (vc_ok hL ⟨rfl, rfl, h0.symm⟩ hm x0 _ _ _ w h hR))
  obtain ⟨st1, hR1, hq⟩ := hq
  cases e with
  | normal =>
    refine wp_seq (Code.wp_mono (fun e a2 w2 hq2 => ?_) (vc_ok hL ⟨rfl, rfl, h0.symm⟩ hm x1 _ _ _ w1 hq hR1))
    obtain ⟨st2, hR2, hq2⟩ := hq2
    cases e with
    | normal =>
      obtain ⟨ι2, S2, I2⟩ := hR2
      refine wp_seq (hdef a2 w2 _ I2.sz fun u => ?_)
      rw [I2.dn]
      obtain ⟨hcaps, hnx2, hq2⟩ := hq2
      rw [capsOk_vs I2 hcaps]
      obtain ⟨d, hd⟩ : ∃ d : Deferred, d = { target := .fn (.func g) (capN.map ι2).toArray, args := #[] } := ⟨_, rfl⟩
      rw [← hd]
      have hR3 : RS ⟨w, fun _ => False, S, C.n, C.Γ, ι2, nx2, [d]⟩ ⟨(t9, .no) :: st2.tm, st2.mem, st2.nx⟩ { tmps := a2.tmps.setIfInBounds t9 u, defers := [d] } w2 := by
        refine ⟨ι2, S2, I2.os, I2.tape, I2.output, I2.size, I2.old, I2.slt, I2.s0, I2.sg, fun t tv ht => ?_, I2.blk, I2.mutb, I2.dst, rfl, by simpa using I2.sz, I2.gl, fun _ _ => rfl⟩
        simp only [findL] at ht
        split at ht
        · cases ht; trivial
        · rename_i hne
          have := I2.tms t tv ht
          have e : (a2.tmps.setIfInBounds t9 u).getD t undef = a2.tmps.getD t undef := by
            simp only [Array.getD_eq_getD_getElem?]
            rw [Array.getElem?_setIfInBounds_ne hne]
          show V ι2 S2 w2 tv ((a2.tmps.setIfInBounds t9 u).getD t undef)
          rw [e]
          exact this
      refine Code.wp_mono (fun e a3 w3 hq3 => ?_) (vc_ok (C := { C with nx0 := nx2 }) hL ⟨rfl, rfl, rfl⟩ hm c _ _ _ w2 hq2 hR3)
      obtain ⟨st3, hR4, hq3⟩ := hq3
      have key : retOk C.L fn.results.toList r st3 → Leaves C.P fn a3.tmps (fun e w' => ∃ x S', e = .returned x ∧ Below w.heap.size w w' ∧ (∀ b, S b → S' b) ∧ (∀ b, S' b → S b ∨ w.heap.size ≤ b) ∧ (∀ b, S' b → b < w'.heap.size) ∧ V ι0 S' w' r x) a3.defers .returning w3 := fun hret => by
        obtain ⟨v, h1, h2⟩ := end_data hL hR4 hret
        obtain ⟨ι4, S4, I4⟩ := hR4
        rw [I4.dn, hd]
        refine leaves_cons (f := g) (args := (capN.map ι2).toArray) (by simp) (by simp [invoke, henter]) ?_
        refine (hidle _ _ (by simp)).mono ?_
        rintro e' u' w4 ⟨rfl, rfl, rfl⟩
        exact ⟨v, h1, h2⟩
      cases e with
      | normal => exact key hq3
      | ret => exact key hq3
      | panic ch =>
        obtain ⟨v, upd, rfl, hh, hlive, huq, hret⟩ := hq3
        obtain ⟨ι4, S4, I4⟩ := hR4
        show Leaves C.P fn a3.tmps _ a3.defers (.panicking (panE v)) w3
        rw [I4.dn, hd]
        have hι : capN.map ι2 = capN.map ι4 := List.map_congr_left fun k hk => (I4.ik k (by have := List.all_eq_true.1 hcn k hk; simpa [Nat.blt_eq] using this)).symm
        rw [hι]
        refine leaves_cons (f := g) (args := (capN.map ι4).toArray) (by simp) (by simp [invoke, henter]) ?_
        refine (hhit v st3 upd hh ι4 S4 w3 I4.slt I4.gl I4.blk I4.dst).mono ?_
        rintro e' u' w4 ⟨rfl, rfl, ι5, S5, A⟩
        have I5 := step_inv (tm' := findL st3.tm) (a' := a3) I4 A (fun k b hk => ?_) (fun i hi => by simp at hi) (fun h => by simp at h) (fun k b b' => uniqB_ok huq k b b') (fun hSb hmen t tv ht => ?_) I4.dn I4.sz
        · have hR5 : RS ⟨w, fun _ => False, S, C.n, C.Γ, ι2, nx2, [d]⟩ (caughtSt st3 upd) a3 w4 := by
            refine ⟨ι5, S5, ?_⟩
            have e : updF (findL st3.mem) ⟨.und, [], upd, []⟩ st3.nx = findL (caughtSt st3 upd).mem := updF_step st3 none ⟨.und, [], upd, []⟩
            rw [← e]
            exact I5
          obtain ⟨v5, h1, h2⟩ := end_data hL hR5 hret
          exact ⟨v5, h1, h2⟩
        · have := List.all_eq_true.1 hlive _ hk
          simp only at this
          split at this
          · rename_i b' hb'; exact ⟨b', hb', this⟩
          · cases this
        · exact V.mono hSb A.smono (hmen tv fun i hi => by simp at hi) (I4.tms t tv ht)
      | _ => exact hq3.elim
    | _ => exact hq2.elim
  | _ => exact hq.elim
end Go.Proofs.YtkeehnhamkdogaaDoor
