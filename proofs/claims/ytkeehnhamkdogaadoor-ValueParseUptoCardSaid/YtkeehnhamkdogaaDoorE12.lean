/- Code and functions over the abstract state. No condition. -/
import Derived.Test.YtkeehnhamkdogaaDoorE11
namespace Go.Proofs.YtkeehnhamkdogaaDoor
set_option linter.unusedVariables false
set_option linter.unusedSimpArgs false
open Go.RowKit

def leL {α : Type} : List (Nat × α) → List (Nat × α) → Prop
  | [], _ => True
  | (k, v) :: l, m => findL m k = some v ∧ leL l m
def St.le (s t : St) : Prop := leL s.tm t.tm ∧ leL s.mem t.mem
theorem leL_ok {α : Type} : ∀ {l m : List (Nat × α)}, leL l m → ∀ k v, findL l k = some v → findL m k = some v
  | [], _, _, k, v, h => by cases h
  | (k', v') :: l, m, hl, k, v, h => by
    simp only [findL] at h
    split at h
    · rename_i e; cases h; subst e; exact hl.1
    · exact leL_ok hl.2 k v h
theorem RS_le {E : Env} {s t : St} {a : Act} {w : World} (h : s.le t) (hR : RS E t a w) : RS E s a w := RF_weak (leL_ok h.1) (leL_ok h.2) hR

/-- What a state tells holds also as another one. -/
def SLe (nx0 : Nat) (s t : St) : Prop := ∀ (E : Env) (a : Act) (w : World), E.nx0 = nx0 → RS E t a w → RS E s a w
theorem SLe.of {nx0 : Nat} {s t : St} (h : s.le t) : SLe nx0 s t := fun _ _ _ _ hR => RS_le h hR
theorem SLe.trans {nx0 : Nat} {s t u : St} (h : SLe nx0 s t) (h' : SLe nx0 t u) : SLe nx0 s u := fun E a w he hR => h E a w he (h' E a w he hR)
theorem nil_row {ι : Nat → Value} {S : Nat → Prop} {w : World} {k size : Nat} {e : TypeId} (h : ι k = .slice none 0 0) : BlkOk ι S w k (.row size e []) :=
  ⟨[], by rw [h]; exact World.ownsRow_nil w 0 e size, .nil, by simp, fun g hg => by rw [h] at hg; cases hg⟩
/-- A nil slice in a slot may be taken for an own row without elements. -/
theorem SLe.own {nx0 : Nat} {s : St} (t k size : Nat) (e : TypeId) (ht : findL s.tm t = some Tnil) (hk : findL s.mem k = none) (h1 : (s.tm.all fun p => !p.2.men k) = true) (h2 : (s.mem.all fun p => !p.2.men k) = true) (hn : Nat.ble nx0 k = true) :
    SLe nx0 ⟨(t, .o (.c (.row k))) :: s.tm, (k, .row size e []) :: s.mem, k + 1⟩ s := fun E a w he ⟨ι, S, I⟩ => by
  have hn' : E.nx0 ≤ k := by rw [he]; exact Nat.le_of_ble_eq_true hn
  obtain ⟨ι', hι'⟩ : ∃ ι' : Nat → Value, ∀ j, ι' j = if j = k then .slice none 0 0 else ι j := ⟨_, fun _ => rfl⟩
  have hk' : ι' k = .slice none 0 0 := by rw [hι', if_pos rfl]
  have ho : ∀ j, j ≠ k → ι' j = ι j := fun j hj => by rw [hι', if_neg hj]
  have hmt : ∀ t tv, findL s.tm t = some tv → ∀ j, tv.men j = true → ι' j = ι j := fun t tv ht j hj => ho j fun e => by
    subst e
    have := List.all_eq_true.1 h1 _ (findL_mem ht)
    rw [hj] at this; cases this
  have hmm : ∀ n b, findL s.mem n = some b → ∀ j, b.men j = true → ι' j = ι j := fun n b hb j hj => ho j fun e => by
    subst e
    have := List.all_eq_true.1 h2 _ (findL_mem hb)
    rw [hj] at this; cases this
  have hne : ∀ n b, findL s.mem n = some b → n ≠ k := fun n b hb e => by subst e; rw [hk] at hb; cases hb
  have hcase : ∀ n b, findL ((k, Blk.row size e []) :: s.mem) n = some b → (n = k ∧ b = .row size e []) ∨ findL s.mem n = some b := fun n b hb => by
    simp only [findL] at hb
    split at hb
    · rename_i e; cases hb; exact .inl ⟨e.symm, rfl⟩
    · exact .inr hb
  refine ⟨ι', S, I.os, I.tape, I.output, I.size, I.old, I.slt, I.s0, I.sg, fun t' tv ht' => ?_, fun n b hb => ?_, fun n b hb hl g hg => ?_, fun n n' b b' g hb hb' hl hl' hg hg' => ?_, I.dn, I.sz, I.gl, fun j hj => (ho j (by omega)).trans (I.ik j hj)⟩
  · simp only [findL] at ht'
    split at ht'
    · rename_i e
      cases ht'
      subst e
      have := V_v (I.tms t _ ht)
      exact ⟨this.trans hk'.symm, none, 0, 0, this⟩
    · exact V.mono (fun _ _ => rfl) (fun _ h => h) (hmt t' tv ht') (I.tms t' tv ht')
  · rcases hcase n b hb with ⟨rfl, rfl⟩ | hb
    · exact nil_row hk'
    · have hb0 := I.blk n b hb
      refine BlkOk.mono (fun _ _ => rfl) (fun _ h => h) (fun _ => ho n (hne n b hb)) (hmm n b hb) (fun hl g hg => ⟨rfl, ?_⟩) hb0
      cases b with
      | dead => cases hl
      | obj cells => obtain ⟨b2, arr, ty, h1, _, _, h4⟩ := hb0; rw [h1] at hg; cases hg; exact h4
      | row size e rows => exact (row_lt hb0 g hg).2
  · rcases hcase n b hb with ⟨rfl, rfl⟩ | hb
    · rw [hk'] at hg; cases hg
    · rw [ho n (hne n b hb)] at hg; exact I.mutb n b hb hl g hg
  · rcases hcase n b hb with ⟨rfl, rfl⟩ | hb
    · rw [hk'] at hg; cases hg
    · rcases hcase n' b' hb' with ⟨rfl, rfl⟩ | hb'
      · rw [hk'] at hg'; cases hg'
      · rw [ho n (hne n b hb)] at hg
        rw [ho n' (hne n' b' hb')] at hg'
        exact I.dst n n' b b' g hb hb' hl hl' hg hg'
/-- A loop: the states at its head, by what they hold; what each round lowers. -/
structure LoopI where
  X : Type
  f : X → St
  μ : X → Nat
  p : X → Prop
/-- Where ways come together: the states there, by what they hold. -/
structure JoinI where
  X : Type
  f : X → St
  p : X → Prop
def headIn (l : List Nat) : Code → Bool
  | .region id _ _ => memN id l
  | .seq x _ => headIn l x
  | .block _ c => headIn l c
  | .loop c => headIn l c
  | _ => false
noncomputable def endD (recs : List Rec) (pj : Option Nat) (K : St → Prop) (Kp : Value → St → Prop) (st' : St) : Prop := match pj with
  | none => K st'
  | some p => match recs[p]? with
    | some x => panK x.r.v (fun v => stepK ⟨[], x.st.mem, x.st.nx⟩ none x.r fun st => Kp v st) False
    | none => False
noncomputable def vcReg (C : Ctx) (ops : Array Oper) (draw : Bool) (st : St) (K : St → Prop) (Kp : Value → St → Prop) : Prop := match draw with
  | false => vcOps C ops ops.toList st K Kp
  | true => vcD C ops ops.toList [] [] none st fun recs pj st' => drawOk ops recs pj = true ∧ endD recs pj K Kp st'
noncomputable def vc (C : Ctx) (c : Code) : St → (Exit → St → Prop) → Prop :=
  Code.rec (motive := fun _ => St → (Exit → St → Prop) → Prop)
    (fun st Q => Q .normal st)
    (fun id ops draw st Q => match memN id C.ja with
      | false => vcReg C ops draw st (fun st' => Q .normal st') (fun v st' => Q (.panic (panE v)) st')
      | true => ∃ I : JoinI, (vcReg C ops draw st (fun st' => ∃ x, I.p x ∧ SLe C.nx0 (I.f x) st') (fun v st' => Q (.panic (panE v)) st')) ∧ ∀ x, I.p x → Q .normal (I.f x))
    (fun _ y vx vy st Q => match headIn C.jb y with
      | false => vx st fun e st' => match e with
        | .normal => vy st' Q
        | e => Q e st'
      | true => ∃ I : JoinI, (vx st fun e st' => match e with
        | .normal => ∃ x, I.p x ∧ SLe C.nx0 (I.f x) st'
        | e => Q e st') ∧ ∀ x, I.p x → vy (I.f x) Q)
    (fun c _ _ vx vy st Q => match evS st c with
      | some (.o (.c (.d (.v (.bool b))))) => match b with
        | true => vx st Q
        | false => vy st Q
      | _ => False)
    (fun id _ vx st Q => vx st fun e st' => match e with
      | .exit id' => match Nat.beq id' id with
        | true => Q .normal st'
        | false => Q (.exit id') st'
      | e => Q e st')
    (fun _ vx st Q => ∃ (I : LoopI) (x0 : I.X), I.p x0 ∧ SLe C.nx0 (I.f x0) st ∧ ∀ x, I.p x → vx (I.f x) fun e st' => match e with
      | .normal => ∃ x', I.p x' ∧ I.μ x' < I.μ x ∧ SLe C.nx0 (I.f x') st'
      | e => Q e st')
    (fun _ _ _ _ _ _ _ _ => False)
    (fun id st Q => Q (.exit id) st)
    (fun _ _ _ _ => False)
    (fun _ st Q => Q .normal st)
    (fun _ _ _ => False)
    (fun st Q => Q .ret st)
    (fun _ _ _ => False) c
theorem vc_region (C : Ctx) (id : Nat) (ops : Array Oper) (draw : Bool) (st : St) (Q : Exit → St → Prop) : vc C (.region id ops draw) st Q = (match memN id C.ja with
    | false => vcReg C ops draw st (fun st' => Q .normal st') (fun v st' => Q (.panic (panE v)) st')
    | true => ∃ I : JoinI, (vcReg C ops draw st (fun st' => ∃ x, I.p x ∧ SLe C.nx0 (I.f x) st') (fun v st' => Q (.panic (panE v)) st')) ∧ ∀ x, I.p x → Q .normal (I.f x)) := rfl
theorem vc_seq (C : Ctx) (x y : Code) (st : St) (Q : Exit → St → Prop) : vc C (.seq x y) st Q = (match headIn C.jb y with
    | false => vc C x st fun e st' => match e with
      | .normal => vc C y st' Q
      | e => Q e st'
    | true => ∃ I : JoinI, (vc C x st fun e st' => match e with
      | .normal => ∃ x, I.p x ∧ SLe C.nx0 (I.f x) st'
      | e => Q e st') ∧ ∀ x, I.p x → vc C y (I.f x) Q) := rfl
theorem vc_cond (C : Ctx) (c : Operand) (x y : Code) (st : St) (Q : Exit → St → Prop) : vc C (.cond c x y) st Q = (match evS st c with
    | some (.o (.c (.d (.v (.bool b))))) => match b with
      | true => vc C x st Q
      | false => vc C y st Q
    | _ => False) := rfl
theorem vc_block (C : Ctx) (id : Nat) (c : Code) (st : St) (Q : Exit → St → Prop) : vc C (.block id c) st Q = (vc C c st fun e st' => match e with
    | .exit id' => match Nat.beq id' id with
      | true => Q .normal st'
      | false => Q (.exit id') st'
    | e => Q e st') := rfl
theorem vc_loop (C : Ctx) (c : Code) (st : St) (Q : Exit → St → Prop) : vc C (.loop c) st Q = (∃ (I : LoopI) (x0 : I.X), I.p x0 ∧ SLe C.nx0 (I.f x0) st ∧ ∀ x, I.p x → vc C c (I.f x) fun e st' => match e with
    | .normal => ∃ x', I.p x' ∧ I.μ x' < I.μ x ∧ SLe C.nx0 (I.f x') st'
    | e => Q e st') := rfl
/-- What a state's claim says of the run. -/
def Cl (E : Env) (Q : Exit → St → Prop) : Exit → Act → World → Prop := fun e a w => ∃ st, RS E st a w ∧ Q e st
theorem vcReg_ok {C : Ctx} {E : Env} (hL : LOk C.P C.L) (hn : E.n = C.n ∧ E.Γ = C.Γ ∧ E.nx0 = C.nx0) (hm : C.P.follows .mixedOrders = true) {id : Nat} {ops : Array Oper} {draw : Bool} {st : St} {K : St → Prop} {Kp : Value → St → Prop} {Q : Exit → Act → World → Prop} (hK : ∀ st a w, RS E st a w → K st → Q .normal a w) (hKp : ∀ v st a w, RS E st a w → Kp v st → Q (.panic (panE v)) a w) {a : Act} {w : World}
    (h : vcReg C ops draw st K Kp) (hR : RS E st a w) : (Code.region id ops draw).wp C.P Q a w := by
  cases draw with
  | false =>
    simp only [vcReg] at h
    exact wp_region_list (vcOps_ok hL hn hK hKp _ st a w h hR)
  | true =>
    simp only [vcReg] at h
    obtain ⟨xs, dead, pj, st', h1, h2, h3, h4, h5⟩ := vcD_recs hL _ _ _ _ _ _ DOk.nil h
    simp only [List.nil_append] at h3 h4 h5
    refine wp_region_any hm (draw_ok hn h1 h2 h3 h4 (fun hpn a w hR => hK st' a w hR ?_) (fun p x v hp hx hv a w hR => ?_) _ _ a _ (by simp) (by
      refine Nat.le_trans List.countP_le_length ?_
      simp) (fun i o ho hX => ?_) (fun i hX => ?_) ?_)
    · subst hpn
      exact h5
    · subst hp
      unfold endD at h5
      simp only [hx, hv, panK, stepK_eq] at h5
      exact hKp v (St.step ⟨[], x.st.mem, x.st.nx⟩ none x.r) a w hR h5
    · simp [Array.getD] at hX
    · simp [Array.getD] at hX
    · have e : ∀ {α : Type} (us : List (Nat → Option α)) (f : Nat → Option α), ov us (fun i => (Array.replicate ops.size false).getD i false) 0 f = f := fun us f => by
        funext t
        exact ov_false us _ 0 f t (fun j u _ _ => by simp [Array.getD])
      rw [e, e]
      exact RF_drew hR
theorem vc_ok {C : Ctx} {E : Env} (hL : LOk C.P C.L) (hn : E.n = C.n ∧ E.Γ = C.Γ ∧ E.nx0 = C.nx0) (hm : C.P.follows .mixedOrders = true) : ∀ (c : Code) (st : St) (Q : Exit → St → Prop) (a : Act) (w : World), vc C c st Q → RS E st a w → c.wp C.P (Cl E Q) a w
  | .skip, st, Q, a, w, h, hR => wp_skip ⟨st, hR, h⟩
  | .region id ops draw, st, Q, a, w, h, hR => by
    rw [vc_region] at h
    split at h
    · exact vcReg_ok hL hn hm (fun st a w hR hq => ⟨st, hR, hq⟩) (fun v st a w hR hq => ⟨st, hR, hq⟩) h hR
    · obtain ⟨I, h1, h2⟩ := h
      exact vcReg_ok hL hn hm (fun st a w hR ⟨x, hp, hle⟩ => ⟨_, hle E a w hn.2.2 hR, h2 x hp⟩) (fun v st a w hR hq => ⟨st, hR, hq⟩) h1 hR
  | .seq x y, st, Q, a, w, h, hR => by
    rw [vc_seq] at h
    split at h
    · refine wp_seq (Code.wp_mono (fun e a w hq => ?_) (vc_ok hL hn hm x st _ a w h hR))
      obtain ⟨st', hR', hq⟩ := hq
      cases e with
      | normal => exact vc_ok hL hn hm y st' Q a w hq hR'
      | _ => exact ⟨st', hR', hq⟩
    · obtain ⟨I, h1, h2⟩ := h
      refine wp_seq (Code.wp_mono (fun e a w hq => ?_) (vc_ok hL hn hm x st _ a w h1 hR))
      obtain ⟨st', hR', hq⟩ := hq
      cases e with
      | normal =>
        obtain ⟨z, hp, hle⟩ := hq
        exact vc_ok hL hn hm y _ Q a w (h2 z hp) (hle E a w hn.2.2 hR')
      | _ => exact ⟨st', hR', hq⟩
  | .cond c x y, st, Q, a, w, h, hR => by
    rw [vc_cond] at h
    split at h
    · rename_i b hb
      have hev : a.eval c = .bool b := by
        obtain ⟨ι, S, I⟩ := hR
        exact V_v (ev_ok I (by rw [← evS_F]; exact hb))
      split at h
      · exact wp_cond_true hev (vc_ok hL hn hm x st Q a w h hR)
      · exact wp_cond_false hev (vc_ok hL hn hm y st Q a w h hR)
    · exact h.elim
  | .block id c, st, Q, a, w, h, hR => by
    rw [vc_block] at h
    refine wp_block (Code.wp_mono (fun e a w hq => ?_) (vc_ok hL hn hm c st _ a w h hR))
    obtain ⟨st', hR', hq⟩ := hq
    cases e with
    | exit id' =>
      simp only [Exit.inBlock]
      simp only at hq
      split at hq
      · rename_i hb
        rw [if_pos (Nat.eq_of_beq_eq_true hb)]
        exact ⟨st', hR', hq⟩
      · rename_i hb
        rw [if_neg (Nat.ne_of_beq_eq_false hb)]
        exact ⟨st', hR', hq⟩
    | _ => exact ⟨st', hR', hq⟩
  | .loop c, st, Q, a, w, h, hR => by
    rw [vc_loop] at h
    obtain ⟨I, x0, hp, hle, hround⟩ := h
    refine wp_loop_ghost (fun n a w => ∃ x, I.p x ∧ I.μ x = n ∧ RS E (I.f x) a w) (I.μ x0) ⟨x0, hp, rfl, hle E a w hn.2.2 hR⟩ fun n a w ⟨x, hx, hμ, hRx⟩ => ?_
    refine Code.wp_mono (fun e a w hq => ?_) (vc_ok hL hn hm c (I.f x) _ a w (hround x hx) hRx)
    obtain ⟨st', hR', hq⟩ := hq
    cases e with
    | normal =>
      obtain ⟨x', h1, h2, h3⟩ := hq
      exact ⟨I.μ x', hμ ▸ h2, x', h1, rfl, h3 E _ _ hn.2.2 hR'⟩
    | _ => exact ⟨st', hR', hq⟩
  | .exit id, st, Q, a, w, h, hR => wp_exit ⟨st, hR, h⟩
  | .label _, st, Q, a, w, h, hR => wp_label ⟨st, hR, h⟩
  | .ret, st, Q, a, w, h, hR => wp_ret ⟨st, hR, h⟩
  | .rangeFunc _ _ _ _, st, Q, a, w, h, hR => h.elim
  | .scope _, st, Q, a, w, h, hR => h.elim
  | .goto _, st, Q, a, w, h, hR => h.elim
  | .refuse _, st, Q, a, w, h, hR => h.elim

/-! ### Functions -/
def argTm : Nat → List T1 → List (Nat × TV)
  | _, [] => []
  | i, x :: xs => (i, .o x) :: argTm (i + 1) xs
theorem argTm_find : ∀ (xs : List T1) (i t : Nat) (tv : TV), findL (argTm i xs) t = some tv → ∃ x, tv = .o x ∧ i ≤ t ∧ xs[t - i]? = some x
  | [], i, t, tv, h => by cases h
  | x :: xs, i, t, tv, h => by
    simp only [argTm, findL] at h
    split at h
    · rename_i e; cases h; subst e; exact ⟨x, rfl, Nat.le_refl _, by simp⟩
    · rename_i e
      obtain ⟨y, h1, h2, h3⟩ := argTm_find xs (i + 1) t tv h
      refine ⟨y, h1, by omega, ?_⟩
      rw [show t - i = t - (i + 1) + 1 by omega]
      simpa using h3
def resC (L : Nat → Option Lay) (st : St) : ResultVar → Option TV
  | .tmp t => findL st.tm t
  | .cell a t => match L t, findL st.tm a with
    | some l, some (.o (.c (.ptr k off))) => match findL st.mem k with
      | some (.obj cells _) => match Nat.ble (off + l.size) cells.length with
        | true => ofCells l.kind.agg ((cells.drop off).take l.size)
        | false => none
      | _ => none
    | _, _ => none
def retT : List T1 → TV
  | [y] => .o y
  | ys => .tup ys
/-- What reads as r reads as r' too. -/
def TLe (r r' : TV) : Prop := ∀ (ι : Nat → Value) (S : Nat → Prop) (w : World) (v : Value), V ι S w r v → V ι S w r' v
theorem TLe.rfl {r : TV} : TLe r r := fun _ _ _ _ h => h
theorem TLe.eq {r r' : TV} (h : r = r') : TLe r r' := h ▸ TLe.rfl
def retOk (L : Nat → Option Lay) (rs : List ResultVar) (r : TV) (st : St) : Prop :=
  match eatT (findL st.mem) (rs.map (resC L st)) with
  | some (ys, _) => TLe (retT ys) r
  | none => False
def fnQ (L : Nat → Option Lay) (rs : List ResultVar) (r : TV) : Exit → St → Prop
  | .normal, st | .ret, st => retOk L rs r st
  | _, _ => False
theorem mapM_run {P : Program} {w : World} {α β : Type} (g : α → Sem β) : ∀ (l : List α) (m : List β), All2 (fun a b => (g a).run P w = .ok b w) l m → (l.mapM g).run P w = .ok m w
  | [], m, h => by obtain rfl := h.nil_left; simp
  | a :: l, m, h => by
    obtain ⟨b, m', rfl, h1, h2⟩ := h.cons_left
    simp [List.mapM_cons, h1, mapM_run g l m' h2]
def resF (tmps : Array Value) : ResultVar → Sem Value
  | .tmp t => pure (tmps.getD t undef)
  | .cell a t => do loadVar t (← asAddr (tmps.getD a undef))
theorem results_F (fn : Func) (tmps : Array Value) : results fn tmps = (do let vs ← fn.results.mapM (resF tmps); pure (if h : vs.size = 1 then vs[0] else .tuple vs)) := rfl
theorem run_map {P : Program} {w : World} {α β : Type} (f : α → β) (x : Sem α) : (f <$> x).run P w = (x.run P w).andThen fun a w => .ok (f a) w := by
  show (x >>= fun a => pure (f a)).run P w = _
  rw [Sem.run_bind]
  rfl
theorem fn_rule {C : Ctx} {f : FuncId} {fn : Func} {c : Code} (hL : LOk C.P C.L) (hm : C.P.follows .mixedOrders = true) (hf : C.P.funcs[f]? = some fn) (hb : fn.body = some c) (hname : (fn.name == "runtime.NumGoroutine") = false)
    (hn : fn.ntmps = C.n) (h0 : C.nx0 = 0) {xs : List T1} (hx : Nat.ble xs.length C.n = true) {r : TV} (h : vc C c ⟨argTm 0 xs, [], 0⟩ (fnQ C.L fn.results.toList r)) : CallsA C.P C.Γ f xs r := by
  refine ⟨⟨fn, hf, hname, by rw [hb]; rfl⟩, fun S w vs hS hG hvs => ?_⟩
  have hxl := Nat.le_of_ble_eq_true hx
  have hlen := hvs.len
  refine calls_of_wp hf hb ?_
  have hR : RS ⟨w, fun _ => False, S, C.n, C.Γ, ι0, 0, []⟩ ⟨argTm 0 xs, [], 0⟩ { tmps := vs.toArray ++ Array.replicate (fn.ntmps - vs.toArray.size) undef, defers := [] } w := by
    refine ⟨ι0, S, rfl, rfl, rfl, Nat.le_refl _, fun _ _ _ => rfl, hS, fun _ h => h, fun _ h => .inl h, fun t tv ht => ?_, (fun k b hk => by cases hk), (fun k b hk => by cases hk), (fun k k' b b' g hk => by cases hk), rfl, ?_, hG, fun _ _ => rfl⟩
    · obtain ⟨x, rfl, _, hx⟩ := argTm_find xs 0 t tv ht
      rw [Nat.sub_zero] at hx
      obtain ⟨u, hu, hv⟩ := hvs.at_left hx
      have hlt := (List.getElem?_eq_some_iff.1 hu).1
      have : (vs.toArray ++ Array.replicate (fn.ntmps - vs.toArray.size) undef).getD t undef = u := by
        simp [Array.getElem?_append, hlt, hu]
        have h2 := (List.getElem?_eq_some_iff.1 hu).2
        exact h2
      show V ι0 S w (.o x) _
      dsimp only
      rw [this]
      exact hv
    · simp; omega
  refine Code.wp_mono (fun e a w' hq => ?_) (vc_ok hL ⟨rfl, rfl, h0.symm⟩ hm c _ _ _ w h hR)
  obtain ⟨st, hR', hq⟩ := hq
  have key : retOk C.L fn.results.toList r st → a.defers = [] ∧ ∃ v, (results fn a.tmps).run C.P w' = .ok v w' ∧ ∃ x S', Ending.returned v = .returned x ∧ Below w.heap.size w w' ∧ (∀ b, S b → S' b) ∧ (∀ b, S' b → S b ∨ w.heap.size ≤ b) ∧ (∀ b, S' b → b < w'.heap.size) ∧ V ι0 S' w' r x := fun hret => by
    obtain ⟨ι, S1, I⟩ := hR'
    unfold retOk at hret
    split at hret
    · rename_i ys ks hy
      have hone : ∀ rv tv, resC C.L st rv = some tv → ∃ v, (resF a.tmps rv).run C.P w' = .ok v w' ∧ V ι S1 w' tv v := fun rv tv hrv => by
        cases rv with
        | tmp t => exact ⟨_, rfl, I.tms t tv hrv⟩
        | cell b t =>
          simp only [resC] at hrv
          split at hrv
          · rename_i l k off hl hb
            split at hrv
            · rename_i cells tg hk
              split at hrv
              · rename_i hle
                obtain ⟨bk, hb1, hb2⟩ := I.tms b _ hb
                obtain ⟨b', arr, ty, h3, h4, h5, _⟩ := I.blk k _ hk
                obtain rfl : bk = b' := by rw [hb1] at h3; cases h3; rfl
                have hlen := h5.len
                have hle' := Nat.le_of_ble_eq_true hle
                have hr := run_load_range (P := C.P) (layOf_ok (hL _ _ hl)) (w := w') (g := bk) (f := off) (us := (arr.toList.drop off).take l.size) (by simp at hlen ⊢; omega) (fun j u hj => by
                  obtain ⟨hj1, _⟩ := drop_take_get hj
                  rw [cell_of_row w' bk (off + j) arr ty.1 (0, 0) h4]
                  simpa using hj1)
                rcases V_ofCells hrv ((h5.drop off).take l.size) with ⟨ha, hV⟩ | ⟨ha, u, hu, hV⟩
                · exact ⟨_, by simp only [resF, hb2]; simp [asAddr, hr.1 ha], hV⟩
                · exact ⟨_, by simp only [resF, hb2]; simp [asAddr, hr.2 ha u hu], hV⟩
              · cases hrv
            · cases hrv
          · cases hrv
      -- the values of all results
      have hvals : ∀ (l : List ResultVar) (ys : List T1) (ks : List Nat), eatT (findL st.mem) (l.map (resC C.L st)) = some (ys, ks) → ∃ vs, All2 (fun rv v => (resF a.tmps rv).run C.P w' = .ok v w') l vs ∧ All2 (fun (a : Option TV) u => ∀ tv, a = some tv → V ι S1 w' tv u) (l.map (resC C.L st)) vs := fun l => by
        induction l with
        | nil => intro ys ks _; exact ⟨[], .nil, .nil⟩
        | cons rv l ih =>
          intro ys ks h
          simp only [List.map_cons] at h
          cases hrv : resC C.L st rv with
          | none => rw [hrv] at h; simp [eatT] at h
          | some tv =>
            rw [hrv] at h
            cases tv with
            | no => simp [eatT] at h
            | und => simp [eatT] at h
            | tup l => simp [eatT] at h
            | pan v => simp [eatT] at h
            | o x =>
              simp only [eatT] at h
              split at h
              · rename_i y k1 ys' k2 h1 h2
                obtain ⟨vs, g1, g2⟩ := ih ys' k2 h2
                obtain ⟨v, e1, e2⟩ := hone rv _ hrv
                refine ⟨v :: vs, .cons e1 g1, ?_⟩
                simp only [List.map_cons]
                refine .cons (fun tv htv => ?_) g2
                rw [hrv] at htv; cases htv
                exact e2
              · cases h
      obtain ⟨vs, g1, g2⟩ := hvals _ ys ks hy
      have hrows : ∀ k ∈ ks, ∃ size e rows, BlkOk ι S1 w' k (.row size e rows) := fun k hk => by
        obtain ⟨size, e, rows, hm⟩ := eatT_rows hy k hk
        exact ⟨size, e, rows, I.blk k _ hm⟩
      have hall := eatT_ok (ι' := ι0) (S' := giveUp ι S1 ks) (fun b hb => .inl hb) hy g2 (fun k hk b hb => I.blk k b hb) (fun k hk g hg => .inr ⟨k, hk, hg⟩)
      have hres : (results fn a.tmps).run C.P w' = .ok (if h : vs.toArray.size = 1 then vs.toArray[0] else .tuple vs.toArray) w' := by
        have h1 := mapM_run _ _ _ g1
        rw [results_F, Sem.run_bind, Array.mapM_eq_mapM_toList, run_map, h1]
        rfl
      refine ⟨I.dn, _, hres, _, giveUp ι S1 ks, rfl, ⟨I.os, I.tape, I.output, I.size, fun b hb => I.old b hb (fun h => h)⟩, fun b hb => .inl (I.s0 b hb), fun b hb => ?_, fun b hb => ?_, ?_⟩
      · rcases hb with hb | ⟨k, hk, hb⟩
        · rcases I.sg b hb with h | h | h
          · exact .inl h
          · exact .inr h
          · exact h.elim
        · obtain ⟨size, e, rows, hm⟩ := eatT_rows hy k hk
          rcases I.mutb k _ hm rfl b hb with h | h
          · exact h.elim
          · exact .inr h
      · rcases hb with hb | ⟨k, hk, hb⟩
        · exact I.slt b hb
        · obtain ⟨size, e, rows, hr⟩ := hrows k hk
          exact (row_lt hr b hb).1
      · refine hret _ _ _ _ ?_
        match ys, vs, hall with
        | [y], vs, hall =>
          obtain ⟨v, rfl, hv⟩ := hall.one_left
          exact hv
        | [], vs, hall =>
          obtain rfl := hall.nil_left
          exact ⟨[], rfl, .nil⟩
        | y :: z :: ys, vs, hall =>
          have : ¬ vs.toArray.size = 1 := by have := hall.len; simp at this ⊢; omega
          rw [dif_neg this]
          exact ⟨vs, rfl, hall⟩
    · exact hret.elim
  cases e with
  | normal => exact key hq
  | ret => exact key hq
  | _ => exact hq.elim
end Go.Proofs.YtkeehnhamkdogaaDoor
