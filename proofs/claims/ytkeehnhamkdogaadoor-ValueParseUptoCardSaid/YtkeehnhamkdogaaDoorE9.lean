/- Regions over the abstract state: operations one behind the other, and regions that draw their order. No condition. -/
import Derived.Test.YtkeehnhamkdogaaDoorE8
import Derived.Deep.Quiet
namespace Go.Proofs.YtkeehnhamkdogaaDoor
set_option linter.unusedVariables false
set_option linter.unusedSimpArgs false
open Go.RowKit

structure Ctx where
  P : Program
  L : Nat → Option Lay
  n : Nat
  Γ : Glob
  nx0 : Nat := 0
  ja : List Nat := []
  jb : List Nat := []
structure St where
  tm : List (Nat × TV)
  mem : List (Nat × Blk)
  nx : Nat
def cvT (v : Value) : TV := match v.oneCell' with
  | true => .o (.c (.d (.v v)))
  | false => match v with
    | .agg cs => match cs.toList.all Value.oneCell' with
      | true => .o (.g (cs.toList.map fun x => .d (.v x)))
      | false => .no
    | _ => .no
def evS (st : St) : Operand → Option TV
  | .tmp t => findL st.tm t
  | .const v => some (cvT v)
  | .func f => some (.o (.c (.d (.v (.func (.func f) #[] #[])))))
  | .global _ => none
def evF (tm : Nat → Option TV) : Operand → Option TV
  | .tmp t => tm t
  | .const v => some (cvT v)
  | .func f => some (.o (.c (.d (.v (.func (.func f) #[] #[])))))
  | .global _ => none
theorem evS_F (st : St) : evS st = evF (findL st.tm) := by funext x; cases x <;> rfl
def RS (E : Env) (st : St) (a : Act) (w : World) : Prop := RF E (findL st.tm) (findL st.mem) a w
def newsL : Nat → List Blk → List (Nat × Blk)
  | _, [] => []
  | n, b :: l => (n, b) :: newsL (n + 1) l
def Res.news (r : Res) (nx : Nat) : List (Nat × Blk) := newsL nx r.new
theorem newsL_find : ∀ (l : List Blk) (n k : Nat), findL (newsL n l) k = if n ≤ k then l[k - n]? else none
  | [], n, k => by simp [newsL, findL]
  | b :: l, n, k => by
    simp only [newsL, findL]
    rw [newsL_find l (n + 1) k]
    by_cases h : n = k
    · subst h; simp
    · rw [if_neg h]
      by_cases h2 : n ≤ k
      · rw [if_pos h2, if_pos (by omega), show k - n = k - (n + 1) + 1 by omega]; simp
      · rw [if_neg h2, if_neg (by omega)]
theorem newsL_mem : ∀ (l : List Blk) (n : Nat) (p : Nat × Blk), p ∈ newsL n l → n ≤ p.1 ∧ p.1 < n + l.length
  | [], n, p, h => by cases h
  | b :: l, n, p, h => by
    simp only [newsL, List.mem_cons] at h
    rcases h with rfl | h
    · simp
    · have := newsL_mem l (n + 1) p h; simp; omega
theorem newsL_has : ∀ (l : List Blk) (n i : Nat), i < l.length → n + i ∈ (newsL n l).map (·.1)
  | [], n, i, h => by simp at h
  | b :: l, n, 0, _ => by simp [newsL]
  | b :: l, n, i + 1, h => by
    simp only [newsL, List.map_cons, List.mem_cons]
    right
    rw [show n + (i + 1) = n + 1 + i by omega]
    exact newsL_has l (n + 1) i (by simpa using h)
def St.step (st : St) (d : Option Nat) (r : Res) : St :=
  ⟨match d with
    | some d => (d, r.v) :: st.tm
    | none => st.tm, r.upd ++ (r.news st.nx ++ st.mem), st.nx + r.new.length⟩
/-- The names from nx on, one for each of the list, are new. -/
def freshB (st : St) : Nat → List Blk → Bool
  | _, [] => true
  | n, _ :: l => (match findL st.mem n with | none => true | some _ => false) && (st.tm.all fun p => !p.2.men n) && (st.mem.all fun p => !p.2.men n) && freshB st (n + 1) l
theorem freshB_ok {st : St} : ∀ {l : List Blk} {n : Nat}, freshB st n l = true → ∀ i, i < l.length → findL st.mem (n + i) = none ∧ (∀ p ∈ st.tm, p.2.men (n + i) = false) ∧ ∀ p ∈ st.mem, p.2.men (n + i) = false
  | [], n, _, i, h => by simp at h
  | b :: l, n, h, i, hi => by
    simp only [freshB, Bool.and_eq_true] at h
    obtain ⟨⟨⟨h6, h7⟩, h8⟩, h9⟩ := h
    cases i with
    | zero =>
      refine ⟨?_, fun p hp => by simpa using List.all_eq_true.1 h7 p hp, fun p hp => by simpa using List.all_eq_true.1 h8 p hp⟩
      cases hf : findL st.mem n with
      | none => simp
      | some b' => rw [hf] at h6; cases h6
    | succ i =>
      have := freshB_ok h9 i (by simpa using hi)
      rwa [show n + 1 + i = n + (i + 1) by omega] at this
def nodupB : List Nat → Bool
  | [] => true
  | k :: l => !(l.any (Nat.beq k)) && nodupB l
theorem nodupB_at : ∀ {l : List Nat}, nodupB l = true → ∀ (i j k : Nat), l[i]? = some k → l[j]? = some k → i = j
  | [], _, i, j, k, h, _ => by simp at h
  | x :: l, h, i, j, k, hi, hj => by
    simp only [nodupB, Bool.and_eq_true] at h
    have hx : ∀ j, l[j]? = some x → False := fun j hj => by
      have h1 := h.1
      have : (l.any (Nat.beq x)) = true := List.any_eq_true.2 ⟨x, List.mem_of_getElem? hj, by simp⟩
      rw [this] at h1
      cases h1
    cases i with
    | zero =>
      simp only [List.getElem?_cons_zero, Option.some.injEq] at hi
      subst hi
      cases j with
      | zero => rfl
      | succ j => exact (hx j (by simpa using hj)).elim
    | succ i =>
      cases j with
      | zero =>
        simp only [List.getElem?_cons_zero, Option.some.injEq] at hj
        subst hj
        exact (hx i (by simpa using hi)).elim
      | succ j => rw [nodupB_at h.2 i j k (by simpa using hi) (by simpa using hj)]
theorem key_uniq {α : Type} {l : List (Nat × α)} (h : nodupB (l.map (·.1)) = true) {k : Nat} {b b' : α} (h1 : (k, b) ∈ l) (h2 : (k, b') ∈ l) : b = b' := by
  obtain ⟨i, hi⟩ := List.getElem?_of_mem h1
  obtain ⟨j, hj⟩ := List.getElem?_of_mem h2
  have := nodupB_at h i j k (by simp [hi]) (by simp [hj])
  subst this
  rw [hi] at hj; cases hj; rfl
def uniqB : List (Nat × Blk) → Bool
  | [] => true
  | [_] => true
  | l => (l.all fun p => !p.2.live) || nodupB (l.map (·.1))
def resOk (n nx0 : Nat) (st : St) (d : Option Nat) (r : Res) : Bool :=
  (r.upd.all fun p => match findL st.mem p.1 with
    | some b => b.live
    | none => false) && uniqB r.upd && (r.upd.all fun p => r.rd.any fun k => Nat.beq k p.1) &&
  freshB st st.nx r.new && (match r.new with
    | [] => true
    | _ :: _ => Nat.ble nx0 st.nx) &&
  (match d with
    | some d => Nat.blt d n
    | none => true)
theorem uniqB_ok {l : List (Nat × Blk)} (h : uniqB l = true) (k : Nat) (b b' : Blk) (h1 : (k, b) ∈ l) (h2 : (k, b') ∈ l) : b = b' := by
  have dead : ∀ x : Blk, (!x.live) = true → x = .dead := fun x hx => by cases x <;> simp_all [Blk.live]
  match l, h with
  | [], _ => cases h1
  | [p], _ => simp only [List.mem_singleton] at h1 h2; have := h1.trans h2.symm; cases this; rfl
  | p :: q :: l, h =>
    simp only [uniqB, Bool.or_eq_true] at h
    rcases h with h | h
    · have h' := List.all_eq_true.1 h
      rw [dead b (h' _ h1), dead b' (h' _ h2)]
    · exact key_uniq h h1 h2
theorem findL_append {α : Type} (l m : List (Nat × α)) (k : Nat) : findL (l ++ m) k = match findL l k with | some v => some v | none => findL m k := by
  induction l with
  | nil => rfl
  | cons p l ih =>
    obtain ⟨k', v⟩ := p
    simp only [List.cons_append, findL]
    split
    · rfl
    · exact ih
theorem updF_step (st : St) (d : Option Nat) (r : Res) : updF (findL st.mem) r st.nx = findL (st.step d r).mem := by
  funext k
  simp only [updF, St.step, findL_append, Res.news, newsL_find]
  cases findL r.upd k with
  | some b => rfl
  | none =>
    simp only
    split
    · cases r.new[k - st.nx]? <;> rfl
    · rfl
theorem putF_step (st : St) (d : Option Nat) (r : Res) : putF (findL st.tm) d r.v = findL (st.step d r).tm := by
  funext t
  simp only [putF, St.step]
  cases d with
  | none => simp
  | some d => simp [findL]
section
variable {C : Ctx} {E : Env}
theorem ev_ok {tm : Nat → Option TV} {mem : Nat → Option Blk} {a : Act} {w : World} {ι : Nat → Value} {S : Nat → Prop} (I : Inv E ι S tm mem a w) {x : Operand} {tv : TV} (h : evF tm x = some tv) : V ι S w tv (a.eval x) := by
  cases x with
  | tmp t => exact I.tms t tv h
  | const v =>
    simp only [evF, Option.some.injEq] at h
    subst h
    unfold cvT
    split
    · rename_i ho; exact Imm.v ho
    · split
      · rename_i cs _
        split
        · rename_i ha
          refine ⟨cs.toList, by simp [Act.eval], All2.map_left ⟨rfl, fun i a b ha' hb => ?_⟩⟩
          rw [ha'] at hb; cases hb
          exact Imm.v (List.all_eq_true.1 ha a (List.mem_of_getElem? ha'))
        · trivial
      · trivial
  | func f =>
    simp only [evF, Option.some.injEq] at h
    subst h
    exact Imm.v rfl
  | global g => cases h
theorem resOk_spec {n nx0 : Nat} {st : St} {d : Option Nat} {r : Res} (h : resOk n nx0 st d r = true) :
    (∀ k b, (k, b) ∈ r.upd → ∃ b', findL st.mem k = some b' ∧ b'.live = true) ∧ uniqB r.upd = true ∧ (∀ k b, (k, b) ∈ r.upd → k ∈ r.rd) ∧
    (∀ i, i < r.new.length → findL st.mem (st.nx + i) = none ∧ (∀ p ∈ st.tm, p.2.men (st.nx + i) = false) ∧ ∀ p ∈ st.mem, p.2.men (st.nx + i) = false) ∧ (∀ d', d = some d' → d' < n) ∧ (r.new ≠ [] → nx0 ≤ st.nx) := by
  unfold resOk at h
  simp only [Bool.and_eq_true] at h
  obtain ⟨⟨⟨⟨⟨h1, h2⟩, h3⟩, h4⟩, h4'⟩, h5⟩ := h
  refine ⟨fun k b hk => ?_, h2, fun k b hk => ?_, freshB_ok h4, fun d' hd => ?_, fun hne => ?_⟩
  · have := List.all_eq_true.1 h1 _ hk
    simp only at this
    cases hf : findL st.mem k with
    | none => rw [hf] at this; cases this
    | some b' => rw [hf] at this; exact ⟨b', rfl, this⟩
  · have := List.all_eq_true.1 h3 _ hk
    obtain ⟨k', hk', e⟩ := List.any_eq_true.1 this
    have e' : k' = k := Nat.eq_of_beq_eq_true e
    rw [← e']
    exact hk'
  · subst hd
    exact Nat.lt_of_succ_le (Nat.le_of_ble_eq_true h5)
  · cases hr : r.new with
    | nil => exact absurd hr hne
    | cons b l => rw [hr] at h4'; exact Nat.le_of_ble_eq_true h4'
theorem step_st {o : Oper} {st : St} {r : Res} (hs : Spec C.P C.Γ o (evS st) (findL st.mem) st.nx r) (hok : resOk C.n C.nx0 st o.dst r = true) (hn : E.n = C.n ∧ E.Γ = C.Γ ∧ E.nx0 = C.nx0) {a : Act} {w : World} (hR : RS E st a w) {next : Act → World → Prop} {Q : Exit → Act → World → Prop}
    (hnext : (∀ v, r.v ≠ .pan v) → ∀ a' w', RS E (st.step o.dst r) a' w' → next a' w') (hpan : ∀ v, r.v = .pan v → ∀ w', RS E (st.step none r) a w' → Q (.panic (panE v)) a w') : o.wp C.P a w next Q := by
  obtain ⟨h1, h2, h3, h4, h5, h5'⟩ := resOk_spec hok
  refine step_ok (by rw [hn.2.1]; exact hs) hR (fun x _ tv htv ι S I => ?_) (fun _ _ _ h => h) h1 (fun i hi => ?_) (by rw [hn.2.2]; exact h5') (fun k b b' => uniqB_ok h2 k b b') (fun d hd => by rw [hn.1]; exact h5 d hd) (fun hnp a' w' hR' => hnext hnp a' w' ?_) (fun v hv w' hR' => hpan v hv w' ?_)
  · rw [evS_F] at htv
    exact ev_ok I htv
  · obtain ⟨h6, h7, h8⟩ := h4 i hi
    exact ⟨h6, fun t tv ht => h7 _ (findL_mem ht), fun k b hk => h8 _ (findL_mem hk)⟩
  · unfold RS
    rw [← putF_step, ← updF_step]
    exact hR'
  · unfold RS
    rw [← updF_step]
    exact hR'
theorem updF_pure (f : Nat → Option Blk) (v : TV) (nx : Nat) : updF f (pureR v) nx = f := by
  funext k
  simp [updF, findL]
theorem RF_put_und {tm : Nat → Option TV} {mem : Nat → Option Blk} {a : Act} {w : World} (h : RF E tm mem a w) (d : Option Nat) : RF E (putF tm d .und) mem (a.put d undef) w := by
  obtain ⟨ι, S, I⟩ := h
  refine ⟨ι, S, I.os, I.tape, I.output, I.size, I.old, I.slt, I.s0, I.sg, fun t tv ht => ?_, I.blk, I.mutb, I.dst, ?_, ?_, I.gl, I.ik⟩
  · unfold putF at ht
    split at ht
    · rename_i hd
      cases ht
      subst hd
      show (a.put (some t) undef).tmps.getD t undef = undef
      by_cases hlt : t < a.tmps.size
      · exact put_getD_self hlt
      · simp [Act.put, Array.getD, hlt]
    · rename_i hne; rw [put_getD hne]; exact I.tms t tv ht
  · have := I.dn; cases d <;> simpa [Act.put] using this
  · have := I.sz; cases d <;> simpa [Act.put] using this
theorem RF_drew {tm : Nat → Option TV} {mem : Nat → Option Blk} {a : Act} {w : World} (h : RF E tm mem a w) : RF E tm mem a { w with drawn := w.drawn + 1 } := by
  obtain ⟨ι, S, I⟩ := h
  refine ⟨ι, S, I.os, I.tape, I.output, I.size, I.old, I.slt, I.s0, I.sg, fun t tv ht => V.mono (w := w) (w' := { w with drawn := w.drawn + 1 }) (ι := ι) (S := S) (fun _ _ => rfl) (fun _ h => h) (fun _ _ => rfl) (I.tms t tv ht), fun k b hk => ?_, I.mutb, I.dst, I.dn, I.sz, E.Γ.mono (w := w) (fun _ _ => rfl) (fun _ h => h) I.gl, I.ik⟩
  have := I.blk k b hk
  refine BlkOk.mono (w := w) (w' := { w with drawn := w.drawn + 1 }) (ι := ι) (S := S) (fun _ _ => rfl) (fun _ h => h) (fun _ => rfl) (fun _ _ => rfl) (fun hl g hg => ⟨rfl, ?_⟩) this
  cases b with
  | dead => cases hl
  | obj cells => obtain ⟨b2, arr, ty, h1, _, _, h4⟩ := this; rw [h1] at hg; cases hg; exact h4
  | row size e rows => obtain ⟨cs, _, _, _, h4⟩ := this; exact h4 g hg

/-! ### One behind the other -/
/-- What operation j yielded: a truth value; nothing, for it was passed over; unknown. -/
def gval (ops : Array Oper) (st : St) (j : Nat) : Option (Option Bool) :=
  match (ops[j]?).bind (·.dst) with
  | some d => match findL st.tm d with
    | some (.o (.c (.d (.v (.bool b))))) => some (some b)
    | some .und => some none
    | _ => none
  | none => none
def runs (want : Bool) : Option Bool → Bool
  | some b => b == want
  | none => false
/-! What a step leaves is brought to its simple form at once, so that it is not worked out again and again. -/
def forceC (x : CV) (K : CV → Prop) : Prop := match x with
  | .d x => K (.d x)
  | .ptr k o => forceN k fun k => forceN o fun o => K (.ptr k o)
  | .eptr cs => K (.eptr cs)
  | .rptr k s i j => forceN k fun k => K (.rptr k s i j)
  | .row k => forceN k fun k => K (.row k)
theorem forceC_eq (x : CV) (K : CV → Prop) : forceC x K = K x := by cases x <;> simp only [forceC, forceN_eq]
def forceCs : List CV → (List CV → Prop) → Prop
  | [], K => K []
  | x :: l, K => forceC x fun x => forceCs l fun l => K (x :: l)
theorem forceCs_eq : ∀ (l : List CV) (K : List CV → Prop), forceCs l K = K l
  | [], K => rfl
  | x :: l, K => by simp only [forceCs, forceC_eq, forceCs_eq l]
def forceT (x : T1) (K : T1 → Prop) : Prop := match x with
  | .c x => forceC x fun x => K (.c x)
  | .g l => forceCs l fun l => K (.g l)
theorem forceT_eq (x : T1) (K : T1 → Prop) : forceT x K = K x := by cases x <;> simp only [forceT, forceC_eq, forceCs_eq]
def forceTs : List T1 → (List T1 → Prop) → Prop
  | [], K => K []
  | x :: l, K => forceT x fun x => forceTs l fun l => K (x :: l)
theorem forceTs_eq : ∀ (l : List T1) (K : List T1 → Prop), forceTs l K = K l
  | [], K => rfl
  | x :: l, K => by simp only [forceTs, forceT_eq, forceTs_eq l]
def forceV (x : TV) (K : TV → Prop) : Prop := match x with
  | .no => K .no
  | .und => K .und
  | .o x => forceT x fun x => K (.o x)
  | .tup l => forceTs l fun l => K (.tup l)
  | .pan v => K (.pan v)
theorem forceV_eq (x : TV) (K : TV → Prop) : forceV x K = K x := by cases x <;> simp only [forceV, forceT_eq, forceTs_eq]
def forceB (x : Blk) (K : Blk → Prop) : Prop := match x with
  | .obj l tg => forceCs l fun l => K (.obj l tg)
  | .row s e rows => K (.row s e rows)
  | .dead => K .dead
theorem forceB_eq (x : Blk) (K : Blk → Prop) : forceB x K = K x := by cases x <;> simp only [forceB, forceCs_eq]
def appK : List (Nat × Blk) → List (Nat × Blk) → (List (Nat × Blk) → Prop) → Prop
  | [], m, K => K m
  | (k, b) :: l, m, K => forceN k fun k => forceB b fun b => appK l m fun m => K ((k, b) :: m)
theorem appK_eq : ∀ (l m : List (Nat × Blk)) (K : List (Nat × Blk) → Prop), appK l m K = K (l ++ m)
  | [], m, K => rfl
  | (k, b) :: l, m, K => by simp only [appK, forceN_eq, forceB_eq, appK_eq l, List.cons_append]
def stepK (st : St) (d : Option Nat) (r : Res) (K : St → Prop) : Prop := match st, r with
  | ⟨tm, mem, nx⟩, ⟨v, _, upd, new⟩ => appK (newsL nx new) mem fun m1 => appK upd m1 fun m2 => forceN (nx + new.length) fun nx' => match d with
    | some d => forceV v fun v => K ⟨(d, v) :: tm, m2, nx'⟩
    | none => K ⟨tm, m2, nx'⟩
theorem stepK_eq (st : St) (d : Option Nat) (r : Res) (K : St → Prop) : stepK st d r K = K (st.step d r) := by
  obtain ⟨tm, mem, nx⟩ := st
  obtain ⟨v, rd, upd, new⟩ := r
  simp only [stepK, appK_eq, forceN_eq, forceV_eq, St.step, Res.news]
  cases d <;> rfl
def panK (tv : TV) (Kp : Value → Prop) (K : Prop) : Prop := match tv with
  | .pan v => Kp v
  | _ => K
def exP (C : Ctx) (o : Oper) (st : St) (K : Res → St → Prop) (Kp : Value → Res → St → Prop) : Prop :=
  ex C.P C.Γ C.L (evS st) (findL st.mem) st.nx o.op fun r => match resOk C.n C.nx0 st o.dst r with
    | true => panK r.v (fun v => stepK st none r fun st' => Kp v r st') (stepK st o.dst r fun st' => K r st')
    | false => False
def dstB (n : Nat) : Option Nat → Bool
  | some d => Nat.blt d n
  | none => true
noncomputable def vcOps (C : Ctx) (ops : Array Oper) (os : List Oper) : St → (St → Prop) → (Value → St → Prop) → Prop :=
  List.rec (motive := fun _ => St → (St → Prop) → (Value → St → Prop) → Prop) (fun st K _ => K st) (fun o _ ih st K Kp => match o.guard with
    | none => exP C o st (fun _ st' => ih st' K Kp) (fun v _ st' => Kp v st')
    | some (j, want) => match gval ops st j with
      | some b => match runs want b with
        | true => exP C o st (fun _ st' => ih st' K Kp) (fun v _ st' => Kp v st')
        | false => stepK st o.dst (pureR .und) fun st' => ih st' K Kp
      | none => False) os
theorem vcOps_cons (C : Ctx) (ops : Array Oper) (o : Oper) (os : List Oper) (st : St) (K : St → Prop) (Kp : Value → St → Prop) : vcOps C ops (o :: os) st K Kp = (match o.guard with
    | none => exP C o st (fun _ st' => vcOps C ops os st' K Kp) (fun v _ st' => Kp v st')
    | some (j, want) => match gval ops st j with
      | some b => match runs want b with
        | true => exP C o st (fun _ st' => vcOps C ops os st' K Kp) (fun v _ st' => Kp v st')
        | false => stepK st o.dst (pureR .und) fun st' => vcOps C ops os st' K Kp
      | none => False) := rfl
theorem gval_ok {ops : Array Oper} {tm : Nat → Option TV} {mem : Nat → Option Blk} {a : Act} {w : World} (hR : RF E tm mem a w) {j d : Nat} {b : Bool} (hd : (ops[j]?).bind (·.dst) = some d) (ht : tm d = some (.o (.c (.d (.v (.bool b)))))) : yielded ops a.tmps j = some b := by
  obtain ⟨ι, S, I⟩ := hR
  have hv := V_v (I.tms d _ ht)
  unfold yielded
  rw [hd]
  simp only [Option.bind_some]
  have hlt : d < a.tmps.size := by
    rcases Nat.lt_or_ge d a.tmps.size with h | h
    · exact h
    · simp [Array.getD, Nat.not_lt.2 h, undef] at hv
  have hv' : a.tmps[d]? = some (.bool b) := by
    rw [Array.getElem?_eq_getElem hlt]
    simp only [Act.eval, Array.getD, hlt, dite_true] at hv
    exact congrArg some hv
  rw [hv']
theorem gval_und {ops : Array Oper} {tm : Nat → Option TV} {mem : Nat → Option Blk} {a : Act} {w : World} (hR : RF E tm mem a w) {j d : Nat} (hd : (ops[j]?).bind (·.dst) = some d) (ht : tm d = some .und) : yielded ops a.tmps j = none := by
  obtain ⟨ι, S, I⟩ := hR
  have hv : a.tmps.getD d undef = undef := I.tms d _ ht
  unfold yielded
  rw [hd]
  simp only [Option.bind_some]
  by_cases hlt : d < a.tmps.size
  · have hv' : a.tmps[d]? = some undef := by
      rw [Array.getElem?_eq_getElem hlt]
      simp only [Array.getD, hlt, dite_true] at hv
      exact congrArg some hv
    rw [hv']
    rfl
  · rw [Array.getElem?_eq_none (by omega)]
def tvOf : Option Bool → TV
  | some b => .o (.c (.d (.v (.bool b))))
  | none => .und
theorem gval_any {ops : Array Oper} {tm : Nat → Option TV} {mem : Nat → Option Blk} {a : Act} {w : World} (hR : RF E tm mem a w) {j d : Nat} {b : Option Bool} (hd : (ops[j]?).bind (·.dst) = some d) (ht : tm d = some (tvOf b)) : yielded ops a.tmps j = b := by
  cases b with
  | some b => exact gval_ok hR hd ht
  | none => exact gval_und hR hd ht
theorem gval_spec {ops : Array Oper} {st : St} {j : Nat} {b : Option Bool} (h : gval ops st j = some b) : ∃ d, (ops[j]?).bind (·.dst) = some d ∧ findL st.tm d = some (tvOf b) := by
  unfold gval at h
  split at h
  · rename_i d hd
    split at h
    · rename_i b' hf; cases h; exact ⟨d, hd, hf⟩
    · rename_i hf; cases h; exact ⟨d, hd, hf⟩
    · cases h
  · cases h
theorem wanted_runs {o : Oper} {f : Nat → Option Bool} {j : Nat} {want : Bool} {b : Option Bool} (hg : o.guard = some (j, want)) (hy : f j = b) : Region.wanted o f = runs want b := by
  simp only [Region.wanted, hg, hy]
  cases b with
  | some b => cases b <;> cases want <;> rfl
  | none => rfl
theorem vcOps_ok (hL : LOk C.P C.L) (hn : E.n = C.n ∧ E.Γ = C.Γ ∧ E.nx0 = C.nx0) {ops : Array Oper} {Q : Exit → Act → World → Prop} {K : St → Prop} {Kp : Value → St → Prop} (hQ : ∀ st a w, RS E st a w → K st → Q .normal a w) (hQp : ∀ v st a w, RS E st a w → Kp v st → Q (.panic (panE v)) a w) : ∀ (os : List Oper) (st : St) (a : Act) (w : World), vcOps C ops os st K Kp → RS E st a w → wpList C.P ops Q os a w
  | [], st, a, w, h, hR => hQ st a w hR h
  | o :: os, st, a, w, h, hR => by
    have run : exP C o st (fun _ st' => vcOps C ops os st' K Kp) (fun v _ st' => Kp v st') → Region.wanted o (yielded ops a.tmps) = true → wpList C.P ops Q (o :: os) a w := fun hx hw => by
      unfold exP at hx
      obtain ⟨r, hs, hr⟩ := ex_ok hL hx
      split at hr
      · rename_i hok
        simp only [stepK_eq] at hr
        simp only [wpList, hw, if_true]
        unfold panK at hr
        split at hr
        · rename_i v hv
          refine .inl (step_st hs hok hn hR (fun hnp a' w' hR' => absurd hv (hnp v)) (fun v' hv' w' hR' => ?_))
          · rw [hv] at hv'
            cases hv'
            exact hQp _ _ a w' hR' hr
        · rename_i hno
          exact .inl (step_st hs hok hn hR (fun _ a' w' hR' => vcOps_ok hL hn hQ hQp os _ a' w' hr hR') (fun v' hv' w' hR' => absurd hv' (hno v')))
      · exact hr.elim
    rw [vcOps_cons] at h
    split at h
    · rename_i hg
      exact run h (by simp [Region.wanted, hg])
    · rename_i j want hg
      split at h
      · rename_i b hb
        obtain ⟨d, hd, hf⟩ := gval_spec hb
        have hy := gval_any hR hd hf
        split at h
        · rename_i hbw
          exact run h ((wanted_runs hg hy).trans hbw)
        · rename_i hbw
          rw [stepK_eq] at h
          have hw : Region.wanted o (yielded ops a.tmps) = false := (wanted_runs hg hy).trans hbw
          simp only [wpList, hw, Bool.false_eq_true, if_false]
          refine vcOps_ok hL hn hQ hQp os _ _ w h ?_
          unfold RS
          rw [← putF_step, ← updF_step, updF_pure]
          exact RF_put_und hR o.dst
      · exact h.elim
end
end Go.Proofs.YtkeehnhamkdogaaDoor
