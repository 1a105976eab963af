/- Texts that the last one leans on: Regions over the abstract state: operations one behind the other, and regions that draw their order. No condition. Regions that draw their order, over the abstract state: walked once, in the text's order. No condition. Regions that draw their order: every order leads to the state of the text's order. Code, and functions. No condition. Code and functions over the abstract state. No condition. Functions with pointers to objects: their contracts, under other names, and from their code. No condition. A function with pointers to objects, from its code. No condition. -/
import Derived.Deep.Quiet
import Derived.Test.YtidnlfkakhmadaaGreatDoorBnd1
import Derived.Test.YtidnlfkakhmadaaGreatDoorBnd2
set_option linter.unusedVariables false
set_option linter.unusedSimpArgs false
set_option maxRecDepth 100000
namespace Go.Proofs.YtidnlfkakhmadaaGreatDoor
open Go.RowKit

structure Ctx where
 P : Program
 L : Nat → Option Lay
 n : Nat
 Γ : Glob
 nx0 : Nat := 0
 ja : List Nat := []
 jb : List Nat := []
structure St where
 tm : List (Nat × TV)
 mem : List (Nat × Blk)
 nx : Nat
def cvT (v : Value) : TV := match v.oneCell' with
 | true => .o (.c (.d (.v v)))
 | false => match v with
  | .agg cs => match cs.toList.all Value.oneCell' with
   | true => .o (.g (cs.toList.map fun x => .d (.v x)))
   | false => .no
  | _ => .no
def evS (st : St) : Operand → Option TV
 | .tmp t => findL st.tm t
 | .const v => some (cvT v)
 | .func f => some (.o (.c (.d (.v (.func (.func f) #[] #[])))))
 | .global _ => none
def evF (tm : Nat → Option TV) : Operand → Option TV
 | .tmp t => tm t
 | .const v => some (cvT v)
 | .func f => some (.o (.c (.d (.v (.func (.func f) #[] #[])))))
 | .global _ => none
theorem evS_F (st : St) : evS st = evF (findL st.tm) := by funext x; cases x <;> rfl
def RS (E : Env) (st : St) (a : Act) (w : World) : Prop := RF E (findL st.tm) (findL st.mem) a w
def newsL : Nat → List Blk → List (Nat × Blk)
 | _, [] => []
 | n, b :: l => (n, b) :: newsL (n + 1) l
def Res.news (r : Res) (nx : Nat) : List (Nat × Blk) := newsL nx r.new
theorem newsL_find : ∀ (l : List Blk) (n k : Nat), findL (newsL n l) k = if n ≤ k then l[k - n]? else none
 | [], n, k => by simp [newsL, findL]
 | b :: l, n, k => by
  simp only [newsL, findL]
  rw [newsL_find l (n + 1) k]
  by_cases h : n = k
  ·subst h; simp
  ·rw [if_neg h]
   by_cases h2 : n ≤ k
   ·rw [if_pos h2, if_pos (by omega), show k - n = k - (n + 1) + 1 by omega]; simp
   ·rw [if_neg h2, if_neg (by omega)]
theorem newsL_has : ∀ (l : List Blk) (n i : Nat), i < l.length → n + i ∈ (newsL n l).map (·.1)
 | [], n, i, h => by simp at h
 | b :: l, n, 0, _ => by simp [newsL]
 | b :: l, n, i + 1, h => by
  simp only [newsL, List.map_cons, List.mem_cons]
  right
  rw [show n + (i + 1) = n + 1 + i by omega]
  exact newsL_has l (n + 1) i (by simpa using h)
def St.step (st : St) (d : Option Nat) (r : Res) : St :=
 ⟨match d with
  | some d => (d, r.v) :: st.tm
  | none => st.tm, r.upd ++ (r.news st.nx ++ st.mem), st.nx + r.new.length⟩
def freshB (st : St) : Nat → List Blk → Bool
 | _, [] => true
 | n, _ :: l => (match findL st.mem n with | none => true | some _ => false) && (st.tm.all fun p => !p.2.men n) && (st.mem.all fun p => !p.2.men n) && freshB st (n + 1) l
theorem freshB_ok {st : St} : ∀ {l : List Blk} {n : Nat}, freshB st n l = true → ∀ i, i < l.length → findL st.mem (n + i) = none ∧ (∀ p ∈ st.tm, p.2.men (n + i) = false) ∧ ∀ p ∈ st.mem, p.2.men (n + i) = false
 | [], n, _, i, h => by simp at h
 | b :: l, n, h, i, hi => by
  simp only [freshB, Bool.and_eq_true] at h
  obtain ⟨⟨⟨h6, h7⟩, h8⟩, h9⟩ := h
  cases i with
  | zero =>
   refine ⟨?_, fun p hp => by simpa using List.all_eq_true.1 h7 p hp, fun p hp => by simpa using List.all_eq_true.1 h8 p hp⟩
   cases hf : findL st.mem n with
   | none => simp
   | some b' => rw [hf] at h6; cases h6
  | succ i =>
   have := freshB_ok h9 i (by simpa using hi)
   rwa [show n + 1 + i = n + (i + 1) by omega] at this
def nodupB : List Nat → Bool
 | [] => true
 | k :: l => !(l.any (Nat.beq k)) && nodupB l
theorem nodupB_at : ∀ {l : List Nat}, nodupB l = true → ∀ (i j k : Nat), l[i]? = some k → l[j]? = some k → i = j
 | [], _, i, j, k, h, _ => by simp at h
 | x :: l, h, i, j, k, hi, hj => by
  simp only [nodupB, Bool.and_eq_true] at h
  have hx : ∀ j, l[j]? = some x → False := fun j hj => by
   have h1 := h.1
   have : (l.any (Nat.beq x)) = true := List.any_eq_true.2 ⟨x, List.mem_of_getElem? hj, by simp⟩
   rw [this] at h1
   cases h1
  cases i with
  | zero =>
   simp only [List.getElem?_cons_zero, Option.some.injEq] at hi
   subst hi
   cases j with
   | zero => rfl
   | succ j => exact (hx j (by simpa using hj)).elim
  | succ i =>
   cases j with
   | zero =>
    simp only [List.getElem?_cons_zero, Option.some.injEq] at hj
    subst hj
    exact (hx i (by simpa using hi)).elim
   | succ j => rw [nodupB_at h.2 i j k (by simpa using hi) (by simpa using hj)]
theorem key_uniq {α : Type} {l : List (Nat × α)} (h : nodupB (l.map (·.1)) = true) {k : Nat} {b b' : α} (h1 : (k, b) ∈ l) (h2 : (k, b') ∈ l) : b = b' := by
 obtain ⟨i, hi⟩ := List.getElem?_of_mem h1
 obtain ⟨j, hj⟩ := List.getElem?_of_mem h2
 have := nodupB_at h i j k (by simp [hi]) (by simp [hj])
 subst this
 rw [hi] at hj; cases hj; rfl
def uniqB : List (Nat × Blk) → Bool
 | [] => true
 | [_] => true
 | l => (l.all fun p => !p.2.live) || nodupB (l.map (·.1))
def resOk (n nx0 : Nat) (st : St) (d : Option Nat) (r : Res) : Bool :=
 (r.upd.all fun p => match findL st.mem p.1 with
  | some b => b.live
  | none => false) && uniqB r.upd && (r.upd.all fun p => r.rd.any fun k => Nat.beq k p.1) &&
 freshB st st.nx r.new && (match r.new with
  | [] => true
  | _ :: _ => Nat.ble nx0 st.nx) &&
 (match d with
  | some d => Nat.blt d n
  | none => true)
theorem uniqB_ok {l : List (Nat × Blk)} (h : uniqB l = true) (k : Nat) (b b' : Blk) (h1 : (k, b) ∈ l) (h2 : (k, b') ∈ l) : b = b' := by
 have dead : ∀ x : Blk, (!x.live) = true → x = .dead := fun x hx => by cases x <;> simp_all [Blk.live]
 match l, h with
 | [], _ => cases h1
 | [p], _ => simp only [List.mem_singleton] at h1 h2; have := h1.trans h2.symm; cases this; rfl
 | p :: q :: l, h =>
  simp only [uniqB, Bool.or_eq_true] at h
  rcases h with h | h
  ·have h' := List.all_eq_true.1 h
   rw [dead b (h' _ h1), dead b' (h' _ h2)]
  ·exact key_uniq h h1 h2
theorem findL_append {α : Type} (l m : List (Nat × α)) (k : Nat) : findL (l ++ m) k = match findL l k with | some v => some v | none => findL m k := by
 induction l with
 | nil => rfl
 | cons p l ih =>
  obtain ⟨k', v⟩ := p
  simp only [List.cons_append, findL]
  split
  ·rfl
  ·exact ih
theorem updF_step (st : St) (d : Option Nat) (r : Res) : updF (findL st.mem) r st.nx = findL (st.step d r).mem := by
 funext k
 simp only [updF, St.step, findL_append, Res.news, newsL_find]
 cases findL r.upd k with
 | some b => rfl
 | none =>
  simp only
  split
  ·cases r.new[k - st.nx]? <;> rfl
  ·rfl
theorem putF_step (st : St) (d : Option Nat) (r : Res) : putF (findL st.tm) d r.v = findL (st.step d r).tm := by
 funext t
 simp only [putF, St.step]
 cases d with
 | none => simp
 | some d => simp [findL]
section
variable {C : Ctx} {E : Env}
theorem ev_ok {tm : Nat → Option TV} {mem : Nat → Option Blk} {a : Act} {w : World} {ι : Nat → Value} {S : Nat → Prop} (I : Inv E ι S tm mem a w) {x : Operand} {tv : TV} (h : evF tm x = some tv) : V ι S w tv (a.eval x) := by
 cases x with
 | tmp t => exact I.tms t tv h
 | const v =>
  simp only [evF, Option.some.injEq] at h
  subst h
  unfold cvT
  split
  ·rename_i ho; exact Imm.v ho
  ·split
   ·rename_i cs _
    split
    ·rename_i ha
     refine ⟨cs.toList, by simp [Act.eval], All2.map_left ⟨rfl, fun i a b ha' hb => ?_⟩⟩
     rw [ha'] at hb; cases hb
     exact Imm.v (List.all_eq_true.1 ha a (List.mem_of_getElem? ha'))
    ·trivial
   ·trivial
 | func f =>
  simp only [evF, Option.some.injEq] at h
  subst h
  exact Imm.v rfl
 | global g => cases h
theorem resOk_spec {n nx0 : Nat} {st : St} {d : Option Nat} {r : Res} (h : resOk n nx0 st d r = true) :
  (∀ k b, (k, b) ∈ r.upd → ∃ b', findL st.mem k = some b' ∧ b'.live = true) ∧ uniqB r.upd = true ∧ (∀ k b, (k, b) ∈ r.upd → k ∈ r.rd) ∧
  (∀ i, i < r.new.length → findL st.mem (st.nx + i) = none ∧ (∀ p ∈ st.tm, p.2.men (st.nx + i) = false) ∧ ∀ p ∈ st.mem, p.2.men (st.nx + i) = false) ∧ (∀ d', d = some d' → d' < n) ∧ (r.new ≠ [] → nx0 ≤ st.nx) := by
 unfold resOk at h
 simp only [Bool.and_eq_true] at h
 obtain ⟨⟨⟨⟨⟨h1, h2⟩, h3⟩, h4⟩, h4'⟩, h5⟩ := h
 refine ⟨fun k b hk => ?_, h2, fun k b hk => ?_, freshB_ok h4, fun d' hd => ?_, fun hne => ?_⟩
 ·have := List.all_eq_true.1 h1 _ hk
  simp only at this
  cases hf : findL st.mem k with
  | none => rw [hf] at this; cases this
  | some b' => rw [hf] at this; exact ⟨b', rfl, this⟩
 ·have := List.all_eq_true.1 h3 _ hk
  obtain ⟨k', hk', e⟩ := List.any_eq_true.1 this
  have e' : k' = k := Nat.eq_of_beq_eq_true e
  rw [← e']
  exact hk'
 ·subst hd
  exact Nat.lt_of_succ_le (Nat.le_of_ble_eq_true h5)
 ·cases hr : r.new with
  | nil => exact absurd hr hne
  | cons b l => rw [hr] at h4'; exact Nat.le_of_ble_eq_true h4'
theorem step_st {o : Oper} {st : St} {r : Res} (hs : Spec C.P C.Γ o (evS st) (findL st.mem) st.nx r) (hok : resOk C.n C.nx0 st o.dst r = true) (hn : E.n = C.n ∧ E.Γ = C.Γ ∧ E.nx0 = C.nx0) {a : Act} {w : World} (hR : RS E st a w) {next : Act → World → Prop} {Q : Exit → Act → World → Prop}
  (hnext : (∀ v, r.v ≠ .pan v) → ∀ a' w', RS E (st.step o.dst r) a' w' → next a' w') (hpan : ∀ v, r.v = .pan v → ∀ w', RS E (st.step none r) a w' → Q (.panic (panE v)) a w') : o.wp C.P a w next Q := by
 obtain ⟨h1, h2, h3, h4, h5, h5'⟩ := resOk_spec hok
 refine step_ok (by rw [hn.2.1]; exact hs) hR (fun x _ tv htv ι S I => ?_) (fun _ _ _ h => h) h1 (fun i hi => ?_) (by rw [hn.2.2]; exact h5') (fun k b b' => uniqB_ok h2 k b b') (fun d hd => by rw [hn.1]; exact h5 d hd) (fun hnp a' w' hR' => hnext hnp a' w' ?_) (fun v hv w' hR' => hpan v hv w' ?_)
 ·rw [evS_F] at htv
  exact ev_ok I htv
 ·obtain ⟨h6, h7, h8⟩ := h4 i hi
  exact ⟨h6, fun t tv ht => h7 _ (findL_mem ht), fun k b hk => h8 _ (findL_mem hk)⟩
 ·unfold RS
  rw [← putF_step, ← updF_step]
  exact hR'
 ·unfold RS
  rw [← updF_step]
  exact hR'
theorem updF_pure (f : Nat → Option Blk) (v : TV) (nx : Nat) : updF f (pureR v) nx = f := by
 funext k
 simp [updF, findL]
theorem RF_put_und {tm : Nat → Option TV} {mem : Nat → Option Blk} {a : Act} {w : World} (h : RF E tm mem a w) (d : Option Nat) : RF E (putF tm d .und) mem (a.put d undef) w := by
 obtain ⟨ι, S, I⟩ := h
 refine ⟨ι, S, I.os, I.tape, I.output, I.size, I.old, I.slt, I.s0, I.sg, fun t tv ht => ?_, I.blk, I.mutb, I.dst, ?_, ?_, I.gl, I.ik⟩
 ·unfold putF at ht
  split at ht
  ·rename_i hd
   cases ht
   subst hd
   show (a.put (some t) undef).tmps.getD t undef = undef
   by_cases hlt : t < a.tmps.size
   ·exact put_getD_self hlt
   ·simp [Act.put, Array.getD, hlt]
  ·rename_i hne; rw [put_getD hne]; exact I.tms t tv ht
 ·have := I.dn; cases d <;> simpa [Act.put] using this
 ·have := I.sz; cases d <;> simpa [Act.put] using this
theorem RF_drew {tm : Nat → Option TV} {mem : Nat → Option Blk} {a : Act} {w : World} (h : RF E tm mem a w) : RF E tm mem a { w with drawn := w.drawn + 1 } := by
 obtain ⟨ι, S, I⟩ := h
 refine ⟨ι, S, I.os, I.tape, I.output, I.size, I.old, I.slt, I.s0, I.sg, fun t tv ht => V.mono (w := w) (w' := { w with drawn := w.drawn + 1 }) (ι := ι) (S := S) (fun _ _ => rfl) (fun _ h => h) (fun _ _ => rfl) (I.tms t tv ht), fun k b hk => ?_, I.mutb, I.dst, I.dn, I.sz, E.Γ.mono (w := w) (fun _ _ => rfl) (fun _ h => h) I.gl, I.ik⟩
 have := I.blk k b hk
 refine BlkOk.mono (w := w) (w' := { w with drawn := w.drawn + 1 }) (ι := ι) (S := S) (fun _ _ => rfl) (fun _ h => h) (fun _ => rfl) (fun _ _ => rfl) (fun hl g hg => ⟨rfl, ?_⟩) this
 exact (this.sep hl hg).2

def gval (ops : Array Oper) (st : St) (j : Nat) : Option (Option Bool) :=
 match (ops[j]?).bind (·.dst) with
 | some d => match findL st.tm d with
  | some (.o (.c (.d (.v (.bool b))))) => some (some b)
  | some .und => some none
  | _ => none
 | none => none
def runs (want : Bool) : Option Bool → Bool
 | some b => b == want
 | none => false
def forceC (x : CV) (K : CV → Prop) : Prop := match x with
 | .d x => K (.d x)
 | .ptr k o => forceN k fun k => forceN o fun o => K (.ptr k o)
 | .eptr cs => K (.eptr cs)
 | .rptr k s i j => forceN k fun k => K (.rptr k s i j)
 | .row k => forceN k fun k => K (.row k)
 | .mp k => forceN k fun k => K (.mp k)
 | .rsl k s i n => forceN k fun k => K (.rsl k s i n)
theorem forceC_eq (x : CV) (K : CV → Prop) : forceC x K = K x := by cases x <;> simp only [forceC, forceN_eq]
def forceCs : List CV → (List CV → Prop) → Prop
 | [], K => K []
 | x :: l, K => forceC x fun x => forceCs l fun l => K (x :: l)
theorem forceCs_eq : ∀ (l : List CV) (K : List CV → Prop), forceCs l K = K l
 | [], K => rfl
 | x :: l, K => by simp only [forceCs, forceC_eq, forceCs_eq l]
def forceT (x : T1) (K : T1 → Prop) : Prop := match x with
 | .c x => forceC x fun x => K (.c x)
 | .g l => forceCs l fun l => K (.g l)
 | .f h a l => forceCs l fun l => K (.f h a l)
theorem forceT_eq (x : T1) (K : T1 → Prop) : forceT x K = K x := by cases x <;> simp only [forceT, forceC_eq, forceCs_eq]
def forceTs : List T1 → (List T1 → Prop) → Prop
 | [], K => K []
 | x :: l, K => forceT x fun x => forceTs l fun l => K (x :: l)
theorem forceTs_eq : ∀ (l : List T1) (K : List T1 → Prop), forceTs l K = K l
 | [], K => rfl
 | x :: l, K => by simp only [forceTs, forceT_eq, forceTs_eq l]
def forceV (x : TV) (K : TV → Prop) : Prop := match x with
 | .no => K .no
 | .und => K .und
 | .o x => forceT x fun x => K (.o x)
 | .tup l => forceTs l fun l => K (.tup l)
 | .pan v => K (.pan v)
theorem forceV_eq (x : TV) (K : TV → Prop) : forceV x K = K x := by cases x <;> simp only [forceV, forceT_eq, forceTs_eq]
def forceB (x : Blk) (K : Blk → Prop) : Prop := match x with
 | .obj l tg => forceCs l fun l => K (.obj l tg)
 | .row s e rows => K (.row s e rows)
 | .map es => K (.map es)
 | .dead => K .dead
theorem forceB_eq (x : Blk) (K : Blk → Prop) : forceB x K = K x := by cases x <;> simp only [forceB, forceCs_eq]
def appK : List (Nat × Blk) → List (Nat × Blk) → (List (Nat × Blk) → Prop) → Prop
 | [], m, K => K m
 | (k, b) :: l, m, K => forceN k fun k => forceB b fun b => appK l m fun m => K ((k, b) :: m)
theorem appK_eq : ∀ (l m : List (Nat × Blk)) (K : List (Nat × Blk) → Prop), appK l m K = K (l ++ m)
 | [], m, K => rfl
 | (k, b) :: l, m, K => by simp only [appK, forceN_eq, forceB_eq, appK_eq l, List.cons_append]
def forceLen : List Blk → Nat → (Nat → Prop) → Prop
 | [], n, K => forceN n K
 | _ :: l, n, K => forceN (n + 1) fun n => forceLen l n K
theorem forceLen_eq : ∀ (l : List Blk) (n : Nat) (K : Nat → Prop), forceLen l n K = K (n + l.length)
 | [], n, K => by rw [forceLen, forceN_eq]; rfl
 | _ :: l, n, K => by rw [forceLen, forceN_eq, forceLen_eq l, List.length_cons, Nat.add_assoc, Nat.add_comm 1]
def stepK (st : St) (d : Option Nat) (r : Res) (K : St → Prop) : Prop := match st, r with
 | ⟨tm, mem, nx⟩, ⟨v, _, upd, new⟩ => appK (newsL nx new) mem fun m1 => appK upd m1 fun m2 => forceLen new nx fun nx' => match d with
  | some d => forceV v fun v => K ⟨(d, v) :: tm, m2, nx'⟩
  | none => K ⟨tm, m2, nx'⟩
theorem stepK_eq (st : St) (d : Option Nat) (r : Res) (K : St → Prop) : stepK st d r K = K (st.step d r) := by
 obtain ⟨tm, mem, nx⟩ := st
 obtain ⟨v, rd, upd, new⟩ := r
 simp only [stepK, appK_eq, forceLen_eq, forceV_eq, St.step, Res.news]
 cases d <;> rfl
def panK (tv : TV) (Kp : Value → Prop) (K : Prop) : Prop := match tv with
 | .pan v => Kp v
 | _ => K
def exP (C : Ctx) (o : Oper) (st : St) (K : Res → St → Prop) (Kp : Value → Res → St → Prop) : Prop :=
 ex C.P C.Γ C.L (evS st) (findL st.mem) st.nx o.op fun r => match resOk C.n C.nx0 st o.dst r with
  | true => panK r.v (fun v => stepK st none r fun st' => Kp v r st') (stepK st o.dst r fun st' => K r st')
  | false => False
def dstB (n : Nat) : Option Nat → Bool
 | some d => Nat.blt d n
 | none => true
noncomputable def vcOps (C : Ctx) (ops : Array Oper) (os : List Oper) : St → (St → Prop) → (Value → St → Prop) → Prop :=
 List.rec (motive := fun _ => St → (St → Prop) → (Value → St → Prop) → Prop) (fun st K _ => K st) (fun o _ ih st K Kp => match o.guard with
  | none => exP C o st (fun _ st' => ih st' K Kp) (fun v _ st' => Kp v st')
  | some (j, want) => match gval ops st j with
   | some b => match runs want b with
    | true => exP C o st (fun _ st' => ih st' K Kp) (fun v _ st' => Kp v st')
    | false => stepK st o.dst (pureR .und) fun st' => ih st' K Kp
   | none => False) os
theorem vcOps_cons (C : Ctx) (ops : Array Oper) (o : Oper) (os : List Oper) (st : St) (K : St → Prop) (Kp : Value → St → Prop) : vcOps C ops (o :: os) st K Kp = (match o.guard with
  | none => exP C o st (fun _ st' => vcOps C ops os st' K Kp) (fun v _ st' => Kp v st')
  | some (j, want) => match gval ops st j with
   | some b => match runs want b with
    | true => exP C o st (fun _ st' => vcOps C ops os st' K Kp) (fun v _ st' => Kp v st')
    | false => stepK st o.dst (pureR .und) fun st' => vcOps C ops os st' K Kp
   | none => False) := rfl
theorem gval_ok {ops : Array Oper} {tm : Nat → Option TV} {mem : Nat → Option Blk} {a : Act} {w : World} (hR : RF E tm mem a w) {j d : Nat} {b : Bool} (hd : (ops[j]?).bind (·.dst) = some d) (ht : tm d = some (.o (.c (.d (.v (.bool b)))))) : yielded ops a.tmps j = some b := by
 obtain ⟨ι, S, I⟩ := hR
 have hv := V_v (I.tms d _ ht)
 unfold yielded
 rw [hd]
 simp only [Option.bind_some]
 have hlt : d < a.tmps.size := by
  rcases Nat.lt_or_ge d a.tmps.size with h | h
  ·exact h
  ·simp [Array.getD, Nat.not_lt.2 h, undef] at hv
 have hv' : a.tmps[d]? = some (.bool b) := by
  rw [Array.getElem?_eq_getElem hlt]
  simp only [Act.eval, Array.getD, hlt, dite_true] at hv
  exact congrArg some hv
 rw [hv']
theorem gval_und {ops : Array Oper} {tm : Nat → Option TV} {mem : Nat → Option Blk} {a : Act} {w : World} (hR : RF E tm mem a w) {j d : Nat} (hd : (ops[j]?).bind (·.dst) = some d) (ht : tm d = some .und) : yielded ops a.tmps j = none := by
 obtain ⟨ι, S, I⟩ := hR
 have hv : a.tmps.getD d undef = undef := I.tms d _ ht
 unfold yielded
 rw [hd]
 simp only [Option.bind_some]
 by_cases hlt : d < a.tmps.size
 ·have hv' : a.tmps[d]? = some undef := by
   rw [Array.getElem?_eq_getElem hlt]
   simp only [Array.getD, hlt, dite_true] at hv
   exact congrArg some hv
  rw [hv']
  rfl
 ·rw [Array.getElem?_eq_none (by omega)]
def tvOf : Option Bool → TV
 | some b => .o (.c (.d (.v (.bool b))))
 | none => .und
theorem gval_any {ops : Array Oper} {tm : Nat → Option TV} {mem : Nat → Option Blk} {a : Act} {w : World} (hR : RF E tm mem a w) {j d : Nat} {b : Option Bool} (hd : (ops[j]?).bind (·.dst) = some d) (ht : tm d = some (tvOf b)) : yielded ops a.tmps j = b := by
 cases b with
 | some b => exact gval_ok hR hd ht
 | none => exact gval_und hR hd ht
theorem gval_spec {ops : Array Oper} {st : St} {j : Nat} {b : Option Bool} (h : gval ops st j = some b) : ∃ d, (ops[j]?).bind (·.dst) = some d ∧ findL st.tm d = some (tvOf b) := by
 unfold gval at h
 split at h
 ·rename_i d hd
  split at h
  ·rename_i b' hf; cases h; exact ⟨d, hd, hf⟩
  ·rename_i hf; cases h; exact ⟨d, hd, hf⟩
  ·cases h
 ·cases h
theorem wanted_runs {o : Oper} {f : Nat → Option Bool} {j : Nat} {want : Bool} {b : Option Bool} (hg : o.guard = some (j, want)) (hy : f j = b) : Region.wanted o f = runs want b := by
 simp only [Region.wanted, hg, hy]
 cases b with
 | some b => cases b <;> cases want <;> rfl
 | none => rfl
theorem vcOps_ok (hL : LOk C.P C.L) (hn : E.n = C.n ∧ E.Γ = C.Γ ∧ E.nx0 = C.nx0) {ops : Array Oper} {Q : Exit → Act → World → Prop} {K : St → Prop} {Kp : Value → St → Prop} (hQ : ∀ st a w, RS E st a w → K st → Q .normal a w) (hQp : ∀ v st a w, RS E st a w → Kp v st → Q (.panic (panE v)) a w) : ∀ (os : List Oper) (st : St) (a : Act) (w : World), vcOps C ops os st K Kp → RS E st a w → wpList C.P ops Q os a w
 | [], st, a, w, h, hR => hQ st a w hR h
 | o :: os, st, a, w, h, hR => by
  have run : exP C o st (fun _ st' => vcOps C ops os st' K Kp) (fun v _ st' => Kp v st') → Region.wanted o (yielded ops a.tmps) = true → wpList C.P ops Q (o :: os) a w := fun hx hw => by
   unfold exP at hx
   obtain ⟨r, hs, hr⟩ := ex_ok hL hx
   split at hr
   ·rename_i hok
    simp only [stepK_eq] at hr
    simp only [wpList, hw, if_true]
    unfold panK at hr
    split at hr
    ·rename_i v hv
     refine .inl (step_st hs hok hn hR (fun hnp a' w' hR' => absurd hv (hnp v)) (fun v' hv' w' hR' => ?_))
     ·rw [hv] at hv'
      cases hv'
      exact hQp _ _ a w' hR' hr
    ·rename_i hno
     exact .inl (step_st hs hok hn hR (fun _ a' w' hR' => vcOps_ok hL hn hQ hQp os _ a' w' hr hR') (fun v' hv' w' hR' => absurd hv' (hno v')))
   ·exact hr.elim
  rw [vcOps_cons] at h
  split at h
  ·rename_i hg
   exact run h (by simp [Region.wanted, hg])
  ·rename_i j want hg
   split at h
   ·rename_i b hb
    obtain ⟨d, hd, hf⟩ := gval_spec hb
    have hy := gval_any hR hd hf
    split at h
    ·rename_i hbw
     exact run h ((wanted_runs hg hy).trans hbw)
    ·rename_i hbw
     rw [stepK_eq] at h
     have hw : Region.wanted o (yielded ops a.tmps) = false := (wanted_runs hg hy).trans hbw
     simp only [wpList, hw, Bool.false_eq_true, if_false]
     refine vcOps_ok hL hn hQ hQp os _ _ w h ?_
     unfold RS
     rw [← putF_step, ← updF_step, updF_pure]
     exact RF_put_und hR o.dst
   ·exact h.elim
end
end Go.Proofs.YtidnlfkakhmadaaGreatDoor

namespace Go.Proofs.YtidnlfkakhmadaaGreatDoor
open Go.RowKit

structure Rec where
 st : St
 o : Oper
 r : Res
 run : Bool
 dead : Bool
def memN (n : Nat) : List Nat → Bool
 | [] => false
 | k :: l => match Nat.beq k n with
  | true => true
  | false => memN n l
theorem memN_mem {n : Nat} : ∀ {l : List Nat}, memN n l = true ↔ n ∈ l
 | [] => by simp [memN]
 | k :: l => by
  simp only [memN, List.mem_cons]
  split
  ·rename_i h
   have := Nat.eq_of_beq_eq_true h
   simp [this]
  ·rename_i h
   have := Nat.ne_of_beq_eq_false h
   rw [memN_mem]
   simp [Ne.symm this]
def deadB (o : Oper) (dead : List Nat) : Bool := o.after.toList.any fun e => Region.binds .any e && memN e.on dead
def firstP (pj : Option Nat) (K : Prop) : Prop := match pj with
 | none => K
 | some _ => False
noncomputable def vcD (C : Ctx) (ops : Array Oper) (os : List Oper) : List Rec → List Nat → Option Nat → St → (List Rec → Option Nat → St → Prop) → Prop :=
 List.rec (motive := fun _ => List Rec → List Nat → Option Nat → St → (List Rec → Option Nat → St → Prop) → Prop) (fun recs _ pj st K => K recs pj st) (fun o _ ih recs dead pj st K => match deadB o dead with
  | true => ih (recs ++ [⟨st, o, pureR .und, false, true⟩]) (recs.length :: dead) pj st K
  | false => match o.guard with
   | none => exP C o st (fun r st' => ih (recs ++ [⟨st, o, r, true, false⟩]) dead pj st' K) (fun _ r _ => firstP pj (ih (recs ++ [⟨st, o, r, true, true⟩]) (recs.length :: dead) (some recs.length) st K))
   | some (j, want) => match gval ops st j with
    | some b => match runs want b with
     | true => exP C o st (fun r st' => ih (recs ++ [⟨st, o, r, true, false⟩]) dead pj st' K) (fun _ r _ => firstP pj (ih (recs ++ [⟨st, o, r, true, true⟩]) (recs.length :: dead) (some recs.length) st K))
     | false => stepK st o.dst (pureR .und) fun st' => ih (recs ++ [⟨st, o, pureR .und, false, false⟩]) dead pj st' K
    | none => False) os
theorem vcD_nil (C : Ctx) (ops : Array Oper) (recs : List Rec) (dead : List Nat) (pj : Option Nat) (st : St) (K : List Rec → Option Nat → St → Prop) : vcD C ops [] recs dead pj st K = K recs pj st := rfl
theorem vcD_cons (C : Ctx) (ops : Array Oper) (o : Oper) (os : List Oper) (recs : List Rec) (dead : List Nat) (pj : Option Nat) (st : St) (K : List Rec → Option Nat → St → Prop) : vcD C ops (o :: os) recs dead pj st K = (match deadB o dead with
  | true => vcD C ops os (recs ++ [⟨st, o, pureR .und, false, true⟩]) (recs.length :: dead) pj st K
  | false => match o.guard with
   | none => exP C o st (fun r st' => vcD C ops os (recs ++ [⟨st, o, r, true, false⟩]) dead pj st' K) (fun _ r _ => firstP pj (vcD C ops os (recs ++ [⟨st, o, r, true, true⟩]) (recs.length :: dead) (some recs.length) st K))
   | some (j, want) => match gval ops st j with
    | some b => match runs want b with
     | true => exP C o st (fun r st' => vcD C ops os (recs ++ [⟨st, o, r, true, false⟩]) dead pj st' K) (fun _ r _ => firstP pj (vcD C ops os (recs ++ [⟨st, o, r, true, true⟩]) (recs.length :: dead) (some recs.length) st K))
     | false => stepK st o.dst (pureR .und) fun st' => vcD C ops os (recs ++ [⟨st, o, pureR .und, false, false⟩]) dead pj st' K
    | none => False) := rfl
def maskOf (o : Oper) (acc : List Nat) : Nat := o.after.toList.foldl (fun s e => match Region.binds .any e with
 | true => s ||| 2 ^ e.on ||| acc.getD e.on 0
 | false => s) 0
def masks : List Oper → List Nat → List Nat
 | [], acc => acc
 | o :: os, acc => masks os (acc ++ [maskOf o acc])
def Rec.ws (x : Rec) : List (Nat × Blk) := match x.dead with
 | true => []
 | false => x.r.upd ++ x.r.news x.st.nx
def Rec.next (x : Rec) : St := match x.dead with
 | true => x.st
 | false => x.st.step x.o.dst x.r
def Rec.rs (x : Rec) : List Nat := x.r.rd ++ x.ws.map (·.1)
def sameCV : CV → CV → Bool
 | .ptr k o, .ptr k' o' => Nat.beq k k' && Nat.beq o o'
 | .row k, .row k' => Nat.beq k k'
 | _, _ => false
theorem sameCV_ok {x y : CV} (h : sameCV x y = true) : x = y := by
 unfold sameCV at h
 split at h
 ·rw [Bool.and_eq_true] at h
  rw [Nat.eq_of_beq_eq_true h.1, Nat.eq_of_beq_eq_true h.2]
 ·rw [Nat.eq_of_beq_eq_true h]
 ·cases h
def stab (x y : Rec) : Bool := match x.o.op with
 | .load _ (.tmp a) => match findL x.st.tm a, x.r with
  | some (.o (.c (.ptr k off))), ⟨.o (.c c), [k'], [], []⟩ => Nat.beq k k' && (match findL y.ws k with
   | some (.obj cells _) => (match cells[off]? with
    | some c' => sameCV c c'
    | none => false)
   | _ => false)
  | _, _ => false
 | _ => false
theorem stab_ok {x y : Rec} (h : stab x y = true) : ∃ k off c, loadsAt (evS x.st) x.o.op x.r k off c ∧ x.r.rd = [k] ∧ x.r.upd = [] ∧ x.r.new = [] ∧ ∃ cells tg, findL y.ws k = some (.obj cells tg) ∧ cells[off]? = some c := by
 unfold stab at h
 split at h
 ·rename_i t a hop
  split at h
  ·rename_i k off c k' htm hr
   rw [Bool.and_eq_true] at h
   obtain rfl := Nat.eq_of_beq_eq_true h.1
   have h2 := h.2
   split at h2
   ·rename_i cells tg hf
    split at h2
    ·rename_i c' hc
     obtain rfl := sameCV_ok h2
     exact ⟨k, off, c, ⟨t, a, hop, htm, hr⟩, by rw [hr], by rw [hr], by rw [hr], cells, tg, hf, hc⟩
    ·cases h2
   ·cases h2
  ·cases h
 ·cases h
def indep (ops : Array Oper) (x y : Rec) : Bool :=
 Oper.apart ops x.o y.o && disj (x.ws.map (·.1)) y.rs && (disj (y.ws.map (·.1)) x.rs || stab x y) &&
 ((x.r.news x.st.nx).all fun q => !y.r.v.men q.1 && y.ws.all fun p => !p.2.men q.1)
def backL (ops : List Oper) : Bool := ops.zipIdx.all fun p => p.1.after.toList.all fun e => !Region.binds .any e || Nat.blt e.on p.2
def notP (pj : Option Nat) (i : Nat) : Bool := match pj with
 | none => true
 | some p => !(Nat.beq p i)
def drawOk (ops : Array Oper) (recs : List Rec) (pj : Option Nat) : Bool :=
 backL ops.toList && ((List.range recs.length).all fun j => (List.range j).all fun i => ((masks ops.toList []).getD j 0).testBit i || (match recs[i]?, recs[j]? with
  | some x, some y => (x.dead && notP pj i) || (y.dead && notP pj j) || indep ops x y
  | _, _ => true)) && (match pj with
  | none => true
  | some p => (List.range recs.length).all fun i => match recs[i]? with
   | some x => x.ws.isEmpty || (Nat.blt i p && ((masks ops.toList []).getD p 0).testBit i)
   | none => true)

section
variable {α : Type}
def app (u f : Nat → Option α) : Nat → Option α := fun t => match u t with
 | some x => some x
 | none => f t
def ov : List (Nat → Option α) → (Nat → Bool) → Nat → (Nat → Option α) → Nat → Option α
 | [], _, _, f => f
 | u :: us, X, i, f => ov us X (i + 1) (match X i with | true => app u f | false => f)
theorem ov_congr : ∀ (us : List (Nat → Option α)) (X Y : Nat → Bool) (i : Nat) (f g : Nat → Option α) (t : Nat), (∀ j u, us[j]? = some u → u t ≠ none → X (i + j) = Y (i + j)) → f t = g t → ov us X i f t = ov us Y i g t
 | [], X, Y, i, f, g, t, _, hf => hf
 | u :: us, X, Y, i, f, g, t, h, hf => by
  simp only [ov]
  refine ov_congr us X Y (i + 1) _ _ t (fun j u' hu hn => by have := h (j + 1) u' (by simpa using hu) hn; rwa [show i + (j + 1) = i + 1 + j by omega] at this) ?_
  by_cases hn : u t = none
  ·have e : ∀ (b : Bool) (f : Nat → Option α), (match b with | true => app u f | false => f) t = f t := fun b f => by
    cases b
    ·rfl
    ·simp [app, hn]
   rw [e, e]; exact hf
  ·have := h 0 u rfl hn
   simp only [Nat.add_zero] at this
   rw [this]
   cases Y i
   ·exact hf
   ·simp only [app, hf]
theorem ov_false : ∀ (us : List (Nat → Option α)) (X : Nat → Bool) (i : Nat) (f : Nat → Option α) (t : Nat), (∀ j u, us[j]? = some u → u t ≠ none → X (i + j) = false) → ov us X i f t = f t
 | us, X, i, f, t, h => by
  rw [ov_congr us X (fun _ => false) i f f t h rfl]
  clear h
  induction us generalizing i f with
  | nil => rfl
  | cons u us ih => simp only [ov]; exact ih _ _
theorem ov_last : ∀ (us : List (Nat → Option α)) (X : Nat → Bool) (i : Nat) (f : Nat → Option α) (t j : Nat) (u : Nat → Option α) (v : α), us[j]? = some u → u t = some v → X (i + j) = true →
  (∀ j' u', j < j' → us[j']? = some u' → u' t ≠ none → X (i + j') = false) → ov us X i f t = some v
 | [], _, _, _, _, _, _, _, h, _, _, _ => by simp at h
 | u0 :: us, X, i, f, t, 0, u, v, h, hu, hX, hl => by
  simp only [List.getElem?_cons_zero, Option.some.injEq] at h
  subst h
  simp only [Nat.add_zero] at hX
  simp only [ov, hX]
  rw [ov_false us X (i + 1) _ t (fun j' u' hu' hn => by have := hl (j' + 1) u' (by omega) (by simpa using hu') hn; rwa [show i + (j' + 1) = i + 1 + j' by omega] at this)]
  simp [app, hu]
 | u0 :: us, X, i, f, t, j + 1, u, v, h, hu, hX, hl => by
  simp only [ov]
  refine ov_last us X (i + 1) _ t j u v (by simpa using h) hu (by rwa [show i + 1 + j = i + (j + 1) by omega]) (fun j' u' hj hu' hn => ?_)
  have := hl (j' + 1) u' (by omega) (by simpa using hu') hn
  rwa [show i + (j' + 1) = i + 1 + j' by omega] at this
theorem ov_stab {p : α → Prop} : ∀ (us : List (Nat → Option α)) (X Y : Nat → Bool) (i : Nat) (f g : Nat → Option α) (t : Nat), (∀ j u, us[j]? = some u → ∀ v, u t = some v → X (i + j) = Y (i + j) ∨ (Y (i + j) = false ∧ p v)) → (f t = g t ∨ ∃ v, f t = some v ∧ p v) →
  (ov us X i f t = ov us Y i g t ∨ ∃ v, ov us X i f t = some v ∧ p v)
 | [], X, Y, i, f, g, t, _, hf => hf
 | u :: us, X, Y, i, f, g, t, h, hf => by
  simp only [ov]
  refine ov_stab us X Y (i + 1) _ _ t (fun j u' hu v hv => by have := h (j + 1) u' (by simpa using hu) v hv; rwa [show i + (j + 1) = i + 1 + j by omega] at this) ?_
  cases hu : u t with
  | none =>
   have e : ∀ (b : Bool) (f : Nat → Option α), (match b with | true => app u f | false => f) t = f t := fun b f => by
    cases b
    ·rfl
    ·simp [app, hu]
   rw [e, e]; exact hf
  | some v =>
   have h0 := h 0 u rfl v hu
   simp only [Nat.add_zero] at h0
   rcases h0 with h0 | ⟨h0, hp⟩
   ·rw [h0]
    cases Y i
    ·exact hf
    ·left; simp only [app, hu]
   ·rw [h0]
    cases X i
    ·exact hf
    ·right; exact ⟨v, by simp only [app, hu], hp⟩
theorem ov_from : ∀ (us : List (Nat → Option α)) (X : Nat → Bool) (i : Nat) (f : Nat → Option α) (t : Nat) (v : α), ov us X i f t = some v → f t = some v ∨ ∃ j u, us[j]? = some u ∧ X (i + j) = true ∧ u t = some v
 | [], _, _, _, _, _, h => .inl h
 | u :: us, X, i, f, t, v, h => by
  simp only [ov] at h
  rcases ov_from us X (i + 1) _ t v h with h | ⟨j, u', h1, h2, h3⟩
  ·cases hX : X i with
   | false => rw [hX] at h; exact .inl h
   | true =>
    rw [hX] at h
    simp only [app] at h
    cases hu : u t with
    | none => rw [hu] at h; exact .inl h
    | some x => rw [hu] at h; cases h; exact .inr ⟨0, u, rfl, hX, hu⟩
  ·exact .inr ⟨j + 1, u', by simpa using h1, by rwa [show i + (j + 1) = i + 1 + j by omega], h3⟩
end
def uT (x : Rec) : Nat → Option TV := fun t => match x.dead with
 | true => none
 | false => if x.o.dst = some t then some x.r.v else none
def uM (x : Rec) : Nat → Option Blk := findL x.ws
theorem app_uT (x : Rec) : app (uT x) (findL x.st.tm) = findL x.next.tm := by
 funext t
 unfold uT Rec.next app
 cases hd : x.dead with
 | true => rfl
 | false =>
  simp only
  rw [← putF_step]
  simp only [putF]
  split <;> (rename_i h; split at h <;> simp_all)
theorem app_uM (x : Rec) : app (uM x) (findL x.st.mem) = findL x.next.mem := by
 funext t
 unfold uM Rec.ws Rec.next app
 cases hd : x.dead with
 | true => rfl
 | false =>
  simp only [St.step, ← List.append_assoc]
  rw [findL_append (x.r.upd ++ x.r.news x.st.nx)]
  try (cases findL (x.r.upd ++ x.r.news x.st.nx) t <;> rfl)
theorem updF_app (x : Rec) (hd : x.dead = false) (f : Nat → Option Blk) : updF f x.r x.st.nx = app (uM x) f := by
 funext k
 simp only [updF, app, uM, Rec.ws, hd, findL_append, Res.news, newsL_find]
 cases findL x.r.upd k with
 | some b => rfl
 | none =>
  simp only
  split
  ·cases x.r.new[k - x.st.nx]? <;> rfl
  ·rfl
theorem putF_app (x : Rec) (hd : x.dead = false) (f : Nat → Option TV) : putF f x.o.dst x.r.v = app (uT x) f := by
 funext t
 simp only [app, uT, hd, putF]
 split <;> rename_i h <;> simp [h]
theorem RF_weak {E : Env} {tm tm' : Nat → Option TV} {mem mem' : Nat → Option Blk} {a : Act} {w : World} (h1 : ∀ t v, tm' t = some v → tm t = some v) (h2 : ∀ k b, mem' k = some b → mem k = some b) (h : RF E tm mem a w) : RF E tm' mem' a w := by
 obtain ⟨ι, S, I⟩ := h
 exact ⟨ι, S, I.os, I.tape, I.output, I.size, I.old, I.slt, I.s0, I.sg, fun t tv ht => I.tms t tv (h1 t tv ht), fun k b hk => I.blk k b (h2 k b hk), fun k b hk => I.mutb k b (h2 k b hk), fun k k' b b' g hk hk' => I.dst k k' b b' g (h2 k b hk) (h2 k' b' hk'), I.dn, I.sz, I.gl, I.ik⟩

def ChainOk : St → List Rec → St → Prop
 | st, [], st' => st = st'
 | st, x :: xs, st' => x.st = st ∧ ChainOk x.next xs st'
def RecOk (C : Ctx) (ops : Array Oper) (x : Rec) : Prop :=
 (match x.o.guard with
  | none => x.run = true
  | some (j, want) => ∃ b, gval ops x.st j = some b ∧ x.run = runs want b) ∧
 (x.run = true → Spec C.P C.Γ x.o (evS x.st) (findL x.st.mem) x.st.nx x.r ∧ resOk C.n C.nx0 x.st x.o.dst x.r = true ∧ ∀ k off c, loadsAt (evS x.st) x.o.op x.r k off c → (∃ cells tg, findL x.st.mem k = some (.obj cells tg) ∧ cells[off]? = some c) ∧ ∀ mem' : Nat → Option Blk, (∃ cells tg, mem' k = some (.obj cells tg) ∧ cells[off]? = some c) → Spec C.P C.Γ x.o (evS x.st) mem' x.st.nx x.r) ∧ (x.run = false → x.r = pureR .und)
structure DOk (C : Ctx) (ops : Array Oper) (recs : List Rec) (dead : List Nat) (pj : Option Nat) : Prop where
 mem : ∀ (i : Nat) (x : Rec), recs[i]? = some x → (x.dead = true ↔ i ∈ dead)
 lt : ∀ i ∈ dead, i < recs.length
 why : ∀ (i : Nat) (x : Rec), recs[i]? = some x → x.dead = true → (pj = some i ∧ RecOk C ops x ∧ x.run = true ∧ ∃ v, x.r.v = .pan v) ∨ ∃ e ∈ x.o.after, Region.binds .any e = true ∧ e.on ∈ dead
 live : ∀ (i : Nat) (x : Rec), recs[i]? = some x → x.dead = false → RecOk C ops x ∧ ∀ v, x.r.v ≠ .pan v
 pan : ∀ (p : Nat), pj = some p → p ∈ dead ∧ ∃ x : Rec, recs[p]? = some x ∧ RecOk C ops x ∧ x.run = true ∧ ∃ v, x.r.v = .pan v
theorem DOk.nil {C : Ctx} {ops : Array Oper} : DOk C ops [] [] none := ⟨by simp, by simp, by simp, by simp, by simp⟩
theorem getElem?_snoc {α : Type} {l : List α} {a x : α} {i : Nat} (h : (l ++ [a])[i]? = some x) : l[i]? = some x ∨ (i = l.length ∧ x = a) := by
 rw [List.getElem?_append] at h
 split at h
 ·exact .inl h
 ·rename_i hlt
  have : i - l.length = 0 := by
   rcases Nat.eq_zero_or_pos (i - l.length) with h' | h'
   ·exact h'
   ·rw [List.getElem?_eq_none (by simp; omega)] at h; cases h
  rw [this] at h
  simp at h
  exact .inr ⟨by omega, h.symm⟩
theorem DOk.add {C : Ctx} {ops : Array Oper} {recs : List Rec} {dead : List Nat} {pj : Option Nat} (h : DOk C ops recs dead pj) {x : Rec} (hd : x.dead = false) (hx : RecOk C ops x) (hnp : ∀ v, x.r.v ≠ .pan v) : DOk C ops (recs ++ [x]) dead pj := by
 have hnm : recs.length ∉ dead := fun hm => by have := h.lt _ hm; omega
 refine ⟨fun i y hy => ?_, fun i hi => by have := h.lt i hi; simp; omega, fun i y hy hdy => ?_, fun i y hy hdy => ?_, fun p hp => ?_⟩
 ·rcases getElem?_snoc hy with hy | ⟨rfl, rfl⟩
  ·exact h.mem i y hy
  ·simp [hd, hnm]
 ·rcases getElem?_snoc hy with hy | ⟨rfl, rfl⟩
  ·exact h.why i y hy hdy
  ·rw [hd] at hdy; cases hdy
 ·rcases getElem?_snoc hy with hy | ⟨rfl, rfl⟩
  ·exact h.live i y hy hdy
  ·exact ⟨hx, hnp⟩
 ·obtain ⟨h1, y, hy, h2⟩ := h.pan p hp
  exact ⟨h1, y, by rw [List.getElem?_append_left (List.getElem?_eq_some_iff.1 hy).1]; exact hy, h2⟩
theorem DOk.wait {C : Ctx} {ops : Array Oper} {recs : List Rec} {dead : List Nat} {pj : Option Nat} (h : DOk C ops recs dead pj) {x : Rec} (hd : x.dead = true) (hx : ∃ e ∈ x.o.after, Region.binds .any e = true ∧ e.on ∈ dead) : DOk C ops (recs ++ [x]) (recs.length :: dead) pj := by
 have hne : ∀ i y, recs[i]? = some y → i ≠ recs.length := fun i y hy e => by have := (List.getElem?_eq_some_iff.1 hy).1; omega
 refine ⟨fun i y hy => ?_, fun i hi => ?_, fun i y hy hdy => ?_, fun i y hy hdy => ?_, fun p hp => ?_⟩
 ·rcases getElem?_snoc hy with hy | ⟨rfl, rfl⟩
  ·rw [h.mem i y hy]; simp [hne i y hy]
  ·simp [hd]
 ·rcases List.mem_cons.1 hi with rfl | hi
  ·simp
  ·have := h.lt i hi; simp; omega
 ·rcases getElem?_snoc hy with hy | ⟨rfl, rfl⟩
  ·rcases h.why i y hy hdy with h1 | ⟨e, h1, h2, h3⟩
   ·exact .inl h1
   ·exact .inr ⟨e, h1, h2, List.mem_cons_of_mem _ h3⟩
  ·obtain ⟨e, h1, h2, h3⟩ := hx
   exact .inr ⟨e, h1, h2, List.mem_cons_of_mem _ h3⟩
 ·rcases getElem?_snoc hy with hy | ⟨rfl, rfl⟩
  ·exact h.live i y hy hdy
  ·rw [hd] at hdy; cases hdy
 ·obtain ⟨h1, y, hy, h2⟩ := h.pan p hp
  exact ⟨List.mem_cons_of_mem _ h1, y, by rw [List.getElem?_append_left (List.getElem?_eq_some_iff.1 hy).1]; exact hy, h2⟩
theorem DOk.panics {C : Ctx} {ops : Array Oper} {recs : List Rec} {dead : List Nat} (h : DOk C ops recs dead none) {x : Rec} (hd : x.dead = true) (hx : RecOk C ops x) (hr : x.run = true) (hv : ∃ v, x.r.v = .pan v) : DOk C ops (recs ++ [x]) (recs.length :: dead) (some recs.length) := by
 have hne : ∀ i y, recs[i]? = some y → i ≠ recs.length := fun i y hy e => by have := (List.getElem?_eq_some_iff.1 hy).1; omega
 refine ⟨fun i y hy => ?_, fun i hi => ?_, fun i y hy hdy => ?_, fun i y hy hdy => ?_, fun p hp => ?_⟩
 ·rcases getElem?_snoc hy with hy | ⟨rfl, rfl⟩
  ·rw [h.mem i y hy]; simp [hne i y hy]
  ·simp [hd]
 ·rcases List.mem_cons.1 hi with rfl | hi
  ·simp
  ·have := h.lt i hi; simp; omega
 ·rcases getElem?_snoc hy with hy | ⟨rfl, rfl⟩
  ·rcases h.why i y hy hdy with h1 | ⟨e, h1, h2, h3⟩
   ·cases h1.1
   ·exact .inr ⟨e, h1, h2, List.mem_cons_of_mem _ h3⟩
  ·exact .inl ⟨rfl, hx, hr, hv⟩
 ·rcases getElem?_snoc hy with hy | ⟨rfl, rfl⟩
  ·exact h.live i y hy hdy
  ·rw [hd] at hdy; cases hdy
 ·cases hp
  exact ⟨by simp, x, by simp, hx, hr, hv⟩
theorem vcD_recs {C : Ctx} (hL : LOk C.P C.L) {ops : Array Oper} : ∀ (os : List Oper) (recs : List Rec) (dead : List Nat) (pj : Option Nat) (st : St) (K : List Rec → Option Nat → St → Prop), DOk C ops recs dead pj → vcD C ops os recs dead pj st K →
  ∃ xs dead' pj' st', xs.map (·.o) = os ∧ ChainOk st xs st' ∧ DOk C ops (recs ++ xs) dead' pj' ∧ K (recs ++ xs) pj' st'
 | [], recs, dead, pj, st, K, hD, h => ⟨[], dead, pj, st, rfl, rfl, by simpa using hD, by rw [vcD_nil] at h; simpa using h⟩
 | o :: os, recs, dead, pj, st, K, hD, h => by
  have go : ∀ (x : Rec) (dead' : List Nat) (pj' : Option Nat), x.st = st → x.o = o → DOk C ops (recs ++ [x]) dead' pj' → vcD C ops os (recs ++ [x]) dead' pj' x.next K → ∃ xs dead' pj' st', xs.map (·.o) = o :: os ∧ ChainOk st xs st' ∧ DOk C ops (recs ++ xs) dead' pj' ∧ K (recs ++ xs) pj' st' := fun x dead' pj' h1 h2 h3 h4 => by
   obtain ⟨xs, d2, p2, st2, e1, e2, e3, e4⟩ := vcD_recs hL os _ _ _ _ K h3 h4
   exact ⟨x :: xs, d2, p2, st2, by simp [e1, h2], ⟨h1, e2⟩, by simpa using e3, by simpa using e4⟩
  have run : exP C o st (fun r st' => vcD C ops os (recs ++ [⟨st, o, r, true, false⟩]) dead pj st' K) (fun _ r _ => firstP pj (vcD C ops os (recs ++ [⟨st, o, r, true, true⟩]) (recs.length :: dead) (some recs.length) st K)) → (match o.guard with
    | none => True
    | some (j, want) => ∃ b, gval ops st j = some b ∧ true = runs want b) → ∃ xs dead' pj' st', xs.map (·.o) = o :: os ∧ ChainOk st xs st' ∧ DOk C ops (recs ++ xs) dead' pj' ∧ K (recs ++ xs) pj' st' := fun hx hg => by
   unfold exP at hx
   obtain ⟨r, hs, hr, hst⟩ := ex_ok2 hL hx
   split at hr
   ·rename_i hok
    simp only [stepK_eq] at hr
    have hrec : ∀ b, RecOk C ops ⟨st, o, r, true, b⟩ := fun b => by
     refine ⟨?_, fun _ => ⟨hs, hok, hst⟩, (fun h => by cases h)⟩
     dsimp only
     split
     ·rfl
     ·rename_i j want hgu; rw [hgu] at hg; exact hg
    unfold panK at hr
    split at hr
    ·rename_i v hv
     cases pj with
     | none => exact go ⟨st, o, r, true, true⟩ _ _ rfl rfl (hD.panics rfl (hrec true) rfl ⟨v, hv⟩) hr
     | some p => exact hr.elim
    ·rename_i hnp
     exact go ⟨st, o, r, true, false⟩ _ _ rfl rfl (hD.add rfl (hrec false) hnp) hr
   ·exact hr.elim
  rw [vcD_cons] at h
  split at h
  ·rename_i hdb
   refine go ⟨st, o, pureR .und, false, true⟩ _ _ rfl rfl (hD.wait rfl ?_) h
   obtain ⟨e, h1, h2⟩ := List.any_eq_true.1 hdb
   simp only [Bool.and_eq_true] at h2
   exact ⟨e, by simpa using h1, h2.1, memN_mem.1 h2.2⟩
  ·split at h
   ·rename_i hg
    exact run h (by rw [hg]; trivial)
   ·rename_i j want hg
    split at h
    ·rename_i b hb
     split at h
     ·rename_i hbw
      exact run h (by rw [hg]; exact ⟨b, hb, hbw.symm⟩)
     ·rename_i hbw
      rw [stepK_eq] at h
      exact go ⟨st, o, pureR .und, false, false⟩ _ _ rfl rfl (hD.add rfl ⟨by dsimp only; rw [hg]; exact ⟨b, hb, hbw.symm⟩, (fun h => by cases h), fun _ => rfl⟩ (fun v h => by cases h)) h
    ·exact h.elim
theorem chain_at {xs : List Rec} : ∀ {st st' : St} (i : Nat), ChainOk st xs st' → ∀ (m : Nat) (x : Rec), xs[m]? = some x →
  (∀ t, ov (xs.map uT) (fun j => decide (j < i + m)) i (findL st.tm) t = findL x.st.tm t) ∧ (∀ t, ov (xs.map uM) (fun j => decide (j < i + m)) i (findL st.mem) t = findL x.st.mem t) := by
 induction xs with
 | nil => intro st st' i _ m x h; simp at h
 | cons y ys ih =>
  intro st st' i hc m x hx
  obtain ⟨rfl, hc⟩ := hc
  cases m with
  | zero =>
   simp only [List.getElem?_cons_zero, Option.some.injEq] at hx
   subst hx
   exact ⟨fun t => ov_false _ _ _ _ _ (fun j u _ _ => by simp), fun t => ov_false _ _ _ _ _ (fun j u _ _ => by simp)⟩
  | succ m =>
   obtain ⟨h1, h2⟩ := ih (i + 1) hc m x (by simpa using hx)
   have e : i + (m + 1) = i + 1 + m := by omega
   have hd : decide (i < i + 1 + m) = true := decide_eq_true (by omega)
   simp only [List.map_cons, ov, e, hd]
   rw [app_uT, app_uM]
   exact ⟨h1, h2⟩
theorem chain_end {xs : List Rec} : ∀ {st st' : St} (i : Nat) (X : Nat → Bool), ChainOk st xs st' → (∀ j, j < xs.length → X (i + j) = true) → ov (xs.map uT) X i (findL st.tm) = findL st'.tm ∧ ov (xs.map uM) X i (findL st.mem) = findL st'.mem := by
 induction xs with
 | nil => intro st st' i X hc _; cases hc; exact ⟨rfl, rfl⟩
 | cons y ys ih =>
  intro st st' i X hc hX
  obtain ⟨rfl, hc⟩ := hc
  have h0 := hX 0 (by simp)
  simp only [Nat.add_zero] at h0
  have := ih (i + 1) X hc (fun j hj => by have := hX (j + 1) (by simpa using hj); rwa [show i + (j + 1) = i + 1 + j by omega] at this)
  simp only [List.map_cons, ov, h0]
  rw [app_uT, app_uM]
  exact this
theorem chain_sub {xs : List Rec} : ∀ {st st' : St}, ChainOk st xs st' → ∀ (m : Nat) (x : Rec), xs[m]? = some x → (∀ p ∈ st.tm, p ∈ x.st.tm) ∧ (∀ p ∈ st.mem, p ∈ x.st.mem) := by
 induction xs with
 | nil => intro st st' _ m x h; simp at h
 | cons y ys ih =>
  intro st st' hc m x hx
  obtain ⟨rfl, hc⟩ := hc
  cases m with
  | zero =>
   simp only [List.getElem?_cons_zero, Option.some.injEq] at hx
   subst hx
   exact ⟨fun _ h => h, fun _ h => h⟩
  | succ m =>
   obtain ⟨h1, h2⟩ := ih hc m x (by simpa using hx)
   refine ⟨fun p hp => h1 p ?_, fun p hp => h2 p ?_⟩
   ·unfold Rec.next; split
    ·exact hp
    ·unfold St.step; split <;> simp [hp]
   ·unfold Rec.next; split
    ·exact hp
    ·unfold St.step; simp [hp]
theorem chain_made {xs : List Rec} : ∀ {st st' : St}, ChainOk st xs st' → ∀ (m j : Nat) (x y : Rec), xs[m]? = some x → xs[j]? = some y → j < m → (∀ d, y.dead = false → y.o.dst = some d → (d, y.r.v) ∈ x.st.tm) ∧ (∀ p ∈ y.ws, p ∈ x.st.mem) := by
 induction xs with
 | nil => intro st st' _ m j x y h; simp at h
 | cons z zs ih =>
  intro st st' hc m j x y hx hy hj
  obtain ⟨rfl, hc⟩ := hc
  cases m with
  | zero => omega
  | succ m =>
   cases j with
   | zero =>
    simp only [List.getElem?_cons_zero, Option.some.injEq] at hy
    subst hy
    obtain ⟨h1, h2⟩ := chain_sub hc m x (by simpa using hx)
    refine ⟨fun d hdd hd => h1 _ ?_, fun p hp => h2 p ?_⟩
    ·unfold Rec.next; rw [hdd]; unfold St.step; rw [hd]; simp
    ·unfold Rec.ws at hp
     unfold Rec.next
     split at hp
     ·cases hp
     ·unfold St.step
      simp only [List.mem_append] at hp ⊢
      rcases hp with hp | hp
      ·exact .inl hp
      ·exact .inr (.inl hp)
   | succ j => exact ih hc m j x y (by simpa using hx) (by simpa using hy) (by omega)

theorem mask_spec {o : Oper} {acc : List Nat} {j : Nat} (h : (maskOf o acc).testBit j = true) : ∃ e ∈ o.after, Region.binds .any e = true ∧ (e.on = j ∨ (acc.getD e.on 0).testBit j = true) := by
 have key : ∀ (l : List Edge) (s : Nat), (l.foldl (fun s e => match Region.binds .any e with | true => s ||| 2 ^ e.on ||| acc.getD e.on 0 | false => s) s).testBit j = true → s.testBit j = true ∨ ∃ e ∈ l, Region.binds .any e = true ∧ (e.on = j ∨ (acc.getD e.on 0).testBit j = true) := by
  intro l
  induction l with
  | nil => intro s h; exact .inl h
  | cons e l ih =>
   intro s h
   simp only [List.foldl_cons] at h
   rcases ih _ h with h | ⟨e', he', h1, h2⟩
   ·cases hb : Region.binds .any e with
    | false => rw [hb] at h; exact .inl h
    | true =>
     rw [hb] at h
     simp only [Nat.testBit_or, Bool.or_eq_true] at h
     rcases h with (h | h) | h
     ·exact .inl h
     ·rw [Nat.testBit_two_pow] at h
      exact .inr ⟨e, by simp, hb, .inl (by simpa using h)⟩
     ·exact .inr ⟨e, by simp, hb, .inr h⟩
   ·exact .inr ⟨e', by simp [he'], h1, h2⟩
 rcases key o.after.toList 0 h with h | ⟨e, he, h1, h2⟩
 ·simp at h
 ·exact ⟨e, by simpa using he, h1, h2⟩
theorem masks_at : ∀ (os : List Oper) (acc : List Nat) (i : Nat), (i < acc.length → (masks os acc).getD i 0 = acc.getD i 0) ∧ (∀ k o, os[k]? = some o → ∃ acc', (masks os acc).getD (acc.length + k) 0 = maskOf o acc' ∧ ∀ m, m < acc.length + k → acc'.getD m 0 = (masks os acc).getD m 0) ∧ ((masks os acc).length = acc.length + os.length)
 | [], acc, i => ⟨fun _ => rfl, fun k o h => by simp at h, by simp [masks]⟩
 | o :: os, acc, i => by
  obtain ⟨h1, h2, h3⟩ := masks_at os (acc ++ [maskOf o acc]) i
  have hpre : ∀ i, i < acc.length + 1 → (masks os (acc ++ [maskOf o acc])).getD i 0 = (acc ++ [maskOf o acc]).getD i 0 := fun i hi => (masks_at os (acc ++ [maskOf o acc]) i).1 (by simpa using hi)
  simp only [masks]
  refine ⟨fun hi => ?_, fun k o' hk => ?_, by simp [h3]; omega⟩
  ·rw [hpre i (by omega)]
   simp [List.getD, hi, List.getElem?_append_left hi]
  ·cases k with
   | zero =>
    simp only [List.getElem?_cons_zero, Option.some.injEq] at hk
    subst hk
    refine ⟨acc, ?_, fun m hm => ?_⟩
    ·rw [Nat.add_zero, hpre _ (by omega)]; simp [List.getD]
    ·rw [hpre m (by omega)]; simp only [Nat.add_zero] at hm; simp [List.getD, hm, List.getElem?_append_left hm]
   | succ k =>
    obtain ⟨acc', e1, e2⟩ := h2 k o' (by simpa using hk)
    simp only [List.length_append, List.length_cons, List.length_nil] at e1 e2
    refine ⟨acc', by rw [← e1]; congr 1; omega, fun m hm => e2 m (by omega)⟩
theorem masks_down {ops : List Oper} (hb : backL ops = true) {X : Nat → Bool} (hX : ∀ i o, ops[i]? = some o → X i = true → ∀ e ∈ o.after, Region.binds .any e = true → X e.on = true) :
  ∀ (i : Nat), i < ops.length → X i = true → ∀ j, ((masks ops []).getD i 0).testBit j = true → X j = true := by
 intro i
 induction i using Nat.strongRecOn with
 | _ i ih =>
  intro hi hXi j hj
  obtain ⟨o, ho⟩ : ∃ o, ops[i]? = some o := ⟨_, List.getElem?_eq_getElem hi⟩
  obtain ⟨acc', e1, e2⟩ := (masks_at ops [] 0).2.1 i o ho
  simp only [List.length_nil, Nat.zero_add] at e1 e2
  rw [e1] at hj
  obtain ⟨e, he, h1, h2⟩ := mask_spec hj
  have hXe := hX i o ho hXi e he h1
  have hlt : e.on < i := by
   have := List.all_eq_true.1 hb (o, i) (by
    rw [List.mem_iff_getElem?]
    exact ⟨i, by simp [ho]⟩)
   have := List.all_eq_true.1 this e (by simpa using he)
   simp only [h1, Bool.not_true, Bool.false_or] at this
   exact Nat.lt_of_succ_le (Nat.le_of_ble_eq_true this)
  rcases h2 with h2 | h2
  ·rw [← h2]; exact hXe
  ·rw [e2 e.on hlt] at h2
   exact ih e.on hlt (by omega) hXe j h2
theorem countP_lt {α : Type} {p q : α → Bool} : ∀ {l : List α} {x : α}, (∀ y ∈ l, q y = true → p y = true) → x ∈ l → p x = true → q x = false → l.countP q < l.countP p
 | y :: l, x, hle, hx, hp, hq => by
  have hmono : l.countP q ≤ l.countP p := List.countP_mono_left fun z hz => hle z (by simp [hz])
  rcases List.mem_cons.1 hx with rfl | hx
  ·rw [List.countP_cons, List.countP_cons]
   simp only [hp, hq, if_true, Bool.false_eq_true, if_false]
   omega
  ·have ih := countP_lt (fun z hz => hle z (by simp [hz])) hx hp hq (l := l)
   rw [List.countP_cons, List.countP_cons]
   have := hle y (by simp)
   split <;> split <;> first | omega | (rename_i h1 h2; exact absurd (this h1) h2)
end Go.Proofs.YtidnlfkakhmadaaGreatDoor

namespace Go.Proofs.YtidnlfkakhmadaaGreatDoor
open Go.RowKit

section
variable {C : Ctx} {E : Env}
theorem looks_op {ops : Array Oper} {o : Oper} {t : Nat} (h : Operand.tmp t ∈ o.op.operands) : t ∈ o.looksAt ops := by
 unfold Oper.looksAt
 refine List.mem_append_left _ (List.mem_filterMap.2 ⟨.tmp t, by simpa using h, rfl⟩)
theorem looks_guard {ops : Array Oper} {o : Oper} {j : Nat} {want : Bool} {d : Nat} (hg : o.guard = some (j, want)) (hd : (ops[j]?).bind (·.dst) = some d) : d ∈ o.looksAt ops := by
 unfold Oper.looksAt
 refine List.mem_append_right _ ?_
 simp [hg, hd]
def setX (X : Nat → Bool) (i : Nat) : Nat → Bool := fun j => if j = i then true else X j
theorem draw_ok {ops : Array Oper} {recs : List Rec} {st0 st' : St} {Q : Exit → Act → World → Prop} (hn : E.n = C.n ∧ E.Γ = C.Γ ∧ E.nx0 = C.nx0) (hlen : recs.map (·.o) = ops.toList) (hch : ChainOk st0 recs st') {dead : List Nat} {pj : Option Nat} (hD : DOk C ops recs dead pj) (hd : drawOk ops recs pj = true)
  (hQ : pj = none → ∀ a w, RS E st' a w → Q .normal a w) (hQp : ∀ (p : Nat) (x : Rec) (v : Value), pj = some p → recs[p]? = some x → x.r.v = .pan v → ∀ a w, RS E ⟨[], (x.st.step none x.r).mem, 0⟩ a w → Q (.panic (panE v)) a w) : ∀ (fuel : Nat) (listed : Array Bool) (a : Act) (w : World), listed.size = ops.size → (List.range ops.size).countP (fun i => !(listed.getD i false)) ≤ fuel →
   (∀ i o, ops[i]? = some o → listed.getD i false = true → ∀ e ∈ o.after, Region.binds .any e = true → listed.getD e.on false = true) → (∀ i, listed.getD i false = true → i ∉ dead) →
   RF E (ov (recs.map uT) (fun i => listed.getD i false) 0 (findL st0.tm)) (ov (recs.map uM) (fun i => listed.getD i false) 0 (findL st0.mem)) a w → wpAny C.P .any ops Q fuel listed a w := by
 have hsz : recs.length = ops.size := by have := congrArg List.length hlen; simpa using this
 have hop : ∀ {i : Nat} {x : Rec}, recs[i]? = some x → ops[i]? = some x.o := fun {i x} hx => by
  have : (recs.map (·.o))[i]? = some x.o := by simp [hx]
  rw [hlen] at this
  simpa using this
 unfold drawOk at hd
 simp only [Bool.and_eq_true] at hd
 obtain ⟨⟨hback, hpair⟩, hpanc⟩ := hd
 have hnotP : ∀ {i : Nat}, pj = some i → notP pj i = false := fun {i} h => by simp [notP, h]
 have hpairs : ∀ {i j : Nat} {x y : Rec}, i < j → recs[i]? = some x → recs[j]? = some y → (x.dead = false ∨ pj = some i) → (y.dead = false ∨ pj = some j) → ((masks ops.toList []).getD j 0).testBit i = true ∨ indep ops x y = true := fun {i j x y} hij hx hy hxd hyd => by
  have hj : j < recs.length := (List.getElem?_eq_some_iff.1 hy).1
  have h1 := List.all_eq_true.1 hpair j (by simpa using hj)
  have h2 := List.all_eq_true.1 h1 i (by simpa using hij)
  rw [hx, hy] at h2
  simp only [Bool.or_eq_true, Bool.and_eq_true] at h2
  rcases h2 with h2 | (h2 | h2) | h2
  ·exact .inl h2
  ·rcases hxd with h3 | h3
   ·rw [h3] at h2; cases h2.1
   ·rw [hnotP h3] at h2; cases h2.2
  ·rcases hyd with h3 | h3
   ·rw [h3] at h2; cases h2.1
   ·rw [hnotP h3] at h2; cases h2.2
  ·exact .inr h2
 have hready : ∀ {listed : Array Bool} {i : Nat}, i ∈ Region.ready .any ops listed → listed.getD i true = false ∧ ∃ o, ops[i]? = some o ∧ ∀ e ∈ o.after, Region.binds .any e = true → listed.getD e.on false = true := fun {listed i} h => mem_ready.1 h
 -- where nothing is ready, all have come up
 have hall : ∀ (listed : Array Bool), listed.size = ops.size → Region.ready .any ops listed = [] → ∀ i, i < ops.size → listed.getD i false = true := fun listed hs hr i => by
  induction i using Nat.strongRecOn with
  | _ i ih =>
   intro hi
   have hil : i < listed.size := by omega
   cases hl : listed.getD i true with
   | true =>
    simp only [Array.getD, hil, dite_true] at hl ⊢
    exact hl
   | false =>
    have ho : ops[i]? = some ops[i] := by simp [hi]
    have : i ∈ Region.ready .any ops listed := mem_ready.2 ⟨hl, _, ho, fun e he hb => by
     have h1 := List.all_eq_true.1 hback (ops[i], i) (by
      rw [List.mem_iff_getElem?]
      exact ⟨i, by simp [ho]⟩)
     have h2 := List.all_eq_true.1 h1 e (by simpa using he)
     simp only [hb, Bool.not_true, Bool.false_or] at h2
     have hlt : e.on < i := Nat.lt_of_succ_le (Nat.le_of_ble_eq_true h2)
     exact ih e.on hlt (by omega)⟩
    rw [hr] at this
    cases this
 have hfin : ∀ (listed : Array Bool) (a : Act) (w : World), listed.size = ops.size → (∀ i, i < ops.size → listed.getD i false = true) → (∀ i, listed.getD i false = true → i ∉ dead) →
   RF E (ov (recs.map uT) (fun i => listed.getD i false) 0 (findL st0.tm)) (ov (recs.map uM) (fun i => listed.getD i false) 0 (findL st0.mem)) a w → Q .normal a w := fun listed a w hs hX hlive hR => by
  have hpn : pj = none := by
   cases hp : pj with
   | none => rfl
   | some p =>
    have h1 := (hD.pan p hp).1
    exact absurd h1 (hlive p (hX p (by rw [← hsz]; exact hD.lt p h1)))
  obtain ⟨h1, h2⟩ := chain_end 0 (fun i => listed.getD i false) hch (fun j hj => by rw [Nat.zero_add]; exact hX j (by omega))
  rw [h1, h2] at hR
  exact hQ hpn a w hR
 intro fuel
 induction fuel with
 | zero =>
  intro listed a w hs hc _ hlive hR
  have hX : ∀ i, i < ops.size → listed.getD i false = true := fun i hi => by
   cases h : listed.getD i false with
   | true => rfl
   | false =>
    have : 0 < (List.range ops.size).countP (fun i => !(listed.getD i false)) := List.countP_pos_iff.2 ⟨i, by simpa using hi, by rw [h]; rfl⟩
    omega
  refine ⟨?_, hfin listed a w hs hX hlive hR⟩
  rw [List.eq_nil_iff_forall_not_mem]
  intro i hi
  obtain ⟨h0, o, ho, _⟩ := hready hi
  have hi' := (Array.getElem?_eq_some_iff.1 ho).1
  have := hX i hi'
  have hil : i < listed.size := by omega
  simp only [Array.getD, hil, dite_true] at this h0
  rw [this] at h0
  cases h0
 | succ fuel ih =>
  intro listed a w hs hc hdown hlive hR
  refine ⟨fun hr => hfin listed a w hs (hall listed hs hr) hlive hR, fun i hi => ?_⟩
  obtain ⟨h0, o, ho, hafter⟩ := hready hi
  have hi' : i < ops.size := (Array.getElem?_eq_some_iff.1 ho).1
  have hil : i < listed.size := by omega
  have hXi : listed.getD i false = false := by
   simp only [Array.getD, hil, dite_true] at h0 ⊢
   exact h0
  obtain ⟨x, hx⟩ : ∃ x, recs[i]? = some x := ⟨_, List.getElem?_eq_getElem (by omega)⟩
  obtain rfl : x.o = o := by have := hop hx; rw [ho] at this; cases this; rfl
  -- what waits for the one that panics never comes up
  have hxd : x.dead = false ∨ pj = some i := by
   cases hdx : x.dead with
   | false => exact .inl rfl
   | true =>
    rcases hD.why i x hx hdx with h | ⟨e, he, hb, hm⟩
    ·exact .inr h.1
    ·exact absurd hm (hlive _ (hafter e he hb))
  -- what is ordered ahead of i has come up; what comes behind i has not
  have hdown' : ∀ (k : Nat) (o : Oper), ops.toList[k]? = some o → listed.getD k false = true → ∀ e ∈ o.after, Region.binds .any e = true → listed.getD e.on false = true := fun k o hk => hdown k o (by simpa using hk)
  have hdownX : ∀ (k : Nat) (o : Oper), ops.toList[k]? = some o → setX (fun i => listed.getD i false) i k = true → ∀ e ∈ o.after, Region.binds .any e = true → setX (fun i => listed.getD i false) i e.on = true := fun k o hk hXk e he hb => by
   unfold setX at hXk ⊢
   split
   ·rfl
   ·by_cases hki : k = i
    ·subst hki
     have : o = x.o := by
      have h1 : ops.toList[k]? = some x.o := by simpa using ho
      rw [h1] at hk; cases hk; rfl
     subst this
     exact hafter e he hb
    ·rw [if_neg hki] at hXk
     exact hdown' k o hk hXk e he hb
  have hahead : ∀ j, ((masks ops.toList []).getD i 0).testBit j = true → j ≠ i → listed.getD j false = true := fun j hj hne => by
   have := masks_down hback hdownX i (by simpa using hi') (by simp [setX]) j hj
   unfold setX at this
   rw [if_neg hne] at this
   exact this
  have hbehind : ∀ j, j < ops.size → ((masks ops.toList []).getD j 0).testBit i = true → listed.getD j false = false := fun j hj hb => by
   cases h : listed.getD j false with
   | false => rfl
   | true =>
    have := masks_down hback (X := fun i => listed.getD i false) hdown' j (by simpa using hj) h i hb
    simp only [hXi] at this
    cases this
  have hrel : ∀ {j : Nat} {y : Rec}, recs[j]? = some y → j ≠ i → y.dead = false → listed.getD j false = decide (j < i) ∨ (j < i ∧ indep ops y x = true) ∨ (i < j ∧ indep ops x y = true) := fun {j y} hy hne hyd => by
   have hj : j < ops.size := by rw [← hsz]; exact (List.getElem?_eq_some_iff.1 hy).1
   rcases Nat.lt_or_gt_of_ne hne with h | h
   ·rcases hpairs h hy hx (.inl hyd) hxd with hb | hb
    ·left; rw [hahead j hb hne]; simp [h]
    ·exact .inr (.inl ⟨h, hb⟩)
   ·rcases hpairs h hx hy hxd (.inl hyd) with hb | hb
    ·left; rw [hbehind j hj hb]; simp; omega
    ·exact .inr (.inr ⟨h, hb⟩)
  have hself : listed.getD i false = decide (i < i) := by rw [hXi]; simp
  have hTd : ∀ {y : Rec} {t : Nat}, uT y t ≠ none → y.dead = false ∧ y.o.dst = some t := fun {y t} h => by
   unfold uT at h
   cases hdy : y.dead with
   | true => rw [hdy] at h; exact absurd rfl h
   | false =>
    rw [hdy] at h
    simp only at h
    split at h
    ·rename_i e; exact ⟨rfl, e⟩
    ·exact absurd rfl h
  have hMd : ∀ {y : Rec} {k : Nat}, uM y k ≠ none → y.dead = false ∧ k ∈ y.ws.map (·.1) := fun {y k} h => by
   unfold uM at h
   refine ⟨?_, ?_⟩
   ·cases hdy : y.dead with
    | true => exfalso; apply h; unfold Rec.ws; rw [hdy]; rfl
    | false => rfl
   ·cases hf : findL y.ws k with
    | none => exact absurd hf h
    | some b => exact List.mem_map.2 ⟨_, findL_mem hf, rfl⟩
  -- what the operation looks at is what it finds in the text's order
  have hTm : ∀ t, t ∈ x.o.looksAt ops → ov (recs.map uT) (fun i => listed.getD i false) 0 (findL st0.tm) t = findL x.st.tm t := fun t ht => by
   rw [← (chain_at 0 hch i x hx).1 t]
   refine ov_congr _ _ _ _ _ _ _ (fun j u hu hne => ?_) rfl
   simp only [Nat.zero_add]
   rw [List.getElem?_map] at hu
   obtain ⟨y, hy, rfl⟩ := Option.map_eq_some_iff.1 hu
   by_cases hji : j = i
   ·subst hji; exact hself
   obtain ⟨hyd, hdst⟩ := hTd hne
   rcases hrel hy hji hyd with h | ⟨_, h⟩ | ⟨_, h⟩
   ·exact h
   ·unfold indep at h
    simp only [Bool.and_eq_true] at h
    exact absurd ht ((Oper.apart_spec h.1.1.1).1 t hdst)
   ·unfold indep at h
    simp only [Bool.and_eq_true] at h
    exact absurd ht ((Oper.apart_spec h.1.1.1).2.2 t hdst)
  have hstW : ∀ {y : Rec}, stab x y = true → x.ws = [] := fun {y} h => by
   obtain ⟨k, off, c, _, _, h1, h2, _⟩ := stab_ok h
   unfold Rec.ws Res.news
   rw [h1, h2]
   cases x.dead <;> rfl
  have hMm : (∀ (j : Nat) (y : Rec), i < j → recs[j]? = some y → y.dead = false → stab x y = false) → ∀ k, k ∈ x.rs → ov (recs.map uM) (fun i => listed.getD i false) 0 (findL st0.mem) k = findL x.st.mem k := fun hns k hk => by
   rw [← (chain_at 0 hch i x hx).2 k]
   refine ov_congr _ _ _ _ _ _ _ (fun j u hu hne => ?_) rfl
   simp only [Nat.zero_add]
   rw [List.getElem?_map] at hu
   obtain ⟨y, hy, rfl⟩ := Option.map_eq_some_iff.1 hu
   by_cases hji : j = i
   ·subst hji; exact hself
   obtain ⟨hyd, hw⟩ := hMd hne
   rcases hrel hy hji hyd with h | ⟨_, h⟩ | ⟨hij, h⟩
   ·exact h
   ·unfold indep at h
    simp only [Bool.and_eq_true] at h
    exact (disj_spec h.1.1.2 hw hk).elim
   ·unfold indep at h
    simp only [Bool.and_eq_true, Bool.or_eq_true] at h
    rcases h.1.2 with h2 | h2
    ·exact (disj_spec h2 hw hk).elim
    ·rw [hns j y hij hy hyd] at h2; cases h2
  -- a read that what has come up may only have left as it was
  have hMs : ∀ k off c, x.r.rd = [k] → (∃ cells tg, findL x.st.mem k = some (.obj cells tg) ∧ cells[off]? = some c) → loadsAt (evS x.st) x.o.op x.r k off c → x.ws = [] →
    ∃ cells tg, ov (recs.map uM) (fun i => listed.getD i false) 0 (findL st0.mem) k = some (.obj cells tg) ∧ cells[off]? = some c := fun k off c hrd hx0 hlo hws => by
   have hk : k ∈ x.rs := List.mem_append_left _ (by rw [hrd]; simp)
   have := ov_stab (p := fun b : Blk => ∃ cells tg, b = .obj cells tg ∧ cells[off]? = some c) (recs.map uM) (fun i => listed.getD i false) (fun j => decide (j < 0 + i)) 0 (findL st0.mem) (findL st0.mem) k (fun j u hu v hv => ?_) (.inl rfl)
   ·rw [(chain_at 0 hch i x hx).2 k] at this
    rcases this with h | ⟨v, h, cells, tg, rfl, hc⟩
    ·rw [h]; exact hx0
    ·exact ⟨cells, tg, h, hc⟩
   ·simp only [Nat.zero_add]
    rw [List.getElem?_map] at hu
    obtain ⟨y, hy, rfl⟩ := Option.map_eq_some_iff.1 hu
    by_cases hji : j = i
    ·subst hji; exact .inl hself
    obtain ⟨hyd, hw⟩ := hMd (y := y) (k := k) (by rw [hv]; simp)
    rcases hrel hy hji hyd with h | ⟨_, h⟩ | ⟨hij, h⟩
    ·exact .inl h
    ·unfold indep at h
     simp only [Bool.and_eq_true] at h
     exact (disj_spec h.1.1.2 hw hk).elim
    ·unfold indep at h
     simp only [Bool.and_eq_true, Bool.or_eq_true] at h
     rcases h.1.2 with h2 | h2
     ·exact (disj_spec h2 hw hk).elim
     ·refine .inr ⟨by simp; omega, ?_⟩
      obtain ⟨k', off', c', ⟨t1, a1, o1, o2, o3⟩, hrd', _, _, cells, tg, hf, hc⟩ := stab_ok h2
      rw [hrd] at hrd'
      cases hrd'
      obtain ⟨t2, a2, q1, q2, q3⟩ := hlo
      rw [o1] at q1
      cases q1
      rw [o2] at q2
      cases q2
      rw [o3] at q3
      cases q3
      unfold uM at hv
      rw [hf] at hv
      cases hv
      exact ⟨cells, tg, rfl, hc⟩
  have hMall : pj = some i → ∀ k, ov (recs.map uM) (fun i => listed.getD i false) 0 (findL st0.mem) k = findL x.st.mem k := fun hpi k => by
   rw [← (chain_at 0 hch i x hx).2 k]
   refine ov_congr _ _ _ _ _ _ _ (fun j u hu hne => ?_) rfl
   simp only [Nat.zero_add]
   rw [List.getElem?_map] at hu
   obtain ⟨y, hy, rfl⟩ := Option.map_eq_some_iff.1 hu
   by_cases hji : j = i
   ·subst hji; exact hself
   obtain ⟨hyd, hw⟩ := hMd hne
   rw [hpi] at hpanc
   simp only at hpanc
   have h1 := List.all_eq_true.1 hpanc j (by simpa using (List.getElem?_eq_some_iff.1 hy).1)
   rw [hy] at h1
   simp only [Bool.or_eq_true, Bool.and_eq_true] at h1
   rcases h1 with h1 | ⟨h1, h2⟩
   ·have : y.ws = [] := by simpa using h1
    rw [this] at hw; cases hw
   ·have hlt : j < i := Nat.lt_of_succ_le (Nat.le_of_ble_eq_true h1)
    rw [hahead j h2 hji]; simp [hlt]
  -- the overlay behind it
  have hset : ∀ j, (listed.setIfInBounds i true).getD j false = setX (fun i => listed.getD i false) i j := fun j => by
   unfold setX
   by_cases hji : j = i
   ·subst hji; simp [Array.getD, hil]
   ·rw [if_neg hji]
    rw [getD_set_ne false (by omega)]
  have hovT : ov (recs.map uT) (fun j => (listed.setIfInBounds i true).getD j false) 0 (findL st0.tm) = app (uT x) (ov (recs.map uT) (fun i => listed.getD i false) 0 (findL st0.tm)) := by
   funext t
   simp only [hset]
   unfold app
   cases hu : uT x t with
   | some v =>
    have hdst : x.o.dst = some t := (hTd (y := x) (t := t) (by rw [hu]; simp)).2
    refine ov_last _ _ _ _ _ i (uT x) v (by simp [hx]) hu (by simp [setX]) (fun j u' hj hu' hne => ?_)
    rw [List.getElem?_map] at hu'
    obtain ⟨y, hy, rfl⟩ := Option.map_eq_some_iff.1 hu'
    obtain ⟨hyd, hdst'⟩ := hTd hne
    have hji : j ≠ i := by omega
    simp only [Nat.zero_add, setX, if_neg hji]
    rcases hrel hy hji hyd with h | ⟨h', _⟩ | ⟨_, h⟩
    ·rw [h]; simp; omega
    ·omega
    ·unfold indep at h
     simp only [Bool.and_eq_true] at h
     exact absurd hdst' ((Oper.apart_spec h.1.1.1).2.1 t hdst)
   | none =>
    refine ov_congr _ _ _ _ _ _ _ (fun j u hu' hne => ?_) rfl
    simp only [Nat.zero_add, setX]
    split
    ·rename_i e
     subst e
     rw [List.getElem?_map, hx] at hu'
     simp only [Option.map_some, Option.some.injEq] at hu'
     subst hu'
     exact absurd hu hne
    ·rfl
  have hovM : ov (recs.map uM) (fun j => (listed.setIfInBounds i true).getD j false) 0 (findL st0.mem) = app (uM x) (ov (recs.map uM) (fun i => listed.getD i false) 0 (findL st0.mem)) := by
   funext k
   simp only [hset]
   unfold app
   cases hu : uM x k with
   | some v =>
    have hw : k ∈ x.rs := List.mem_append_right _ (List.mem_map.2 ⟨_, findL_mem hu, rfl⟩)
    refine ov_last _ _ _ _ _ i (uM x) v (by simp [hx]) hu (by simp [setX]) (fun j u' hj hu' hne => ?_)
    rw [List.getElem?_map] at hu'
    obtain ⟨y, hy, rfl⟩ := Option.map_eq_some_iff.1 hu'
    obtain ⟨hyd, hw'⟩ := hMd hne
    have hji : j ≠ i := by omega
    simp only [Nat.zero_add, setX, if_neg hji]
    rcases hrel hy hji hyd with h | ⟨h', _⟩ | ⟨_, h⟩
    ·rw [h]; simp; omega
    ·omega
    ·unfold indep at h
     simp only [Bool.and_eq_true, Bool.or_eq_true] at h
     rcases h.1.2 with h2 | h2
     ·exact (disj_spec h2 hw' hw).elim
     ·unfold uM at hu
      rw [hstW h2] at hu
      cases hu
   | none =>
    refine ov_congr _ _ _ _ _ _ _ (fun j u hu' hne => ?_) rfl
    simp only [Nat.zero_add, setX]
    split
    ·rename_i e
     subst e
     rw [List.getElem?_map, hx] at hu'
     simp only [Option.map_some, Option.some.injEq] at hu'
     subst hu'
     exact absurd hu hne
    ·rfl
  have hnext : x.dead = false → ∀ a' w', RF E (app (uT x) (ov (recs.map uT) (fun i => listed.getD i false) 0 (findL st0.tm))) (app (uM x) (ov (recs.map uM) (fun i => listed.getD i false) 0 (findL st0.mem))) a' w' → wpAny C.P .any ops Q fuel (listed.setIfInBounds i true) a' w' := fun hxl a' w' hR' => by
   refine ih _ a' w' (by simpa using hs) ?_ (fun k o hk hXk e he hb => ?_) (fun k hk => ?_) (by rw [hovT, hovM]; exact hR')
   ·have : (List.range ops.size).countP (fun j => !((listed.setIfInBounds i true).getD j false)) < (List.range ops.size).countP (fun j => !(listed.getD j false)) := by
     refine countP_lt (x := i) (fun j _ hj => ?_) (by simpa using hi') (by rw [hXi]; rfl) (by rw [hset]; simp [setX])
     rw [hset] at hj
     unfold setX at hj
     split at hj
     ·cases hj
     ·exact hj
    omega
   ·rw [hset] at hXk ⊢
    exact hdownX k o (by simpa using hk) hXk e he hb
   ·rw [hset] at hk
    unfold setX at hk
    split at hk
    ·rename_i e
     subst e
     intro hm
     have := (hD.mem k x hx).2 hm
     rw [hxl] at this; cases this
    ·exact hlive k hk
  have hrecx : RecOk C ops x := by
   rcases hxd with h | h
   ·exact (hD.live i x hx h).1
   ·obtain ⟨_, y, hy, h2, _⟩ := hD.pan i h
    rw [hx] at hy; cases hy; exact h2
  have hxrun : x.dead = true → x.run = true ∧ ∃ v, x.r.v = .pan v := fun hdx => by
   rcases hxd with h | h
   ·rw [hdx] at h; cases h
   ·obtain ⟨_, y, hy, _, h3, h4⟩ := hD.pan i h
    rw [hx] at hy; cases hy; exact ⟨h3, h4⟩
  obtain ⟨hguard, hrun, hskip⟩ := hrecx
  have hwant : Region.wanted x.o (yielded ops a.tmps) = x.run := by
   cases hg : x.o.guard with
   | none => rw [hg] at hguard; simp [Region.wanted, hg, hguard]
   | some p =>
    obtain ⟨j, want⟩ := p
    rw [hg] at hguard
    obtain ⟨b, hb, hr⟩ := hguard
    obtain ⟨d, hd, hf⟩ := gval_spec hb
    have hlook := looks_guard hg hd
    have hy := gval_any hR hd (by rw [hTm d hlook]; exact hf)
    rw [hr]
    exact wanted_runs hg hy
  unfold wpOp
  rw [ho]
  simp only [hwant]
  cases hxr : x.run with
  | false =>
   simp only [Bool.false_eq_true, if_false]
   have hr := hskip hxr
   have hxl : x.dead = false := by
    cases hdx : x.dead with
    | false => rfl
    | true => have := (hxrun hdx).1; rw [hxr] at this; cases this
   refine hnext hxl _ _ ?_
   rw [← putF_app x hxl, ← updF_app x hxl, hr]
   have h1 := RF_put_und hR x.o.dst
   rw [updF_pure]
   exact h1
  | true =>
   simp only [if_true]
   obtain ⟨hspec, hok, halts⟩ := hrun hxr
   obtain ⟨q1, q2, q3, q4, q5, q6⟩ := resOk_spec hok
   have fin : ∀ mem' : Nat → Option Blk, Spec C.P C.Γ x.o (evS x.st) mem' x.st.nx x.r → (∀ k ∈ x.r.rd, ∀ b, mem' k = some b → ov (recs.map uM) (fun i => listed.getD i false) 0 (findL st0.mem) k = some b) → (∀ k b, (k, b) ∈ x.r.upd → ∃ b', ov (recs.map uM) (fun i => listed.getD i false) 0 (findL st0.mem) k = some b' ∧ b'.live = true) →
     (∀ ni, ni < x.r.new.length → ov (recs.map uM) (fun i => listed.getD i false) 0 (findL st0.mem) (x.st.nx + ni) = none ∧ (∀ t tv, ov (recs.map uT) (fun i => listed.getD i false) 0 (findL st0.tm) t = some tv → tv.men (x.st.nx + ni) = false) ∧ ∀ k b, ov (recs.map uM) (fun i => listed.getD i false) 0 (findL st0.mem) k = some b → b.men (x.st.nx + ni) = false) →
     x.o.wp C.P a w (fun a w => wpAny C.P .any ops Q fuel (listed.setIfInBounds i true) a w) Q := fun mem' hspec hrd hup hnw => by
    refine step_ok (by rw [hn.2.1]; exact hspec) hR (fun y hy tv htv ι S I => ?_) hrd hup hnw (by rw [hn.2.2]; exact q6) (fun k b b' => uniqB_ok q2 k b b') (fun d hd => by rw [hn.1]; exact q5 d hd) (fun hnp a' w' hR' => ?_) (fun v hv w' hR' => ?_)
    ·cases y with
     | tmp t =>
      refine ev_ok I ?_
      show ov _ _ _ _ t = some tv
      rw [hTm t (looks_op hy)]
      exact htv
     | const v => exact ev_ok I (x := .const v) htv
     | func f => exact ev_ok I (x := .func f) htv
     | global g => cases htv
    ·have hxl : x.dead = false := by
      cases hdx : x.dead with
      | false => rfl
      | true => obtain ⟨v, hv⟩ := (hxrun hdx).2; exact absurd hv (hnp v)
     exact hnext hxl a' w' (by rw [← putF_app x hxl, ← updF_app x hxl]; exact hR')
    ·have hpi : pj = some i := by
      rcases hxd with h | h
      ·exact absurd hv ((hD.live i x hx h).2 v)
      ·exact h
     refine hQp i x v hpi hx hv a w' (RF_weak (fun t v ht => by cases ht) (fun k b hk => ?_) hR')
     rw [← updF_step] at hk
     have : ov (recs.map uM) (fun i => listed.getD i false) 0 (findL st0.mem) = findL x.st.mem := funext fun k => hMall hpi k
     rw [this]; exact hk
   refine .inl ?_
   by_cases hns : ∀ (j : Nat) (y : Rec), i < j → recs[j]? = some y → y.dead = false → stab x y = false
   ·refine fin _ hspec (fun k hk b hb => ?_) (fun k b hk => ?_) (fun ni hni => ?_)
    ·rw [hMm hns k (List.mem_append_left _ hk)]; exact hb
    ·obtain ⟨b', hb', hl'⟩ := q1 k b hk
     exact ⟨b', by rw [hMm hns k (List.mem_append_left _ (q3 k b hk))]; exact hb', hl'⟩
    ·obtain ⟨h6, h7, h8⟩ := q4 ni hni
     have hnews0 : x.st.nx + ni ∈ (x.r.news x.st.nx).map (·.1) := newsL_has _ _ _ hni
     obtain ⟨q, hq, hq2⟩ := List.mem_map.1 hnews0
     obtain ⟨hs1, hs2⟩ := chain_sub hch i x hx
     have hmen : ∀ {j : Nat} {y : Rec}, recs[j]? = some y → y.dead = false → listed.getD j false = true → (∀ d, y.o.dst = some d → y.r.v.men (x.st.nx + ni) = false) ∧ ∀ p ∈ y.ws, p.2.men (x.st.nx + ni) = false := fun {j y} hy hyd hXj => by
      have hji : j ≠ i := fun e => by subst e; rw [hXi] at hXj; cases hXj
      have hless : j < i → (∀ d, y.o.dst = some d → y.r.v.men (x.st.nx + ni) = false) ∧ ∀ p ∈ y.ws, p.2.men (x.st.nx + ni) = false := fun hlt => by
       obtain ⟨m1, m2⟩ := chain_made hch i j x y hx hy hlt
       exact ⟨fun d hd => h7 _ (m1 d hyd hd), fun p hp => h8 p (m2 p hp)⟩
      rcases hrel hy hji hyd with h | ⟨h, _⟩ | ⟨_, h⟩
      ·rw [hXj] at h
       exact hless (of_decide_eq_true h.symm)
      ·exact hless h
      ·unfold indep at h
       simp only [Bool.and_eq_true] at h
       have h3 := List.all_eq_true.1 h.2 q hq
       simp only [Bool.and_eq_true] at h3
       rw [hq2] at h3
       exact ⟨fun _ _ => by simpa using h3.1, fun p hp => by simpa using List.all_eq_true.1 h3.2 p hp⟩
     refine ⟨?_, fun t tv ht => ?_, fun k b hk => ?_⟩
     ·rcases hxd with hxl | hpi
      ·have hnews : x.st.nx + ni ∈ x.ws.map (·.1) := List.mem_map.2 ⟨q, by unfold Rec.ws; rw [hxl]; exact List.mem_append_right _ hq, hq2⟩
       rw [hMm hns _ (List.mem_append_right _ hnews)]; exact h6
      ·rw [hMall hpi]; exact h6
     ·rcases ov_from _ _ _ _ _ _ ht with h | ⟨j, u, hu1, hu2, hu3⟩
      ·exact h7 _ (hs1 _ (findL_mem h))
      ·rw [List.getElem?_map] at hu1
       obtain ⟨y, hy, rfl⟩ := Option.map_eq_some_iff.1 hu1
       simp only [Nat.zero_add] at hu2
       obtain ⟨hyd, hdst⟩ := hTd (y := y) (t := t) (by rw [hu3]; simp)
       unfold uT at hu3
       rw [hyd] at hu3
       simp only [hdst, if_true, Option.some.injEq] at hu3
       subst hu3
       exact (hmen hy hyd hu2).1 _ hdst
     ·rcases ov_from _ _ _ _ _ _ hk with h | ⟨j, u, hu1, hu2, hu3⟩
      ·exact h8 _ (hs2 _ (findL_mem h))
      ·rw [List.getElem?_map] at hu1
       obtain ⟨y, hy, rfl⟩ := Option.map_eq_some_iff.1 hu1
       simp only [Nat.zero_add] at hu2
       exact (hmen hy (hMd (y := y) (k := k) (by rw [hu3]; simp)).1 hu2).2 _ (findL_mem hu3)
   ·have hex : ∃ y : Rec, stab x y = true := Classical.byContradiction fun hno => hns fun j y _ _ _ => by
     cases hs : stab x y with
     | false => rfl
     | true => exact absurd ⟨y, hs⟩ hno
    obtain ⟨y, hst⟩ := hex
    obtain ⟨k, off, c, hlo, hrd, hu0, hn0, _⟩ := stab_ok hst
    obtain ⟨hx0, halt⟩ := halts k off c hlo
    refine fin _ (halt _ (hMs k off c hrd hx0 hlo (hstW hst))) (fun _ _ _ h => h) (fun k b hk => ?_) (fun ni hni => ?_)
    ·rw [hu0] at hk; cases hk
    ·rw [hn0] at hni; cases hni
end
end Go.Proofs.YtidnlfkakhmadaaGreatDoor

namespace Go.Proofs.YtidnlfkakhmadaaGreatDoor
open Go.RowKit

def leL {α : Type} : List (Nat × α) → List (Nat × α) → Prop
 | [], _ => True
 | (k, v) :: l, m => findL m k = some v ∧ leL l m
def St.le (s t : St) : Prop := leL s.tm t.tm ∧ leL s.mem t.mem
theorem leL_ok {α : Type} : ∀ {l m : List (Nat × α)}, leL l m → ∀ k v, findL l k = some v → findL m k = some v
 | [], _, _, k, v, h => by cases h
 | (k', v') :: l, m, hl, k, v, h => by
  simp only [findL] at h
  split at h
  ·rename_i e; cases h; subst e; exact hl.1
  ·exact leL_ok hl.2 k v h
theorem RS_le {E : Env} {s t : St} {a : Act} {w : World} (h : s.le t) (hR : RS E t a w) : RS E s a w := RF_weak (leL_ok h.1) (leL_ok h.2) hR

def SLe (nx0 : Nat) (s t : St) : Prop := ∀ (E : Env) (a : Act) (w : World), E.nx0 = nx0 → RS E t a w → RS E s a w
theorem SLe.of {nx0 : Nat} {s t : St} (h : s.le t) : SLe nx0 s t := fun _ _ _ _ hR => RS_le h hR
theorem SLe.trans {nx0 : Nat} {s t u : St} (h : SLe nx0 s t) (h' : SLe nx0 t u) : SLe nx0 s u := fun E a w he hR => h E a w he (h' E a w he hR)
theorem nil_row {ι : Nat → Value} {S : Nat → Prop} {w : World} {k size : Nat} {e : TypeId} (h : ι k = .slice none 0 0) : BlkOk ι S w k (.row size e []) :=
 ⟨[], by rw [h]; exact World.ownsRow_nil w 0 e size, .nil, by simp, fun g hg => by rw [h] at hg; cases hg⟩
theorem SLe.own {nx0 : Nat} {s : St} (t k size : Nat) (e : TypeId) (ht : findL s.tm t = some Tnil) (hk : findL s.mem k = none) (h1 : (s.tm.all fun p => !p.2.men k) = true) (h2 : (s.mem.all fun p => !p.2.men k) = true) (hn : Nat.ble nx0 k = true) :
  SLe nx0 ⟨(t, .o (.c (.row k))) :: s.tm, (k, .row size e []) :: s.mem, k + 1⟩ s := fun E a w he ⟨ι, S, I⟩ => by
 have hn' : E.nx0 ≤ k := by rw [he]; exact Nat.le_of_ble_eq_true hn
 obtain ⟨ι', hι'⟩ : ∃ ι' : Nat → Value, ∀ j, ι' j = if j = k then .slice none 0 0 else ι j := ⟨_, fun _ => rfl⟩
 have hk' : ι' k = .slice none 0 0 := by rw [hι', if_pos rfl]
 have ho : ∀ j, j ≠ k → ι' j = ι j := fun j hj => by rw [hι', if_neg hj]
 have hmt : ∀ t tv, findL s.tm t = some tv → ∀ j, tv.men j = true → ι' j = ι j := fun t tv ht j hj => ho j fun e => by
  subst e
  have := List.all_eq_true.1 h1 _ (findL_mem ht)
  rw [hj] at this; cases this
 have hmm : ∀ n b, findL s.mem n = some b → ∀ j, b.men j = true → ι' j = ι j := fun n b hb j hj => ho j fun e => by
  subst e
  have := List.all_eq_true.1 h2 _ (findL_mem hb)
  rw [hj] at this; cases this
 have hne : ∀ n b, findL s.mem n = some b → n ≠ k := fun n b hb e => by subst e; rw [hk] at hb; cases hb
 have hcase : ∀ n b, findL ((k, Blk.row size e []) :: s.mem) n = some b → (n = k ∧ b = .row size e []) ∨ findL s.mem n = some b := fun n b hb => by
  simp only [findL] at hb
  split at hb
  ·rename_i e; cases hb; exact .inl ⟨e.symm, rfl⟩
  ·exact .inr hb
 refine ⟨ι', S, I.os, I.tape, I.output, I.size, I.old, I.slt, I.s0, I.sg, fun t' tv ht' => ?_, fun n b hb => ?_, fun n b hb hl g hg => ?_, fun n n' b b' g hb hb' hl hl' hg hg' => ?_, I.dn, I.sz, I.gl, fun j hj => (ho j (by omega)).trans (I.ik j hj)⟩
 ·simp only [findL] at ht'
  split at ht'
  ·rename_i e
   cases ht'
   subst e
   have := V_v (I.tms t _ ht)
   exact ⟨this.trans hk'.symm, none, 0, 0, this⟩
  ·exact V.mono (fun _ _ => rfl) (fun _ h => h) (hmt t' tv ht') (I.tms t' tv ht')
 ·rcases hcase n b hb with ⟨rfl, rfl⟩ | hb
  ·exact nil_row hk'
  ·have hb0 := I.blk n b hb
   refine BlkOk.mono (fun _ _ => rfl) (fun _ h => h) (fun _ => ho n (hne n b hb)) (hmm n b hb) (fun hl g hg => ⟨rfl, ?_⟩) hb0
   exact (hb0.sep hl hg).2
 ·rcases hcase n b hb with ⟨rfl, rfl⟩ | hb
  ·rw [hk'] at hg; cases hg
  ·rw [ho n (hne n b hb)] at hg; exact I.mutb n b hb hl g hg
 ·rcases hcase n b hb with ⟨rfl, rfl⟩ | hb
  ·rw [hk'] at hg; cases hg
  ·rcases hcase n' b' hb' with ⟨rfl, rfl⟩ | hb'
   ·rw [hk'] at hg'; cases hg'
   ·rw [ho n (hne n b hb)] at hg
    rw [ho n' (hne n' b' hb')] at hg'
    exact I.dst n n' b b' g hb hb' hl hl' hg hg'
structure LoopI where
 X : Type
 f : X → St
 μ : X → Nat
 p : X → Prop
structure JoinI where
 X : Type
 f : X → St
 p : X → Prop
def headIn (l : List Nat) : Code → Bool
 | .region id _ _ => memN id l
 | .seq x _ => headIn l x
 | .block _ c => headIn l c
 | .loop c => headIn l c
 | _ => false
noncomputable def endD (recs : List Rec) (pj : Option Nat) (K : St → Prop) (Kp : Value → St → Prop) (st' : St) : Prop := match pj with
 | none => K st'
 | some p => match recs[p]? with
  | some x => panK x.r.v (fun v => stepK ⟨[], x.st.mem, x.st.nx⟩ none x.r fun st => Kp v st) False
  | none => False
noncomputable def vcReg (C : Ctx) (ops : Array Oper) (draw : Bool) (st : St) (K : St → Prop) (Kp : Value → St → Prop) : Prop := match draw with
 | false => vcOps C ops ops.toList st K Kp
 | true => vcD C ops ops.toList [] [] none st fun recs pj st' => drawOk ops recs pj = true ∧ endD recs pj K Kp st'
noncomputable def vc (C : Ctx) (c : Code) : St → (Exit → St → Prop) → Prop :=
 Code.rec (motive := fun _ => St → (Exit → St → Prop) → Prop)
  (fun st Q => Q .normal st)
  (fun id ops draw st Q => match memN id C.ja with
   | false => vcReg C ops draw st (fun st' => Q .normal st') (fun v st' => Q (.panic (panE v)) st')
   | true => ∃ I : JoinI, (vcReg C ops draw st (fun st' => ∃ x, I.p x ∧ SLe C.nx0 (I.f x) st') (fun v st' => Q (.panic (panE v)) st')) ∧ ∀ x, I.p x → Q .normal (I.f x))
  (fun _ y vx vy st Q => match headIn C.jb y with
   | false => vx st fun e st' => match e with
    | .normal => vy st' Q
    | e => Q e st'
   | true => ∃ I : JoinI, (vx st fun e st' => match e with
    | .normal => ∃ x, I.p x ∧ SLe C.nx0 (I.f x) st'
    | e => Q e st') ∧ ∀ x, I.p x → vy (I.f x) Q)
  (fun c _ _ vx vy st Q => match evS st c with
   | some (.o (.c (.d (.v (.bool b))))) => match b with
    | true => vx st Q
    | false => vy st Q
   | _ => False)
  (fun id _ vx st Q => vx st fun e st' => match e with
   | .exit id' => match Nat.beq id' id with
    | true => Q .normal st'
    | false => Q (.exit id') st'
   | e => Q e st')
  (fun _ vx st Q => ∃ (I : LoopI) (x0 : I.X), I.p x0 ∧ SLe C.nx0 (I.f x0) st ∧ ∀ x, I.p x → vx (I.f x) fun e st' => match e with
   | .normal => ∃ x', I.p x' ∧ I.μ x' < I.μ x ∧ SLe C.nx0 (I.f x') st'
   | e => Q e st')
  (fun _ _ _ _ _ _ _ _ => False)
  (fun id st Q => Q (.exit id) st)
  (fun _ _ _ _ => False)
  (fun _ st Q => Q .normal st)
  (fun _ _ _ => False)
  (fun st Q => Q .ret st)
  (fun _ _ _ => False) c
theorem vc_region (C : Ctx) (id : Nat) (ops : Array Oper) (draw : Bool) (st : St) (Q : Exit → St → Prop) : vc C (.region id ops draw) st Q = (match memN id C.ja with
  | false => vcReg C ops draw st (fun st' => Q .normal st') (fun v st' => Q (.panic (panE v)) st')
  | true => ∃ I : JoinI, (vcReg C ops draw st (fun st' => ∃ x, I.p x ∧ SLe C.nx0 (I.f x) st') (fun v st' => Q (.panic (panE v)) st')) ∧ ∀ x, I.p x → Q .normal (I.f x)) := rfl
theorem vc_seq (C : Ctx) (x y : Code) (st : St) (Q : Exit → St → Prop) : vc C (.seq x y) st Q = (match headIn C.jb y with
  | false => vc C x st fun e st' => match e with
   | .normal => vc C y st' Q
   | e => Q e st'
  | true => ∃ I : JoinI, (vc C x st fun e st' => match e with
   | .normal => ∃ x, I.p x ∧ SLe C.nx0 (I.f x) st'
   | e => Q e st') ∧ ∀ x, I.p x → vc C y (I.f x) Q) := rfl
theorem vc_cond (C : Ctx) (c : Operand) (x y : Code) (st : St) (Q : Exit → St → Prop) : vc C (.cond c x y) st Q = (match evS st c with
  | some (.o (.c (.d (.v (.bool b))))) => match b with
   | true => vc C x st Q
   | false => vc C y st Q
  | _ => False) := rfl
theorem vc_block (C : Ctx) (id : Nat) (c : Code) (st : St) (Q : Exit → St → Prop) : vc C (.block id c) st Q = (vc C c st fun e st' => match e with
  | .exit id' => match Nat.beq id' id with
   | true => Q .normal st'
   | false => Q (.exit id') st'
  | e => Q e st') := rfl
theorem vc_loop (C : Ctx) (c : Code) (st : St) (Q : Exit → St → Prop) : vc C (.loop c) st Q = (∃ (I : LoopI) (x0 : I.X), I.p x0 ∧ SLe C.nx0 (I.f x0) st ∧ ∀ x, I.p x → vc C c (I.f x) fun e st' => match e with
  | .normal => ∃ x', I.p x' ∧ I.μ x' < I.μ x ∧ SLe C.nx0 (I.f x') st'
  | e => Q e st') := rfl
def Cl (E : Env) (Q : Exit → St → Prop) : Exit → Act → World → Prop := fun e a w => ∃ st, RS E st a w ∧ Q e st
theorem vcReg_ok {C : Ctx} {E : Env} (hL : LOk C.P C.L) (hn : E.n = C.n ∧ E.Γ = C.Γ ∧ E.nx0 = C.nx0) (hm : C.P.follows .mixedOrders = true) {id : Nat} {ops : Array Oper} {draw : Bool} {st : St} {K : St → Prop} {Kp : Value → St → Prop} {Q : Exit → Act → World → Prop} (hK : ∀ st a w, RS E st a w → K st → Q .normal a w) (hKp : ∀ v st a w, RS E st a w → Kp v st → Q (.panic (panE v)) a w) {a : Act} {w : World}
  (h : vcReg C ops draw st K Kp) (hR : RS E st a w) : (Code.region id ops draw).wp C.P Q a w := by
 cases draw with
 | false =>
  simp only [vcReg] at h
  exact wp_region_list (vcOps_ok hL hn hK hKp _ st a w h hR)
 | true =>
  simp only [vcReg] at h
  obtain ⟨xs, dead, pj, st', h1, h2, h3, h4, h5⟩ := vcD_recs hL _ _ _ _ _ _ DOk.nil h
  simp only [List.nil_append] at h3 h4 h5
  refine wp_region_any hm (draw_ok hn h1 h2 h3 h4 (fun hpn a w hR => hK st' a w hR ?_) (fun p x v hp hx hv a w hR => ?_) _ _ a _ (by simp) (by
   refine Nat.le_trans List.countP_le_length ?_
   simp) (fun i o ho hX => ?_) (fun i hX => ?_) ?_)
  ·subst hpn
   exact h5
  ·subst hp
   unfold endD at h5
   simp only [hx, hv, panK, stepK_eq] at h5
   exact hKp v (St.step ⟨[], x.st.mem, x.st.nx⟩ none x.r) a w hR h5
  ·simp [Array.getD] at hX
  ·simp [Array.getD] at hX
  ·have e : ∀ {α : Type} (us : List (Nat → Option α)) (f : Nat → Option α), ov us (fun i => (Array.replicate ops.size false).getD i false) 0 f = f := fun us f => by
    funext t
    exact ov_false us _ 0 f t (fun j u _ _ => by simp [Array.getD])
   rw [e, e]
   exact RF_drew hR
theorem vc_ok {C : Ctx} {E : Env} (hL : LOk C.P C.L) (hn : E.n = C.n ∧ E.Γ = C.Γ ∧ E.nx0 = C.nx0) (hm : C.P.follows .mixedOrders = true) : ∀ (c : Code) (st : St) (Q : Exit → St → Prop) (a : Act) (w : World), vc C c st Q → RS E st a w → c.wp C.P (Cl E Q) a w
 | .skip, st, Q, a, w, h, hR => wp_skip ⟨st, hR, h⟩
 | .region id ops draw, st, Q, a, w, h, hR => by
  rw [vc_region] at h
  split at h
  ·exact vcReg_ok hL hn hm (fun st a w hR hq => ⟨st, hR, hq⟩) (fun v st a w hR hq => ⟨st, hR, hq⟩) h hR
  ·obtain ⟨I, h1, h2⟩ := h
   exact vcReg_ok hL hn hm (fun st a w hR ⟨x, hp, hle⟩ => ⟨_, hle E a w hn.2.2 hR, h2 x hp⟩) (fun v st a w hR hq => ⟨st, hR, hq⟩) h1 hR
 | .seq x y, st, Q, a, w, h, hR => by
  rw [vc_seq] at h
  split at h
  ·refine wp_seq (Code.wp_mono (fun e a w hq => ?_) (vc_ok hL hn hm x st _ a w h hR))
   obtain ⟨st', hR', hq⟩ := hq
   cases e with
   | normal => exact vc_ok hL hn hm y st' Q a w hq hR'
   | _ => exact ⟨st', hR', hq⟩
  ·obtain ⟨I, h1, h2⟩ := h
   refine wp_seq (Code.wp_mono (fun e a w hq => ?_) (vc_ok hL hn hm x st _ a w h1 hR))
   obtain ⟨st', hR', hq⟩ := hq
   cases e with
   | normal =>
    obtain ⟨z, hp, hle⟩ := hq
    exact vc_ok hL hn hm y _ Q a w (h2 z hp) (hle E a w hn.2.2 hR')
   | _ => exact ⟨st', hR', hq⟩
 | .cond c x y, st, Q, a, w, h, hR => by
  rw [vc_cond] at h
  split at h
  ·rename_i b hb
   have hev : a.eval c = .bool b := by
    obtain ⟨ι, S, I⟩ := hR
    exact V_v (ev_ok I (by rw [← evS_F]; exact hb))
   split at h
   ·exact wp_cond_true hev (vc_ok hL hn hm x st Q a w h hR)
   ·exact wp_cond_false hev (vc_ok hL hn hm y st Q a w h hR)
  ·exact h.elim
 | .block id c, st, Q, a, w, h, hR => by
  rw [vc_block] at h
  refine wp_block (Code.wp_mono (fun e a w hq => ?_) (vc_ok hL hn hm c st _ a w h hR))
  obtain ⟨st', hR', hq⟩ := hq
  cases e with
  | exit id' =>
   simp only [Exit.inBlock]
   simp only at hq
   split at hq
   ·rename_i hb
    rw [if_pos (Nat.eq_of_beq_eq_true hb)]
    exact ⟨st', hR', hq⟩
   ·rename_i hb
    rw [if_neg (Nat.ne_of_beq_eq_false hb)]
    exact ⟨st', hR', hq⟩
  | _ => exact ⟨st', hR', hq⟩
 | .loop c, st, Q, a, w, h, hR => by
  rw [vc_loop] at h
  obtain ⟨I, x0, hp, hle, hround⟩ := h
  refine wp_loop_ghost (fun n a w => ∃ x, I.p x ∧ I.μ x = n ∧ RS E (I.f x) a w) (I.μ x0) ⟨x0, hp, rfl, hle E a w hn.2.2 hR⟩ fun n a w ⟨x, hx, hμ, hRx⟩ => ?_
  refine Code.wp_mono (fun e a w hq => ?_) (vc_ok hL hn hm c (I.f x) _ a w (hround x hx) hRx)
  obtain ⟨st', hR', hq⟩ := hq
  cases e with
  | normal =>
   obtain ⟨x', h1, h2, h3⟩ := hq
   exact ⟨I.μ x', hμ ▸ h2, x', h1, rfl, h3 E _ _ hn.2.2 hR'⟩
  | _ => exact ⟨st', hR', hq⟩
 | .exit id, st, Q, a, w, h, hR => wp_exit ⟨st, hR, h⟩
 | .label _, st, Q, a, w, h, hR => wp_label ⟨st, hR, h⟩
 | .ret, st, Q, a, w, h, hR => wp_ret ⟨st, hR, h⟩
 | .rangeFunc _ _ _ _, st, Q, a, w, h, hR => h.elim
 | .scope _, st, Q, a, w, h, hR => h.elim
 | .goto _, st, Q, a, w, h, hR => h.elim
 | .refuse _, st, Q, a, w, h, hR => h.elim

def argTm : Nat → List T1 → List (Nat × TV)
 | _, [] => []
 | i, x :: xs => (i, .o x) :: argTm (i + 1) xs
theorem argTm_find : ∀ (xs : List T1) (i t : Nat) (tv : TV), findL (argTm i xs) t = some tv → ∃ x, tv = .o x ∧ i ≤ t ∧ xs[t - i]? = some x
 | [], i, t, tv, h => by cases h
 | x :: xs, i, t, tv, h => by
  simp only [argTm, findL] at h
  split at h
  ·rename_i e; cases h; subst e; exact ⟨x, rfl, Nat.le_refl _, by simp⟩
  ·rename_i e
   obtain ⟨y, h1, h2, h3⟩ := argTm_find xs (i + 1) t tv h
   refine ⟨y, h1, by omega, ?_⟩
   rw [show t - i = t - (i + 1) + 1 by omega]
   simpa using h3
def resC (L : Nat → Option Lay) (st : St) : ResultVar → Option TV
 | .tmp t => findL st.tm t
 | .cell a t => match L t, findL st.tm a with
  | some l, some (.o (.c (.ptr k off))) => match findL st.mem k with
   | some (.obj cells _) => match Nat.ble (off + l.size) cells.length with
    | true => ofCells l.kind.agg ((cells.drop off).take l.size)
    | false => none
   | _ => none
  | _, _ => none
def retT : List T1 → TV
 | [y] => .o y
 | ys => .tup ys
def TLe (r r' : TV) : Prop := ∀ (ι : Nat → Value) (S : Nat → Prop) (w : World) (v : Value), V ι S w r v → V ι S w r' v
theorem TLe.rfl {r : TV} : TLe r r := fun _ _ _ _ h => h
theorem TLe.eq {r r' : TV} (h : r = r') : TLe r r' := h ▸ TLe.rfl
def retOk (L : Nat → Option Lay) (rs : List ResultVar) (r : TV) (st : St) : Prop :=
 match eatT (findL st.mem) (rs.map (resC L st)) with
 | some (ys, _) => TLe (retT ys) r
 | none => False
def fnQ (L : Nat → Option Lay) (rs : List ResultVar) (r : TV) : Exit → St → Prop
 | .normal, st | .ret, st => retOk L rs r st
 | _, _ => False
theorem mapM_run {P : Program} {w : World} {α β : Type} (g : α → Sem β) : ∀ (l : List α) (m : List β), All2 (fun a b => (g a).run P w = .ok b w) l m → (l.mapM g).run P w = .ok m w
 | [], m, h => by obtain rfl := h.nil_left; simp
 | a :: l, m, h => by
  obtain ⟨b, m', rfl, h1, h2⟩ := h.cons_left
  simp [List.mapM_cons, h1, mapM_run g l m' h2]
def resF (tmps : Array Value) : ResultVar → Sem Value
 | .tmp t => pure (tmps.getD t undef)
 | .cell a t => do loadVar t (← asAddr (tmps.getD a undef))
theorem results_F (fn : Func) (tmps : Array Value) : results fn tmps = (do let vs ← fn.results.mapM (resF tmps); pure (if h : vs.size = 1 then vs[0] else .tuple vs)) := rfl
theorem run_map {P : Program} {w : World} {α β : Type} (f : α → β) (x : Sem α) : (f <$> x).run P w = (x.run P w).andThen fun a w => .ok (f a) w := by
 show (x >>= fun a => pure (f a)).run P w = _
 rw [Sem.run_bind]
 rfl
theorem fn_rule {C : Ctx} {f : FuncId} {fn : Func} {c : Code} (hL : LOk C.P C.L) (hm : C.P.follows .mixedOrders = true) (hf : C.P.funcs[f]? = some fn) (hb : fn.body = some c) (hname : (fn.name == "runtime.NumGoroutine") = false)
  (hn : fn.ntmps = C.n) (h0 : C.nx0 = 0) {xs : List T1} (hx : Nat.ble xs.length C.n = true) {r : TV} (h : vc C c ⟨argTm 0 xs, [], 0⟩ (fnQ C.L fn.results.toList r)) : CallsA C.P C.Γ f xs r := by
 refine ⟨⟨fn, hf, hname, by rw [hb]; rfl⟩, fun S w vs hS hG hvs => ?_⟩
 have hxl := Nat.le_of_ble_eq_true hx
 have hlen := hvs.len
 refine calls_of_wp hf hb ?_
 have hR : RS ⟨w, fun _ => False, S, C.n, C.Γ, ι0, 0, []⟩ ⟨argTm 0 xs, [], 0⟩ { tmps := vs.toArray ++ Array.replicate (fn.ntmps - vs.toArray.size) undef, defers := [] } w := by
  refine ⟨ι0, S, rfl, rfl, rfl, Nat.le_refl _, fun _ _ _ => rfl, hS, fun _ h => h, fun _ h => .inl h, fun t tv ht => ?_, (fun k b hk => by cases hk), (fun k b hk => by cases hk), (fun k k' b b' g hk => by cases hk), rfl, ?_, hG, fun _ _ => rfl⟩
  ·obtain ⟨x, rfl, _, hx⟩ := argTm_find xs 0 t tv ht
   rw [Nat.sub_zero] at hx
   obtain ⟨u, hu, hv⟩ := hvs.at_left hx
   have hlt := (List.getElem?_eq_some_iff.1 hu).1
   have : (vs.toArray ++ Array.replicate (fn.ntmps - vs.toArray.size) undef).getD t undef = u := by
    simp [Array.getElem?_append, hlt, hu]
    have h2 := (List.getElem?_eq_some_iff.1 hu).2
    exact h2
   show V ι0 S w (.o x) _
   dsimp only
   rw [this]
   exact hv
  ·simp; omega
 refine Code.wp_mono (fun e a w' hq => ?_) (vc_ok hL ⟨rfl, rfl, h0.symm⟩ hm c _ _ _ w h hR)
 obtain ⟨st, hR', hq⟩ := hq
 have key : retOk C.L fn.results.toList r st → a.defers = [] ∧ ∃ v, (results fn a.tmps).run C.P w' = .ok v w' ∧ ∃ x S', Ending.returned v = .returned x ∧ Below w.heap.size w w' ∧ (∀ b, S b → S' b) ∧ (∀ b, S' b → S b ∨ w.heap.size ≤ b) ∧ (∀ b, S' b → b < w'.heap.size) ∧ V ι0 S' w' r x := fun hret => by
  obtain ⟨ι, S1, I⟩ := hR'
  unfold retOk at hret
  split at hret
  ·rename_i ys ks hy
   have hone : ∀ rv tv, resC C.L st rv = some tv → ∃ v, (resF a.tmps rv).run C.P w' = .ok v w' ∧ V ι S1 w' tv v := fun rv tv hrv => by
    cases rv with
    | tmp t => exact ⟨_, rfl, I.tms t tv hrv⟩
    | cell b t =>
     simp only [resC] at hrv
     split at hrv
     ·rename_i l k off hl hb
      split at hrv
      ·rename_i cells tg hk
       split at hrv
       ·rename_i hle
        obtain ⟨bk, hb1, hb2⟩ := I.tms b _ hb
        obtain ⟨b', arr, ty, h3, h4, h5, _⟩ := I.blk k _ hk
        obtain rfl : bk = b' := by rw [hb1] at h3; cases h3; rfl
        have hlen := h5.len
        have hle' := Nat.le_of_ble_eq_true hle
        have hr := run_load_range (P := C.P) (layOf_ok (hL _ _ hl)) (w := w') (g := bk) (f := off) (us := (arr.toList.drop off).take l.size) (by simp at hlen ⊢; omega) (fun j u hj => by
         obtain ⟨hj1, _⟩ := drop_take_get hj
         rw [cell_of_row w' bk (off + j) arr ty.1 (0, 0) h4]
         simpa using hj1)
        rcases V_ofCells hrv ((h5.drop off).take l.size) with ⟨ha, hV⟩ | ⟨ha, u, hu, hV⟩
        ·exact ⟨_, by simp only [resF, hb2]; simp [asAddr, hr.1 ha], hV⟩
        ·exact ⟨_, by simp only [resF, hb2]; simp [asAddr, hr.2 ha u hu], hV⟩
       ·cases hrv
      ·cases hrv
     ·cases hrv
   -- the values of all results
   have hvals : ∀ (l : List ResultVar) (ys : List T1) (ks : List Nat), eatT (findL st.mem) (l.map (resC C.L st)) = some (ys, ks) → ∃ vs, All2 (fun rv v => (resF a.tmps rv).run C.P w' = .ok v w') l vs ∧ All2 (fun (a : Option TV) u => ∀ tv, a = some tv → V ι S1 w' tv u) (l.map (resC C.L st)) vs := fun l => by
    induction l with
    | nil => intro ys ks _; exact ⟨[], .nil, .nil⟩
    | cons rv l ih =>
     intro ys ks h
     simp only [List.map_cons] at h
     cases hrv : resC C.L st rv with
     | none => rw [hrv] at h; simp [eatT] at h
     | some tv =>
      rw [hrv] at h
      cases tv with
      | no => simp [eatT] at h
      | und => simp [eatT] at h
      | tup l => simp [eatT] at h
      | pan v => simp [eatT] at h
      | o x =>
       simp only [eatT] at h
       split at h
       ·rename_i y k1 ys' k2 h1 h2
        obtain ⟨vs, g1, g2⟩ := ih ys' k2 h2
        obtain ⟨v, e1, e2⟩ := hone rv _ hrv
        refine ⟨v :: vs, .cons e1 g1, ?_⟩
        simp only [List.map_cons]
        refine .cons (fun tv htv => ?_) g2
        rw [hrv] at htv; cases htv
        exact e2
       ·cases h
   obtain ⟨vs, g1, g2⟩ := hvals _ ys ks hy
   have hrows : ∀ k ∈ ks, ∃ size e rows, BlkOk ι S1 w' k (.row size e rows) := fun k hk => by
    obtain ⟨size, e, rows, hm⟩ := eatT_rows hy k hk
    exact ⟨size, e, rows, I.blk k _ hm⟩
   have hall := eatT_ok (ι' := ι0) (S' := giveUp ι S1 ks) (fun b hb => .inl hb) hy g2 (fun k hk b hb => I.blk k b hb) (fun k hk g hg => .inr ⟨k, hk, hg⟩)
   have hres : (results fn a.tmps).run C.P w' = .ok (if h : vs.toArray.size = 1 then vs.toArray[0] else .tuple vs.toArray) w' := by
    have h1 := mapM_run _ _ _ g1
    rw [results_F, Sem.run_bind, Array.mapM_eq_mapM_toList, run_map, h1]
    rfl
   refine ⟨I.dn, _, hres, _, giveUp ι S1 ks, rfl, ⟨I.os, I.tape, I.output, I.size, fun b hb => I.old b hb (fun h => h)⟩, fun b hb => .inl (I.s0 b hb), fun b hb => ?_, fun b hb => ?_, ?_⟩
   ·rcases hb with hb | ⟨k, hk, hb⟩
    ·rcases I.sg b hb with h | h | h
     ·exact .inl h
     ·exact .inr h
     ·exact h.elim
    ·obtain ⟨size, e, rows, hm⟩ := eatT_rows hy k hk
     rcases I.mutb k _ hm rfl b hb with h | h
     ·exact h.elim
     ·exact .inr h
   ·rcases hb with hb | ⟨k, hk, hb⟩
    ·exact I.slt b hb
    ·obtain ⟨size, e, rows, hr⟩ := hrows k hk
     exact (row_lt hr b hb).1
   ·refine hret _ _ _ _ ?_
    match ys, vs, hall with
    | [y], vs, hall =>
     obtain ⟨v, rfl, hv⟩ := hall.one_left
     exact hv
    | [], vs, hall =>
     obtain rfl := hall.nil_left
     exact ⟨[], rfl, .nil⟩
    | y :: z :: ys, vs, hall =>
     have : ¬ vs.toArray.size = 1 := by have := hall.len; simp at this ⊢; omega
     rw [dif_neg this]
     exact ⟨vs, rfl, hall⟩
  ·exact hret.elim
 cases e with
 | normal => exact key hq
 | ret => exact key hq
 | _ => exact hq.elim
end Go.Proofs.YtidnlfkakhmadaaGreatDoor

namespace Go.Proofs.YtidnlfkakhmadaaGreatDoor
open Go.RowKit

def CV.ren (ρ : Nat → Nat) : CV → CV
 | .d x => .d x
 | .ptr k o => .ptr (ρ k) o
 | .eptr cs => .eptr cs
 | .rptr k s i j => .rptr (ρ k) s i j
 | .row k => .row (ρ k)
 | .mp k => .mp (ρ k)
 | .rsl k s i n => .rsl (ρ k) s i n
def T1.ren (ρ : Nat → Nat) : T1 → T1
 | .c x => .c (x.ren ρ)
 | .g l => .g (l.map (CV.ren ρ))
 | .f h a l => .f h a (l.map (CV.ren ρ))
def TV.ren (ρ : Nat → Nat) : TV → TV
 | .no => .no
 | .und => .und
 | .o x => .o (x.ren ρ)
 | .tup l => .tup (l.map (T1.ren ρ))
 | .pan v => .pan v
def Blk.ren (ρ : Nat → Nat) : Blk → Blk
 | .obj l tg => .obj (l.map (CV.ren ρ)) tg
 | .row s e rows => .row s e rows
 | .map es => .map es
 | .dead => .dead
theorem Blk.live_ren (ρ : Nat → Nat) (b : Blk) : (b.ren ρ).live = b.live := by cases b <;> rfl
theorem All2.map_iff {α β γ : Type} {R : α → β → Prop} {f : γ → α} {l : List γ} {m : List β} : All2 R (l.map f) m ↔ All2 (fun c b => R (f c) b) l m := ⟨All2.of_map_left, All2.map_left⟩
section
variable {ι ι' : Nat → Value} {S : Nat → Prop} {w : World} {ρ : Nat → Nat} (h : ∀ k, ι' (ρ k) = ι k)
include h
theorem VC_ren {x : CV} {u : Value} : VC ι' S w (x.ren ρ) u ↔ VC ι S w x u := by
 cases x <;> simp only [CV.ren, VC, h]
theorem V1_ren {x : T1} {u : Value} : V1 ι' S w (x.ren ρ) u ↔ V1 ι S w x u := by
 cases x with
 | c x => exact VC_ren h
 | g l =>
  simp only [T1.ren, V1, All2.map_iff]
  exact ⟨fun ⟨us, h1, h2⟩ => ⟨us, h1, h2.mono fun _ _ q => (VC_ren h).1 q⟩, fun ⟨us, h1, h2⟩ => ⟨us, h1, h2.mono fun _ _ q => (VC_ren h).2 q⟩⟩
 | f g a l =>
  simp only [T1.ren, V1, All2.map_iff]
  exact ⟨fun ⟨us, h1, h2⟩ => ⟨us, h1, h2.mono fun _ _ q => (VC_ren h).1 q⟩, fun ⟨us, h1, h2⟩ => ⟨us, h1, h2.mono fun _ _ q => (VC_ren h).2 q⟩⟩
theorem V_ren {x : TV} {u : Value} : V ι' S w (x.ren ρ) u ↔ V ι S w x u := by
 cases x with
 | no => exact Iff.rfl
 | und => exact Iff.rfl
 | pan v => exact Iff.rfl
 | o x => exact V1_ren h
 | tup l =>
  simp only [TV.ren, V, All2.map_iff]
  exact ⟨fun ⟨us, h1, h2⟩ => ⟨us, h1, h2.mono fun _ _ q => (V1_ren h).1 q⟩, fun ⟨us, h1, h2⟩ => ⟨us, h1, h2.mono fun _ _ q => (V1_ren h).2 q⟩⟩
theorem BlkOk_ren {k : Nat} {b : Blk} : BlkOk ι' S w (ρ k) (b.ren ρ) ↔ BlkOk ι S w k b := by
 cases b with
 | dead => exact Iff.rfl
 | obj l =>
  simp only [Blk.ren, BlkOk, All2.map_iff, h]
  exact ⟨fun ⟨b, arr, ty, h1, h2, h3, h4⟩ => ⟨b, arr, ty, h1, h2, h3.mono fun _ _ q => (VC_ren h).1 q, h4⟩, fun ⟨b, arr, ty, h1, h2, h3, h4⟩ => ⟨b, arr, ty, h1, h2, h3.mono fun _ _ q => (VC_ren h).2 q, h4⟩⟩
 | row s e rows => simp only [Blk.ren, BlkOk, h]
 | map es => simp only [Blk.ren, BlkOk, h]
end
def renN (ρs : List Nat) (nx : Nat) (k : Nat) : Nat := match ρs[k]? with
 | some k' => k'
 | none => nx + (k - ρs.length)
def renM (ρ : Nat → Nat) (m : List (Nat × Blk)) : List (Nat × Blk) := m.map fun p => (ρ p.1, p.2.ren ρ)
theorem CallsM.ren {P : Program} {Γ : Glob} {f : FuncId} {m : List (Nat × Blk)} {nx : Nat} {xs : List T1} {r : TV} {upd : List (Nat × Blk)} {new : List Blk} (h : CallsM P Γ f m nx xs r upd new) (ρs : List Nat) (nx' : Nat) (hl : ρs.length = nx)
  (hlt : (ρs.all fun k => Nat.blt k nx') = true) (hnd : nodupB ρs = true) (hm : (m.all fun p => Nat.blt p.1 nx) = true) :
  CallsM P Γ f (renM (renN ρs nx') m) nx' (xs.map (T1.ren (renN ρs nx'))) (r.ren (renN ρs nx')) (renM (renN ρs nx') upd) (new.map (Blk.ren (renN ρs nx'))) := by
 subst hl
 obtain ⟨hcb, h⟩ := h
 refine ⟨hcb, fun ι S w vs hs hG hblk hdst hvs => ?_⟩
 have hlow : ∀ k, k < ρs.length → renN ρs nx' k < nx' := fun k hk => by
  have h1 : ρs[k]? = some ρs[k] := List.getElem?_eq_getElem hk
  unfold renN
  rw [h1]
  have := List.all_eq_true.1 hlt ρs[k] (List.getElem_mem hk)
  exact Nat.lt_of_succ_le (Nat.le_of_ble_eq_true this)
 have hhigh : ∀ k, ρs.length ≤ k → renN ρs nx' k = nx' + (k - ρs.length) := fun k hk => by
  unfold renN
  rw [List.getElem?_eq_none hk]
 have h1 : ∀ k, ι (renN ρs nx' k) = (fun k => ι (renN ρs nx' k)) k := fun _ => rfl
 have hmlt : ∀ p ∈ m, p.1 < ρs.length := fun p hp => Nat.lt_of_succ_le (Nat.le_of_ble_eq_true (List.all_eq_true.1 hm p hp))
 have hin : ∀ p ∈ m, (renN ρs nx' p.1, p.2.ren (renN ρs nx')) ∈ renM (renN ρs nx') m := fun p hp => List.mem_map.2 ⟨p, hp, rfl⟩
 have conv : ∀ (tv : TV) (x : Value) (ι1 : Nat → Value) (S' : Nat → Prop) (w' : World), After (fun k => ι (renN ρs nx' k)) S w ρs.length ⟨tv, m.map (·.1), upd, new⟩ x ι1 S' w' → ∃ ι', After ι S w nx' ⟨tv.ren (renN ρs nx'), (renM (renN ρs nx') m).map (·.1), renM (renN ρs nx') upd, new.map (Blk.ren (renN ρs nx'))⟩ x ι' S' w' := fun tv x ι1 S' w' A => by
  obtain ⟨ι', hι'⟩ : ∃ ι' : Nat → Value, ∀ k, ι' k = if nx' ≤ k ∧ k < nx' + new.length then ι1 (ρs.length + (k - nx')) else ι k := ⟨_, fun _ => rfl⟩
  have h2 : ∀ k, ι' (renN ρs nx' k) = ι1 k := fun k => by
   rw [hι']
   by_cases hk : k < ρs.length
   ·have := hlow k hk
    rw [if_neg (by omega)]
    exact (A.keep k (.inl hk)).symm
   ·have hk' := hhigh k (by omega)
    rw [hk']
    by_cases hn : k - ρs.length < new.length
    ·rw [if_pos (by omega)]
     congr 1
     omega
    ·rw [if_neg (by omega), A.keep k (.inr (by simp only; omega))]
     exact (congrArg ι hk').symm
  refine ⟨ι', (V_ren h2).2 A.val, fun k hk => (hι' k).trans (if_neg (by simp only [List.length_map] at hk; omega)), A.smono, fun b hb => ?_, A.slt, A.os, A.tape, A.output, A.size, fun b hb hne => A.heap b hb fun k hk => ?_, fun k b hk => ?_, fun i b hb => ?_, fun i b hb hl g hg => ?_, fun i j b b' g hb hb' hl hl' hg hg' => ?_⟩
  ·rcases A.sgrow b hb with h | h | ⟨k, hk, h⟩
   ·exact .inl h
   ·exact .inr (.inl h)
   ·exact .inr (.inr ⟨renN ρs nx' k, List.mem_map.2 ⟨(k, .dead), hk, rfl⟩, h⟩)
  ·obtain ⟨p, hp, rfl⟩ := List.mem_map.1 hk
   exact hne _ (List.mem_map.2 ⟨_, List.mem_map.2 ⟨p, hp, rfl⟩, rfl⟩)
  ·obtain ⟨p, hp, he⟩ := List.mem_map.1 hk
   cases he
   exact (BlkOk_ren h2).2 (A.updok p.1 p.2 hp)
  ·simp only [List.getElem?_map] at hb
   obtain ⟨b0, hb0, rfl⟩ := Option.map_eq_some_iff.1 hb
   have := (BlkOk_ren h2).2 (A.newok i b0 hb0)
   rwa [hhigh _ (by omega), show ρs.length + i - ρs.length = i by omega] at this
  ·simp only [List.getElem?_map] at hb
   obtain ⟨b0, hb0, rfl⟩ := Option.map_eq_some_iff.1 hb
   rw [Blk.live_ren] at hl
   have e := h2 (ρs.length + i)
   rw [hhigh _ (by omega), show ρs.length + i - ρs.length = i by omega] at e
   rw [e] at hg
   obtain ⟨g1, g2⟩ := A.newblk i b0 hb0 hl g hg
   refine ⟨g1, ?_⟩
   rcases g2 with g2 | ⟨k, hk, g2⟩
   ·exact .inl g2
   ·exact .inr ⟨renN ρs nx' k, List.mem_map.2 ⟨(k, .dead), hk, rfl⟩, g2⟩
  ·simp only [List.getElem?_map] at hb hb'
   obtain ⟨b0, hb0, rfl⟩ := Option.map_eq_some_iff.1 hb
   obtain ⟨b1, hb1, rfl⟩ := Option.map_eq_some_iff.1 hb'
   rw [Blk.live_ren] at hl hl'
   have e' : ∀ i, ι' (nx' + i) = ι1 (ρs.length + i) := fun i => by
    have := h2 (ρs.length + i)
    rwa [hhigh _ (by omega), show ρs.length + i - ρs.length = i by omega] at this
   rw [e'] at hg hg'
   exact A.newdst i j b0 b1 g hb0 hb1 hl hl' hg hg'
 refine (h (fun k => ι (renN ρs nx' k)) S w vs hs hG (fun p hp => (BlkOk_ren h1).1 (hblk _ (hin p hp))) (fun p hp q hq g hl hl' hg hg' => ?_) (hvs.of_map_left.mono fun _ _ hv => (V1_ren h1).1 hv)).mono fun e w' hX => ?_
 ·have hn := hdst _ (hin p hp) _ (hin q hq) g (by rw [Blk.live_ren]; exact hl) (by rw [Blk.live_ren]; exact hl') hg hg'
  have e1 : ρs[p.1]? = some (renN ρs nx' p.1) := by
   have h1 := List.getElem?_eq_getElem (hmlt p hp)
   unfold renN; rw [h1]
  have e2 : ρs[q.1]? = some (renN ρs nx' q.1) := by
   have h1 := List.getElem?_eq_getElem (hmlt q hq)
   unfold renN; rw [h1]
  simp only at hn
  rw [← hn] at e2
  exact nodupB_at hnd _ _ _ e1 e2
 ·rcases hX with ⟨x, ι1, S', he, A⟩ | ⟨v, ι1, S', hr, he, A⟩
  ·obtain ⟨ι', A'⟩ := conv r x ι1 S' w' A
   exact .inl ⟨x, ι', S', he, A'⟩
  ·obtain ⟨ι', A'⟩ := conv .und undef ι1 S' w' A
   exact .inr ⟨v, ι', S', by rw [hr]; rfl, he, A'⟩
end Go.Proofs.YtidnlfkakhmadaaGreatDoor

namespace Go.Proofs.YtidnlfkakhmadaaGreatDoor
open Go.RowKit

theorem BlkOk.own {ι : Nat → Value} {S : Nat → Prop} {w : World} {k : Nat} {b : Blk} (h : BlkOk ι S w k b) (hl : b.live = true) {g : Nat} (hg : blkOf (ι k) = some g) : ¬ S g ∧ g < w.heap.size := by
 exact (h.sep hl hg).symm
theorem VC_to {ι ι' : Nat → Value} {S : Nat → Prop} {w : World} {ρ : Nat → Nat} {x : CV} {u : Value} (h : ∀ k, x.men k = true → ι' (ρ k) = ι k) (hv : VC ι S w x u) : VC ι' S w (x.ren ρ) u := by
 cases x with
 | d x => exact hv
 | ptr k o => obtain ⟨b, h1, h2⟩ := hv; exact ⟨b, (h k (by simp [CV.men])).trans h1, h2⟩
 | eptr cs => exact hv
 | rptr k s i j => obtain ⟨b, n, c, h1, h2⟩ := hv; exact ⟨b, n, c, (h k (by simp [CV.men])).trans h1, h2⟩
 | row k => exact ⟨hv.1.trans (h k (by simp [CV.men])).symm, hv.2⟩
 | mp k => exact ⟨hv.1.trans (h k (by simp [CV.men])).symm, hv.2⟩
 | rsl k s i n => obtain ⟨b, n0, c0, c, h1, h2⟩ := hv; exact ⟨b, n0, c0, c, (h k (by simp [CV.men])).trans h1, h2⟩
theorem BlkOk_to {ι ι' : Nat → Value} {S : Nat → Prop} {w : World} {ρ : Nat → Nat} {k : Nat} {b : Blk} (hk : b.live = true → ι' (ρ k) = ι k) (h : ∀ n, b.men n = true → ι' (ρ n) = ι n) (hv : BlkOk ι S w k b) : BlkOk ι' S w (ρ k) (b.ren ρ) := by
 cases b with
 | dead => trivial
 | obj l =>
  obtain ⟨b, arr, ty, h1, h2, h3, h4⟩ := hv
  exact ⟨b, arr, ty, (hk rfl).trans h1, h2, All2.map_left (h3.mono_mem fun a u ha hau => VC_to (fun n hn => h n (List.any_eq_true.2 ⟨a, ha, hn⟩)) hau), h4⟩
 | row s e rows =>
  obtain ⟨cs, h1, h2⟩ := hv
  exact ⟨cs, by rw [hk rfl]; exact h1, by rw [hk rfl]; exact h2⟩
 | map es =>
  obtain ⟨b, arr, clock, h1, h2⟩ := hv
  exact ⟨b, arr, clock, (hk rfl).trans h1, h2⟩
def mpN (ps : List (Nat × Nat)) (k : Nat) : Nat := match findL ps k with
 | some k' => k'
 | none => k
def invN : List (Nat × Nat) → Nat → Option Nat
 | [], _ => none
 | (k, k') :: l, n => if k' = n then some k else invN l n
def CV.inN (ps : List (Nat × Nat)) : CV → Bool
 | .ptr k _ | .rptr k _ _ _ | .row k | .mp k | .rsl k _ _ _ => (findL ps k).isSome
 | _ => true
def T1.inN (ps : List (Nat × Nat)) : T1 → Bool
 | .c x => x.inN ps
 | .g l => l.all (CV.inN ps)
 | .f _ _ l => l.all (CV.inN ps)
def TV.inN (ps : List (Nat × Nat)) : TV → Bool
 | .no => true
 | .und => true
 | .pan _ => true
 | .o x => x.inN ps
 | .tup l => l.all (T1.inN ps)
def Blk.inN (ps : List (Nat × Nat)) : Blk → Bool
 | .obj l _ => l.all (CV.inN ps)
 | _ => true
def leTR (ps : List (Nat × Nat)) : List (Nat × TV) → List (Nat × TV) → Prop
 | [], _ => True
 | (k, v) :: l, m => (match findL m k with
  | some v' => v'.inN ps = true ∧ v'.ren (mpN ps) = v
  | none => False) ∧ leTR ps l m
def leMR (ps : List (Nat × Nat)) : List (Nat × Blk) → List (Nat × Blk) → Prop
 | [], _ => True
 | (k, b) :: l, m => (match invN ps k with
  | some k' => match findL m k' with
   | some b' => b'.inN ps = true ∧ b'.ren (mpN ps) = b
   | none => False
  | none => False) ∧ leMR ps l m
def renChk (nx0 : Nat) (ps : List (Nat × Nat)) : Bool := nodupB (ps.map (·.1)) && nodupB (ps.map (·.2)) && ps.all fun p => Nat.ble nx0 p.2 || Nat.beq p.1 p.2
theorem invN_at : ∀ {ps : List (Nat × Nat)} {n k : Nat}, invN ps n = some k → (k, n) ∈ ps
 | (a, b) :: l, n, k, h => by
  simp only [invN] at h
  split at h
  ·rename_i e; cases h; subst e; simp
  ·exact List.mem_cons_of_mem _ (invN_at h)
theorem pair_uniq : ∀ {ps : List (Nat × Nat)}, nodupB (ps.map (·.1)) = true → ∀ {k n n' : Nat}, (k, n) ∈ ps → (k, n') ∈ ps → n = n' := fun {ps} h {k n n'} h1 h2 => by
 obtain ⟨i, hi⟩ := List.getElem?_of_mem h1
 obtain ⟨j, hj⟩ := List.getElem?_of_mem h2
 have := nodupB_at h i j k (by simp [hi]) (by simp [hj])
 subst this
 rw [hi] at hj; cases hj; rfl
theorem pair_uniq' : ∀ {ps : List (Nat × Nat)}, nodupB (ps.map (·.2)) = true → ∀ {k k' n : Nat}, (k, n) ∈ ps → (k', n) ∈ ps → k = k' := fun {ps} h {k k' n} h1 h2 => by
 obtain ⟨i, hi⟩ := List.getElem?_of_mem h1
 obtain ⟨j, hj⟩ := List.getElem?_of_mem h2
 have := nodupB_at h i j n (by simp [hi]) (by simp [hj])
 subst this
 rw [hi] at hj; cases hj; rfl
theorem CV.in_men {ps : List (Nat × Nat)} {x : CV} (h : x.inN ps = true) {k : Nat} (hk : x.men k = true) : (findL ps k).isSome = true := by
 cases x <;> simp_all [CV.inN, CV.men]
theorem T1.in_men {ps : List (Nat × Nat)} {x : T1} (h : x.inN ps = true) {k : Nat} (hk : x.men k = true) : (findL ps k).isSome = true := by
 cases x with
 | c x => exact CV.in_men h hk
 | g l =>
  obtain ⟨y, hy, hm⟩ := List.any_eq_true.1 hk
  exact CV.in_men (List.all_eq_true.1 h y hy) hm
 | f g a l =>
  obtain ⟨y, hy, hm⟩ := List.any_eq_true.1 hk
  exact CV.in_men (List.all_eq_true.1 h y hy) hm
theorem V1_to {ι ι' : Nat → Value} {S : Nat → Prop} {w : World} {ρ : Nat → Nat} {x : T1} {u : Value} (h : ∀ k, x.men k = true → ι' (ρ k) = ι k) (hv : V1 ι S w x u) : V1 ι' S w (x.ren ρ) u := by
 cases x with
 | c x => exact VC_to h hv
 | g l =>
  obtain ⟨us, h1, h2⟩ := hv
  exact ⟨us, h1, All2.map_left (h2.mono_mem fun a u ha hau => VC_to (fun n hn => h n (List.any_eq_true.2 ⟨a, ha, hn⟩)) hau)⟩
 | f g a l =>
  obtain ⟨us, h1, h2⟩ := hv
  exact ⟨us, h1, All2.map_left (h2.mono_mem fun a u ha hau => VC_to (fun n hn => h n (List.any_eq_true.2 ⟨a, ha, hn⟩)) hau)⟩
theorem V_to {ι ι' : Nat → Value} {S : Nat → Prop} {w : World} {ρ : Nat → Nat} {x : TV} {u : Value} (h : ∀ k, x.men k = true → ι' (ρ k) = ι k) (hv : V ι S w x u) : V ι' S w (x.ren ρ) u := by
 cases x with
 | no => trivial
 | und => exact hv
 | pan v => exact hv
 | o x => exact V1_to h hv
 | tup l =>
  obtain ⟨us, h1, h2⟩ := hv
  exact ⟨us, h1, All2.map_left (h2.mono_mem fun a u ha hau => V1_to (fun n hn => h n (List.any_eq_true.2 ⟨a, ha, hn⟩)) hau)⟩
theorem leTR_ok {ps : List (Nat × Nat)} : ∀ {l m : List (Nat × TV)}, leTR ps l m → ∀ k v, findL l k = some v → ∃ v', findL m k = some v' ∧ v'.inN ps = true ∧ v'.ren (mpN ps) = v
 | [], _, _, k, v, h => by cases h
 | (a, b) :: l, m, hl, k, v, h => by
  simp only [findL] at h
  split at h
  ·rename_i e
   cases h; subst e
   have := hl.1
   split at this
   ·rename_i v' hv'; exact ⟨v', hv', this⟩
   ·exact this.elim
  ·exact leTR_ok hl.2 k v h
theorem leMR_ok {ps : List (Nat × Nat)} : ∀ {l m : List (Nat × Blk)}, leMR ps l m → ∀ k b, findL l k = some b → ∃ k' b', (k', k) ∈ ps ∧ findL m k' = some b' ∧ b'.inN ps = true ∧ b'.ren (mpN ps) = b
 | [], _, _, k, v, h => by cases h
 | (a, b) :: l, m, hl, k, v, h => by
  simp only [findL] at h
  split at h
  ·rename_i e
   cases h; subst e
   have := hl.1
   split at this
   ·rename_i k' hk'
    split at this
    ·rename_i b' hb'; exact ⟨k', b', invN_at hk', hb', this⟩
    ·exact this.elim
   ·exact this.elim
  ·exact leMR_ok hl.2 k v h
theorem SLe.ren {nx0 : Nat} (ps : List (Nat × Nat)) {s t : St} (h1 : leTR ps s.tm t.tm) (h2 : leMR ps s.mem t.mem) (hc : renChk nx0 ps = true) : SLe nx0 s t := fun E a w he ⟨ι, S, I⟩ => by
 unfold renChk at hc
 simp only [Bool.and_eq_true] at hc
 obtain ⟨⟨c1, c2⟩, c3⟩ := hc
 obtain ⟨ι', hι'⟩ : ∃ ι' : Nat → Value, ∀ n, ι' n = match invN ps n with
  | some k => ι k
  | none => ι n := ⟨_, fun _ => rfl⟩
 have hρ : ∀ k n, (k, n) ∈ ps → ι' n = ι k := fun k n h => by
  rw [hι']
  cases hi : invN ps n with
  | none =>
   exfalso
   have key : ∀ (l : List (Nat × Nat)), (k, n) ∈ l → invN l n ≠ none := fun l => by
    induction l with
    | nil => intro h; cases h
    | cons p l ih =>
     obtain ⟨a, b⟩ := p
     intro h
     simp only [invN]
     split
     ·simp
     ·rename_i e
      rcases List.mem_cons.1 h with h | h
      ·cases h; exact absurd rfl e
      ·exact ih h
   exact key ps h hi
  | some k' => rw [pair_uniq' c2 h (invN_at hi)]
 have hmp : ∀ k, (findL ps k).isSome = true → ι' (mpN ps k) = ι k := fun k hk => by
  obtain ⟨n, hn⟩ := Option.isSome_iff_exists.1 hk
  unfold mpN
  rw [hn]
  exact hρ k n (findL_mem hn)
 have hmp' : ∀ k n, (k, n) ∈ ps → mpN ps k = n := fun k n h => by
  have hs : (findL ps k).isSome = true := by
   cases hf : findL ps k with
   | some _ => rfl
   | none => exact absurd (List.mem_map.2 ⟨_, h, rfl⟩) (findL_none hf)
  obtain ⟨n', hn'⟩ := Option.isSome_iff_exists.1 hs
  unfold mpN
  rw [hn']
  exact pair_uniq c1 (findL_mem hn') h
 refine ⟨ι', S, I.os, I.tape, I.output, I.size, I.old, I.slt, I.s0, I.sg, fun k tv hk => ?_, fun n b hn => ?_, fun n b hn hl g hg => ?_, fun n n' b b' g hn hn' hl hl' hg hg' => ?_, I.dn, I.sz, I.gl, fun n hn => ?_⟩
 ·obtain ⟨v', e1, e2, rfl⟩ := leTR_ok h1 k tv hk
  refine V_to (fun j hj => hmp j ?_) (I.tms k v' e1)
  cases v' with
  | no => cases hj
  | und => cases hj
  | pan v => cases hj
  | o x => exact T1.in_men e2 hj
  | tup l =>
   obtain ⟨y, hy, hm⟩ := List.any_eq_true.1 hj
   exact T1.in_men (List.all_eq_true.1 e2 y hy) hm
 ·obtain ⟨k, b', e0, e1, e2, rfl⟩ := leMR_ok h2 n b hn
  rw [← hmp' k n e0]
  refine BlkOk_to (fun _ => by rw [hmp' k n e0]; exact hρ k n e0) (fun j hj => hmp j ?_) (I.blk k b' e1)
  cases b' with
  | obj l =>
   obtain ⟨y, hy, hm⟩ := List.any_eq_true.1 hj
   exact CV.in_men (List.all_eq_true.1 e2 y hy) hm
  | _ => cases hj
 ·obtain ⟨k, b', e0, e1, e2, rfl⟩ := leMR_ok h2 n b hn
  rw [Blk.live_ren] at hl
  rw [hρ k n e0] at hg
  exact I.mutb k b' e1 hl g hg
 ·obtain ⟨k, b1, e0, e1, e2, rfl⟩ := leMR_ok h2 n b hn
  obtain ⟨k', b2, q0, q1, q2, rfl⟩ := leMR_ok h2 n' b' hn'
  rw [Blk.live_ren] at hl hl'
  rw [hρ k n e0] at hg
  rw [hρ k' n' q0] at hg'
  have := I.dst k k' b1 b2 g e1 q1 hl hl' hg hg'
  subst this
  exact pair_uniq c1 e0 q0
 ·rw [hι', ← I.ik n hn]
  cases hi : invN ps n with
  | none => rfl
  | some k =>
   have hm := invN_at hi
   have := List.all_eq_true.1 c3 _ hm
   simp only [Bool.or_eq_true] at this
   rcases this with h | h
   ·have := Nat.le_of_ble_eq_true h; omega
   ·have e : k = n := Nat.eq_of_beq_eq_true h
    rw [e]
theorem SLe.ownCell {nx0 : Nat} {s : St} (k0 j k size : Nat) (e : TypeId) {cells : List CV} {tg : TypeId} (ht : findL s.mem k0 = some (.obj cells tg)) (hj : cells[j]? = some (.d (.v (.slice none 0 0)))) (hk : findL s.mem k = none) (h1 : (s.tm.all fun p => !p.2.men k) = true) (h2 : (s.mem.all fun p => !p.2.men k) = true) (hn : Nat.ble nx0 k = true) :
  SLe nx0 ⟨s.tm, (k0, .obj (cells.set j (.row k)) tg) :: (k, .row size e []) :: s.mem, k + 1⟩ s := fun E a w he ⟨ι, S, I⟩ => by
 have hn' : E.nx0 ≤ k := by rw [he]; exact Nat.le_of_ble_eq_true hn
 obtain ⟨ι', hι'⟩ : ∃ ι' : Nat → Value, ∀ j, ι' j = if j = k then .slice none 0 0 else ι j := ⟨_, fun _ => rfl⟩
 have hk' : ι' k = .slice none 0 0 := by rw [hι', if_pos rfl]
 have ho : ∀ j, j ≠ k → ι' j = ι j := fun j hj => by rw [hι', if_neg hj]
 have hmt : ∀ t tv, findL s.tm t = some tv → ∀ j, tv.men j = true → ι' j = ι j := fun t tv ht j hj => ho j fun e => by
  subst e
  have := List.all_eq_true.1 h1 _ (findL_mem ht)
  rw [hj] at this; cases this
 have hmm : ∀ n b, findL s.mem n = some b → ∀ j, b.men j = true → ι' j = ι j := fun n b hb j hj => ho j fun e => by
  subst e
  have := List.all_eq_true.1 h2 _ (findL_mem hb)
  rw [hj] at this; cases this
 have hne : ∀ n b, findL s.mem n = some b → n ≠ k := fun n b hb e => by subst e; rw [hk] at hb; cases hb
 have hold : ∀ n b, findL s.mem n = some b → BlkOk ι' S w n b := fun n b hb => by
  have hb0 := I.blk n b hb
  exact BlkOk.mono (fun _ _ => rfl) (fun _ h => h) (fun _ => ho n (hne n b hb)) (hmm n b hb) (fun hl g hg => ⟨rfl, (hb0.own hl hg).1⟩) hb0
 have hcase : ∀ n b, findL ((k0, Blk.obj (cells.set j (.row k)) tg) :: (k, Blk.row size e []) :: s.mem) n = some b → (n = k0 ∧ b = .obj (cells.set j (.row k)) tg) ∨ (n = k ∧ b = .row size e []) ∨ findL s.mem n = some b := fun n b hb => by
  simp only [findL] at hb
  split at hb
  ·rename_i e; cases hb; exact .inl ⟨e.symm, rfl⟩
  ·split at hb
   ·rename_i e; cases hb; exact .inr (.inl ⟨e.symm, rfl⟩)
   ·exact .inr (.inr hb)
 refine ⟨ι', S, I.os, I.tape, I.output, I.size, I.old, I.slt, I.s0, I.sg, fun t' tv ht' => V.mono (fun _ _ => rfl) (fun _ h => h) (hmt t' tv ht') (I.tms t' tv ht'), fun n b hb => ?_, fun n b hb hl g hg => ?_, fun n n' b b' g hb hb' hl hl' hg hg' => ?_, I.dn, I.sz, I.gl, fun j hj => (ho j (by omega)).trans (I.ik j hj)⟩
 ·rcases hcase n b hb with ⟨rfl, rfl⟩ | ⟨rfl, rfl⟩ | hb
  ·obtain ⟨b, arr, ty, e1, e2, e3, e4⟩ := hold _ _ ht
   obtain ⟨u, hu, huv⟩ := e3.at_left hj
   have hun : u = .slice none 0 0 := by have h' : Imm S w _ u := huv; cases h'; rfl
   refine ⟨b, arr, ty, e1, e2, ⟨by simpa using e3.len, fun i a u' ha hu' => ?_⟩, e4⟩
   rw [List.getElem?_set] at ha
   split at ha
   ·rename_i ei
    subst ei
    split at ha
    ·cases ha
     rw [hu] at hu'
     cases hu'
     exact ⟨hun.trans hk'.symm, none, 0, 0, hun⟩
    ·cases ha
   ·exact e3.get i a u' ha hu'
  ·exact nil_row hk'
  ·exact hold n b hb
 ·rcases hcase n b hb with ⟨rfl, rfl⟩ | ⟨rfl, rfl⟩ | hb
  ·rw [ho _ (hne _ _ ht)] at hg; exact I.mutb _ _ ht rfl g hg
  ·rw [hk'] at hg; cases hg
  ·rw [ho n (hne n b hb)] at hg; exact I.mutb n b hb hl g hg
 ·have key : ∀ n b, findL ((k0, Blk.obj (cells.set j (.row k)) tg) :: (k, Blk.row size e []) :: s.mem) n = some b → b.live = true → blkOf (ι' n) = some g → ∃ b', findL s.mem n = some b' ∧ b'.live = true ∧ blkOf (ι n) = some g := fun n b hb hl hg => by
   rcases hcase n b hb with ⟨rfl, rfl⟩ | ⟨rfl, rfl⟩ | hb
   ·exact ⟨_, ht, rfl, by rw [← ho _ (hne _ _ ht)]; exact hg⟩
   ·rw [hk'] at hg; cases hg
   ·exact ⟨b, hb, hl, by rw [← ho n (hne n b hb)]; exact hg⟩
  obtain ⟨c, hc1, hc2, hc3⟩ := key n b hb hl hg
  obtain ⟨c', hc1', hc2', hc3'⟩ := key n' b' hb' hl' hg'
  exact I.dst n n' c c' g hc1 hc1' hc2 hc2' hc3 hc3'
def idxN : List Nat → Nat → Nat
 | [], _ => 0
 | x :: l, k => if x = k then 0 else idxN l k + 1
theorem idxN_at : ∀ {l : List Nat} {k : Nat}, k ∈ l → l[idxN l k]? = some k ∧ idxN l k < l.length
 | [], k, h => by cases h
 | x :: l, k, h => by
  simp only [idxN]
  split
  ·rename_i e; subst e; simp
  ·rename_i e
   have : k ∈ l := by
    rcases List.mem_cons.1 h with h | h
    ·exact absurd h.symm e
    ·exact h
   obtain ⟨h1, h2⟩ := idxN_at this
   exact ⟨by simpa using h1, by simp; omega⟩
def expN (nx : Nat) (src : List Nat) (k : Nat) : Nat := match Nat.blt k nx with
 | true => k
 | false => nx + idxN src k
def expo (st : St) (ns : List Nat) (nx : Nat) : Option (List (Nat × Blk) × List (Nat × Blk) × List Nat) :=
 match subMem (findL st.mem) ns, subMem (findL st.mem) ((reach (findL st.mem) 40 ns []).filter (fun k => Nat.ble nx k)) with
 | some u, some n => some (u, n, (reach (findL st.mem) 40 ns []).filter (fun k => Nat.ble nx k))
 | _, _ => none
def closB (nx : Nat) (src : List Nat) (l : List (Nat × Blk)) : Bool := l.all fun p => (refsB p.2).all fun k => Nat.blt k nx || src.any (Nat.beq k)
def retOkM (L : Nat → Option Lay) (rs : List ResultVar) (ns : List Nat) (nx : Nat) (r : TV) (upd : List (Nat × Blk)) (new : List Blk) (st : St) : Prop :=
 match eatT (findL st.mem) (rs.map (resC L st)), expo st ns nx with
 | some (ys, ks), some (u, n, src) => (nodupB src && disj ks src && (ks.all fun k => Nat.ble nx k) && (src.all fun k => Nat.ble nx k) && closB nx src u && closB nx src n) = true ∧ TLe (retT ys) r ∧ renM (expN nx src) u = upd ∧ (n.map fun p => p.2.ren (expN nx src)) = new
 | _, _ => False
def retOkP (ns : List Nat) (nx : Nat) (upd : List (Nat × Blk)) (new : List Blk) (st : St) : Prop :=
 match expo st ns nx with
 | some (u, n, src) => (nodupB src && disj [] src && (([] : List Nat).all fun k => Nat.ble nx k) && (src.all fun k => Nat.ble nx k) && closB nx src u && closB nx src n) = true ∧ renM (expN nx src) u = upd ∧ (n.map fun p => p.2.ren (expN nx src)) = new
 | none => False
def panIs (r : TV) (ch : List PanicEntry) : Prop := ∃ v, r = .pan v ∧ ch = panE v
def fnQM (L : Nat → Option Lay) (rs : List ResultVar) (ns : List Nat) (nx : Nat) (r : TV) (upd : List (Nat × Blk)) (new : List Blk) : Exit → St → Prop
 | .normal, st | .ret, st => retOkM L rs ns nx r upd new st
 | .panic ch, st => panIs r ch ∧ retOkP ns nx upd new st
 | _, _ => False
theorem men_refs {b : Blk} {k : Nat} (h : b.men k = true) : k ∈ refsB b := by
 cases b with
 | obj l =>
  obtain ⟨x, hx, hm⟩ := List.any_eq_true.1 h
  refine List.mem_filterMap.2 ⟨x, hx, ?_⟩
  cases x <;> simp_all [CV.men]
 | row => cases h
 | map => cases h
 | dead => cases h
theorem results_ok {P : Program} {L : Nat → Option Lay} (hL : LOk P L) {E : Env} {ι : Nat → Value} {S : Nat → Prop} {st : St} {a : Act} {w : World} (I : Inv E ι S (findL st.tm) (findL st.mem) a w) {fn : Func} {ys : List T1} {ks : List Nat}
  (hy : eatT (findL st.mem) (fn.results.toList.map (resC L st)) = some (ys, ks)) : ∃ v, (results fn a.tmps).run P w = .ok v w ∧ (∀ k ∈ ks, ∃ size e rows, findL st.mem k = some (.row size e rows) ∧ BlkOk ι S w k (.row size e rows)) ∧ ∀ ι', V ι' (giveUp ι S ks) w (retT ys) v := by
 have hone : ∀ rv tv, resC L st rv = some tv → ∃ v, (resF a.tmps rv).run P w = .ok v w ∧ V ι S w tv v := fun rv tv hrv => by
  cases rv with
  | tmp t => exact ⟨_, rfl, I.tms t tv hrv⟩
  | cell b t =>
   simp only [resC] at hrv
   split at hrv
   ·rename_i l k off hl hb
    split at hrv
    ·rename_i cells tg hk
     split at hrv
     ·rename_i hle
      obtain ⟨bk, hb1, hb2⟩ := I.tms b _ hb
      obtain ⟨b', arr, ty, h3, h4, h5, _⟩ := I.blk k _ hk
      obtain rfl : bk = b' := by rw [hb1] at h3; cases h3; rfl
      have hlen := h5.len
      have hle' := Nat.le_of_ble_eq_true hle
      have hr := run_load_range (P := P) (layOf_ok (hL _ _ hl)) (w := w) (g := bk) (f := off) (us := (arr.toList.drop off).take l.size) (by simp at hlen ⊢; omega) (fun j u hj => by
       obtain ⟨hj1, _⟩ := drop_take_get hj
       rw [cell_of_row w bk (off + j) arr ty.1 (0, 0) h4]
       simpa using hj1)
      rcases V_ofCells hrv ((h5.drop off).take l.size) with ⟨ha, hV⟩ | ⟨ha, u, hu, hV⟩
      ·exact ⟨_, by simp only [resF, hb2]; simp [asAddr, hr.1 ha], hV⟩
      ·exact ⟨_, by simp only [resF, hb2]; simp [asAddr, hr.2 ha u hu], hV⟩
     ·cases hrv
    ·cases hrv
   ·cases hrv
 have hvals : ∀ (l : List ResultVar) (ys : List T1) (ks : List Nat), eatT (findL st.mem) (l.map (resC L st)) = some (ys, ks) → ∃ vs, All2 (fun rv v => (resF a.tmps rv).run P w = .ok v w) l vs ∧ All2 (fun (a : Option TV) u => ∀ tv, a = some tv → V ι S w tv u) (l.map (resC L st)) vs := fun l => by
  induction l with
  | nil => intro ys ks _; exact ⟨[], .nil, .nil⟩
  | cons rv l ih =>
   intro ys ks h
   simp only [List.map_cons] at h
   cases hrv : resC L st rv with
   | none => rw [hrv] at h; simp [eatT] at h
   | some tv =>
    rw [hrv] at h
    cases tv with
    | no => simp [eatT] at h
    | und => simp [eatT] at h
    | tup l => simp [eatT] at h
    | pan v => simp [eatT] at h
    | o x =>
     simp only [eatT] at h
     split at h
     ·rename_i y k1 ys' k2 h1 h2
      obtain ⟨vs, g1, g2⟩ := ih ys' k2 h2
      obtain ⟨v, e1, e2⟩ := hone rv _ hrv
      refine ⟨v :: vs, .cons e1 g1, ?_⟩
      simp only [List.map_cons]
      refine .cons (fun tv htv => ?_) g2
      rw [hrv] at htv; cases htv
      exact e2
     ·cases h
 obtain ⟨vs, g1, g2⟩ := hvals _ ys ks hy
 have hrows : ∀ k ∈ ks, ∃ size e rows, findL st.mem k = some (.row size e rows) ∧ BlkOk ι S w k (.row size e rows) := fun k hk => by
  obtain ⟨size, e, rows, hm⟩ := eatT_rows hy k hk
  exact ⟨size, e, rows, hm, I.blk k _ hm⟩
 have hres : (results fn a.tmps).run P w = .ok (if h : vs.toArray.size = 1 then vs.toArray[0] else .tuple vs.toArray) w := by
  have h1 := mapM_run _ _ _ g1
  rw [results_F, Sem.run_bind, Array.mapM_eq_mapM_toList, run_map, h1]
  rfl
 refine ⟨_, hres, hrows, fun ι' => ?_⟩
 have hall := eatT_ok (ι' := ι') (S' := giveUp ι S ks) (fun b hb => .inl hb) hy g2 (fun k hk b hb => I.blk k b hb) (fun k hk g hg => .inr ⟨k, hk, hg⟩)
 match ys, vs, hall with
 | [y], vs, hall =>
  obtain ⟨v, rfl, hv⟩ := hall.one_left
  exact hv
 | [], vs, hall =>
  obtain rfl := hall.nil_left
  exact ⟨[], rfl, .nil⟩
 | y :: z :: ys, vs, hall =>
  have : ¬ vs.toArray.size = 1 := by have := hall.len; simp at this ⊢; omega
  rw [dif_neg this]
  exact ⟨vs, rfl, hall⟩
theorem core_after {C : Ctx} {m : List (Nat × Blk)} {upd : List (Nat × Blk)} {new : List Blk} {ι : Nat → Value} {S : Nat → Prop} {w w' : World} {st : St} {a : Act} {dd : List Deferred} {en : Nat} (hmlt : ∀ p ∈ m, p.1 < C.nx0) : ∀ (ι1 : Nat → Value) (S1 : Nat → Prop) (tv : TV) (x : Value) (ks : List Nat) (u n : List (Nat × Blk)) (src : List Nat), Inv ⟨w, fun g => ∃ p ∈ m, p.2.live = true ∧ blkOf (ι p.1) = some g, S, en, C.Γ, ι, C.nx0, dd⟩ ι1 S1 (findL st.tm) (findL st.mem) a w' →
   expo st (m.map (·.1)) C.nx0 = some (u, n, src) → (nodupB src && disj ks src && (ks.all fun k => Nat.ble C.nx0 k) && (src.all fun k => Nat.ble C.nx0 k) && closB C.nx0 src u && closB C.nx0 src n) = true → renM (expN C.nx0 src) u = upd → (n.map fun p => p.2.ren (expN C.nx0 src)) = new →
   (∀ k ∈ ks, ∃ size e rows, findL st.mem k = some (.row size e rows) ∧ BlkOk ι1 S1 w' k (.row size e rows)) → (∀ ι', V ι' (giveUp ι1 S1 ks) w' tv x) → ∃ ι' S', After ι S w C.nx0 ⟨tv, m.map (·.1), upd, new⟩ x ι' S' w' := fun ι1 S1 tv x ks u n src I hex hchk hu hnw hrows hval => by
   simp only [Bool.and_eq_true] at hchk
   obtain ⟨⟨⟨⟨⟨c1, c2⟩, c3⟩, c4⟩, c5⟩, c6⟩ := hchk
   obtain ⟨hu0, hn0⟩ : subMem (findL st.mem) (m.map (·.1)) = some u ∧ subMem (findL st.mem) src = some n := by
    unfold expo at hex
    split at hex
    ·rename_i h1 h2; cases hex; exact ⟨h1, h2⟩
    ·cases hex
   obtain ⟨u1, u2⟩ := subMem_ok hu0
   obtain ⟨n1, n2⟩ := subMem_ok hn0
   have hks : ∀ k ∈ ks, C.nx0 ≤ k := fun k hk => Nat.le_of_ble_eq_true (List.all_eq_true.1 c3 k hk)
   have hsrc : ∀ k ∈ src, C.nx0 ≤ k := fun k hk => Nat.le_of_ble_eq_true (List.all_eq_true.1 c4 k hk)
   have hult : ∀ p ∈ u, p.1 < C.nx0 := fun p hp => by
    have : p.1 ∈ m.map (·.1) := by rw [← u1]; exact List.mem_map.2 ⟨p, hp, rfl⟩
    obtain ⟨q, hq, he⟩ := List.mem_map.1 this
    rw [← he]; exact hmlt q hq
   have hexp : ∀ k, k < C.nx0 → expN C.nx0 src k = k := fun k hk => by
    unfold expN
    have : Nat.blt k C.nx0 = true := by simpa [Nat.blt_eq] using hk
    rw [this]
   have hexs : ∀ k, C.nx0 ≤ k → expN C.nx0 src k = C.nx0 + idxN src k := fun k hk => by
    unfold expN
    have : Nat.blt k C.nx0 = false := by
     cases hb : Nat.blt k C.nx0 with
     | false => rfl
     | true => rw [Nat.blt_eq] at hb; omega
    rw [this]
   have hnl : new.length = src.length := by rw [← hnw, List.length_map, ← n1, List.length_map]
   obtain ⟨ι', hι'⟩ : ∃ ι' : Nat → Value, ∀ k, ι' k = if C.nx0 ≤ k ∧ k < C.nx0 + new.length then ι1 (src.getD (k - C.nx0) 0) else ι k := ⟨_, fun _ => rfl⟩
   have hlow : ∀ k, k < C.nx0 → ι' k = ι1 k := fun k hk => by rw [hι', if_neg (by omega), I.ik k hk]
   have hρ : ∀ k, (k < C.nx0 ∨ k ∈ src) → ι' (expN C.nx0 src k) = ι1 k := fun k hk => by
    by_cases hlt : k < C.nx0
    ·rw [hexp k hlt]; exact hlow k hlt
    ·have hks : k ∈ src := by rcases hk with h | h; exact absurd h hlt; exact h
     obtain ⟨i1, i2⟩ := idxN_at hks
     rw [hexs k (by omega), hι', if_pos (by omega), show C.nx0 + idxN src k - C.nx0 = idxN src k by omega]
     simp [List.getD, i1]
   have hclos : ∀ {l : List (Nat × Blk)}, closB C.nx0 src l = true → ∀ p ∈ l, ∀ k, p.2.men k = true → k < C.nx0 ∨ k ∈ src := fun {l} hl p hp k hk => by
    have := List.all_eq_true.1 (List.all_eq_true.1 hl p hp) k (men_refs hk)
    rcases (by simpa only [Bool.or_eq_true] using this : _ ∨ _) with h | h
    ·left; rw [Nat.blt_eq] at h; exact h
    ·right
     obtain ⟨k', hk', e⟩ := List.any_eq_true.1 h
     rw [Nat.eq_of_beq_eq_true e]; exact hk'
   have hI := I
   -- a block of what the caller handed in belongs to a name that has been given up, if it isn't that name's own any more
   have hM : ∀ g, (∃ p ∈ m, p.2.live = true ∧ blkOf (ι p.1) = some g) → (∃ k, (k, Blk.dead) ∈ upd ∧ blkOf (ι k) = some g) ∨ ∃ p ∈ u, p.2.live = true ∧ blkOf (ι1 p.1) = some g := fun g ⟨p, hp, hl, hg⟩ => by
    obtain ⟨q, hq, he⟩ : ∃ q ∈ u, q.1 = p.1 := by
     have : p.1 ∈ u.map (·.1) := by rw [u1]; exact List.mem_map.2 ⟨p, hp, rfl⟩
     obtain ⟨q, hq, he⟩ := List.mem_map.1 this
     exact ⟨q, hq, he⟩
    cases hql : q.2.live with
    | true => exact .inr ⟨q, hq, hql, by rw [I.ik q.1 (hult q hq), he]; exact hg⟩
    | false =>
     refine .inl ⟨q.1, ?_, by rw [he]; exact hg⟩
     rw [← hu]
     refine List.mem_map.2 ⟨q, hq, ?_⟩
     rw [hexp q.1 (hult q hq)]
     have : q.2 = .dead := by cases hb : q.2 <;> simp_all [Blk.live]
     rw [this]; rfl
   have hnoS : ∀ p : Nat × Blk, findL st.mem p.1 = some p.2 → p.2.live = true → (p.1 < C.nx0 ∨ p.1 ∈ src) → ∀ g, blkOf (ι1 p.1) = some g → ¬ giveUp ι1 S1 ks g := fun p hp hl hpk g hg hgu => by
    rcases hgu with h | ⟨k, hk, h⟩
    ·exact ((I.blk p.1 p.2 hp).own hl hg).1 h
    ·obtain ⟨size, e, rows, hmk, _⟩ := hrows k hk
     have := I.dst p.1 k p.2 _ g hp hmk hl rfl hg h
     rcases hpk with hpk | hpk
     ·have := hks k hk; omega
     ·rw [this] at hpk
      exact disj_spec c2 hk hpk
   have hok : ∀ {l : List (Nat × Blk)}, (∀ p ∈ l, findL st.mem p.1 = some p.2) → closB C.nx0 src l = true → (∀ p ∈ l, p.1 < C.nx0 ∨ p.1 ∈ src) → ∀ p ∈ l, BlkOk ι' (giveUp ι1 S1 ks) w' (expN C.nx0 src p.1) (p.2.ren (expN C.nx0 src)) := fun {l} h1 h2 h3 p hp => by
    refine BlkOk_to (ι := ι1) (fun _ => hρ _ (h3 p hp)) (fun k hk => hρ k (hclos h2 p hp k hk)) ?_
    exact BlkOk.mono (fun _ _ => rfl) (fun b hb => .inl hb) (fun _ => rfl) (fun _ _ => rfl) (fun hl g hg => ⟨rfl, hnoS p (h1 p hp) hl (h3 p hp) g hg⟩) (I.blk p.1 p.2 (h1 p hp))
   have hsn : ∀ p ∈ n, p.1 ∈ src := fun p hp => by rw [← n1]; exact List.mem_map.2 ⟨p, hp, rfl⟩
   have hnew : ∀ i b, new[i]? = some b → ∃ p, n[i]? = some p ∧ p ∈ n ∧ src[i]? = some p.1 ∧ b = p.2.ren (expN C.nx0 src) ∧ ι' (C.nx0 + i) = ι1 p.1 := fun i b hb => by
    rw [← hnw, List.getElem?_map] at hb
    obtain ⟨p, hp, rfl⟩ := Option.map_eq_some_iff.1 hb
    have hsi : src[i]? = some p.1 := by rw [← n1, List.getElem?_map, hp]; rfl
    have hlt := (List.getElem?_eq_some_iff.1 hsi).1
    refine ⟨p, hp, List.mem_of_getElem? hp, hsi, rfl, ?_⟩
    rw [hι', if_pos (by omega), show C.nx0 + i - C.nx0 = i by omega]
    simp [List.getD, hsi]
   have hMg : ∀ (g : Nat) (p : Nat × Blk), findL st.mem p.1 = some p.2 → p.2.live = true → p.1 ∈ src → blkOf (ι1 p.1) = some g → (∃ q ∈ m, q.2.live = true ∧ blkOf (ι q.1) = some g) → ∃ k, (k, Blk.dead) ∈ upd ∧ blkOf (ι k) = some g := fun g p hp hl hps hg hMM => by
    rcases hM g hMM with h | ⟨q, hq, hql, hqg⟩
    ·exact h
    ·have := I.dst p.1 q.1 p.2 q.2 g hp (u2 q hq) hl hql hg hqg
     have h1 := hsrc _ hps
     have h2 := hult q hq
     omega
   refine ⟨ι', giveUp ι1 S1 ks, hval ι', fun k hk => (hι' k).trans (if_neg (by simp only at hk; omega)), fun b hb => .inl (I.s0 b hb), fun b hb => ?_, fun b hb => ?_, I.os, I.tape, I.output, I.size, fun b hb hne => I.old b hb fun ⟨p, hp, _, hg⟩ => ?_, fun k b hk => ?_, fun i b hb => ?_, fun i b hb hl g hg => ?_, fun i j b b' g hb hb' hl hl' hg hg' => ?_⟩
   ·have fin : (∃ p ∈ m, p.2.live = true ∧ blkOf (ι p.1) = some b) → (∀ p ∈ u, p.2.live = true → blkOf (ι1 p.1) = some b → False) → S b ∨ w.heap.size ≤ b ∨ ∃ k, (k, Blk.dead) ∈ upd ∧ blkOf (ι k) = some b := fun hMM hno => by
     rcases hM b hMM with h | ⟨p, hp, hl, hg⟩
     ·exact .inr (.inr h)
     ·exact (hno p hp hl hg).elim
    rcases hb with hb | ⟨k, hk, hb⟩
    ·rcases I.sg b hb with h | h | h
     ·exact .inl h
     ·exact .inr (.inl h)
     ·exact fin h fun p hp hl hg => ((I.blk p.1 p.2 (u2 p hp)).own hl hg).1 hb
    ·obtain ⟨size, e, rows, hmk, _⟩ := hrows k hk
     rcases I.mutb k _ hmk rfl b hb with h | h
     ·exact fin h fun p hp hl hg => by
       have h1 := I.dst p.1 k p.2 _ b (u2 p hp) hmk hl rfl hg hb
       have h2 := hks k hk
       have h3 := hult p hp
       omega
     ·exact .inr (.inl h)
   ·rcases hb with hb | ⟨k, hk, hb⟩
    ·exact I.slt b hb
    ·obtain ⟨size, e, rows, _, hr⟩ := hrows k hk
     exact (row_lt hr b hb).1
   ·refine hne p.1 ?_ hg
    rw [← hu]
    have : p.1 ∈ u.map (·.1) := by rw [u1]; exact List.mem_map.2 ⟨p, hp, rfl⟩
    obtain ⟨q, hq, he⟩ := List.mem_map.1 this
    refine List.mem_map.2 ⟨_, List.mem_map.2 ⟨q, hq, rfl⟩, ?_⟩
    simp only
    rw [hexp q.1 (hult q hq)]
    exact he
   ·rw [← hu] at hk
    obtain ⟨p, hp, he⟩ := List.mem_map.1 hk
    cases he
    exact hok u2 c5 (fun p hp => .inl (hult p hp)) p hp
   ·obtain ⟨p, h1, h2, h3, rfl, h5⟩ := hnew i b hb
    have := hok n2 c6 (fun p hp => .inr (hsn p hp)) p h2
    have hidx : expN C.nx0 src p.1 = C.nx0 + i := by
     rw [hexs _ (hsrc _ (hsn p h2))]
     obtain ⟨i1, i2⟩ := idxN_at (hsn p h2)
     rw [nodupB_at c1 _ _ _ i1 h3]
    rwa [hidx] at this
   ·obtain ⟨p, h1, h2, h3, rfl, h5⟩ := hnew i b hb
    rw [Blk.live_ren] at hl
    rw [h5] at hg
    have hp := n2 p h2
    refine ⟨fun hS => ((I.blk p.1 p.2 hp).own hl hg).1 (I.s0 g hS), ?_⟩
    rcases I.mutb p.1 p.2 hp hl g hg with h | h
    ·exact .inr (hMg g p hp hl (hsn p h2) hg h)
    ·exact .inl h
   ·obtain ⟨p, h1, h2, h3, rfl, h5⟩ := hnew i b hb
    obtain ⟨q, q1, q2, q3, rfl, q5⟩ := hnew j b' hb'
    rw [Blk.live_ren] at hl hl'
    rw [h5] at hg
    rw [q5] at hg'
    have := I.dst p.1 q.1 p.2 q.2 g (n2 p h2) (n2 q q2) hl hl' hg hg'
    rw [← this] at q3
    exact nodupB_at c1 _ _ _ h3 q3
theorem fn_ruleM {C : Ctx} {f : FuncId} {fn : Func} {c : Code} (hL : LOk C.P C.L) (hm : C.P.follows .mixedOrders = true) (hf : C.P.funcs[f]? = some fn) (hb : fn.body = some c) (hname : (fn.name == "runtime.NumGoroutine") = false)
  (hn : fn.ntmps = C.n) {xs : List T1} (hx : Nat.ble xs.length C.n = true) {m : List (Nat × Blk)} (hml : (m.all fun p => Nat.blt p.1 C.nx0) = true) {r : TV} {upd : List (Nat × Blk)} {new : List Blk}
  (h : vc C c ⟨argTm 0 xs, m, C.nx0⟩ (fnQM C.L fn.results.toList (m.map (·.1)) C.nx0 r upd new)) : CallsM C.P C.Γ f m C.nx0 xs r upd new := by
 refine ⟨⟨fn, hf, hname, by rw [hb]; rfl⟩, fun ι S w vs hS hG hblk hdst hvs => ?_⟩
 have hxl := Nat.le_of_ble_eq_true hx
 have hlen := hvs.len
 have hmlt : ∀ p ∈ m, p.1 < C.nx0 := fun p hp => Nat.lt_of_succ_le (Nat.le_of_ble_eq_true (List.all_eq_true.1 hml p hp))
 refine calls_of_wp hf hb ?_
 have hR : RS ⟨w, fun g => ∃ p ∈ m, p.2.live = true ∧ blkOf (ι p.1) = some g, S, C.n, C.Γ, ι, C.nx0, []⟩ ⟨argTm 0 xs, m, C.nx0⟩ { tmps := vs.toArray ++ Array.replicate (fn.ntmps - vs.toArray.size) undef, defers := [] } w := by
  refine ⟨ι, S, rfl, rfl, rfl, Nat.le_refl _, fun _ _ _ => rfl, hS, fun _ h => h, fun _ h => .inl h, fun t tv ht => ?_, fun k b hk => hblk _ (findL_mem hk), fun k b hk hl g hg => .inl ⟨(k, b), findL_mem hk, hl, hg⟩, fun k k' b b' g hk hk' hl hl' hg hg' => hdst _ (findL_mem hk) _ (findL_mem hk') g hl hl' hg hg', rfl, ?_, hG, fun _ _ => rfl⟩
  ·obtain ⟨x, rfl, _, hx⟩ := argTm_find xs 0 t tv ht
   rw [Nat.sub_zero] at hx
   obtain ⟨u, hu, hv⟩ := hvs.at_left hx
   have hlt := (List.getElem?_eq_some_iff.1 hu).1
   have : (vs.toArray ++ Array.replicate (fn.ntmps - vs.toArray.size) undef).getD t undef = u := by
    simp [Array.getElem?_append, hlt, hu]
    have h2 := (List.getElem?_eq_some_iff.1 hu).2
    exact h2
   show V ι S w (.o x) _
   dsimp only
   rw [this]
   exact hv
  ·simp; omega
 refine Code.wp_mono (fun e a w' hq => ?_) (vc_ok hL ⟨rfl, rfl, rfl⟩ hm c _ _ _ w h hR)
 obtain ⟨st, hR', hq⟩ := hq
 have core := core_after (C := C) (m := m) (upd := upd) (new := new) (ι := ι) (S := S) (w := w) (w' := w') (st := st) (a := a) (dd := []) (en := C.n) hmlt
 have key : retOkM C.L fn.results.toList (m.map (·.1)) C.nx0 r upd new st → a.defers = [] ∧ ∃ v, (results fn a.tmps).run C.P w' = .ok v w' ∧ ((∃ x ι' S', Ending.returned v = .returned x ∧ After ι S w C.nx0 ⟨r, m.map (·.1), upd, new⟩ x ι' S' w') ∨ ∃ v0 ι' S', r = .pan v0 ∧ Ending.returned v = .panicked (panE v0) ∧ After ι S w C.nx0 ⟨.und, m.map (·.1), upd, new⟩ undef ι' S' w') := fun hret => by
  obtain ⟨ι1, S1, I⟩ := hR'
  unfold retOkM at hret
  split at hret
  ·rename_i ys ks u n src hy hex
   obtain ⟨hchk, hr, hu, hnw⟩ := hret
   obtain ⟨v, hres, hrows, hval⟩ := results_ok hL I hy
   obtain ⟨ι', S', A⟩ := core ι1 S1 r v ks u n src I hex hchk hu hnw hrows (fun ι' => hr _ _ _ _ (hval ι'))
   exact ⟨I.dn, v, hres, .inl ⟨v, ι', S', rfl, A⟩⟩
  ·exact hret.elim
 cases e with
 | normal => exact key hq
 | ret => exact key hq
 | panic ch =>
  obtain ⟨⟨v0, hr0, rfl⟩, hret⟩ := hq
  obtain ⟨ι1, S1, I⟩ := hR'
  unfold retOkP at hret
  split at hret
  ·rename_i u n src hex
   obtain ⟨hchk, hu, hnw⟩ := hret
   obtain ⟨ι', S', A⟩ := core ι1 S1 .und undef [] u n src I hex hchk hu hnw (by simp) (fun _ => rfl)
   exact ⟨I.dn, .inr ⟨v0, ι', S', hr0, rfl, A⟩⟩
  ·exact hret.elim
 | _ => exact hq.elim
end Go.Proofs.YtidnlfkakhmadaaGreatDoor
