/- The walk of code over the abstract state: operations one behind the other, calls, branches, loops. No condition. -/
import Derived.Test.YtkeehnhamkdogaaDoorE7d
import Derived.Deep.LoopGhost
namespace Go.Proofs.YtkeehnhamkdogaaDoor
set_option linter.unusedVariables false
set_option linter.unusedSimpArgs false
open Go.RowKit

/-! ### Calls -/
def ι0 : Nat → Value := fun _ => undef
def Callable (P : Program) (f : FuncId) : Prop := ∃ fn, P.funcs[f]? = some fn ∧ (fn.name == "runtime.NumGoroutine") = false ∧ fn.body.isNone = false
/-- A call of a function of data: its result; it only makes memory. -/
def CallsA (P : Program) (Γ : Glob) (f : FuncId) (xs : List T1) (r : TV) : Prop :=
  Callable P f ∧ ∀ (S : Nat → Prop) (w : World) (vs : List Value), (∀ b, S b → b < w.heap.size) → Γ.G S w → All2 (V1 ι0 S w) xs vs →
    Calls P f vs.toArray w fun e w' => ∃ x S', e = .returned x ∧ Below w.heap.size w w' ∧ (∀ b, S b → S' b) ∧ (∀ b, S' b → S b ∨ w.heap.size ≤ b) ∧ (∀ b, S' b → b < w'.heap.size) ∧ V ι0 S' w' r x
def CV.pure : CV → Bool | .d _ | .eptr _ => true | _ => false
def T1.pure : T1 → Bool | .c x => x.pure | .g l => l.all CV.pure
def TV.pure : TV → Bool | .no | .und => true | .o x => x.pure | .tup l => l.all T1.pure | .pan _ => false
theorem CV.pure_men {x : CV} (h : x.pure = true) (n : Nat) : x.men n = false := by cases x <;> simp_all [CV.pure, CV.men]
theorem T1.pure_men {x : T1} (h : x.pure = true) (n : Nat) : x.men n = false := by
  cases x with
  | c x => exact CV.pure_men h n
  | g l =>
    simp only [T1.men, List.any_eq_false]
    intro x hx
    rw [CV.pure_men (List.all_eq_true.1 h x hx) n]
    simp
theorem TV.pure_men {x : TV} (h : x.pure = true) (n : Nat) : x.men n = false := by
  cases x with
  | no => rfl
  | und => rfl
  | o x => exact T1.pure_men h n
  | tup l =>
    simp only [TV.men, List.any_eq_false]
    intro x hx
    rw [T1.pure_men (List.all_eq_true.1 h x hx) n]
    simp
  | pan v => rfl
section
variable {P : Program} {Γ : Glob} {L : Nat → Option Lay} {o : Oper} {ev : Operand → Option TV} {mem : Nat → Option Blk} {nx : Nat} {K : Res → Prop}

def eat1 (mem : Nat → Option Blk) : T1 → Option (T1 × List Nat)
  | .c x => match eat mem [x] with
    | some ([d], ks) => some (.c (.d d), ks)
    | _ => none
  | .g l => match eat mem l with
    | some (ds, ks) => some (.g (ds.map .d), ks)
    | none => none
def eatT (mem : Nat → Option Blk) : List (Option TV) → Option (List T1 × List Nat)
  | [] => some ([], [])
  | some (.o x) :: l => match eat1 mem x, eatT mem l with
    | some (y, k1), some (ys, k2) => some (y :: ys, k1 ++ k2)
    | _, _ => none
  | _ :: _ => none
theorem eat1_ok {ι ι' : Nat → Value} {S S' : Nat → Prop} {w : World} (hS : ∀ b, S b → S' b) {x y : T1} {ks : List Nat} {u : Value} (h : eat1 mem x = some (y, ks)) (hv : V1 ι S w x u)
    (hb : ∀ k ∈ ks, ∀ b, mem k = some b → BlkOk ι S w k b) (hs : ∀ k ∈ ks, ∀ g, blkOf (ι k) = some g → S' g) : V1 ι' S' w y u := by
  cases x with
  | c x =>
    simp only [eat1] at h
    split at h
    · rename_i d ks' he
      simp only [Option.some.injEq, Prod.mk.injEq] at h
      obtain ⟨rfl, rfl⟩ := h
      have hv' : VC ι S w x u := hv
      exact (eat_ok hS he (.cons hv' .nil) hb hs).head
    · cases h
  | g l =>
    simp only [eat1] at h
    split at h
    · rename_i ds ks' he
      simp only [Option.some.injEq, Prod.mk.injEq] at h
      obtain ⟨rfl, rfl⟩ := h
      obtain ⟨us, hu, hall⟩ := hv
      exact ⟨us, hu, All2.map_left ((eat_ok hS he hall hb hs).mono fun _ _ h => h)⟩
    · cases h
theorem eat1_rows {x y : T1} {ks : List Nat} (h : eat1 mem x = some (y, ks)) : ∀ k ∈ ks, ∃ size e rows, mem k = some (.row size e rows) := by
  cases x with
  | c x =>
    simp only [eat1] at h
    split at h
    · rename_i d ks' he
      simp only [Option.some.injEq, Prod.mk.injEq] at h
      obtain ⟨rfl, rfl⟩ := h
      exact eat_rows he
    · cases h
  | g l =>
    simp only [eat1] at h
    split at h
    · rename_i ds ks' he
      simp only [Option.some.injEq, Prod.mk.injEq] at h
      obtain ⟨rfl, rfl⟩ := h
      exact eat_rows he
    · cases h
theorem eatT_ok {ι ι' : Nat → Value} {S S' : Nat → Prop} {w : World} (hS : ∀ b, S b → S' b) : ∀ {l : List (Option TV)} {ys : List T1} {ks : List Nat} {us : List Value}, eatT mem l = some (ys, ks) → All2 (fun (a : Option TV) u => ∀ tv, a = some tv → V ι S w tv u) l us →
    (∀ k ∈ ks, ∀ b, mem k = some b → BlkOk ι S w k b) → (∀ k ∈ ks, ∀ g, blkOf (ι k) = some g → S' g) → All2 (V1 ι' S' w) ys us
  | [], ys, ks, us, h, ha, _, _ => by
    simp only [eatT, Option.some.injEq, Prod.mk.injEq] at h
    obtain ⟨rfl, rfl⟩ := h
    obtain rfl := ha.nil_left
    exact .nil
  | some (.o x) :: l, ys, ks, us, h, ha, hb, hs => by
    simp only [eatT] at h
    split at h
    · rename_i y k1 ys' k2 h1 h2
      simp only [Option.some.injEq, Prod.mk.injEq] at h
      obtain ⟨rfl, rfl⟩ := h
      obtain ⟨u, us', rfl, h3, h4⟩ := ha.cons_left
      exact .cons (eat1_ok hS h1 (h3 _ rfl) (fun k hk => hb k (by simp [hk])) (fun k hk => hs k (by simp [hk]))) (eatT_ok hS h2 h4 (fun k hk => hb k (by simp [hk])) (fun k hk => hs k (by simp [hk])))
    · cases h
  | none :: _, _, _, _, h, _, _, _ => by simp [eatT] at h
  | some .no :: _, _, _, _, h, _, _, _ => by simp [eatT] at h
  | some .und :: _, _, _, _, h, _, _, _ => by simp [eatT] at h
  | some (.tup _) :: _, _, _, _, h, _, _, _ => by simp [eatT] at h
  | some (.pan _) :: _, _, _, _, h, _, _, _ => by simp [eatT] at h
theorem eatT_rows : ∀ {l : List (Option TV)} {ys : List T1} {ks : List Nat}, eatT mem l = some (ys, ks) → ∀ k ∈ ks, ∃ size e rows, mem k = some (.row size e rows)
  | [], ys, ks, h, k, hk => by
    simp only [eatT, Option.some.injEq, Prod.mk.injEq] at h
    obtain ⟨rfl, rfl⟩ := h
    simp at hk
  | some (.o x) :: l, ys, ks, h, k, hk => by
    simp only [eatT] at h
    split at h
    · rename_i y k1 ys' k2 h1 h2
      simp only [Option.some.injEq, Prod.mk.injEq] at h
      obtain ⟨rfl, rfl⟩ := h
      rcases List.mem_append.1 hk with hk | hk
      · exact eat1_rows h1 k hk
      · exact eatT_rows h2 k hk
    · cases h
  | none :: _, _, _, h, _, _ => by simp [eatT] at h
  | some .no :: _, _, _, h, _, _ => by simp [eatT] at h
  | some .und :: _, _, _, h, _, _ => by simp [eatT] at h
  | some (.tup _) :: _, _, _, h, _, _ => by simp [eatT] at h
  | some (.pan _) :: _, _, _, h, _, _ => by simp [eatT] at h
def exCall (P : Program) (Γ : Glob) (ev : Operand → Option TV) (mem : Nat → Option Blk) (f : FuncId) (args : List Operand) (K : Res → Prop) : Prop :=
  match eatT mem (args.map ev) with
  | some (xs, ks) => ∃ r, CallsA P Γ f xs r ∧ (match r.pure with
    | true => K ⟨r, ks, dead ks, []⟩
    | false => False)
  | none => False
theorem exCall_ok {f : FuncId} {c : Call} (ho : o.op = .call c) (hc : c.callee = .value (.func f)) (h : exCall P Γ ev mem f c.args.toList K) : ∃ r, Spec P Γ o ev mem nx r ∧ K r := by
  unfold exCall at h
  split at h
  · rename_i xs ks he
    obtain ⟨r, ⟨⟨fn, hfn, hname, hbody⟩, hcall⟩, h⟩ := h
    split at h
    · rename_i hp
      refine ⟨_, fun Q next ι S A w hs hG _ q1 q2 hK _ => ?_, h⟩
      have hargs : All2 (fun (a : Option TV) u => ∀ tv, a = some tv → V ι S w tv u) (c.args.toList.map ev) (c.args.map A.eval).toList := by
        rw [Array.toList_map]
        refine All2.map_left ⟨by simp, fun i a b ha hb => ?_⟩
        rw [List.getElem?_map, ha] at hb
        cases hb
        intro tv htv
        exact q1 a (by simp only [ho, Op.operands, Call.operands]; exact Array.mem_append_right _ (Array.mem_toList_iff.1 (List.mem_of_getElem? ha))) tv htv
      have hrows : ∀ k ∈ ks, ∃ size e rows, BlkOk ι S w k (.row size e rows) := fun k hk => by
        obtain ⟨size, e, rows, hm⟩ := eatT_rows he k hk
        exact ⟨size, e, rows, q2 k hk _ hm⟩
      have hS1 : ∀ b, giveUp ι S ks b → b < w.heap.size := fun b hb => by
        rcases hb with hb | ⟨k, hk, hb⟩
        · exact hs b hb
        · obtain ⟨size, e, rows, hr⟩ := hrows k hk
          exact (row_lt hr b hb).1
      have hall := eatT_ok (ι' := ι0) (S' := giveUp ι S ks) (fun b hb => .inl hb) he hargs (fun k hk b hb => q2 k hk b hb) (fun k hk g hg => .inr ⟨k, hk, hg⟩)
      have hC := hcall (giveUp ι S ks) w _ hS1 (Γ.mono (fun _ _ => rfl) (fun b hb => .inl hb) hG) hall
      unfold Oper.wp
      have hrun : (execOp A.eval ‹Oper›).run P w = .ok (.enter f (c.args.map A.eval).toList.toArray) w := by
        have hb : fn.body.isNone = false := hbody
        have hn : (fn.name == "runtime.NumGoroutine") = false := hname
        simp only [execOp, ho, resolve, hc, Act.eval, Deferred.ofValue, invoke, callFunc, Sem.run_bind, Sem.run_pure, Result.andThen_ok]
        have hn' : ¬ fn.name = "runtime.NumGoroutine" := by simpa using hn
        have hb' : ¬ fn.body = none := by intro e; simp [e] at hb
        simp [program, Sem.run, hfn, hn', hb']
        apply Array.ext'
        simp
      rw [hrun, Oper.upon_enter]
      refine hC.mono fun e w' ⟨x, S', hx, hb, hm, hg, hlt, hv⟩ => ?_
      subst hx
      refine hK x ι S' w' ⟨V.mono (fun _ _ => rfl) (fun _ h => h) (fun k hk => by rw [TV.pure_men hp k] at hk; cases hk) hv, fun _ _ => rfl, fun b hb => hm b (.inl hb), fun b hb => ?_, hlt, hb.os, hb.tape, hb.output, hb.size, fun b hb' _ => hb.block b hb', fun k b hk => ?_, (fun _ _ h => by simp at h), (fun _ _ h => by simp at h), (fun _ _ _ _ _ h => by simp at h)⟩
      · rcases hg b hb with (h | ⟨k, hk, h⟩) | h
        · exact .inl h
        · exact .inr (.inr ⟨k, List.mem_map.2 ⟨k, hk, rfl⟩, h⟩)
        · exact .inr (.inl h)
      · obtain ⟨k', _, he⟩ := List.mem_map.1 hk
        cases he
        trivial
    · exact h.elim
  · exact h.elim

/-! ### Calls with objects -/
def disj (a b : List Nat) : Bool := a.all fun x => !(b.any fun y => Nat.beq x y)
theorem disj_spec {a b : List Nat} (h : disj a b = true) {k : Nat} (ha : k ∈ a) (hb : k ∈ b) : False := by
  have := List.all_eq_true.1 h k ha
  have h2 : (b.any fun y => Nat.beq k y) = true := List.any_eq_true.2 ⟨k, hb, by simp⟩
  rw [h2] at this
  cases this
/-- A call with pointers to objects: what it owns on entry (mem), its result, what becomes of the names, what is new. -/
def CallsM (P : Program) (Γ : Glob) (f : FuncId) (m : List (Nat × Blk)) (nx : Nat) (xs : List T1) (r : TV) (upd : List (Nat × Blk)) (new : List Blk) : Prop :=
  Callable P f ∧ ∀ (ι : Nat → Value) (S : Nat → Prop) (w : World) (vs : List Value), (∀ b, S b → b < w.heap.size) → Γ.G S w → (∀ p ∈ m, BlkOk ι S w p.1 p.2) →
    (∀ p ∈ m, ∀ q ∈ m, ∀ g, p.2.live = true → q.2.live = true → blkOf (ι p.1) = some g → blkOf (ι q.1) = some g → p.1 = q.1) → All2 (V1 ι S w) xs vs →
    Calls P f vs.toArray w fun e w' => (∃ x ι' S', e = .returned x ∧ After ι S w nx ⟨r, m.map (·.1), upd, new⟩ x ι' S' w') ∨ ∃ v ι' S', r = .pan v ∧ e = .panicked (panE v) ∧ After ι S w nx ⟨.und, m.map (·.1), upd, new⟩ undef ι' S' w'
/-- Arguments: pointers to objects stay, rows among data are given up. -/
def eatP (mem : Nat → Option Blk) : List CV → Option (List CV × List Nat)
  | [] => some ([], [])
  | .d x :: l => (eatP mem l).map fun p => (.d x :: p.1, p.2)
  | .ptr k o :: l => (eatP mem l).map fun p => (.ptr k o :: p.1, p.2)
  | .row k :: l => match mem k, eatP mem l with
    | some (.row size _ rows), some p => some (.d (.sl size rows) :: p.1, k :: p.2)
    | _, _ => none
  | _ :: _ => none
def eatPT (mem : Nat → Option Blk) : List (Option TV) → Option (List T1 × List Nat)
  | [] => some ([], [])
  | some (.o (.c x)) :: l => match eatP mem [x], eatPT mem l with
    | some ([y], k1), some (ys, k2) => some (.c y :: ys, k1 ++ k2)
    | _, _ => none
  | some (.o (.g x)) :: l => match eatP mem x, eatPT mem l with
    | some (y, k1), some (ys, k2) => some (.g y :: ys, k1 ++ k2)
    | _, _ => none
  | _ :: _ => none
theorem eatP_ok {ι : Nat → Value} {S S' : Nat → Prop} {w : World} (hS : ∀ b, S b → S' b) : ∀ {l : List CV} {ds : List CV} {ks : List Nat} {us : List Value}, eatP mem l = some (ds, ks) → All2 (VC ι S w) l us → (∀ k ∈ ks, ∀ b, mem k = some b → BlkOk ι S w k b) → (∀ k ∈ ks, ∀ g, blkOf (ι k) = some g → S' g) → All2 (VC ι S' w) ds us
  | [], ds, ks, us, h, ha, _, _ => by
    simp only [eatP, Option.some.injEq, Prod.mk.injEq] at h
    obtain ⟨rfl, rfl⟩ := h
    obtain rfl := ha.nil_left
    exact .nil
  | .d x :: l, ds, ks, us, h, ha, hb, hs => by
    simp only [eatP] at h
    cases hl : eatP mem l with
    | none => simp [hl] at h
    | some p =>
      simp only [hl, Option.map_some, Option.some.injEq, Prod.mk.injEq] at h
      obtain ⟨rfl, rfl⟩ := h
      obtain ⟨u, us', rfl, h1, h2⟩ := ha.cons_left
      exact .cons (VC.mono (fun _ _ => rfl) hS (fun _ _ => rfl) h1) (eatP_ok hS hl h2 hb hs)
  | .ptr k o :: l, ds, ks, us, h, ha, hb, hs => by
    simp only [eatP] at h
    cases hl : eatP mem l with
    | none => simp [hl] at h
    | some p =>
      simp only [hl, Option.map_some, Option.some.injEq, Prod.mk.injEq] at h
      obtain ⟨rfl, rfl⟩ := h
      obtain ⟨u, us', rfl, h1, h2⟩ := ha.cons_left
      exact .cons (VC.mono (fun _ _ => rfl) hS (fun _ _ => rfl) h1) (eatP_ok hS hl h2 hb hs)
  | .row k :: l, ds, ks, us, h, ha, hb, hs => by
    simp only [eatP] at h
    split at h
    · rename_i size e rows p hk hl
      simp only [Option.some.injEq, Prod.mk.injEq] at h
      obtain ⟨rfl, rfl⟩ := h
      obtain ⟨u, us', rfl, h1, h2⟩ := ha.cons_left
      obtain ⟨rfl, _⟩ := h1
      exact .cons (row_imm (hb k (by simp) _ hk) hS (hs k (by simp))) (eatP_ok hS hl h2 (fun k' hk' => hb k' (by simp [hk'])) (fun k' hk' => hs k' (by simp [hk'])))
    · cases h
  | .eptr _ :: _, _, _, _, h, _, _, _ => by simp [eatP] at h
  | .rptr _ _ _ _ :: _, _, _, _, h, _, _, _ => by simp [eatP] at h
theorem eatP_rows {l : List CV} : ∀ {ds : List CV} {ks : List Nat}, eatP mem l = some (ds, ks) → ∀ k ∈ ks, ∃ size e rows, mem k = some (.row size e rows) := by
  induction l with
  | nil => intro ds ks h k hk; simp only [eatP, Option.some.injEq, Prod.mk.injEq] at h; obtain ⟨rfl, rfl⟩ := h; simp at hk
  | cons x l ih =>
    intro ds ks h k hk
    cases x with
    | d x =>
      simp only [eatP] at h
      cases hl : eatP mem l with
      | none => simp [hl] at h
      | some p =>
        simp only [hl, Option.map_some, Option.some.injEq, Prod.mk.injEq] at h
        obtain ⟨rfl, rfl⟩ := h
        exact ih hl k hk
    | ptr k' o =>
      simp only [eatP] at h
      cases hl : eatP mem l with
      | none => simp [hl] at h
      | some p =>
        simp only [hl, Option.map_some, Option.some.injEq, Prod.mk.injEq] at h
        obtain ⟨rfl, rfl⟩ := h
        exact ih hl k hk
    | row k' =>
      simp only [eatP] at h
      split at h
      · rename_i size e rows p hk' hl
        simp only [Option.some.injEq, Prod.mk.injEq] at h
        obtain ⟨rfl, rfl⟩ := h
        rcases List.mem_cons.1 hk with rfl | hk
        · exact ⟨_, _, _, hk'⟩
        · exact ih hl k hk
      · cases h
    | _ => simp [eatP] at h
theorem eatPT_ok {ι : Nat → Value} {S S' : Nat → Prop} {w : World} (hS : ∀ b, S b → S' b) : ∀ {l : List (Option TV)} {ys : List T1} {ks : List Nat} {us : List Value}, eatPT mem l = some (ys, ks) → All2 (fun (a : Option TV) u => ∀ tv, a = some tv → V ι S w tv u) l us →
    (∀ k ∈ ks, ∀ b, mem k = some b → BlkOk ι S w k b) → (∀ k ∈ ks, ∀ g, blkOf (ι k) = some g → S' g) → All2 (V1 ι S' w) ys us
  | [], ys, ks, us, h, ha, _, _ => by
    simp only [eatPT, Option.some.injEq, Prod.mk.injEq] at h
    obtain ⟨rfl, rfl⟩ := h
    obtain rfl := ha.nil_left
    exact .nil
  | some (.o (.c x)) :: l, ys, ks, us, h, ha, hb, hs => by
    simp only [eatPT] at h
    split at h
    · rename_i y k1 ys' k2 h1 h2
      simp only [Option.some.injEq, Prod.mk.injEq] at h
      obtain ⟨rfl, rfl⟩ := h
      obtain ⟨u, us', rfl, h3, h4⟩ := ha.cons_left
      have hv : VC ι S w x u := h3 _ rfl
      exact .cons (eatP_ok hS h1 (.cons hv .nil) (fun k hk => hb k (by simp [hk])) (fun k hk => hs k (by simp [hk]))).head (eatPT_ok hS h2 h4 (fun k hk => hb k (by simp [hk])) (fun k hk => hs k (by simp [hk])))
    · cases h
  | some (.o (.g x)) :: l, ys, ks, us, h, ha, hb, hs => by
    simp only [eatPT] at h
    split at h
    · rename_i y k1 ys' k2 h1 h2
      simp only [Option.some.injEq, Prod.mk.injEq] at h
      obtain ⟨rfl, rfl⟩ := h
      obtain ⟨u, us', rfl, h3, h4⟩ := ha.cons_left
      obtain ⟨us2, hu, hall⟩ := h3 _ rfl
      exact .cons ⟨us2, hu, eatP_ok hS h1 hall (fun k hk => hb k (by simp [hk])) (fun k hk => hs k (by simp [hk]))⟩ (eatPT_ok hS h2 h4 (fun k hk => hb k (by simp [hk])) (fun k hk => hs k (by simp [hk])))
    · cases h
  | none :: _, _, _, _, h, _, _, _ => by simp [eatPT] at h
  | some .no :: _, _, _, _, h, _, _, _ => by simp [eatPT] at h
  | some .und :: _, _, _, _, h, _, _, _ => by simp [eatPT] at h
  | some (.tup _) :: _, _, _, _, h, _, _, _ => by simp [eatPT] at h
  | some (.pan _) :: _, _, _, _, h, _, _, _ => by simp [eatPT] at h
theorem eatPT_rows : ∀ {l : List (Option TV)} {ys : List T1} {ks : List Nat}, eatPT mem l = some (ys, ks) → ∀ k ∈ ks, ∃ size e rows, mem k = some (.row size e rows)
  | [], ys, ks, h, k, hk => by
    simp only [eatPT, Option.some.injEq, Prod.mk.injEq] at h
    obtain ⟨rfl, rfl⟩ := h
    simp at hk
  | some (.o (.c x)) :: l, ys, ks, h, k, hk => by
    simp only [eatPT] at h
    split at h
    · rename_i y k1 ys' k2 h1 h2
      simp only [Option.some.injEq, Prod.mk.injEq] at h
      obtain ⟨rfl, rfl⟩ := h
      rcases List.mem_append.1 hk with hk | hk
      · exact eatP_rows h1 k hk
      · exact eatPT_rows h2 k hk
    · cases h
  | some (.o (.g x)) :: l, ys, ks, h, k, hk => by
    simp only [eatPT] at h
    split at h
    · rename_i y k1 ys' k2 h1 h2
      simp only [Option.some.injEq, Prod.mk.injEq] at h
      obtain ⟨rfl, rfl⟩ := h
      rcases List.mem_append.1 hk with hk | hk
      · exact eatP_rows h1 k hk
      · exact eatPT_rows h2 k hk
    · cases h
  | none :: _, _, _, h, _, _ => by simp [eatPT] at h
  | some .no :: _, _, _, h, _, _ => by simp [eatPT] at h
  | some .und :: _, _, _, h, _, _ => by simp [eatPT] at h
  | some (.tup _) :: _, _, _, h, _, _ => by simp [eatPT] at h
  | some (.pan _) :: _, _, _, h, _, _ => by simp [eatPT] at h
def ptrsC (l : List CV) : List Nat := l.filterMap fun | .ptr k _ => some k | _ => none
def ptrsT (l : List T1) : List Nat := l.flatMap fun | .c x => ptrsC [x] | .g l => ptrsC l
def refsB : Blk → List Nat
  | .obj l _ => l.filterMap fun | .ptr k _ | .row k | .rptr k _ _ _ => some k | _ => none
  | _ => []
/-- The names that lead on from some. -/
def reach (mem : Nat → Option Blk) : Nat → List Nat → List Nat → List Nat
  | 0, _, acc => acc
  | _ + 1, [], acc => acc
  | n + 1, k :: ks, acc => match acc.any (Nat.beq k) with
    | true => reach mem n ks acc
    | false => match mem k with
      | some b => reach mem n (refsB b ++ ks) (acc ++ [k])
      | none => reach mem n ks acc
def subMem (mem : Nat → Option Blk) : List Nat → Option (List (Nat × Blk))
  | [] => some []
  | k :: ks => match mem k, subMem mem ks with
    | some b, some l => some ((k, b) :: l)
    | _, _ => none
theorem subMem_ok : ∀ {ks : List Nat} {l : List (Nat × Blk)}, subMem mem ks = some l → l.map (·.1) = ks ∧ ∀ p ∈ l, mem p.1 = some p.2
  | [], l, h => by simp only [subMem, Option.some.injEq] at h; subst h; exact ⟨rfl, by simp⟩
  | k :: ks, l, h => by
    simp only [subMem] at h
    split at h
    · rename_i b l' hk hl
      cases h
      obtain ⟨h1, h2⟩ := subMem_ok hl
      exact ⟨by simp [h1], fun p hp => by
        rcases List.mem_cons.1 hp with rfl | hp
        · exact hk
        · exact h2 p hp⟩
    · cases h
def forceN (n : Nat) (K : Nat → Prop) : Prop := match n with
  | 0 => K 0
  | m + 1 => K (m + 1)
theorem forceN_eq (n : Nat) (K : Nat → Prop) : forceN n K = K n := by cases n <;> rfl
def forceNs : List Nat → (List Nat → Prop) → Prop
  | [], K => K []
  | x :: l, K => forceN x fun x => forceNs l fun l => K (x :: l)
theorem forceNs_eq : ∀ (l : List Nat) (K : List Nat → Prop), forceNs l K = K l
  | [], K => rfl
  | x :: l, K => by simp only [forceNs, forceN_eq, forceNs_eq l]
def exCallM (P : Program) (Γ : Glob) (ev : Operand → Option TV) (mem : Nat → Option Blk) (nx : Nat) (f : FuncId) (args : List Operand) (K : Res → Prop) : Prop :=
  match eatPT mem (args.map ev) with
  | some (xs, ks) => forceNs (reach mem 20 (ptrsT xs) []) fun ns => match disj ns ks, subMem mem ns with
    | true, some m => ∃ r upd new, CallsM P Γ f m nx xs r upd new ∧ K ⟨r, m.map (·.1) ++ ks, upd ++ dead ks, new⟩
    | _, _ => False
  | none => False
theorem run_enter {f : FuncId} {c : Call} (ho : o.op = .call c) (hc : c.callee = .value (.func f)) (hcb : Callable P f) (A : Act) (w : World) : (execOp A.eval o).run P w = .ok (.enter f (c.args.map A.eval).toList.toArray) w := by
  obtain ⟨fn, hfn, hn, hb⟩ := hcb
  simp only [execOp, ho, resolve, hc, Act.eval, Deferred.ofValue, invoke, callFunc, Sem.run_bind, Sem.run_pure, Result.andThen_ok]
  have hn' : ¬ fn.name = "runtime.NumGoroutine" := by simpa using hn
  have hb' : ¬ fn.body = none := by intro e; simp [e] at hb
  simp [program, Sem.run, hfn, hn', hb']
  apply Array.ext'
  simp
theorem exCallM_ok {f : FuncId} {c : Call} (ho : o.op = .call c) (hc : c.callee = .value (.func f)) (h : exCallM P Γ ev mem nx f c.args.toList K) : ∃ r, Spec P Γ o ev mem nx r ∧ K r := by
  unfold exCallM at h
  split at h
  · rename_i xs ks he
    rw [forceNs_eq] at h
    split at h
    · rename_i m hdisj hm
      obtain ⟨r, upd, new, ⟨hcb, hcall⟩, h⟩ := h
      obtain ⟨hm1, hm2⟩ := subMem_ok hm
      refine ⟨_, fun Q next ι S A w hs hG hdst q1 q2 hK hP => ?_, h⟩
      have hargs : All2 (fun (a : Option TV) u => ∀ tv, a = some tv → V ι S w tv u) (c.args.toList.map ev) (c.args.map A.eval).toList := by
        rw [Array.toList_map]
        refine All2.map_left ⟨by simp, fun i a b ha hb => ?_⟩
        rw [List.getElem?_map, ha] at hb
        cases hb
        intro tv htv
        exact q1 a (by simp only [ho, Op.operands, Call.operands]; exact Array.mem_append_right _ (Array.mem_toList_iff.1 (List.mem_of_getElem? ha))) tv htv
      have hrd : ∀ p ∈ m, BlkOk ι S w p.1 p.2 := fun p hp => q2 p.1 (List.mem_append_left _ (List.mem_map.2 ⟨p, hp, rfl⟩)) p.2 (hm2 p hp)
      have hrows : ∀ k ∈ ks, ∃ size e rows, mem k = some (.row size e rows) ∧ BlkOk ι S w k (.row size e rows) := fun k hk => by
        obtain ⟨size, e, rows, hm⟩ := eatPT_rows he k hk
        exact ⟨size, e, rows, hm, q2 k (List.mem_append_right _ hk) _ hm⟩
      have hS1 : ∀ b, giveUp ι S ks b → b < w.heap.size := fun b hb => by
        rcases hb with hb | ⟨k, hk, hb⟩
        · exact hs b hb
        · obtain ⟨size, e, rows, _, hr⟩ := hrows k hk
          exact (row_lt hr b hb).1
      have hall := eatPT_ok (S' := giveUp ι S ks) (fun b hb => .inl hb) he hargs (fun k hk b hb => q2 k (List.mem_append_right _ hk) b hb) (fun k hk g hg => .inr ⟨k, hk, hg⟩)
      have hne : ∀ p ∈ m, ∀ k ∈ ks, p.1 ≠ k := fun p hp k hk e => by
        subst e
        exact disj_spec hdisj (by rw [← hm1]; exact List.mem_map.2 ⟨p, hp, rfl⟩) hk
      have hsub : ∀ p ∈ m, BlkOk ι (giveUp ι S ks) w p.1 p.2 := fun p hp => by
        refine BlkOk.mono (fun _ _ => rfl) (fun b hb => .inl hb) (fun _ => rfl) (fun _ _ => rfl) (fun hl g hg => ⟨rfl, fun hgu => ?_⟩) (hrd p hp)
        rcases hgu with hgu | ⟨k, hk, hgk⟩
        · have := hrd p hp
          cases hb : p.2 with
          | dead => rw [hb] at hl; cases hl
          | obj cells => rw [hb] at this; obtain ⟨b2, arr, ty, h1, _, _, h4⟩ := this; rw [h1] at hg; cases hg; exact h4 hgu
          | row size e rows => rw [hb] at this; obtain ⟨cs, _, _, _, h4⟩ := this; exact h4 g hg hgu
        · obtain ⟨size, e, rows, hmk, hr⟩ := hrows k hk
          exact hne p hp k hk (hdst p.1 (List.mem_append_left _ (List.mem_map.2 ⟨p, hp, rfl⟩)) k (List.mem_append_right _ hk) p.2 _ g (hm2 p hp) hmk hl rfl hg hgk)
      have hC := hcall ι (giveUp ι S ks) w _ hS1 (Γ.mono (fun _ _ => rfl) (fun b hb => .inl hb) hG) hsub (fun p hp q hq g hl hl' hg hg' => hdst p.1 (List.mem_append_left _ (List.mem_map.2 ⟨p, hp, rfl⟩)) q.1 (List.mem_append_left _ (List.mem_map.2 ⟨q, hq, rfl⟩)) p.2 q.2 g (hm2 p hp) (hm2 q hq) hl hl' hg hg') hall
      unfold Oper.wp
      rw [run_enter ho hc hcb, Oper.upon_enter]
      have conv : ∀ (tv : TV) (x : Value) (ι' : Nat → Value) (S' : Nat → Prop) (w' : World), After ι (giveUp ι S ks) w nx ⟨tv, m.map (·.1), upd, new⟩ x ι' S' w' → After ι S w nx ⟨tv, m.map (·.1) ++ ks, upd ++ dead ks, new⟩ x ι' S' w' := fun tv x ι' S' w' A => by
       refine ⟨A.val, A.keep, fun b hb => A.smono b (.inl hb), fun b hb => ?_, A.slt, A.os, A.tape, A.output, A.size, fun b hb hne' => A.heap b hb fun k hk => hne' k (by simp only [List.map_append, List.mem_append]; exact .inl hk), fun k b hk => ?_, A.newok, fun i b hb hl g hg => ?_, A.newdst⟩
       · rcases A.sgrow b hb with (h | ⟨k, hk, h⟩) | h | ⟨k, hk, h⟩
         · exact .inl h
         · exact .inr (.inr ⟨k, List.mem_append_right _ (List.mem_map.2 ⟨k, hk, rfl⟩), h⟩)
         · exact .inr (.inl h)
         · exact .inr (.inr ⟨k, List.mem_append_left _ hk, h⟩)
       · rcases List.mem_append.1 hk with hk | hk
         · exact A.updok k b hk
         · obtain ⟨k', _, he⟩ := List.mem_map.1 hk
           cases he
           trivial
       · obtain ⟨h1, h2⟩ := A.newblk i b hb hl g hg
         refine ⟨fun h => h1 (.inl h), ?_⟩
         rcases h2 with h2 | ⟨k, hk, h2⟩
         · exact .inl h2
         · exact .inr ⟨k, List.mem_append_left _ hk, h2⟩
      refine hC.mono fun e w' hX => ?_
      rcases hX with ⟨x, ι', S', hx, A⟩ | ⟨v, ι', S', hr, hx, A⟩
      · subst hx
        exact hK x ι' S' w' (conv _ _ _ _ _ A)
      · subst hx
        exact hP v hr ι' S' w' (conv _ _ _ _ _ A)
    · exact h.elim
  · exact h.elim
def exCallAny (P : Program) (Γ : Glob) (ev : Operand → Option TV) (mem : Nat → Option Blk) (nx : Nat) (f : FuncId) (args : List Operand) (K : Res → Prop) : Prop :=
  match eatT mem (args.map ev) with
  | some _ => exCall P Γ ev mem f args K
  | none => exCallM P Γ ev mem nx f args K
theorem exCallAny_ok {f : FuncId} {c : Call} (ho : o.op = .call c) (hc : c.callee = .value (.func f)) (h : exCallAny P Γ ev mem nx f c.args.toList K) : ∃ r, Spec P Γ o ev mem nx r ∧ K r := by
  unfold exCallAny at h
  split at h
  · exact exCall_ok ho hc h
  · exact exCallM_ok ho hc h

/-! ### Interfaces, panics -/
/-- The value that is boxed: flat. -/
def flatC : CV → Option Value
  | .d (.v x) => some x
  | _ => none
def flatV : TV → Option Value
  | .o (.c (.d (.v x))) => some x
  | .o (.g l) => (l.mapM flatC).map fun l => .agg l.toArray
  | _ => none
theorem flatV_ok {ι : Nat → Value} {S : Nat → Prop} {w : World} {tv : TV} {x u : Value} (h : flatV tv = some x) (hv : V ι S w tv u) : u = x := by
  unfold flatV at h
  split at h
  · cases h; exact V_v hv
  · rename_i l
    obtain ⟨vs, hm, rfl⟩ := Option.map_eq_some_iff.1 h
    obtain ⟨us, rfl, hall⟩ := hv
    obtain ⟨h1, h2⟩ := mapM_isSome hm
    have : us = vs := by
      apply List.ext_getElem?
      intro i
      cases hl : l[i]? with
      | none =>
        have hle := List.getElem?_eq_none_iff.1 hl
        rw [List.getElem?_eq_none (by rw [← hall.len]; exact hle), List.getElem?_eq_none (by rw [← h1]; exact hle)]
      | some c =>
        obtain ⟨u, hu1, hu2⟩ := hall.at_left hl
        obtain ⟨v, hv1, hv2⟩ := h2 i c hl
        rw [hu1, hv2]
        unfold flatC at hv1
        split at hv1
        · rename_i y
          cases hv1
          have h' : Imm S w _ u := hu2
          cases h'
          rfl
        · cases hv1
    rw [this]
  · cases h
def exMkI (L : Nat → Option Lay) (ev : Operand → Option TV) (t : TypeId) (x : Operand) (K : Res → Prop) : Prop :=
  match L t, (ev x).bind flatV with
  | some ⟨_, _, _, .other⟩, _ => False
  | some _, some v => K (pureR (.o (.c (.d (.v (.iface t v))))))
  | _, _ => False
theorem exMkI_ok (hL : LOk P L) {t : TypeId} {x : Operand} (ho : o.op = .makeInterface t x) (h : exMkI L ev t x K) : ∃ r, Spec P Γ o ev mem nx r ∧ K r := by
  unfold exMkI at h
  split at h
  · exact h.elim
  · rename_i l v hno hl hv
    obtain ⟨tv, hx, hf⟩ := Option.bind_eq_some_iff.1 hv
    refine ⟨_, spec_val fun ι S A w h1 h2 => ⟨.iface t v, ?_, V_mk rfl⟩, h⟩
    have ex := flatV_ok hf (h1 x (by simp [ho, Op.operands]) _ hx)
    obtain ⟨i, d, z, _, hu, _, _, _, _, hk⟩ := (layOf_ok (hL _ _ hl)).ex
    have hni : ∀ ms, d ≠ .interface ms := fun ms e => by
      subst e
      simp only [kindOf, Option.some.injEq] at hk
      obtain ⟨a, b, c, kk⟩ := l
      simp only at hk
      subst hk
      exact hno _ _ _ rfl
    simp only [execOp, ho, ex, Instr.makeInterface, Sem.run_bind, run_underlying hu, Result.andThen_ok]
    cases d <;> first | rfl | exact absurd rfl (hni _)
  · exact h.elim
def exPanic (ev : Operand → Option TV) (x : Operand) (K : Res → Prop) : Prop :=
  match ev x with
  | some (.o (.c (.d (.v (.iface t v))))) => K ⟨.pan (.iface t v), [], [], []⟩
  | _ => False
theorem exPanic_ok {x : Operand} (ho : o.op = .panic x) (h : exPanic ev x K) : ∃ r, Spec P Γ o ev mem nx r ∧ K r := by
  unfold exPanic at h
  split at h
  · rename_i t v hx
    refine ⟨_, fun Q next ι S A w hs hG hdst q1 q2 hK hP => ?_, h⟩
    have ex := V_v (q1 x (by simp [ho, Op.operands]) _ hx)
    unfold Oper.wp
    have hrun : (execOp A.eval ‹Oper›).run P w = .halt (.panic (.iface t v)) w := by
      simp [execOp, ho, ex, Instr.panic, Sem.run]
    rw [hrun, Oper.upon_panic]
    exact hP _ rfl ι S w (After.same hs rfl)
  · exact h.elim

/-! ### All operations -/
def exC (P : Program) (Γ : Glob) (L : Nat → Option Lay) (ev : Operand → Option TV) (mem : Nat → Option Blk) (nx : Nat) (c : Call) (K : Res → Prop) : Prop :=
  match c.callee, c.args.toList, c.argTypes.toList with
  | .builtin .len, [x], [t] => exLen L ev mem t x K
  | .builtin .append, [s, x], [t, t'] => match Nat.beq t t' with
    | true => exAppend L ev mem nx t s x K
    | false => exAppendS P L ev mem nx t t' s x K
  | .builtin .unsafeSliceData, [x], _ => exUData ev mem x K
  | .builtin .unsafeString, [p, n], [pt, _] => exUStr P ev mem pt p n K
  | .builtin .min, [x, y], _ => exMin ev x y K
  | .builtin .max, [x, y], _ => exMax ev x y K
  | .value (.func f), args, _ => exCallAny P Γ ev mem nx f args K
  | _, _, _ => False
def ex (P : Program) (Γ : Glob) (L : Nat → Option Lay) (ev : Operand → Option TV) (mem : Nat → Option Blk) (nx : Nat) (op : Op) (K : Res → Prop) : Prop :=
  match op with
  | .move x | .assign x => exMove ev x K
  | .pick c x y => exPick ev c x y K
  | .alloc t => exAlloc L nx t K
  | .box _ x => exBox ev nx x K
  | .build t ps => exBuild L ev t ps K
  | .buildSlice t n ps => exBuildSlice L ev mem nx t n ps K
  | .load t p => exLoad L ev mem t p K
  | .store t p x => exStore L ev mem t p x K
  | .nilCheck x => exNil ev x K
  | .binOp op t x y _ => exBinOp P L ev op t x y K
  | .unOp op _ x => exUn ev op x K
  | .convert s d x => exConvB L ev mem s d x K
  | .makeSlice t l c => exMake L ev nx t l c K
  | .slice t x lo hi none => exSlice L ev mem nx t x lo hi K
  | .fieldAddr t x f => exField L ev t x f K
  | .field t x f => exPart L ev t x f K
  | .indexAddr t x i => exIndexAddr L ev mem t x i K
  | .index t x i => exIndexStr L ev t x i K
  | .extract x i => exExtract ev x i K
  | .makeInterface t x => exMkI L ev t x K
  | .panic x => exPanic ev x K
  | .call c => exC P Γ L ev mem nx c K
  | _ => False
theorem exC_ok (hL : LOk P L) {c : Call} (ho : o.op = .call c) (h : exC P Γ L ev mem nx c K) : ∃ r, Spec P Γ o ev mem nx r ∧ K r := by
  obtain ⟨callee, args, ts⟩ := c
  unfold exC at h
  split at h
  · rename_i x t h1 h2 h3
    simp only at h1 h2 h3
    subst h1
    obtain rfl : args = #[x] := by rw [← Array.toArray_toList (xs := args), h2]
    obtain rfl : ts = #[t] := by rw [← Array.toArray_toList (xs := ts), h3]
    exact exLen_ok hL ho rfl h
  · rename_i s x t t' h1 h2 h3
    simp only at h1 h2 h3
    subst h1
    split at h
    · rename_i hb
      obtain rfl := Nat.eq_of_beq_eq_true hb
      obtain rfl : args = #[s, x] := by rw [← Array.toArray_toList (xs := args), h2]
      obtain rfl : ts = #[t, t] := by rw [← Array.toArray_toList (xs := ts), h3]
      exact exAppend_ok hL ho rfl h
    · obtain rfl : args = #[s, x] := by rw [← Array.toArray_toList (xs := args), h2]
      obtain rfl : ts = #[t, t'] := by rw [← Array.toArray_toList (xs := ts), h3]
      exact exAppendS_ok hL ho h
  · rename_i x h1 h2
    simp only at h1 h2
    subst h1
    obtain rfl : args = #[x] := by rw [← Array.toArray_toList (xs := args), h2]
    exact exUData_ok ho h
  · rename_i p n pt it h1 h2 h3
    simp only at h1 h2 h3
    subst h1
    obtain rfl : args = #[p, n] := by rw [← Array.toArray_toList (xs := args), h2]
    obtain rfl : ts = #[pt, it] := by rw [← Array.toArray_toList (xs := ts), h3]
    exact exUStr_ok ho h
  · rename_i x y h1 h2
    simp only at h1 h2
    subst h1
    obtain rfl : args = #[x, y] := by rw [← Array.toArray_toList (xs := args), h2]
    exact exMin_ok ho h
  · rename_i x y h1 h2
    simp only at h1 h2
    subst h1
    obtain rfl : args = #[x, y] := by rw [← Array.toArray_toList (xs := args), h2]
    exact exMax_ok ho h
  · rename_i f h1
    simp only at h1
    exact exCallAny_ok ho h1 h
  · exact h.elim
theorem ex_ok (hL : LOk P L) (h : ex P Γ L ev mem nx o.op K) : ∃ r, Spec P Γ o ev mem nx r ∧ K r := by
  unfold ex at h
  split at h
  · rename_i x ho; exact exMove_ok (.inl ho) h
  · rename_i x ho; exact exMove_ok (.inr ho) h
  · rename_i ho; exact exPick_ok ho h
  · rename_i ho; exact exAlloc_ok hL ho h
  · rename_i ho; exact exBox_ok ho h
  · rename_i ho; exact exBuild_ok hL ho h
  · rename_i ho; exact exBuildSlice_ok hL ho h
  · rename_i ho; exact exLoad_ok hL ho h
  · rename_i ho; exact exStore_ok hL ho h
  · rename_i ho; exact exNil_ok ho h
  · rename_i ho; exact exBinOp_ok hL ho h
  · rename_i ho; exact exUn_ok ho h
  · rename_i ho; exact exConvB_ok hL ho h
  · rename_i ho; exact exMake_ok hL ho h
  · rename_i ho; exact exSlice_ok hL ho h
  · rename_i ho; exact exField_ok hL ho h
  · rename_i ho; exact exPart_ok hL ho h
  · rename_i ho; exact exIndexAddr_ok hL ho h
  · rename_i ho; exact exIndexStr_ok hL ho h
  · rename_i ho; exact exExtract_ok ho h
  · rename_i ho; exact exMkI_ok hL ho h
  · rename_i ho; exact exPanic_ok ho h
  · rename_i c ho; exact exC_ok hL ho h
  · exact h.elim
end
end Go.Proofs.YtkeehnhamkdogaaDoor
