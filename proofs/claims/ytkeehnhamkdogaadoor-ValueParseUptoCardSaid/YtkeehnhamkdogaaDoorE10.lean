/- Regions that draw their order, over the abstract state: walked once, in the text's order. No condition. -/
import Derived.Test.YtkeehnhamkdogaaDoorE9
namespace Go.Proofs.YtkeehnhamkdogaaDoor
set_option linter.unusedVariables false
set_option linter.unusedSimpArgs false
open Go.RowKit

structure Rec where
  st : St
  o : Oper
  r : Res
  run : Bool
  dead : Bool
def memN (n : Nat) : List Nat → Bool
  | [] => false
  | k :: l => match Nat.beq k n with
    | true => true
    | false => memN n l
theorem memN_mem {n : Nat} : ∀ {l : List Nat}, memN n l = true ↔ n ∈ l
  | [] => by simp [memN]
  | k :: l => by
    simp only [memN, List.mem_cons]
    split
    · rename_i h
      have := Nat.eq_of_beq_eq_true h
      simp [this]
    · rename_i h
      have := Nat.ne_of_beq_eq_false h
      rw [memN_mem]
      simp [Ne.symm this]
/-- Does an operation wait for one of these? -/
def deadB (o : Oper) (dead : List Nat) : Bool := o.after.toList.any fun e => Region.binds .any e && memN e.on dead
def firstP (pj : Option Nat) (K : Prop) : Prop := match pj with
  | none => K
  | some _ => False
/-- The operations one behind the other; pj: the one that panicked, and dead: what waits for it. -/
noncomputable def vcD (C : Ctx) (ops : Array Oper) (os : List Oper) : List Rec → List Nat → Option Nat → St → (List Rec → Option Nat → St → Prop) → Prop :=
  List.rec (motive := fun _ => List Rec → List Nat → Option Nat → St → (List Rec → Option Nat → St → Prop) → Prop) (fun recs _ pj st K => K recs pj st) (fun o _ ih recs dead pj st K => match deadB o dead with
    | true => ih (recs ++ [⟨st, o, pureR .und, false, true⟩]) (recs.length :: dead) pj st K
    | false => match o.guard with
      | none => exP C o st (fun r st' => ih (recs ++ [⟨st, o, r, true, false⟩]) dead pj st' K) (fun _ r _ => firstP pj (ih (recs ++ [⟨st, o, r, true, true⟩]) (recs.length :: dead) (some recs.length) st K))
      | some (j, want) => match gval ops st j with
        | some b => match runs want b with
          | true => exP C o st (fun r st' => ih (recs ++ [⟨st, o, r, true, false⟩]) dead pj st' K) (fun _ r _ => firstP pj (ih (recs ++ [⟨st, o, r, true, true⟩]) (recs.length :: dead) (some recs.length) st K))
          | false => stepK st o.dst (pureR .und) fun st' => ih (recs ++ [⟨st, o, pureR .und, false, false⟩]) dead pj st' K
        | none => False) os
theorem vcD_nil (C : Ctx) (ops : Array Oper) (recs : List Rec) (dead : List Nat) (pj : Option Nat) (st : St) (K : List Rec → Option Nat → St → Prop) : vcD C ops [] recs dead pj st K = K recs pj st := rfl
theorem vcD_cons (C : Ctx) (ops : Array Oper) (o : Oper) (os : List Oper) (recs : List Rec) (dead : List Nat) (pj : Option Nat) (st : St) (K : List Rec → Option Nat → St → Prop) : vcD C ops (o :: os) recs dead pj st K = (match deadB o dead with
    | true => vcD C ops os (recs ++ [⟨st, o, pureR .und, false, true⟩]) (recs.length :: dead) pj st K
    | false => match o.guard with
      | none => exP C o st (fun r st' => vcD C ops os (recs ++ [⟨st, o, r, true, false⟩]) dead pj st' K) (fun _ r _ => firstP pj (vcD C ops os (recs ++ [⟨st, o, r, true, true⟩]) (recs.length :: dead) (some recs.length) st K))
      | some (j, want) => match gval ops st j with
        | some b => match runs want b with
          | true => exP C o st (fun r st' => vcD C ops os (recs ++ [⟨st, o, r, true, false⟩]) dead pj st' K) (fun _ r _ => firstP pj (vcD C ops os (recs ++ [⟨st, o, r, true, true⟩]) (recs.length :: dead) (some recs.length) st K))
          | false => stepK st o.dst (pureR .und) fun st' => vcD C ops os (recs ++ [⟨st, o, pureR .und, false, false⟩]) dead pj st' K
        | none => False) := rfl
def maskOf (o : Oper) (acc : List Nat) : Nat := o.after.toList.foldl (fun s e => match Region.binds .any e with
  | true => s ||| 2 ^ e.on ||| acc.getD e.on 0
  | false => s) 0
def masks : List Oper → List Nat → List Nat
  | [], acc => acc
  | o :: os, acc => masks os (acc ++ [maskOf o acc])
def Rec.ws (x : Rec) : List (Nat × Blk) := match x.dead with
  | true => []
  | false => x.r.upd ++ x.r.news x.st.nx
def Rec.next (x : Rec) : St := match x.dead with
  | true => x.st
  | false => x.st.step x.o.dst x.r
def Rec.rs (x : Rec) : List Nat := x.r.rd ++ x.ws.map (·.1)
def indep (ops : Array Oper) (x y : Rec) : Bool :=
  Oper.apart ops x.o y.o && disj (x.ws.map (·.1)) y.rs && disj (y.ws.map (·.1)) x.rs &&
  ((x.r.news x.st.nx).all fun q => !y.r.v.men q.1 && y.ws.all fun p => !p.2.men q.1)
def backL (ops : List Oper) : Bool := ops.zipIdx.all fun p => p.1.after.toList.all fun e => !Region.binds .any e || Nat.blt e.on p.2
def notP (pj : Option Nat) (i : Nat) : Bool := match pj with
  | none => true
  | some p => !(Nat.beq p i)
def drawOk (ops : Array Oper) (recs : List Rec) (pj : Option Nat) : Bool :=
  backL ops.toList && ((List.range recs.length).all fun j => (List.range j).all fun i => ((masks ops.toList []).getD j 0).testBit i || (match recs[i]?, recs[j]? with
    | some x, some y => (x.dead && notP pj i) || (y.dead && notP pj j) || indep ops x y
    | _, _ => true)) && (match pj with
    | none => true
    | some p => (List.range recs.length).all fun i => match recs[i]? with
      | some x => x.ws.isEmpty || (Nat.blt i p && ((masks ops.toList []).getD p 0).testBit i)
      | none => true)

/-! ### Overlays -/
section
variable {α : Type}
def app (u f : Nat → Option α) : Nat → Option α := fun t => match u t with
  | some x => some x
  | none => f t
def ov : List (Nat → Option α) → (Nat → Bool) → Nat → (Nat → Option α) → Nat → Option α
  | [], _, _, f => f
  | u :: us, X, i, f => ov us X (i + 1) (match X i with | true => app u f | false => f)
theorem ov_congr : ∀ (us : List (Nat → Option α)) (X Y : Nat → Bool) (i : Nat) (f g : Nat → Option α) (t : Nat), (∀ j u, us[j]? = some u → u t ≠ none → X (i + j) = Y (i + j)) → f t = g t → ov us X i f t = ov us Y i g t
  | [], X, Y, i, f, g, t, _, hf => hf
  | u :: us, X, Y, i, f, g, t, h, hf => by
    simp only [ov]
    refine ov_congr us X Y (i + 1) _ _ t (fun j u' hu hn => by have := h (j + 1) u' (by simpa using hu) hn; rwa [show i + (j + 1) = i + 1 + j by omega] at this) ?_
    by_cases hn : u t = none
    · have e : ∀ (b : Bool) (f : Nat → Option α), (match b with | true => app u f | false => f) t = f t := fun b f => by
        cases b
        · rfl
        · simp [app, hn]
      rw [e, e]; exact hf
    · have := h 0 u rfl hn
      simp only [Nat.add_zero] at this
      rw [this]
      cases Y i
      · exact hf
      · simp only [app, hf]
theorem ov_false : ∀ (us : List (Nat → Option α)) (X : Nat → Bool) (i : Nat) (f : Nat → Option α) (t : Nat), (∀ j u, us[j]? = some u → u t ≠ none → X (i + j) = false) → ov us X i f t = f t
  | us, X, i, f, t, h => by
    rw [ov_congr us X (fun _ => false) i f f t h rfl]
    clear h
    induction us generalizing i f with
    | nil => rfl
    | cons u us ih => simp only [ov]; exact ih _ _
theorem ov_last : ∀ (us : List (Nat → Option α)) (X : Nat → Bool) (i : Nat) (f : Nat → Option α) (t j : Nat) (u : Nat → Option α) (v : α), us[j]? = some u → u t = some v → X (i + j) = true →
    (∀ j' u', j < j' → us[j']? = some u' → u' t ≠ none → X (i + j') = false) → ov us X i f t = some v
  | [], _, _, _, _, _, _, _, h, _, _, _ => by simp at h
  | u0 :: us, X, i, f, t, 0, u, v, h, hu, hX, hl => by
    simp only [List.getElem?_cons_zero, Option.some.injEq] at h
    subst h
    simp only [Nat.add_zero] at hX
    simp only [ov, hX]
    rw [ov_false us X (i + 1) _ t (fun j' u' hu' hn => by have := hl (j' + 1) u' (by omega) (by simpa using hu') hn; rwa [show i + (j' + 1) = i + 1 + j' by omega] at this)]
    simp [app, hu]
  | u0 :: us, X, i, f, t, j + 1, u, v, h, hu, hX, hl => by
    simp only [ov]
    refine ov_last us X (i + 1) _ t j u v (by simpa using h) hu (by rwa [show i + 1 + j = i + (j + 1) by omega]) (fun j' u' hj hu' hn => ?_)
    have := hl (j' + 1) u' (by omega) (by simpa using hu') hn
    rwa [show i + (j' + 1) = i + 1 + j' by omega] at this
theorem ov_from : ∀ (us : List (Nat → Option α)) (X : Nat → Bool) (i : Nat) (f : Nat → Option α) (t : Nat) (v : α), ov us X i f t = some v → f t = some v ∨ ∃ j u, us[j]? = some u ∧ X (i + j) = true ∧ u t = some v
  | [], _, _, _, _, _, h => .inl h
  | u :: us, X, i, f, t, v, h => by
    simp only [ov] at h
    rcases ov_from us X (i + 1) _ t v h with h | ⟨j, u', h1, h2, h3⟩
    · cases hX : X i with
      | false => rw [hX] at h; exact .inl h
      | true =>
        rw [hX] at h
        simp only [app] at h
        cases hu : u t with
        | none => rw [hu] at h; exact .inl h
        | some x => rw [hu] at h; cases h; exact .inr ⟨0, u, rfl, hX, hu⟩
    · exact .inr ⟨j + 1, u', by simpa using h1, by rwa [show i + (j + 1) = i + 1 + j by omega], h3⟩
end
def uT (x : Rec) : Nat → Option TV := fun t => match x.dead with
  | true => none
  | false => if x.o.dst = some t then some x.r.v else none
def uM (x : Rec) : Nat → Option Blk := findL x.ws
theorem app_uT (x : Rec) : app (uT x) (findL x.st.tm) = findL x.next.tm := by
  funext t
  unfold uT Rec.next app
  cases hd : x.dead with
  | true => rfl
  | false =>
    simp only
    rw [← putF_step]
    simp only [putF]
    split <;> (rename_i h; split at h <;> simp_all)
theorem app_uM (x : Rec) : app (uM x) (findL x.st.mem) = findL x.next.mem := by
  funext t
  unfold uM Rec.ws Rec.next app
  cases hd : x.dead with
  | true => rfl
  | false =>
    simp only [St.step, ← List.append_assoc]
    rw [findL_append (x.r.upd ++ x.r.news x.st.nx)]
    cases findL (x.r.upd ++ x.r.news x.st.nx) t <;> rfl
theorem updF_app (x : Rec) (hd : x.dead = false) (f : Nat → Option Blk) : updF f x.r x.st.nx = app (uM x) f := by
  funext k
  simp only [updF, app, uM, Rec.ws, hd, findL_append, Res.news, newsL_find]
  cases findL x.r.upd k with
  | some b => rfl
  | none =>
    simp only
    split
    · cases x.r.new[k - x.st.nx]? <;> rfl
    · rfl
theorem putF_app (x : Rec) (hd : x.dead = false) (f : Nat → Option TV) : putF f x.o.dst x.r.v = app (uT x) f := by
  funext t
  simp only [app, uT, hd, putF]
  split <;> rename_i h <;> simp [h]
theorem RF_weak {E : Env} {tm tm' : Nat → Option TV} {mem mem' : Nat → Option Blk} {a : Act} {w : World} (h1 : ∀ t v, tm' t = some v → tm t = some v) (h2 : ∀ k b, mem' k = some b → mem k = some b) (h : RF E tm mem a w) : RF E tm' mem' a w := by
  obtain ⟨ι, S, I⟩ := h
  exact ⟨ι, S, I.os, I.tape, I.output, I.size, I.old, I.slt, I.s0, I.sg, fun t tv ht => I.tms t tv (h1 t tv ht), fun k b hk => I.blk k b (h2 k b hk), fun k b hk => I.mutb k b (h2 k b hk), fun k k' b b' g hk hk' => I.dst k k' b b' g (h2 k b hk) (h2 k' b' hk'), I.dn, I.sz, I.gl, I.ik⟩

/-! ### Chains -/
def ChainOk : St → List Rec → St → Prop
  | st, [], st' => st = st'
  | st, x :: xs, st' => x.st = st ∧ ChainOk x.next xs st'
def RecOk (C : Ctx) (ops : Array Oper) (x : Rec) : Prop :=
  (match x.o.guard with
    | none => x.run = true
    | some (j, want) => ∃ b, gval ops x.st j = some b ∧ x.run = runs want b) ∧
  (x.run = true → Spec C.P C.Γ x.o (evS x.st) (findL x.st.mem) x.st.nx x.r ∧ resOk C.n C.nx0 x.st x.o.dst x.r = true) ∧ (x.run = false → x.r = pureR .und)
/-- What is known of the operations that have been walked. -/
structure DOk (C : Ctx) (ops : Array Oper) (recs : List Rec) (dead : List Nat) (pj : Option Nat) : Prop where
  mem : ∀ (i : Nat) (x : Rec), recs[i]? = some x → (x.dead = true ↔ i ∈ dead)
  lt : ∀ i ∈ dead, i < recs.length
  why : ∀ (i : Nat) (x : Rec), recs[i]? = some x → x.dead = true → (pj = some i ∧ RecOk C ops x ∧ x.run = true ∧ ∃ v, x.r.v = .pan v) ∨ ∃ e ∈ x.o.after, Region.binds .any e = true ∧ e.on ∈ dead
  live : ∀ (i : Nat) (x : Rec), recs[i]? = some x → x.dead = false → RecOk C ops x ∧ ∀ v, x.r.v ≠ .pan v
  pan : ∀ (p : Nat), pj = some p → p ∈ dead ∧ ∃ x : Rec, recs[p]? = some x ∧ RecOk C ops x ∧ x.run = true ∧ ∃ v, x.r.v = .pan v
theorem DOk.nil {C : Ctx} {ops : Array Oper} : DOk C ops [] [] none := ⟨by simp, by simp, by simp, by simp, by simp⟩
theorem getElem?_snoc {α : Type} {l : List α} {a x : α} {i : Nat} (h : (l ++ [a])[i]? = some x) : l[i]? = some x ∨ (i = l.length ∧ x = a) := by
  rw [List.getElem?_append] at h
  split at h
  · exact .inl h
  · rename_i hlt
    have : i - l.length = 0 := by
      rcases Nat.eq_zero_or_pos (i - l.length) with h' | h'
      · exact h'
      · rw [List.getElem?_eq_none (by simp; omega)] at h; cases h
    rw [this] at h
    simp at h
    exact .inr ⟨by omega, h.symm⟩
theorem DOk.add {C : Ctx} {ops : Array Oper} {recs : List Rec} {dead : List Nat} {pj : Option Nat} (h : DOk C ops recs dead pj) {x : Rec} (hd : x.dead = false) (hx : RecOk C ops x) (hnp : ∀ v, x.r.v ≠ .pan v) : DOk C ops (recs ++ [x]) dead pj := by
  have hnm : recs.length ∉ dead := fun hm => by have := h.lt _ hm; omega
  refine ⟨fun i y hy => ?_, fun i hi => by have := h.lt i hi; simp; omega, fun i y hy hdy => ?_, fun i y hy hdy => ?_, fun p hp => ?_⟩
  · rcases getElem?_snoc hy with hy | ⟨rfl, rfl⟩
    · exact h.mem i y hy
    · simp [hd, hnm]
  · rcases getElem?_snoc hy with hy | ⟨rfl, rfl⟩
    · exact h.why i y hy hdy
    · rw [hd] at hdy; cases hdy
  · rcases getElem?_snoc hy with hy | ⟨rfl, rfl⟩
    · exact h.live i y hy hdy
    · exact ⟨hx, hnp⟩
  · obtain ⟨h1, y, hy, h2⟩ := h.pan p hp
    exact ⟨h1, y, by rw [List.getElem?_append_left (List.getElem?_eq_some_iff.1 hy).1]; exact hy, h2⟩
theorem DOk.wait {C : Ctx} {ops : Array Oper} {recs : List Rec} {dead : List Nat} {pj : Option Nat} (h : DOk C ops recs dead pj) {x : Rec} (hd : x.dead = true) (hx : ∃ e ∈ x.o.after, Region.binds .any e = true ∧ e.on ∈ dead) : DOk C ops (recs ++ [x]) (recs.length :: dead) pj := by
  have hne : ∀ i y, recs[i]? = some y → i ≠ recs.length := fun i y hy e => by have := (List.getElem?_eq_some_iff.1 hy).1; omega
  refine ⟨fun i y hy => ?_, fun i hi => ?_, fun i y hy hdy => ?_, fun i y hy hdy => ?_, fun p hp => ?_⟩
  · rcases getElem?_snoc hy with hy | ⟨rfl, rfl⟩
    · rw [h.mem i y hy]; simp [hne i y hy]
    · simp [hd]
  · rcases List.mem_cons.1 hi with rfl | hi
    · simp
    · have := h.lt i hi; simp; omega
  · rcases getElem?_snoc hy with hy | ⟨rfl, rfl⟩
    · rcases h.why i y hy hdy with h1 | ⟨e, h1, h2, h3⟩
      · exact .inl h1
      · exact .inr ⟨e, h1, h2, List.mem_cons_of_mem _ h3⟩
    · obtain ⟨e, h1, h2, h3⟩ := hx
      exact .inr ⟨e, h1, h2, List.mem_cons_of_mem _ h3⟩
  · rcases getElem?_snoc hy with hy | ⟨rfl, rfl⟩
    · exact h.live i y hy hdy
    · rw [hd] at hdy; cases hdy
  · obtain ⟨h1, y, hy, h2⟩ := h.pan p hp
    exact ⟨List.mem_cons_of_mem _ h1, y, by rw [List.getElem?_append_left (List.getElem?_eq_some_iff.1 hy).1]; exact hy, h2⟩
theorem DOk.panics {C : Ctx} {ops : Array Oper} {recs : List Rec} {dead : List Nat} (h : DOk C ops recs dead none) {x : Rec} (hd : x.dead = true) (hx : RecOk C ops x) (hr : x.run = true) (hv : ∃ v, x.r.v = .pan v) : DOk C ops (recs ++ [x]) (recs.length :: dead) (some recs.length) := by
  have hne : ∀ i y, recs[i]? = some y → i ≠ recs.length := fun i y hy e => by have := (List.getElem?_eq_some_iff.1 hy).1; omega
  refine ⟨fun i y hy => ?_, fun i hi => ?_, fun i y hy hdy => ?_, fun i y hy hdy => ?_, fun p hp => ?_⟩
  · rcases getElem?_snoc hy with hy | ⟨rfl, rfl⟩
    · rw [h.mem i y hy]; simp [hne i y hy]
    · simp [hd]
  · rcases List.mem_cons.1 hi with rfl | hi
    · simp
    · have := h.lt i hi; simp; omega
  · rcases getElem?_snoc hy with hy | ⟨rfl, rfl⟩
    · rcases h.why i y hy hdy with h1 | ⟨e, h1, h2, h3⟩
      · cases h1.1
      · exact .inr ⟨e, h1, h2, List.mem_cons_of_mem _ h3⟩
    · exact .inl ⟨rfl, hx, hr, hv⟩
  · rcases getElem?_snoc hy with hy | ⟨rfl, rfl⟩
    · exact h.live i y hy hdy
    · rw [hd] at hdy; cases hdy
  · cases hp
    exact ⟨by simp, x, by simp, hx, hr, hv⟩
theorem vcD_recs {C : Ctx} (hL : LOk C.P C.L) {ops : Array Oper} : ∀ (os : List Oper) (recs : List Rec) (dead : List Nat) (pj : Option Nat) (st : St) (K : List Rec → Option Nat → St → Prop), DOk C ops recs dead pj → vcD C ops os recs dead pj st K →
    ∃ xs dead' pj' st', xs.map (·.o) = os ∧ ChainOk st xs st' ∧ DOk C ops (recs ++ xs) dead' pj' ∧ K (recs ++ xs) pj' st'
  | [], recs, dead, pj, st, K, hD, h => ⟨[], dead, pj, st, rfl, rfl, by simpa using hD, by rw [vcD_nil] at h; simpa using h⟩
  | o :: os, recs, dead, pj, st, K, hD, h => by
    have go : ∀ (x : Rec) (dead' : List Nat) (pj' : Option Nat), x.st = st → x.o = o → DOk C ops (recs ++ [x]) dead' pj' → vcD C ops os (recs ++ [x]) dead' pj' x.next K → ∃ xs dead' pj' st', xs.map (·.o) = o :: os ∧ ChainOk st xs st' ∧ DOk C ops (recs ++ xs) dead' pj' ∧ K (recs ++ xs) pj' st' := fun x dead' pj' h1 h2 h3 h4 => by
      obtain ⟨xs, d2, p2, st2, e1, e2, e3, e4⟩ := vcD_recs hL os _ _ _ _ K h3 h4
      exact ⟨x :: xs, d2, p2, st2, by simp [e1, h2], ⟨h1, e2⟩, by simpa using e3, by simpa using e4⟩
    have run : exP C o st (fun r st' => vcD C ops os (recs ++ [⟨st, o, r, true, false⟩]) dead pj st' K) (fun _ r _ => firstP pj (vcD C ops os (recs ++ [⟨st, o, r, true, true⟩]) (recs.length :: dead) (some recs.length) st K)) → (match o.guard with
        | none => True
        | some (j, want) => ∃ b, gval ops st j = some b ∧ true = runs want b) → ∃ xs dead' pj' st', xs.map (·.o) = o :: os ∧ ChainOk st xs st' ∧ DOk C ops (recs ++ xs) dead' pj' ∧ K (recs ++ xs) pj' st' := fun hx hg => by
      unfold exP at hx
      obtain ⟨r, hs, hr⟩ := ex_ok hL hx
      split at hr
      · rename_i hok
        simp only [stepK_eq] at hr
        have hrec : ∀ b, RecOk C ops ⟨st, o, r, true, b⟩ := fun b => by
          refine ⟨?_, fun _ => ⟨hs, hok⟩, (fun h => by cases h)⟩
          dsimp only
          split
          · rfl
          · rename_i j want hgu; rw [hgu] at hg; exact hg
        unfold panK at hr
        split at hr
        · rename_i v hv
          cases pj with
          | none => exact go ⟨st, o, r, true, true⟩ _ _ rfl rfl (hD.panics rfl (hrec true) rfl ⟨v, hv⟩) hr
          | some p => exact hr.elim
        · rename_i hnp
          exact go ⟨st, o, r, true, false⟩ _ _ rfl rfl (hD.add rfl (hrec false) hnp) hr
      · exact hr.elim
    rw [vcD_cons] at h
    split at h
    · rename_i hdb
      refine go ⟨st, o, pureR .und, false, true⟩ _ _ rfl rfl (hD.wait rfl ?_) h
      obtain ⟨e, h1, h2⟩ := List.any_eq_true.1 hdb
      simp only [Bool.and_eq_true] at h2
      exact ⟨e, by simpa using h1, h2.1, memN_mem.1 h2.2⟩
    · split at h
      · rename_i hg
        exact run h (by rw [hg]; trivial)
      · rename_i j want hg
        split at h
        · rename_i b hb
          split at h
          · rename_i hbw
            exact run h (by rw [hg]; exact ⟨b, hb, hbw.symm⟩)
          · rename_i hbw
            rw [stepK_eq] at h
            exact go ⟨st, o, pureR .und, false, false⟩ _ _ rfl rfl (hD.add rfl ⟨by dsimp only; rw [hg]; exact ⟨b, hb, hbw.symm⟩, (fun h => by cases h), fun _ => rfl⟩ (fun v h => by cases h)) h
        · exact h.elim
theorem chain_at {xs : List Rec} : ∀ {st st' : St} (i : Nat), ChainOk st xs st' → ∀ (m : Nat) (x : Rec), xs[m]? = some x →
    (∀ t, ov (xs.map uT) (fun j => decide (j < i + m)) i (findL st.tm) t = findL x.st.tm t) ∧ (∀ t, ov (xs.map uM) (fun j => decide (j < i + m)) i (findL st.mem) t = findL x.st.mem t) := by
  induction xs with
  | nil => intro st st' i _ m x h; simp at h
  | cons y ys ih =>
    intro st st' i hc m x hx
    obtain ⟨rfl, hc⟩ := hc
    cases m with
    | zero =>
      simp only [List.getElem?_cons_zero, Option.some.injEq] at hx
      subst hx
      exact ⟨fun t => ov_false _ _ _ _ _ (fun j u _ _ => by simp), fun t => ov_false _ _ _ _ _ (fun j u _ _ => by simp)⟩
    | succ m =>
      obtain ⟨h1, h2⟩ := ih (i + 1) hc m x (by simpa using hx)
      have e : i + (m + 1) = i + 1 + m := by omega
      have hd : decide (i < i + 1 + m) = true := decide_eq_true (by omega)
      simp only [List.map_cons, ov, e, hd]
      rw [app_uT, app_uM]
      exact ⟨h1, h2⟩
theorem chain_end {xs : List Rec} : ∀ {st st' : St} (i : Nat) (X : Nat → Bool), ChainOk st xs st' → (∀ j, j < xs.length → X (i + j) = true) → ov (xs.map uT) X i (findL st.tm) = findL st'.tm ∧ ov (xs.map uM) X i (findL st.mem) = findL st'.mem := by
  induction xs with
  | nil => intro st st' i X hc _; cases hc; exact ⟨rfl, rfl⟩
  | cons y ys ih =>
    intro st st' i X hc hX
    obtain ⟨rfl, hc⟩ := hc
    have h0 := hX 0 (by simp)
    simp only [Nat.add_zero] at h0
    have := ih (i + 1) X hc (fun j hj => by have := hX (j + 1) (by simpa using hj); rwa [show i + (j + 1) = i + 1 + j by omega] at this)
    simp only [List.map_cons, ov, h0]
    rw [app_uT, app_uM]
    exact this
theorem chain_sub {xs : List Rec} : ∀ {st st' : St}, ChainOk st xs st' → ∀ (m : Nat) (x : Rec), xs[m]? = some x → (∀ p ∈ st.tm, p ∈ x.st.tm) ∧ (∀ p ∈ st.mem, p ∈ x.st.mem) := by
  induction xs with
  | nil => intro st st' _ m x h; simp at h
  | cons y ys ih =>
    intro st st' hc m x hx
    obtain ⟨rfl, hc⟩ := hc
    cases m with
    | zero =>
      simp only [List.getElem?_cons_zero, Option.some.injEq] at hx
      subst hx
      exact ⟨fun _ h => h, fun _ h => h⟩
    | succ m =>
      obtain ⟨h1, h2⟩ := ih hc m x (by simpa using hx)
      refine ⟨fun p hp => h1 p ?_, fun p hp => h2 p ?_⟩
      · unfold Rec.next; split
        · exact hp
        · unfold St.step; split <;> simp [hp]
      · unfold Rec.next; split
        · exact hp
        · unfold St.step; simp [hp]
theorem chain_made {xs : List Rec} : ∀ {st st' : St}, ChainOk st xs st' → ∀ (m j : Nat) (x y : Rec), xs[m]? = some x → xs[j]? = some y → j < m → (∀ d, y.dead = false → y.o.dst = some d → (d, y.r.v) ∈ x.st.tm) ∧ (∀ p ∈ y.ws, p ∈ x.st.mem) := by
  induction xs with
  | nil => intro st st' _ m j x y h; simp at h
  | cons z zs ih =>
    intro st st' hc m j x y hx hy hj
    obtain ⟨rfl, hc⟩ := hc
    cases m with
    | zero => omega
    | succ m =>
      cases j with
      | zero =>
        simp only [List.getElem?_cons_zero, Option.some.injEq] at hy
        subst hy
        obtain ⟨h1, h2⟩ := chain_sub hc m x (by simpa using hx)
        refine ⟨fun d hdd hd => h1 _ ?_, fun p hp => h2 p ?_⟩
        · unfold Rec.next; rw [hdd]; unfold St.step; rw [hd]; simp
        · unfold Rec.ws at hp
          unfold Rec.next
          split at hp
          · cases hp
          · unfold St.step
            simp only [List.mem_append] at hp ⊢
            rcases hp with hp | hp
            · exact .inl hp
            · exact .inr (.inl hp)
      | succ j => exact ih hc m j x y (by simpa using hx) (by simpa using hy) (by omega)

/-! ### What must come ahead -/
theorem mask_spec {o : Oper} {acc : List Nat} {j : Nat} (h : (maskOf o acc).testBit j = true) : ∃ e ∈ o.after, Region.binds .any e = true ∧ (e.on = j ∨ (acc.getD e.on 0).testBit j = true) := by
  have key : ∀ (l : List Edge) (s : Nat), (l.foldl (fun s e => match Region.binds .any e with | true => s ||| 2 ^ e.on ||| acc.getD e.on 0 | false => s) s).testBit j = true → s.testBit j = true ∨ ∃ e ∈ l, Region.binds .any e = true ∧ (e.on = j ∨ (acc.getD e.on 0).testBit j = true) := by
    intro l
    induction l with
    | nil => intro s h; exact .inl h
    | cons e l ih =>
      intro s h
      simp only [List.foldl_cons] at h
      rcases ih _ h with h | ⟨e', he', h1, h2⟩
      · cases hb : Region.binds .any e with
        | false => rw [hb] at h; exact .inl h
        | true =>
          rw [hb] at h
          simp only [Nat.testBit_or, Bool.or_eq_true] at h
          rcases h with (h | h) | h
          · exact .inl h
          · rw [Nat.testBit_two_pow] at h
            exact .inr ⟨e, by simp, hb, .inl (by simpa using h)⟩
          · exact .inr ⟨e, by simp, hb, .inr h⟩
      · exact .inr ⟨e', by simp [he'], h1, h2⟩
  rcases key o.after.toList 0 h with h | ⟨e, he, h1, h2⟩
  · simp at h
  · exact ⟨e, by simpa using he, h1, h2⟩
theorem masks_at : ∀ (os : List Oper) (acc : List Nat) (i : Nat), (i < acc.length → (masks os acc).getD i 0 = acc.getD i 0) ∧ (∀ k o, os[k]? = some o → ∃ acc', (masks os acc).getD (acc.length + k) 0 = maskOf o acc' ∧ ∀ m, m < acc.length + k → acc'.getD m 0 = (masks os acc).getD m 0) ∧ ((masks os acc).length = acc.length + os.length)
  | [], acc, i => ⟨fun _ => rfl, fun k o h => by simp at h, by simp [masks]⟩
  | o :: os, acc, i => by
    obtain ⟨h1, h2, h3⟩ := masks_at os (acc ++ [maskOf o acc]) i
    have hpre : ∀ i, i < acc.length + 1 → (masks os (acc ++ [maskOf o acc])).getD i 0 = (acc ++ [maskOf o acc]).getD i 0 := fun i hi => (masks_at os (acc ++ [maskOf o acc]) i).1 (by simpa using hi)
    simp only [masks]
    refine ⟨fun hi => ?_, fun k o' hk => ?_, by simp [h3]; omega⟩
    · rw [hpre i (by omega)]
      simp [List.getD, hi, List.getElem?_append_left hi]
    · cases k with
      | zero =>
        simp only [List.getElem?_cons_zero, Option.some.injEq] at hk
        subst hk
        refine ⟨acc, ?_, fun m hm => ?_⟩
        · rw [Nat.add_zero, hpre _ (by omega)]; simp [List.getD]
        · rw [hpre m (by omega)]; simp only [Nat.add_zero] at hm; simp [List.getD, hm, List.getElem?_append_left hm]
      | succ k =>
        obtain ⟨acc', e1, e2⟩ := h2 k o' (by simpa using hk)
        simp only [List.length_append, List.length_cons, List.length_nil] at e1 e2
        refine ⟨acc', by rw [← e1]; congr 1; omega, fun m hm => e2 m (by omega)⟩
theorem masks_down {ops : List Oper} (hb : backL ops = true) {X : Nat → Bool} (hX : ∀ i o, ops[i]? = some o → X i = true → ∀ e ∈ o.after, Region.binds .any e = true → X e.on = true) :
    ∀ (i : Nat), i < ops.length → X i = true → ∀ j, ((masks ops []).getD i 0).testBit j = true → X j = true := by
  intro i
  induction i using Nat.strongRecOn with
  | _ i ih =>
    intro hi hXi j hj
    obtain ⟨o, ho⟩ : ∃ o, ops[i]? = some o := ⟨_, List.getElem?_eq_getElem hi⟩
    obtain ⟨acc', e1, e2⟩ := (masks_at ops [] 0).2.1 i o ho
    simp only [List.length_nil, Nat.zero_add] at e1 e2
    rw [e1] at hj
    obtain ⟨e, he, h1, h2⟩ := mask_spec hj
    have hXe := hX i o ho hXi e he h1
    have hlt : e.on < i := by
      have := List.all_eq_true.1 hb (o, i) (by
        rw [List.mem_iff_getElem?]
        exact ⟨i, by simp [ho]⟩)
      have := List.all_eq_true.1 this e (by simpa using he)
      simp only [h1, Bool.not_true, Bool.false_or] at this
      exact Nat.lt_of_succ_le (Nat.le_of_ble_eq_true this)
    rcases h2 with h2 | h2
    · rw [← h2]; exact hXe
    · rw [e2 e.on hlt] at h2
      exact ih e.on hlt (by omega) hXe j h2
theorem countP_lt {α : Type} {p q : α → Bool} : ∀ {l : List α} {x : α}, (∀ y ∈ l, q y = true → p y = true) → x ∈ l → p x = true → q x = false → l.countP q < l.countP p
  | y :: l, x, hle, hx, hp, hq => by
    have hmono : l.countP q ≤ l.countP p := List.countP_mono_left fun z hz => hle z (by simp [hz])
    rcases List.mem_cons.1 hx with rfl | hx
    · rw [List.countP_cons, List.countP_cons]
      simp only [hp, hq, if_true, Bool.false_eq_true, if_false]
      omega
    · have ih := countP_lt (fun z hz => hle z (by simp [hz])) hx hp hq (l := l)
      rw [List.countP_cons, List.countP_cons]
      have := hle y (by simp)
      split <;> split <;> first | omega | (rename_i h1 h2; exact absurd (this h1) h2)
end Go.Proofs.YtkeehnhamkdogaaDoor
