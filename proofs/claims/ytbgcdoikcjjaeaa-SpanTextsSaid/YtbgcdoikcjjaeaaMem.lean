/- A region that draws its order and makes variables (alloc, store) beside reads and calls: one walk in the text's order of the reads and calls serves every order; the variables' blocks are then named. No condition. -/
import Derived.Test.YtbgcdoikcjjaeaaBase
import Derived.Laws.CopyOwn
namespace Go.Proofs.Ytbgcdoikcjjaeaa
open Go.RowKit

section
variable {P : Program}

/-- A rely-guarantee law for a region in any order: what holds of the operations listed so far is kept by each that may come up. -/
theorem wpAny_inv {ops : Array Oper} {Q : Exit → Act → World → Prop} (Inv : Array Bool → Act → World → Prop) (hb : backB .any ops = true)
    (step : ∀ (listed : Array Bool) (i : Nat) (o : Oper) (a : Act) (w : World), listed.size = ops.size → ops[i]? = some o → listed.getD i true = false →
      (∀ j oj, ops[j]? = some oj → listed.getD j false = true → ∀ e ∈ oj.after, Region.binds .any e = true → listed.getD e.on false = true) →
      (∀ e ∈ o.after, Region.binds .any e = true → listed.getD e.on false = true) → Inv listed a w →
      wpOp P ops Q i (fun a' w' => Inv (listed.setIfInBounds i true) a' w') a w)
    (done : ∀ (listed : Array Bool) (a : Act) (w : World), (∀ i, i < ops.size → listed.getD i false = true) → Inv listed a w → Q .normal a w) :
    ∀ (fuel : Nat) (listed : Array Bool) (a : Act) (w : World), listed.size = ops.size →
      (∀ j oj, ops[j]? = some oj → listed.getD j false = true → ∀ e ∈ oj.after, Region.binds .any e = true → listed.getD e.on false = true) →
      (List.range ops.size).countP (fun i => !listed.getD i false) ≤ fuel → Inv listed a w → wpAny P .any ops Q fuel listed a w := by
  have allOf : ∀ (listed : Array Bool), listed.size = ops.size → Region.ready .any ops listed = [] → ∀ i, i < ops.size → listed.getD i false = true := fun listed hs hr => by
    intro i
    induction i using Nat.strongRecOn with
    | _ i ih =>
      intro hi
      cases hl : listed.getD i false with
      | true => rfl
      | false =>
        have hun : listed.getD i true = false := getD_in (by omega) hl
        have ho : ops[i]? = some ops[i] := by simp
        have : i ∈ Region.ready .any ops listed := mem_ready.2 ⟨hun, _, ho, fun e he hbd => ih e.on (backB_spec hb ho he hbd) (by have := backB_spec hb ho he hbd; omega)⟩
        rw [hr] at this
        cases this
  intro fuel
  induction fuel with
  | zero =>
    intro listed a w hs hc hcnt hinv
    have hall : ∀ i, i < ops.size → listed.getD i false = true := fun i hi => by
      have h0 : (List.range ops.size).countP (fun i => !listed.getD i false) = 0 := by omega
      rw [List.countP_eq_zero] at h0
      have := h0 i (List.mem_range.2 hi)
      simpa using this
    refine ⟨?_, done _ _ _ hall hinv⟩
    cases hr : Region.ready .any ops listed with
    | nil => rfl
    | cons x xs =>
      have hx : x ∈ Region.ready .any ops listed := by rw [hr]; simp
      obtain ⟨hun, o, ho, _⟩ := mem_ready.1 hx
      have h1 := hall x (Array.getElem?_eq_some_iff.1 ho).1
      rw [getD_both hun] at h1
      cases h1
  | succ fuel ih =>
    intro listed a w hs hc hcnt hinv
    refine ⟨fun hr => done _ _ _ (allOf listed hs hr) hinv, fun i hi => ?_⟩
    obtain ⟨hun, o, ho, hall⟩ := mem_ready.1 hi
    have hil : i < ops.size := (Array.getElem?_eq_some_iff.1 ho).1
    refine wpOp_mono (fun a' w' h' => ih _ a' w' (by simp [hs]) ?_ ?_ h') (step listed i o a w hs ho hun hc hall hinv)
    · intro j oj hj hl e he hbd
      by_cases hij : i = j
      · subst hij
        have : oj = o := Option.some.inj (hj.symm.trans ho)
        subst this
        exact getD_set_true (hall e he hbd)
      · rw [getD_set_ne false hij] at hl
        exact getD_set_true (hc j oj hj hl e he hbd)
    · have hlt : (List.range ops.size).countP (fun j => !(listed.setIfInBounds i true).getD j false) < (List.range ops.size).countP (fun j => !listed.getD j false) := by
        have hnd : (List.range ops.size).Nodup := List.nodup_range
        have key : ∀ L : List Nat, L.Nodup → (L.countP (fun j => !(listed.setIfInBounds i true).getD j false)) + (if i ∈ L then 1 else 0) = L.countP (fun j => !listed.getD j false) := by
          intro L
          induction L with
          | nil => intro _; simp
          | cons x L ihL =>
            intro hn
            rw [List.nodup_cons] at hn
            have h1 := ihL hn.2
            by_cases hx : x = i
            · subst hx
              have h2 : (listed.setIfInBounds x true).getD x false = true := by
                have : x < listed.size := by omega
                simp [this]
              have h3 : listed.getD x false = false := getD_both hun
              simp only [List.countP_cons, h2, h3, List.mem_cons, true_or, if_true]
              rw [if_neg hn.1] at h1
              simp only [Bool.not_true, Bool.not_false, if_true, Bool.false_eq_true, if_false]
              omega
            · rw [List.countP_cons, List.countP_cons, getD_set_ne false (Ne.symm hx)]
              have h4 : (i ∈ x :: L) ↔ i ∈ L := by simp [Ne.symm hx]
              simp only [h4]
              omega
        have := key _ hnd
        rw [if_pos (List.mem_range.2 hil)] at this
        omega
      omega

/-! ### The operations that make variables, and the others -/
def memB (o : Oper) : Bool := match o.op with
  | .alloc _ => true
  | .store _ _ _ => true
  | _ => false
def strip (o : Oper) : Oper := if memB o then { o with dst := none, op := .move (.const undef), guard := none } else o
theorem strip_quiet {o : Oper} (h : memB o = false) : strip o = o := by simp [strip, h]
theorem strip_mem_dst {o : Oper} (h : memB o = true) : (strip o).dst = none := by simp [strip, h]

/-- What the quiet walk's end says an operation has left in its slot. -/
def valOf (af : Act) (o : Oper) : Value := match o.dst with
  | some d => af.tmps.getD d undef
  | none => undef
/-- The lexical state ahead of operation number i. -/
def lexA (a0 af : Act) (l : List Oper) (i : Nat) : Act := (l.take i).foldl (fun a o => a.put o.dst (valOf af o)) a0

def uniqB (l : List Oper) : Bool := (List.range l.length).all fun i => (List.range l.length).all fun j => decide (j ≤ i) || (match (l[i]?).bind (·.dst), (l[j]?).bind (·.dst) with
  | some d, some d' => d != d'
  | _, _ => true)
theorem uniqB_spec {l : List Oper} (h : uniqB l = true) {i j : Nat} {oi oj : Oper} {d : Tmp} (hi : l[i]? = some oi) (hj : l[j]? = some oj) (hd : oi.dst = some d) (hd' : oj.dst = some d) : i = j := by
  have key : ∀ (i j : Nat) (oi oj : Oper), l[i]? = some oi → l[j]? = some oj → oi.dst = some d → oj.dst = some d → ¬ i < j := by
    intro i j oi oj hi hj hd hd' hlt
    have h1 := List.all_eq_true.1 (List.all_eq_true.1 h i (List.mem_range.2 (List.getElem?_eq_some_iff.1 hi).1)) j (List.mem_range.2 (List.getElem?_eq_some_iff.1 hj).1)
    simp [hi, hj, hd, hd'] at h1
    omega
  have h1 := key i j oi oj hi hj hd hd'
  have h2 := key j i oj oi hj hi hd' hd
  omega

theorem put_get_ne {a : Act} {x : Option Tmp} {v : Value} {t : Nat} (h : x ≠ some t) : (a.put x v).tmps[t]? = a.tmps[t]? := by
  cases x with
  | none => rfl
  | some d =>
    have : d ≠ t := fun e => h (by rw [e])
    simp [Act.put, Array.getElem?_setIfInBounds_ne this]
theorem put_get_same {a : Act} {d : Nat} {v : Value} (h : d < a.tmps.size) : (a.put (some d) v).tmps[d]? = some v := by simp [Act.put, h]
theorem put_size (a : Act) (x : Option Tmp) (v : Value) : (a.put x v).tmps.size = a.tmps.size := by cases x <;> simp [Act.put]

/-- The rest of a quiet walk leaves alone what it does not write. -/
theorem quiet_keep {ops : Array Oper} {C : World → Prop} {af : Act} {t : Nat} : ∀ (l : List Oper) (a : Act), (∀ o ∈ l, o.dst ≠ some t) → wpQuiet P ops C (fun a' => a' = af) l a → af.tmps[t]? = a.tmps[t]? ∧ af.tmps.size = a.tmps.size
  | [], a, _, h => by
    have : a = af := h
    subst this
    exact ⟨rfl, rfl⟩
  | o :: l, a, hd, h => by
    unfold wpQuiet at h
    split at h
    · obtain ⟨v, _, h2⟩ := h
      have := quiet_keep l _ (fun o' ho' => hd o' (by simp [ho'])) h2
      rw [put_get_ne (hd o (by simp)), put_size] at this
      exact this
    · have := quiet_keep l _ (fun o' ho' => hd o' (by simp [ho'])) h
      rw [put_get_ne (hd o (by simp)), put_size] at this
      exact this

/-- What each operation of a quiet walk yields, at its lexical state. -/
theorem quiet_yields {ops : Array Oper} {C : World → Prop} {af : Act} : ∀ (l : List Oper) (a : Act), uniqB l = true → (∀ o ∈ l, ∀ d, o.dst = some d → d < a.tmps.size) → wpQuiet P ops C (fun a' => a' = af) l a →
    ∀ k o, l[k]? = some o → ∃ v, YieldsIn P ops C o v (lexA a af l k) ∧ (∀ d, o.dst = some d → af.tmps[d]? = some v)
  | [], _, _, _, _, k, o, hk => by simp at hk
  | o0 :: l, a, hu, hbd, h, k, o, hk => by
    have hu' : uniqB l = true := by
      unfold uniqB
      refine List.all_eq_true.2 fun i hi => List.all_eq_true.2 fun j hj => ?_
      have h1 := List.all_eq_true.1 (List.all_eq_true.1 hu (i + 1) (by simpa using hi)) (j + 1) (by simpa using hj)
      simpa using h1
    have hfree : ∀ d, o0.dst = some d → ∀ o' ∈ l, o'.dst ≠ some d := fun d hd o' ho' hd' => by
      obtain ⟨j, hj⟩ := List.getElem?_of_mem ho'
      have := uniqB_spec hu (i := 0) (j := j + 1) (oi := o0) (oj := o') rfl (by simpa using hj) hd hd'
      omega
    have core : ∀ v, YieldsIn P ops C o0 v a → wpQuiet P ops C (fun a' => a' = af) l (a.put o0.dst v) →
        (∃ v, YieldsIn P ops C o v (lexA a af (o0 :: l) k) ∧ (∀ d, o.dst = some d → af.tmps[d]? = some v)) := by
      intro v hy hq
      have hval : ∀ d, o0.dst = some d → af.tmps[d]? = some v := fun d hd => by
        have := (quiet_keep l _ (hfree d hd) hq).1
        rw [this, hd]
        exact put_get_same (hbd o0 (by simp) d hd)
      have hput : a.put o0.dst v = a.put o0.dst (valOf af o0) := by
        cases hd : o0.dst with
        | none => rfl
        | some d =>
          have : valOf af o0 = v := by simp [valOf, hd, hval d hd]
          rw [this]
      cases k with
      | zero =>
        simp only [List.getElem?_cons_zero, Option.some.injEq] at hk
        subst hk
        exact ⟨v, by simpa [lexA] using hy, hval⟩
      | succ k =>
        simp only [List.getElem?_cons_succ] at hk
        rw [hput] at hq
        have := quiet_yields l _ hu' (fun o' ho' d hd => by rw [put_size]; exact hbd o' (by simp [ho']) d hd) hq k o hk
        simpa [lexA] using this
    unfold wpQuiet at h
    by_cases hw : Region.wanted o0 (yielded ops a.tmps) = true
    · rw [if_pos hw] at h
      obtain ⟨v, h1, h2⟩ := h
      exact core v (.inl ⟨hw, h1⟩) h2
    · rw [if_neg hw] at h
      exact core undef (.inr ⟨by simpa using hw, rfl⟩) h

/-- The lexical state's slots. -/
theorem lexA_none {af : Act} {t : Nat} : ∀ (l : List Oper) (i : Nat) (a0 : Act), (∀ j o, j < i → l[j]? = some o → o.dst ≠ some t) → (lexA a0 af l i).tmps[t]? = a0.tmps[t]? := by
  intro l
  induction l with
  | nil => intro i a0 _; simp [lexA]
  | cons o l ih =>
    intro i a0 h
    cases i with
    | zero => simp [lexA]
    | succ i =>
      have h1 := ih i (a0.put o.dst (valOf af o)) (fun j o' hj ho' => h (j + 1) o' (by omega) (by simpa using ho'))
      have h2 : lexA a0 af (o :: l) (i + 1) = lexA (a0.put o.dst (valOf af o)) af l i := by simp [lexA]
      rw [h2, h1]
      exact put_get_ne (h 0 o (by omega) rfl)
theorem lexA_size {af : Act} : ∀ (l : List Oper) (i : Nat) (a0 : Act), (lexA a0 af l i).tmps.size = a0.tmps.size := by
  intro l
  induction l with
  | nil => intro i a0; simp [lexA]
  | cons o l ih =>
    intro i a0
    cases i with
    | zero => simp [lexA]
    | succ i =>
      have h2 : lexA a0 af (o :: l) (i + 1) = lexA (a0.put o.dst (valOf af o)) af l i := by simp [lexA]
      rw [h2, ih, put_size]
theorem lexA_some {af : Act} {t : Nat} : ∀ (l : List Oper) (i : Nat) (a0 : Act) (j : Nat) (o : Oper), uniqB l = true → j < i → l[j]? = some o → o.dst = some t → t < a0.tmps.size → (lexA a0 af l i).tmps[t]? = some (af.tmps.getD t undef) := by
  intro l
  induction l with
  | nil => intro i a0 j o _ _ hj; simp at hj
  | cons o0 l ih =>
    intro i a0 j o hu hji hj hd ht
    cases i with
    | zero => omega
    | succ i =>
      have h2 : lexA a0 af (o0 :: l) (i + 1) = lexA (a0.put o0.dst (valOf af o0)) af l i := by simp [lexA]
      have hu' : uniqB l = true := by
        unfold uniqB
        refine List.all_eq_true.2 fun i hi => List.all_eq_true.2 fun j hj => ?_
        have h1 := List.all_eq_true.1 (List.all_eq_true.1 hu (i + 1) (by simpa using hi)) (j + 1) (by simpa using hj)
        simpa using h1
      rw [h2]
      cases j with
      | zero =>
        simp only [List.getElem?_cons_zero, Option.some.injEq] at hj
        subst hj
        rw [lexA_none l i _ (fun j' o' _ ho' hd' => by
          have := uniqB_spec hu (i := 0) (j := j' + 1) (oi := o0) (oj := o') rfl (by simpa using ho') hd hd'
          omega), hd, put_get_same ht]
        simp [valOf, hd]
      | succ j =>
        exact ih i _ j o hu' (by omega) (by simpa using hj) hd (by rw [put_size]; exact ht)

/-! ### The region that makes variables -/

/-- The slots that an operation looks at, its guard's among them. -/
def looksB (l : List Oper) (i : Nat) (o : Oper) : Bool :=
  (o.looksAt l.toArray).all fun t => (List.range l.length).all fun j => match l[j]? with
    | some oj => oj.dst != some t || decide (j = i) || (decide (j < i) && Region.waitsFor .any l.toArray i j && !memB oj) || (decide (i < j) && Region.waitsFor .any l.toArray j i)
    | none => true
/-- Slot t, read by the store i: written, if at all, by a quiet operation that i waits for. -/
def lateB (l : List Oper) (i : Nat) (t : Tmp) : Bool :=
  (List.range l.length).all fun j => match l[j]? with
    | some oj => oj.dst != some t || (decide (j < i) && Region.waitsFor .any l.toArray i j && !memB oj)
    | none => true
def formB (l : List Oper) : Bool := (List.range l.length).all fun i => match l[i]? with
  | some o => match o.op with
    | .alloc _ => o.guard.isNone && o.dst.isSome
    | .store T (.tmp p) y => o.guard.isNone && o.dst.isNone && (match y with | .tmp s => lateB l i s | _ => true) &&
        (List.range l.length).any fun j => match l[j]? with
          | some oj => (match oj.op with | .alloc T' => decide (T' = T) | _ => false) && decide (oj.dst = some p) && Region.waitsFor .any l.toArray i j
          | none => false
    | .store _ _ _ => false
    | _ => looksB l i o && (match o.guard with
      | some (g, _) => (match l[g]? with | some og => !memB og | none => true)
      | none => true)
  | none => true
def oneStoreB (l : List Oper) : Bool := (List.range l.length).all fun i => (List.range l.length).all fun j => decide (i = j) || (match (l[i]?).map Oper.op, (l[j]?).map Oper.op with
  | some (Op.store _ (.tmp p) _), some (Op.store _ (.tmp p') _) => p != p'
  | _, _ => true)
def allocB (P : Program) (l : List Oper) : Bool := l.all fun o => match o.op with
  | .alloc T => match P.info? T with
    | some inf => match inf.zero with
      | some z => decide (z.cells.size = inf.size)
      | none => false
    | none => false
  | _ => true
def sizesB (l : List Oper) (m : Nat) : Bool := l.all fun o => match o.dst with
  | some d => decide (d < m)
  | none => true
/-- Each store's value fits its type. -/
def storesOK (P : Program) (af : Act) : List Oper → Prop
  | [] => True
  | o :: r => (match o.op with
    | .store T _ y => (P.info? T).map (·.size) = some (af.eval y).cells.size ∧ (af.eval y).cells.all (·.oneCell') = true
    | _ => True) ∧ storesOK P af r
theorem storesOK_spec {af : Act} : ∀ (l : List Oper), storesOK P af l → ∀ (k : Nat) (o : Oper) (T : TypeId) (x y : Operand), l[k]? = some o → o.op = .store T x y → (P.info? T).map (·.size) = some (af.eval y).cells.size ∧ (af.eval y).cells.all (·.oneCell') = true
  | [], _, k, _, _, _, _, h, _ => by simp at h
  | o :: r, hs, 0, o', T, x, y, h, ho => by
    simp only [List.getElem?_cons_zero, Option.some.injEq] at h
    subst h
    have := hs.1
    rw [ho] at this
    exact this
  | o :: r, hs, k + 1, o', T, x, y, h, ho => storesOK_spec r hs.2 k o' T x y (by simpa using h) ho
/-- The frame behind the region: the variables' slots hold their blocks. -/
def putPtrs (ptr : Nat → Nat) : List Oper → Nat → Act → Act
  | [], _, a => a
  | o :: r, k, a => putPtrs ptr r (k + 1) (match o.op with | .alloc _ => a.put o.dst (.pointer (some ⟨ptr k, 0, none⟩)) | _ => a)

theorem putPtrs_size (ptr : Nat → Nat) : ∀ (l : List Oper) (k : Nat) (a : Act), (putPtrs ptr l k a).tmps.size = a.tmps.size ∧ (putPtrs ptr l k a).defers = a.defers
  | [], _, _ => ⟨rfl, rfl⟩
  | o :: r, k, a => by
    have := putPtrs_size ptr r (k + 1) (match o.op with | .alloc _ => a.put o.dst (.pointer (some ⟨ptr k, 0, none⟩)) | _ => a)
    unfold putPtrs
    rw [this.1, this.2]
    split
    · exact ⟨put_size _ _ _, by cases o.dst <;> rfl⟩
    · exact ⟨rfl, rfl⟩
theorem putPtrs_none (ptr : Nat → Nat) {t : Nat} : ∀ (l : List Oper) (k : Nat) (a : Act), (∀ (i : Nat) (o : Oper) (T : TypeId), l[i]? = some o → o.op = .alloc T → o.dst ≠ some t) → (putPtrs ptr l k a).tmps[t]? = a.tmps[t]?
  | [], _, _, _ => rfl
  | o :: r, k, a, h => by
    unfold putPtrs
    rw [putPtrs_none ptr r (k + 1) _ (fun i o' T ho' hT => h (i + 1) o' T (by simpa using ho') hT)]
    split
    · rename_i T hT
      exact put_get_ne (h 0 o T rfl hT)
    · rfl
theorem putPtrs_some (ptr : Nat → Nat) {t : Nat} : ∀ (l : List Oper) (k : Nat) (a : Act) (i : Nat) (o : Oper) (T : TypeId), uniqB l = true → l[i]? = some o → o.op = .alloc T → o.dst = some t → t < a.tmps.size →
    (putPtrs ptr l k a).tmps[t]? = some (.pointer (some ⟨ptr (k + i), 0, none⟩))
  | [], _, _, i, _, _, _, h, _, _, _ => by simp at h
  | o0 :: r, k, a, i, o, T, hu, h, hT, hd, ht => by
    have hu' : uniqB r = true := by
      unfold uniqB
      refine List.all_eq_true.2 fun i hi => List.all_eq_true.2 fun j hj => ?_
      have h1 := List.all_eq_true.1 (List.all_eq_true.1 hu (i + 1) (by simpa using hi)) (j + 1) (by simpa using hj)
      simpa using h1
    unfold putPtrs
    cases i with
    | zero =>
      simp only [List.getElem?_cons_zero, Option.some.injEq] at h
      subst h
      rw [putPtrs_none ptr r (k + 1) _ (fun j o' T' ho' _ hd' => by
        have := uniqB_spec hu (i := 0) (j := j + 1) (oi := o0) (oj := o') rfl (by simpa using ho') hd hd'
        omega)]
      simp only [hT, hd]
      exact put_get_same ht
    | succ i =>
      have := putPtrs_some ptr r (k + 1) (match o0.op with | .alloc _ => a.put o0.dst (.pointer (some ⟨ptr k, 0, none⟩)) | _ => a) i o T hu' (by simpa using h) hT hd (by split <;> simp [put_size, ht])
      rw [this]
      congr 5
      omega

theorem eval_get {a b : Act} {t : Tmp} (h : a.tmps[t]? = b.tmps[t]?) : a.eval (.tmp t) = b.eval (.tmp t) := by
  simp only [Act.eval, Array.getD_eq_getD_getElem?, h]

/-- What holds while the region runs. -/
structure MemInv (P : Program) (l : List Oper) (a0 af : Act) (W : World) (ptr : Nat → Nat) (listed : Array Bool) (a : Act) (w : World) : Prop where
  size : a.tmps.size = a0.tmps.size
  defers : a.defers = a0.defers
  old : ∀ t : Nat, (∀ (i : Nat) (o : Oper), l[i]? = some o → listed.getD i false = true → o.dst ≠ some t) → a.tmps[t]? = a0.tmps[t]?
  done : ∀ (i : Nat) (o : Oper) (t : Nat), l[i]? = some o → listed.getD i false = true → memB o = false → o.dst = some t → a.tmps[t]? = af.tmps[t]?
  made : ∀ (i : Nat) (o : Oper) (T : TypeId) (t : Nat), l[i]? = some o → listed.getD i false = true → o.op = .alloc T → o.dst = some t → a.tmps[t]? = some (.pointer (some ⟨ptr i, 0, none⟩))
  below : Below W.heap.size W w
  there : ∀ (i : Nat) (o : Oper) (T : TypeId), l[i]? = some o → listed.getD i false = true → o.op = .alloc T → W.heap.size ≤ ptr i ∧ ptr i < w.heap.size ∧ ∃ c, w.heap[ptr i]? = some (.cells c T (0, 0)) ∧ (P.info? T).map (·.size) = some c.size
  stored : ∀ (i k : Nat) (oi ok : Oper) (T T' : TypeId) (d : Tmp) (y : Operand), l[i]? = some oi → oi.op = .alloc T → oi.dst = some d → l[k]? = some ok → ok.op = .store T' (.tmp d) y → listed.getD k false = true →
    w.heap[ptr i]? = some (.cells (af.eval y).cells T (0, 0))
  apart : ∀ (i j : Nat) (oi oj : Oper) (T T' : TypeId), i ≠ j → l[i]? = some oi → l[j]? = some oj → listed.getD i false = true → listed.getD j false = true → oi.op = .alloc T → oj.op = .alloc T' → ptr i ≠ ptr j

theorem set_listed {listed : Array Bool} {i j : Nat} (h : (listed.setIfInBounds i true).getD j false = true) : j = i ∨ listed.getD j false = true := by
  by_cases hij : i = j
  · exact .inl hij.symm
  · rw [getD_set_ne false hij] at h
    exact .inr h

theorem memB_alloc {o : Oper} {T : TypeId} (h : o.op = .alloc T) : memB o = true := by simp [memB, h]
theorem memB_store {o : Oper} {T : TypeId} {x y : Operand} (h : o.op = .store T x y) : memB o = true := by simp [memB, h]

theorem run_alloc_any {T : TypeId} {inf : TypeInfo} {z : Value} (hi : P.info? T = some inf) (hz : inf.zero = some z) (w : World) :
    (Instr.alloc T true (.tuple #[])).run P w = .ok (.pointer (some ⟨w.heap.size, 0, none⟩)) (w.alloc (.cells z.cells T)) := by
  simp [Instr.alloc, zeroValue, typeInfo, hi, hz, newVar, newRow]

theorem run_store_whole {w : World} {g : Nat} {t ty : TypeId} {old : Array Value} {v : Value} (hg : w.heap[g]? = some (.cells old t (0, 0))) (hi : (P.info? ty).map (·.size) = some v.cells.size) (ho : old.size = v.cells.size)
    (h1 : v.cells.all (·.oneCell') = true) : (Instr.storeAt ty (.pointer (some ⟨g, 0, none⟩)) v).run P w = .ok () (w.setRow g v.cells) := by
  have := run_storeCells_from (P := P) g t v.cells.toList 0 old w hg (by simp; omega) (fun v hv => (Array.all_eq_true_iff_forall_mem.1 h1) v (by simpa using hv))
  cases hq : P.info? ty with
  | none => simp [hq] at hi
  | some i =>
    have hs : v.cells.size = i.size := by simp [hq] at hi; omega
    simp [Instr.storeAt, Instr.sureAddr, storeVar, sizeOf, typeInfo, hq, hs, this]

section
variable {l ls : List Oper} {a0 af a : Act} {W w : World} {ptr : Nat → Nat} {listed : Array Bool} {i : Nat} {o : Oper} {Q : Exit → Act → World → Prop}

theorem formB_at (h : formB l = true) (hi : l[i]? = some o) : (match o.op with
    | .alloc _ => o.guard.isNone && o.dst.isSome
    | .store T (.tmp p) y => o.guard.isNone && o.dst.isNone && (match y with | .tmp s => lateB l i s | _ => true) &&
        (List.range l.length).any fun j => match l[j]? with
          | some oj => (match oj.op with | .alloc T' => decide (T' = T) | _ => false) && decide (oj.dst = some p) && Region.waitsFor .any l.toArray i j
          | none => false
    | .store _ _ _ => false
    | _ => looksB l i o && (match o.guard with
      | some (g, _) => (match l[g]? with | some og => !memB og | none => true)
      | none => true)) = true := by
  have := List.all_eq_true.1 h i (List.mem_range.2 (List.getElem?_eq_some_iff.1 hi).1)
  simpa only [hi] using this

theorem waits_listed {j : Nat} (hi : l[i]? = some o) (h : Region.waitsFor .any l.toArray i j = true) (hr : ∀ e ∈ o.after, Region.binds .any e = true → listed.getD e.on false = true) : listed.getD j false = true := by
  obtain ⟨o', ho', e, he, hb, hon⟩ := Region.waitsFor_spec h
  have : o = o' := Option.some.inj (hi.symm.trans (by simpa using ho'))
  subst this
  rw [← hon]
  exact hr e he hb

theorem strip_get (hls : l.map strip = ls) (hi : l[i]? = some o) : ls[i]? = some (strip o) := by rw [← hls]; simp [hi]

theorem mem_quiet_step (hls : l.map strip = ls) (hu : uniqB l = true) (hus : uniqB ls = true) (hns : Region.noSelect l.toArray = true) (hf : formB l = true) (hsz : sizesB l a0.tmps.size = true)
    (H : ∀ W', Below W.heap.size W W' → wpQuiet P ls.toArray (fun w => ∃ x : Ext W', w = x.w) (fun a' => a' = af) ls a0)
    (hs : listed.size = l.toArray.size) (hi : l[i]? = some o) (hm : memB o = false) (hun : listed.getD i false = false)
    (hcl : ∀ (j : Nat) (oj : Oper), l.toArray[j]? = some oj → listed.getD j false = true → ∀ e ∈ oj.after, Region.binds .any e = true → listed.getD e.on false = true)
    (hr : ∀ e ∈ o.after, Region.binds .any e = true → listed.getD e.on false = true) (inv : MemInv P l a0 af W ptr listed a w) :
    wpOp P l.toArray Q i (fun a' w' => ∃ ptr', MemInv P l a0 af W ptr' (listed.setIfInBounds i true) a' w') a w := by
  have hil : i < l.length := (List.getElem?_eq_some_iff.1 hi).1
  have hlsi : ls[i]? = some o := by rw [strip_get hls hi, strip_quiet hm]
  have hbd : ∀ o' ∈ ls, ∀ d, o'.dst = some d → d < a0.tmps.size := fun o' ho' d hd => by
    rw [← hls] at ho'
    obtain ⟨o1, ho1, rfl⟩ := List.mem_map.1 ho'
    by_cases hq : memB o1 = true
    · rw [strip_mem_dst hq] at hd; cases hd
    · rw [strip_quiet (by simpa using hq)] at hd
      have := List.all_eq_true.1 hsz o1 ho1
      simpa [hd] using this
  obtain ⟨v, hy, hv⟩ := quiet_yields ls a0 hus hbd (H w inv.below) i o hlsi
  have hkeep : af.tmps.size = a0.tmps.size := by
    have key : ∀ (l : List Oper) (a : Act), wpQuiet P ls.toArray (fun w' => ∃ x : Ext w, w' = x.w) (fun a' => a' = af) l a → af.tmps.size = a.tmps.size := by
      intro l
      induction l with
      | nil =>
        intro a h
        have : a = af := h
        rw [this]
      | cons o l ih =>
        intro a h
        unfold wpQuiet at h
        split at h
        · obtain ⟨v, _, h2⟩ := h
          have := ih _ h2
          rwa [put_size] at this
        · have := ih _ h
          rwa [put_size] at this
    exact key ls a0 (H w inv.below)
  have hform := formB_at hf hi
  have hlooks : looksB l i o = true ∧ (∀ g b, o.guard = some (g, b) → ∀ og, l[g]? = some og → memB og = false) := by
    unfold memB at hm
    cases hop : o.op <;> simp only [hop] at hform hm <;> first
      | (cases hm; done)
      | (simp only [Bool.and_eq_true] at hform
         refine ⟨hform.1, fun g b hg og hog => ?_⟩
         have h2 := hform.2
         rw [hg] at h2
         simpa [hog] using h2)
  -- the reads
  have reads : ∀ t ∈ o.looksAt l.toArray, a.tmps[t]? = (lexA a0 af ls i).tmps[t]? := by
    intro t ht
    have hall := List.all_eq_true.1 hlooks.1 t ht
    have at_ : ∀ j oj, l[j]? = some oj → oj.dst = some t → (j < i ∧ listed.getD j false = true ∧ memB oj = false) ∨ (¬ j < i ∧ listed.getD j false = false) := by
      intro j oj hj hd
      have h1 := List.all_eq_true.1 hall j (List.mem_range.2 (List.getElem?_eq_some_iff.1 hj).1)
      simp only [hj, hd, bne_self_eq_false, Bool.false_or, Bool.or_eq_true, Bool.and_eq_true, decide_eq_true_eq, Bool.not_eq_true'] at h1
      rcases h1 with (h1 | h1) | h1
      · subst h1
        exact .inr ⟨by omega, hun⟩
      · exact .inl ⟨h1.1.1, waits_listed hi h1.1.2 hr, h1.2⟩
      · refine .inr ⟨by have := h1.1; omega, ?_⟩
        cases hlj : listed.getD j false with
        | false => rfl
        | true =>
          have := waits_listed hj h1.2 (hcl j oj (by simpa using hj) hlj)
          rw [hun] at this
          cases this
    by_cases hex : ∃ j oj, l[j]? = some oj ∧ oj.dst = some t ∧ j < i ∧ listed.getD j false = true ∧ memB oj = false
    · obtain ⟨j, oj, hj, hd, hji, hlj, hq⟩ := hex
      have htl : t < a0.tmps.size := by
        have := List.all_eq_true.1 hsz oj (List.mem_of_getElem? hj)
        simpa [hd] using this
      rw [inv.done j oj t hj hlj hq hd, lexA_some ls i a0 j oj hus hji (by rw [strip_get hls hj, strip_quiet hq]) hd htl]
      have : t < af.tmps.size := by rw [hkeep]; exact htl
      simp [this]
    · have hno : ∀ j oj, l[j]? = some oj → oj.dst = some t → ¬ j < i ∧ listed.getD j false = false := fun j oj hj hd => by
        rcases at_ j oj hj hd with h | h
        · exact absurd ⟨j, oj, hj, hd, h⟩ hex
        · exact h
      rw [inv.old t (fun j oj hj hlj hd => by have := (hno j oj hj hd).2; rw [this] at hlj; cases hlj)]
      rw [lexA_none ls i a0 (fun j oj hji hj hd => by
        rw [← hls] at hj
        simp only [List.getElem?_map, Option.map_eq_some_iff] at hj
        obtain ⟨o1, ho1, rfl⟩ := hj
        by_cases hq : memB o1 = true
        · rw [strip_mem_dst hq] at hd; cases hd
        · rw [strip_quiet (by simpa using hq)] at hd
          exact (hno j o1 ho1 hd).1 hji)]
  have hselo : ∀ cs b, o.op ≠ .select cs b := fun cs b => Region.noSelect_spec hns i o cs b (by simpa using hi)
  have hex : execOp a.eval o = execOp (lexA a0 af ls i).eval o := execOp_congr o hselo fun x hx => by
    cases x with
    | tmp t => exact eval_get (reads t (List.mem_append_left _ (List.mem_filterMap.2 ⟨.tmp t, by simpa using hx, rfl⟩)))
    | _ => rfl
  have hwant : Region.wanted o (yielded l.toArray a.tmps) = Region.wanted o (yielded ls.toArray (lexA a0 af ls i).tmps) := by
    unfold Region.wanted
    cases hg : o.guard with
    | none => rfl
    | some p =>
      obtain ⟨g, b⟩ := p
      have hsame : (ls.toArray[g]?).bind (·.dst) = (l.toArray[g]?).bind (·.dst) := by
        cases hlg : l[g]? with
        | none =>
          have : ls[g]? = none := by rw [← hls]; simp [hlg]
          simp [hlg, this]
        | some og =>
          have hq := hlooks.2 g b hg og hlg
          have : ls[g]? = some og := by rw [strip_get hls hlg, strip_quiet hq]
          simp [hlg, this]
      have hy2 : yielded l.toArray a.tmps g = yielded ls.toArray (lexA a0 af ls i).tmps g := by
        unfold yielded
        rw [hsame]
        cases hd : (l.toArray[g]?).bind (·.dst) with
        | none => rfl
        | some t =>
          have : t ∈ o.looksAt l.toArray := List.mem_append_right _ (by simp only [hg, hd]; simp)
          simp only [Option.bind_some, reads t this]
      simp only [hy2]
  -- what is kept
  have keep : ∀ (w' : World), Below w.heap.size w w' → MemInv P l a0 af W ptr (listed.setIfInBounds i true) (a.put o.dst v) w' := by
    intro w' hb'
    have hne : ∀ j oj d, l[j]? = some oj → oj.dst = some d → j ≠ i → o.dst ≠ some d := fun j oj d hj hd hji hd' => hji (uniqB_spec hu hj hi hd hd')
    exact {
      size := by rw [put_size]; exact inv.size
      defers := by rw [← inv.defers]; cases o.dst <;> rfl
      old := fun t ht => by
        have h1 : o.dst ≠ some t := ht i o hi (by have : i < listed.size := by simpa [hs] using hil
                                                  simp [this])
        rw [put_get_ne h1]
        refine inv.old t (fun j oj hj hlj => ht j oj hj ?_)
        by_cases hij : i = j
        · subst hij; rw [hun] at hlj; cases hlj
        · rw [getD_set_ne false hij]; exact hlj
      done := fun j oj t hj hlj hq hd => by
        rcases set_listed hlj with h | h
        · subst h
          have : oj = o := Option.some.inj (hj.symm.trans hi)
          subst this
          have h3 := hv t hd
          have : t < a.tmps.size := by
            have := (Array.getElem?_eq_some_iff.1 h3).1
            rw [inv.size]; omega
          rw [hd, put_get_same this, h3]
        · have hji : j ≠ i := fun e => by subst e; rw [hun] at h; cases h
          rw [put_get_ne (hne j oj t hj hd hji)]
          exact inv.done j oj t hj h hq hd
      made := fun j oj T t hj hlj hT hd => by
        rcases set_listed hlj with h | h
        · subst h
          have : oj = o := Option.some.inj (hj.symm.trans hi)
          subst this
          rw [memB_alloc hT] at hm; cases hm
        · have hji : j ≠ i := fun e => by subst e; rw [hun] at h; cases h
          rw [put_get_ne (hne j oj t hj hd hji)]
          exact inv.made j oj T t hj h hT hd
      below := inv.below.trans (hb'.mono inv.below.size)
      there := fun j oj T hj hlj hT => by
        rcases set_listed hlj with h | h
        · subst h
          have : oj = o := Option.some.inj (hj.symm.trans hi)
          subst this
          rw [memB_alloc hT] at hm; cases hm
        · obtain ⟨h1, h2, c, h3, h4⟩ := inv.there j oj T hj h hT
          exact ⟨h1, Nat.lt_of_lt_of_le h2 hb'.size, c, by rw [hb'.block _ h2]; exact h3, h4⟩
      stored := fun j k oj ok T T' d y hj hT hd hk hst hlk => by
        rcases set_listed hlk with h | h
        · subst h
          have : ok = o := Option.some.inj (hk.symm.trans hi)
          subst this
          rw [memB_store hst] at hm; cases hm
        · have h3 := inv.stored j k oj ok T T' d y hj hT hd hk hst h
          rw [hb'.block _ (Array.getElem?_eq_some_iff.1 h3).1]
          exact h3
      apart := fun j k oj ok T T' hjk hj hk hlj hlk hT hT' => by
        rcases set_listed hlj with h | h
        · subst h
          have : oj = o := Option.some.inj (hj.symm.trans hi)
          subst this
          rw [memB_alloc hT] at hm; cases hm
        · rcases set_listed hlk with h' | h'
          · subst h'
            have : ok = o := Option.some.inj (hk.symm.trans hi)
            subst this
            rw [memB_alloc hT'] at hm; cases hm
          · exact inv.apart j k oj ok T T' hjk hj hk h h' hT hT' }
  unfold wpOp
  have hia : l.toArray[i]? = some o := by simpa using hi
  simp only [hia]
  rcases hy with ⟨hw, hq⟩ | ⟨hw, rfl⟩
  · rw [hwant, if_pos hw]
    refine .inl (Oper.wp_of_quiet (C := fun w' => ∃ x : Ext w, w' = x.w) (K := fun a' => a' = a.put o.dst v) ⟨⟨w, Below.refl _ _⟩, rfl⟩ ?_ ⟨v, fun w' hw' => ?_, rfl⟩)
    · rintro a' w' ⟨x, rfl⟩ rfl
      exact ⟨ptr, keep x.w x.b⟩
    · have := hq w' hw'
      unfold Oper.quietAt at *
      rw [hex]
      exact this
  · rw [hwant, if_neg (by rw [hw]; exact Bool.false_ne_true)]
    exact ⟨ptr, keep w (Below.refl _ _)⟩
end

section
variable {l ls : List Oper} {a0 af a : Act} {W w : World} {ptr : Nat → Nat} {listed : Array Bool} {i : Nat} {o : Oper} {Q : Exit → Act → World → Prop}

theorem mem_alloc_step {T : TypeId} (hu : uniqB l = true) (hf : formB l = true) (hal : allocB P l = true) (hsz : sizesB l a0.tmps.size = true)
    (hcl : ∀ (j : Nat) (oj : Oper), l.toArray[j]? = some oj → listed.getD j false = true → ∀ e ∈ oj.after, Region.binds .any e = true → listed.getD e.on false = true)
    (hs : listed.size = l.toArray.size) (hi : l[i]? = some o) (hT : o.op = .alloc T) (hun : listed.getD i false = false) (inv : MemInv P l a0 af W ptr listed a w) :
    wpOp P l.toArray Q i (fun a' w' => ∃ ptr', MemInv P l a0 af W ptr' (listed.setIfInBounds i true) a' w') a w := by
  have hil : i < l.length := (List.getElem?_eq_some_iff.1 hi).1
  have hform := formB_at hf hi
  simp only [hT, Bool.and_eq_true, Option.isNone_iff_eq_none] at hform
  obtain ⟨hg, hd0⟩ := hform
  obtain ⟨d, hd⟩ := Option.isSome_iff_exists.1 hd0
  have hdl : d < a0.tmps.size := by
    have := List.all_eq_true.1 hsz o (List.mem_of_getElem? hi)
    simpa [hd] using this
  have hal1 := List.all_eq_true.1 hal o (List.mem_of_getElem? hi)
  simp only [hT] at hal1
  obtain ⟨inf, hinf, z, hz, hzs⟩ : ∃ inf, P.info? T = some inf ∧ ∃ z, inf.zero = some z ∧ z.cells.size = inf.size := by
    cases h1 : P.info? T with
    | none => simp [h1] at hal1
    | some inf =>
      cases h2 : inf.zero with
      | none => simp [h1, h2] at hal1
      | some z => exact ⟨inf, rfl, z, h2, by simpa [h1, h2] using hal1⟩
  have hne : ∀ j oj t, l[j]? = some oj → oj.dst = some t → j ≠ i → o.dst ≠ some t := fun j oj t hj hd1 hji hd' => hji (uniqB_spec hu hj hi hd1 hd')
  have hidx : ∀ j, listed.getD j false = true → j ≠ i := fun j hj e => by subst e; rw [hun] at hj; cases hj
  unfold wpOp
  have hia : l.toArray[i]? = some o := by simpa using hi
  simp only [hia]
  have hwant : Region.wanted o (yielded l.toArray a.tmps) = true := by simp [Region.wanted, hg]
  rw [if_pos hwant]
  refine .inl ?_
  unfold Oper.wp execOp
  simp only [hT, Sem.run_bind, run_alloc_any hinf hz, Result.andThen, Sem.run_pure, Oper.upon]
  have hold : ∀ j, j < w.heap.size → (w.alloc (.cells z.cells T)).heap[j]? = w.heap[j]? := fun j hj => Below.heap_alloc _ _ _ hj
  refine ⟨fun j => if j = i then w.heap.size else ptr j, ?_⟩
  exact {
    size := by rw [put_size]; exact inv.size
    defers := by rw [← inv.defers]; cases o.dst <;> rfl
    old := fun t ht => by
      have h1 : o.dst ≠ some t := ht i o hi (by have : i < listed.size := by simpa [hs] using hil
                                                simp [this])
      rw [put_get_ne h1]
      refine inv.old t (fun j oj hj hlj => ht j oj hj ?_)
      rw [getD_set_ne false (Ne.symm (hidx j hlj))]; exact hlj
    done := fun j oj t hj hlj hq hd1 => by
      rcases set_listed hlj with h | h
      · subst h
        have : oj = o := Option.some.inj (hj.symm.trans hi)
        subst this
        rw [memB_alloc hT] at hq; cases hq
      · rw [put_get_ne (hne j oj t hj hd1 (hidx j h))]
        exact inv.done j oj t hj h hq hd1
    made := fun j oj T' t hj hlj hT' hd1 => by
      rcases set_listed hlj with h | h
      · subst h
        have : oj = o := Option.some.inj (hj.symm.trans hi)
        subst this
        have : d = t := Option.some.inj (hd.symm.trans hd1)
        subst this
        rw [hd, put_get_same (by rw [inv.size]; exact hdl), if_pos rfl]
      · rw [put_get_ne (hne j oj t hj hd1 (hidx j h)), if_neg (hidx j h)]
        exact inv.made j oj T' t hj h hT' hd1
    below := inv.below.alloc inv.below.size _
    there := fun j oj T' hj hlj hT' => by
      rcases set_listed hlj with h | h
      · subst h
        have : oj = o := Option.some.inj (hj.symm.trans hi)
        subst this
        have : T = T' := by rw [hT] at hT'; cases hT'; rfl
        subst this
        rw [if_pos rfl]
        exact ⟨inv.below.size, by simp, z.cells, heap_alloc_new _ _, by simp [hinf, hzs]⟩
      · obtain ⟨h1, h2, c, h3, h4⟩ := inv.there j oj T' hj h hT'
        rw [if_neg (hidx j h)]
        exact ⟨h1, Nat.lt_of_lt_of_le h2 (by simp), c, by rw [hold _ h2]; exact h3, h4⟩
    stored := fun j k oj ok T1 T' d1 y hj hT1 hd1 hk hst hlk => by
      rcases set_listed hlk with h | h
      · subst h
        have : ok = o := Option.some.inj (hk.symm.trans hi)
        subst this
        rw [hT] at hst; cases hst
      · have h3 := inv.stored j k oj ok T1 T' d1 y hj hT1 hd1 hk hst h
        have hji : j ≠ i := by
          -- the store waits for its variable
          have hform := formB_at hf hk
          simp only [hst, Bool.and_eq_true] at hform
          obtain ⟨j', _, hj'⟩ := List.any_eq_true.1 hform.2
          cases hlj' : l[j']? with
          | none => simp [hlj'] at hj'
          | some oj' =>
            simp only [hlj', Bool.and_eq_true, decide_eq_true_eq] at hj'
            have : j = j' := uniqB_spec hu hj hlj' hd1 hj'.1.2
            subst this
            exact hidx j (waits_listed hk hj'.2 (hcl k ok (by simpa using hk) h))
        rw [if_neg hji, hold _ (Array.getElem?_eq_some_iff.1 h3).1]
        exact h3
    apart := fun j k oj ok T1 T2 hjk hj hk hlj hlk hT1 hT2 => by
      rcases set_listed hlj with h | h
      · subst h
        rcases set_listed hlk with h' | h'
        · exact absurd h'.symm hjk
        · rw [if_pos rfl, if_neg (hidx k h')]
          have := (inv.there k ok T2 hk h' hT2).2.1
          omega
      · rcases set_listed hlk with h' | h'
        · subst h'
          rw [if_pos rfl, if_neg (hidx j h)]
          have := (inv.there j oj T1 hj h hT1).2.1
          omega
        · rw [if_neg (hidx j h), if_neg (hidx k h')]
          exact inv.apart j k oj ok T1 T2 hjk hj hk h h' hT1 hT2 }

theorem mem_store_step {T : TypeId} {x y : Operand} (hls : l.map strip = ls) (hu : uniqB l = true) (hf : formB l = true) (hone : oneStoreB l = true)
    (hok : storesOK P af l) (H : wpQuiet P ls.toArray (fun w => ∃ x : Ext W, w = x.w) (fun a' => a' = af) ls a0)
    (hcl : ∀ (j : Nat) (oj : Oper), l.toArray[j]? = some oj → listed.getD j false = true → ∀ e ∈ oj.after, Region.binds .any e = true → listed.getD e.on false = true)
    (_ : listed.size = l.toArray.size) (hi : l[i]? = some o) (hT : o.op = .store T x y) (hun : listed.getD i false = false)
    (hr : ∀ e ∈ o.after, Region.binds .any e = true → listed.getD e.on false = true) (inv : MemInv P l a0 af W ptr listed a w) :
    wpOp P l.toArray Q i (fun a' w' => ∃ ptr', MemInv P l a0 af W ptr' (listed.setIfInBounds i true) a' w') a w := by
  have hil : i < l.length := (List.getElem?_eq_some_iff.1 hi).1
  have hform := formB_at hf hi
  obtain ⟨p, rfl⟩ : ∃ p, x = .tmp p := by
    cases x with
    | tmp p => exact ⟨p, rfl⟩
    | const _ => simp [hT] at hform
    | global _ => simp [hT] at hform
    | func _ => simp [hT] at hform
  simp only [hT, Bool.and_eq_true, Option.isNone_iff_eq_none] at hform
  obtain ⟨⟨⟨hg, hd⟩, hlate⟩, hany⟩ := hform
  obtain ⟨j, _, hj0⟩ := List.any_eq_true.1 hany
  obtain ⟨oj, hj, hTj, hdj, hwj⟩ : ∃ oj, l[j]? = some oj ∧ oj.op = .alloc T ∧ oj.dst = some p ∧ Region.waitsFor .any l.toArray i j = true := by
    cases hlj : l[j]? with
    | none => simp [hlj] at hj0
    | some oj =>
      simp only [hlj, Bool.and_eq_true, decide_eq_true_eq] at hj0
      refine ⟨oj, rfl, ?_⟩
      cases hop : oj.op <;> simp only [hop] at hj0 <;> first
        | (have hTT := of_decide_eq_true hj0.1.1; subst hTT; exact ⟨rfl, hj0.1.2, hj0.2⟩)
        | (exact absurd hj0.1.1 (by simp))
  have hlj := waits_listed hi hwj hr
  obtain ⟨hge, hlt, c, hc, hcs⟩ := inv.there j oj T hj hlj hTj
  have haddr : a.eval (.tmp p) = .pointer (some ⟨ptr j, 0, none⟩) := by
    have := inv.made j oj T p hj hlj hTj hdj
    simp [Act.eval, this]
  have hval : a.eval y = af.eval y := by
    cases y with
    | tmp s =>
      refine eval_get ?_
      by_cases hex : ∃ (k : Nat) (ok : Oper), l[k]? = some ok ∧ ok.dst = some s
      · obtain ⟨k, ok, hk, hdk⟩ := hex
        have h1 := List.all_eq_true.1 hlate k (List.mem_range.2 (List.getElem?_eq_some_iff.1 hk).1)
        simp only [hk, hdk, bne_self_eq_false, Bool.false_or, Bool.and_eq_true, decide_eq_true_eq, Bool.not_eq_true'] at h1
        exact inv.done k ok s hk (waits_listed hi h1.1.2 hr) h1.2 hdk
      · rw [inv.old s (fun k ok hk _ hdk => hex ⟨k, ok, hk, hdk⟩)]
        refine ((quiet_keep ls a0 (fun ok hok' hdk => ?_) H).1).symm
        rw [← hls] at hok'
        obtain ⟨o1, ho1, rfl⟩ := List.mem_map.1 hok'
        obtain ⟨k, hk⟩ := List.getElem?_of_mem ho1
        by_cases hq : memB o1 = true
        · rw [strip_mem_dst hq] at hdk; cases hdk
        · rw [strip_quiet (by simpa using hq)] at hdk
          exact hex ⟨k, o1, hk, hdk⟩
    | _ => rfl
  obtain ⟨hv1, hv2⟩ := storesOK_spec l hok i o T (.tmp p) y hi hT
  have hsize : c.size = (af.eval y).cells.size := by
    rw [hv1] at hcs
    exact (Option.some.inj hcs).symm
  have hidx : ∀ k, listed.getD k false = true → k ≠ i := fun k hk e => by subst e; rw [hun] at hk; cases hk
  have hnm : ∀ (k : Nat) (ok : Oper), l[k]? = some ok → k = i → ok = o := fun k ok hk e => by subst e; exact Option.some.inj (hk.symm.trans hi)
  unfold wpOp
  have hia : l.toArray[i]? = some o := by simpa using hi
  simp only [hia]
  have hwant : Region.wanted o (yielded l.toArray a.tmps) = true := by simp [Region.wanted, hg]
  rw [if_pos hwant]
  refine .inl ?_
  unfold Oper.wp execOp
  simp only [hT, Sem.run_bind, haddr, hval, run_store_whole hc hv1 hsize hv2, Result.andThen, Sem.run_pure, Oper.upon]
  have hother : ∀ k, k ≠ ptr j → (w.setRow (ptr j) (af.eval y).cells).heap[k]? = w.heap[k]? := fun k hk => setRow_other w (ptr j) k _ hk
  have hput : ∀ v, a.put o.dst v = a := fun v => by rw [hd]; rfl
  rw [hput]
  refine ⟨ptr, ?_⟩
  exact {
    size := inv.size
    defers := inv.defers
    old := fun t ht => inv.old t (fun k ok hk hlk => ht k ok hk (by rw [getD_set_ne false (Ne.symm (hidx k hlk))]; exact hlk))
    done := fun k ok t hk hlk hq hd1 => by
      rcases set_listed hlk with h | h
      · rw [hnm k ok hk h, memB_store hT] at hq; cases hq
      · exact inv.done k ok t hk h hq hd1
    made := fun k ok T' t hk hlk hT' hd1 => by
      rcases set_listed hlk with h | h
      · rw [hnm k ok hk h, hT] at hT'; cases hT'
      · exact inv.made k ok T' t hk h hT' hd1
    below := below_setRow inv.below hge _
    there := fun k ok T' hk hlk hT' => by
      rcases set_listed hlk with h | h
      · rw [hnm k ok hk h, hT] at hT'; cases hT'
      · obtain ⟨h1, h2, c', h3, h4⟩ := inv.there k ok T' hk h hT'
        refine ⟨h1, by simpa using h2, ?_⟩
        by_cases hpk : ptr k = ptr j
        · have hkj : k = j := Classical.byContradiction fun hkj => inv.apart k j ok oj T' T hkj hk hj h hlj hT' hTj hpk
          subst hkj
          have : ok = oj := Option.some.inj (hk.symm.trans hj)
          subst this
          have : T' = T := by rw [hT'] at hTj; cases hTj; rfl
          subst this
          exact ⟨_, setRow_heap w _ _ _ _ _ hc, hv1⟩
        · exact ⟨c', by rw [hother _ hpk]; exact h3, h4⟩
    stored := fun k m ok om T1 T2 d1 y1 hk hT1 hd1 hm hst hlm => by
      rcases set_listed hlm with h | h
      · have := hnm m om hm h
        subst this
        have : Op.store T (.tmp p) y = Op.store T2 (.tmp d1) y1 := hT.symm.trans hst
        cases this
        have hkj : k = j := uniqB_spec hu hk hj hd1 hdj
        subst hkj
        have : ok = oj := Option.some.inj (hk.symm.trans hj)
        subst this
        have : T1 = T := by rw [hT1] at hTj; cases hTj; rfl
        subst this
        exact setRow_heap w _ _ _ _ _ hc
      · have h3 := inv.stored k m ok om T1 T2 d1 y1 hk hT1 hd1 hm hst h
        have hlk : listed.getD k false = true := by
          have hform := formB_at hf hm
          simp only [hst, Bool.and_eq_true] at hform
          obtain ⟨j', _, hj'⟩ := List.any_eq_true.1 hform.2
          cases hlj' : l[j']? with
          | none => simp [hlj'] at hj'
          | some oj' =>
            simp only [hlj', Bool.and_eq_true, decide_eq_true_eq] at hj'
            have : k = j' := uniqB_spec hu hk hlj' hd1 hj'.1.2
            subst this
            exact waits_listed hm hj'.2 (hcl m om (by simpa using hm) h)
        by_cases hpk : ptr k = ptr j
        · have hkj : k = j := Classical.byContradiction fun hkj => inv.apart k j ok oj T1 T hkj hk hj hlk hlj hT1 hTj hpk
          subst hkj
          have : ok = oj := Option.some.inj (hk.symm.trans hj)
          subst this
          have hp : p = d1 := Option.some.inj (hdj.symm.trans hd1)
          subst hp
          have hmi : m = i := by
            have h1 := List.all_eq_true.1 (List.all_eq_true.1 hone m (List.mem_range.2 (List.getElem?_eq_some_iff.1 hm).1)) i (List.mem_range.2 hil)
            simpa [hm, hi, hst, hT] using h1
          exact absurd hmi (hidx m h)
        · rw [hother _ hpk]; exact h3
    apart := fun k m ok om T1 T2 hkm hk hm hlk hlm hT1 hT2 => by
      rcases set_listed hlk with h | h
      · rw [hnm k ok hk h, hT] at hT1; cases hT1
      · rcases set_listed hlm with h' | h'
        · rw [hnm m om hm h', hT] at hT2; cases hT2
        · exact inv.apart k m ok om T1 T2 hkm hk hm h h' hT1 hT2 }

/-- **A region that draws its order and makes variables**: one lexical walk of its reads and calls; the variables' blocks are named afterwards. -/
theorem region_mem {id : Nat} (n : Nat) (hm : P.follows .mixedOrders = true) (hls : l.map strip = ls) (hn : a0.tmps.size = n)
    (hB : (backB .any l.toArray && uniqB l && uniqB (l.map strip) && Region.noSelect l.toArray && formB l && oneStoreB l && allocB P l && sizesB l n) = true)
    (H : ∀ W', Below W.heap.size W W' → wpQuiet P ls.toArray (fun w => ∃ x : Ext W', w = x.w) (fun a' => a' = af) ls a0)
    (hok : storesOK P af l)
    (hQ : ∀ (ptr : Nat → Nat) (w' : World), Below W.heap.size W w' →
      (∀ (i : Nat) (o : Oper) (T : TypeId), l[i]? = some o → o.op = .alloc T → W.heap.size ≤ ptr i ∧ ptr i < w'.heap.size) →
      (∀ (i k : Nat) (oi ok : Oper) (T T' : TypeId) (d : Tmp) (y : Operand), l[i]? = some oi → oi.op = .alloc T → oi.dst = some d → l[k]? = some ok → ok.op = .store T' (.tmp d) y → w'.heap[ptr i]? = some (.cells (af.eval y).cells T (0, 0))) →
      (∀ (i j : Nat) (oi oj : Oper) (T T' : TypeId), i ≠ j → l[i]? = some oi → l[j]? = some oj → oi.op = .alloc T → oj.op = .alloc T' → ptr i ≠ ptr j) →
      Q .normal (putPtrs ptr l 0 af) w') : (Code.region id l.toArray true).wp P Q a0 W := by
  subst hn
  simp only [Bool.and_eq_true] at hB
  obtain ⟨⟨⟨⟨⟨⟨⟨hb, hu⟩, hus⟩, hns⟩, hf⟩, hone⟩, hal⟩, hsz⟩ := hB
  rw [hls] at hus
  refine wp_region_any hm ?_
  have hdraw : Below W.heap.size W { W with drawn := W.drawn + 1 } := below_draw W
  refine wpAny_inv (fun listed a w => ∃ ptr, MemInv P l a0 af W ptr listed a w) hb ?_ ?_ _ _ _ _ (by simp) (fun j oj _ h => by rw [getD_replicate_false] at h; cases h) ?_ ⟨fun _ => 0, ?_⟩
  · rintro listed i o a w hs hi hun hcl hr ⟨ptr, inv⟩
    have hi' : l[i]? = some o := by simpa using hi
    by_cases hq : memB o = true
    · unfold memB at hq
      cases hop : o.op <;> simp only [hop] at hq <;> first
        | (cases hq; done)
        | exact mem_alloc_step hu hf hal hsz hcl hs hi' hop (getD_both hun) inv
        | exact mem_store_step hls hu hf hone hok (H W (Below.refl _ _)) hcl hs hi' hop (getD_both hun) hr inv
    · exact mem_quiet_step hls hu hus hns hf hsz H hs hi' (by simpa using hq) (getD_both hun) hcl hr inv
  · rintro listed a w hall ⟨ptr, inv⟩
    have hall' : ∀ (i : Nat) (o : Oper), l[i]? = some o → listed.getD i false = true := fun i o hi => hall i (by simpa using (List.getElem?_eq_some_iff.1 hi).1)
    have hact : a = putPtrs ptr l 0 af := by
      have hsaf : af.tmps.size = a0.tmps.size ∧ af.defers = a0.defers := by
        have key : ∀ (l : List Oper) (a : Act), wpQuiet P ls.toArray (fun w' => ∃ x : Ext W, w' = x.w) (fun a' => a' = af) l a → af.tmps.size = a.tmps.size ∧ af.defers = a.defers := by
          intro l
          induction l with
          | nil =>
            intro a h
            have : a = af := h
            rw [this]; exact ⟨rfl, rfl⟩
          | cons o l ih =>
            intro a h
            unfold wpQuiet at h
            split at h
            · obtain ⟨v, _, h2⟩ := h
              have := ih _ h2
              rw [put_size] at this
              exact ⟨this.1, by rw [this.2]; cases o.dst <;> rfl⟩
            · have := ih _ h
              rw [put_size] at this
              exact ⟨this.1, by rw [this.2]; cases o.dst <;> rfl⟩
        exact key ls a0 (H W (Below.refl _ _))
      have hps := putPtrs_size ptr l 0 af
      have htm : a.tmps = (putPtrs ptr l 0 af).tmps := by
        apply Array.ext_getElem?
        intro t
        by_cases hex : ∃ (i : Nat) (o : Oper), l[i]? = some o ∧ o.dst = some t
        · obtain ⟨i, o, hi, hd⟩ := hex
          have htl : t < a0.tmps.size := by
            have := List.all_eq_true.1 hsz o (List.mem_of_getElem? hi)
            simpa [hd] using this
          by_cases hq : memB o = true
          · have hform := formB_at hf hi
            unfold memB at hq
            cases hop : o.op <;> simp only [hop] at hq hform <;> first
              | (cases hq; done)
              | (rw [inv.made i o _ t hi (hall' i o hi) hop hd, putPtrs_some ptr l 0 af i o _ hu hi hop hd (by rw [hsaf.1]; exact htl), Nat.zero_add]; done)
              | (exfalso
                 split at hform
                 · rename_i heq; cases heq
                 · simp [hd] at hform
                 · cases hform
                 · rename_i h1 h2 h3; exact h3 _ _ _ rfl)
          · have hq' : memB o = false := by simpa using hq
            rw [inv.done i o t hi (hall' i o hi) hq' hd, putPtrs_none ptr l 0 af (fun j oj T hj hT hd' => by
              have : i = j := uniqB_spec hu hi hj hd hd'
              subst this
              have : o = oj := Option.some.inj (hi.symm.trans hj)
              subst this
              rw [memB_alloc hT] at hq'; cases hq')]
        · rw [inv.old t (fun j oj hj _ hd => hex ⟨j, oj, hj, hd⟩), putPtrs_none ptr l 0 af (fun j oj T hj _ hd => hex ⟨j, oj, hj, hd⟩)]
          refine ((quiet_keep ls a0 (fun ok hok' hdk => ?_) (H W (Below.refl _ _))).1).symm
          rw [← hls] at hok'
          obtain ⟨o1, ho1, rfl⟩ := List.mem_map.1 hok'
          obtain ⟨k, hk⟩ := List.getElem?_of_mem ho1
          by_cases hq : memB o1 = true
          · rw [strip_mem_dst hq] at hdk; cases hdk
          · rw [strip_quiet (by simpa using hq)] at hdk
            exact hex ⟨k, o1, hk, hdk⟩
      have hdf : a.defers = (putPtrs ptr l 0 af).defers := by rw [hps.2, hsaf.2, inv.defers]
      cases a
      cases hpp : putPtrs ptr l 0 af
      rw [hpp] at htm hdf
      simp only at htm hdf
      rw [htm, hdf]
    rw [hact]
    refine hQ ptr w inv.below (fun i o T hi hT => ?_) (fun i k oi ok T T' d y hi hT hd hk hst => inv.stored i k oi ok T T' d y hi hT hd hk hst (hall' k ok hk)) (fun i j oi oj T T' hij hi hj hT hT' => inv.apart i j oi oj T T' hij hi hj (hall' i oi hi) (hall' j oj hj) hT hT')
    obtain ⟨h1, h2, _⟩ := inv.there i o T hi (hall' i o hi) hT
    exact ⟨h1, h2⟩
  · refine Nat.le_trans List.countP_le_length (by simp)
  · exact {
      size := rfl
      defers := rfl
      old := fun _ _ => rfl
      done := fun i _ _ _ h _ _ => by rw [getD_replicate_false] at h; cases h
      made := fun i _ _ _ _ h _ _ => by rw [getD_replicate_false] at h; cases h
      below := hdraw
      there := fun i _ _ _ h _ => by rw [getD_replicate_false] at h; cases h
      stored := fun _ k _ _ _ _ _ _ _ _ _ _ _ h => by rw [getD_replicate_false] at h; cases h
      apart := fun i _ _ _ _ _ _ _ _ h _ _ _ => by rw [getD_replicate_false] at h; cases h }

/-- The same, its parts as one existence (so that the walk finds the stripped list and the end's frame). -/
theorem region_mem_ex {id : Nat} (n : Nat) (hm : P.follows .mixedOrders = true) (hn : a0.tmps.size = n)
    (hB : (backB .any l.toArray && uniqB l && uniqB (l.map strip) && Region.noSelect l.toArray && formB l && oneStoreB l && allocB P l && sizesB l n) = true)
    (h : ∃ ls af, l.map strip = ls ∧ (∀ W', Below W.heap.size W W' → wpQuiet P ls.toArray (fun w => ∃ x : Ext W', w = x.w) (fun a' => a' = af) ls a0) ∧ storesOK P af l ∧
      (∀ (ptr : Nat → Nat) (w' : World), Below W.heap.size W w' →
      (∀ (i : Nat) (o : Oper) (T : TypeId), l[i]? = some o → o.op = .alloc T → W.heap.size ≤ ptr i ∧ ptr i < w'.heap.size) →
      (∀ (i k : Nat) (oi ok : Oper) (T T' : TypeId) (d : Tmp) (y : Operand), l[i]? = some oi → oi.op = .alloc T → oi.dst = some d → l[k]? = some ok → ok.op = .store T' (.tmp d) y → w'.heap[ptr i]? = some (.cells (af.eval y).cells T (0, 0))) →
      (∀ (i j : Nat) (oi oj : Oper) (T T' : TypeId), i ≠ j → l[i]? = some oi → l[j]? = some oj → oi.op = .alloc T → oj.op = .alloc T' → ptr i ≠ ptr j) →
      Q .normal (putPtrs ptr l 0 af) w')) : (Code.region id l.toArray true).wp P Q a0 W := by
  obtain ⟨ls, af, hls, H, hok, hQ⟩ := h
  exact region_mem n hm hls hn hB H hok hQ
end

end
end Go.Proofs.Ytbgcdoikcjjaeaa
