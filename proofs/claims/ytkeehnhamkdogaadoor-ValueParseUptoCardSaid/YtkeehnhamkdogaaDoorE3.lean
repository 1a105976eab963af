/- What single operations do to the abstract state: moves, numbers, comparisons, strings, addresses, slices' parts, stores. No condition. -/
import Derived.Test.YtkeehnhamkdogaaDoorE2
namespace Go.Proofs.YtkeehnhamkdogaaDoor
set_option linter.unusedVariables false
set_option linter.unusedSimpArgs false
open Go.RowKit

section
variable {P : Program} {Γ : Glob} {L : Nat → Option Lay} {o : Oper} {ev : Operand → Option TV} {mem : Nat → Option Blk} {nx : Nat} {K : Res → Prop}

/-- A result that needs no memory. -/
abbrev pureR (v : TV) : Res := ⟨v, [], [], []⟩

/-! ### Two numbers, strings, truth values -/
def exInt (op : BinOp) (k : IntKind) (a b : Int) (K : Value → Prop) : Prop :=
  match op with
  | .add => ∃ z, k.wrap (a + b) = z ∧ K (.int k z)
  | .sub => ∃ z, k.wrap (a - b) = z ∧ K (.int k z)
  | .mul => ∃ z, k.wrap (a * b) = z ∧ K (.int k z)
  | .quo => b ≠ 0 ∧ ∃ z, k.wrap (a.tdiv b) = z ∧ K (.int k z)
  | .rem => b ≠ 0 ∧ ∃ z, a.tmod b = z ∧ K (.int k z)
  | .and => ∃ z, k.wrap (BitVec.ofInt k.bits a &&& BitVec.ofInt k.bits b).toNat = z ∧ K (.int k z)
  | .or => ∃ z, k.wrap (BitVec.ofInt k.bits a ||| BitVec.ofInt k.bits b).toNat = z ∧ K (.int k z)
  | .xor => ∃ z, k.wrap (BitVec.ofInt k.bits a ^^^ BitVec.ofInt k.bits b).toNat = z ∧ K (.int k z)
  | .andNot => ∃ z, k.wrap (BitVec.ofInt k.bits a &&& ~~~BitVec.ofInt k.bits b).toNat = z ∧ K (.int k z)
  | .eql => ∃ c, decide (a = b) = c ∧ K (.bool c)
  | .neq => ∃ c, decide (a ≠ b) = c ∧ K (.bool c)
  | .lss => ∃ c, decide (a < b) = c ∧ K (.bool c)
  | .leq => ∃ c, decide (a ≤ b) = c ∧ K (.bool c)
  | .gtr => ∃ c, decide (b < a) = c ∧ K (.bool c)
  | .geq => ∃ c, decide (b ≤ a) = c ∧ K (.bool c)
  | _ => False
def exStr (op : BinOp) (a b : ByteArray) (K : Value → Prop) : Prop :=
  match op with
  | .add => a.size + b.size ≤ 9223372036854775807 ∧ K (.string (a ++ b))
  | .eql => ∃ c, decide (a = b) = c ∧ K (.bool c)
  | .neq => ∃ c, decide (a ≠ b) = c ∧ K (.bool c)
  | .lss => ∃ c, Op.bytesLess a.data.toList b.data.toList = c ∧ K (.bool c)
  | _ => False
def exBin (L : Nat → Option Lay) (op : BinOp) (t : TypeId) (x y : Value) (K : Value → Prop) : Prop :=
  match x, y with
  | .int k a, .int k' b => match op with
    | .shl => 0 ≤ b ∧ ∃ z, k.wrap (a * 2 ^ (min b.toNat k.bits)) = z ∧ K (.int k z)
    | .shr => 0 ≤ b ∧ ∃ z, a.fdiv (2 ^ (min b.toNat k.bits)) = z ∧ K (.int k z)
    | op => match decide (k = k') with
      | true => exInt op k a b K
      | false => False
  | .string a, .string b => exStr op a b K
  | .bool a, .bool b => match L t with
    | some ⟨_, _, _, .bool⟩ => match op with
      | .eql => ∃ c, decide (a = b) = c ∧ K (.bool c)
      | .neq => ∃ c, decide (a ≠ b) = c ∧ K (.bool c)
      | _ => False
    | _ => False
  | _, _ => False
theorem bytes_eq (a b : ByteArray) : (a.toList == b.toList) = decide (a = b) := by
  rw [ByteArray.toList_eq, ByteArray.toList_eq, Bool.eq_iff_iff]
  simp only [beq_iff_eq, decide_eq_true_eq]
  constructor
  · intro h
    cases a; cases b
    congr 1
    exact Array.toList_inj.1 h
  · intro h; rw [h]
theorem exInt_ok {op : BinOp} {k : IntKind} {a b : Int} {K : Value → Prop} (h : exInt op k a b K) (hop : op ≠ .shl ∧ op ≠ .shr) {t : TypeId} : ∃ v, v.oneCell' = true ∧ (∀ w, (binOp op t (.int k a) (.int k b)).run P w = .ok v w) ∧ K v := by
  cases op <;> simp only [exInt, ne_eq] at h
  case quo => obtain ⟨h0, z, rfl, h⟩ := h; exact ⟨_, rfl, fun w => by simp [binOp, Op.intDiv, h0], h⟩
  case rem => obtain ⟨h0, z, rfl, h⟩ := h; exact ⟨_, rfl, fun w => by simp [binOp, Op.intDiv, h0], h⟩
  case neq => obtain ⟨z, rfl, h⟩ := h; exact ⟨_, rfl, fun w => by simp [binOp, Op.intCmp, bne, Bool.beq_eq_decide_eq], h⟩
  all_goals obtain ⟨z, rfl, h⟩ := h
  all_goals refine ⟨_, rfl, fun w => ?_, h⟩
  all_goals first | (simp [binOp, Op.intArith, Op.intBits, Op.intCmp]; done) | (simp only [binOp, Op.intCmp, ne_eq, not_true_eq_false, if_false]; exact congrArg (fun b => Result.ok (Value.bool b) w) (by rw [Bool.eq_iff_iff]; simp))

theorem exStr_ok {op : BinOp} {a b : ByteArray} {K : Value → Prop} (h : exStr op a b K) {t : TypeId} : ∃ v, v.oneCell' = true ∧ (∀ w, (binOp op t (.string a) (.string b)).run P w = .ok v w) ∧ K v := by
  have hmax : IntKind.i64.max = 9223372036854775807 := rfl
  cases op <;> simp only [exStr, ne_eq] at h
  case add =>
    obtain ⟨h0, h⟩ := h
    refine ⟨_, rfl, fun w => ?_, h⟩
    have : ¬ (((a.size + b.size : Nat) : Int) > IntKind.i64.max) := by rw [hmax]; omega
    simp only [binOp, Op.stringOp, this, if_false, Sem.run_pure]
  all_goals obtain ⟨z, rfl, h⟩ := h
  all_goals refine ⟨_, rfl, fun w => ?_, h⟩
  all_goals (simp only [binOp, Op.stringOp, bytes_eq]; first | rfl | (simp [ByteArray.toList_eq]; done))
theorem exBin_ok (hL : LOk P L) {op : BinOp} {t : TypeId} {x y : Value} {K : Value → Prop} (h : exBin L op t x y K) (a b : Operand) : ∃ v, v.oneCell' = true ∧ (∀ w, (do eqGuard op t a b x y; binOp op t x y : Sem Value).run P w = .ok v w) ∧ K v := by
  have hg : ∀ w, (∀ cs ds, ¬ (x = .agg cs ∧ y = .agg ds)) → ¬ (x = .nilIface ∧ y = .nilIface) → (eqGuard op t a b x y).run P w = .ok () w := fun w h1 h2 => by
    cases op <;> first | rfl | skip
    all_goals
      simp only [eqGuard, Bool.not_true, Bool.false_eq_true, if_false]
      split
      · exact absurd ⟨rfl, rfl⟩ h2
      · rename_i cs ds; exact absurd ⟨rfl, rfl⟩ (h1 cs ds)
      · rfl
  have fin : ∀ v, (∀ cs ds, ¬ (x = .agg cs ∧ y = .agg ds)) → ¬ (x = .nilIface ∧ y = .nilIface) → v.oneCell' = true ∧ (∀ w, (binOp op t x y).run P w = .ok v w) ∧ K v → ∃ v, v.oneCell' = true ∧ (∀ w, (do eqGuard op t a b x y; binOp op t x y : Sem Value).run P w = .ok v w) ∧ K v := fun v h1 h2 ⟨h3, h4, h5⟩ =>
    ⟨v, h3, fun w => by rw [Sem.run_bind, hg w h1 h2, Result.andThen_ok]; exact h4 w, h5⟩
  unfold exBin at h
  split at h
  · rename_i k a k' b
    split at h
    · obtain ⟨h0, z, rfl, h⟩ := h
      refine fin _ (by simp) (by simp) ⟨rfl, fun w => ?_, h⟩
      have : ¬ b < 0 := by omega
      simp [binOp, Op.shift, this]
    · obtain ⟨h0, z, rfl, h⟩ := h
      refine fin _ (by simp) (by simp) ⟨rfl, fun w => ?_, h⟩
      have : ¬ b < 0 := by omega
      simp [binOp, Op.shift, this]
    · split at h
      · rename_i h1 h2 _ hk
        obtain rfl := of_decide_eq_true hk
        obtain ⟨v, h3⟩ := exInt_ok (P := P) (t := t) h ⟨fun e => h1 e, fun e => h2 e⟩
        exact fin v (by simp) (by simp) h3
      · exact h.elim
  · obtain ⟨v, h3⟩ := exStr_ok (P := P) (t := t) h
    exact fin v (by simp) (by simp) h3
  · split at h
    · rename_i hl
      have hu := ((layOf_ok (hL _ _ hl)).under rfl).2.2.1 rfl
      have heq : ∀ (u v : Bool) w, (Op.equal t (.bool u) (.bool v)).run P w = .ok (decide (u = v)) w := fun u v w => by
        rw [Op.equal, show Op.maxDepth = 9999 + 1 from rfl, Op.equalIn, Sem.run_bind, run_underlying hu, Result.andThen_ok]
        simp [Bool.beq_eq_decide_eq]
      split at h
      · obtain ⟨z, rfl, h⟩ := h
        exact fin _ (by simp) (by simp) ⟨rfl, fun w => by simp [binOp, heq], h⟩
      · obtain ⟨z, rfl, h⟩ := h
        exact fin _ (by simp) (by simp) ⟨rfl, fun w => by simp [binOp, heq], h⟩
      · exact h.elim
    · exact h.elim
  · exact h.elim
/-- Interface values against nil. -/
def exIfn (P : Program) (op : BinOp) (t : TypeId) (same : Bool) (K : Res → Prop) : Prop :=
  (∃ ms, P.underlying t = some (.interface ms)) ∧ match op, same with
    | .eql, true | .neq, false => K (pureR (Tbool true))
    | .eql, false | .neq, true => K (pureR (Tbool false))
    | _, _ => False
def isNilI : D → Option Bool
  | .err => some false
  | .v .nilIface => some true
  | .v (.iface _ _) => some false
  | _ => none
theorem isNilI_ok {S : Nat → Prop} {w : World} {d : D} {u : Value} {b : Bool} (h : isNilI d = some b) (hu : Imm S w d u) : (b = true ∧ u = .nilIface) ∨ (b = false ∧ ∃ t v, u = .iface t v) := by
  unfold isNilI at h
  split at h
  · cases h; cases hu; exact .inr ⟨rfl, _, _, rfl⟩
  · cases h; cases hu; exact .inl ⟨rfl, rfl⟩
  · cases h; cases hu; exact .inr ⟨rfl, _, _, rfl⟩
  · cases h
theorem exIfn_ok {op : BinOp} {t t' : TypeId} {x : Operand} (ho : o.op = .binOp op t x (.const .nilIface) t') {d : D} {b : Bool} (hx : ev x = some (.o (.c (.d d)))) (hd : isNilI d = some b) (h : exIfn P op t b K) : ∃ r, Spec P Γ o ev mem nx r ∧ K r := by
  unfold exIfn at h
  obtain ⟨⟨ms, hu⟩, h⟩ := h
  have heq : ∀ (u : Value) (w : World), (b = true ∧ u = .nilIface) ∨ (b = false ∧ ∃ t v, u = .iface t v) → (Op.equal t u .nilIface).run P w = .ok b w := fun u w hc => by
    rw [Op.equal, show Op.maxDepth = 9999 + 1 from rfl, Op.equalIn, Sem.run_bind, run_underlying hu, Result.andThen_ok]
    rcases hc with ⟨rfl, rfl⟩ | ⟨rfl, t, v, rfl⟩ <;> rfl
  have fin : ∀ (c : Bool), (∀ (u : Value) (w : World), (b = true ∧ u = .nilIface) ∨ (b = false ∧ ∃ t v, u = .iface t v) → (binOp op t u .nilIface).run P w = .ok (.bool c) w) → K (pureR (Tbool c)) → ∃ r, Spec P Γ o ev mem nx r ∧ K r := fun c hc hk =>
    ⟨_, spec_val fun ι S A w h1 h2 => ⟨.bool c, by
      have ex : Imm S w d (A.eval x) := h1 x (by simp [ho, Op.operands]) _ hx
      have ey : A.eval (.const .nilIface) = .nilIface := rfl
      generalize A.eval = ρ at ex ey ⊢
      have hcase := isNilI_ok hd ex
      have := hc _ w hcase
      have hg : (eqGuard op t x (.const .nilIface) (ρ x) .nilIface).run P w = .ok () w := by
        rcases hcase with ⟨_, e⟩ | ⟨_, t, v, e⟩ <;> rw [e] <;> cases op <;> simp [eqGuard]
      simp [execOp, ho, ey, hg, this], V_mk rfl⟩, hk⟩
  split at h
  · exact fin true (fun u w hc => by simp [binOp, heq u w hc]) h
  · exact fin true (fun u w hc => by simp [binOp, heq u w hc]) h
  · exact fin false (fun u w hc => by simp [binOp, heq u w hc]) h
  · exact fin false (fun u w hc => by simp [binOp, heq u w hc]) h
  · exact h.elim
def isNilC : Operand → Bool
  | .const .nilIface => true
  | _ => false
theorem isNilC_ok {y : Operand} (h : isNilC y = true) : y = .const .nilIface := by
  unfold isNilC at h
  split at h
  · rfl
  · cases h
def exBinOp (P : Program) (L : Nat → Option Lay) (ev : Operand → Option TV) (op : BinOp) (t : TypeId) (x y : Operand) (K : Res → Prop) : Prop :=
  match isNilC y with
  | true => match ev x with
    | some (.o (.c (.d d))) => match isNilI d with
      | some b => exIfn P op t b K
      | none => False
    | _ => False
  | false => match ev x, ev y with
    | some (.o (.c (.d (.v a)))), some (.o (.c (.d (.v b)))) => exBin L op t a b fun v => K (pureR (.o (.c (.d (.v v)))))
    | _, _ => False
theorem exBinOp_ok (hL : LOk P L) {op : BinOp} {t t' : TypeId} {x y : Operand} (ho : o.op = .binOp op t x y t') (h : exBinOp P L ev op t x y K) : ∃ r, Spec P Γ o ev mem nx r ∧ K r := by
  unfold exBinOp at h
  split at h
  · rename_i hn
    obtain rfl := isNilC_ok hn
    split at h
    · rename_i d hx
      split at h
      · rename_i b hb
        exact exIfn_ok ho hx hb h
      · exact h.elim
    · exact h.elim
  · split at h
    · rename_i a b hx hy
      obtain ⟨v, hv1, hv2, hv3⟩ := exBin_ok hL h x y
      refine ⟨_, spec_val fun ι S A w h1 h2 => ⟨v, ?_, V_mk hv1⟩, hv3⟩
      have ex := V_v (h1 x (by simp [ho, Op.operands]) _ hx)
      have ey := V_v (h1 y (by simp [ho, Op.operands]) _ hy)
      have := hv2 w
      simp only [execOp, ho, ex, ey]
      rw [Sem.run_bind, this]
      rfl
    · exact h.elim

/-! ### Moves and the like -/
def exMove (ev : Operand → Option TV) (x : Operand) (K : Res → Prop) : Prop :=
  match ev x with
  | some v => K (pureR v)
  | none => False
theorem exMove_ok {x : Operand} (ho : o.op = .move x ∨ o.op = .assign x) (h : exMove ev x K) : ∃ r, Spec P Γ o ev mem nx r ∧ K r := by
  unfold exMove at h
  split at h
  · rename_i v hx
    refine ⟨_, spec_val fun ι S A w h1 h2 => ⟨A.eval x, ?_, h1 x ?_ _ hx⟩, h⟩
    · rcases ho with ho | ho <;> simp [execOp, ho]
    · rcases ho with ho | ho <;> simp [ho, Op.operands]
  · exact h.elim
def exPick (ev : Operand → Option TV) (c x y : Operand) (K : Res → Prop) : Prop :=
  match ev c with
  | some (.o (.c (.d (.v (.bool b))))) => match b with
    | true => exMove ev x K
    | false => exMove ev y K
  | _ => False
theorem exPick_ok {c x y : Operand} (ho : o.op = .pick c x y) (h : exPick ev c x y K) : ∃ r, Spec P Γ o ev mem nx r ∧ K r := by
  unfold exPick exMove at h
  split at h
  · rename_i b hc
    split at h <;> split at h
    · rename_i v hx
      refine ⟨_, spec_val fun ι S A w h1 h2 => ⟨A.eval x, ?_, h1 x (by simp [ho, Op.operands]) _ hx⟩, h⟩
      have := V_v (h1 c (by simp [ho, Op.operands]) _ hc)
      simp [execOp, ho, this, asBool]
    · exact h.elim
    · rename_i v hx
      refine ⟨_, spec_val fun ι S A w h1 h2 => ⟨A.eval y, ?_, h1 y (by simp [ho, Op.operands]) _ hx⟩, h⟩
      have := V_v (h1 c (by simp [ho, Op.operands]) _ hc)
      simp [execOp, ho, this, asBool]
    · exact h.elim
  · exact h.elim
def exUn (ev : Operand → Option TV) (op : UnOp) (x : Operand) (K : Res → Prop) : Prop :=
  match op, ev x with
  | .not, some (.o (.c (.d (.v (.bool b))))) => match b with
    | true => K (pureR (Tbool false))
    | false => K (pureR (Tbool true))
  | .neg, some (.o (.c (.d (.v (.int k n))))) => ∃ z, k.wrap (0 - n) = z ∧ K (pureR (Tint k z))
  | .xor, some (.o (.c (.d (.v (.int k n))))) => ∃ z, k.wrap (BitVec.ofInt k.bits (if k.signed then -1 else k.max) ^^^ BitVec.ofInt k.bits n).toNat = z ∧ K (pureR (Tint k z))
  | _, _ => False
theorem exUn_ok {op : UnOp} {t : TypeId} {x : Operand} (ho : o.op = .unOp op t x) (h : exUn ev op x K) : ∃ r, Spec P Γ o ev mem nx r ∧ K r := by
  unfold exUn at h
  split at h
  · rename_i b hx
    cases b
    · exact ⟨_, spec_val fun ι S A w h1 h2 => ⟨_, by simp [execOp, ho, V_v (h1 x (by simp [ho, Op.operands]) _ hx), Op.unary], V_mk rfl⟩, h⟩
    · exact ⟨_, spec_val fun ι S A w h1 h2 => ⟨_, by simp [execOp, ho, V_v (h1 x (by simp [ho, Op.operands]) _ hx), Op.unary], V_mk rfl⟩, h⟩
  · rename_i k n hx
    obtain ⟨z, rfl, h⟩ := h
    exact ⟨_, spec_val fun ι S A w h1 h2 => ⟨_, by simp [execOp, ho, V_v (h1 x (by simp [ho, Op.operands]) _ hx), Op.unary, Op.intArith], V_mk rfl⟩, h⟩
  · rename_i k n hx
    obtain ⟨z, rfl, h⟩ := h
    exact ⟨_, spec_val fun ι S A w h1 h2 => ⟨_, by simp [execOp, ho, V_v (h1 x (by simp [ho, Op.operands]) _ hx), Op.unary, Op.intBits], V_mk rfl⟩, h⟩
  · exact h.elim
/-- A conversion between numbers, or of a string to a string. -/
def exConv (L : Nat → Option Lay) (ev : Operand → Option TV) (src dst : TypeId) (x : Operand) (K : Res → Prop) : Prop :=
  match L src, L dst, ev x with
  | some _, some ⟨_, _, _, .int k⟩, some (.o (.c (.d (.v (.int _ n))))) => ∃ z, k.wrap n = z ∧ K (pureR (Tint k z))
  | some _, some ⟨_, _, _, .str⟩, some (.o (.c (.d (.v (.string s))))) => K (pureR (Tstr s))
  | _, _, _ => False
theorem exConv_ok (hL : LOk P L) {src dst : TypeId} {x : Operand} (ho : o.op = .convert src dst x) (h : exConv L ev src dst x K) : ∃ r, Spec P Γ o ev mem nx r ∧ K r := by
  unfold exConv at h
  split at h
  · rename_i l1 _ _ _ k _ n hs hd hx
    obtain ⟨z, rfl, h⟩ := h
    obtain ⟨i1, d1, z1, _, hu1, _⟩ := (layOf_ok (hL _ _ hs)).ex
    have hu := ((layOf_ok (hL _ _ hd)).under rfl).2.2.2.1 k rfl
    refine ⟨_, spec_val fun ι S A w h1 h2 => ⟨.int k (k.wrap n), ?_, V_mk rfl⟩, h⟩
    simp [execOp, ho, V_v (h1 x (by simp [ho, Op.operands]) _ hx), convert, run_underlying hu1, run_underlying hu, Conv.intToInt]
  · rename_i l1 _ _ _ s hs hd hx
    obtain ⟨i1, d1, z1, _, hu1, _⟩ := (layOf_ok (hL _ _ hs)).ex
    have hu := ((layOf_ok (hL _ _ hd)).under rfl).2.1 rfl
    refine ⟨_, spec_val fun ι S A w h1 h2 => ⟨.string s, ?_, V_mk rfl⟩, h⟩
    simp [execOp, ho, V_v (h1 x (by simp [ho, Op.operands]) _ hx), convert, run_underlying hu1, run_underlying hu]
  · exact h.elim
def exNil (ev : Operand → Option TV) (x : Operand) (K : Res → Prop) : Prop :=
  match ev x with
  | some (.o (.c (.ptr k f))) => K (pureR (.o (.c (.ptr k f))))
  | some (.o (.c (.eptr cs))) => K (pureR (.o (.c (.eptr cs))))
  | some (.o (.c (.rptr k s i j))) => K (pureR (.o (.c (.rptr k s i j))))
  | _ => False
theorem exNil_ok {x : Operand} (ho : o.op = .nilCheck x) (h : exNil ev x K) : ∃ r, Spec P Γ o ev mem nx r ∧ K r := by
  unfold exNil at h
  split at h
  · rename_i k f hx
    refine ⟨_, spec_val fun ι S A w h1 h2 => ⟨A.eval x, ?_, h1 x (by simp [ho, Op.operands]) _ hx⟩, h⟩
    obtain ⟨b, _, hb⟩ := h1 x (by simp [ho, Op.operands]) _ hx
    simp [execOp, ho, hb]
  · rename_i cs hx
    refine ⟨_, spec_val fun ι S A w h1 h2 => ⟨A.eval x, ?_, h1 x (by simp [ho, Op.operands]) _ hx⟩, h⟩
    obtain ⟨g, f, us, hb, _⟩ := h1 x (by simp [ho, Op.operands]) _ hx
    simp [execOp, ho, hb]
  · rename_i k s i j hx
    refine ⟨_, spec_val fun ι S A w h1 h2 => ⟨A.eval x, ?_, h1 x (by simp [ho, Op.operands]) _ hx⟩, h⟩
    obtain ⟨b, n, c, _, hb⟩ := h1 x (by simp [ho, Op.operands]) _ hx
    simp [execOp, ho, hb]
  · exact h.elim
def exExtract (ev : Operand → Option TV) (x : Operand) (i : Nat) (K : Res → Prop) : Prop :=
  match ev x with
  | some (.tup l) => match l[i]? with
    | some v => K (pureR (.o v))
    | none => False
  | _ => False
theorem exExtract_ok {x : Operand} {i : Nat} (ho : o.op = .extract x i) (h : exExtract ev x i K) : ∃ r, Spec P Γ o ev mem nx r ∧ K r := by
  unfold exExtract at h
  split at h
  · rename_i l hx
    split at h
    · rename_i v hv
      refine ⟨_, spec_val fun ι S A w h1 h2 => ?_, h⟩
      obtain ⟨us, hus, hall⟩ := h1 x (by simp [ho, Op.operands]) _ hx
      obtain ⟨u, hu1, hu2⟩ := hall.at_left hv
      exact ⟨u, by simp [execOp, ho, hus, Instr.extract, hu1], hu2⟩
    · exact h.elim
  · exact h.elim

/-! ### Addresses -/
def exField (L : Nat → Option Lay) (ev : Operand → Option TV) (t : TypeId) (x : Operand) (f : Nat) (K : Res → Prop) : Prop :=
  match L t with
  | some ⟨_, _, _, .st fs⟩ => match fs[f]? with
    | some (off, size + 1, _) => match ev x with
      | some (.o (.c (.ptr k o))) => K (pureR (.o (.c (.ptr k (o + off)))))
      | some (.o (.c (.eptr cs))) => match Nat.ble (off + (size + 1)) cs.length with
        | true => K (pureR (.o (.c (.eptr (cs.drop off)))))
        | false => False
      | some (.o (.c (.rptr k s i j))) => K (pureR (.o (.c (.rptr k s i (j + off)))))
      | _ => False
    | _ => False
  | _ => False
theorem fieldLay_spec {f : Field} {x : Nat × Nat × Bool} (h : fieldLay P f = some x) : f.offset = x.1 ∧ (∃ i, P.info? f.type = some i ∧ i.size = x.2.1) ∧ ∃ d, P.underlying f.type = some d ∧ aggD d = x.2.2 := by
  unfold fieldLay at h
  split at h
  · rename_i i d hi hd
    cases h
    exact ⟨rfl, ⟨i, hi, rfl⟩, d, hd, rfl⟩
  · cases h
theorem exField_ok (hL : LOk P L) {t : TypeId} {x : Operand} {f : Nat} (ho : o.op = .fieldAddr t x f) (h : exField L ev t x f K) : ∃ r, Spec P Γ o ev mem nx r ∧ K r := by
  unfold exField at h
  split at h
  · rename_i _ _ _ fs hl
    obtain ⟨fields, hu, hm⟩ := ((layOf_ok (hL _ _ hl)).under rfl).2.2.2.2.2 fs rfl
    split at h
    · rename_i off size b hf
      obtain ⟨hlen, hget⟩ := mapM_isSome hm
      have hlt : f < fields.toList.length := by rw [hlen]; exact (List.getElem?_eq_some_iff.1 hf).1
      obtain ⟨F, hF⟩ : ∃ F, fields.toList[f]? = some F := ⟨_, List.getElem?_eq_getElem hlt⟩
      obtain ⟨y, hy1, hy2⟩ := hget f F hF
      rw [hf] at hy2
      cases hy2
      obtain ⟨e1, ⟨i, e2, e3⟩, _⟩ := fieldLay_spec hy1
      have hne : ¬ i.size = 0 := by simp at e3; omega
      have hfield : fields[f]? = some F := by simpa using hF
      have run : ∀ (A : Act) (w : World) (g o : Nat), A.eval x = .pointer (some ⟨g, o, none⟩) → (execOp A.eval ‹Oper›).run P w = .ok (.value (.pointer (some ⟨g, o + off, none⟩))) w := fun A w g o' he => by
        simp [execOp, ho, he, Instr.fieldAt, run_underlying hu, hfield, Instr.sureAddr, fieldPlace, sizeOf, typeInfo, e2, hne, Addr.add_lit]
      split at h
      · rename_i k o' hx
        refine ⟨_, spec_val fun ι S A w h1 h2 => ?_, h⟩
        obtain ⟨b, hb1, hb2⟩ := h1 x (by simp [ho, Op.operands]) _ hx
        exact ⟨_, run A w _ _ hb2, b, hb1, rfl⟩
      · rename_i cs hx
        split at h
        · rename_i hle
          refine ⟨_, spec_val fun ι S A w h1 h2 => ?_, h⟩
          obtain ⟨g, fo, us, hb1, hb2, hb3⟩ := h1 x (by simp [ho, Op.operands]) _ hx
          refine ⟨_, run A w _ _ hb1, g, fo + off, fun j => us (off + j), rfl, fun hn => hb2 ?_, fun j d hj => ?_⟩
          · intro e; subst e; simp at hn
          · rw [List.getElem?_drop] at hj
            have := hb3 _ _ hj
            rw [← Nat.add_assoc] at this
            exact this
        · exact h.elim
      · rename_i k s i' j hx
        refine ⟨_, spec_val fun ι S A w h1 h2 => ?_, h⟩
        obtain ⟨b, n, c, hb1, hb2⟩ := h1 x (by simp [ho, Op.operands]) _ hx
        exact ⟨_, run A w _ _ hb2, b, n, c, hb1, by rw [Nat.add_assoc]⟩
      · exact h.elim
    · exact h.elim
  · exact h.elim
/-- A struct's field, the struct a value. -/
def exPart (L : Nat → Option Lay) (ev : Operand → Option TV) (t : TypeId) (x : Operand) (f : Nat) (K : Res → Prop) : Prop :=
  match L t with
  | some ⟨_, _, _, .st fs⟩ => match fs[f]? with
    | some (off, size, agg) => match ev x with
      | some (.o (.g l)) => match Nat.ble (off + size) l.length, ofCells agg ((l.drop off).take size) with
        | true, some v => K (pureR v)
        | _, _ => False
      | _ => False
    | _ => False
  | _ => False
theorem exPart_ok (hL : LOk P L) {t : TypeId} {x : Operand} {f : Nat} (ho : o.op = .field t x f) (h : exPart L ev t x f K) : ∃ r, Spec P Γ o ev mem nx r ∧ K r := by
  unfold exPart at h
  split at h
  · rename_i _ _ _ fs hl
    obtain ⟨fields, hu, hm⟩ := ((layOf_ok (hL _ _ hl)).under rfl).2.2.2.2.2 fs rfl
    split at h
    · rename_i off size agg hf
      obtain ⟨hlen, hget⟩ := mapM_isSome hm
      have hlt : f < fields.toList.length := by rw [hlen]; exact (List.getElem?_eq_some_iff.1 hf).1
      obtain ⟨F, hF⟩ : ∃ F, fields.toList[f]? = some F := ⟨_, List.getElem?_eq_getElem hlt⟩
      obtain ⟨y, hy1, hy2⟩ := hget f F hF
      rw [hf] at hy2
      cases hy2
      obtain ⟨e1, ⟨i, e2, e3⟩, d, e4, e5⟩ := fieldLay_spec hy1
      have hfield : fields[f]? = some F := by simpa using hF
      split at h
      · rename_i l hx
        split at h
        · rename_i v hle hv
          refine ⟨_, spec_val fun ι S A w h1 h2 => ?_, h⟩
          obtain ⟨us, hus, hall⟩ := h1 x (by simp [ho, Op.operands]) _ hx
          have hle' := Nat.le_of_ble_eq_true hle
          have hagg : (isAgg F.type).run P w = .ok agg w := by
            unfold isAgg
            rw [Sem.run_bind, run_underlying e4 w]
            simp at e5
            rw [← e5]
            cases d <;> rfl
          have hpart : (part F.type us.toArray off).run P w = (if agg then .ok (.agg ((us.drop off).take size).toArray) w else match us[off]? with
              | some v => .ok v w
              | none => .halt (.stuck "part: no such cell") w) := by
            unfold part
            rw [Sem.run_bind, hagg, Result.andThen_ok]
            cases agg
            · simp only [Bool.false_eq_true, if_false]
              cases hq : us[off]? <;> simp [hq, stuck, Sem.run]
            · simp only [if_true]
              simp [sizeOf, typeInfo, e2]
              simp at e3
              rw [e3]
          have hr : (execOp A.eval ‹Oper›).run P w = ((part F.type us.toArray off).run P w).andThen fun v w => .ok (.value v) w := by
            simp at e1
            simp [execOp, ho, hus, Instr.field, run_underlying hu, hfield, asAgg, e1]
          rw [hpart] at hr
          rcases V_ofCells hv ((hall.drop off).take size) with ⟨ha, hV⟩ | ⟨ha, u, hu', hV⟩
          · exact ⟨_, by rw [hr, if_pos ha]; rfl, hV⟩
          · have hsz : us[off]? = some u := by
              have := congrArg (·[0]?) hu'
              simp only [List.getElem?_cons_zero] at this
              exact (drop_take_get this).1
            exact ⟨u, by rw [hr, if_neg (by simp [ha]), hsz]; rfl, hV⟩
        · exact h.elim
      · exact h.elim
    · exact h.elim
  · exact h.elim
end
end Go.Proofs.YtkeehnhamkdogaaDoor
