/- What single operations do to the abstract state: indices, parts of slices, lengths, stores, new variables. No condition. -/
import Derived.Test.YtkeehnhamkdogaaDoorE3
namespace Go.Proofs.YtkeehnhamkdogaaDoor
set_option linter.unusedVariables false
set_option linter.unusedSimpArgs false
open Go.RowKit

section
variable {P : Program} {Γ : Glob} {L : Nat → Option Lay} {o : Oper} {ev : Operand → Option TV} {mem : Nat → Option Blk} {nx : Nat} {K : Res → Prop}

/-! ### Indices -/
def exIndexStr (L : Nat → Option Lay) (ev : Operand → Option TV) (t : TypeId) (x i : Operand) (K : Res → Prop) : Prop :=
  match L t, ev x, ev i with
  | some ⟨_, _, _, .str⟩, some (.o (.c (.d (.v (.string s))))), some (.o (.c (.d (.v (.int _ n))))) => ∃ b : UInt8, 0 ≤ n ∧ s.data.toList[n.toNat]? = some b ∧ K (pureR (Tint .u8 b.toNat))
  | _, _, _ => False
theorem bytes_get (s : ByteArray) (i : Nat) : s[i]? = s.data.toList[i]? := by
  by_cases h : i < s.size
  · have h2 : i < s.data.toList.length := by simpa using h
    rw [getElem?_pos s i h, List.getElem?_eq_getElem h2]
    rfl
  · have h2 : s.data.toList.length ≤ i := by simpa using h
    rw [getElem?_neg s i h, List.getElem?_eq_none h2]
theorem exIndexStr_ok (hL : LOk P L) {t : TypeId} {x i : Operand} (ho : o.op = .index t x i) (h : exIndexStr L ev t x i K) : ∃ r, Spec P Γ o ev mem nx r ∧ K r := by
  unfold exIndexStr at h
  split at h
  · rename_i _ _ _ s _ n hl hx hi
    obtain ⟨b, h0, hb, h⟩ := h
    have hu := ((layOf_ok (hL _ _ hl)).under rfl).2.1 rfl
    refine ⟨_, spec_val fun ι S A w h1 h2 => ⟨.int .u8 b.toNat, ?_, V_mk rfl⟩, h⟩
    have ex := V_v (h1 x (by simp [ho, Op.operands]) _ hx)
    have ei := V_v (h1 i (by simp [ho, Op.operands]) _ hi)
    have hb2 : s.data[n.toNat]? = some b := by rw [← Array.getElem?_toList]; exact hb
    simp [execOp, ho, ex, ei, Instr.index, asIntOf, run_underlying hu, h0, bytes_get, hb2]
  · exact h.elim
def exIndexAddr (L : Nat → Option Lay) (ev : Operand → Option TV) (mem : Nat → Option Blk) (t : TypeId) (x i : Operand) (K : Res → Prop) : Prop :=
  match L t, ev i with
  | some ⟨_, _, _, .sl e⟩, some (.o (.c (.d (.v (.int _ n))))) => match L e, ev x with
    | some le, some (.o (.c (.d (.sl size rows)))) => match Nat.beq le.size size with
      | true => ∃ r, 0 ≤ n ∧ rows[n.toNat]? = some r ∧ K (pureR (.o (.c (.eptr r))))
      | false => False
    | some le, some (.o (.c (.row k))) => match mem k with
      | some (.row size _ rows) => match Nat.beq le.size size with
        | true => 0 ≤ n ∧ n.toNat < rows.length ∧ K ⟨.o (.c (.rptr k size n.toNat 0)), [k], [], []⟩
        | false => False
      | _ => False
    | _, _ => False
  | some ⟨_, _, _, .arr m e⟩, some (.o (.c (.d (.v (.int _ n))))) => match L e, ev x with
    | some le, some (.o (.c (.ptr k off))) => 0 ≤ n ∧ n.toNat < m ∧ K (pureR (.o (.c (.ptr k (off + n.toNat * le.size)))))
    | _, _ => False
  | _, _ => False
theorem exIndexAddr_ok (hL : LOk P L) {t : TypeId} {x i : Operand} (ho : o.op = .indexAddr t x i) (h : exIndexAddr L ev mem t x i K) : ∃ r, Spec P Γ o ev mem nx r ∧ K r := by
  unfold exIndexAddr at h
  split at h
  · rename_i e _ n hl hi
    have hu := ((layOf_ok (hL _ _ hl)).under rfl).1 e rfl
    split at h
    · rename_i le size rows hle hx
      split at h
      · rename_i hbeq
        have hsz := Nat.eq_of_beq_eq_true hbeq
        obtain ⟨r, h0, hr, h⟩ := h
        refine ⟨_, spec_val fun ι S A w h1 h2 => ?_, h⟩
        have ei := V_v (h1 i (by simp [ho, Op.operands]) _ hi)
        have hI : Imm S w _ _ := h1 x (by simp [ho, Op.operands]) _ hx
        generalize hex : A.eval x = u at hI
        cases hI with
        | nil => simp at hr
        | sl0 => simp at hr
        | sl us hs hc hrr hc1 hc2 =>
          rename_i g f cap
          have hlt := (List.getElem?_eq_some_iff.1 hr).1
          have hn : n < rows.length := by omega
          refine ⟨.pointer (some ⟨g, f + n.toNat * size, none⟩), ?_, g, f + n.toNat * size, fun j => us (n.toNat * size + j), rfl, fun _ => hs, fun j d hj => ?_⟩
          · have hs' := (layOf_ok (hL _ _ hle)).sizeOf w
            rw [hsz] at hs'
            simp [execOp, ho, hex, ei, Instr.indexAt, asIntOf, run_underlying hu, h0, hn, hs', Addr.add_lit]
          · have := flatten_get hrr hr hj
            refine ⟨?_, hc2 _ _ this⟩
            rw [Nat.add_assoc]
            exact hc1 _ _ this
      · exact h.elim
    · rename_i le k hle hx
      split at h
      · rename_i size e' rows hk
        split at h
        · rename_i hbeq
          have hsz := Nat.eq_of_beq_eq_true hbeq
          obtain ⟨h0, hlt, h⟩ := h
          refine ⟨_, spec_val fun ι S A w h1 h2 => ?_, h⟩
          have ei := V_v (h1 i (by simp [ho, Op.operands]) _ hi)
          obtain ⟨hex, _⟩ := h1 x (by simp [ho, Op.operands]) _ hx
          obtain ⟨cs, h3, _⟩ := h2 k (by simp) _ hk
          rcases h3.2 with ⟨_, h4⟩ | ⟨g, cap, cur, h4, _⟩
          · omega
          · have hs' := (layOf_ok (hL _ _ hle)).sizeOf w
            rw [hsz] at hs'
            have hn : n < rows.length := by omega
            refine ⟨.pointer (some ⟨g, n.toNat * size, none⟩), ?_, g, _, cap, h4, rfl⟩
            simp [execOp, ho, hex, h4, ei, Instr.indexAt, asIntOf, run_underlying hu, h0, hn, hs', Addr.add_lit]
        · exact h.elim
      · exact h.elim
    · exact h.elim
  · rename_i m e _ n hl hi
    have hu := ((layOf_ok (hL _ _ hl)).under rfl).2.2.2.2.1 m e rfl
    split at h
    · rename_i le k off hle hx
      obtain ⟨h0, hlt, h⟩ := h
      refine ⟨_, spec_val fun ι S A w h1 h2 => ?_, h⟩
      have ei := V_v (h1 i (by simp [ho, Op.operands]) _ hi)
      obtain ⟨b, hb1, hb2⟩ := h1 x (by simp [ho, Op.operands]) _ hx
      have hs' := (layOf_ok (hL _ _ hle)).sizeOf w
      have hn : n < m := by omega
      refine ⟨.pointer (some ⟨b, off + n.toNat * le.size, none⟩), ?_, b, hb1, rfl⟩
      simp [execOp, ho, hb2, ei, Instr.indexAt, asIntOf, run_underlying hu, h0, hn, hs', Addr.add_lit, Instr.sureAddr]
    · exact h.elim
  · exact h.elim

/-! ### Parts of strings and slices -/
/-- The bounds of a part: what is not given is the whole. -/
def bndLo (ev : Operand → Option TV) : Option Operand → Option Int
  | none => some 0
  | some x => match ev x with
    | some (.o (.c (.d (.v (.int _ n))))) => some n
    | _ => none
def bndHi (ev : Operand → Option TV) (len : Int) : Option Operand → Option Int
  | none => some len
  | some x => match ev x with
    | some (.o (.c (.d (.v (.int _ n))))) => some n
    | _ => none
def exSlice (L : Nat → Option Lay) (ev : Operand → Option TV) (mem : Nat → Option Blk) (nx : Nat) (t : TypeId) (x : Operand) (lo hi : Option Operand) (K : Res → Prop) : Prop :=
  match L t, ev x with
  | some ⟨_, _, _, .str⟩, some (.o (.c (.d (.v (.string s))))) => match bndLo ev lo, bndHi ev s.size hi with
    | some l, some h => 0 ≤ l ∧ l ≤ h ∧ h ≤ s.size ∧ K (pureR (Tstr (s.extract l.toNat h.toNat)))
    | _, _ => False
  | some ⟨_, _, _, .sl e⟩, some (.o (.c (.d (.sl size rows)))) => match L e, bndLo ev lo, bndHi ev rows.length hi with
    | some le, some l, some h => match Nat.beq le.size size with
      | true => 0 ≤ l ∧ l ≤ h ∧ h ≤ rows.length ∧ ∃ rows', (rows.take h.toNat).drop l.toNat = rows' ∧ K (pureR (Tsl size rows'))
      | false => False
    | _, _, _ => False
  | some ⟨_, _, _, .sl e⟩, some (.o (.c (.d (.v (.slice none 0 0))))) => match L e, bndLo ev lo, bndHi ev 0 hi with
    | some _, some l, some h => 0 ≤ l ∧ l ≤ h ∧ h ≤ 0 ∧ K (pureR Tnil)
    | _, _, _ => False
  | _, _ => False
theorem run_bounds {ev : Operand → Option TV} {ι : Nat → Value} {S : Nat → Prop} {A : Act} {w : World} {lo hi : Option Operand} {l h len : Int} (isSlice : Bool) (len' cap : Nat) (hlen : len = len') (hcap : len' ≤ cap)
    (hops : ∀ y, (lo = some y ∨ hi = some y) → ∀ tv, ev y = some tv → V ι S w tv (A.eval y)) (hl : bndLo ev lo = some l) (hh : bndHi ev len hi = some h) (h0 : 0 ≤ l) (h1 : l ≤ h) (h2 : h ≤ len) :
    (Instr.sliceBounds isSlice len' cap (lo.map A.eval) (hi.map A.eval) none).run P w = .ok (l.toNat, h.toNat, cap) w := by
  have hb : ∀ (x : Operand) (n : Int) (y : Nat) (c : BoundsCode), (∃ k, A.eval x = .int k n) → 0 ≤ n → n ≤ y → (Instr.sliceBound (A.eval x) y c).run P w = .ok n.toNat w := fun x n y c ⟨k, hx⟩ h0 h1 => by rw [hx]; exact run_sliceBound w k n y c h0 h1
  have key : ∀ (x : Operand) (n : Int), (lo = some x ∨ hi = some x) → (match ev x with | some (.o (.c (.d (.v (.int _ n))))) => some n | _ => none) = some n → ∃ k, A.eval x = .int k n := fun x n hx he => by
    split at he
    · rename_i k m hev
      cases he
      exact ⟨k, V_v (hops x hx _ hev)⟩
    · cases he
  have hl' : ∀ x, lo = some x → ∀ c, (Instr.sliceBound (A.eval x) h.toNat c).run P w = .ok l.toNat w := fun x hx c => by
    subst hx
    exact hb x l h.toNat c (key x l (.inl rfl) hl) h0 (by omega)
  have hh' : ∀ x, hi = some x → ∀ c, (Instr.sliceBound (A.eval x) cap c).run P w = .ok h.toNat w := fun x hx c => by
    subst hx
    exact hb x h cap c (key x h (.inr rfl) hh) (by omega) (by omega)
  have el : lo = none → l.toNat = 0 := fun e => by subst e; simp [bndLo] at hl; omega
  have eh : hi = none → h.toNat = len' := fun e => by subst e; simp [bndHi] at hh; omega
  clear hb key hops
  unfold Instr.sliceBounds
  cases lo with
  | none =>
    have e1 := el rfl
    cases hi with
    | none => have e2 := eh rfl; simp [e1, e2]
    | some y => simp [e1, hh' y rfl]
  | some x =>
    cases hi with
    | none => have e2 := eh rfl; have h3 := hl' x rfl; rw [e2] at h3; simp [e2, h3]
    | some y => simp [hh' y rfl, hl' x rfl]
theorem flatten_part {α : Type} {size : Nat} : ∀ {rows : List (List α)} (_ : ∀ r ∈ rows, r.length = size) (l h : Nat), ((rows.take h).drop l).flatten = (rows.flatten.take (h * size)).drop (l * size)
  | [], _, l, h => by simp
  | a :: rows, hr, 0, 0 => by simp
  | a :: rows, hr, 0, h + 1 => by
    have ha := hr a (by simp)
    have ih := flatten_part (fun r hr' => hr r (by simp [hr'])) 0 h (rows := rows)
    simp only [Nat.zero_mul, List.drop_zero, List.take_succ_cons, List.flatten_cons] at ih ⊢
    rw [ih, List.take_append, List.take_of_length_le (l := a) (by rw [ha, Nat.add_mul]; omega), ha, show (h + 1) * size - size = h * size by rw [Nat.add_mul]; omega]
  | a :: rows, hr, l + 1, 0 => by simp
  | a :: rows, hr, l + 1, h + 1 => by
    have ha := hr a (by simp)
    have ih := flatten_part (fun r hr' => hr r (by simp [hr'])) l h (rows := rows)
    simp only [List.take_succ_cons, List.drop_succ_cons, List.flatten_cons, ih]
    rw [List.take_append, List.take_of_length_le (l := a) (by rw [ha, Nat.add_mul]; omega), ha, show (h + 1) * size - size = h * size by rw [Nat.add_mul]; omega,
      List.drop_append, List.drop_of_length_le (l := a) (by rw [ha, Nat.add_mul]; omega), ha, show (l + 1) * size - size = l * size by rw [Nat.add_mul]; omega, List.nil_append]
theorem exSlice_ok (hL : LOk P L) {t : TypeId} {x : Operand} {lo hi : Option Operand} (ho : o.op = .slice t x lo hi none) (h : exSlice L ev mem nx t x lo hi K) : ∃ r, Spec P Γ o ev mem nx r ∧ K r := by
  have hops : ∀ y, (lo = some y ∨ hi = some y) → y ∈ o.op.operands := fun y hy => by
    rcases hy with rfl | rfl <;> simp [ho, Op.operands]
  unfold exSlice at h
  split at h
  · rename_i _ _ _ s hl hx
    have hu := ((layOf_ok (hL _ _ hl)).under rfl).2.1 rfl
    split at h
    · rename_i l h' hlo hhi
      obtain ⟨h0, h1, h2, h⟩ := h
      refine ⟨_, spec_val fun ι S A w q1 q2 => ⟨.string (s.extract l.toNat h'.toNat), ?_, V_mk rfl⟩, h⟩
      have ex := V_v (q1 x (by simp [ho, Op.operands]) _ hx)
      have hb := run_bounds (P := P) (A := A) (w := w) false s.size s.size rfl (Nat.le_refl _) (fun y hy tv htv => q1 y (hops y hy) tv htv) hlo hhi h0 h1 h2
      simp only [execOp, ho, ex]
      rw [Sem.run_bind, run_sliceAt_string w t _ _ _ _ hu]
      simp [Instr.slice, run_underlying hu, hb]
    · exact h.elim
  · rename_i e size rows hl hx
    have hu := ((layOf_ok (hL _ _ hl)).under rfl).1 e rfl
    split at h
    · rename_i le l h' hle hlo hhi
      split at h
      · rename_i hbeq
        have hsz := Nat.eq_of_beq_eq_true hbeq
        obtain ⟨h0, h1, h2, rows', rfl, h⟩ := h
        refine ⟨_, spec_val fun ι S A w q1 q2 => ?_, h⟩
        have hI : Imm S w _ _ := q1 x (by simp [ho, Op.operands]) _ hx
        have hs' := (layOf_ok (hL _ _ hle)).sizeOf w
        rw [hsz] at hs'
        generalize hex : A.eval x = u at hI
        cases hI with
        | nil =>
          have hb := run_bounds (P := P) (A := A) (w := w) true 0 0 rfl (Nat.le_refl _) (fun y hy tv htv => q1 y (hops y hy) tv htv) hlo hhi h0 h1 h2
          refine ⟨.slice none 0 0, ?_, ?_⟩
          · have e1 : l.toNat = 0 := by simp at h2; omega
            have e2 : h'.toNat = 0 := by simp at h2; omega
            rw [e1, e2] at hb
            simp [execOp, ho, hex, Instr.sliceAt, Instr.slice, run_underlying hu, hb, hs']
          · simp only [List.take_nil, List.drop_nil]
            exact Imm.nil
        | sl0 =>
          rename_i cap a
          have hb := run_bounds (P := P) (A := A) (w := w) true 0 cap rfl (Nat.zero_le _) (fun y hy tv htv => q1 y (hops y hy) tv htv) hlo hhi h0 h1 h2
          have e1 : l.toNat = 0 := by simp at h2; omega
          have e2 : h'.toNat = 0 := by simp at h2; omega
          rw [e1, e2] at hb
          refine ⟨.slice (some a) 0 cap, ?_, ?_⟩
          · simp [execOp, ho, hex, Instr.sliceAt, Instr.slice, run_underlying hu, hb, hs', Addr.add]
          · simp only [List.take_nil, List.drop_nil]
            exact Imm.sl0
        | sl us hs hc hrr hc1 hc2 =>
          rename_i g f cap
          have hb := run_bounds (P := P) (A := A) (w := w) true rows.length cap rfl hc (fun y hy tv htv => q1 y (hops y hy) tv htv) hlo hhi h0 h1 h2
          have hlen : ((rows.take h'.toNat).drop l.toNat).length = h'.toNat - l.toNat := by simp; omega
          have hrow : ∀ r ∈ (rows.take h'.toNat).drop l.toNat, r.length = size := fun r hr => hrr r (List.mem_of_mem_take (List.mem_of_mem_drop hr))
          have hcap : h'.toNat ≤ cap := by omega
          by_cases hcl : cap = l.toNat
          · refine ⟨.slice (some ⟨g, f, none⟩) (h'.toNat - l.toNat) (cap - l.toNat), ?_, ?_⟩
            · have hb2 := hb
              rw [hcl] at hb2
              simp [execOp, ho, hex, Instr.sliceAt, Instr.slice, run_underlying hu, hb2, hs', hcl]
            · have hnil : (rows.take h'.toNat).drop l.toNat = [] := List.eq_nil_of_length_eq_zero (by rw [hlen]; omega)
              rw [← hlen, hnil]
              exact Imm.sl (fun _ => undef) hs (by simp) (by simp) (by simp) (by simp)
          · refine ⟨.slice (some ⟨g, f + l.toNat * size, none⟩) (h'.toNat - l.toNat) (cap - l.toNat), ?_, ?_⟩
            · simp [execOp, ho, hex, Instr.sliceAt, Instr.slice, run_underlying hu, hb, hs', hcl, Addr.add_lit]
            · rw [← hlen]
              have hget : ∀ j d, ((rows.take h'.toNat).drop l.toNat).flatten[j]? = some d → rows.flatten[l.toNat * size + j]? = some d := fun j d hj => by
                rw [flatten_part hrr, List.getElem?_drop, List.getElem?_take] at hj
                split at hj
                · exact hj
                · cases hj
              exact Imm.sl (fun j => us (l.toNat * size + j)) hs (by rw [hlen]; omega) hrow (fun j d hj => by rw [Nat.add_assoc]; exact hc1 _ _ (hget j d hj)) (fun j d hj => hc2 _ _ (hget j d hj))
      · exact h.elim
    · exact h.elim
  · rename_i e hl hx
    have hu := ((layOf_ok (hL _ _ hl)).under rfl).1 e rfl
    split at h
    · rename_i le l h' hle hlo hhi
      obtain ⟨h0, h1, h2, h⟩ := h
      refine ⟨_, spec_val fun ι S A w q1 q2 => ⟨.slice none 0 0, ?_, V_mk rfl⟩, h⟩
      have ex := V_v (q1 x (by simp [ho, Op.operands]) _ hx)
      have hb := run_bounds (P := P) (A := A) (w := w) true 0 0 rfl (Nat.le_refl _) (fun y hy tv htv => q1 y (hops y hy) tv htv) hlo hhi h0 h1 h2
      have e1 : l.toNat = 0 := by omega
      have e2 : h'.toNat = 0 := by omega
      rw [e1, e2] at hb
      have hs' := (layOf_ok (hL _ _ hle)).sizeOf w
      simp [execOp, ho, ex, Instr.sliceAt, Instr.slice, run_underlying hu, hb, hs']
    · exact h.elim
  · exact h.elim

/-! ### Lengths, the lesser and the greater -/
def exLen (L : Nat → Option Lay) (ev : Operand → Option TV) (mem : Nat → Option Blk) (t : TypeId) (x : Operand) (K : Res → Prop) : Prop :=
  match L t, ev x with
  | some ⟨_, _, _, .str⟩, some (.o (.c (.d (.v (.string s))))) => K (pureR (Tint .i64 s.size))
  | some ⟨_, _, _, .sl _⟩, some (.o (.c (.d (.sl _ rows)))) => ∃ n : Nat, rows.length = n ∧ K (pureR (Tint .i64 n))
  | some ⟨_, _, _, .sl _⟩, some (.o (.c (.d (.v (.slice none 0 0))))) => K (pureR (Tint .i64 0))
  | some ⟨_, _, _, .sl _⟩, some (.o (.c (.row k))) => match mem k with
    | some (.row _ _ rows) => ∃ n : Nat, rows.length = n ∧ K ⟨Tint .i64 n, [k], [], []⟩
    | _ => False
  | _, _ => False
theorem exLen_ok (hL : LOk P L) {t : TypeId} {x : Operand} {ts : Array TypeId} (ho : o.op = .call { callee := .builtin .len, args := #[x], argTypes := ts }) (hts : ts = #[t]) (h : exLen L ev mem t x K) : ∃ r, Spec P Γ o ev mem nx r ∧ K r := by
  subst hts
  have hm : x ∈ o.op.operands := by simp [ho, Op.operands, Call.operands]
  unfold exLen at h
  split at h
  · rename_i _ _ _ s hl hx
    have hu := ((layOf_ok (hL _ _ hl)).under rfl).2.1 rfl
    refine ⟨_, spec_val fun ι S A w q1 q2 => ⟨goInt s.size, ?_, V_mk rfl⟩, h⟩
    have ex := V_v (q1 x hm _ hx)
    simp [execOp, ho, ex, resolve, invoke, builtin, Builtin.len_, run_underlying hu]
  · rename_i _ _ _ e size rows hl hx
    have hu := ((layOf_ok (hL _ _ hl)).under rfl).1 e rfl
    obtain ⟨n, rfl, h⟩ := h
    refine ⟨_, spec_val fun ι S A w q1 q2 => ⟨goInt rows.length, ?_, V_mk rfl⟩, h⟩
    have hI : Imm S w _ _ := q1 x hm _ hx
    generalize hex : A.eval x = u at hI
    cases hI <;> simp [execOp, ho, hex, resolve, invoke, builtin, Builtin.len_, run_underlying hu]
  · rename_i _ _ _ e hl hx
    have hu := ((layOf_ok (hL _ _ hl)).under rfl).1 e rfl
    refine ⟨_, spec_val fun ι S A w q1 q2 => ⟨goInt 0, ?_, V_mk rfl⟩, h⟩
    have ex := V_v (q1 x hm _ hx)
    simp [execOp, ho, ex, resolve, invoke, builtin, Builtin.len_, run_underlying hu]
  · rename_i _ _ _ e k hl hx
    have hu := ((layOf_ok (hL _ _ hl)).under rfl).1 e rfl
    split at h
    · rename_i s1 e1 rows hk
      obtain ⟨n, rfl, h⟩ := h
      refine ⟨_, spec_val fun ι S A w q1 q2 => ⟨goInt rows.length, ?_, V_mk rfl⟩, h⟩
      obtain ⟨hex, _⟩ := q1 x hm _ hx
      obtain ⟨cs, h3, _⟩ := q2 k (by simp) _ hk
      rcases h3.2 with ⟨h4, h5⟩ | ⟨g, cap, cur, h4, _⟩
      · simp [execOp, ho, hex, h4, h5, resolve, invoke, builtin, Builtin.len_, run_underlying hu]
      · simp [execOp, ho, hex, h4, resolve, invoke, builtin, Builtin.len_, run_underlying hu]
    · exact h.elim
  · exact h.elim
def exMin (ev : Operand → Option TV) (x y : Operand) (K : Res → Prop) : Prop :=
  match ev x, ev y with
  | some (.o (.c (.d (.v (.int k a))))), some (.o (.c (.d (.v (.int _ b))))) => ∃ z, (if b < a then b else a) = z ∧ K (pureR (Tint k z))
  | _, _ => False
def exMax (ev : Operand → Option TV) (x y : Operand) (K : Res → Prop) : Prop :=
  match ev x, ev y with
  | some (.o (.c (.d (.v (.int k a))))), some (.o (.c (.d (.v (.int _ b))))) => ∃ z, (if a < b then b else a) = z ∧ K (pureR (Tint k z))
  | _, _ => False
theorem exMin_ok {x y : Operand} {ts : Array TypeId} (ho : o.op = .call { callee := .builtin .min, args := #[x, y], argTypes := ts }) (h : exMin ev x y K) : ∃ r, Spec P Γ o ev mem nx r ∧ K r := by
  unfold exMin at h
  split at h
  · rename_i k a _ b hx hy
    obtain ⟨z, rfl, h⟩ := h
    refine ⟨_, spec_val fun ι S A w q1 q2 => ⟨.int k (if b < a then b else a), ?_, V_mk rfl⟩, h⟩
    have ex := V_v (q1 x (by simp [ho, Op.operands, Call.operands]) _ hx)
    have ey := V_v (q1 y (by simp [ho, Op.operands, Call.operands]) _ hy)
    simp [execOp, ho, ex, ey, resolve, invoke, builtin, run_min_int2]
  · exact h.elim
theorem exMax_ok {x y : Operand} {ts : Array TypeId} (ho : o.op = .call { callee := .builtin .max, args := #[x, y], argTypes := ts }) (h : exMax ev x y K) : ∃ r, Spec P Γ o ev mem nx r ∧ K r := by
  unfold exMax at h
  split at h
  · rename_i k a _ b hx hy
    obtain ⟨z, rfl, h⟩ := h
    refine ⟨_, spec_val fun ι S A w q1 q2 => ⟨.int k (if a < b then b else a), ?_, V_mk rfl⟩, h⟩
    have ex := V_v (q1 x (by simp [ho, Op.operands, Call.operands]) _ hx)
    have ey := V_v (q1 y (by simp [ho, Op.operands, Call.operands]) _ hy)
    simp [execOp, ho, ex, ey, resolve, invoke, builtin, Builtin.max_, Builtin.max2]
  · exact h.elim
end
end Go.Proofs.YtkeehnhamkdogaaDoor
