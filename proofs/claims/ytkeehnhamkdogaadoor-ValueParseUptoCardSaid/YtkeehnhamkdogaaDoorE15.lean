/- Rules for walking code over the abstract state. No condition. -/
import Derived.Test.YtkeehnhamkdogaaDoorE14
import Derived.Test.YtkeehnhamkdogaaDoorLay
namespace Go.Proofs.YtkeehnhamkdogaaDoor
set_option linter.unusedVariables false
set_option linter.unusedSimpArgs false
open Go.RowKit

abbrev di (n : Int) : D := .v (.int .i64 n)
abbrev du (n : Int) : D := .v (.int .u64 n)
abbrev db (b : Bool) : D := .v (.bool b)
abbrev ds (s : ByteArray) : D := .v (.string s)
abbrev dnil : D := .v (.slice none 0 0)
abbrev Ti (n : Int) : TV := .o (.c (.d (.v (.int .i64 n))))
abbrev Tu (n : Int) : TV := .o (.c (.d (.v (.int .u64 n))))
abbrev Tb (b : Bool) : TV := .o (.c (.d (.v (.bool b))))
abbrev c1 (x : D) : T1 := .c (.d x)
abbrev gD (l : List D) : T1 := .g (l.map .d)
/-- Nothing is known of the program's variables. -/
def Γ0 : Glob := ⟨fun _ _ => True, fun _ _ _ => trivial⟩

section
variable {p q : Prop} {K : Bool → Prop}
theorem ex_dec [Decidable p] (ht : p → K true) (hf : ¬ p → K false) : ∃ b, decide p = b ∧ K b := by
  by_cases h : p
  · exact ⟨true, decide_eq_true h, ht h⟩
  · exact ⟨false, decide_eq_false h, hf h⟩
theorem ex_true [Decidable p] (h : p) (hk : K true) : ∃ b, decide p = b ∧ K b := ⟨true, decide_eq_true h, hk⟩
theorem ex_false [Decidable p] (h : ¬ p) (hk : K false) : ∃ b, decide p = b ∧ K b := ⟨false, decide_eq_false h, hk⟩
theorem ex_eq {α : Type} {e : α} {K : α → Prop} (h : K e) : ∃ z, e = z ∧ K z := ⟨e, rfl, h⟩
theorem ex_is {α : Type} {e : α} (z : α) {K : α → Prop} (he : e = z) (h : K z) : ∃ z, e = z ∧ K z := ⟨z, he, h⟩
end
theorem wrap_i64' {n : Int} (h1 : -9223372036854775808 ≤ n) (h2 : n ≤ 9223372036854775807) : IntKind.i64.wrap n = n := by rw [IntKind.wrap_i64]; omega
theorem wrap_un {k : IntKind} (hk : k.signed = false) {n : Int} (h1 : 0 ≤ n) (h2 : n < 2 ^ k.bits) : k.wrap n = n := by
  unfold IntKind.wrap
  simp only [hk, Bool.false_and, Bool.false_eq_true, if_false]
  exact Int.emod_eq_of_lt h1 h2
theorem ex_i64 {e : Int} (z : Int) {K : Int → Prop} (he : e = z) (h1 : -9223372036854775808 ≤ z) (h2 : z ≤ 9223372036854775807) (h : K z) : ∃ z, IntKind.i64.wrap e = z ∧ K z := ⟨z, by rw [he]; exact wrap_i64' h1 h2, h⟩
theorem ex_u64 {e : Int} (z : Int) {K : Int → Prop} (he : e = z) (h1 : 0 ≤ z) (h2 : z < 18446744073709551616) (h : K z) : ∃ z, IntKind.u64.wrap e = z ∧ K z := ⟨z, by rw [he]; exact wrap_un (by rfl) h1 h2, h⟩
theorem ex_u8 {e : Int} (z : Int) {K : Int → Prop} (he : e = z) (h1 : 0 ≤ z) (h2 : z < 256) (h : K z) : ∃ z, IntKind.u8.wrap e = z ∧ K z := ⟨z, by rw [he]; exact wrap_un (by rfl) h1 h2, h⟩
/-- An index into rows that are images of a list. -/
theorem ex_row {α : Type} {f : α → List D} {l : List α} {n : Int} (i : Nat) (x : α) (hn : n = i) (hx : l[i]? = some x) {K : List D → Prop} (h : K (f x)) : ∃ r, 0 ≤ n ∧ (l.map f)[n.toNat]? = some r ∧ K r := by
  subst hn
  exact ⟨f x, by omega, by simp [hx], h⟩
/-- An append. -/
theorem ex_app {α : Type} {r1 r2 : List α} {b : Nat} (n m c : Nat) (h1 : r1.length = n) (h2 : r2.length = m) (hc : Nat.ble b c = true) (hb : (n + m) * c ≤ 140737488355328) {K : Prop} (h : K) : (r1.length + r2.length) * b ≤ 140737488355328 ∧ K := ⟨by
  rw [h1, h2]
  exact Nat.le_trans (Nat.mul_le_mul_left _ (Nat.le_of_ble_eq_true hc)) hb, h⟩
theorem ex_at {α : Type} {f : α → List D} {l : List α} (i : Nat) (x : α) (hx : l[i]? = some x) {K : List D → Prop} {a : Nat} (h : K (f x)) : a = a ∧ ∃ r, (l.map f)[i]? = some r ∧ K r := ⟨rfl, f x, by simp [hx], h⟩
theorem ex_chr {s : ByteArray} {n : Int} (i : Nat) (b : UInt8) (hn : n = i) (hb : s.data.toList[i]? = some b) {K : UInt8 → Prop} (h : K b) : ∃ b, 0 ≤ n ∧ s.data.toList[n.toNat]? = some b ∧ K b := by
  subst hn
  exact ⟨b, by omega, by simpa using hb, h⟩
theorem at_some {α : Type} {l : List α} {i : Nat} (h : i < l.length) : l[i]? = some l[i] := List.getElem?_eq_getElem h
section
variable {P : Program} {Γ : Glob}
/-- A call of a function of data. -/
theorem ex_call {f : FuncId} {xs : List T1} {r : TV} (h : CallsA P Γ f xs r) {K : TV → Prop} (hk : K r) : ∃ r, CallsA P Γ f xs r ∧ K r := ⟨r, h, hk⟩
theorem ex_callM {f : FuncId} {m : List (Nat × Blk)} {nx : Nat} {xs : List T1} {r : TV} {upd : List (Nat × Blk)} {new : List Blk} (h : CallsM P Γ f m nx xs r upd new) {K : TV → List (Nat × Blk) → List Blk → Prop} (hk : K r upd new) : ∃ r upd new, CallsM P Γ f m nx xs r upd new ∧ K r upd new := ⟨r, upd, new, h, hk⟩
end
/-- A loop. -/
theorem ex_loop {X : Type} (f : X → St) (μ : X → Nat) (p : X → Prop) (x0 : X) {nx0 : Nat} {st : St} {V : (I : LoopI) → I.X → Prop} (h0 : p x0) (h1 : SLe nx0 (f x0) st) (h2 : ∀ x, p x → V ⟨X, f, μ, p⟩ x) :
    ∃ (I : LoopI) (x0 : I.X), I.p x0 ∧ SLe nx0 (I.f x0) st ∧ ∀ x, I.p x → V I x := ⟨⟨X, f, μ, p⟩, x0, h0, h1, h2⟩
/-- Where ways come together. -/
theorem ex_join {X : Type} (f : X → St) (p : X → Prop) {A : JoinI → Prop} {B : (I : JoinI) → I.X → Prop} (h1 : A ⟨X, f, p⟩) (h2 : ∀ x, p x → B ⟨X, f, p⟩ x) : ∃ I : JoinI, A I ∧ ∀ x, I.p x → B I x := ⟨⟨X, f, p⟩, h1, h2⟩
theorem ex_meet {X : Type} {f : X → St} {p : X → Prop} {nx0 : Nat} {st : St} (x : X) (h0 : p x) (h2 : SLe nx0 (f x) st) : ∃ x, p x ∧ SLe nx0 (f x) st := ⟨x, h0, h2⟩
theorem ex_round {X : Type} {f : X → St} {μ : X → Nat} {p : X → Prop} {nx0 : Nat} {st : St} {x : X} (x' : X) (h0 : p x') (h1 : μ x' < μ x) (h2 : SLe nx0 (f x') st) : ∃ x', p x' ∧ μ x' < μ x ∧ SLe nx0 (f x') st := ⟨x', h0, h1, h2⟩
theorem le_nil {α : Type} {m : List (Nat × α)} : leL [] m := trivial
theorem le_cons {α : Type} {k : Nat} {v : α} {l m : List (Nat × α)} (h : findL m k = some v) (t : leL l m) : leL ((k, v) :: l) m := ⟨h, t⟩
theorem le_val {α : Type} {k : Nat} {v v' : α} {l m : List (Nat × α)} (h : findL m k = some v') (e : v' = v) (t : leL l m) : leL ((k, v) :: l) m := ⟨e ▸ h, t⟩
/-- A nil slice reads as a slice without rows. -/
theorem CLe_nil {ι : Nat → Value} {S : Nat → Prop} {w : World} {s : Nat} {v : Value} (h : VC ι S w (.d (.v (.slice none 0 0))) v) : VC ι S w (.d (.sl s [])) v := by
  have h' : Imm S w _ v := h
  cases h'
  exact Imm.nil
theorem TLe.nil {s : Nat} : TLe (.o (.c (.d (.v (.slice none 0 0))))) (.o (.c (.d (.sl s [])))) := fun ι _ _ _ h => CLe_nil (ι := ι) h
/-- A contract met with a flat result. -/
theorem flat_end {S : Nat → Prop} {w w' : World} {r : TV} {v : Value} (hs : ∀ b, S b → b < w.heap.size) (hb : Below w.heap.size w w') (hv : V ι0 S w' r v) : ∃ x S', Ending.returned v = .returned x ∧ Below w.heap.size w w' ∧ (∀ b, S b → S' b) ∧ (∀ b, S' b → S b ∨ w.heap.size ≤ b) ∧ (∀ b, S' b → b < w'.heap.size) ∧ V ι0 S' w' r x :=
  ⟨v, S, rfl, hb, fun _ h => h, fun _ h => .inl h, fun b h => Nat.lt_of_lt_of_le (hs b h) hb.size, hv⟩
/-- A contract over a greater memory. -/
theorem CallsM.more {P : Program} {Γ : Glob} {f : FuncId} {m m' : List (Nat × Blk)} {nx : Nat} {xs : List T1} {r : TV} {upd : List (Nat × Blk)} {new : List Blk} (h : CallsM P Γ f m nx xs r upd new) (hm : ∀ p ∈ m, p ∈ m') : CallsM P Γ f m' nx xs r upd new :=
  ⟨h.1, fun ι S w vs hs hG hb hd hv => (h.2 ι S w vs hs hG (fun p hp => hb p (hm p hp)) (fun p hp q hq => hd p (hm p hp) q (hm q hq)) hv).mono fun e w' hX => by
    have conv : ∀ (tv : TV) (x : Value) (ι' : Nat → Value) (S' : Nat → Prop) (w' : World), After ι S w nx ⟨tv, m.map (·.1), upd, new⟩ x ι' S' w' → After ι S w nx ⟨tv, m'.map (·.1), upd, new⟩ x ι' S' w' := fun tv x ι' S' w' A =>
      ⟨A.val, A.keep, A.smono, A.sgrow, A.slt, A.os, A.tape, A.output, A.size, A.heap, A.updok, A.newok, A.newblk, A.newdst⟩
    rcases hX with ⟨x, ι', S', he, A⟩ | ⟨v, ι', S', hr, he, A⟩
    · exact .inl ⟨x, ι', S', he, conv _ _ _ _ _ A⟩
    · exact .inr ⟨v, ι', S', hr, he, conv _ _ _ _ _ A⟩⟩
/-- What a function of nothing known gives, whatever is known. -/
theorem CallsA.of0 {P : Program} {Γ : Glob} {f : FuncId} {xs : List T1} {r : TV} (h : CallsA P Γ0 f xs r) : CallsA P Γ f xs r := ⟨h.1, fun S w vs hS _ hv => h.2 S w vs hS trivial hv⟩
theorem CallsM.of0 {P : Program} {Γ : Glob} {f : FuncId} {m : List (Nat × Blk)} {nx : Nat} {xs : List T1} {r : TV} {upd : List (Nat × Blk)} {new : List Blk} (h : CallsM P Γ0 f m nx xs r upd new) : CallsM P Γ f m nx xs r upd new := ⟨h.1, fun ι S w vs hs _ hb hd hv => h.2 ι S w vs hs trivial hb hd hv⟩
end Go.Proofs.YtkeehnhamkdogaaDoor
