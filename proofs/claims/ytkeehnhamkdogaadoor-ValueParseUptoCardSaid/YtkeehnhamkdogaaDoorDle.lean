/- Data that reads as other data; a contract met with such arguments. No condition. -/
import Derived.Test.YtkeehnhamkdogaaDoorE15
namespace Go.Proofs.YtkeehnhamkdogaaDoor
set_option linter.unusedVariables false
set_option linter.unusedSimpArgs false
open Go.RowKit
set_option maxRecDepth 100000

/-- What reads as the one reads as the other. -/
def DLe (d d' : D) : Prop := ∀ (S : Nat → Prop) (w : World) (u : Value), Imm S w d u → Imm S w d' u
theorem DLe.rfl {d : D} : DLe d d := fun _ _ _ h => h
theorem DLe.nil {s : Nat} : DLe dnil (.sl s []) := fun _ _ _ h => by cases h; exact Imm.nil
theorem All2.flat {α β : Type} {R : α → β → Prop} : ∀ {l : List (List α)} {m : List (List β)}, All2 (All2 R) l m → All2 R l.flatten m.flatten
  | [], m, h => by obtain rfl := h.nil_left; exact .nil
  | a :: l, m, h => by
    obtain ⟨b, m', rfl, h1, h2⟩ := h.cons_left
    exact h1.append h2.flat
theorem DLe.sl {s : Nat} {rows rows' : List (List D)} (h : All2 (All2 DLe) rows rows') : DLe (.sl s rows) (.sl s rows') := fun S w u hu => by
  have hf := h.flat
  cases hu with
  | nil => obtain rfl := h.nil_left; exact Imm.nil
  | sl0 => obtain rfl := h.nil_left; exact Imm.sl0
  | sl us hs hc hr h1 h2 =>
    rw [h.len] at hc ⊢
    refine Imm.sl us hs hc (fun r hr' => ?_) (fun j d hj => ?_) (fun j d hj => ?_)
    · obtain ⟨i, hi⟩ := List.getElem?_of_mem hr'
      obtain ⟨r0, e0, e1⟩ := h.at_right hi
      rw [← e1.len]
      exact hr r0 (List.mem_of_getElem? e0)
    · obtain ⟨d0, e0, e1⟩ := hf.at_right hj
      exact h1 j d0 e0
    · obtain ⟨d0, e0, e1⟩ := hf.at_right hj
      exact e1 _ _ _ (h2 j d0 e0)
/-- A contract, met with arguments that read as its own. -/
theorem CallsA.args {P : Program} {Γ : Glob} {f : FuncId} {xs ys : List T1} {r : TV} (h : CallsA P Γ f ys r) (hx : ∀ (S : Nat → Prop) (w : World) (vs : List Value), All2 (V1 ι0 S w) xs vs → All2 (V1 ι0 S w) ys vs) : CallsA P Γ f xs r :=
  ⟨h.1, fun S w vs hS hG hv => h.2 S w vs hS hG (hx S w vs hv)⟩
theorem CallsA.arg1 {P : Program} {Γ : Glob} {f : FuncId} {d d' : D} {xs : List T1} {r : TV} (h : CallsA P Γ f (c1 d' :: xs) r) (hd : DLe d d') : CallsA P Γ f (c1 d :: xs) r :=
  h.args fun S w vs hv => by
    obtain ⟨u, vs, rfl, h1, h2⟩ := hv.cons_left
    exact .cons (hd _ _ _ h1) h2
end Go.Proofs.YtkeehnhamkdogaaDoor
