/- The law's fixed example; FormatUint of a small number. No condition. -/
import Derived.Test.YtaponjjdfcmbeaaDoorB3
import Derived.Test.YtaponjjdfcmbeaaDoorU6
namespace Go.Proofs.YtaponjjdfcmbeaaDoor
set_option linter.unusedVariables false
set_option linter.unusedSimpArgs false
open Go.RowKit
set_option maxRecDepth 100000

/-- What reads as the one reads as the other. -/
def DLe (d d' : D) : Prop := ∀ (S : Nat → Prop) (w : World) (u : Value), Imm S w d u → Imm S w d' u
theorem DLe.rfl {d : D} : DLe d d := fun _ _ _ h => h
theorem DLe.nil {s : Nat} : DLe dnil (.sl s []) := fun _ _ _ h => by cases h; exact Imm.nil
theorem All2.flat {α β : Type} {R : α → β → Prop} : ∀ {l : List (List α)} {m : List (List β)}, All2 (All2 R) l m → All2 R l.flatten m.flatten
  | [], m, h => by obtain rfl := h.nil_left; exact .nil
  | a :: l, m, h => by
    obtain ⟨b, m', rfl, h1, h2⟩ := h.cons_left
    exact h1.append h2.flat
theorem DLe.sl {s : Nat} {rows rows' : List (List D)} (h : All2 (All2 DLe) rows rows') : DLe (.sl s rows) (.sl s rows') := fun S w u hu => by
  have hf := h.flat
  cases hu with
  | nil => obtain rfl := h.nil_left; exact Imm.nil
  | sl0 => obtain rfl := h.nil_left; exact Imm.sl0
  | sl us hs hc hr h1 h2 =>
    rw [h.len] at hc ⊢
    refine Imm.sl us hs hc (fun r hr' => ?_) (fun j d hj => ?_) (fun j d hj => ?_)
    · obtain ⟨i, hi⟩ := List.getElem?_of_mem hr'
      obtain ⟨r0, e0, e1⟩ := h.at_right hi
      rw [← e1.len]
      exact hr r0 (List.mem_of_getElem? e0)
    · obtain ⟨d0, e0, e1⟩ := hf.at_right hj
      exact h1 j d0 e0
    · obtain ⟨d0, e0, e1⟩ := hf.at_right hj
      exact e1 _ _ _ (h2 j d0 e0)
/-- A contract, met with arguments that read as its own. -/
theorem CallsA.args {P : Program} {Γ : Glob} {f : FuncId} {xs ys : List T1} {r : TV} (h : CallsA P Γ f ys r) (hx : ∀ (S : Nat → Prop) (w : World) (vs : List Value), All2 (V1 ι0 S w) xs vs → All2 (V1 ι0 S w) ys vs) : CallsA P Γ f xs r :=
  ⟨h.1, fun S w vs hS hG hv => h.2 S w vs hS hG (hx S w vs hv)⟩
theorem CallsA.arg1 {P : Program} {Γ : Glob} {f : FuncId} {d d' : D} {xs : List T1} {r : TV} (h : CallsA P Γ f (c1 d' :: xs) r) (hd : DLe d d') : CallsA P Γ f (c1 d :: xs) r :=
  h.args fun S w vs hv => by
    obtain ⟨u, vs, rfl, h1, h2⟩ := hv.cons_left
    exact .cons (hd _ _ _ h1) h2
theorem fmt7 : FmtOk 7 := by
  have h1 : CallsA Tryd.prog Γ0 61 [c1 (di 7)] (.o (c1 (ds ⟨#[55]⟩))) := by
    refine fn_rule (C := ⟨Tryd.prog, layF, Tryd.f61.ntmps, Γ0, 0, [], []⟩) layF_ok mixed Tryd.func61 rfl (by kernel_rfl) rfl rfl rfl ?_
    refine ex_true (by omega) ?_
    refine ex_i64 (8) (by first | rfl | omega | simp) (by omega) (by omega) ?_
    exact ⟨by omega, by omega, by decide, TLe.rfl⟩
  have h2 : CallsA Tryd.prog Γ0 57 [c1 (du 7), c1 (di 10)] (.o (c1 (ds ⟨#[55]⟩))) := by
    refine fn_rule (C := ⟨Tryd.prog, layF, Tryd.f57.ntmps, Γ0, 0, [], []⟩) layF_ok mixed Tryd.func57 rfl (by kernel_rfl) rfl rfl rfl ?_
    refine ex_true (by omega) ?_
    refine ex_true (by omega) ?_
    refine ex_i64 (7) (by first | rfl | omega | simp) (by omega) (by omega) ?_
    refine ex_call (h1) ?_
    exact TLe.rfl
  have e : Lib.decDigits 7 = [55] := by
    rw [Lib.decDigits, dif_pos (by omega)]
    rfl
  unfold FmtOk
  rw [e]
  refine fn_rule (C := ⟨Tryd.prog, layF, Tryd.f49.ntmps, Γ0, 0, [], []⟩) layF_ok mixed Tryd.func49 rfl (by kernel_rfl) rfl rfl rfl ?_
  refine ex_call (h2) ?_
  exact TLe.rfl
def wkV : List GV := [⟨4, 0, 1, false, 0, 0, [1]⟩, ⟨0, 0, 1, false, 0, 0, []⟩]
def wkP : PV := .mk 4 0 ⟨#[]⟩ [.mk 1 7 ⟨#[]⟩ []]
theorem wk_dec : decV wkV ⟨#[7]⟩ = wkP ∧ decE wkV ⟨#[7]⟩ = 0 := by
  have hg : goodV wkV ⟨#[7]⟩ = true := by kernel_rfl
  constructor
  · rw [decV, if_pos hg]
    kernel_rfl
  · rw [decE, if_pos hg]
theorem wk_txt : txV wkP = [123, 55, 125] := by
  have e : Lib.decDigits 7 = [55] := by
    rw [Lib.decDigits, dif_pos (by omega)]
    rfl
  have hg : goodP wkP = true := by kernel_rfl
  rw [txV, if_pos hg]
  simp [wkP, txP, txL, e]
theorem wk_txt' : txV wkP = txP wkP := by
  have hg : goodP wkP = true := by kernel_rfl
  rw [txV, if_pos hg]
theorem wakes_c : CallsA Tryd.prog Γ0 10 [] (.o (c1 (db true))) := by
  have hD0 := Decode_c wkV ⟨#[7]⟩ (by decide) (by intro x hx; simp [wkV] at hx; rcases hx with rfl | rfl <;> simp [GV.ok, Sp.I64]) (by intro x hx; simp [wkV] at hx; rcases hx with rfl | rfl <;> decide) (by decide)
  rw [wk_dec.1, wk_dec.2] at hD0
  have hD : CallsA Tryd.prog Γ0 8 [c1 (.sl 7 [[di 4, di 0, di 1, db false, di 0, di 0, .sl 1 [[di 1]]], [di 0, di 0, di 1, db false, di 0, di 0, dnil]]), c1 (ds ⟨#[7]⟩)] (.tup [gD (drow wkP), c1 (di 0)]) :=
    hD0.arg1 (DLe.sl (.cons (.cons DLe.rfl (.cons DLe.rfl (.cons DLe.rfl (.cons DLe.rfl (.cons DLe.rfl (.cons DLe.rfl (.cons DLe.rfl .nil))))))) (.cons (.cons DLe.rfl (.cons DLe.rfl (.cons DLe.rfl (.cons DLe.rfl (.cons DLe.rfl (.cons DLe.rfl (.cons DLe.nil .nil))))))) .nil)))
  have hT := Text_c wkP (by decide) ⟨(fun h => by cases h), ⟨fun _ => fmt7, ⟨⟩⟩, ⟨⟩⟩ (by rw [← wk_txt', wk_txt]; decide)
  rw [wk_txt] at hT
  refine fn_rule (C := ⟨Tryd.prog, layF, Tryd.f10.ntmps, Γ0, 0, [], []⟩) layF_ok mixed Tryd.func10 rfl (by kernel_rfl) rfl rfl rfl ?_
  refine ex_call (hD) ?_
  refine ex_true (by omega) ?_
  refine ex_call (hT) ?_
  refine ex_true (rfl) ?_
  exact TLe.rfl
end Go.Proofs.YtaponjjdfcmbeaaDoor
