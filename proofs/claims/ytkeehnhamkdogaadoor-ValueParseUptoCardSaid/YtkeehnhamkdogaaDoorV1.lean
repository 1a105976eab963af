/- Values as data; what makes them. No condition. -/
import Derived.Test.YtkeehnhamkdogaaDoorE15
namespace Go.Proofs.YtkeehnhamkdogaaDoor
set_option linter.unusedVariables false
set_option linter.unusedSimpArgs false
open Go.RowKit
set_option maxRecDepth 100000

/-- A value as plain data. -/
inductive PV where
  | mk (k : Int) (n : Nat) (b : ByteArray) (l : List PV)
def PV.k : PV → Int | .mk k _ _ _ => k
def PV.n : PV → Nat | .mk _ n _ _ => n
def PV.b : PV → ByteArray | .mk _ _ b _ => b
def PV.l : PV → List PV | .mk _ _ _ l => l
instance : Inhabited PV := ⟨.mk 0 0 ⟨#[]⟩ []⟩
mutual
def dl : PV → D
  | .mk _ _ _ l => .sl 4 (dls l)
def dls : List PV → List (List D)
  | [] => []
  | t :: ts => [di t.k, du t.n, ds t.b, dl t] :: dls ts
end
def drow (t : PV) : List D := [di t.k, du t.n, ds t.b, dl t]
theorem dls_map : ∀ l : List PV, dls l = l.map drow
  | [] => rfl
  | t :: ts => by simp only [dls, List.map_cons, dls_map ts]; rfl
theorem dl_mk (k : Int) (n : Nat) (b : ByteArray) (l : List PV) : dl (.mk k n b l) = .sl 4 (l.map drow) := by rw [dl, dls_map]
theorem drow_mk (k : Int) (n : Nat) (b : ByteArray) (l : List PV) : drow (.mk k n b l) = [di k, du n, ds b, .sl 4 (l.map drow)] := by rw [drow, dl_mk]; rfl
/-- A struct whose last cell is a nil slice reads as one without elements. -/
theorem TLe.nil4 {a b c : D} {s : Nat} : TLe (.o (gD [a, b, c, dnil])) (.o (gD [a, b, c, .sl s []])) := fun ι S w v ⟨us, hu, h⟩ => by
  have h : All2 (VC ι S w) [.d a, .d b, .d c, .d dnil] us := h
  obtain ⟨u1, us, rfl, e1, h⟩ := h.cons_left
  obtain ⟨u2, us, rfl, e2, h⟩ := h.cons_left
  obtain ⟨u3, us, rfl, e3, h⟩ := h.cons_left
  obtain ⟨u4, rfl, e4⟩ := h.one_left
  exact ⟨_, hu, .cons e1 (.cons e2 (.cons e3 (.cons (CLe_nil e4) .nil)))⟩
theorem I_c (n : Nat) : CallsA Tryd.prog Γ0 28 [c1 (du n)] (.o (gD (drow (.mk 1 n ⟨#[]⟩ [])))) := by
  rw [drow_mk]
  refine fn_rule (C := ⟨Tryd.prog, layF, Tryd.f28.ntmps, Γ0, 0, [], []⟩) layF_ok mixed Tryd.func28 rfl (by kernel_rfl) rfl rfl rfl ?_
  exact TLe.nil4
theorem B_c (s : ByteArray) : CallsA Tryd.prog Γ0 29 [c1 (ds s)] (.o (gD (drow (.mk 2 0 s [])))) := by
  rw [drow_mk]
  refine fn_rule (C := ⟨Tryd.prog, layF, Tryd.f29.ntmps, Γ0, 0, [], []⟩) layF_ok mixed Tryd.func29 rfl (by kernel_rfl) rfl rfl rfl ?_
  exact TLe.nil4
theorem L_c (l : List PV) : CallsA Tryd.prog Γ0 21 [c1 (.sl 4 (l.map drow))] (.o (gD (drow (.mk 3 0 ⟨#[]⟩ l)))) := by
  rw [drow_mk]
  refine fn_rule (C := ⟨Tryd.prog, layF, Tryd.f21.ntmps, Γ0, 0, [], []⟩) layF_ok mixed Tryd.func21 rfl (by kernel_rfl) rfl rfl rfl ?_
  exact TLe.rfl
theorem R_c (l : List PV) : CallsA Tryd.prog Γ0 22 [c1 (.sl 4 (l.map drow))] (.o (gD (drow (.mk 4 0 ⟨#[]⟩ l)))) := by
  rw [drow_mk]
  refine fn_rule (C := ⟨Tryd.prog, layF, Tryd.f22.ntmps, Γ0, 0, [], []⟩) layF_ok mixed Tryd.func22 rfl (by kernel_rfl) rfl rfl rfl ?_
  exact TLe.rfl
end Go.Proofs.YtkeehnhamkdogaaDoor
