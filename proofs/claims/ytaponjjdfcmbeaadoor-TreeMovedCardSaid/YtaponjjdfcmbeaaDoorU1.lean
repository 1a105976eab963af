/- Views as data; the contracts of Sound and Number, of a span's Text, over data; what Good, Find and the like answer. Conditions: the view's numbers are int's, the string takes at most 2^47 bytes. -/
import Derived.Test.YtaponjjdfcmbeaaDoorTree3
import Derived.Test.YtaponjjdfcmbeaaDoorE15
namespace Go.Proofs.YtaponjjdfcmbeaaDoor
set_option linter.unusedVariables false
set_option linter.unusedSimpArgs false
open Go.RowKit

abbrev irow (n : Int) : List D := [di n]
abbrev dints (l : List Int) : D := .sl 1 (l.map irow)
def vrow (x : GV) : List D := [di x.kind, di x.at_, di x.len, db x.little, di x.beh, di x.wid, dints x.kids]
abbrev dviews (l : List GV) : D := .sl 7 (l.map vrow)
/-- What a struct of seven cells that reads as a view is. -/
theorem open_vrow {S : Nat → Prop} {w : World} {x : GV} {u : Value} (h : V1 ι0 S w (gD (vrow x)) u) : ∃ kv, u = .agg #[.int .i64 x.kind, .int .i64 x.at_, .int .i64 x.len, .bool x.little, .int .i64 x.beh, .int .i64 x.wid, kv] := by
  obtain ⟨us, rfl, h⟩ := h
  have h0 : All2 (VC ι0 S w) [.d (di x.kind), .d (di x.at_), .d (di x.len), .d (db x.little), .d (di x.beh), .d (di x.wid), .d (dints x.kids)] us := h
  obtain ⟨u0, us, rfl, e0, h0⟩ := h0.cons_left
  obtain ⟨u1, us, rfl, e1, h0⟩ := h0.cons_left
  obtain ⟨u2, us, rfl, e2, h0⟩ := h0.cons_left
  obtain ⟨u3, us, rfl, e3, h0⟩ := h0.cons_left
  obtain ⟨u4, us, rfl, e4, h0⟩ := h0.cons_left
  obtain ⟨u5, us, rfl, e5, h0⟩ := h0.cons_left
  obtain ⟨u6, us, rfl, e6, h0⟩ := h0.cons_left
  obtain rfl := h0.nil_left
  have f : ∀ {v u}, VC ι0 S w (.d (.v v)) u → u = v := fun {v u} h => by have h' : Imm S w _ u := h; cases h'; rfl
  obtain rfl := f e0
  obtain rfl := f e1
  obtain rfl := f e2
  obtain rfl := f e3
  obtain rfl := f e4
  obtain rfl := f e5
  exact ⟨u6, rfl⟩
theorem open_v {S : Nat → Prop} {w : World} {v u : Value} (h : V1 ι0 S w (c1 (.v v)) u) : u = v := by
  have h' : Imm S w _ u := h
  cases h'; rfl
theorem two_args {S : Nat → Prop} {w : World} {x y : T1} {vs : List Value} (h : All2 (V1 ι0 S w) [x, y] vs) : ∃ u v, vs = [u, v] ∧ V1 ι0 S w x u ∧ V1 ι0 S w y v := by
  obtain ⟨u, vs, rfl, e0, h⟩ := h.cons_left
  obtain ⟨v, rfl, e1⟩ := h.one_left
  exact ⟨u, v, rfl, e0, e1⟩
theorem pair_v {S : Nat → Prop} {w : World} {a b : Value} (ha : a.oneCell' = true) (hb : b.oneCell' = true) : V ι0 S w (.tup [c1 (.v a), c1 (.v b)]) (.tuple #[a, b]) :=
  ⟨[a, b], rfl, .cons (Imm.v ha) (.cons (Imm.v hb) .nil)⟩
section
variable {Γ : Glob} (x : GV) (s : ByteArray) (hs : s.size ≤ 281474976706560)
include hs
theorem sound_c (hx : x.ok) : CallsA Tryd.prog Γ 22 [gD (vrow x), c1 (ds s)] (Tb (soundB x.kind x.at_ x.len x.beh x.wid s.size)) :=
  ⟨⟨_, Tryd.func22, by kernel_rfl, rfl⟩, fun S w vs hS _ hvs => by
    obtain ⟨u, v, rfl, h1, h2⟩ := two_args hvs
    obtain ⟨kv, rfl⟩ := open_vrow h1
    obtain rfl := open_v h2
    exact (sound_any _ _ _ _ _ _ kv s w hx.2.1 hx.2.2.1 hs).mono fun e w' ⟨he, hb⟩ => by subst he; exact flat_end hS hb (Imm.v rfl)⟩
theorem rsound_c (hx : x.ok) : CallsA Tryd.prog Γ 24 [gD (vrow x), c1 (ds s)] (Tb (soundB x.kind x.at_ x.len x.beh x.wid s.size)) :=
  ⟨⟨_, Tryd.func24, by kernel_rfl, rfl⟩, fun S w vs hS _ hvs => by
    obtain ⟨u, v, rfl, h1, h2⟩ := two_args hvs
    obtain ⟨kv, rfl⟩ := open_vrow h1
    obtain rfl := open_v h2
    exact (rsound_any _ _ _ _ _ _ kv s w hx.2.1 hx.2.2.1 hs).mono fun e w' ⟨he, hb⟩ => by subst he; exact flat_end hS hb (Imm.v rfl)⟩
/-- What Number answers, of a view. -/
def numX (x : GV) (s : ByteArray) : Nat × Int := numV x.kind x.at_ x.len x.little x.beh x.wid s
theorem number_c (hx : x.ok) : CallsA Tryd.prog Γ 15 [gD (vrow x), c1 (ds s)] (.tup [c1 (du (numX x s).1), c1 (di (numX x s).2)]) :=
  ⟨⟨_, Tryd.func15, by kernel_rfl, rfl⟩, fun S w vs hS _ hvs => by
    obtain ⟨u, v, rfl, h1, h2⟩ := two_args hvs
    obtain ⟨kv, rfl⟩ := open_vrow h1
    obtain rfl := open_v h2
    exact (number_any _ _ _ _ _ _ kv s w hx.2.1 hx.2.2.1 hx.2.2.2.1 hx.2.2.2.2 hs).mono fun e w' ⟨he, hb⟩ => by subst he; exact flat_end hS hb (pair_v rfl rfl)⟩
theorem rnumber_c (hx : x.ok) : CallsA Tryd.prog Γ 16 [gD (vrow x), c1 (ds s)] (.tup [c1 (du (numX x s).1), c1 (di (numX x s).2)]) :=
  ⟨⟨_, Tryd.func16, by kernel_rfl, rfl⟩, fun S w vs hS _ hvs => by
    obtain ⟨u, v, rfl, h1, h2⟩ := two_args hvs
    obtain ⟨kv, rfl⟩ := open_vrow h1
    obtain rfl := open_v h2
    exact (rnumber_any _ _ _ _ _ _ kv s w hx.2.1 hx.2.2.1 hs).mono fun e w' ⟨he, hb⟩ => by subst he; exact flat_end hS hb (pair_v rfl rfl)⟩
theorem text_c (a l : Int) (ha : Sp.I64 a) (hl : Sp.I64 l) : CallsA Tryd.prog Γ 29 [gD [di a, di l], c1 (ds s)] (.o (c1 (ds (Sp.textV a l s)))) :=
  ⟨⟨_, Tryd.func29, by kernel_rfl, rfl⟩, fun S w vs hS _ hvs => by
    obtain ⟨u, v, rfl, h1, h2⟩ := two_args hvs
    obtain ⟨us, rfl, h1⟩ := h1
    obtain ⟨u0, us, rfl, e0, h1⟩ := h1.cons_left
    obtain ⟨u1, rfl, e1⟩ := h1.one_left
    have f : ∀ {v u}, VC ι0 S w (.d (.v v)) u → u = v := fun {v u} h => by have h' : Imm S w _ u := h; cases h'; rfl
    obtain rfl := f e0
    obtain rfl := f e1
    obtain rfl := open_v h2
    exact (Sp.text_any a l s w ha hl (by omega)).mono fun e w' ⟨he, hb⟩ => by subst he; exact flat_end hS hb (Imm.v rfl)⟩
end
def kidsOf (l : List GV) (i : Nat) : List Int := match l[i]? with
  | some x => x.kids
  | none => []
def findP (l : List GV) : Nat → List Int → Int × Int
  | A, [] => (A, 0)
  | A, k :: ks => if k < 0 ∨ ((kidsOf l A).length : Int) ≤ k then (0, 3) else if (kidsOf l A).getD k.toNat 0 ≤ A ∨ (l.length : Int) ≤ (kidsOf l A).getD k.toNat 0 then (0, 3) else findP l ((kidsOf l A).getD k.toNat 0).toNat ks
def findV (l : List GV) (way : List Int) : Int × Int := if l.length = 0 then (0, 11) else findP l 0 way
theorem kidsOf_at {l : List GV} {i : Nat} (hi : i < l.length) : kidsOf l i = l[i].kids := by simp [kidsOf, List.getElem?_eq_getElem hi]
def kidsL (n d : Nat) : Int → List Int → List Nat → Option (List Nat)
  | _, [], ns => some ns
  | last, k :: ks, ns => if k ≤ last ∨ (n : Int) ≤ k ∨ ns.getD k.toNat 0 ≠ 0 then none else kidsL n d k ks (ns.set k.toNat (d + 1))
def nestAt (i : Nat) (ns : List Nat) : List Nat := if i = 0 then ns.set 0 1 else ns
def goodS (s : ByteArray) (n i : Nat) (x : GV) (ns : List Nat) : Option (List Nat) :=
  if soundB x.kind x.at_ x.len x.beh x.wid s.size = false ∨ ns.getD i 0 = 0 ∨ 1200 < ns.getD i 0 ∨ (x.kids ≠ [] ∧ x.kind < 4) then none else kidsL n (ns.getD i 0) i x.kids ns
def goodL (s : ByteArray) (n : Nat) : Nat → List GV → List Nat → Bool
  | _, [], _ => true
  | i, x :: xs, ns => match goodS s n i x (nestAt i ns) with
    | none => false
    | some ns' => goodL s n (i + 1) xs ns'
def goodV (l : List GV) (s : ByteArray) : Bool := goodL s l.length 0 l (List.replicate l.length 0) && decide (0 < l.length)
theorem nestAt_len (i : Nat) (ns : List Nat) : (nestAt i ns).length = ns.length := by unfold nestAt; split <;> simp

def bump (n : Nat) (ns : List Nat) (j : Int) : List Nat := if 0 ≤ j ∧ j < n then ns.set j.toNat (ns.getD j.toNat 0 + 1) else ns
def parK (n : Nat) : List Int → List Nat → List Nat
  | [], ns => ns
  | k :: ks, ns => parK n ks (bump n ns k)
def parL (n : Nat) : List GV → List Nat → List Nat
  | [], ns => ns
  | x :: xs, ns => parL n xs (parK n x.kids ns)
def parentsV (l : List GV) : List Nat := parL l.length l (List.replicate l.length 0)
theorem bump_len (n : Nat) (ns : List Nat) (j : Int) : (bump n ns j).length = ns.length := by unfold bump; split <;> simp
theorem parK_len (n : Nat) : ∀ (ks : List Int) (ns : List Nat), (parK n ks ns).length = ns.length
  | [], ns => rfl
  | k :: ks, ns => by rw [parK, parK_len n ks, bump_len]
theorem parL_len (n : Nat) : ∀ (l : List GV) (ns : List Nat), (parL n l ns).length = ns.length
  | [], ns => rfl
  | x :: xs, ns => by rw [parL, parL_len n xs, parK_len]
theorem parentsV_len (l : List GV) : (parentsV l).length = l.length := by simp [parentsV, parL_len]

def rkidsL (n d : Nat) : Int → List Int → List Nat → Option (List Nat)
  | _, [], ns => some ns
  | last, k :: ks, ns => if k ≤ last ∨ (n : Int) ≤ k then none else rkidsL n d k ks (ns.set k.toNat (d + 1))
def rgoodS (s : ByteArray) (n i : Nat) (x : GV) (p : Nat) (ns : List Nat) : Option (List Nat) :=
  if soundB x.kind x.at_ x.len x.beh x.wid s.size = false ∨ p ≠ (if i = 0 then 0 else 1) ∨ (x.kids ≠ [] ∧ x.kind < 4) ∨ 1200 ≤ ns.getD i 0 then none else rkidsL n (ns.getD i 0) i x.kids ns
def rgoodL (s : ByteArray) (n : Nat) (p : List Nat) : Nat → List GV → List Nat → Bool
  | _, [], _ => true
  | i, x :: xs, ns => match rgoodS s n i x (p.getD i 0) ns with
    | none => false
    | some ns' => rgoodL s n p (i + 1) xs ns'
def rgoodV (l : List GV) (s : ByteArray) : Bool := rgoodL s l.length (parentsV l) 0 l (List.replicate l.length 0) && decide (0 < l.length)
end Go.Proofs.YtaponjjdfcmbeaaDoor
