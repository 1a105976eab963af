/- An abstract state of a function's frame and memory: data that lie still in memory, blocks and rows that the call owns, and what an operation may do to them. No condition. -/
import Derived.WalkKit
import Derived.Handy
import Derived.Laws.OwnMore
import Derived.Laws.CopyRow
namespace Go.Proofs.YtkeehnhamkdogaaDoor
set_option linter.unusedVariables false
set_option linter.unusedSimpArgs false
open Go.RowKit

/-- Two lists agree place by place. -/
structure All2 {α β : Type} (R : α → β → Prop) (l : List α) (m : List β) : Prop where
  len : l.length = m.length
  get : ∀ (i : Nat) a b, l[i]? = some a → m[i]? = some b → R a b
namespace All2
variable {α β γ : Type} {R : α → β → Prop}
theorem nil : All2 R [] [] := ⟨rfl, fun i a b h => by simp at h⟩
theorem cons {a : α} {b : β} {l m} (h : R a b) (t : All2 R l m) : All2 R (a :: l) (b :: m) :=
  ⟨by simp [t.len], fun i x y hx hy => by
    cases i with
    | zero => simp at hx hy; subst hx; subst hy; exact h
    | succ i => exact t.get i x y (by simpa using hx) (by simpa using hy)⟩
theorem head {a : α} {b : β} {l m} (h : All2 R (a :: l) (b :: m)) : R a b := h.get 0 a b rfl rfl
theorem tail {a : α} {b : β} {l m} (h : All2 R (a :: l) (b :: m)) : All2 R l m :=
  ⟨by simpa using h.len, fun i x y hx hy => h.get (i + 1) x y (by simpa using hx) (by simpa using hy)⟩
theorem nil_left {m : List β} (h : All2 R [] m) : m = [] := List.eq_nil_of_length_eq_zero (by simpa using h.len.symm)
theorem cons_left {a : α} {l} {m : List β} (h : All2 R (a :: l) m) : ∃ b m', m = b :: m' ∧ R a b ∧ All2 R l m' := by
  cases m with
  | nil => have := h.len; simp at this
  | cons b m => exact ⟨b, m, rfl, h.head, h.tail⟩
theorem one_left {a : α} {m : List β} (h : All2 R [a] m) : ∃ b, m = [b] ∧ R a b := by
  obtain ⟨b, m', rfl, h1, h2⟩ := h.cons_left
  obtain rfl := h2.nil_left
  exact ⟨b, rfl, h1⟩
theorem mono {R' : α → β → Prop} {l m} (h : All2 R l m) (f : ∀ a b, R a b → R' a b) : All2 R' l m := ⟨h.len, fun i a b ha hb => f a b (h.get i a b ha hb)⟩
theorem mono_mem {R' : α → β → Prop} {l m} (h : All2 R l m) (f : ∀ a b, a ∈ l → R a b → R' a b) : All2 R' l m := ⟨h.len, fun i a b ha hb => f a b (List.mem_of_getElem? ha) (h.get i a b ha hb)⟩
theorem at_left {l m} (h : All2 R l m) {i : Nat} {a : α} (ha : l[i]? = some a) : ∃ b, m[i]? = some b ∧ R a b := by
  obtain ⟨hi, rfl⟩ := List.getElem?_eq_some_iff.1 ha
  have hi' : i < m.length := h.len ▸ hi
  exact ⟨m[i], by simp [hi'], h.get i _ _ (by simp [hi]) (by simp [hi'])⟩
theorem at_right {l m} (h : All2 R l m) {i : Nat} {b : β} (hb : m[i]? = some b) : ∃ a, l[i]? = some a ∧ R a b := by
  obtain ⟨hi, rfl⟩ := List.getElem?_eq_some_iff.1 hb
  have hi' : i < l.length := h.len ▸ hi
  exact ⟨l[i], by simp [hi'], h.get i _ _ (by simp [hi']) (by simp [hi])⟩
theorem append {l l' m m'} (h : All2 R l m) (h' : All2 R l' m') : All2 R (l ++ l') (m ++ m') :=
  ⟨by simp [h.len, h'.len], fun i a b ha hb => by
    rw [List.getElem?_append] at ha hb
    rw [← h.len] at hb
    split at ha
    · rename_i hlt; rw [if_pos hlt] at hb; exact h.get i a b ha hb
    · rename_i hlt; rw [if_neg hlt] at hb; exact h'.get _ a b ha hb⟩
theorem drop {l m} (h : All2 R l m) (n : Nat) : All2 R (l.drop n) (m.drop n) :=
  ⟨by simp [h.len], fun i a b ha hb => h.get (n + i) a b (by simpa [List.getElem?_drop] using ha) (by simpa [List.getElem?_drop] using hb)⟩
theorem take {l m} (h : All2 R l m) (n : Nat) : All2 R (l.take n) (m.take n) :=
  ⟨by simp [h.len], fun i a b ha hb => by
    rw [List.getElem?_take] at ha hb
    split at ha
    · rename_i hlt; rw [if_pos hlt] at hb; exact h.get i a b ha hb
    · cases ha⟩
theorem set {l m} (h : All2 R l m) (i : Nat) {a : α} {b : β} (hab : R a b) : All2 R (l.set i a) (m.set i b) :=
  ⟨by simp [h.len], fun j x y hx hy => by
    rw [List.getElem?_set] at hx hy
    rw [← h.len] at hy
    split at hx
    · rename_i e
      subst e
      rw [if_pos rfl] at hy
      split at hx
      · rename_i hlt
        rw [if_pos hlt] at hy
        cases hx; cases hy; exact hab
      · cases hx
    · rename_i e; rw [if_neg e] at hy; exact h.get j x y hx hy⟩
theorem map_left {f : γ → α} {l : List γ} {m : List β} (h : All2 (fun c b => R (f c) b) l m) : All2 R (l.map f) m :=
  ⟨by simp [h.len], fun i a b ha hb => by
    rw [List.getElem?_map] at ha
    cases hc : l[i]? with
    | none => simp [hc] at ha
    | some c => simp [hc] at ha; subst ha; exact h.get i c b hc hb⟩
theorem of_map_left {f : γ → α} {l : List γ} {m : List β} (h : All2 R (l.map f) m) : All2 (fun c b => R (f c) b) l m :=
  ⟨by simpa using h.len, fun i c b hc hb => h.get i _ b (by simp [hc]) hb⟩
theorem map_self (f : α → β) (l : List α) (h : ∀ a ∈ l, R a (f a)) : All2 R l (l.map f) :=
  ⟨by simp, fun i a b ha hb => by simp [ha] at hb; subst hb; exact h a (List.mem_of_getElem? ha)⟩
end All2

/-! ### Data -/
/-- What a cell reads as: a value without memory, or a slice of rows, each of so many cells. -/
inductive D where
  | v (x : Value)
  | sl (size : Nat) (rows : List (List D))
  | err
instance : Inhabited D := ⟨.v undef⟩

/-- A cell's value reads as a datum; all memory that is read lies in blocks of S. -/
inductive Imm (S : Nat → Prop) (w : World) : D → Value → Prop
  | v {x : Value} (h : x.oneCell' = true) : Imm S w (.v x) x
  | err {t : TypeId} {v : Value} : Imm S w .err (.iface t v)
  | nil {size : Nat} : Imm S w (.sl size []) (.slice none 0 0)
  | sl0 {size cap : Nat} {a : Addr} : Imm S w (.sl size []) (.slice (some a) 0 cap)
  | sl {size : Nat} {rows : List (List D)} {g f cap : Nat} (us : Nat → Value) (hs : S g) (hc : rows.length ≤ cap) (hr : ∀ r ∈ rows, r.length = size)
      (h1 : ∀ j d, rows.flatten[j]? = some d → w.cell? ⟨g, f + j, none⟩ = some (us j)) (h2 : ∀ j d, rows.flatten[j]? = some d → Imm S w d (us j)) : Imm S w (.sl size rows) (.slice (some ⟨g, f, none⟩) rows.length cap)

theorem cell_same {w w' : World} {g : Nat} (h : w'.heap[g]? = w.heap[g]?) (o : Nat) : w'.cell? ⟨g, o, none⟩ = w.cell? ⟨g, o, none⟩ := World.cell?_of_block (w := w) (a := ⟨g, o, none⟩) h
theorem Imm.mono {S S' : Nat → Prop} {w w' : World} (hw : ∀ b, S b → w'.heap[b]? = w.heap[b]?) (hS : ∀ b, S b → S' b) {d : D} {u : Value} (h : Imm S w d u) : Imm S' w' d u := by
  induction h with
  | v h => exact .v h
  | err => exact .err
  | nil => exact .nil
  | sl0 => exact .sl0
  | sl us hs hc hr h1 _ ih => exact .sl us (hS _ hs) hc hr (fun j d hj => (cell_same (hw _ hs) _).trans (h1 j d hj)) ih
theorem Imm.one {S : Nat → Prop} {w : World} {d : D} {u : Value} (h : Imm S w d u) : u.oneCell' = true := by
  cases h with
  | v h => exact h
  | err => rfl
  | nil => rfl
  | sl0 => rfl
  | sl => rfl

theorem flatten_get {α : Type} {size : Nat} : ∀ {rows : List (List α)} (_ : ∀ r ∈ rows, r.length = size) {i j : Nat} {r : List α} {d : α}, rows[i]? = some r → r[j]? = some d → rows.flatten[i * size + j]? = some d
  | [], _, i, _, _, _, h, _ => by simp at h
  | a :: rows, hr, 0, j, r, d, h, hj => by
    simp at h
    subst h
    have hlt : j < a.length := (List.getElem?_eq_some_iff.1 hj).1
    rw [List.flatten_cons, Nat.zero_mul, Nat.zero_add, List.getElem?_append_left hlt, hj]
  | a :: rows, hr, i + 1, j, r, d, h, hj => by
    have ha := hr a (by simp)
    rw [List.flatten_cons, List.getElem?_append_right (by rw [ha, Nat.add_mul, Nat.one_mul]; omega), ha, show (i + 1) * size + j - size = i * size + j by rw [Nat.add_mul, Nat.one_mul]; omega]
    exact flatten_get (fun r hr' => hr r (by simp [hr'])) (by simpa using h) hj
theorem flatten_len {α : Type} {size : Nat} : ∀ {rows : List (List α)} (_ : ∀ r ∈ rows, r.length = size), rows.flatten.length = rows.length * size
  | [], _ => by simp
  | a :: rows, hr => by
    rw [List.flatten_cons, List.length_append, hr a (by simp), flatten_len (fun r hr' => hr r (by simp [hr'])), List.length_cons, Nat.add_mul, Nat.one_mul, Nat.add_comm]

/-! ### Values of a frame -/
/-- A cell of the frame, or of an object: a datum; a pointer to a cell of object k; a pointer to cells that lie still; a pointer into row k, element i, cell j; row k itself. -/
inductive CV where
  | d (x : D)
  | ptr (k off : Nat)
  | eptr (cells : List D)
  | rptr (k size i j : Nat)
  | row (k : Nat)
inductive T1 where
  | c (x : CV)
  | g (l : List CV)
inductive TV where
  | no
  | und
  | o (x : T1)
  | tup (l : List T1)
  | pan (v : Value)
/-- What the call owns under a name: an object's cells; a row of elements of type e; nothing any more. -/
inductive Blk where
  | obj (cells : List CV) (tag : TypeId := 0)
  | row (size : Nat) (e : TypeId) (rows : List (List D))
  | dead
/-- The type of an object's block: known, if it has a tag. -/
def TagTy (tag : TypeId) := { t : TypeId // tag = 0 ∨ t = tag }
def Blk.live : Blk → Bool | .dead => false | _ => true
def blkOf : Value → Option Nat
  | .pointer (some a) => some a.block
  | .slice (some a) _ _ => some a.block
  | _ => none

section
variable (ι : Nat → Value) (S : Nat → Prop) (w : World)
def VC : CV → Value → Prop
  | .d x, u => Imm S w x u
  | .ptr k o, u => ∃ b, ι k = .pointer (some ⟨b, 0, none⟩) ∧ u = .pointer (some ⟨b, o, none⟩)
  | .eptr cs, u => ∃ (g f : Nat) (us : Nat → Value), u = .pointer (some ⟨g, f, none⟩) ∧ (cs ≠ [] → S g) ∧ ∀ j d, cs[j]? = some d → w.cell? ⟨g, f + j, none⟩ = some (us j) ∧ Imm S w d (us j)
  | .rptr k size i j, u => ∃ b n cap, ι k = .slice (some ⟨b, 0, none⟩) n cap ∧ u = .pointer (some ⟨b, i * size + j, none⟩)
  | .row k, u => u = ι k ∧ ∃ o n c, u = .slice o n c
def V1 : T1 → Value → Prop
  | .c x, u => VC ι S w x u
  | .g l, u => ∃ us : List Value, u = .agg us.toArray ∧ All2 (VC ι S w) l us
def V : TV → Value → Prop
  | .no, _ => True
  | .und, u => u = undef
  | .o x, u => V1 ι S w x u
  | .tup l, u => ∃ us : List Value, u = .tuple us.toArray ∧ All2 (V1 ι S w) l us
  | .pan _, _ => False
def BlkOk (k : Nat) : Blk → Prop
  | .dead => True
  | .obj cells tag => ∃ b arr, ∃ ty : TagTy tag, ι k = .pointer (some ⟨b, 0, none⟩) ∧ w.heap[b]? = some (.cells arr ty.1 (0, 0)) ∧ All2 (VC ι S w) cells arr.toList ∧ ¬ S b
  | .row size e rows => ∃ cs, w.ownsRow 0 e size (ι k) rows.length cs ∧ All2 (Imm S w) rows.flatten cs ∧ (∀ r ∈ rows, r.length = size) ∧ ∀ b, blkOf (ι k) = some b → ¬ S b
end

def CV.men (n : Nat) : CV → Bool
  | .ptr k _ | .rptr k _ _ _ | .row k => k == n
  | _ => false
def T1.men (n : Nat) : T1 → Bool
  | .c x => x.men n
  | .g l => l.any (CV.men n)
def TV.men (n : Nat) : TV → Bool
  | .no => false
  | .und => false
  | .o x => x.men n
  | .tup l => l.any (T1.men n)
  | .pan _ => false
def Blk.men (n : Nat) : Blk → Bool
  | .obj l _ => l.any (CV.men n)
  | _ => false

section
variable {ι ι' : Nat → Value} {S S' : Nat → Prop} {w w' : World}
theorem VC.mono (hw : ∀ b, S b → w'.heap[b]? = w.heap[b]?) (hS : ∀ b, S b → S' b) {x : CV} {u : Value} (hι : ∀ k, x.men k = true → ι' k = ι k) (h : VC ι S w x u) : VC ι' S' w' x u := by
  cases x with
  | d x => exact Imm.mono hw hS h
  | ptr k o => obtain ⟨b, h1, h2⟩ := h; exact ⟨b, (hι k (by simp [CV.men])).trans h1, h2⟩
  | eptr cs =>
    obtain ⟨g, f, us, h1, h2, h3⟩ := h
    refine ⟨g, f, us, h1, fun hn => hS _ (h2 hn), fun j d hj => ?_⟩
    have hn : cs ≠ [] := by intro e; simp [e] at hj
    exact ⟨(cell_same (hw _ (h2 hn)) _).trans (h3 j d hj).1, (h3 j d hj).2.mono hw hS⟩
  | rptr k s i j => obtain ⟨b, n, c, h1, h2⟩ := h; exact ⟨b, n, c, (hι k (by simp [CV.men])).trans h1, h2⟩
  | row k => exact ⟨h.1.trans (hι k (by simp [CV.men])).symm, h.2⟩
theorem V1.mono (hw : ∀ b, S b → w'.heap[b]? = w.heap[b]?) (hS : ∀ b, S b → S' b) {x : T1} {u : Value} (hι : ∀ k, x.men k = true → ι' k = ι k) (h : V1 ι S w x u) : V1 ι' S' w' x u := by
  cases x with
  | c x => exact VC.mono hw hS hι h
  | g l =>
    obtain ⟨us, h1, h2⟩ := h
    exact ⟨us, h1, h2.mono_mem fun a b ha hab => VC.mono hw hS (fun k hk => hι k (List.any_eq_true.2 ⟨a, ha, hk⟩)) hab⟩
theorem V.mono (hw : ∀ b, S b → w'.heap[b]? = w.heap[b]?) (hS : ∀ b, S b → S' b) {x : TV} {u : Value} (hι : ∀ k, x.men k = true → ι' k = ι k) (h : V ι S w x u) : V ι' S' w' x u := by
  cases x with
  | no => trivial
  | und => exact h
  | o x => exact V1.mono hw hS hι h
  | tup l =>
    obtain ⟨us, h1, h2⟩ := h
    exact ⟨us, h1, h2.mono_mem fun a b ha hab => V1.mono hw hS (fun k hk => hι k (List.any_eq_true.2 ⟨a, ha, hk⟩)) hab⟩
  | pan v => exact h
theorem VC.one {x : CV} {u : Value} (h : VC ι S w x u) : u.oneCell' = true := by
  cases x with
  | d x => exact Imm.one h
  | ptr k o => obtain ⟨b, _, rfl⟩ := h; rfl
  | eptr cs => obtain ⟨g, f, us, rfl, _⟩ := h; rfl
  | rptr k s i j => obtain ⟨b, n, c, _, rfl⟩ := h; rfl
  | row k => obtain ⟨_, o, n, c, rfl⟩ := h; rfl
theorem ownsRow_same {base : Nat} {e : TypeId} {size : Nat} {v : Value} {n : Nat} {xs : List Value} (h : w.ownsRow base e size v n xs) (hb : ∀ g, blkOf v = some g → w'.heap[g]? = w.heap[g]?) : w'.ownsRow base e size v n xs := by
  refine ⟨h.1, ?_⟩
  rcases h.2 with h2 | ⟨g, cap, cur, rfl, h1, h2, h3⟩
  · exact .inl h2
  · exact .inr ⟨g, cap, cur, rfl, h1, (hb g rfl).trans h2, h3⟩
/-- What is owned under a name stays, if its block does. -/
theorem BlkOk.mono {k : Nat} {b : Blk} (hw : ∀ b, S b → w'.heap[b]? = w.heap[b]?) (hS : ∀ b, S b → S' b) (hk : b.live = true → ι' k = ι k) (hι : ∀ n, b.men n = true → ι' n = ι n)
    (hb : b.live = true → ∀ g, blkOf (ι k) = some g → w'.heap[g]? = w.heap[g]? ∧ ¬ S' g) (h : BlkOk ι S w k b) : BlkOk ι' S' w' k b := by
  cases b with
  | dead => trivial
  | obj cells =>
    obtain ⟨b, arr, ty, h1, h2, h3, h4⟩ := h
    have hb' := hb rfl b (by simp [h1, blkOf])
    exact ⟨b, arr, ty, (hk rfl).trans h1, hb'.1.trans h2, h3.mono_mem fun a u ha hab => VC.mono hw hS (fun n hn => hι n (List.any_eq_true.2 ⟨a, ha, hn⟩)) hab, hb'.2⟩
  | row size e rows =>
    obtain ⟨cs, h1, h2, h3, h4⟩ := h
    refine ⟨cs, ?_, h2.mono fun a u hab => hab.mono hw hS, h3, fun g hg => ?_⟩
    · rw [hk rfl]
      exact ownsRow_same h1 fun g hg => (hb rfl g hg).1
    · rw [hk rfl] at hg
      exact (hb rfl g hg).2
end

/-! ### The run's invariant -/
/-- What is known of memory that lies still: the program's variables that nobody writes. -/
structure Glob where
  G : (Nat → Prop) → World → Prop
  mono : ∀ {S S' : Nat → Prop} {w w' : World}, (∀ b, S b → w'.heap[b]? = w.heap[b]?) → (∀ b, S b → S' b) → G S w → G S' w'
structure Env where
  W : World
  M : Nat → Prop
  S0 : Nat → Prop
  n : Nat
  Γ : Glob
  ι0 : Nat → Value
  nx0 : Nat
  dd : List Deferred
structure Inv (E : Env) (ι : Nat → Value) (S : Nat → Prop) (tm : Nat → Option TV) (mem : Nat → Option Blk) (a : Act) (w : World) : Prop where
  os : w.os = E.W.os
  tape : w.tape = E.W.tape
  output : w.output = E.W.output
  size : E.W.heap.size ≤ w.heap.size
  old : ∀ b, b < E.W.heap.size → ¬ E.M b → w.heap[b]? = E.W.heap[b]?
  slt : ∀ b, S b → b < w.heap.size
  s0 : ∀ b, E.S0 b → S b
  sg : ∀ b, S b → E.S0 b ∨ E.W.heap.size ≤ b ∨ E.M b
  tms : ∀ t tv, tm t = some tv → V ι S w tv (a.tmps.getD t undef)
  blk : ∀ k b, mem k = some b → BlkOk ι S w k b
  mutb : ∀ k b, mem k = some b → b.live = true → ∀ g, blkOf (ι k) = some g → E.M g ∨ E.W.heap.size ≤ g
  dst : ∀ k k' b b' g, mem k = some b → mem k' = some b' → b.live = true → b'.live = true → blkOf (ι k) = some g → blkOf (ι k') = some g → k = k'
  dn : a.defers = E.dd
  sz : a.tmps.size = E.n
  gl : E.Γ.G S w
  ik : ∀ k, k < E.nx0 → ι k = E.ι0 k
def RF (E : Env) (tm : Nat → Option TV) (mem : Nat → Option Blk) (a : Act) (w : World) : Prop := ∃ ι S, Inv E ι S tm mem a w

/-- A panic with a value, on its way. -/
def panE (v : Value) : List PanicEntry := [{ v, recovered := false }]
/-- What an operation yields: its value; the names that it reads; the names whose content turns; what it makes under a new name. -/
structure Res where
  v : TV
  rd : List Nat
  upd : List (Nat × Blk)
  new : List Blk

structure After (ι : Nat → Value) (S : Nat → Prop) (w : World) (nx : Nat) (r : Res) (x : Value) (ι' : Nat → Value) (S' : Nat → Prop) (w' : World) : Prop where
  val : V ι' S' w' r.v x
  keep : ∀ k, k < nx ∨ nx + r.new.length ≤ k → ι' k = ι k
  smono : ∀ b, S b → S' b
  sgrow : ∀ b, S' b → S b ∨ w.heap.size ≤ b ∨ ∃ k, (k, Blk.dead) ∈ r.upd ∧ blkOf (ι k) = some b
  slt : ∀ b, S' b → b < w'.heap.size
  os : w'.os = w.os
  tape : w'.tape = w.tape
  output : w'.output = w.output
  size : w.heap.size ≤ w'.heap.size
  heap : ∀ b, b < w.heap.size → (∀ k, k ∈ r.upd.map (·.1) → blkOf (ι k) ≠ some b) → w'.heap[b]? = w.heap[b]?
  updok : ∀ k b, (k, b) ∈ r.upd → BlkOk ι' S' w' k b
  newok : ∀ i b, r.new[i]? = some b → BlkOk ι' S' w' (nx + i) b
  newblk : ∀ i b, r.new[i]? = some b → b.live = true → ∀ g, blkOf (ι' (nx + i)) = some g → ¬ S g ∧ (w.heap.size ≤ g ∨ ∃ k, (k, Blk.dead) ∈ r.upd ∧ blkOf (ι k) = some g)
  newdst : ∀ i j b b' g, r.new[i]? = some b → r.new[j]? = some b' → b.live = true → b'.live = true → blkOf (ι' (nx + i)) = some g → blkOf (ι' (nx + j)) = some g → i = j

def Spec (P : Program) (Γ : Glob) (o : Oper) (ev : Operand → Option TV) (mem : Nat → Option Blk) (nx : Nat) (r : Res) : Prop :=
  ∀ (Q : Exit → Act → World → Prop) (next : Act → World → Prop) (ι : Nat → Value) (S : Nat → Prop) (a : Act) (w : World), (∀ b, S b → b < w.heap.size) → Γ.G S w →
    (∀ k ∈ r.rd, ∀ k' ∈ r.rd, ∀ b b' g, mem k = some b → mem k' = some b' → b.live = true → b'.live = true → blkOf (ι k) = some g → blkOf (ι k') = some g → k = k') →
    (∀ x ∈ o.op.operands, ∀ tv, ev x = some tv → V ι S w tv (a.eval x)) → (∀ k ∈ r.rd, ∀ b, mem k = some b → BlkOk ι S w k b) →
    (∀ x ι' S' w', After ι S w nx r x ι' S' w' → next (a.put o.dst x) w') →
    (∀ v, r.v = .pan v → ∀ ι' S' w', After ι S w nx { r with v := .und } undef ι' S' w' → Q (.panic (panE v)) a w') → o.wp P a w next Q

def putF (tm : Nat → Option TV) (d : Option Nat) (v : TV) : Nat → Option TV := fun t => if d = some t then some v else tm t
def findL {α : Type} : List (Nat × α) → Nat → Option α
  | [], _ => none
  | (k, v) :: l, t => if k = t then some v else findL l t
def updF (mem : Nat → Option Blk) (r : Res) (nx : Nat) : Nat → Option Blk := fun k =>
  match findL r.upd k with
  | some b => some b
  | none => if nx ≤ k then (match r.new[k - nx]? with
    | some b => some b
    | none => mem k) else mem k
theorem findL_mem {α : Type} : ∀ {l : List (Nat × α)} {t : Nat} {v : α}, findL l t = some v → (t, v) ∈ l
  | (k, u) :: l, t, v, h => by
    simp only [findL] at h
    split at h
    · rename_i e; cases h; subst e; simp
    · exact List.mem_cons_of_mem _ (findL_mem h)
theorem findL_none {α : Type} : ∀ {l : List (Nat × α)} {t : Nat}, findL l t = none → t ∉ l.map (·.1)
  | [], t, _ => by simp
  | (k, u) :: l, t, h => by
    simp only [findL] at h
    split at h
    · cases h
    · rename_i e
      have := findL_none h
      simp only [List.map_cons, List.mem_cons, not_or]
      exact ⟨fun h' => e h'.symm, this⟩
theorem put_getD {a : Act} {d : Option Nat} {x : Value} {t : Nat} (h : d ≠ some t) : (a.put d x).tmps.getD t undef = a.tmps.getD t undef := by
  cases d with
  | none => rfl
  | some d =>
    have hne : d ≠ t := fun e => h (e ▸ rfl)
    simp [Act.put, Array.getElem?_setIfInBounds_ne hne]
theorem put_getD_self {a : Act} {d : Nat} {x : Value} (h : d < a.tmps.size) : (a.put (some d) x).tmps.getD d undef = x := by
  simp [Act.put, h]

theorem step_inv {E : Env} {r : Res} {nx : Nat} {ι : Nat → Value} {S : Nat → Prop} {tmX tm' : Nat → Option TV} {memX : Nat → Option Blk} {a a' : Act} {w w' : World} {x : Value} {ι' : Nat → Value} {S' : Nat → Prop} (I : Inv E ι S tmX memX a w) (A : After ι S w nx r x ι' S' w')
    (hupd : ∀ k b, (k, b) ∈ r.upd → ∃ b', memX k = some b' ∧ b'.live = true)
    (hnx : ∀ i, i < r.new.length → memX (nx + i) = none ∧ (∀ t tv, tmX t = some tv → tv.men (nx + i) = false) ∧ ∀ k b, memX k = some b → b.men (nx + i) = false)
    (hnx0 : r.new ≠ [] → E.nx0 ≤ nx)
    (huniq : ∀ k b b', (k, b) ∈ r.upd → (k, b') ∈ r.upd → b = b')
    (htm : (∀ b, S b → w'.heap[b]? = w.heap[b]?) → (∀ (tv : TV), (∀ i, i < r.new.length → tv.men (nx + i) = false) → ∀ k, tv.men k = true → ι' k = ι k) → ∀ t tv, tm' t = some tv → V ι' S' w' tv (a'.tmps.getD t undef))
    (hdn : a'.defers = E.dd) (hsz : a'.tmps.size = E.n) : Inv E ι' S' tm' (updF memX r nx) a' w' := by
  -- the blocks of what is owned and does not turn stay
  have hin : ∀ k, k < nx ∨ nx + r.new.length ≤ k ∨ ∃ i, i < r.new.length ∧ k = nx + i := fun k => by
    by_cases h1 : k < nx
    · exact .inl h1
    · by_cases h2 : nx + r.new.length ≤ k
      · exact .inr (.inl h2)
      · exact .inr (.inr ⟨k - nx, by omega, by omega⟩)
  have hkeep : ∀ k, memX k ≠ none → ι' k = ι k := fun k hk => by
    rcases hin k with h | h | ⟨i, hi, rfl⟩
    · exact A.keep k (.inl h)
    · exact A.keep k (.inr h)
    · exact absurd (hnx i hi).1 hk
  have hmut : ∀ k b, (k, b) ∈ r.upd → ∀ g, blkOf (ι k) = some g → (E.M g ∨ E.W.heap.size ≤ g) ∧ ¬ S g := fun k b hk g hg => by
    obtain ⟨b', hb', hl⟩ := hupd k b hk
    refine ⟨I.mutb k b' hb' hl g hg, ?_⟩
    have := I.blk k b' hb'
    cases b' with
    | dead => cases hl
    | obj cells => obtain ⟨b2, arr, ty, h1, _, _, h4⟩ := this; rw [h1] at hg; cases hg; exact h4
    | row size e rows => obtain ⟨cs, _, _, _, h4⟩ := this; exact h4 g hg
  have hS : ∀ b, S b → w'.heap[b]? = w.heap[b]? := fun b hb => A.heap b (I.slt b hb) fun k hk e => by
    obtain ⟨p, hp, rfl⟩ := List.mem_map.1 hk
    exact (hmut p.1 p.2 hp b e).2 hb
  have hmen : ∀ (tv : TV), (∀ i, i < r.new.length → tv.men (nx + i) = false) → ∀ k, tv.men k = true → ι' k = ι k := fun tv hc k hk => by
    rcases hin k with h | h | ⟨i, hi, rfl⟩
    · exact A.keep k (.inl h)
    · exact A.keep k (.inr h)
    · rw [hc i hi] at hk; cases hk
  have hblkne : ∀ k b, memX k = some b → b.live = true → findL r.upd k = none → ∀ g, blkOf (ι k) = some g → ∀ k', k' ∈ r.upd.map (·.1) → blkOf (ι k') ≠ some g := fun k b hb hl hf g hg k' hk' e => by
    obtain ⟨p, hp, rfl⟩ := List.mem_map.1 hk'
    obtain ⟨b', hb', hl'⟩ := hupd p.1 p.2 hp
    have := I.dst k p.1 b b' g hb hb' hl hl' hg e
    subst this
    exact findL_none hf hk'
  have hlt : ∀ k b, memX k = some b → b.live = true → ∀ g, blkOf (ι k) = some g → g < w.heap.size ∧ ¬ S g := fun k b hb hl g hg => by
    have := I.blk k b hb
    cases b with
    | dead => cases hl
    | obj cells =>
      obtain ⟨b2, arr, ty, h1, h2, _, h4⟩ := this
      rw [h1] at hg; cases hg
      exact ⟨(Array.getElem?_eq_some_iff.1 h2).1, h4⟩
    | row size e rows =>
      obtain ⟨cs, h1, _, _, h4⟩ := this
      refine ⟨?_, h4 g hg⟩
      rcases h1.2 with ⟨h5, _⟩ | ⟨g', cap, cur, h5, _, h6, _⟩
      · rw [h5] at hg; cases hg
      · rw [h5] at hg; cases hg
        exact (Array.getElem?_eq_some_iff.1 h6).1
  have hS' : ∀ k b, memX k = some b → b.live = true → findL r.upd k = none → ∀ g, blkOf (ι k) = some g → ¬ S' g := fun k b hb hl hf g hg hs' => by
    rcases A.sgrow g hs' with h | h | ⟨k', hk', h⟩
    · exact (hlt k b hb hl g hg).2 h
    · have := (hlt k b hb hl g hg).1; omega
    · exact hblkne k b hb hl hf g hg k' (List.mem_map.2 ⟨_, hk', rfl⟩) h
  have hupdF : ∀ k b, updF memX r nx k = some b → (k, b) ∈ r.upd ∨ (∃ i, r.new[i]? = some b ∧ k = nx + i) ∨ (memX k = some b ∧ findL r.upd k = none) := fun k b hb => by
    unfold updF at hb
    cases hf : findL r.upd k with
    | some b' => simp only [hf] at hb; cases hb; exact .inl (findL_mem hf)
    | none =>
      simp only [hf] at hb
      split at hb
      · rename_i hle
        split at hb
        · rename_i b' hn
          cases hb
          exact .inr (.inl ⟨k - nx, hn, by omega⟩)
        · exact .inr (.inr ⟨hb, rfl⟩)
      · exact .inr (.inr ⟨hb, rfl⟩)
  have hnewS : ∀ i b, r.new[i]? = some b → b.live = true → ∀ g, blkOf (ι' (nx + i)) = some g → (E.M g ∨ E.W.heap.size ≤ g) := fun i b hb hl g hg => by
    rcases (A.newblk i b hb hl g hg).2 with h | ⟨k, hk, h⟩
    · right; have := I.size; omega
    · exact (hmut k _ hk g h).1
  have hupdmem : ∀ k b, (k, b) ∈ r.upd → ι' k = ι k := fun k b hk => by
    obtain ⟨b', hb', _⟩ := hupd k b hk
    exact hkeep k (by simp [hb'])
  refine ⟨A.os.trans I.os, A.tape.trans I.tape, A.output.trans I.output, Nat.le_trans I.size A.size, fun b hb hM => ?_, A.slt, fun b hb => A.smono b (I.s0 b hb), fun b hb => ?_, fun t tv htv => ?_, fun k b hb => ?_, fun k b hb hl g hg => ?_,
    fun k k' b b' g hb hb' hl hl' hg hg' => ?_, ?_, ?_, E.Γ.mono hS A.smono I.gl, fun k hk => ?_⟩
  · rw [← I.old b hb hM]
    refine A.heap b (Nat.lt_of_lt_of_le hb I.size) fun k hk e => ?_
    obtain ⟨p, hp, rfl⟩ := List.mem_map.1 hk
    rcases (hmut p.1 p.2 hp b e).1 with h | h
    · exact hM h
    · omega
  · rcases A.sgrow b hb with h | h | ⟨k, hk, h⟩
    · exact I.sg b h
    · right; left; have := I.size; omega
    · rcases (hmut k _ hk b h).1 with h | h
      · exact .inr (.inr h)
      · exact .inr (.inl h)
  · exact htm hS hmen t tv htv
  · rcases hupdF k b hb with h | ⟨i, h, rfl⟩ | ⟨h, hf⟩
    · exact A.updok k b h
    · exact A.newok i b h
    · refine BlkOk.mono hS A.smono (fun _ => hkeep k (by simp [h])) (fun n hn => ?_) (fun hl g hg => ⟨A.heap g (hlt k b h hl g hg).1 (hblkne k b h hl hf g hg), hS' k b h hl hf g hg⟩) (I.blk k b h)
      rcases hin n with h1 | h1 | ⟨i, hi, rfl⟩
      · exact A.keep n (.inl h1)
      · exact A.keep n (.inr h1)
      · rw [(hnx i hi).2.2 k b h] at hn; cases hn
  · rcases hupdF k b hb with h | ⟨i, h, rfl⟩ | ⟨h, hf⟩
    · rw [hupdmem k b h] at hg
      exact (hmut k b h g hg).1
    · exact hnewS i b h hl g hg
    · rw [hkeep k (by simp [h])] at hg
      exact I.mutb k b h hl g hg
  · -- two live names with one block are one
    have key : ∀ k b, updF memX r nx k = some b → b.live = true → blkOf (ι' k) = some g → (∃ i, k = nx + i ∧ r.new[i]? = some b ∧ (w.heap.size ≤ g ∨ ∃ k, (k, Blk.dead) ∈ r.upd ∧ blkOf (ι k) = some g)) ∨ (∃ b', memX k = some b' ∧ b'.live = true ∧ blkOf (ι k) = some g ∧ ((k, b) ∈ r.upd ∨ findL r.upd k = none)) := fun k b hb hl hg => by
      rcases hupdF k b hb with h | ⟨i, h, rfl⟩ | ⟨h, hf⟩
      · rw [hupdmem k b h] at hg
        obtain ⟨b', hb', hl'⟩ := hupd k b h
        exact .inr ⟨b', hb', hl', hg, .inl h⟩
      · exact .inl ⟨i, rfl, h, (A.newblk i b h hl g hg).2⟩
      · rw [hkeep k (by simp [h])] at hg
        exact .inr ⟨b, h, hl, hg, .inr hf⟩
    have clash : ∀ k b, (∃ b', memX k = some b' ∧ b'.live = true ∧ blkOf (ι k) = some g ∧ ((k, b) ∈ r.upd ∨ findL r.upd k = none)) → b.live = true → (w.heap.size ≤ g ∨ ∃ k, (k, Blk.dead) ∈ r.upd ∧ blkOf (ι k) = some g) → False := fun k b ⟨b', hb', hl', hg', hc⟩ hl hn => by
      rcases hn with hn | ⟨k2, hk2, hg2⟩
      · have := (hlt k b' hb' hl' g hg').1; omega
      · obtain ⟨b2, hb2, hl2⟩ := hupd k2 _ hk2
        have := I.dst k k2 b' b2 g hb' hb2 hl' hl2 hg' hg2
        subst this
        rcases hc with hc | hc
        · have := huniq k b .dead hc hk2
          subst this
          cases hl
        · exact findL_none hc (List.mem_map.2 ⟨_, hk2, rfl⟩)
    rcases key k b hb hl hg with ⟨i, h1, h2, h3⟩ | h
    · rcases key k' b' hb' hl' hg' with ⟨i', h1', h2', _⟩ | h'
      · subst h1; subst h1'
        rw [A.newdst i i' b b' g h2 h2' hl hl' hg hg']
      · exact (clash k' b' h' hl' h3).elim
    · rcases key k' b' hb' hl' hg' with ⟨i', h1', h2', h3'⟩ | h'
      · exact (clash k b h hl h3').elim
      · obtain ⟨c, hc, hcl, hcg, _⟩ := h
        obtain ⟨c', hc', hcl', hcg', _⟩ := h'
        exact I.dst k k' c c' g hc hc' hcl hcl' hcg hcg'
  · exact hdn
  · exact hsz
  · rw [← I.ik k hk]
    by_cases hn : r.new = []
    · exact A.keep k (by rw [hn]; simp; omega)
    · exact A.keep k (.inl (by have := hnx0 hn; omega))
/-- One operation, met by what it may do: the invariant goes on. -/
theorem step_ok {P : Program} {E : Env} {o : Oper} {ev : Operand → Option TV} {mem : Nat → Option Blk} {nx : Nat} {r : Res} (hs : Spec P E.Γ o ev mem nx r)
    {tmX : Nat → Option TV} {memX : Nat → Option Blk} {a : Act} {w : World} (hR : RF E tmX memX a w) {next : Act → World → Prop} {Q : Exit → Act → World → Prop}
    (hops : ∀ x ∈ o.op.operands, ∀ tv, ev x = some tv → ∀ ι S, Inv E ι S tmX memX a w → V ι S w tv (a.eval x))
    (hrd : ∀ k ∈ r.rd, ∀ b, mem k = some b → memX k = some b)
    (hupd : ∀ k b, (k, b) ∈ r.upd → ∃ b', memX k = some b' ∧ b'.live = true)
    (hnx : ∀ i, i < r.new.length → memX (nx + i) = none ∧ (∀ t tv, tmX t = some tv → tv.men (nx + i) = false) ∧ ∀ k b, memX k = some b → b.men (nx + i) = false)
    (hnx0 : r.new ≠ [] → E.nx0 ≤ nx)
    (huniq : ∀ k b b', (k, b) ∈ r.upd → (k, b') ∈ r.upd → b = b')
    (hd : ∀ d, o.dst = some d → d < E.n)
    (hnext : (∀ v, r.v ≠ .pan v) → ∀ a' w', RF E (putF tmX o.dst r.v) (updF memX r nx) a' w' → next a' w')
    (hpan : ∀ v, r.v = .pan v → ∀ w', RF E tmX (updF memX r nx) a w' → Q (.panic (panE v)) a w') : o.wp P a w next Q := by
  obtain ⟨ι, S, I⟩ := hR
  refine hs Q next ι S a w I.slt I.gl (fun k hk k' hk' b b' g hb hb' => I.dst k k' b b' g (hrd k hk b hb) (hrd k' hk' b' hb')) (fun x hx tv htv => hops x hx tv htv ι S I) (fun k hk b hb => I.blk k b (hrd k hk b hb)) (fun x ι' S' w' A => hnext (fun v hv => by have := A.val; rw [hv] at this; exact this) _ _ ⟨ι', S', step_inv I A hupd hnx hnx0 huniq ?_ ?_ ?_⟩) (fun v hv ι' S' w' A => hpan v hv w' ⟨ι', S', step_inv (r := { r with v := .und }) I A hupd hnx hnx0 huniq ?_ ?_ ?_⟩)
  · intro hS hmen t tv htv
    unfold putF at htv
    split at htv
    · rename_i e
      cases htv
      have hdl := hd t e
      rw [e, put_getD_self (by rw [I.sz]; exact hdl)]
      exact A.val
    · rename_i e
      rw [put_getD e]
      exact V.mono hS A.smono (hmen tv fun i hi => (hnx i hi).2.1 t tv htv) (I.tms t tv htv)
  · have := I.dn
    cases o.dst <;> simpa [Act.put] using this
  · have := I.sz
    cases o.dst <;> simpa [Act.put] using this
  · intro hS hmen t tv htv
    exact V.mono hS A.smono (hmen tv fun i hi => (hnx i hi).2.1 t tv htv) (I.tms t tv htv)
  · exact I.dn
  · exact I.sz
end Go.Proofs.YtkeehnhamkdogaaDoor
