/- Texts that the last one leans on: An abstract state of a function's frame and memory: data that lie still in memory, blocks and rows that the call owns, and what an operation may do to them. No condition. What single operations do to the abstract state: numbers, strings, addresses, loads and stores. No condition. What single operations do to the abstract state: moves, numbers, comparisons, strings, addresses, slices' parts, stores. No condition. What single operations do to the abstract state: indices, parts of slices, lengths, stores, new variables. No condition. What single operations do to the abstract state: stores, new variables, structs, slices made, appends. No condition. What single operations do to the abstract state: stores, slices made, appends. No condition. What single operations do to the abstract state: slices made, appends, calls. No condition. Strings to bytes and back. No condition. A string's bytes appended to an own row. Condition: bytes are of size 1. The bytes of an own row taken as a string (strings.Builder's String). Condition: the row isn't empty. An operation of the walk: a beginning of an own row is an own row. No condition. Operations on maps that the call owns; the end of an own row, and its clearing. No condition. The end of an own row, and its clearing. No condition. The walk of code over the abstract state: operations one behind the other, calls, branches, loops. No condition. -/
import Derived.WalkKit
import Derived.Handy
import Derived.Laws.OwnMore
import Derived.Laws.CopyRow
import Derived.WalkSpells
import Derived.WalkLawsBesides
import Derived.Great.BuildSlice
import Derived.Laws.MakeOwn
import Derived.Lib.ConvBytes
import Derived.Lib.AppendStr
import Derived.Lib.UnsafeStr
import Derived.Deep.LoopGhost
import Derived.Test.YtidnlfkakhmadaaGreatDoorBnd1
set_option linter.unusedVariables false
set_option linter.unusedSimpArgs false
set_option maxRecDepth 100000
namespace Go.Proofs.YtidnlfkakhmadaaGreatDoor
open Go.RowKit

structure All2 {α β : Type} (R : α → β → Prop) (l : List α) (m : List β) : Prop where
 len : l.length = m.length
 get : ∀ (i : Nat) a b, l[i]? = some a → m[i]? = some b → R a b
namespace All2
variable {α β γ : Type} {R : α → β → Prop}
theorem nil : All2 R [] [] := ⟨rfl, fun i a b h => by simp at h⟩
theorem cons {a : α} {b : β} {l m} (h : R a b) (t : All2 R l m) : All2 R (a :: l) (b :: m) :=
 ⟨by simp [t.len], fun i x y hx hy => by
  cases i with
  | zero => simp at hx hy; subst hx; subst hy; exact h
  | succ i => exact t.get i x y (by simpa using hx) (by simpa using hy)⟩
theorem head {a : α} {b : β} {l m} (h : All2 R (a :: l) (b :: m)) : R a b := h.get 0 a b rfl rfl
theorem tail {a : α} {b : β} {l m} (h : All2 R (a :: l) (b :: m)) : All2 R l m :=
 ⟨by simpa using h.len, fun i x y hx hy => h.get (i + 1) x y (by simpa using hx) (by simpa using hy)⟩
theorem nil_left {m : List β} (h : All2 R [] m) : m = [] := List.eq_nil_of_length_eq_zero (by simpa using h.len.symm)
theorem cons_left {a : α} {l} {m : List β} (h : All2 R (a :: l) m) : ∃ b m', m = b :: m' ∧ R a b ∧ All2 R l m' := by
 cases m with
 | nil => have := h.len; simp at this
 | cons b m => exact ⟨b, m, rfl, h.head, h.tail⟩
theorem one_left {a : α} {m : List β} (h : All2 R [a] m) : ∃ b, m = [b] ∧ R a b := by
 obtain ⟨b, m', rfl, h1, h2⟩ := h.cons_left
 obtain rfl := h2.nil_left
 exact ⟨b, rfl, h1⟩
theorem mono {R' : α → β → Prop} {l m} (h : All2 R l m) (f : ∀ a b, R a b → R' a b) : All2 R' l m := ⟨h.len, fun i a b ha hb => f a b (h.get i a b ha hb)⟩
theorem mono_mem {R' : α → β → Prop} {l m} (h : All2 R l m) (f : ∀ a b, a ∈ l → R a b → R' a b) : All2 R' l m := ⟨h.len, fun i a b ha hb => f a b (List.mem_of_getElem? ha) (h.get i a b ha hb)⟩
theorem at_left {l m} (h : All2 R l m) {i : Nat} {a : α} (ha : l[i]? = some a) : ∃ b, m[i]? = some b ∧ R a b := by
 obtain ⟨hi, rfl⟩ := List.getElem?_eq_some_iff.1 ha
 have hi' : i < m.length := h.len ▸ hi
 exact ⟨m[i], by simp [hi'], h.get i _ _ (by simp [hi]) (by simp [hi'])⟩
theorem at_right {l m} (h : All2 R l m) {i : Nat} {b : β} (hb : m[i]? = some b) : ∃ a, l[i]? = some a ∧ R a b := by
 obtain ⟨hi, rfl⟩ := List.getElem?_eq_some_iff.1 hb
 have hi' : i < l.length := h.len ▸ hi
 exact ⟨l[i], by simp [hi'], h.get i _ _ (by simp [hi']) (by simp [hi])⟩
theorem append {l l' m m'} (h : All2 R l m) (h' : All2 R l' m') : All2 R (l ++ l') (m ++ m') :=
 ⟨by simp [h.len, h'.len], fun i a b ha hb => by
  rw [List.getElem?_append] at ha hb
  rw [← h.len] at hb
  split at ha
  ·rename_i hlt; rw [if_pos hlt] at hb; exact h.get i a b ha hb
  ·rename_i hlt; rw [if_neg hlt] at hb; exact h'.get _ a b ha hb⟩
theorem drop {l m} (h : All2 R l m) (n : Nat) : All2 R (l.drop n) (m.drop n) :=
 ⟨by simp [h.len], fun i a b ha hb => h.get (n + i) a b (by simpa [List.getElem?_drop] using ha) (by simpa [List.getElem?_drop] using hb)⟩
theorem take {l m} (h : All2 R l m) (n : Nat) : All2 R (l.take n) (m.take n) :=
 ⟨by simp [h.len], fun i a b ha hb => by
  rw [List.getElem?_take] at ha hb
  split at ha
  ·rename_i hlt; rw [if_pos hlt] at hb; exact h.get i a b ha hb
  ·cases ha⟩
theorem map_left {f : γ → α} {l : List γ} {m : List β} (h : All2 (fun c b => R (f c) b) l m) : All2 R (l.map f) m :=
 ⟨by simp [h.len], fun i a b ha hb => by
  rw [List.getElem?_map] at ha
  cases hc : l[i]? with
  | none => simp [hc] at ha
  | some c => simp [hc] at ha; subst ha; exact h.get i c b hc hb⟩
theorem of_map_left {f : γ → α} {l : List γ} {m : List β} (h : All2 R (l.map f) m) : All2 (fun c b => R (f c) b) l m :=
 ⟨by simpa using h.len, fun i c b hc hb => h.get i _ b (by simp [hc]) hb⟩
end All2

inductive D where
 | v (x : Value)
 | sl (size : Nat) (rows : List (List D))
 | err
instance : Inhabited D := ⟨.v undef⟩

inductive Imm (S : Nat → Prop) (w : World) : D → Value → Prop
 | v {x : Value} (h : x.oneCell' = true) : Imm S w (.v x) x
 | err {t : TypeId} {v : Value} : Imm S w .err (.iface t v)
 | nil {size : Nat} : Imm S w (.sl size []) (.slice none 0 0)
 | sl0 {size cap : Nat} {a : Addr} : Imm S w (.sl size []) (.slice (some a) 0 cap)
 | sl {size : Nat} {rows : List (List D)} {g f cap : Nat} (us : Nat → Value) (hs : S g) (hc : rows.length ≤ cap) (hr : ∀ r ∈ rows, r.length = size)
   (h1 : ∀ j d, rows.flatten[j]? = some d → w.cell? ⟨g, f + j, none⟩ = some (us j)) (h2 : ∀ j d, rows.flatten[j]? = some d → Imm S w d (us j)) : Imm S w (.sl size rows) (.slice (some ⟨g, f, none⟩) rows.length cap)

theorem cell_same {w w' : World} {g : Nat} (h : w'.heap[g]? = w.heap[g]?) (o : Nat) : w'.cell? ⟨g, o, none⟩ = w.cell? ⟨g, o, none⟩ := World.cell?_of_block (w := w) (a := ⟨g, o, none⟩) h
theorem Imm.mono {S S' : Nat → Prop} {w w' : World} (hw : ∀ b, S b → w'.heap[b]? = w.heap[b]?) (hS : ∀ b, S b → S' b) {d : D} {u : Value} (h : Imm S w d u) : Imm S' w' d u := by
 induction h with
 | v h => exact .v h
 | err => exact .err
 | nil => exact .nil
 | sl0 => exact .sl0
 | sl us hs hc hr h1 _ ih => exact .sl us (hS _ hs) hc hr (fun j d hj => (cell_same (hw _ hs) _).trans (h1 j d hj)) ih
theorem Imm.one {S : Nat → Prop} {w : World} {d : D} {u : Value} (h : Imm S w d u) : u.oneCell' = true := by
 cases h with
 | v h => exact h
 | err => rfl
 | nil => rfl
 | sl0 => rfl
 | sl => rfl

theorem flatten_get {α : Type} {size : Nat} : ∀ {rows : List (List α)} (_ : ∀ r ∈ rows, r.length = size) {i j : Nat} {r : List α} {d : α}, rows[i]? = some r → r[j]? = some d → rows.flatten[i * size + j]? = some d
 | [], _, i, _, _, _, h, _ => by simp at h
 | a :: rows, hr, 0, j, r, d, h, hj => by
  simp at h
  subst h
  have hlt : j < a.length := (List.getElem?_eq_some_iff.1 hj).1
  rw [List.flatten_cons, Nat.zero_mul, Nat.zero_add, List.getElem?_append_left hlt, hj]
 | a :: rows, hr, i + 1, j, r, d, h, hj => by
  have ha := hr a (by simp)
  rw [List.flatten_cons, List.getElem?_append_right (by rw [ha, Nat.add_mul, Nat.one_mul]; omega), ha, show (i + 1) * size + j - size = i * size + j by rw [Nat.add_mul, Nat.one_mul]; omega]
  exact flatten_get (fun r hr' => hr r (by simp [hr'])) (by simpa using h) hj
theorem flatten_len {α : Type} {size : Nat} : ∀ {rows : List (List α)} (_ : ∀ r ∈ rows, r.length = size), rows.flatten.length = rows.length * size
 | [], _ => by simp
 | a :: rows, hr => by
  rw [List.flatten_cons, List.length_append, hr a (by simp), flatten_len (fun r hr' => hr r (by simp [hr'])), List.length_cons, Nat.add_mul, Nat.one_mul, Nat.add_comm]

inductive CV where
 | d (x : D)
 | ptr (k off : Nat)
 | eptr (cells : List D)
 | rptr (k size i j : Nat)
 | row (k : Nat)
 | mp (k : Nat)
 | rsl (k size i n : Nat)
inductive T1 where
 | c (x : CV)
 | g (l : List CV)
 | f (h a : Nat) (l : List CV)
inductive TV where
 | no
 | und
 | o (x : T1)
 | tup (l : List T1)
 | pan (v : Value)
inductive Blk where
 | obj (cells : List CV) (tag : TypeId := 0)
 | row (size : Nat) (e : TypeId) (rows : List (List D))
 | map (es : List (Value × Value))
 | dead
def TagTy (tag : TypeId) := { t : TypeId // tag = 0 ∨ t = tag }
def Blk.live : Blk → Bool | .dead => false | _ => true
def blkOf : Value → Option Nat
 | .pointer (some a) => some a.block
 | .slice (some a) _ _ => some a.block
 | .map (some b) => some b
 | _ => none

section
variable (ι : Nat → Value) (S : Nat → Prop) (w : World)
def VC : CV → Value → Prop
 | .d x, u => Imm S w x u
 | .ptr k o, u => ∃ b, ι k = .pointer (some ⟨b, 0, none⟩) ∧ u = .pointer (some ⟨b, o, none⟩)
 | .eptr cs, u => ∃ (g f : Nat) (us : Nat → Value), u = .pointer (some ⟨g, f, none⟩) ∧ (cs ≠ [] → S g) ∧ ∀ j d, cs[j]? = some d → w.cell? ⟨g, f + j, none⟩ = some (us j) ∧ Imm S w d (us j)
 | .rptr k size i j, u => ∃ b n cap, ι k = .slice (some ⟨b, 0, none⟩) n cap ∧ u = .pointer (some ⟨b, i * size + j, none⟩)
 | .row k, u => u = ι k ∧ ∃ o n c, u = .slice o n c
 | .mp k, u => u = ι k ∧ ∃ b, u = .map (some b)
 | .rsl k size i n, u => ∃ b n0 c0 c, ι k = .slice (some ⟨b, 0, none⟩) n0 c0 ∧ u = .slice (some ⟨b, i * size, none⟩) n c
def V1 : T1 → Value → Prop
 | .c x, u => VC ι S w x u
 | .g l, u => ∃ us : List Value, u = .agg us.toArray ∧ All2 (VC ι S w) l us
 | .f h a l, u => ∃ us : List Value, u = .func (.func h) (us.take a).toArray (us.drop a).toArray ∧ All2 (VC ι S w) l us
def V : TV → Value → Prop
 | .no, _ => True
 | .und, u => u = undef
 | .o x, u => V1 ι S w x u
 | .tup l, u => ∃ us : List Value, u = .tuple us.toArray ∧ All2 (V1 ι S w) l us
 | .pan _, _ => False
def BlkOk (k : Nat) : Blk → Prop
 | .dead => True
 | .obj cells tag => ∃ b arr, ∃ ty : TagTy tag, ι k = .pointer (some ⟨b, 0, none⟩) ∧ w.heap[b]? = some (.cells arr ty.1 (0, 0)) ∧ All2 (VC ι S w) cells arr.toList ∧ ¬ S b
 | .row size e rows => ∃ cs, w.ownsRow 0 e size (ι k) rows.length cs ∧ All2 (Imm S w) rows.flatten cs ∧ (∀ r ∈ rows, r.length = size) ∧ ∀ b, blkOf (ι k) = some b → ¬ S b
 | .map es => ∃ b arr clock, ι k = .map (some b) ∧ w.heap[b]? = some (.map arr clock) ∧ arr.toList.map (fun e => (e.key, e.val)) = es ∧ ¬ S b
end

def CV.men (n : Nat) : CV → Bool
 | .ptr k _ | .rptr k _ _ _ | .row k | .mp k | .rsl k _ _ _ => k == n
 | _ => false
def T1.men (n : Nat) : T1 → Bool
 | .c x => x.men n
 | .g l => l.any (CV.men n)
 | .f _ _ l => l.any (CV.men n)
def TV.men (n : Nat) : TV → Bool
 | .no => false
 | .und => false
 | .o x => x.men n
 | .tup l => l.any (T1.men n)
 | .pan _ => false
def Blk.men (n : Nat) : Blk → Bool
 | .obj l _ => l.any (CV.men n)
 | _ => false

section
variable {ι ι' : Nat → Value} {S S' : Nat → Prop} {w w' : World}
theorem VC.mono (hw : ∀ b, S b → w'.heap[b]? = w.heap[b]?) (hS : ∀ b, S b → S' b) {x : CV} {u : Value} (hι : ∀ k, x.men k = true → ι' k = ι k) (h : VC ι S w x u) : VC ι' S' w' x u := by
 cases x with
 | d x => exact Imm.mono hw hS h
 | ptr k o => obtain ⟨b, h1, h2⟩ := h; exact ⟨b, (hι k (by simp [CV.men])).trans h1, h2⟩
 | eptr cs =>
  obtain ⟨g, f, us, h1, h2, h3⟩ := h
  refine ⟨g, f, us, h1, fun hn => hS _ (h2 hn), fun j d hj => ?_⟩
  have hn : cs ≠ [] := by intro e; simp [e] at hj
  exact ⟨(cell_same (hw _ (h2 hn)) _).trans (h3 j d hj).1, (h3 j d hj).2.mono hw hS⟩
 | rptr k s i j => obtain ⟨b, n, c, h1, h2⟩ := h; exact ⟨b, n, c, (hι k (by simp [CV.men])).trans h1, h2⟩
 | row k => exact ⟨h.1.trans (hι k (by simp [CV.men])).symm, h.2⟩
 | mp k => exact ⟨h.1.trans (hι k (by simp [CV.men])).symm, h.2⟩
 | rsl k s i n => obtain ⟨b, n0, c0, c, h1, h2⟩ := h; exact ⟨b, n0, c0, c, (hι k (by simp [CV.men])).trans h1, h2⟩
theorem V1.mono (hw : ∀ b, S b → w'.heap[b]? = w.heap[b]?) (hS : ∀ b, S b → S' b) {x : T1} {u : Value} (hι : ∀ k, x.men k = true → ι' k = ι k) (h : V1 ι S w x u) : V1 ι' S' w' x u := by
 cases x with
 | c x => exact VC.mono hw hS hι h
 | g l =>
  obtain ⟨us, h1, h2⟩ := h
  exact ⟨us, h1, h2.mono_mem fun a b ha hab => VC.mono hw hS (fun k hk => hι k (List.any_eq_true.2 ⟨a, ha, hk⟩)) hab⟩
 | f h a l =>
  obtain ⟨us, h1, h2⟩ := h
  exact ⟨us, h1, h2.mono_mem fun a b ha hab => VC.mono hw hS (fun k hk => hι k (List.any_eq_true.2 ⟨a, ha, hk⟩)) hab⟩
theorem V.mono (hw : ∀ b, S b → w'.heap[b]? = w.heap[b]?) (hS : ∀ b, S b → S' b) {x : TV} {u : Value} (hι : ∀ k, x.men k = true → ι' k = ι k) (h : V ι S w x u) : V ι' S' w' x u := by
 cases x with
 | no => trivial
 | und => exact h
 | o x => exact V1.mono hw hS hι h
 | tup l =>
  obtain ⟨us, h1, h2⟩ := h
  exact ⟨us, h1, h2.mono_mem fun a b ha hab => V1.mono hw hS (fun k hk => hι k (List.any_eq_true.2 ⟨a, ha, hk⟩)) hab⟩
 | pan v => exact h
theorem VC.one {x : CV} {u : Value} (h : VC ι S w x u) : u.oneCell' = true := by
 cases x with
 | d x => exact Imm.one h
 | ptr k o => obtain ⟨b, _, rfl⟩ := h; rfl
 | eptr cs => obtain ⟨g, f, us, rfl, _⟩ := h; rfl
 | rptr k s i j => obtain ⟨b, n, c, _, rfl⟩ := h; rfl
 | row k => obtain ⟨_, o, n, c, rfl⟩ := h; rfl
 | mp k => obtain ⟨_, b, rfl⟩ := h; rfl
 | rsl k s i n => obtain ⟨b, n0, c0, c, _, rfl⟩ := h; rfl
theorem ownsRow_same {base : Nat} {e : TypeId} {size : Nat} {v : Value} {n : Nat} {xs : List Value} (h : w.ownsRow base e size v n xs) (hb : ∀ g, blkOf v = some g → w'.heap[g]? = w.heap[g]?) : w'.ownsRow base e size v n xs := by
 refine ⟨h.1, ?_⟩
 rcases h.2 with h2 | ⟨g, cap, cur, rfl, h1, h2, h3⟩
 ·exact .inl h2
 ·exact .inr ⟨g, cap, cur, rfl, h1, (hb g rfl).trans h2, h3⟩
theorem BlkOk.mono {k : Nat} {b : Blk} (hw : ∀ b, S b → w'.heap[b]? = w.heap[b]?) (hS : ∀ b, S b → S' b) (hk : b.live = true → ι' k = ι k) (hι : ∀ n, b.men n = true → ι' n = ι n)
  (hb : b.live = true → ∀ g, blkOf (ι k) = some g → w'.heap[g]? = w.heap[g]? ∧ ¬ S' g) (h : BlkOk ι S w k b) : BlkOk ι' S' w' k b := by
 cases b with
 | dead => trivial
 | obj cells =>
  obtain ⟨b, arr, ty, h1, h2, h3, h4⟩ := h
  have hb' := hb rfl b (by simp [h1, blkOf])
  exact ⟨b, arr, ty, (hk rfl).trans h1, hb'.1.trans h2, h3.mono_mem fun a u ha hab => VC.mono hw hS (fun n hn => hι n (List.any_eq_true.2 ⟨a, ha, hn⟩)) hab, hb'.2⟩
 | row size e rows =>
  obtain ⟨cs, h1, h2, h3, h4⟩ := h
  refine ⟨cs, ?_, h2.mono fun a u hab => hab.mono hw hS, h3, fun g hg => ?_⟩
  ·rw [hk rfl]
   exact ownsRow_same h1 fun g hg => (hb rfl g hg).1
  ·rw [hk rfl] at hg
   exact (hb rfl g hg).2
 | map es =>
  obtain ⟨b, arr, clock, h1, h2, h3, h4⟩ := h
  have hb' := hb rfl b (by simp [h1, blkOf])
  exact ⟨b, arr, clock, (hk rfl).trans h1, hb'.1.trans h2, h3, hb'.2⟩
theorem BlkOk.sep {k : Nat} {b : Blk} (h : BlkOk ι S w k b) (hl : b.live = true) {g : Nat} (hg : blkOf (ι k) = some g) : g < w.heap.size ∧ ¬ S g := by
 cases b with
 | dead => cases hl
 | obj cells =>
  obtain ⟨b2, arr, ty, h1, h2, _, h4⟩ := h
  rw [h1] at hg; cases hg
  exact ⟨(Array.getElem?_eq_some_iff.1 h2).1, h4⟩
 | row size e rows =>
  obtain ⟨cs, h1, _, _, h4⟩ := h
  refine ⟨?_, h4 g hg⟩
  rcases h1.2 with ⟨h5, _⟩ | ⟨g', cap, cur, h5, _, h6, _⟩
  ·rw [h5] at hg; cases hg
  ·rw [h5] at hg; cases hg
   exact (Array.getElem?_eq_some_iff.1 h6).1
 | map es =>
  obtain ⟨b2, arr, clock, h1, h2, _, h4⟩ := h
  rw [h1] at hg; cases hg
  exact ⟨(Array.getElem?_eq_some_iff.1 h2).1, h4⟩
end

structure Glob where
 G : (Nat → Prop) → World → Prop
 mono : ∀ {S S' : Nat → Prop} {w w' : World}, (∀ b, S b → w'.heap[b]? = w.heap[b]?) → (∀ b, S b → S' b) → G S w → G S' w'
 /-- Functions that write into a row that they are handed: the row keeps its name. -/
 kr : List Nat
 /-- What variables of the program hold: cells that lie still. -/
 gl : Nat → Option (List D)
 gok : ∀ {S : Nat → Prop} {w : World} {g : Nat} {cs : List D}, G S w → gl g = some cs → ∃ us : Nat → Value, (cs ≠ [] → S g) ∧ ∀ j d, cs[j]? = some d → w.cell? ⟨g, j, none⟩ = some (us j) ∧ Imm S w d (us j)
structure Env where
 W : World
 M : Nat → Prop
 S0 : Nat → Prop
 n : Nat
 Γ : Glob
 ι0 : Nat → Value
 nx0 : Nat
 dd : List Deferred
structure Inv (E : Env) (ι : Nat → Value) (S : Nat → Prop) (tm : Nat → Option TV) (mem : Nat → Option Blk) (a : Act) (w : World) : Prop where
 os : w.os = E.W.os
 tape : w.tape = E.W.tape
 output : w.output = E.W.output
 size : E.W.heap.size ≤ w.heap.size
 old : ∀ b, b < E.W.heap.size → ¬ E.M b → w.heap[b]? = E.W.heap[b]?
 slt : ∀ b, S b → b < w.heap.size
 s0 : ∀ b, E.S0 b → S b
 sg : ∀ b, S b → E.S0 b ∨ E.W.heap.size ≤ b ∨ E.M b
 tms : ∀ t tv, tm t = some tv → V ι S w tv (a.tmps.getD t undef)
 blk : ∀ k b, mem k = some b → BlkOk ι S w k b
 mutb : ∀ k b, mem k = some b → b.live = true → ∀ g, blkOf (ι k) = some g → E.M g ∨ E.W.heap.size ≤ g
 dst : ∀ k k' b b' g, mem k = some b → mem k' = some b' → b.live = true → b'.live = true → blkOf (ι k) = some g → blkOf (ι k') = some g → k = k'
 dn : a.defers = E.dd
 sz : a.tmps.size = E.n
 gl : E.Γ.G S w
 ik : ∀ k, k < E.nx0 → ι k = E.ι0 k
def RF (E : Env) (tm : Nat → Option TV) (mem : Nat → Option Blk) (a : Act) (w : World) : Prop := ∃ ι S, Inv E ι S tm mem a w

def panE (v : Value) : List PanicEntry := [{ v, recovered := false }]
structure Res where
 v : TV
 rd : List Nat
 upd : List (Nat × Blk)
 new : List Blk

structure After (ι : Nat → Value) (S : Nat → Prop) (w : World) (nx : Nat) (r : Res) (x : Value) (ι' : Nat → Value) (S' : Nat → Prop) (w' : World) : Prop where
 val : V ι' S' w' r.v x
 keep : ∀ k, k < nx ∨ nx + r.new.length ≤ k → ι' k = ι k
 smono : ∀ b, S b → S' b
 sgrow : ∀ b, S' b → S b ∨ w.heap.size ≤ b ∨ ∃ k, (k, Blk.dead) ∈ r.upd ∧ blkOf (ι k) = some b
 slt : ∀ b, S' b → b < w'.heap.size
 os : w'.os = w.os
 tape : w'.tape = w.tape
 output : w'.output = w.output
 size : w.heap.size ≤ w'.heap.size
 heap : ∀ b, b < w.heap.size → (∀ k, k ∈ r.upd.map (·.1) → blkOf (ι k) ≠ some b) → w'.heap[b]? = w.heap[b]?
 updok : ∀ k b, (k, b) ∈ r.upd → BlkOk ι' S' w' k b
 newok : ∀ i b, r.new[i]? = some b → BlkOk ι' S' w' (nx + i) b
 newblk : ∀ i b, r.new[i]? = some b → b.live = true → ∀ g, blkOf (ι' (nx + i)) = some g → ¬ S g ∧ (w.heap.size ≤ g ∨ ∃ k, (k, Blk.dead) ∈ r.upd ∧ blkOf (ι k) = some g)
 newdst : ∀ i j b b' g, r.new[i]? = some b → r.new[j]? = some b' → b.live = true → b'.live = true → blkOf (ι' (nx + i)) = some g → blkOf (ι' (nx + j)) = some g → i = j

def Spec (P : Program) (Γ : Glob) (o : Oper) (ev : Operand → Option TV) (mem : Nat → Option Blk) (nx : Nat) (r : Res) : Prop :=
 ∀ (Q : Exit → Act → World → Prop) (next : Act → World → Prop) (ι : Nat → Value) (S : Nat → Prop) (a : Act) (w : World), (∀ b, S b → b < w.heap.size) → Γ.G S w →
  (∀ k ∈ r.rd, ∀ k' ∈ r.rd, ∀ b b' g, mem k = some b → mem k' = some b' → b.live = true → b'.live = true → blkOf (ι k) = some g → blkOf (ι k') = some g → k = k') →
  (∀ x ∈ o.op.operands, ∀ tv, ev x = some tv → V ι S w tv (a.eval x)) → (∀ k ∈ r.rd, ∀ b, mem k = some b → BlkOk ι S w k b) →
  (∀ x ι' S' w', After ι S w nx r x ι' S' w' → next (a.put o.dst x) w') →
  (∀ v, r.v = .pan v → ∀ ι' S' w', After ι S w nx { r with v := .und } undef ι' S' w' → Q (.panic (panE v)) a w') → o.wp P a w next Q

def putF (tm : Nat → Option TV) (d : Option Nat) (v : TV) : Nat → Option TV := fun t => if d = some t then some v else tm t
def findL {α : Type} : List (Nat × α) → Nat → Option α
 | [], _ => none
 | (k, v) :: l, t => if k = t then some v else findL l t
def updF (mem : Nat → Option Blk) (r : Res) (nx : Nat) : Nat → Option Blk := fun k =>
 match findL r.upd k with
 | some b => some b
 | none => if nx ≤ k then (match r.new[k - nx]? with
  | some b => some b
  | none => mem k) else mem k
theorem findL_mem {α : Type} : ∀ {l : List (Nat × α)} {t : Nat} {v : α}, findL l t = some v → (t, v) ∈ l
 | (k, u) :: l, t, v, h => by
  simp only [findL] at h
  split at h
  ·rename_i e; cases h; subst e; simp
  ·exact List.mem_cons_of_mem _ (findL_mem h)
theorem findL_none {α : Type} : ∀ {l : List (Nat × α)} {t : Nat}, findL l t = none → t ∉ l.map (·.1)
 | [], t, _ => by simp
 | (k, u) :: l, t, h => by
  simp only [findL] at h
  split at h
  ·cases h
  ·rename_i e
   have := findL_none h
   simp only [List.map_cons, List.mem_cons, not_or]
   exact ⟨fun h' => e h'.symm, this⟩
theorem put_getD {a : Act} {d : Option Nat} {x : Value} {t : Nat} (h : d ≠ some t) : (a.put d x).tmps.getD t undef = a.tmps.getD t undef := by
 cases d with
 | none => rfl
 | some d =>
  have hne : d ≠ t := fun e => h (e ▸ rfl)
  simp [Act.put, Array.getElem?_setIfInBounds_ne hne]
theorem put_getD_self {a : Act} {d : Nat} {x : Value} (h : d < a.tmps.size) : (a.put (some d) x).tmps.getD d undef = x := by
 simp [Act.put, h]

theorem step_inv {E : Env} {r : Res} {nx : Nat} {ι : Nat → Value} {S : Nat → Prop} {tmX tm' : Nat → Option TV} {memX : Nat → Option Blk} {a a' : Act} {w w' : World} {x : Value} {ι' : Nat → Value} {S' : Nat → Prop} (I : Inv E ι S tmX memX a w) (A : After ι S w nx r x ι' S' w')
  (hupd : ∀ k b, (k, b) ∈ r.upd → ∃ b', memX k = some b' ∧ b'.live = true)
  (hnx : ∀ i, i < r.new.length → memX (nx + i) = none ∧ (∀ t tv, tmX t = some tv → tv.men (nx + i) = false) ∧ ∀ k b, memX k = some b → b.men (nx + i) = false)
  (hnx0 : r.new ≠ [] → E.nx0 ≤ nx)
  (huniq : ∀ k b b', (k, b) ∈ r.upd → (k, b') ∈ r.upd → b = b')
  (htm : (∀ b, S b → w'.heap[b]? = w.heap[b]?) → (∀ (tv : TV), (∀ i, i < r.new.length → tv.men (nx + i) = false) → ∀ k, tv.men k = true → ι' k = ι k) → ∀ t tv, tm' t = some tv → V ι' S' w' tv (a'.tmps.getD t undef))
  (hdn : a'.defers = E.dd) (hsz : a'.tmps.size = E.n) : Inv E ι' S' tm' (updF memX r nx) a' w' := by
 -- the blocks of what is owned and does not turn stay
 have hin : ∀ k, k < nx ∨ nx + r.new.length ≤ k ∨ ∃ i, i < r.new.length ∧ k = nx + i := fun k => by
  by_cases h1 : k < nx
  ·exact .inl h1
  ·by_cases h2 : nx + r.new.length ≤ k
   ·exact .inr (.inl h2)
   ·exact .inr (.inr ⟨k - nx, by omega, by omega⟩)
 have hkeep : ∀ k, memX k ≠ none → ι' k = ι k := fun k hk => by
  rcases hin k with h | h | ⟨i, hi, rfl⟩
  ·exact A.keep k (.inl h)
  ·exact A.keep k (.inr h)
  ·exact absurd (hnx i hi).1 hk
 have hmut : ∀ k b, (k, b) ∈ r.upd → ∀ g, blkOf (ι k) = some g → (E.M g ∨ E.W.heap.size ≤ g) ∧ ¬ S g := fun k b hk g hg => by
  obtain ⟨b', hb', hl⟩ := hupd k b hk
  refine ⟨I.mutb k b' hb' hl g hg, ?_⟩
  exact ((I.blk k b' hb').sep hl hg).2
 have hS : ∀ b, S b → w'.heap[b]? = w.heap[b]? := fun b hb => A.heap b (I.slt b hb) fun k hk e => by
  obtain ⟨p, hp, rfl⟩ := List.mem_map.1 hk
  exact (hmut p.1 p.2 hp b e).2 hb
 have hmen : ∀ (tv : TV), (∀ i, i < r.new.length → tv.men (nx + i) = false) → ∀ k, tv.men k = true → ι' k = ι k := fun tv hc k hk => by
  rcases hin k with h | h | ⟨i, hi, rfl⟩
  ·exact A.keep k (.inl h)
  ·exact A.keep k (.inr h)
  ·rw [hc i hi] at hk; cases hk
 have hblkne : ∀ k b, memX k = some b → b.live = true → findL r.upd k = none → ∀ g, blkOf (ι k) = some g → ∀ k', k' ∈ r.upd.map (·.1) → blkOf (ι k') ≠ some g := fun k b hb hl hf g hg k' hk' e => by
  obtain ⟨p, hp, rfl⟩ := List.mem_map.1 hk'
  obtain ⟨b', hb', hl'⟩ := hupd p.1 p.2 hp
  have := I.dst k p.1 b b' g hb hb' hl hl' hg e
  subst this
  exact findL_none hf hk'
 have hlt : ∀ k b, memX k = some b → b.live = true → ∀ g, blkOf (ι k) = some g → g < w.heap.size ∧ ¬ S g := fun k b hb hl g hg => (I.blk k b hb).sep hl hg
 have hS' : ∀ k b, memX k = some b → b.live = true → findL r.upd k = none → ∀ g, blkOf (ι k) = some g → ¬ S' g := fun k b hb hl hf g hg hs' => by
  rcases A.sgrow g hs' with h | h | ⟨k', hk', h⟩
  ·exact (hlt k b hb hl g hg).2 h
  ·have := (hlt k b hb hl g hg).1; omega
  ·exact hblkne k b hb hl hf g hg k' (List.mem_map.2 ⟨_, hk', rfl⟩) h
 have hupdF : ∀ k b, updF memX r nx k = some b → (k, b) ∈ r.upd ∨ (∃ i, r.new[i]? = some b ∧ k = nx + i) ∨ (memX k = some b ∧ findL r.upd k = none) := fun k b hb => by
  unfold updF at hb
  cases hf : findL r.upd k with
  | some b' => simp only [hf] at hb; cases hb; exact .inl (findL_mem hf)
  | none =>
   simp only [hf] at hb
   split at hb
   ·rename_i hle
    split at hb
    ·rename_i b' hn
     cases hb
     exact .inr (.inl ⟨k - nx, hn, by omega⟩)
    ·exact .inr (.inr ⟨hb, rfl⟩)
   ·exact .inr (.inr ⟨hb, rfl⟩)
 have hnewS : ∀ i b, r.new[i]? = some b → b.live = true → ∀ g, blkOf (ι' (nx + i)) = some g → (E.M g ∨ E.W.heap.size ≤ g) := fun i b hb hl g hg => by
  rcases (A.newblk i b hb hl g hg).2 with h | ⟨k, hk, h⟩
  ·right; have := I.size; omega
  ·exact (hmut k _ hk g h).1
 have hupdmem : ∀ k b, (k, b) ∈ r.upd → ι' k = ι k := fun k b hk => by
  obtain ⟨b', hb', _⟩ := hupd k b hk
  exact hkeep k (by simp [hb'])
 refine ⟨A.os.trans I.os, A.tape.trans I.tape, A.output.trans I.output, Nat.le_trans I.size A.size, fun b hb hM => ?_, A.slt, fun b hb => A.smono b (I.s0 b hb), fun b hb => ?_, fun t tv htv => ?_, fun k b hb => ?_, fun k b hb hl g hg => ?_,
  fun k k' b b' g hb hb' hl hl' hg hg' => ?_, ?_, ?_, E.Γ.mono hS A.smono I.gl, fun k hk => ?_⟩
 ·rw [← I.old b hb hM]
  refine A.heap b (Nat.lt_of_lt_of_le hb I.size) fun k hk e => ?_
  obtain ⟨p, hp, rfl⟩ := List.mem_map.1 hk
  rcases (hmut p.1 p.2 hp b e).1 with h | h
  ·exact hM h
  ·omega
 ·rcases A.sgrow b hb with h | h | ⟨k, hk, h⟩
  ·exact I.sg b h
  ·right; left; have := I.size; omega
  ·rcases (hmut k _ hk b h).1 with h | h
   ·exact .inr (.inr h)
   ·exact .inr (.inl h)
 ·exact htm hS hmen t tv htv
 ·rcases hupdF k b hb with h | ⟨i, h, rfl⟩ | ⟨h, hf⟩
  ·exact A.updok k b h
  ·exact A.newok i b h
  ·refine BlkOk.mono hS A.smono (fun _ => hkeep k (by simp [h])) (fun n hn => ?_) (fun hl g hg => ⟨A.heap g (hlt k b h hl g hg).1 (hblkne k b h hl hf g hg), hS' k b h hl hf g hg⟩) (I.blk k b h)
   rcases hin n with h1 | h1 | ⟨i, hi, rfl⟩
   ·exact A.keep n (.inl h1)
   ·exact A.keep n (.inr h1)
   ·rw [(hnx i hi).2.2 k b h] at hn; cases hn
 ·rcases hupdF k b hb with h | ⟨i, h, rfl⟩ | ⟨h, hf⟩
  ·rw [hupdmem k b h] at hg
   exact (hmut k b h g hg).1
  ·exact hnewS i b h hl g hg
  ·rw [hkeep k (by simp [h])] at hg
   exact I.mutb k b h hl g hg
 ·-- two live names with one block are one
  have key : ∀ k b, updF memX r nx k = some b → b.live = true → blkOf (ι' k) = some g → (∃ i, k = nx + i ∧ r.new[i]? = some b ∧ (w.heap.size ≤ g ∨ ∃ k, (k, Blk.dead) ∈ r.upd ∧ blkOf (ι k) = some g)) ∨ (∃ b', memX k = some b' ∧ b'.live = true ∧ blkOf (ι k) = some g ∧ ((k, b) ∈ r.upd ∨ findL r.upd k = none)) := fun k b hb hl hg => by
   rcases hupdF k b hb with h | ⟨i, h, rfl⟩ | ⟨h, hf⟩
   ·rw [hupdmem k b h] at hg
    obtain ⟨b', hb', hl'⟩ := hupd k b h
    exact .inr ⟨b', hb', hl', hg, .inl h⟩
   ·exact .inl ⟨i, rfl, h, (A.newblk i b h hl g hg).2⟩
   ·rw [hkeep k (by simp [h])] at hg
    exact .inr ⟨b, h, hl, hg, .inr hf⟩
  have clash : ∀ k b, (∃ b', memX k = some b' ∧ b'.live = true ∧ blkOf (ι k) = some g ∧ ((k, b) ∈ r.upd ∨ findL r.upd k = none)) → b.live = true → (w.heap.size ≤ g ∨ ∃ k, (k, Blk.dead) ∈ r.upd ∧ blkOf (ι k) = some g) → False := fun k b ⟨b', hb', hl', hg', hc⟩ hl hn => by
   rcases hn with hn | ⟨k2, hk2, hg2⟩
   ·have := (hlt k b' hb' hl' g hg').1; omega
   ·obtain ⟨b2, hb2, hl2⟩ := hupd k2 _ hk2
    have := I.dst k k2 b' b2 g hb' hb2 hl' hl2 hg' hg2
    subst this
    rcases hc with hc | hc
    ·have := huniq k b .dead hc hk2
     subst this
     cases hl
    ·exact findL_none hc (List.mem_map.2 ⟨_, hk2, rfl⟩)
  rcases key k b hb hl hg with ⟨i, h1, h2, h3⟩ | h
  ·rcases key k' b' hb' hl' hg' with ⟨i', h1', h2', _⟩ | h'
   ·subst h1; subst h1'
    rw [A.newdst i i' b b' g h2 h2' hl hl' hg hg']
   ·exact (clash k' b' h' hl' h3).elim
  ·rcases key k' b' hb' hl' hg' with ⟨i', h1', h2', h3'⟩ | h'
   ·exact (clash k b h hl h3').elim
   ·obtain ⟨c, hc, hcl, hcg, _⟩ := h
    obtain ⟨c', hc', hcl', hcg', _⟩ := h'
    exact I.dst k k' c c' g hc hc' hcl hcl' hcg hcg'
 ·exact hdn
 ·exact hsz
 ·rw [← I.ik k hk]
  by_cases hn : r.new = []
  ·exact A.keep k (by rw [hn]; simp; omega)
  ·exact A.keep k (.inl (by have := hnx0 hn; omega))
theorem step_ok {P : Program} {E : Env} {o : Oper} {ev : Operand → Option TV} {mem : Nat → Option Blk} {nx : Nat} {r : Res} (hs : Spec P E.Γ o ev mem nx r)
  {tmX : Nat → Option TV} {memX : Nat → Option Blk} {a : Act} {w : World} (hR : RF E tmX memX a w) {next : Act → World → Prop} {Q : Exit → Act → World → Prop}
  (hops : ∀ x ∈ o.op.operands, ∀ tv, ev x = some tv → ∀ ι S, Inv E ι S tmX memX a w → V ι S w tv (a.eval x))
  (hrd : ∀ k ∈ r.rd, ∀ b, mem k = some b → memX k = some b)
  (hupd : ∀ k b, (k, b) ∈ r.upd → ∃ b', memX k = some b' ∧ b'.live = true)
  (hnx : ∀ i, i < r.new.length → memX (nx + i) = none ∧ (∀ t tv, tmX t = some tv → tv.men (nx + i) = false) ∧ ∀ k b, memX k = some b → b.men (nx + i) = false)
  (hnx0 : r.new ≠ [] → E.nx0 ≤ nx)
  (huniq : ∀ k b b', (k, b) ∈ r.upd → (k, b') ∈ r.upd → b = b')
  (hd : ∀ d, o.dst = some d → d < E.n)
  (hnext : (∀ v, r.v ≠ .pan v) → ∀ a' w', RF E (putF tmX o.dst r.v) (updF memX r nx) a' w' → next a' w')
  (hpan : ∀ v, r.v = .pan v → ∀ w', RF E tmX (updF memX r nx) a w' → Q (.panic (panE v)) a w') : o.wp P a w next Q := by
 obtain ⟨ι, S, I⟩ := hR
 refine hs Q next ι S a w I.slt I.gl (fun k hk k' hk' b b' g hb hb' => I.dst k k' b b' g (hrd k hk b hb) (hrd k' hk' b' hb')) (fun x hx tv htv => hops x hx tv htv ι S I) (fun k hk b hb => I.blk k b (hrd k hk b hb)) (fun x ι' S' w' A => hnext (fun v hv => by have := A.val; rw [hv] at this; exact this) _ _ ⟨ι', S', step_inv I A hupd hnx hnx0 huniq ?_ ?_ ?_⟩) (fun v hv ι' S' w' A => hpan v hv w' ⟨ι', S', step_inv (r := { r with v := .und }) I A hupd hnx hnx0 huniq ?_ ?_ ?_⟩)
 ·intro hS hmen t tv htv
  unfold putF at htv
  split at htv
  ·rename_i e
   cases htv
   have hdl := hd t e
   rw [e, put_getD_self (by rw [I.sz]; exact hdl)]
   exact A.val
  ·rename_i e
   rw [put_getD e]
   exact V.mono hS A.smono (hmen tv fun i hi => (hnx i hi).2.1 t tv htv) (I.tms t tv htv)
 ·have := I.dn
  cases o.dst <;> simpa [Act.put] using this
 ·have := I.sz
  cases o.dst <;> simpa [Act.put] using this
 ·intro hS hmen t tv htv
  exact V.mono hS A.smono (hmen tv fun i hi => (hnx i hi).2.1 t tv htv) (I.tms t tv htv)
 ·exact I.dn
 ·exact I.sz
end Go.Proofs.YtidnlfkakhmadaaGreatDoor

namespace Go.Proofs.YtidnlfkakhmadaaGreatDoor
open Go.RowKit

inductive LK where
 | st (fs : List (Nat × Nat × Bool))
 | arr (n : Nat) (e : TypeId)
 | sl (e : TypeId)
 | map (k e : TypeId)
 | str
 | bool
 | int (k : IntKind)
 | other
structure Lay where
 size : Nat
 bytes : Nat
 zero : List Value
 kind : LK
def LK.agg : LK → Bool | .st _ | .arr _ _ => true | _ => false
def aggD : TypeDesc → Bool | .struct _ | .array _ _ => true | _ => false
def fieldLay (P : Program) (f : Field) : Option (Nat × Nat × Bool) :=
 match P.info? f.type, P.underlying f.type with
 | some i, some d => some (f.offset, i.size, aggD d)
 | _, _ => none
def kindOf (P : Program) : TypeDesc → Option LK
 | .struct fields => (fields.toList.mapM (fieldLay P)).map .st
 | .array n e => some (.arr n e)
 | .slice e => some (.sl e)
 | .map k e => some (.map k e)
 | .string => some .str
 | .bool => some .bool
 | .int k => some (.int k)
 | _ => some .other
def _root_.Go.Value.isAggV : Value → Bool | .agg _ => true | _ => false
def layOf (P : Program) (t : TypeId) : Option Lay :=
 match P.info? t, P.underlying t with
 | some i, some d => match i.zero, kindOf P d with
  | some z, some k => match k.agg == z.isAggV with
   | true => some ⟨i.size, i.bytes, z.cells.toList, k⟩
   | false => none
  | _, _ => none
 | _, _ => none
def LOk (P : Program) (L : Nat → Option Lay) : Prop := ∀ t l, L t = some l → layOf P t = some l

structure LayOk (P : Program) (t : TypeId) (l : Lay) : Prop where
 ex : ∃ i d z, P.info? t = some i ∧ P.underlying t = some d ∧ i.size = l.size ∧ i.bytes = l.bytes ∧ i.zero = some z ∧ z.cells.toList = l.zero ∧ kindOf P d = some l.kind
 zag : ∀ i z, P.info? t = some i → i.zero = some z → z.isAggV = l.kind.agg
theorem layOf_ok {P : Program} {t : TypeId} {l : Lay} (h : layOf P t = some l) : LayOk P t l := by
 unfold layOf at h
 split at h
 ·rename_i i d hi hd
  split at h
  ·rename_i z k hz hk
   split at h
   ·rename_i hag
    cases h
    refine ⟨⟨i, d, z, hi, hd, rfl, rfl, hz, rfl, hk⟩, fun i' z' hi' hz' => ?_⟩
    rw [hi] at hi'; cases hi'
    rw [hz] at hz'; cases hz'
    exact (by simpa using hag : k.agg = z.isAggV).symm
   ·cases h
  ·cases h
 ·cases h
theorem mapM_isSome {α β : Type} {f : α → Option β} {l : List α} {m : List β} (h : l.mapM f = some m) : l.length = m.length ∧ ∀ (i : Nat) a, l[i]? = some a → ∃ b, f a = some b ∧ m[i]? = some b := by
 induction l generalizing m with
 | nil => simp at h; subst h; exact ⟨rfl, fun i a h => by simp at h⟩
 | cons a l ih =>
  simp only [List.mapM_cons, Option.bind_eq_bind, Option.pure_def] at h
  cases hf : f a with
  | none => simp [hf] at h
  | some b =>
   cases hr : l.mapM f with
   | none => simp [hf, hr] at h
   | some r =>
    simp [hf, hr] at h
    subst h
    obtain ⟨h1, h2⟩ := ih hr
    refine ⟨by simp [h1], fun i x hx => ?_⟩
    cases i with
    | zero => simp at hx; subst hx; exact ⟨b, hf, rfl⟩
    | succ i => simpa using h2 i x (by simpa using hx)
section
variable {P : Program} {t : TypeId} {l : Lay} (h : LayOk P t l)
include h
theorem LayOk.agg (w : World) : (isAgg t).run P w = .ok l.kind.agg w := by
 obtain ⟨i, d, z, h1, h2, _, _, _, _, h6⟩ := h.ex
 unfold isAgg
 rw [Sem.run_bind, run_underlying h2 w]
 cases d with
 | struct fs =>
  simp only [kindOf] at h6
  cases hm : fs.toList.mapM (fieldLay P) with
  | none => simp [hm] at h6
  | some m => simp [hm] at h6; rw [← h6]; rfl
 | _ => simp only [kindOf, Option.some.injEq] at h6; rw [← h6]; rfl
theorem LayOk.sizeOf (w : World) : (sizeOf t).run P w = .ok l.size w := by
 obtain ⟨i, d, z, h1, h2, h3, _⟩ := h.ex
 simp [Go.sizeOf, typeInfo, h1, h3]
theorem LayOk.under {k : LK} (hk : l.kind = k) : (∀ e, k = .sl e → P.underlying t = some (.slice e)) ∧ (k = .str → P.underlying t = some .string) ∧ (k = .bool → P.underlying t = some .bool) ∧ (∀ i, k = .int i → P.underlying t = some (.int i)) ∧ (∀ n e, k = .arr n e → P.underlying t = some (.array n e)) ∧
  (∀ fs, k = .st fs → ∃ fields : Array Field, P.underlying t = some (.struct fields) ∧ fields.toList.mapM (fieldLay P) = some fs) := by
 obtain ⟨i, d, z, h1, h2, h3, h4, h5, h6, h7⟩ := h.ex
 rw [hk] at h7
 cases d with
 | struct fs =>
  simp only [kindOf] at h7
  cases hm : fs.toList.mapM (fieldLay P) with
  | none => simp [hm] at h7
  | some m =>
   simp [hm] at h7
   refine ⟨?_, ?_, ?_, ?_, ?_, ?_⟩
   all_goals first | (intro fs' e; rw [← h7] at e; cases e; exact ⟨_, h2, hm⟩) | (intros; rename_i e; rw [← h7] at e; cases e)
 | _ =>
  simp only [kindOf, Option.some.injEq] at h7
  subst h7
  refine ⟨?_, ?_, ?_, ?_, ?_, ?_⟩ <;> intros <;> rename_i e <;> first | (cases e; exact h2) | cases e
end

def Ops (o : Oper) (ev : Operand → Option TV) (ι : Nat → Value) (S : Nat → Prop) (a : Act) (w : World) : Prop := ∀ x ∈ o.op.operands, ∀ tv, ev x = some tv → V ι S w tv (a.eval x)
def Rds (rd : List Nat) (mem : Nat → Option Blk) (ι : Nat → Value) (S : Nat → Prop) (w : World) : Prop := ∀ k ∈ rd, ∀ b, mem k = some b → BlkOk ι S w k b
section
variable {P : Program} {Γ : Glob} {o : Oper} {ev : Operand → Option TV} {mem : Nat → Option Blk} {nx : Nat}
theorem After.same {ι : Nat → Value} {S : Nat → Prop} {w : World} {v : TV} {rd : List Nat} {x : Value} (hs : ∀ b, S b → b < w.heap.size) (hv : V ι S w v x) : After ι S w nx ⟨v, rd, [], []⟩ x ι S w :=
 ⟨hv, fun _ _ => rfl, fun _ h => h, fun _ h => .inl h, hs, rfl, rfl, rfl, Nat.le_refl _, fun _ _ _ => rfl, (fun _ _ h => by simp at h), (fun _ _ h => by simp at h), (fun _ _ h => by simp at h), (fun _ _ _ _ _ h => by simp at h)⟩
theorem spec_gen {r : Res} (h : ∀ ι S a w, (∀ b, S b → b < w.heap.size) → Ops o ev ι S a w → Rds r.rd mem ι S w → ∃ x w' ι' S', ((execOp a.eval o).run P w = .ok (.value x) w' ∨ ((execOp a.eval o).run P w = .ok .skip w' ∧ x = undef)) ∧ After ι S w nx r x ι' S' w') : Spec P Γ o ev mem nx r := by
 intro Q next ι S a w h1 _ _ h2 h3 hK _
 obtain ⟨x, w', ι', S', hr, hA⟩ := h ι S a w h1 h2 h3
 unfold Oper.wp
 rcases hr with hr | ⟨hr, rfl⟩
 ·rw [hr, Oper.upon_value]
  exact hK _ _ _ _ hA
 ·rw [hr, Oper.upon_skip]
  exact hK _ _ _ _ hA
theorem spec_val {v : TV} {rd : List Nat} (h : ∀ ι S a w, Ops o ev ι S a w → Rds rd mem ι S w → ∃ x, (execOp a.eval o).run P w = .ok (.value x) w ∧ V ι S w v x) : Spec P Γ o ev mem nx ⟨v, rd, [], []⟩ :=
 spec_gen fun ι S a w h1 h2 h3 => by
  obtain ⟨x, hr, hv⟩ := h ι S a w h2 h3
  exact ⟨x, w, ι, S, .inl hr, After.same h1 hv⟩
end

abbrev Tint (k : IntKind) (n : Int) : TV := .o (.c (.d (.v (.int k n))))
abbrev Tbool (b : Bool) : TV := .o (.c (.d (.v (.bool b))))
abbrev Tstr (s : ByteArray) : TV := .o (.c (.d (.v (.string s))))
abbrev Tnil : TV := .o (.c (.d (.v (.slice none 0 0))))
abbrev Tsl (size : Nat) (rows : List (List D)) : TV := .o (.c (.d (.sl size rows)))
def TV.cells : TV → Option (List CV)
 | .o (.c x) => some [x]
 | .o (.g l) => some l
 | _ => none
def ofCells (agg : Bool) (l : List CV) : Option TV := if agg then some (.o (.g l)) else match l with
 | [x] => some (.o (.c x))
 | _ => none
section
variable {ι : Nat → Value} {S : Nat → Prop} {w : World}
theorem oneCell_cells {u : Value} (h : u.oneCell' = true) : u.cells.toList = [u] := by
 cases u <;> first | rfl | (simp [Value.oneCell'] at h)
theorem V_cells {tv : TV} {u : Value} {l : List CV} (h : V ι S w tv u) (hl : tv.cells = some l) : All2 (VC ι S w) l u.cells.toList := by
 cases tv with
 | no => cases hl
 | und => cases hl
 | tup l => cases hl
 | pan v => cases hl
 | o x =>
  cases x with
  | c x =>
   cases hl
   have h' : VC ι S w x u := h
   rw [oneCell_cells h'.one]
   exact .cons h' .nil
  | g l =>
   cases hl
   obtain ⟨us, rfl, h2⟩ := h
   exact h2
  | f h a l => cases hl
theorem V_ofCells {agg : Bool} {l : List CV} {tv : TV} {us : List Value} (h : ofCells agg l = some tv) (ha : All2 (VC ι S w) l us) :
  (agg = true ∧ V ι S w tv (.agg us.toArray)) ∨ (agg = false ∧ ∃ u, us = [u] ∧ V ι S w tv u) := by
 unfold ofCells at h
 split at h
 ·rename_i hagg
  cases h
  exact .inl ⟨hagg, us, rfl, ha⟩
 ·rename_i hagg
  split at h
  ·cases h
   obtain ⟨u, rfl, hu⟩ := ha.one_left
   exact .inr ⟨by simpa using hagg, u, rfl, hu⟩
  ·cases h
theorem V_v {x u : Value} (h : V ι S w (.o (.c (.d (.v x)))) u) : u = x := by
 have h' : Imm S w _ u := h
 cases h'; rfl
theorem V_mk {x : Value} (h : x.oneCell' = true) : V ι S w (.o (.c (.d (.v x)))) x := Imm.v h
end

theorem run_load_range {P : Program} {t : TypeId} {l : Lay} (hl : LayOk P t l) {w : World} {g f : Nat} {us : List Value} (hus : us.length = l.size) (hc : ∀ j u, us[j]? = some u → w.cell? ⟨g, f + j, none⟩ = some u) :
  (l.kind.agg = true → (loadVar t ⟨g, f, none⟩).run P w = .ok (.agg us.toArray) w) ∧ (l.kind.agg = false → ∀ u, us = [u] → (loadVar t ⟨g, f, none⟩).run P w = .ok u w) := by
 constructor
 ·intro ha
  have := run_loadCells_list (P := P) w ⟨g, f, none⟩ us (fun j v hj => by rw [Addr.add_lit]; exact hc j v hj)
  rw [hus] at this
  simp [loadVar, hl.agg, hl.sizeOf, ha, this]
 ·intro ha u hu
  subst hu
  have := hc 0 u rfl
  rw [Nat.add_zero] at this
  simp [loadVar, hl.agg, ha, run_load, this]
def setAt {α : Type} (l : List α) (off : Nat) (new : List α) : List α := l.take off ++ new ++ l.drop (off + new.length)
theorem All2.setAt {α β : Type} {R : α → β → Prop} {l m l' m'} (h : All2 R l m) (h' : All2 R l' m') (off : Nat) : All2 R (setAt l off l') (setAt m off m') := by
 unfold Go.Proofs.YtidnlfkakhmadaaGreatDoor.setAt
 rw [h'.len]
 exact ((h.take off).append h').append (h.drop _)

section
variable {P : Program} {Γ : Glob} {L : Nat → Option Lay} {o : Oper} {ev : Operand → Option TV} {mem : Nat → Option Blk} {nx : Nat} {K : Res → Prop}

def exLoad (L : Nat → Option Lay) (ev : Operand → Option TV) (mem : Nat → Option Blk) (t : TypeId) (p : Operand) (K : Res → Prop) : Prop :=
 match L t with
 | none => False
 | some l => match ev p with
  | some (.o (.c (.ptr k off))) => match mem k with
   | some (.obj cells _) => match Nat.ble (off + l.size) cells.length, ofCells l.kind.agg ((cells.drop off).take l.size) with
    | true, some v => K ⟨v, [k], [], []⟩
    | _, _ => False
   | _ => False
  | some (.o (.c (.eptr cs))) => match Nat.ble l.size cs.length, ofCells l.kind.agg ((cs.take l.size).map .d) with
   | true, some v => K ⟨v, [], [], []⟩
   | _, _ => False
  | some (.o (.c (.rptr k size i j))) => match mem k with
   | some (.row size' _ rows) => size' = size ∧ ∃ r, rows[i]? = some r ∧ (match Nat.ble (j + l.size) size, ofCells l.kind.agg (((r.drop j).take l.size).map .d) with
    | true, some v => K ⟨v, [k], [], []⟩
    | _, _ => False)
   | _ => False
  | _ => False

theorem drop_take_get {α : Type} {l : List α} {off n j : Nat} {a : α} (h : ((l.drop off).take n)[j]? = some a) : l[off + j]? = some a ∧ j < n := by
 rw [List.getElem?_take] at h
 split at h
 ·rename_i hlt; rw [List.getElem?_drop] at h; exact ⟨h, hlt⟩
 ·cases h
theorem exLoad_ok (hL : LOk P L) {t : TypeId} {p : Operand} (ho : o.op = .load t p) (h : exLoad L ev mem t p K) : ∃ r, Spec P Γ o ev mem nx r ∧ K r := by
 unfold exLoad at h
 split at h
 ·exact h.elim
 rename_i l hl
 have hlay := layOf_ok (hL _ _ hl)
 have fin : ∀ {v : TV} {rd : List Nat} {cs : List CV}, ofCells l.kind.agg cs = some v → (∀ ι S a w, Ops o ev ι S a w → Rds rd mem ι S w → ∃ g f us, a.eval p = .pointer (some ⟨g, f, none⟩) ∧ us.length = l.size ∧ (∀ j u, us[j]? = some u → w.cell? ⟨g, f + j, none⟩ = some u) ∧ All2 (VC ι S w) cs us) →
   Spec P Γ o ev mem nx ⟨v, rd, [], []⟩ := fun hv hh => spec_val fun ι S a w h1 h2 => by
  obtain ⟨g, f, us, he, hlen, hc, hall⟩ := hh ι S a w h1 h2
  have hr := run_load_range (P := P) hlay (w := w) hlen hc
  rcases V_ofCells hv hall with ⟨ha, hV⟩ | ⟨ha, u, rfl, hV⟩
  ·exact ⟨_, by simp [execOp, ho, he, Instr.loadAt, Instr.sureAddr, hr.1 ha], hV⟩
  ·exact ⟨_, by simp [execOp, ho, he, Instr.loadAt, Instr.sureAddr, hr.2 ha u rfl], hV⟩
 have hmem : p ∈ o.op.operands := by simp [ho, Op.operands]
 split at h
 ·rename_i k off hp
  split at h
  ·rename_i cells tg hk
   split at h
   ·rename_i v hle hv
    refine ⟨_, fin hv (fun ι S a w h1 h2 => ?_), h⟩
    obtain ⟨b, hb, hb2⟩ := h1 p hmem _ hp
    obtain ⟨b', arr, ty, h3, h4, h5, _⟩ := h2 k (by simp) _ hk
    obtain rfl : b = b' := by rw [hb] at h3; cases h3; rfl
    have hlen := h5.len
    have hle' := Nat.le_of_ble_eq_true hle
    refine ⟨b, off, (arr.toList.drop off).take l.size, hb2, by simp at hlen ⊢; omega, fun j u hj => ?_, (h5.drop off).take _⟩
    obtain ⟨hj1, hj2⟩ := drop_take_get hj
    rw [cell_of_row w b (off + j) arr ty.1 (0, 0) h4]
    simpa using hj1
   ·exact h.elim
  ·exact h.elim
 ·rename_i cs hp
  split at h
  ·rename_i v hle hv
   refine ⟨_, fin hv (fun ι S a w h1 h2 => ?_), h⟩
   obtain ⟨g, f, us, hb, hs, hc⟩ := h1 p hmem _ hp
   have hle' := Nat.le_of_ble_eq_true hle
   refine ⟨g, f, (List.range l.size).map us, hb, by simp, fun j u hj => ?_, ?_⟩
   ·obtain ⟨hj1, hj2⟩ := List.getElem?_eq_some_iff.1 hj
    simp at hj1 hj2
    subst hj2
    exact (hc j cs[j] (by simp)).1
   ·refine All2.map_left ⟨by simp; omega, fun j d u hd hu => ?_⟩
    rw [List.getElem?_take] at hd
    split at hd
    ·obtain ⟨hu1, hu2⟩ := List.getElem?_eq_some_iff.1 hu
     simp at hu1 hu2
     subst hu2
     exact (hc j d hd).2
    ·cases hd
  ·exact h.elim
 ·rename_i k size i j hp
  split at h
  ·rename_i size' e rows hk
   obtain ⟨rfl, r, hr, h⟩ := h
   split at h
   ·rename_i v hle hv
    refine ⟨_, fin hv (fun ι S a w h1 h2 => ?_), h⟩
    obtain ⟨b, n, cap, hb, hb2⟩ := h1 p hmem _ hp
    obtain ⟨cs, h3, h4, h5, h6⟩ := h2 k (by simp) _ hk
    have hle' := Nat.le_of_ble_eq_true hle
    have hrl := h5 r (List.mem_of_getElem? hr)
    have hcell := h3.cells (g := b) (by rw [hb]; rfl)
    have hget : ∀ m d, r[m]? = some d → ∃ u, cs[i * size' + m]? = some u ∧ Imm S w d u := fun m d hm => h4.at_left (flatten_get h5 hr hm)
    refine ⟨b, i * size' + j, (cs.drop (i * size' + j)).take l.size, hb2, ?_, fun m u hm => ?_, ?_⟩
    ·have : i * size' + size' ≤ cs.length := by
      rw [← h4.len, flatten_len h5, ← Nat.succ_mul]
      exact Nat.mul_le_mul_right _ (List.getElem?_eq_some_iff.1 hr).1
     simp
     omega
    ·obtain ⟨hm1, hm2⟩ := drop_take_get hm
     have := hcell _ _ hm1
     rw [Addr.add_lit, Nat.zero_add] at this
     exact this
    ·refine All2.map_left ⟨?_, fun m d u hd hu => ?_⟩
     ·have : i * size' + size' ≤ cs.length := by
       rw [← h4.len, flatten_len h5, ← Nat.succ_mul]
       exact Nat.mul_le_mul_right _ (List.getElem?_eq_some_iff.1 hr).1
      simp [hrl]
      omega
     ·obtain ⟨hd1, _⟩ := drop_take_get hd
      obtain ⟨hu1, _⟩ := drop_take_get hu
      obtain ⟨u', hu', hI⟩ := hget _ _ hd1
      rw [← Nat.add_assoc, hu1] at hu'
      cases hu'
      exact hI
   ·exact h.elim
  ·exact h.elim
 ·exact h.elim
end
end Go.Proofs.YtidnlfkakhmadaaGreatDoor

namespace Go.Proofs.YtidnlfkakhmadaaGreatDoor
open Go.RowKit

section
variable {P : Program} {Γ : Glob} {L : Nat → Option Lay} {o : Oper} {ev : Operand → Option TV} {mem : Nat → Option Blk} {nx : Nat} {K : Res → Prop}

abbrev pureR (v : TV) : Res := ⟨v, [], [], []⟩

def exInt (op : BinOp) (k : IntKind) (a b : Int) (K : Value → Prop) : Prop :=
 match op with
 | .add => ∃ z, k.wrap (a + b) = z ∧ K (.int k z)
 | .sub => ∃ z, k.wrap (a - b) = z ∧ K (.int k z)
 | .mul => ∃ z, k.wrap (a * b) = z ∧ K (.int k z)
 | .quo => b ≠ 0 ∧ ∃ z, k.wrap (a.tdiv b) = z ∧ K (.int k z)
 | .rem => b ≠ 0 ∧ ∃ z, a.tmod b = z ∧ K (.int k z)
 | .and => ∃ z, k.wrap (BitVec.ofInt k.bits a &&& BitVec.ofInt k.bits b).toNat = z ∧ K (.int k z)
 | .or => ∃ z, k.wrap (BitVec.ofInt k.bits a ||| BitVec.ofInt k.bits b).toNat = z ∧ K (.int k z)
 | .xor => ∃ z, k.wrap (BitVec.ofInt k.bits a ^^^ BitVec.ofInt k.bits b).toNat = z ∧ K (.int k z)
 | .andNot => ∃ z, k.wrap (BitVec.ofInt k.bits a &&& ~~~BitVec.ofInt k.bits b).toNat = z ∧ K (.int k z)
 | .eql => ∃ c, decide (a = b) = c ∧ K (.bool c)
 | .neq => ∃ c, decide (a ≠ b) = c ∧ K (.bool c)
 | .lss => ∃ c, decide (a < b) = c ∧ K (.bool c)
 | .leq => ∃ c, decide (a ≤ b) = c ∧ K (.bool c)
 | .gtr => ∃ c, decide (b < a) = c ∧ K (.bool c)
 | .geq => ∃ c, decide (b ≤ a) = c ∧ K (.bool c)
 | _ => False
def exStr (op : BinOp) (a b : ByteArray) (K : Value → Prop) : Prop :=
 match op with
 | .add => a.size + b.size ≤ 9223372036854775807 ∧ K (.string (a ++ b))
 | .eql => ∃ c, decide (a = b) = c ∧ K (.bool c)
 | .neq => ∃ c, decide (a ≠ b) = c ∧ K (.bool c)
 | .lss => ∃ c, Op.bytesLess a.data.toList b.data.toList = c ∧ K (.bool c)
 | _ => False
def exBin (L : Nat → Option Lay) (op : BinOp) (t : TypeId) (x y : Value) (K : Value → Prop) : Prop :=
 match x, y with
 | .int k a, .int k' b => match op with
  | .shl => 0 ≤ b ∧ ∃ z, k.wrap (a * 2 ^ (min b.toNat k.bits)) = z ∧ K (.int k z)
  | .shr => 0 ≤ b ∧ ∃ z, a.fdiv (2 ^ (min b.toNat k.bits)) = z ∧ K (.int k z)
  | op => match decide (k = k') with
   | true => exInt op k a b K
   | false => False
 | .string a, .string b => exStr op a b K
 | .bool a, .bool b => match L t with
  | some ⟨_, _, _, .bool⟩ => match op with
   | .eql => ∃ c, decide (a = b) = c ∧ K (.bool c)
   | .neq => ∃ c, decide (a ≠ b) = c ∧ K (.bool c)
   | _ => False
  | _ => False
 | _, _ => False
theorem bytes_eq (a b : ByteArray) : (a.toList == b.toList) = decide (a = b) := by
 rw [ByteArray.toList_eq, ByteArray.toList_eq, Bool.eq_iff_iff]
 simp only [beq_iff_eq, decide_eq_true_eq]
 constructor
 ·intro h
  cases a; cases b
  congr 1
  exact Array.toList_inj.1 h
 ·intro h; rw [h]
theorem exInt_ok {op : BinOp} {k : IntKind} {a b : Int} {K : Value → Prop} (h : exInt op k a b K) (hop : op ≠ .shl ∧ op ≠ .shr) {t : TypeId} : ∃ v, v.oneCell' = true ∧ (∀ w, (binOp op t (.int k a) (.int k b)).run P w = .ok v w) ∧ K v := by
 cases op <;> simp only [exInt, ne_eq] at h
 case quo => obtain ⟨h0, z, rfl, h⟩ := h; exact ⟨_, rfl, fun w => by simp [binOp, Op.intDiv, h0], h⟩
 case rem => obtain ⟨h0, z, rfl, h⟩ := h; exact ⟨_, rfl, fun w => by simp [binOp, Op.intDiv, h0], h⟩
 case neq => obtain ⟨z, rfl, h⟩ := h; exact ⟨_, rfl, fun w => by simp [binOp, Op.intCmp, bne, Bool.beq_eq_decide_eq], h⟩
 all_goals obtain ⟨z, rfl, h⟩ := h
 all_goals refine ⟨_, rfl, fun w => ?_, h⟩
 all_goals first | (simp [binOp, Op.intArith, Op.intBits, Op.intCmp]; done) | (simp only [binOp, Op.intCmp, ne_eq, not_true_eq_false, if_false]; exact congrArg (fun b => Result.ok (Value.bool b) w) (by rw [Bool.eq_iff_iff]; simp))

theorem exStr_ok {op : BinOp} {a b : ByteArray} {K : Value → Prop} (h : exStr op a b K) {t : TypeId} : ∃ v, v.oneCell' = true ∧ (∀ w, (binOp op t (.string a) (.string b)).run P w = .ok v w) ∧ K v := by
 have hmax : IntKind.i64.max = 9223372036854775807 := rfl
 cases op <;> simp only [exStr, ne_eq] at h
 case add =>
  obtain ⟨h0, h⟩ := h
  refine ⟨_, rfl, fun w => ?_, h⟩
  have : ¬ (((a.size + b.size : Nat) : Int) > IntKind.i64.max) := by rw [hmax]; omega
  simp only [binOp, Op.stringOp, this, if_false, Sem.run_pure]
 all_goals obtain ⟨z, rfl, h⟩ := h
 all_goals refine ⟨_, rfl, fun w => ?_, h⟩
 all_goals (simp only [binOp, Op.stringOp, bytes_eq]; first | rfl | (simp [ByteArray.toList_eq]; done))
theorem exBin_ok (hL : LOk P L) {op : BinOp} {t : TypeId} {x y : Value} {K : Value → Prop} (h : exBin L op t x y K) (a b : Operand) : ∃ v, v.oneCell' = true ∧ (∀ w, (do eqGuard op t a b x y; binOp op t x y : Sem Value).run P w = .ok v w) ∧ K v := by
 have hg : ∀ w, (∀ cs ds, ¬ (x = .agg cs ∧ y = .agg ds)) → ¬ (x = .nilIface ∧ y = .nilIface) → (eqGuard op t a b x y).run P w = .ok () w := fun w h1 h2 => by
  cases op <;> first | rfl | skip
  all_goals
   simp only [eqGuard, Bool.not_true, Bool.false_eq_true, if_false]
   split
   ·exact absurd ⟨rfl, rfl⟩ h2
   ·rename_i cs ds; exact absurd ⟨rfl, rfl⟩ (h1 cs ds)
   ·rfl
 have fin : ∀ v, (∀ cs ds, ¬ (x = .agg cs ∧ y = .agg ds)) → ¬ (x = .nilIface ∧ y = .nilIface) → v.oneCell' = true ∧ (∀ w, (binOp op t x y).run P w = .ok v w) ∧ K v → ∃ v, v.oneCell' = true ∧ (∀ w, (do eqGuard op t a b x y; binOp op t x y : Sem Value).run P w = .ok v w) ∧ K v := fun v h1 h2 ⟨h3, h4, h5⟩ =>
  ⟨v, h3, fun w => by rw [Sem.run_bind, hg w h1 h2, Result.andThen_ok]; exact h4 w, h5⟩
 unfold exBin at h
 split at h
 ·rename_i k a k' b
  split at h
  ·obtain ⟨h0, z, rfl, h⟩ := h
   refine fin _ (by simp) (by simp) ⟨rfl, fun w => ?_, h⟩
   have : ¬ b < 0 := by omega
   simp [binOp, Op.shift, this]
  ·obtain ⟨h0, z, rfl, h⟩ := h
   refine fin _ (by simp) (by simp) ⟨rfl, fun w => ?_, h⟩
   have : ¬ b < 0 := by omega
   simp [binOp, Op.shift, this]
  ·split at h
   ·rename_i h1 h2 _ hk
    obtain rfl := of_decide_eq_true hk
    obtain ⟨v, h3⟩ := exInt_ok (P := P) (t := t) h ⟨fun e => h1 e, fun e => h2 e⟩
    exact fin v (by simp) (by simp) h3
   ·exact h.elim
 ·obtain ⟨v, h3⟩ := exStr_ok (P := P) (t := t) h
  exact fin v (by simp) (by simp) h3
 ·split at h
  ·rename_i hl
   have hu := ((layOf_ok (hL _ _ hl)).under rfl).2.2.1 rfl
   have heq : ∀ (u v : Bool) w, (Op.equal t (.bool u) (.bool v)).run P w = .ok (decide (u = v)) w := fun u v w => by
    rw [Op.equal, show Op.maxDepth = 9999 + 1 from rfl, Op.equalIn, Sem.run_bind, run_underlying hu, Result.andThen_ok]
    simp [Bool.beq_eq_decide_eq]
   split at h
   ·obtain ⟨z, rfl, h⟩ := h
    exact fin _ (by simp) (by simp) ⟨rfl, fun w => by simp [binOp, heq], h⟩
   ·obtain ⟨z, rfl, h⟩ := h
    exact fin _ (by simp) (by simp) ⟨rfl, fun w => by simp [binOp, heq], h⟩
   ·exact h.elim
  ·exact h.elim
 ·exact h.elim
def exIfn (P : Program) (op : BinOp) (t : TypeId) (same : Bool) (K : Res → Prop) : Prop :=
 (∃ ms, P.underlying t = some (.interface ms)) ∧ match op, same with
  | .eql, true | .neq, false => K (pureR (Tbool true))
  | .eql, false | .neq, true => K (pureR (Tbool false))
  | _, _ => False
def isNilI : D → Option Bool
 | .err => some false
 | .v .nilIface => some true
 | .v (.iface _ _) => some false
 | _ => none
theorem isNilI_ok {S : Nat → Prop} {w : World} {d : D} {u : Value} {b : Bool} (h : isNilI d = some b) (hu : Imm S w d u) : (b = true ∧ u = .nilIface) ∨ (b = false ∧ ∃ t v, u = .iface t v) := by
 unfold isNilI at h
 split at h
 ·cases h; cases hu; exact .inr ⟨rfl, _, _, rfl⟩
 ·cases h; cases hu; exact .inl ⟨rfl, rfl⟩
 ·cases h; cases hu; exact .inr ⟨rfl, _, _, rfl⟩
 ·cases h
theorem exIfn_ok {op : BinOp} {t t' : TypeId} {x : Operand} (ho : o.op = .binOp op t x (.const .nilIface) t') {d : D} {b : Bool} (hx : ev x = some (.o (.c (.d d)))) (hd : isNilI d = some b) (h : exIfn P op t b K) : ∃ r, Spec P Γ o ev mem nx r ∧ K r := by
 unfold exIfn at h
 obtain ⟨⟨ms, hu⟩, h⟩ := h
 have heq : ∀ (u : Value) (w : World), (b = true ∧ u = .nilIface) ∨ (b = false ∧ ∃ t v, u = .iface t v) → (Op.equal t u .nilIface).run P w = .ok b w := fun u w hc => by
  rw [Op.equal, show Op.maxDepth = 9999 + 1 from rfl, Op.equalIn, Sem.run_bind, run_underlying hu, Result.andThen_ok]
  rcases hc with ⟨rfl, rfl⟩ | ⟨rfl, t, v, rfl⟩ <;> rfl
 have fin : ∀ (c : Bool), (∀ (u : Value) (w : World), (b = true ∧ u = .nilIface) ∨ (b = false ∧ ∃ t v, u = .iface t v) → (binOp op t u .nilIface).run P w = .ok (.bool c) w) → K (pureR (Tbool c)) → ∃ r, Spec P Γ o ev mem nx r ∧ K r := fun c hc hk =>
  ⟨_, spec_val fun ι S A w h1 h2 => ⟨.bool c, by
   have ex : Imm S w d (A.eval x) := h1 x (by simp [ho, Op.operands]) _ hx
   have ey : A.eval (.const .nilIface) = .nilIface := rfl
   generalize A.eval = ρ at ex ey ⊢
   have hcase := isNilI_ok hd ex
   have := hc _ w hcase
   have hg : (eqGuard op t x (.const .nilIface) (ρ x) .nilIface).run P w = .ok () w := by
    rcases hcase with ⟨_, e⟩ | ⟨_, t, v, e⟩ <;> rw [e] <;> cases op <;> simp [eqGuard]
   simp [execOp, ho, ey, hg, this], V_mk rfl⟩, hk⟩
 split at h
 ·exact fin true (fun u w hc => by simp [binOp, heq u w hc]) h
 ·exact fin true (fun u w hc => by simp [binOp, heq u w hc]) h
 ·exact fin false (fun u w hc => by simp [binOp, heq u w hc]) h
 ·exact fin false (fun u w hc => by simp [binOp, heq u w hc]) h
 ·exact h.elim
def isNilC : Operand → Bool
 | .const .nilIface => true
 | _ => false
theorem isNilC_ok {y : Operand} (h : isNilC y = true) : y = .const .nilIface := by
 unfold isNilC at h
 split at h
 ·rfl
 ·cases h
def plainC (c : CV) (r : Option (List Value)) : Option (List Value) := match c, r with
 | .d (.v a), some vs => some (a :: vs)
 | _, _ => none
def plainL (l : List CV) : Option (List Value) := l.foldr plainC (some [])
theorem plainC_ok {c : CV} {r : Option (List Value)} {vs : List Value} (h : plainC c r = some vs) : ∃ a vs', c = .d (.v a) ∧ r = some vs' ∧ vs = a :: vs' := by
 unfold plainC at h
 split at h
 ·cases h; exact ⟨_, _, rfl, rfl, rfl⟩
 ·cases h
theorem plainL_ok {ι : Nat → Value} {S : Nat → Prop} {w : World} : ∀ {l : List CV} {vs us : List Value}, plainL l = some vs → All2 (VC ι S w) l us → us = vs
 | [], vs, us, h, hu => by cases h; exact hu.nil_left
 | c :: l, vs, us, h, hu => by
  obtain ⟨u, us', e0, e, hu'⟩ := hu.cons_left
  subst e0
  obtain ⟨a, vs', rfl, h1, rfl⟩ := plainC_ok (r := plainL l) h
  obtain rfl := plainL_ok (ι := ι) (S := S) (w := w) h1 hu'
  have h2 : Imm S w (.v a) u := e
  cases h2
  rfl
def exAgg (P : Program) (op : BinOp) (t : TypeId) (xs ys : List CV) (K : Res → Prop) : Prop :=
 match plainL xs, plainL ys with
 | some vs, some us => P.eqGuardType P.depth t = false ∧ ∃ c, (∀ w, (Op.equal t (.agg vs.toArray) (.agg us.toArray)).run P w = .ok c w) ∧ match op with
  | .eql => K (pureR (Tbool c))
  | .neq => K (pureR (Tbool (!c)))
  | _ => False
 | _, _ => False
theorem exAgg_ok {op : BinOp} {t t' : TypeId} {x y : Operand} (ho : o.op = .binOp op t x y t') {xs ys : List CV} (hx : ev x = some (.o (.g xs))) (hy : ev y = some (.o (.g ys))) (h : exAgg P op t xs ys K) : ∃ r, Spec P Γ o ev mem nx r ∧ K r := by
 unfold exAgg at h
 split at h
 ·rename_i vs us hvs hus
  obtain ⟨hg, c, hc, h⟩ := h
  have key : ∀ (ι : Nat → Value) (S : Nat → Prop) (w : World) (a b : Value), V ι S w (.o (.g xs)) a → V ι S w (.o (.g ys)) b → a = .agg vs.toArray ∧ b = .agg us.toArray := fun ι S w a b ha hb => by
   obtain ⟨l1, rfl, h1⟩ := ha
   obtain ⟨l2, rfl, h2⟩ := hb
   obtain rfl := plainL_ok (ι := ι) (S := S) (w := w) hvs h1
   obtain rfl := plainL_ok (ι := ι) (S := S) (w := w) hus h2
   exact ⟨rfl, rfl⟩
  split at h
  ·refine ⟨_, spec_val fun ι S A w h1 h2 => ⟨.bool c, ?_, V_mk rfl⟩, h⟩
   obtain ⟨ex, ey⟩ := key ι S w _ _ (h1 x (by simp [ho, Op.operands]) _ hx) (h1 y (by simp [ho, Op.operands]) _ hy)
   simp only [execOp, ho, ex, ey]
   simp [eqGuard, hg, binOp, hc]
  ·refine ⟨_, spec_val fun ι S A w h1 h2 => ⟨.bool (!c), ?_, V_mk rfl⟩, h⟩
   obtain ⟨ex, ey⟩ := key ι S w _ _ (h1 x (by simp [ho, Op.operands]) _ hx) (h1 y (by simp [ho, Op.operands]) _ hy)
   simp only [execOp, ho, ex, ey]
   simp [eqGuard, hg, binOp, hc]
  ·exact h.elim
 ·exact h.elim
def exPn (P : Program) (op : BinOp) (t : TypeId) (K : Res → Prop) : Prop := P.eqGuardType P.depth t = false ∧ ∃ c, (∀ (w : World) (a : Addr), (binOp op t (.pointer (some a)) (.pointer none)).run P w = .ok (.bool c) w) ∧ K (pureR (Tbool c))
def exPz (P : Program) (op : BinOp) (t : TypeId) (K : Res → Prop) : Prop := P.eqGuardType P.depth t = false ∧ ∃ c, (∀ w : World, (binOp op t (.pointer none) (.pointer none)).run P w = .ok (.bool c) w) ∧ K (pureR (Tbool c))
def exBinOp (P : Program) (L : Nat → Option Lay) (ev : Operand → Option TV) (op : BinOp) (t : TypeId) (x y : Operand) (K : Res → Prop) : Prop :=
 match isNilC y with
 | true => match ev x with
  | some (.o (.c (.d d))) => match isNilI d with
   | some b => exIfn P op t b K
   | none => False
  | _ => False
 | false => match ev x, ev y with
  | some (.o (.c (.eptr _))), some (.o (.c (.d (.v (.pointer none))))) => exPn P op t K
  | some (.o (.c (.ptr _ _))), some (.o (.c (.d (.v (.pointer none))))) => exPn P op t K
  | some (.o (.c (.d (.v (.pointer none))))), some (.o (.c (.d (.v (.pointer none))))) => exPz P op t K
  | some (.o (.c (.d (.v a)))), some (.o (.c (.d (.v b)))) => exBin L op t a b fun v => K (pureR (.o (.c (.d (.v v)))))
  | some (.o (.g xs)), some (.o (.g ys)) => exAgg P op t xs ys K
  | _, _ => False
theorem exBinOp_ok (hL : LOk P L) {op : BinOp} {t t' : TypeId} {x y : Operand} (ho : o.op = .binOp op t x y t') (h : exBinOp P L ev op t x y K) : ∃ r, Spec P Γ o ev mem nx r ∧ K r := by
 unfold exBinOp at h
 split at h
 ·rename_i hn
  obtain rfl := isNilC_ok hn
  split at h
  ·rename_i d hx
   split at h
   ·rename_i b hb
    exact exIfn_ok ho hx hb h
   ·exact h.elim
  ·exact h.elim
 ·split at h
  ·rename_i hx hy
   obtain ⟨hg, c, hc, hk⟩ := h
   refine ⟨_, spec_val fun ι S A w h1 h2 => ⟨.bool c, ?_, V_mk rfl⟩, hk⟩
   obtain ⟨g, f, us, ex, _⟩ := h1 x (by simp [ho, Op.operands]) _ hx
   have ey := V_v (h1 y (by simp [ho, Op.operands]) _ hy)
   have := hc w ⟨g, f, none⟩
   simp only [execOp, ho, ex, ey]
   simp [eqGuard, hg, this]
  ·rename_i hx hy
   obtain ⟨hg, c, hc, hk⟩ := h
   refine ⟨_, spec_val fun ι S A w h1 h2 => ⟨.bool c, ?_, V_mk rfl⟩, hk⟩
   obtain ⟨b, _, ex⟩ := h1 x (by simp [ho, Op.operands]) _ hx
   have ey := V_v (h1 y (by simp [ho, Op.operands]) _ hy)
   have := fun a => hc w a
   simp only [execOp, ho, ex, ey]
   simp [eqGuard, hg, this]
  ·rename_i hx hy
   obtain ⟨hg, c, hc, hk⟩ := h
   refine ⟨_, spec_val fun ι S A w h1 h2 => ⟨.bool c, ?_, V_mk rfl⟩, hk⟩
   have ex := V_v (h1 x (by simp [ho, Op.operands]) _ hx)
   have ey := V_v (h1 y (by simp [ho, Op.operands]) _ hy)
   have := hc w
   simp only [execOp, ho, ex, ey]
   simp [eqGuard, hg, this]
  ·rename_i a b hx hy
   obtain ⟨v, hv1, hv2, hv3⟩ := exBin_ok hL h x y
   refine ⟨_, spec_val fun ι S A w h1 h2 => ⟨v, ?_, V_mk hv1⟩, hv3⟩
   have ex := V_v (h1 x (by simp [ho, Op.operands]) _ hx)
   have ey := V_v (h1 y (by simp [ho, Op.operands]) _ hy)
   have := hv2 w
   simp only [execOp, ho, ex, ey]
   rw [Sem.run_bind, this]
   rfl
  ·rename_i xs ys hx hy
   exact exAgg_ok ho hx hy h
  ·exact h.elim

def exMove (ev : Operand → Option TV) (x : Operand) (K : Res → Prop) : Prop :=
 match ev x with
 | some v => K (pureR v)
 | none => False
theorem exMove_ok {x : Operand} (ho : o.op = .move x ∨ o.op = .assign x) (h : exMove ev x K) : ∃ r, Spec P Γ o ev mem nx r ∧ K r := by
 unfold exMove at h
 split at h
 ·rename_i v hx
  refine ⟨_, spec_val fun ι S A w h1 h2 => ⟨A.eval x, ?_, h1 x ?_ _ hx⟩, h⟩
  ·rcases ho with ho | ho <;> simp [execOp, ho]
  ·rcases ho with ho | ho <;> simp [ho, Op.operands]
 ·exact h.elim
def exPick (ev : Operand → Option TV) (c x y : Operand) (K : Res → Prop) : Prop :=
 match ev c with
 | some (.o (.c (.d (.v (.bool b))))) => match b with
  | true => exMove ev x K
  | false => exMove ev y K
 | _ => False
theorem exPick_ok {c x y : Operand} (ho : o.op = .pick c x y) (h : exPick ev c x y K) : ∃ r, Spec P Γ o ev mem nx r ∧ K r := by
 unfold exPick exMove at h
 split at h
 ·rename_i b hc
  split at h <;> split at h
  ·rename_i v hx
   refine ⟨_, spec_val fun ι S A w h1 h2 => ⟨A.eval x, ?_, h1 x (by simp [ho, Op.operands]) _ hx⟩, h⟩
   have := V_v (h1 c (by simp [ho, Op.operands]) _ hc)
   simp [execOp, ho, this, asBool]
  ·exact h.elim
  ·rename_i v hx
   refine ⟨_, spec_val fun ι S A w h1 h2 => ⟨A.eval y, ?_, h1 y (by simp [ho, Op.operands]) _ hx⟩, h⟩
   have := V_v (h1 c (by simp [ho, Op.operands]) _ hc)
   simp [execOp, ho, this, asBool]
  ·exact h.elim
 ·exact h.elim
def exUn (ev : Operand → Option TV) (op : UnOp) (x : Operand) (K : Res → Prop) : Prop :=
 match op, ev x with
 | .not, some (.o (.c (.d (.v (.bool b))))) => match b with
  | true => K (pureR (Tbool false))
  | false => K (pureR (Tbool true))
 | .neg, some (.o (.c (.d (.v (.int k n))))) => ∃ z, k.wrap (0 - n) = z ∧ K (pureR (Tint k z))
 | .xor, some (.o (.c (.d (.v (.int k n))))) => ∃ z, k.wrap (BitVec.ofInt k.bits (if k.signed then -1 else k.max) ^^^ BitVec.ofInt k.bits n).toNat = z ∧ K (pureR (Tint k z))
 | _, _ => False
theorem exUn_ok {op : UnOp} {t : TypeId} {x : Operand} (ho : o.op = .unOp op t x) (h : exUn ev op x K) : ∃ r, Spec P Γ o ev mem nx r ∧ K r := by
 unfold exUn at h
 split at h
 ·rename_i b hx
  cases b
  ·exact ⟨_, spec_val fun ι S A w h1 h2 => ⟨_, by simp [execOp, ho, V_v (h1 x (by simp [ho, Op.operands]) _ hx), Op.unary], V_mk rfl⟩, h⟩
  ·exact ⟨_, spec_val fun ι S A w h1 h2 => ⟨_, by simp [execOp, ho, V_v (h1 x (by simp [ho, Op.operands]) _ hx), Op.unary], V_mk rfl⟩, h⟩
 ·rename_i k n hx
  obtain ⟨z, rfl, h⟩ := h
  exact ⟨_, spec_val fun ι S A w h1 h2 => ⟨_, by simp [execOp, ho, V_v (h1 x (by simp [ho, Op.operands]) _ hx), Op.unary, Op.intArith], V_mk rfl⟩, h⟩
 ·rename_i k n hx
  obtain ⟨z, rfl, h⟩ := h
  exact ⟨_, spec_val fun ι S A w h1 h2 => ⟨_, by simp [execOp, ho, V_v (h1 x (by simp [ho, Op.operands]) _ hx), Op.unary, Op.intBits], V_mk rfl⟩, h⟩
 ·exact h.elim
def exConv (L : Nat → Option Lay) (ev : Operand → Option TV) (src dst : TypeId) (x : Operand) (K : Res → Prop) : Prop :=
 match L src, L dst, ev x with
 | some _, some ⟨_, _, _, .int k⟩, some (.o (.c (.d (.v (.int _ n))))) => ∃ z, k.wrap n = z ∧ K (pureR (Tint k z))
 | some _, some ⟨_, _, _, .str⟩, some (.o (.c (.d (.v (.string s))))) => K (pureR (Tstr s))
 | _, _, _ => False
theorem exConv_ok (hL : LOk P L) {src dst : TypeId} {x : Operand} (ho : o.op = .convert src dst x) (h : exConv L ev src dst x K) : ∃ r, Spec P Γ o ev mem nx r ∧ K r := by
 unfold exConv at h
 split at h
 ·rename_i l1 _ _ _ k _ n hs hd hx
  obtain ⟨z, rfl, h⟩ := h
  obtain ⟨i1, d1, z1, _, hu1, _⟩ := (layOf_ok (hL _ _ hs)).ex
  have hu := ((layOf_ok (hL _ _ hd)).under rfl).2.2.2.1 k rfl
  refine ⟨_, spec_val fun ι S A w h1 h2 => ⟨.int k (k.wrap n), ?_, V_mk rfl⟩, h⟩
  simp [execOp, ho, V_v (h1 x (by simp [ho, Op.operands]) _ hx), convert, run_underlying hu1, run_underlying hu, Conv.intToInt]
 ·rename_i l1 _ _ _ s hs hd hx
  obtain ⟨i1, d1, z1, _, hu1, _⟩ := (layOf_ok (hL _ _ hs)).ex
  have hu := ((layOf_ok (hL _ _ hd)).under rfl).2.1 rfl
  refine ⟨_, spec_val fun ι S A w h1 h2 => ⟨.string s, ?_, V_mk rfl⟩, h⟩
  simp [execOp, ho, V_v (h1 x (by simp [ho, Op.operands]) _ hx), convert, run_underlying hu1, run_underlying hu]
 ·exact h.elim
def exNil (ev : Operand → Option TV) (x : Operand) (K : Res → Prop) : Prop :=
 match ev x with
 | some (.o (.c (.ptr k f))) => K (pureR (.o (.c (.ptr k f))))
 | some (.o (.c (.eptr cs))) => K (pureR (.o (.c (.eptr cs))))
 | some (.o (.c (.rptr k s i j))) => K (pureR (.o (.c (.rptr k s i j))))
 | _ => False
theorem exNil_ok {x : Operand} (ho : o.op = .nilCheck x) (h : exNil ev x K) : ∃ r, Spec P Γ o ev mem nx r ∧ K r := by
 unfold exNil at h
 split at h
 ·rename_i k f hx
  refine ⟨_, spec_val fun ι S A w h1 h2 => ⟨A.eval x, ?_, h1 x (by simp [ho, Op.operands]) _ hx⟩, h⟩
  obtain ⟨b, _, hb⟩ := h1 x (by simp [ho, Op.operands]) _ hx
  simp [execOp, ho, hb]
 ·rename_i cs hx
  refine ⟨_, spec_val fun ι S A w h1 h2 => ⟨A.eval x, ?_, h1 x (by simp [ho, Op.operands]) _ hx⟩, h⟩
  obtain ⟨g, f, us, hb, _⟩ := h1 x (by simp [ho, Op.operands]) _ hx
  simp [execOp, ho, hb]
 ·rename_i k s i j hx
  refine ⟨_, spec_val fun ι S A w h1 h2 => ⟨A.eval x, ?_, h1 x (by simp [ho, Op.operands]) _ hx⟩, h⟩
  obtain ⟨b, n, c, _, hb⟩ := h1 x (by simp [ho, Op.operands]) _ hx
  simp [execOp, ho, hb]
 ·exact h.elim
def exExtract (ev : Operand → Option TV) (x : Operand) (i : Nat) (K : Res → Prop) : Prop :=
 match ev x with
 | some (.tup l) => match l[i]? with
  | some v => K (pureR (.o v))
  | none => False
 | _ => False
theorem exExtract_ok {x : Operand} {i : Nat} (ho : o.op = .extract x i) (h : exExtract ev x i K) : ∃ r, Spec P Γ o ev mem nx r ∧ K r := by
 unfold exExtract at h
 split at h
 ·rename_i l hx
  split at h
  ·rename_i v hv
   refine ⟨_, spec_val fun ι S A w h1 h2 => ?_, h⟩
   obtain ⟨us, hus, hall⟩ := h1 x (by simp [ho, Op.operands]) _ hx
   obtain ⟨u, hu1, hu2⟩ := hall.at_left hv
   exact ⟨u, by simp [execOp, ho, hus, Instr.extract, hu1], hu2⟩
  ·exact h.elim
 ·exact h.elim

def exField (L : Nat → Option Lay) (ev : Operand → Option TV) (t : TypeId) (x : Operand) (f : Nat) (K : Res → Prop) : Prop :=
 match L t with
 | some ⟨_, _, _, .st fs⟩ => match fs[f]? with
  | some (off, size + 1, _) => match ev x with
   | some (.o (.c (.ptr k o))) => K (pureR (.o (.c (.ptr k (o + off)))))
   | some (.o (.c (.eptr cs))) => match Nat.ble (off + (size + 1)) cs.length with
    | true => K (pureR (.o (.c (.eptr (cs.drop off)))))
    | false => False
   | some (.o (.c (.rptr k s i j))) => K (pureR (.o (.c (.rptr k s i (j + off)))))
   | _ => False
  | _ => False
 | _ => False
theorem fieldLay_spec {f : Field} {x : Nat × Nat × Bool} (h : fieldLay P f = some x) : f.offset = x.1 ∧ (∃ i, P.info? f.type = some i ∧ i.size = x.2.1) ∧ ∃ d, P.underlying f.type = some d ∧ aggD d = x.2.2 := by
 unfold fieldLay at h
 split at h
 ·rename_i i d hi hd
  cases h
  exact ⟨rfl, ⟨i, hi, rfl⟩, d, hd, rfl⟩
 ·cases h
theorem exField_ok (hL : LOk P L) {t : TypeId} {x : Operand} {f : Nat} (ho : o.op = .fieldAddr t x f) (h : exField L ev t x f K) : ∃ r, Spec P Γ o ev mem nx r ∧ K r := by
 unfold exField at h
 split at h
 ·rename_i _ _ _ fs hl
  obtain ⟨fields, hu, hm⟩ := ((layOf_ok (hL _ _ hl)).under rfl).2.2.2.2.2 fs rfl
  split at h
  ·rename_i off size b hf
   obtain ⟨hlen, hget⟩ := mapM_isSome hm
   have hlt : f < fields.toList.length := by rw [hlen]; exact (List.getElem?_eq_some_iff.1 hf).1
   obtain ⟨F, hF⟩ : ∃ F, fields.toList[f]? = some F := ⟨_, List.getElem?_eq_getElem hlt⟩
   obtain ⟨y, hy1, hy2⟩ := hget f F hF
   rw [hf] at hy2
   cases hy2
   obtain ⟨e1, ⟨i, e2, e3⟩, _⟩ := fieldLay_spec hy1
   have hne : ¬ i.size = 0 := by simp at e3; omega
   have hfield : fields[f]? = some F := by simpa using hF
   have run : ∀ (A : Act) (w : World) (g o : Nat), A.eval x = .pointer (some ⟨g, o, none⟩) → (execOp A.eval ‹Oper›).run P w = .ok (.value (.pointer (some ⟨g, o + off, none⟩))) w := fun A w g o' he => by
    simp [execOp, ho, he, Instr.fieldAt, run_underlying hu, hfield, Instr.sureAddr, fieldPlace, sizeOf, typeInfo, e2, hne, Addr.add_lit]
   split at h
   ·rename_i k o' hx
    refine ⟨_, spec_val fun ι S A w h1 h2 => ?_, h⟩
    obtain ⟨b, hb1, hb2⟩ := h1 x (by simp [ho, Op.operands]) _ hx
    exact ⟨_, run A w _ _ hb2, b, hb1, rfl⟩
   ·rename_i cs hx
    split at h
    ·rename_i hle
     refine ⟨_, spec_val fun ι S A w h1 h2 => ?_, h⟩
     obtain ⟨g, fo, us, hb1, hb2, hb3⟩ := h1 x (by simp [ho, Op.operands]) _ hx
     refine ⟨_, run A w _ _ hb1, g, fo + off, fun j => us (off + j), rfl, fun hn => hb2 ?_, fun j d hj => ?_⟩
     ·intro e; subst e; simp at hn
     ·rw [List.getElem?_drop] at hj
      have := hb3 _ _ hj
      rw [← Nat.add_assoc] at this
      exact this
    ·exact h.elim
   ·rename_i k s i' j hx
    refine ⟨_, spec_val fun ι S A w h1 h2 => ?_, h⟩
    obtain ⟨b, n, c, hb1, hb2⟩ := h1 x (by simp [ho, Op.operands]) _ hx
    exact ⟨_, run A w _ _ hb2, b, n, c, hb1, by rw [Nat.add_assoc]⟩
   ·exact h.elim
  ·exact h.elim
 ·exact h.elim
def exPart (L : Nat → Option Lay) (ev : Operand → Option TV) (t : TypeId) (x : Operand) (f : Nat) (K : Res → Prop) : Prop :=
 match L t with
 | some ⟨_, _, _, .st fs⟩ => match fs[f]? with
  | some (off, size, agg) => match ev x with
   | some (.o (.g l)) => match Nat.ble (off + size) l.length, ofCells agg ((l.drop off).take size) with
    | true, some v => K (pureR v)
    | _, _ => False
   | _ => False
  | _ => False
 | _ => False
theorem exPart_ok (hL : LOk P L) {t : TypeId} {x : Operand} {f : Nat} (ho : o.op = .field t x f) (h : exPart L ev t x f K) : ∃ r, Spec P Γ o ev mem nx r ∧ K r := by
 unfold exPart at h
 split at h
 ·rename_i _ _ _ fs hl
  obtain ⟨fields, hu, hm⟩ := ((layOf_ok (hL _ _ hl)).under rfl).2.2.2.2.2 fs rfl
  split at h
  ·rename_i off size agg hf
   obtain ⟨hlen, hget⟩ := mapM_isSome hm
   have hlt : f < fields.toList.length := by rw [hlen]; exact (List.getElem?_eq_some_iff.1 hf).1
   obtain ⟨F, hF⟩ : ∃ F, fields.toList[f]? = some F := ⟨_, List.getElem?_eq_getElem hlt⟩
   obtain ⟨y, hy1, hy2⟩ := hget f F hF
   rw [hf] at hy2
   cases hy2
   obtain ⟨e1, ⟨i, e2, e3⟩, d, e4, e5⟩ := fieldLay_spec hy1
   have hfield : fields[f]? = some F := by simpa using hF
   split at h
   ·rename_i l hx
    split at h
    ·rename_i v hle hv
     refine ⟨_, spec_val fun ι S A w h1 h2 => ?_, h⟩
     obtain ⟨us, hus, hall⟩ := h1 x (by simp [ho, Op.operands]) _ hx
     have hle' := Nat.le_of_ble_eq_true hle
     have hagg : (isAgg F.type).run P w = .ok agg w := by
      unfold isAgg
      rw [Sem.run_bind, run_underlying e4 w]
      simp at e5
      rw [← e5]
      cases d <;> rfl
     have hpart : (part F.type us.toArray off).run P w = (if agg then .ok (.agg ((us.drop off).take size).toArray) w else match us[off]? with
       | some v => .ok v w
       | none => .halt (.stuck "part: no such cell") w) := by
      unfold part
      rw [Sem.run_bind, hagg, Result.andThen_ok]
      cases agg
      ·simp only [Bool.false_eq_true, if_false]
       cases hq : us[off]? <;> simp [hq, stuck, Sem.run]
      ·simp only [if_true]
       simp [sizeOf, typeInfo, e2]
       simp at e3
       rw [e3]
     have hr : (execOp A.eval ‹Oper›).run P w = ((part F.type us.toArray off).run P w).andThen fun v w => .ok (.value v) w := by
      simp at e1
      simp [execOp, ho, hus, Instr.field, run_underlying hu, hfield, asAgg, e1]
     rw [hpart] at hr
     rcases V_ofCells hv ((hall.drop off).take size) with ⟨ha, hV⟩ | ⟨ha, u, hu', hV⟩
     ·exact ⟨_, by rw [hr, if_pos ha]; rfl, hV⟩
     ·have hsz : us[off]? = some u := by
       have := congrArg (·[0]?) hu'
       simp only [List.getElem?_cons_zero] at this
       exact (drop_take_get this).1
      exact ⟨u, by rw [hr, if_neg (by simp [ha]), hsz]; rfl, hV⟩
    ·exact h.elim
   ·exact h.elim
  ·exact h.elim
 ·exact h.elim
end
end Go.Proofs.YtidnlfkakhmadaaGreatDoor

namespace Go.Proofs.YtidnlfkakhmadaaGreatDoor
open Go.RowKit

section
variable {P : Program} {Γ : Glob} {L : Nat → Option Lay} {o : Oper} {ev : Operand → Option TV} {mem : Nat → Option Blk} {nx : Nat} {K : Res → Prop}

def exIndexStr (L : Nat → Option Lay) (ev : Operand → Option TV) (t : TypeId) (x i : Operand) (K : Res → Prop) : Prop :=
 match L t, ev x, ev i with
 | some ⟨_, _, _, .str⟩, some (.o (.c (.d (.v (.string s))))), some (.o (.c (.d (.v (.int _ n))))) => ∃ b : UInt8, 0 ≤ n ∧ s.data.toList[n.toNat]? = some b ∧ K (pureR (Tint .u8 b.toNat))
 | some ⟨_, _, _, .arr m e⟩, some (.o (.g l)), some (.o (.c (.d (.v (.int _ n))))) => match L e with
  | some le => 0 ≤ n ∧ n.toNat < m ∧ ∃ c, (l.drop (n.toNat * le.size)).take le.size = c ∧ (match ofCells le.kind.agg c with
   | some v => K (pureR v)
   | none => False)
  | none => False
 | _, _, _ => False
theorem bytes_get (s : ByteArray) (i : Nat) : s[i]? = s.data.toList[i]? := by
 by_cases h : i < s.size
 ·have h2 : i < s.data.toList.length := by simpa using h
  rw [getElem?_pos s i h, List.getElem?_eq_getElem h2]
  rfl
 ·have h2 : s.data.toList.length ≤ i := by simpa using h
  rw [getElem?_neg s i h, List.getElem?_eq_none h2]
theorem exIndexStr_ok (hL : LOk P L) {t : TypeId} {x i : Operand} (ho : o.op = .index t x i) (h : exIndexStr L ev t x i K) : ∃ r, Spec P Γ o ev mem nx r ∧ K r := by
 unfold exIndexStr at h
 split at h
 ·rename_i _ _ _ s _ n hl hx hi
  obtain ⟨b, h0, hb, h⟩ := h
  have hu := ((layOf_ok (hL _ _ hl)).under rfl).2.1 rfl
  refine ⟨_, spec_val fun ι S A w h1 h2 => ⟨.int .u8 b.toNat, ?_, V_mk rfl⟩, h⟩
  have ex := V_v (h1 x (by simp [ho, Op.operands]) _ hx)
  have ei := V_v (h1 i (by simp [ho, Op.operands]) _ hi)
  have hb2 : s.data[n.toNat]? = some b := by rw [← Array.getElem?_toList]; exact hb
  simp [execOp, ho, ex, ei, Instr.index, asIntOf, run_underlying hu, h0, bytes_get, hb2]
 ·rename_i _ _ _ m e l _ n hl hx hi
  have hu := ((layOf_ok (hL _ _ hl)).under rfl).2.2.2.2.1 m e rfl
  split at h
  ·rename_i le hle
   obtain ⟨h0, hlt, c, rfl, h⟩ := h
   split at h
   ·rename_i v hv
    refine ⟨_, spec_val fun ι S A w h1 h2 => ?_, h⟩
    obtain ⟨us, hus, hall⟩ := h1 x (by simp [ho, Op.operands]) _ hx
    have ei := V_v (h1 i (by simp [ho, Op.operands]) _ hi)
    have hlay := layOf_ok (hL _ _ hle)
    have hn : n < m := by omega
    have hpart : (part e us.toArray (n.toNat * le.size)).run P w = (if le.kind.agg then .ok (.agg ((us.drop (n.toNat * le.size)).take le.size).toArray) w else match us[n.toNat * le.size]? with
      | some v => .ok v w
      | none => .halt (.stuck "part: no such cell") w) := by
     unfold part
     rw [Sem.run_bind, hlay.agg, Result.andThen_ok]
     cases le.kind.agg
     ·simp only [Bool.false_eq_true, if_false]
      cases hq : us[n.toNat * le.size]? <;> simp [hq, stuck, Sem.run]
     ·simp only [if_true]
      simp [hlay.sizeOf]
    have hr : (execOp A.eval ‹Oper›).run P w = ((part e us.toArray (n.toNat * le.size)).run P w).andThen fun v w => .ok (.value v) w := by
     simp [execOp, ho, hus, ei, Instr.index, asIntOf, run_underlying hu, h0, hn, hlay.sizeOf]
    rw [hpart] at hr
    rcases V_ofCells hv ((hall.drop (n.toNat * le.size)).take le.size) with ⟨ha, hV⟩ | ⟨ha, u, hu', hV⟩
    ·exact ⟨_, by rw [hr, if_pos ha]; rfl, hV⟩
    ·have hsz : us[n.toNat * le.size]? = some u := by
      have := congrArg (·[0]?) hu'
      simp only [List.getElem?_cons_zero] at this
      exact (drop_take_get this).1
     exact ⟨u, by rw [hr, if_neg (by simp [ha]), hsz]; rfl, hV⟩
   ·exact h.elim
  ·exact h.elim
 ·exact h.elim
def exIndexAddr (L : Nat → Option Lay) (ev : Operand → Option TV) (mem : Nat → Option Blk) (t : TypeId) (x i : Operand) (K : Res → Prop) : Prop :=
 match L t, ev i with
 | some ⟨_, _, _, .sl e⟩, some (.o (.c (.d (.v (.int _ n))))) => match L e, ev x with
  | some le, some (.o (.c (.d (.sl size rows)))) => match Nat.beq le.size size with
   | true => ∃ r, 0 ≤ n ∧ rows[n.toNat]? = some r ∧ K (pureR (.o (.c (.eptr r))))
   | false => False
  | some le, some (.o (.c (.row k))) => match mem k with
   | some (.row size _ rows) => match Nat.beq le.size size with
    | true => 0 ≤ n ∧ n.toNat < rows.length ∧ K ⟨.o (.c (.rptr k size n.toNat 0)), [k], [], []⟩
    | false => False
   | _ => False
  | _, _ => False
 | some ⟨_, _, _, .arr m e⟩, some (.o (.c (.d (.v (.int _ n))))) => match L e, ev x with
  | some le, some (.o (.c (.ptr k off))) => 0 ≤ n ∧ n.toNat < m ∧ K (pureR (.o (.c (.ptr k (off + n.toNat * le.size)))))
  | some le, some (.o (.c (.eptr cs))) => 0 ≤ n ∧ n.toNat < m ∧ ∃ c, cs.drop (n.toNat * le.size) = c ∧ K (pureR (.o (.c (.eptr c))))
  | _, _ => False
 | _, _ => False
theorem exIndexAddr_ok (hL : LOk P L) {t : TypeId} {x i : Operand} (ho : o.op = .indexAddr t x i) (h : exIndexAddr L ev mem t x i K) : ∃ r, Spec P Γ o ev mem nx r ∧ K r := by
 unfold exIndexAddr at h
 split at h
 ·rename_i e _ n hl hi
  have hu := ((layOf_ok (hL _ _ hl)).under rfl).1 e rfl
  split at h
  ·rename_i le size rows hle hx
   split at h
   ·rename_i hbeq
    have hsz := Nat.eq_of_beq_eq_true hbeq
    obtain ⟨r, h0, hr, h⟩ := h
    refine ⟨_, spec_val fun ι S A w h1 h2 => ?_, h⟩
    have ei := V_v (h1 i (by simp [ho, Op.operands]) _ hi)
    have hI : Imm S w _ _ := h1 x (by simp [ho, Op.operands]) _ hx
    generalize hex : A.eval x = u at hI
    cases hI with
    | nil => simp at hr
    | sl0 => simp at hr
    | sl us hs hc hrr hc1 hc2 =>
     rename_i g f cap
     have hlt := (List.getElem?_eq_some_iff.1 hr).1
     have hn : n < rows.length := by omega
     refine ⟨.pointer (some ⟨g, f + n.toNat * size, none⟩), ?_, g, f + n.toNat * size, fun j => us (n.toNat * size + j), rfl, fun _ => hs, fun j d hj => ?_⟩
     ·have hs' := (layOf_ok (hL _ _ hle)).sizeOf w
      rw [hsz] at hs'
      simp [execOp, ho, hex, ei, Instr.indexAt, asIntOf, run_underlying hu, h0, hn, hs', Addr.add_lit]
     ·have := flatten_get hrr hr hj
      refine ⟨?_, hc2 _ _ this⟩
      rw [Nat.add_assoc]
      exact hc1 _ _ this
   ·exact h.elim
  ·rename_i le k hle hx
   split at h
   ·rename_i size e' rows hk
    split at h
    ·rename_i hbeq
     have hsz := Nat.eq_of_beq_eq_true hbeq
     obtain ⟨h0, hlt, h⟩ := h
     refine ⟨_, spec_val fun ι S A w h1 h2 => ?_, h⟩
     have ei := V_v (h1 i (by simp [ho, Op.operands]) _ hi)
     obtain ⟨hex, _⟩ := h1 x (by simp [ho, Op.operands]) _ hx
     obtain ⟨cs, h3, _⟩ := h2 k (by simp) _ hk
     rcases h3.2 with ⟨_, h4⟩ | ⟨g, cap, cur, h4, _⟩
     ·omega
     ·have hs' := (layOf_ok (hL _ _ hle)).sizeOf w
      rw [hsz] at hs'
      have hn : n < rows.length := by omega
      refine ⟨.pointer (some ⟨g, n.toNat * size, none⟩), ?_, g, _, cap, h4, rfl⟩
      simp [execOp, ho, hex, h4, ei, Instr.indexAt, asIntOf, run_underlying hu, h0, hn, hs', Addr.add_lit]
    ·exact h.elim
   ·exact h.elim
  ·exact h.elim
 ·rename_i m e _ n hl hi
  have hu := ((layOf_ok (hL _ _ hl)).under rfl).2.2.2.2.1 m e rfl
  split at h
  ·rename_i le k off hle hx
   obtain ⟨h0, hlt, h⟩ := h
   refine ⟨_, spec_val fun ι S A w h1 h2 => ?_, h⟩
   have ei := V_v (h1 i (by simp [ho, Op.operands]) _ hi)
   obtain ⟨b, hb1, hb2⟩ := h1 x (by simp [ho, Op.operands]) _ hx
   have hs' := (layOf_ok (hL _ _ hle)).sizeOf w
   have hn : n < m := by omega
   refine ⟨.pointer (some ⟨b, off + n.toNat * le.size, none⟩), ?_, b, hb1, rfl⟩
   simp [execOp, ho, hb2, ei, Instr.indexAt, asIntOf, run_underlying hu, h0, hn, hs', Addr.add_lit, Instr.sureAddr]
  ·rename_i le cs hle hx
   obtain ⟨h0, hlt, c, hc, h⟩ := h
   refine ⟨_, spec_val fun ι S A w h1 h2 => ?_, h⟩
   have ei := V_v (h1 i (by simp [ho, Op.operands]) _ hi)
   obtain ⟨b, f, us, hb1, hb2, hb3⟩ := h1 x (by simp [ho, Op.operands]) _ hx
   have hs' := (layOf_ok (hL _ _ hle)).sizeOf w
   have hn : n < m := by omega
   subst hc
   refine ⟨.pointer (some ⟨b, f + n.toNat * le.size, none⟩), ?_, b, f + n.toNat * le.size, fun j => us (n.toNat * le.size + j), rfl, fun hne => hb2 (fun e => hne (by rw [e]; simp)), fun j d hj => ?_⟩
   ·simp [execOp, ho, hb1, ei, Instr.indexAt, asIntOf, run_underlying hu, h0, hn, hs', Addr.add_lit, Instr.sureAddr]
   ·rw [List.getElem?_drop] at hj
    rw [Nat.add_assoc]
    exact hb3 _ _ hj
  ·exact h.elim
 ·exact h.elim

def bndLo (ev : Operand → Option TV) : Option Operand → Option Int
 | none => some 0
 | some x => match ev x with
  | some (.o (.c (.d (.v (.int _ n))))) => some n
  | _ => none
def bndHi (ev : Operand → Option TV) (len : Int) : Option Operand → Option Int
 | none => some len
 | some x => match ev x with
  | some (.o (.c (.d (.v (.int _ n))))) => some n
  | _ => none
def exSlice (L : Nat → Option Lay) (ev : Operand → Option TV) (mem : Nat → Option Blk) (nx : Nat) (t : TypeId) (x : Operand) (lo hi : Option Operand) (K : Res → Prop) : Prop :=
 match L t, ev x with
 | some ⟨_, _, _, .str⟩, some (.o (.c (.d (.v (.string s))))) => match bndLo ev lo, bndHi ev s.size hi with
  | some l, some h => 0 ≤ l ∧ l ≤ h ∧ h ≤ s.size ∧ K (pureR (Tstr (s.extract l.toNat h.toNat)))
  | _, _ => False
 | some ⟨_, _, _, .sl e⟩, some (.o (.c (.d (.sl size rows)))) => match L e, bndLo ev lo, bndHi ev rows.length hi with
  | some le, some l, some h => match Nat.beq le.size size with
   | true => 0 ≤ l ∧ l ≤ h ∧ h ≤ rows.length ∧ ∃ rows', (rows.take h.toNat).drop l.toNat = rows' ∧ K (pureR (Tsl size rows'))
   | false => False
  | _, _, _ => False
 | some ⟨_, _, _, .sl e⟩, some (.o (.c (.d (.v (.slice none 0 0))))) => match L e, bndLo ev lo, bndHi ev 0 hi with
  | some _, some l, some h => 0 ≤ l ∧ l ≤ h ∧ h ≤ 0 ∧ K (pureR Tnil)
  | _, _, _ => False
 | _, _ => False
theorem run_bounds {ev : Operand → Option TV} {ι : Nat → Value} {S : Nat → Prop} {A : Act} {w : World} {lo hi : Option Operand} {l h len : Int} (isSlice : Bool) (len' cap : Nat) (hlen : len = len') (hcap : len' ≤ cap)
  (hops : ∀ y, (lo = some y ∨ hi = some y) → ∀ tv, ev y = some tv → V ι S w tv (A.eval y)) (hl : bndLo ev lo = some l) (hh : bndHi ev len hi = some h) (h0 : 0 ≤ l) (h1 : l ≤ h) (h2 : h ≤ len) :
  (Instr.sliceBounds isSlice len' cap (lo.map A.eval) (hi.map A.eval) none).run P w = .ok (l.toNat, h.toNat, cap) w := by
 have hb : ∀ (x : Operand) (n : Int) (y : Nat) (c : BoundsCode), (∃ k, A.eval x = .int k n) → 0 ≤ n → n ≤ y → (Instr.sliceBound (A.eval x) y c).run P w = .ok n.toNat w := fun x n y c ⟨k, hx⟩ h0 h1 => by rw [hx]; exact run_sliceBound w k n y c h0 h1
 have key : ∀ (x : Operand) (n : Int), (lo = some x ∨ hi = some x) → (match ev x with | some (.o (.c (.d (.v (.int _ n))))) => some n | _ => none) = some n → ∃ k, A.eval x = .int k n := fun x n hx he => by
  split at he
  ·rename_i k m hev
   cases he
   exact ⟨k, V_v (hops x hx _ hev)⟩
  ·cases he
 have hl' : ∀ x, lo = some x → ∀ c, (Instr.sliceBound (A.eval x) h.toNat c).run P w = .ok l.toNat w := fun x hx c => by
  subst hx
  exact hb x l h.toNat c (key x l (.inl rfl) hl) h0 (by omega)
 have hh' : ∀ x, hi = some x → ∀ c, (Instr.sliceBound (A.eval x) cap c).run P w = .ok h.toNat w := fun x hx c => by
  subst hx
  exact hb x h cap c (key x h (.inr rfl) hh) (by omega) (by omega)
 have el : lo = none → l.toNat = 0 := fun e => by subst e; simp [bndLo] at hl; omega
 have eh : hi = none → h.toNat = len' := fun e => by subst e; simp [bndHi] at hh; omega
 clear hb key hops
 unfold Instr.sliceBounds
 cases lo with
 | none =>
  have e1 := el rfl
  cases hi with
  | none => have e2 := eh rfl; simp [e1, e2]
  | some y => simp [e1, hh' y rfl]
 | some x =>
  cases hi with
  | none => have e2 := eh rfl; have h3 := hl' x rfl; rw [e2] at h3; simp [e2, h3]
  | some y => simp [hh' y rfl, hl' x rfl]
theorem flatten_part {α : Type} {size : Nat} : ∀ {rows : List (List α)} (_ : ∀ r ∈ rows, r.length = size) (l h : Nat), ((rows.take h).drop l).flatten = (rows.flatten.take (h * size)).drop (l * size)
 | [], _, l, h => by simp
 | a :: rows, hr, 0, 0 => by simp
 | a :: rows, hr, 0, h + 1 => by
  have ha := hr a (by simp)
  have ih := flatten_part (fun r hr' => hr r (by simp [hr'])) 0 h (rows := rows)
  simp only [Nat.zero_mul, List.drop_zero, List.take_succ_cons, List.flatten_cons] at ih ⊢
  rw [ih, List.take_append, List.take_of_length_le (l := a) (by rw [ha, Nat.add_mul]; omega), ha, show (h + 1) * size - size = h * size by rw [Nat.add_mul]; omega]
 | a :: rows, hr, l + 1, 0 => by simp
 | a :: rows, hr, l + 1, h + 1 => by
  have ha := hr a (by simp)
  have ih := flatten_part (fun r hr' => hr r (by simp [hr'])) l h (rows := rows)
  simp only [List.take_succ_cons, List.drop_succ_cons, List.flatten_cons, ih]
  rw [List.take_append, List.take_of_length_le (l := a) (by rw [ha, Nat.add_mul]; omega), ha, show (h + 1) * size - size = h * size by rw [Nat.add_mul]; omega,
   List.drop_append, List.drop_of_length_le (l := a) (by rw [ha, Nat.add_mul]; omega), ha, show (l + 1) * size - size = l * size by rw [Nat.add_mul]; omega, List.nil_append]
theorem exSlice_ok (hL : LOk P L) {t : TypeId} {x : Operand} {lo hi : Option Operand} (ho : o.op = .slice t x lo hi none) (h : exSlice L ev mem nx t x lo hi K) : ∃ r, Spec P Γ o ev mem nx r ∧ K r := by
 have hops : ∀ y, (lo = some y ∨ hi = some y) → y ∈ o.op.operands := fun y hy => by
  rcases hy with rfl | rfl <;> simp [ho, Op.operands]
 unfold exSlice at h
 split at h
 ·rename_i _ _ _ s hl hx
  have hu := ((layOf_ok (hL _ _ hl)).under rfl).2.1 rfl
  split at h
  ·rename_i l h' hlo hhi
   obtain ⟨h0, h1, h2, h⟩ := h
   refine ⟨_, spec_val fun ι S A w q1 q2 => ⟨.string (s.extract l.toNat h'.toNat), ?_, V_mk rfl⟩, h⟩
   have ex := V_v (q1 x (by simp [ho, Op.operands]) _ hx)
   have hb := run_bounds (P := P) (A := A) (w := w) false s.size s.size rfl (Nat.le_refl _) (fun y hy tv htv => q1 y (hops y hy) tv htv) hlo hhi h0 h1 h2
   simp only [execOp, ho, ex]
   rw [Sem.run_bind, run_sliceAt_string w t _ _ _ _ hu]
   simp [Instr.slice, run_underlying hu, hb]
  ·exact h.elim
 ·rename_i e size rows hl hx
  have hu := ((layOf_ok (hL _ _ hl)).under rfl).1 e rfl
  split at h
  ·rename_i le l h' hle hlo hhi
   split at h
   ·rename_i hbeq
    have hsz := Nat.eq_of_beq_eq_true hbeq
    obtain ⟨h0, h1, h2, rows', rfl, h⟩ := h
    refine ⟨_, spec_val fun ι S A w q1 q2 => ?_, h⟩
    have hI : Imm S w _ _ := q1 x (by simp [ho, Op.operands]) _ hx
    have hs' := (layOf_ok (hL _ _ hle)).sizeOf w
    rw [hsz] at hs'
    generalize hex : A.eval x = u at hI
    cases hI with
    | nil =>
     have hb := run_bounds (P := P) (A := A) (w := w) true 0 0 rfl (Nat.le_refl _) (fun y hy tv htv => q1 y (hops y hy) tv htv) hlo hhi h0 h1 h2
     refine ⟨.slice none 0 0, ?_, ?_⟩
     ·have e1 : l.toNat = 0 := by simp at h2; omega
      have e2 : h'.toNat = 0 := by simp at h2; omega
      rw [e1, e2] at hb
      simp [execOp, ho, hex, Instr.sliceAt, Instr.slice, run_underlying hu, hb, hs']
     ·simp only [List.take_nil, List.drop_nil]
      exact Imm.nil
    | sl0 =>
     rename_i cap a
     have hb := run_bounds (P := P) (A := A) (w := w) true 0 cap rfl (Nat.zero_le _) (fun y hy tv htv => q1 y (hops y hy) tv htv) hlo hhi h0 h1 h2
     have e1 : l.toNat = 0 := by simp at h2; omega
     have e2 : h'.toNat = 0 := by simp at h2; omega
     rw [e1, e2] at hb
     refine ⟨.slice (some a) 0 cap, ?_, ?_⟩
     ·simp [execOp, ho, hex, Instr.sliceAt, Instr.slice, run_underlying hu, hb, hs', Addr.add]
     ·simp only [List.take_nil, List.drop_nil]
      exact Imm.sl0
    | sl us hs hc hrr hc1 hc2 =>
     rename_i g f cap
     have hb := run_bounds (P := P) (A := A) (w := w) true rows.length cap rfl hc (fun y hy tv htv => q1 y (hops y hy) tv htv) hlo hhi h0 h1 h2
     have hlen : ((rows.take h'.toNat).drop l.toNat).length = h'.toNat - l.toNat := by simp; omega
     have hrow : ∀ r ∈ (rows.take h'.toNat).drop l.toNat, r.length = size := fun r hr => hrr r (List.mem_of_mem_take (List.mem_of_mem_drop hr))
     have hcap : h'.toNat ≤ cap := by omega
     by_cases hcl : cap = l.toNat
     ·refine ⟨.slice (some ⟨g, f, none⟩) (h'.toNat - l.toNat) (cap - l.toNat), ?_, ?_⟩
      ·have hb2 := hb
       rw [hcl] at hb2
       simp [execOp, ho, hex, Instr.sliceAt, Instr.slice, run_underlying hu, hb2, hs', hcl]
      ·have hnil : (rows.take h'.toNat).drop l.toNat = [] := List.eq_nil_of_length_eq_zero (by rw [hlen]; omega)
       rw [← hlen, hnil]
       exact Imm.sl (fun _ => undef) hs (by simp) (by simp) (by simp) (by simp)
     ·refine ⟨.slice (some ⟨g, f + l.toNat * size, none⟩) (h'.toNat - l.toNat) (cap - l.toNat), ?_, ?_⟩
      ·simp [execOp, ho, hex, Instr.sliceAt, Instr.slice, run_underlying hu, hb, hs', hcl, Addr.add_lit]
      ·rw [← hlen]
       have hget : ∀ j d, ((rows.take h'.toNat).drop l.toNat).flatten[j]? = some d → rows.flatten[l.toNat * size + j]? = some d := fun j d hj => by
        rw [flatten_part hrr, List.getElem?_drop, List.getElem?_take] at hj
        split at hj
        ·exact hj
        ·cases hj
       exact Imm.sl (fun j => us (l.toNat * size + j)) hs (by rw [hlen]; omega) hrow (fun j d hj => by rw [Nat.add_assoc]; exact hc1 _ _ (hget j d hj)) (fun j d hj => hc2 _ _ (hget j d hj))
   ·exact h.elim
  ·exact h.elim
 ·rename_i e hl hx
  have hu := ((layOf_ok (hL _ _ hl)).under rfl).1 e rfl
  split at h
  ·rename_i le l h' hle hlo hhi
   obtain ⟨h0, h1, h2, h⟩ := h
   refine ⟨_, spec_val fun ι S A w q1 q2 => ⟨.slice none 0 0, ?_, V_mk rfl⟩, h⟩
   have ex := V_v (q1 x (by simp [ho, Op.operands]) _ hx)
   have hb := run_bounds (P := P) (A := A) (w := w) true 0 0 rfl (Nat.le_refl _) (fun y hy tv htv => q1 y (hops y hy) tv htv) hlo hhi h0 h1 h2
   have e1 : l.toNat = 0 := by omega
   have e2 : h'.toNat = 0 := by omega
   rw [e1, e2] at hb
   have hs' := (layOf_ok (hL _ _ hle)).sizeOf w
   simp [execOp, ho, ex, Instr.sliceAt, Instr.slice, run_underlying hu, hb, hs']
  ·exact h.elim
 ·exact h.elim

def exLen (L : Nat → Option Lay) (ev : Operand → Option TV) (mem : Nat → Option Blk) (t : TypeId) (x : Operand) (K : Res → Prop) : Prop :=
 match L t, ev x with
 | some ⟨_, _, _, .str⟩, some (.o (.c (.d (.v (.string s))))) => K (pureR (Tint .i64 s.size))
 | some ⟨_, _, _, .sl _⟩, some (.o (.c (.d (.sl _ rows)))) => ∃ n : Nat, rows.length = n ∧ K (pureR (Tint .i64 n))
 | some ⟨_, _, _, .sl _⟩, some (.o (.c (.d (.v (.slice none 0 0))))) => K (pureR (Tint .i64 0))
 | some ⟨_, _, _, .sl _⟩, some (.o (.c (.row k))) => match mem k with
  | some (.row _ _ rows) => ∃ n : Nat, rows.length = n ∧ K ⟨Tint .i64 n, [k], [], []⟩
  | _ => False
 | _, _ => False
theorem exLen_ok (hL : LOk P L) {t : TypeId} {x : Operand} {ts : Array TypeId} (ho : o.op = .call { callee := .builtin .len, args := #[x], argTypes := ts }) (hts : ts = #[t]) (h : exLen L ev mem t x K) : ∃ r, Spec P Γ o ev mem nx r ∧ K r := by
 subst hts
 have hm : x ∈ o.op.operands := by simp [ho, Op.operands, Call.operands]
 unfold exLen at h
 split at h
 ·rename_i _ _ _ s hl hx
  have hu := ((layOf_ok (hL _ _ hl)).under rfl).2.1 rfl
  refine ⟨_, spec_val fun ι S A w q1 q2 => ⟨goInt s.size, ?_, V_mk rfl⟩, h⟩
  have ex := V_v (q1 x hm _ hx)
  simp [execOp, ho, ex, resolve, invoke, builtin, Builtin.len_, run_underlying hu]
 ·rename_i _ _ _ e size rows hl hx
  have hu := ((layOf_ok (hL _ _ hl)).under rfl).1 e rfl
  obtain ⟨n, rfl, h⟩ := h
  refine ⟨_, spec_val fun ι S A w q1 q2 => ⟨goInt rows.length, ?_, V_mk rfl⟩, h⟩
  have hI : Imm S w _ _ := q1 x hm _ hx
  generalize hex : A.eval x = u at hI
  cases hI <;> simp [execOp, ho, hex, resolve, invoke, builtin, Builtin.len_, run_underlying hu]
 ·rename_i _ _ _ e hl hx
  have hu := ((layOf_ok (hL _ _ hl)).under rfl).1 e rfl
  refine ⟨_, spec_val fun ι S A w q1 q2 => ⟨goInt 0, ?_, V_mk rfl⟩, h⟩
  have ex := V_v (q1 x hm _ hx)
  simp [execOp, ho, ex, resolve, invoke, builtin, Builtin.len_, run_underlying hu]
 ·rename_i _ _ _ e k hl hx
  have hu := ((layOf_ok (hL _ _ hl)).under rfl).1 e rfl
  split at h
  ·rename_i s1 e1 rows hk
   obtain ⟨n, rfl, h⟩ := h
   refine ⟨_, spec_val fun ι S A w q1 q2 => ⟨goInt rows.length, ?_, V_mk rfl⟩, h⟩
   obtain ⟨hex, _⟩ := q1 x hm _ hx
   obtain ⟨cs, h3, _⟩ := q2 k (by simp) _ hk
   rcases h3.2 with ⟨h4, h5⟩ | ⟨g, cap, cur, h4, _⟩
   ·simp [execOp, ho, hex, h4, h5, resolve, invoke, builtin, Builtin.len_, run_underlying hu]
   ·simp [execOp, ho, hex, h4, resolve, invoke, builtin, Builtin.len_, run_underlying hu]
  ·exact h.elim
 ·exact h.elim
def exMin (ev : Operand → Option TV) (x y : Operand) (K : Res → Prop) : Prop :=
 match ev x, ev y with
 | some (.o (.c (.d (.v (.int k a))))), some (.o (.c (.d (.v (.int _ b))))) => ∃ z, (if b < a then b else a) = z ∧ K (pureR (Tint k z))
 | _, _ => False
def exMax (ev : Operand → Option TV) (x y : Operand) (K : Res → Prop) : Prop :=
 match ev x, ev y with
 | some (.o (.c (.d (.v (.int k a))))), some (.o (.c (.d (.v (.int _ b))))) => ∃ z, (if a < b then b else a) = z ∧ K (pureR (Tint k z))
 | _, _ => False
theorem exMin_ok {x y : Operand} {ts : Array TypeId} (ho : o.op = .call { callee := .builtin .min, args := #[x, y], argTypes := ts }) (h : exMin ev x y K) : ∃ r, Spec P Γ o ev mem nx r ∧ K r := by
 unfold exMin at h
 split at h
 ·rename_i k a _ b hx hy
  obtain ⟨z, rfl, h⟩ := h
  refine ⟨_, spec_val fun ι S A w q1 q2 => ⟨.int k (if b < a then b else a), ?_, V_mk rfl⟩, h⟩
  have ex := V_v (q1 x (by simp [ho, Op.operands, Call.operands]) _ hx)
  have ey := V_v (q1 y (by simp [ho, Op.operands, Call.operands]) _ hy)
  simp [execOp, ho, ex, ey, resolve, invoke, builtin, run_min_int2]
 ·exact h.elim
theorem exMax_ok {x y : Operand} {ts : Array TypeId} (ho : o.op = .call { callee := .builtin .max, args := #[x, y], argTypes := ts }) (h : exMax ev x y K) : ∃ r, Spec P Γ o ev mem nx r ∧ K r := by
 unfold exMax at h
 split at h
 ·rename_i k a _ b hx hy
  obtain ⟨z, rfl, h⟩ := h
  refine ⟨_, spec_val fun ι S A w q1 q2 => ⟨.int k (if a < b then b else a), ?_, V_mk rfl⟩, h⟩
  have ex := V_v (q1 x (by simp [ho, Op.operands, Call.operands]) _ hx)
  have ey := V_v (q1 y (by simp [ho, Op.operands, Call.operands]) _ hy)
  simp [execOp, ho, ex, ey, resolve, invoke, builtin, Builtin.max_, Builtin.max2]
 ·exact h.elim
end
end Go.Proofs.YtidnlfkakhmadaaGreatDoor

namespace Go.Proofs.YtidnlfkakhmadaaGreatDoor
open Go.RowKit

section
variable {P : Program} {Γ : Glob} {L : Nat → Option Lay} {o : Oper} {ev : Operand → Option TV} {mem : Nat → Option Blk} {nx : Nat} {K : Res → Prop}

def asD : List CV → Option (List D)
 | [] => some []
 | .d x :: l => (asD l).map (x :: ·)
 | _ :: _ => none
theorem asD_ok {ι : Nat → Value} {S : Nat → Prop} {w : World} : ∀ {l : List CV} {ds : List D} {us : List Value}, asD l = some ds → All2 (VC ι S w) l us → All2 (Imm S w) ds us
 | [], ds, us, h, ha => by
  simp only [asD, Option.some.injEq] at h
  subst h
  obtain rfl := ha.nil_left
  exact .nil
 | .d x :: l, ds, us, h, ha => by
  simp only [asD] at h
  cases hl : asD l with
  | none => simp [hl] at h
  | some ds' =>
   simp only [hl, Option.map_some, Option.some.injEq] at h
   subst h
   obtain ⟨u, us', rfl, h1, h2⟩ := ha.cons_left
   exact .cons h1 (asD_ok hl h2)
 | .ptr _ _ :: _, _, _, h, _ => by simp [asD] at h
 | .eptr _ :: _, _, _, h, _ => by simp [asD] at h
 | .rptr _ _ _ _ :: _, _, _, h, _ => by simp [asD] at h
 | .row _ :: _, _, _, h, _ => by simp [asD] at h
 | .mp _ :: _, _, _, h, _ => by simp [asD] at h
 | .rsl _ _ _ _ :: _, _, _, h, _ => by simp [asD] at h
def eat (mem : Nat → Option Blk) : List CV → Option (List D × List Nat)
 | [] => some ([], [])
 | .d x :: l => (eat mem l).map fun p => (x :: p.1, p.2)
 | .row k :: l => match mem k, eat mem l with
  | some (.row size _ rows), some p => some (.sl size rows :: p.1, k :: p.2)
  | _, _ => none
 | _ :: _ => none
theorem row_imm {ι : Nat → Value} {S S' : Nat → Prop} {w : World} {k size : Nat} {e : TypeId} {rows : List (List D)} (h : BlkOk ι S w k (.row size e rows)) (hS : ∀ b, S b → S' b) (hk : ∀ g, blkOf (ι k) = some g → S' g) : Imm S' w (.sl size rows) (ι k) := by
 obtain ⟨cs, h1, h2, h3, _⟩ := h
 have hlen : cs.length = rows.length * size := by rw [← h2.len, flatten_len h3]
 rcases h1.2 with ⟨h4, h5⟩ | ⟨g, cap, cur, h4, _, h5, h6, _⟩
 ·rw [h4]
  have : rows = [] := List.eq_nil_of_length_eq_zero h5
  rw [this]
  exact .nil
 ·rw [h4]
  have hc := h1.cells (g := g) (by rw [h4]; rfl)
  refine Imm.sl (fun j => cs.getD j undef) (hk g (by rw [h4]; rfl)) h6 h3 (fun j d hj => ?_) (fun j d hj => ?_)
  ·obtain ⟨u, hu, _⟩ := h2.at_left hj
   have := hc j u hu
   rw [Addr.add_lit, Nat.zero_add] at this
   simp [this, List.getD, hu]
  ·obtain ⟨u, hu, hI⟩ := h2.at_left hj
   simp only [List.getD, hu, Option.getD_some]
   exact hI.mono (fun _ _ => rfl) hS
theorem row_lt {ι : Nat → Value} {S : Nat → Prop} {w : World} {k size : Nat} {e : TypeId} {rows : List (List D)} (h : BlkOk ι S w k (.row size e rows)) : ∀ g, blkOf (ι k) = some g → g < w.heap.size ∧ ¬ S g := fun g hg => by
 obtain ⟨cs, h1, _, _, h4⟩ := h
 refine ⟨?_, h4 g hg⟩
 rcases h1.2 with ⟨h5, _⟩ | ⟨g', cap, cur, h5, _, h6, _⟩
 ·rw [h5] at hg; cases hg
 ·rw [h5] at hg; cases hg
  exact (Array.getElem?_eq_some_iff.1 h6).1
def giveUp (ι : Nat → Value) (S : Nat → Prop) (ks : List Nat) : Nat → Prop := fun b => S b ∨ ∃ k ∈ ks, blkOf (ι k) = some b
theorem eat_ok {ι : Nat → Value} {S S' : Nat → Prop} {w : World} (hS : ∀ b, S b → S' b) : ∀ {l : List CV} {ds : List D} {ks : List Nat} {us : List Value}, eat mem l = some (ds, ks) → All2 (VC ι S w) l us → (∀ k ∈ ks, ∀ b, mem k = some b → BlkOk ι S w k b) → (∀ k ∈ ks, ∀ g, blkOf (ι k) = some g → S' g) → All2 (Imm S' w) ds us
 | [], ds, ks, us, h, ha, _, _ => by
  simp only [eat, Option.some.injEq, Prod.mk.injEq] at h
  obtain ⟨rfl, rfl⟩ := h
  obtain rfl := ha.nil_left
  exact .nil
 | .d x :: l, ds, ks, us, h, ha, hb, hs => by
  simp only [eat] at h
  cases hl : eat mem l with
  | none => simp [hl] at h
  | some p =>
   simp only [hl, Option.map_some, Option.some.injEq, Prod.mk.injEq] at h
   obtain ⟨rfl, rfl⟩ := h
   obtain ⟨u, us', rfl, h1, h2⟩ := ha.cons_left
   exact .cons (Imm.mono (fun _ _ => rfl) hS h1) (eat_ok hS hl h2 hb hs)
 | .row k :: l, ds, ks, us, h, ha, hb, hs => by
  simp only [eat] at h
  split at h
  ·rename_i size e rows p hk hl
   simp only [Option.some.injEq, Prod.mk.injEq] at h
   obtain ⟨rfl, rfl⟩ := h
   obtain ⟨u, us', rfl, h1, h2⟩ := ha.cons_left
   obtain ⟨rfl, _⟩ := h1
   exact .cons (row_imm (hb k (by simp) _ hk) hS (hs k (by simp))) (eat_ok hS hl h2 (fun k' hk' => hb k' (by simp [hk'])) (fun k' hk' => hs k' (by simp [hk'])))
  ·cases h
 | .ptr _ _ :: _, _, _, _, h, _, _, _ => by simp [eat] at h
 | .eptr _ :: _, _, _, _, h, _, _, _ => by simp [eat] at h
 | .rptr _ _ _ _ :: _, _, _, _, h, _, _, _ => by simp [eat] at h
 | .mp _ :: _, _, _, _, h, _, _, _ => by simp [eat] at h
 | .rsl _ _ _ _ :: _, _, _, _, h, _, _, _ => by simp [eat] at h
theorem eat_rows {l : List CV} : ∀ {ds : List D} {ks : List Nat}, eat mem l = some (ds, ks) → ∀ k ∈ ks, ∃ size e rows, mem k = some (.row size e rows) := by
 induction l with
 | nil => intro ds ks h k hk; simp only [eat, Option.some.injEq, Prod.mk.injEq] at h; obtain ⟨rfl, rfl⟩ := h; simp at hk
 | cons x l ih =>
  intro ds ks h k hk
  cases x with
  | d x =>
   simp only [eat] at h
   cases hl : eat mem l with
   | none => simp [hl] at h
   | some p =>
    simp only [hl, Option.map_some, Option.some.injEq, Prod.mk.injEq] at h
    obtain ⟨rfl, rfl⟩ := h
    exact ih hl k hk
  | row k' =>
   simp only [eat] at h
   split at h
   ·rename_i size e rows p hk' hl
    simp only [Option.some.injEq, Prod.mk.injEq] at h
    obtain ⟨rfl, rfl⟩ := h
    rcases List.mem_cons.1 hk with rfl | hk
    ·exact ⟨_, _, _, hk'⟩
    ·exact ih hl k hk
   ·cases h
  | _ => simp [eat] at h
abbrev dead (ks : List Nat) : List (Nat × Blk) := ks.map fun k => (k, Blk.dead)

theorem one_at {α : Type} {i : Nat} {a b : α} (h : [a][i]? = some b) : i = 0 ∧ b = a := by
 cases i with
 | zero => simp at h; exact ⟨rfl, h.symm⟩
 | succ i => simp at h
theorem After.made {ι : Nat → Value} {S : Nat → Prop} {w : World} {v : TV} {rd ks : List Nat} {b : Blk} {O : Obj} {X x : Value} (hs : ∀ b, S b → b < w.heap.size) (hks : ∀ k ∈ ks, ∃ size e rows, BlkOk ι S w k (.row size e rows))
  (hX : blkOf X = some w.heap.size) (hok : BlkOk (fun k => if k = nx then X else ι k) (giveUp ι S ks) (w.alloc O) nx b) (hv : V (fun k => if k = nx then X else ι k) (giveUp ι S ks) (w.alloc O) v x) :
  After ι S w nx ⟨v, rd, dead ks, [b]⟩ x (fun k => if k = nx then X else ι k) (giveUp ι S ks) (w.alloc O) := by
 have hlt : ∀ b, giveUp ι S ks b → b < w.heap.size := fun b hb => by
  rcases hb with hb | ⟨k, hk, hb⟩
  ·exact hs b hb
  ·obtain ⟨size, e, rows, h⟩ := hks k hk
   exact (row_lt h b hb).1
 refine ⟨hv, fun k hk => if_neg (by simp at hk; omega), fun b hb => .inl hb, fun b hb => ?_, (fun b hb => by have := hlt b hb; simp; omega), rfl, rfl, rfl, by simp, fun b hb _ => heap_alloc_old w O hb, fun k b hk => ?_, fun i b' hb' => ?_, fun i b' hb' hl g hg => ?_, fun i j b b' g hi hj _ _ _ _ => ?_⟩
 ·rcases hb with hb | ⟨k, hk, hb⟩
  ·exact .inl hb
  ·exact .inr (.inr ⟨k, List.mem_map.2 ⟨k, hk, rfl⟩, hb⟩)
 ·obtain ⟨k', _, he⟩ := List.mem_map.1 hk
  cases he
  trivial
 ·obtain ⟨rfl, rfl⟩ := one_at hb'
  exact hok
 ·obtain ⟨rfl, rfl⟩ := one_at hb'
  simp only [Nat.add_zero, if_true] at hg
  rw [hX] at hg
  cases hg
  exact ⟨fun h => by have := hs _ h; omega, .inl (Nat.le_refl _)⟩
 ·obtain ⟨rfl, _⟩ := one_at hi
  obtain ⟨rfl, _⟩ := one_at hj
  rfl

def tagOf (l : Lay) (t : TypeId) : TypeId := match l.zero with
 | .pointer none :: _ => t
 | _ => 0
theorem tagOf_ok (l : Lay) (t : TypeId) : tagOf l t = 0 ∨ t = tagOf l t := by
 unfold tagOf
 split
 ·exact .inr rfl
 ·exact .inl rfl
def exAlloc (L : Nat → Option Lay) (nx : Nat) (t : TypeId) (K : Res → Prop) : Prop :=
 match L t with
 | some l => match l.zero.all Value.oneCell' with
  | true => K ⟨.o (.c (.ptr nx 0)), [], [], [.obj (l.zero.map fun x => .d (.v x)) (tagOf l t)]⟩
  | false => False
 | none => False
theorem giveUp_nil {ι : Nat → Value} {S : Nat → Prop} : giveUp ι S [] = S := by
 funext b
 simp [giveUp]
theorem VC_alloc {ι : Nat → Value} {S : Nat → Prop} {w : World} {O : Obj} {X : Value} (hs : ∀ b, S b → b < w.heap.size) {x : CV} {u : Value} (hm : x.men nx = false) (h : VC ι S w x u) : VC (fun k => if k = nx then X else ι k) S (w.alloc O) x u :=
 VC.mono (fun b hb => heap_alloc_old w O (hs b hb)) (fun _ h => h) (fun k hk => if_neg (fun e => by subst e; rw [hm] at hk; cases hk)) h
theorem exAlloc_ok (hL : LOk P L) {t : TypeId} (ho : o.op = .alloc t) (h : exAlloc L nx t K) : ∃ r, Spec P Γ o ev mem nx r ∧ K r := by
 unfold exAlloc at h
 split at h
 ·rename_i l hl
  split at h
  ·rename_i hone
   obtain ⟨i, d, z, h1, h2, h3, h4, h5, h6, h7⟩ := (layOf_ok (hL _ _ hl)).ex
   refine ⟨_, spec_gen fun ι S A w hs q1 q2 => ⟨.pointer (some ⟨w.heap.size, 0, none⟩), w.alloc (.cells z.cells t), fun k => if k = nx then .pointer (some ⟨w.heap.size, 0, none⟩) else ι k, S, .inl ?_, ?_⟩, h⟩
   ·simp [execOp, ho, Instr.alloc, zeroValue, typeInfo, h1, h5, newVar, newRow]
   ·have := After.made (nx := nx) (ι := ι) (S := S) (w := w) (v := .o (.c (.ptr nx 0))) (rd := []) (ks := []) (b := .obj (l.zero.map fun x => .d (.v x)) (tagOf l t)) (O := .cells z.cells t) (X := .pointer (some ⟨w.heap.size, 0, none⟩)) (x := .pointer (some ⟨w.heap.size, 0, none⟩)) hs (by simp) rfl
    rw [giveUp_nil] at this
    refine this ⟨w.heap.size, z.cells, ⟨t, tagOf_ok l t⟩, by simp, heap_alloc_new w _, ?_, fun hS => by have := hs _ hS; omega⟩ ⟨w.heap.size, by simp, rfl⟩
    rw [h6]
    exact All2.map_left ⟨rfl, fun i a b ha hb => by rw [ha] at hb; cases hb; exact Imm.v (List.all_eq_true.1 hone a (List.mem_of_getElem? ha))⟩
  ·exact h.elim
 ·exact h.elim
def exBox (ev : Operand → Option TV) (nx : Nat) (x : Operand) (K : Res → Prop) : Prop :=
 match (ev x).bind TV.cells with
 | some l => match l.any (CV.men nx) with
  | false => K ⟨.o (.c (.ptr nx 0)), [], [], [.obj l]⟩
  | true => False
 | none => False
theorem exBox_ok {t : TypeId} {x : Operand} (ho : o.op = .box t x) (h : exBox ev nx x K) : ∃ r, Spec P Γ o ev mem nx r ∧ K r := by
 unfold exBox at h
 split at h
 ·rename_i l hl
  split at h
  ·rename_i hm
   obtain ⟨tv, hx, hc⟩ := Option.bind_eq_some_iff.1 hl
   refine ⟨_, spec_gen fun ι S A w hs q1 q2 => ⟨.pointer (some ⟨w.heap.size, 0, none⟩), w.alloc (.cells (A.eval x).cells t), fun k => if k = nx then .pointer (some ⟨w.heap.size, 0, none⟩) else ι k, S, .inl ?_, ?_⟩, h⟩
   ·simp [execOp, ho, Instr.box, newVar, newRow]
   ·have := After.made (nx := nx) (ι := ι) (S := S) (w := w) (v := .o (.c (.ptr nx 0))) (rd := []) (ks := []) (b := .obj l) (O := .cells (A.eval x).cells t) (X := .pointer (some ⟨w.heap.size, 0, none⟩)) (x := .pointer (some ⟨w.heap.size, 0, none⟩)) hs (by simp) rfl
    rw [giveUp_nil] at this
    refine this ⟨w.heap.size, _, ⟨t, .inl rfl⟩, by simp, heap_alloc_new w _, ?_, fun hS => by have := hs _ hS; omega⟩ ⟨w.heap.size, by simp, rfl⟩
    exact (V_cells (q1 x (by simp [ho, Op.operands]) _ hx) hc).mono_mem fun a u ha hau => VC_alloc hs (by simpa using List.any_eq_false.1 hm a ha) hau
  ·exact h.elim
 ·exact h.elim

def fillC (place : Nat → Option (Nat × Nat)) (cells : List CV) : List (Nat × Option TV) → Option (List CV)
 | [] => some cells
 | (i, v) :: rest => match place i, v.bind TV.cells with
  | some (off, size), some l => match Nat.beq l.length size, Nat.ble (off + l.length) cells.length with
   | true, true => fillC place (setAt cells off l) rest
   | _, _ => none
  | _, _ => none
theorem foldl_set (off : Nat) : ∀ (us : List Value) (k : Nat) (arr : Array Value), off + k + us.length ≤ arr.size →
  ((us.zipIdx k).foldl (fun cs (x : Value × Nat) => cs.setIfInBounds (off + x.2) x.1) arr).toList = setAt arr.toList (off + k) us
 | [], k, arr, _ => by simp [setAt]
 | u :: us, k, arr, h => by
  simp only [List.zipIdx_cons, List.foldl_cons]
  rw [foldl_set off us (k + 1) _ (by simp at h ⊢; omega)]
  simp only [setAt, Array.toList_setIfInBounds]
  simp only [List.length_cons] at h
  have hlt : off + k < arr.toList.length := by simp; omega
  rw [show off + (k + 1) = off + k + 1 by omega, List.take_set, List.take_succ_eq_append_getElem hlt, List.drop_set_of_lt (by omega)]
  rw [List.set_append_right _ _ (by simp; omega)]
  simp only [List.length_take, List.append_assoc, List.length_cons]
  rw [show off + k - min (off + k) arr.toList.length = 0 by simp at hlt ⊢; omega, List.set_cons_zero]
  simp only [List.singleton_append, List.cons_append, List.nil_append]
  congr 3
  congr 1
  omega
theorem fill_ok {ι : Nat → Value} {S : Nat → Prop} {w : World} {place : Nat → Option (Nat × Nat)} : ∀ {ps : List (Nat × Option TV)} {qs : List (Nat × Value)} {cells cs : List CV} {arr : Array Value}, fillC place cells ps = some cs → All2 (VC ι S w) cells arr.toList →
  All2 (fun p q => p.1 = q.1 ∧ ∀ tv, p.2 = some tv → V ι S w tv q.2) ps qs → ∃ arr', Instr.fill place arr qs = some arr' ∧ All2 (VC ι S w) cs arr'.toList
 | [], qs, cells, cs, arr, h, ha, hp => by
  simp only [fillC, Option.some.injEq] at h
  subst h
  obtain rfl := hp.nil_left
  exact ⟨arr, rfl, ha⟩
 | (i, v) :: ps, qs, cells, cs, arr, h, ha, hp => by
  obtain ⟨⟨i', u⟩, qs, rfl, ⟨rfl, hv⟩, hp'⟩ := hp.cons_left
  simp only [fillC] at h
  split at h
  ·rename_i off size l hpl hl
   split at h
   ·rename_i hb1 hb2
    obtain ⟨tv, rfl, hc⟩ := Option.bind_eq_some_iff.1 hl
    have hall := V_cells (hv tv rfl) hc
    have e1 := Nat.eq_of_beq_eq_true hb1
    have e2 := Nat.le_of_ble_eq_true hb2
    have hul : u.cells.size = l.length := by rw [hall.len]; simp
    have hcl : cells.length = arr.size := by simpa using ha.len
    have hset : (u.cells.zipIdx.foldl (fun cs (x : Value × Nat) => cs.setIfInBounds (off + x.2) x.1) arr).toList = setAt arr.toList off u.cells.toList := by
     rw [← Array.foldl_toList, Array.toList_zipIdx]
     have := foldl_set off u.cells.toList 0 arr (by simp; omega)
     simpa using this
    obtain ⟨arr', h1, h2⟩ := fill_ok h (arr := u.cells.zipIdx.foldl (fun cs (x : Value × Nat) => cs.setIfInBounds (off + x.2) x.1) arr) (by rw [hset]; exact ha.setAt hall off) hp'
    refine ⟨arr', ?_, h2⟩
    simp only [Instr.fill, hpl]
    rw [if_neg (by rw [hul, e1, ← hcl]; simp; omega)]
    exact h1
   ·cases h
  ·cases h
def evParts (ev : Operand → Option TV) (ps : Array (Nat × Operand)) : List (Nat × Option TV) := ps.toList.map fun p => (p.1, ev p.2)
theorem parts_ok {ι : Nat → Value} {S : Nat → Prop} {w : World} {A : Act} {ps : Array (Nat × Operand)} (h : ∀ x ∈ ps.toList.map (·.2), ∀ tv, ev x = some tv → V ι S w tv (A.eval x)) :
  All2 (fun (p : Nat × Option TV) (q : Nat × Value) => p.1 = q.1 ∧ ∀ tv, p.2 = some tv → V ι S w tv q.2) (evParts ev ps) (ps.map fun (i, x) => (i, A.eval x)).toList := by
 rw [Array.toList_map]
 refine All2.map_left ⟨by simp, fun i a b ha hb => ?_⟩
 rw [List.getElem?_map, ha] at hb
 cases hb
 exact ⟨rfl, fun tv htv => h _ (List.mem_map.2 ⟨a, List.mem_of_getElem? ha, rfl⟩) tv htv⟩
def exBuild (L : Nat → Option Lay) (ev : Operand → Option TV) (t : TypeId) (ps : Array (Nat × Operand)) (K : Res → Prop) : Prop :=
 match L t with
 | some ⟨_, _, zero, .st fs⟩ => match zero.all Value.oneCell', fillC (fun i => (fs[i]?).map fun x => (x.1, x.2.1)) (zero.map fun x => .d (.v x)) (evParts ev ps) with
  | true, some cs => K (pureR (.o (.g cs)))
  | _, _ => False
 | some ⟨_, _, zero, .arr _ e⟩ => match L e with
  | some le => match zero.all Value.oneCell', fillC (fun i => some (i * le.size, le.size)) (zero.map fun x => .d (.v x)) (evParts ev ps) with
   | true, some cs => K (pureR (.o (.g cs)))
   | _, _ => False
  | none => False
 | _ => False
theorem zero_all {ι : Nat → Value} {S : Nat → Prop} {w : World} {zero : List Value} (h : zero.all Value.oneCell' = true) : All2 (VC ι S w) (zero.map fun x => CV.d (.v x)) zero :=
 All2.map_left ⟨rfl, fun i a b ha hb => by rw [ha] at hb; cases hb; exact Imm.v (List.all_eq_true.1 h a (List.mem_of_getElem? ha))⟩
theorem places_ok {fields : List Field} {fs : List (Nat × Nat × Bool)} (h : fields.mapM (fieldLay P) = some fs) : fields.mapM (fun f => (P.info? f.type).map fun i => (f.offset, i.size)) = some (fs.map fun x => (x.1, x.2.1)) := by
 induction fields generalizing fs with
 | nil => simp at h; subst h; rfl
 | cons f l ih =>
  simp only [List.mapM_cons, Option.bind_eq_bind, Option.pure_def] at h ⊢
  cases hf : fieldLay P f with
  | none => simp [hf] at h
  | some b =>
   cases hr : l.mapM (fieldLay P) with
   | none => simp [hf, hr] at h
   | some r =>
    simp [hf, hr] at h
    subst h
    obtain ⟨e1, ⟨i, e2, e3⟩, _⟩ := fieldLay_spec hf
    rw [ih hr]
    simp [e2, e1, e3]
theorem exBuild_ok (hL : LOk P L) {t : TypeId} {ps : Array (Nat × Operand)} (ho : o.op = .build t ps) (h : exBuild L ev t ps K) : ∃ r, Spec P Γ o ev mem nx r ∧ K r := by
 have hops : ∀ {ι S A w}, Ops o ev ι S A w → ∀ x ∈ ps.toList.map (·.2), ∀ tv, ev x = some tv → V ι S w tv (A.eval x) := fun q1 x hx => q1 x (by simpa [ho, Op.operands] using hx)
 unfold exBuild at h
 split at h
 ·rename_i sz by_ zero fs hl
  split at h
  ·rename_i cs hone hf
   have hlay := layOf_ok (hL _ _ hl)
   obtain ⟨fields, hu, hm⟩ := (hlay.under rfl).2.2.2.2.2 fs rfl
   obtain ⟨i, d, z, h1, h2, h3, h4, h5, h6, h7⟩ := hlay.ex
   refine ⟨_, spec_val fun ι S A w q1 q2 => ?_, h⟩
   obtain ⟨arr', e1, e2⟩ := fill_ok (arr := z.cells) (ι := ι) (S := S) (w := w) hf (by rw [h6]; exact zero_all hone) (parts_ok (A := A) (hops q1))
   refine ⟨.agg arr', ?_, arr'.toList, rfl, e2⟩
   have hb : P.built t (ps.map fun (i, x) => (i, A.eval x)).toList = some arr' := by
    unfold Program.built
    simp only [h1, hu, h5, places_ok hm]
    rw [← e1]
    congr 1
    funext i
    simp
   simp only [execOp, ho]
   rw [Sem.run_bind, run_build w t _ _ hb]
   rfl
  ·exact h.elim
 ·rename_i sz by_ zero n e hl
  split at h
  ·rename_i le hle
   split at h
   ·rename_i cs hone hf
    have hlay := layOf_ok (hL _ _ hl)
    have hu := (hlay.under rfl).2.2.2.2.1 n e rfl
    obtain ⟨i, d, z, h1, h2, h3, h4, h5, h6, h7⟩ := hlay.ex
    obtain ⟨i', d', z', h1', h2', h3', _⟩ := (layOf_ok (hL _ _ hle)).ex
    refine ⟨_, spec_val fun ι S A w q1 q2 => ?_, h⟩
    obtain ⟨arr', e1, e2⟩ := fill_ok (arr := z.cells) (ι := ι) (S := S) (w := w) hf (by rw [h6]; exact zero_all hone) (parts_ok (A := A) (hops q1))
    refine ⟨.agg arr', ?_, arr'.toList, rfl, e2⟩
    have hb : P.built t (ps.map fun (i, x) => (i, A.eval x)).toList = some arr' := by
     unfold Program.built
     simp only [h1, hu, h5, h1']
     rw [h3', ← e1]
    simp only [execOp, ho]
    rw [Sem.run_bind, run_build w t _ _ hb]
    rfl
   ·exact h.elim
  ·exact h.elim
 ·exact h.elim
end
end Go.Proofs.YtidnlfkakhmadaaGreatDoor

namespace Go.Proofs.YtidnlfkakhmadaaGreatDoor
open Go.RowKit

section
variable {P : Program} {Γ : Glob} {L : Nat → Option Lay} {o : Oper} {ev : Operand → Option TV} {mem : Nat → Option Blk} {nx : Nat} {K : Res → Prop}

def exStore (L : Nat → Option Lay) (ev : Operand → Option TV) (mem : Nat → Option Blk) (t : TypeId) (p x : Operand) (K : Res → Prop) : Prop :=
 match L t, ev p, (ev x).bind TV.cells with
 | some l, some (.o (.c (.ptr k off))), some cs => match mem k with
  | some (.obj cells tg) => match Nat.beq cs.length l.size, Nat.ble (off + cs.length) cells.length with
   | true, true => K ⟨.no, [k], [(k, .obj (setAt cells off cs) tg)], []⟩
   | _, _ => False
  | _ => False
 | some l, some (.o (.c (.rptr k size i j))), some cs => match mem k, asD cs with
  | some (.row size' e rows), some ds => size' = size ∧ ∃ r, rows[i]? = some r ∧ (match Nat.beq ds.length l.size, Nat.ble (j + ds.length) size with
   | true, true => ∃ rows', rows.set i (setAt r j ds) = rows' ∧ K ⟨.no, [k], [(k, .row size' e rows')], []⟩
   | _, _ => False)
  | _, _ => False
 | _, _, _ => False
theorem flatten_set {α : Type} {size : Nat} (ds : List α) (j : Nat) (hj : j + ds.length ≤ size) : ∀ {rows : List (List α)} (_ : ∀ r ∈ rows, r.length = size) (i : Nat) (r : List α), rows[i]? = some r → (rows.set i (setAt r j ds)).flatten = setAt rows.flatten (i * size + j) ds
 | [], _, i, r, h => by simp at h
 | a :: rows, hr, 0, r, h => by
  simp only [List.getElem?_cons_zero, Option.some.injEq] at h
  subst h
  have ha := hr a (by simp)
  simp only [List.set_cons_zero, List.flatten_cons, Nat.zero_mul, Nat.zero_add, setAt]
  rw [List.take_append_of_le_length (by omega), List.drop_append_of_le_length (by omega), List.append_assoc, List.append_assoc]
 | a :: rows, hr, i + 1, r, h => by
  have ha := hr a (by simp)
  have ih := flatten_set ds j hj (fun r hr' => hr r (by simp [hr'])) i r (by simpa using h) (rows := rows)
  simp only [List.set_cons_succ, List.flatten_cons, ih]
  have e : (i + 1) * size + j = a.length + (i * size + j) := by rw [ha, Nat.add_mul]; omega
  rw [e]
  simp only [setAt]
  rw [List.take_length_add_append, show a.length + (i * size + j) + ds.length = a.length + (i * size + j + ds.length) by omega, List.drop_length_add_append]
  simp only [List.append_assoc]
theorem setAt_len {α : Type} (l : List α) (off : Nat) (m : List α) (h : off + m.length ≤ l.length) : (setAt l off m).length = l.length := by
 simp [setAt]
 omega
theorem exStore_ok (hL : LOk P L) {t : TypeId} {p x : Operand} (ho : o.op = .store t p x) (h : exStore L ev mem t p x K) : ∃ r, Spec P Γ o ev mem nx r ∧ K r := by
 have hpm : p ∈ o.op.operands := by simp [ho, Op.operands]
 have hxm : x ∈ o.op.operands := by simp [ho, Op.operands]
 unfold exStore at h
 split at h
 ·rename_i l k off cs hl hp hx
  have hlay := layOf_ok (hL _ _ hl)
  obtain ⟨tv, hxv, hcs⟩ := Option.bind_eq_some_iff.1 hx
  split at h
  ·rename_i cells tg hk
   split at h
   ·rename_i hb1 hb2
    have e1 := Nat.eq_of_beq_eq_true hb1
    have e2 := Nat.le_of_ble_eq_true hb2
    refine ⟨_, spec_gen fun ι S A w hs q1 q2 => ?_, h⟩
    obtain ⟨b, hb, hpe⟩ := q1 p hpm _ hp
    obtain ⟨b', arr, ty, h3, h4, h5, h6⟩ := q2 k (by simp) _ hk
    obtain rfl : b = b' := by rw [hb] at h3; cases h3; rfl
    have hall := V_cells (q1 x hxm _ hxv) hcs
    have hlen := h5.len
    have hul : (A.eval x).cells.size = cs.length := by rw [hall.len]; simp
    have hst := run_storeCells_at P b off ty.1 (A.eval x).cells.toList 0 arr w h4 (by simp at hlen ⊢; omega) (fun v hv => by
     obtain ⟨i, hi, rfl⟩ := List.getElem_of_mem hv
     obtain ⟨a, ha, hav⟩ := hall.at_right (List.getElem?_eq_getElem hi)
     exact hav.one)
    simp only [Nat.add_zero] at hst
    have hset : arr.toList.take off ++ (A.eval x).cells.toList ++ arr.toList.drop (off + (A.eval x).cells.toList.length) = setAt arr.toList off (A.eval x).cells.toList := rfl
    rw [hset] at hst
    have hrun : (storeVar t ⟨b, off, none⟩ (A.eval x)).run P w = .ok () (w.setRow b (setAt arr.toList off (A.eval x).cells.toList).toArray) := by
     unfold storeVar
     rw [Sem.run_bind, hlay.sizeOf, Result.andThen_ok]
     rw [if_neg (by simp [hul, e1])]
     exact hst
    have hSb : ∀ b', S b' → (w.setRow b (setAt arr.toList off (A.eval x).cells.toList).toArray).heap[b']? = w.heap[b']? := fun b' hb' => setRow_other w b b' _ (fun e => h6 (e ▸ hb'))
    refine ⟨undef, w.setRow b (setAt arr.toList off (A.eval x).cells.toList).toArray, ι, S, .inr ⟨?_, rfl⟩, ?_⟩
    ·simp only [execOp, ho, hpe, Instr.storeAt, Instr.sureAddr]
     simp only [Sem.run_bind, Sem.run_pure, Result.andThen_ok, hrun]
    ·refine ⟨trivial, fun _ _ => rfl, fun _ h => h, fun _ h => .inl h, (fun b' hb' => by have := hs b' hb'; simpa using this), rfl, rfl, rfl, by simp, fun b' _ hne => ?_, fun k' b' hk' => ?_, (fun _ _ h => by simp at h), (fun _ _ h => by simp at h), (fun _ _ _ _ _ h => by simp at h)⟩
     ·refine setRow_other w b b' _ (fun e => ?_)
      subst e
      exact hne k (by simp) (by rw [hb]; rfl)
     ·simp only [List.mem_singleton, Prod.mk.injEq] at hk'
      obtain ⟨rfl, rfl⟩ := hk'
      refine ⟨b, _, ty, hb, setRow_heap w b arr _ ty.1 _ h4, ?_, h6⟩
      exact (h5.setAt hall off).mono fun a u hau => VC.mono hSb (fun _ h => h) (fun _ _ => rfl) hau
   ·exact h.elim
  ·exact h.elim
 ·rename_i l k size i j cs hl hp hx
  have hlay := layOf_ok (hL _ _ hl)
  obtain ⟨tv, hxv, hcs⟩ := Option.bind_eq_some_iff.1 hx
  split at h
  ·rename_i size' e rows ds hk hds
   obtain ⟨rfl, r, hr, h⟩ := h
   split at h
   ·rename_i hb1 hb2
    have e1 := Nat.eq_of_beq_eq_true hb1
    have e2 := Nat.le_of_ble_eq_true hb2
    obtain ⟨rows', rfl, h⟩ := h
    refine ⟨_, spec_gen fun ι S A w hs q1 q2 => ?_, h⟩
    obtain ⟨b, n, cap, hb, hpe⟩ := q1 p hpm _ hp
    obtain ⟨us, h3, h4, h5, h6⟩ := q2 k (by simp) _ hk
    have hall := asD_ok hds (V_cells (q1 x hxm _ hxv) hcs)
    have hul : (A.eval x).cells.size = ds.length := by rw [hall.len]; simp
    have hlt := (List.getElem?_eq_some_iff.1 hr).1
    have hSb6 : ¬ S b := h6 b (by rw [hb]; rfl)
    rcases h3.2 with ⟨h7, _⟩ | ⟨g, cap', cur, h7, h8, h9, h10, h11, h12, h13⟩
    ·rw [hb] at h7; cases h7
    rw [hb] at h7
    cases h7
    have hbound : i * size' + size' ≤ rows.length * size' := by rw [← Nat.succ_mul]; exact Nat.mul_le_mul_right _ hlt
    have hcur : rows.length * size' ≤ cur.size := by rw [h12]; exact Nat.mul_le_mul_right _ h10
    have hst := run_storeCells_at P b (i * size' + j) e (A.eval x).cells.toList 0 cur w h9 (by simp; omega) (fun v hv => by
     obtain ⟨i, hi, rfl⟩ := List.getElem_of_mem hv
     obtain ⟨a, ha, hav⟩ := hall.at_right (List.getElem?_eq_getElem hi)
     exact hav.one)
    simp only [Nat.add_zero] at hst
    have hset : cur.toList.take (i * size' + j) ++ (A.eval x).cells.toList ++ cur.toList.drop (i * size' + j + (A.eval x).cells.toList.length) = setAt cur.toList (i * size' + j) (A.eval x).cells.toList := rfl
    rw [hset] at hst
    have hrun : (storeVar t ⟨b, i * size' + j, none⟩ (A.eval x)).run P w = .ok () (w.setRow b (setAt cur.toList (i * size' + j) (A.eval x).cells.toList).toArray) := by
     unfold storeVar
     rw [Sem.run_bind, hlay.sizeOf, Result.andThen_ok]
     rw [if_neg (by simp [hul, e1])]
     exact hst
    have hSb : ∀ b', S b' → (w.setRow b (setAt cur.toList (i * size' + j) (A.eval x).cells.toList).toArray).heap[b']? = w.heap[b']? := fun b' hb' => setRow_other w b b' _ (fun e => hSb6 (e ▸ hb'))
    have hlenu : (A.eval x).cells.toList.length = ds.length := by simpa using hul
    refine ⟨undef, w.setRow b (setAt cur.toList (i * size' + j) (A.eval x).cells.toList).toArray, ι, S, .inr ⟨?_, rfl⟩, ?_⟩
    ·simp only [execOp, ho, hpe, Instr.storeAt, Instr.sureAddr]
     simp only [Sem.run_bind, Sem.run_pure, Result.andThen_ok, hrun]
    ·refine ⟨trivial, fun _ _ => rfl, fun _ h => h, fun _ h => .inl h, (fun b' hb' => by have := hs b' hb'; simpa using this), rfl, rfl, rfl, by simp, fun b' _ hne => ?_, fun k' b' hk' => ?_, (fun _ _ h => by simp at h), (fun _ _ h => by simp at h), (fun _ _ _ _ _ h => by simp at h)⟩
     ·refine setRow_other w b b' _ (fun e => ?_)
      subst e
      exact hne k (by simp) (by rw [hb]; rfl)
     ·simp only [List.mem_singleton, Prod.mk.injEq] at hk'
      obtain ⟨rfl, rfl⟩ := hk'
      have hrl : r.length = size' := h5 r (List.mem_of_getElem? hr)
      have hr' : (setAt r j ds).length = size' := by rw [setAt_len _ _ _ (by omega), hrl]
      refine ⟨setAt us (i * size' + j) (A.eval x).cells.toList, ⟨?_, .inr ⟨b, cap, _, by rw [hb]; simp, h8, setRow_heap w b cur _ e _ h9, by simpa using h10, h11, ?_, ?_⟩⟩, ?_, ?_, h6⟩
      ·rw [setAt_len _ _ _ (by rw [hlenu, ← h4.len, flatten_len h5]; omega), ← h4.len, flatten_len h5, List.length_set]
      ·simp only [List.size_toArray]
       rw [setAt_len _ _ _ (by rw [hlenu]; simp; omega)]
       simpa using h12
      ·rw [← h13]
       simp only [List.length_set]
       unfold setAt
       rw [hlenu]
       apply List.ext_getElem?
       intro m
       simp only [List.getElem?_take, List.getElem?_append, List.length_take, List.length_append, List.getElem?_drop, Array.length_toList, hlenu]
       split
       ·rename_i hm
        have hmin1 : min (i * size' + j) cur.size = i * size' + j := by omega
        have hmin2 : min (i * size' + j) (min (rows.length * size') cur.size) = i * size' + j := by omega
        rw [hmin1, hmin2]
        split
        ·split
         ·first | rfl | (split <;> first | rfl | omega)
         ·rfl
        ·rw [if_pos (by omega)]
       ·rename_i hm
        have hmin2 : min (i * size' + j) (min (rows.length * size') cur.size) = i * size' + j := by omega
        rw [hmin2]
        rw [if_neg (by omega), if_neg (by omega)]
      ·rw [flatten_set ds j e2 h5 i r hr]
       exact (h4.setAt hall _).mono fun a u hau => hau.mono hSb (fun _ h => h)
      ·intro r' hr''
       rcases List.mem_or_eq_of_mem_set hr'' with h | h
       ·exact h5 r' h
       ·rw [h]; exact hr'
   ·exact h.elim
  ·exact h.elim
 ·exact h.elim
end
end Go.Proofs.YtidnlfkakhmadaaGreatDoor

namespace Go.Proofs.YtidnlfkakhmadaaGreatDoor
open Go.RowKit

section
variable {P : Program} {Γ : Glob} {L : Nat → Option Lay} {o : Oper} {ev : Operand → Option TV} {mem : Nat → Option Blk} {nx : Nat} {K : Res → Prop}

def chunk {α : Type} (size : Nat) : Nat → List α → List (List α)
 | 0, _ => []
 | n + 1, l => l.take size :: chunk size n (l.drop size)
theorem chunk_len {α : Type} {size : Nat} : ∀ (n : Nat) (l : List α), (chunk size n l).length = n
 | 0, _ => rfl
 | n + 1, l => by simp [chunk, chunk_len n]
theorem chunk_row {α : Type} {size : Nat} : ∀ (n : Nat) (l : List α), l.length = n * size → ∀ r ∈ chunk size n l, r.length = size
 | 0, _, _, r, h => by simp [chunk] at h
 | n + 1, l, hl, r, h => by
  simp only [chunk, List.mem_cons] at h
  rw [Nat.add_mul, Nat.one_mul] at hl
  rcases h with rfl | h
  ·simp; omega
  ·exact chunk_row n (l.drop size) (by simp; omega) r h
theorem chunk_flat {α : Type} {size : Nat} : ∀ (n : Nat) (l : List α), l.length = n * size → (chunk size n l).flatten = l
 | 0, l, hl => by have : l = [] := List.eq_nil_of_length_eq_zero (by simpa using hl); simp [chunk, this]
 | n + 1, l, hl => by
  rw [Nat.add_mul, Nat.one_mul] at hl
  simp only [chunk, List.flatten_cons]
  rw [chunk_flat n (l.drop size) (by simp; omega), List.take_append_drop]
theorem rep_row {α : Type} {n : Nat} {z : List α} : ∀ r ∈ List.replicate n z, r.length = z.length := fun r hr => by rw [(List.mem_replicate.1 hr).2]
theorem made_list (z : Array Value) (n : Nat) (hz : 0 < z.size) : (madeCells z (n * z.size)).toList = (List.replicate n z.toList).flatten := by
 apply List.ext_getElem?
 intro j
 by_cases hj : j < n * z.size
 ·have hd : j / z.size < n := (Nat.div_lt_iff_lt_mul hz).2 hj
  have hm : j % z.size < z.size := Nat.mod_lt _ hz
  have h := flatten_get (rows := List.replicate n z.toList) rep_row (i := j / z.size) (j := j % z.size) (r := z.toList) (d := z[j % z.size]) (by simp [hd]) (by simp [hm])
  rw [Array.length_toList, Nat.div_add_mod'] at h
  rw [h]
  simp [madeCells, hj, hm]
 ·rw [List.getElem?_eq_none (by simp [madeCells]; omega), List.getElem?_eq_none (by rw [flatten_len rep_row]; simp; omega)]
theorem run_buildSliceE (w : World) (t e : TypeId) (len : Nat) (parts : Array (Nat × Value)) (cells : Array Value) (ie : TypeInfo) (z : Value)
  (hu : P.underlying t = some (.slice e)) (hie : P.info? e = some ie) (hz : ie.zero = some z) (hsmall : ¬ len * ie.size > 2 ^ 24)
  (h : Instr.fill (fun i => some (i * ie.size, ie.size)) ((Array.range (len * ie.size)).map (z.cells[· % z.cells.size]!)) parts.toList = some cells) :
  (Instr.buildSlice t len parts).run P w = .ok (.slice (some ⟨w.heap.size, 0, none⟩) len len) (w.alloc (.cells cells e)) := by
 by_cases hpos : len * ie.size = 0
 ·have e0 : Array.range 0 = #[] := Array.eq_empty_of_size_eq_zero (by simp)
  rw [hpos, e0] at h
  have h' : Instr.fill (fun i => some (i * ie.size, ie.size)) #[] parts.toList = some cells := by simpa using h
  simp [Instr.buildSlice, run_underlying hu, sizeOf, typeInfo, hie, hpos, e0, h', newRow]
 ·exact run_buildSlice w t e len parts cells ie z hu hie hz hsmall hpos h
def exBuildSlice (L : Nat → Option Lay) (ev : Operand → Option TV) (mem : Nat → Option Blk) (nx : Nat) (t : TypeId) (len : Nat) (ps : Array (Nat × Operand)) (K : Res → Prop) : Prop :=
 match L t with
 | some ⟨_, _, _, .sl e⟩ => match L e with
  | some le => match Nat.ble (len * le.size) 16777216, Nat.blt 0 le.size, Nat.beq le.zero.length le.size, le.zero.all Value.oneCell' with
   | true, true, true, true => match fillC (fun i => some (i * le.size, le.size)) ((List.replicate len le.zero).flatten.map fun x => .d (.v x)) (evParts ev ps) with
    | some cs => match eat mem cs with
     | some (ds, ks) => match Nat.beq ds.length (len * le.size) with
      | true => K ⟨.o (.c (.row nx)), ks, dead ks, [.row le.size e (chunk le.size len ds)]⟩
      | false => False
     | none => False
    | none => False
   | _, _, _, _ => False
  | none => False
 | _ => False
theorem exBuildSlice_ok (hL : LOk P L) {t : TypeId} {len : Nat} {ps : Array (Nat × Operand)} (ho : o.op = .buildSlice t len ps) (h : exBuildSlice L ev mem nx t len ps K) : ∃ r, Spec P Γ o ev mem nx r ∧ K r := by
 have hops : ∀ {ι S A w}, Ops o ev ι S A w → ∀ x ∈ ps.toList.map (·.2), ∀ tv, ev x = some tv → V ι S w tv (A.eval x) := fun q1 x hx => q1 x (by simpa [ho, Op.operands] using hx)
 unfold exBuildSlice at h
 split at h
 ·rename_i e hl
  have hu := ((layOf_ok (hL _ _ hl)).under rfl).1 e rfl
  split at h
  ·rename_i le hle
   split at h
   ·rename_i hb1 hb2 hb3 hone
    have e1 := Nat.le_of_ble_eq_true hb1
    have e2 : 0 < le.size := Nat.lt_of_succ_le (Nat.le_of_ble_eq_true hb2)
    have e3 := Nat.eq_of_beq_eq_true hb3
    split at h
    ·rename_i cs hf
     split at h
     ·rename_i ds ks hds
      split at h
      ·rename_i hdl
       have e4 := Nat.eq_of_beq_eq_true hdl
       obtain ⟨i, d, z, h1, h2, h3, h4, h5, h6, h7⟩ := (layOf_ok (hL _ _ hle)).ex
       have hzs : z.cells.size = le.size := by rw [← e3, ← h6]; simp
       refine ⟨_, spec_gen fun ι S A w hs q1 q2 => ?_, h⟩
       have hpos : 0 < z.cells.size := by rw [hzs]; exact e2
       have hz0 : All2 (VC ι S w) ((List.replicate len le.zero).flatten.map fun x => CV.d (.v x)) (madeCells z.cells (len * z.cells.size)).toList := by
        rw [made_list z.cells len hpos, h6]
        refine All2.map_left ⟨rfl, fun i a b ha hb => by
         rw [ha] at hb; cases hb
         refine Imm.v ?_
         obtain ⟨l, hl1, hl2⟩ := List.mem_flatten.1 (List.mem_of_getElem? ha)
         rw [(List.mem_replicate.1 hl1).2] at hl2
         exact List.all_eq_true.1 hone a hl2⟩
       obtain ⟨arr', f1, f2⟩ := fill_ok (arr := madeCells z.cells (len * z.cells.size)) (ι := ι) (S := S) (w := w) hf hz0 (parts_ok (A := A) (hops q1))
       have hlen : arr'.size = len * le.size := by
        have := (eat_ok (S' := giveUp ι S ks) (fun b hb => .inl hb) hds f2 (fun k hk b hb => q2 k hk b hb) (fun k hk g hg => .inr ⟨k, hk, hg⟩)).len
        simp at this
        omega
       have hrows : ∀ k ∈ ks, ∃ size e rows, BlkOk ι S w k (.row size e rows) := fun k hk => by
        obtain ⟨size, e', rows, hr⟩ := eat_rows hds k hk
        exact ⟨size, e', rows, q2 k hk _ hr⟩
       have hall := eat_ok (S' := giveUp ι S ks) (fun b hb => .inl hb) hds f2 (fun k hk b hb => q2 k hk b hb) (fun k hk g hg => .inr ⟨k, hk, hg⟩)
       have hglt : ∀ b, giveUp ι S ks b → b < w.heap.size := fun b hb => by
        rcases hb with hb | ⟨k, hk, hb⟩
        ·exact hs b hb
        ·obtain ⟨size, e', rows, hr⟩ := hrows k hk
         exact (row_lt hr b hb).1
       refine ⟨.slice (some ⟨w.heap.size, 0, none⟩) len len, w.alloc (.cells arr' e), _, _, .inl ?_, After.made (X := .slice (some ⟨w.heap.size, 0, none⟩) len len) hs hrows rfl ?_ ?_⟩
       ·have hf1 : Instr.fill (fun i_1 => some (i_1 * i.size, i.size)) ((Array.range (len * i.size)).map (z.cells[· % z.cells.size]!)) (ps.map fun (i, x) => (i, A.eval x)).toList = some arr' := by
         rw [h3, ← f1, ← hzs]; rfl
        have := run_buildSliceE w t e len (ps.map fun (i, x) => (i, A.eval x)) arr' i z hu h1 h5 (by rw [h3]; omega) hf1
        simp only [execOp, ho]
        rw [Sem.run_bind, this]
        rfl
       ·refine ⟨arr'.toList, ?_, ?_, chunk_row _ _ e4, fun b hb hS => ?_⟩
        ·simp only [if_true]
         have := World.ownsRow_lit (base := 0) (e := e) (size := le.size) w arr' len (Nat.zero_le _) (by unfold maxLen; have := Nat.le_mul_of_pos_right len e2; omega) hlen
         rw [chunk_len]
         exact this
        ·rw [chunk_flat _ _ e4]
         exact hall.mono fun a u hau => hau.mono (fun b hb => heap_alloc_old w _ (hglt b hb)) (fun _ h => h)
        ·simp only [if_true, blkOf, Option.some.injEq] at hb
         subst hb
         have := hglt _ hS
         omega
       ·exact ⟨by simp, _, _, _, rfl⟩
      ·exact h.elim
     ·exact h.elim
    ·exact h.elim
   ·exact h.elim
  ·exact h.elim
 ·exact h.elim
def exMake (L : Nat → Option Lay) (ev : Operand → Option TV) (nx : Nat) (t : TypeId) (l c : Operand) (K : Res → Prop) : Prop :=
 match L t, ev l, ev c with
 | some ⟨_, _, _, .sl e⟩, some (.o (.c (.d (.v (.int _ n))))), some (.o (.c (.d (.v (.int _ m))))) => match L e with
  | some le => match Nat.blt 0 le.size, Nat.beq le.zero.length le.size, le.zero.all Value.oneCell' with
   | true, true, true => n = m ∧ 0 ≤ n ∧ n.toNat * (le.bytes + 1) ≤ 140737488355328 ∧ ∃ rows', List.replicate n.toNat (le.zero.map D.v) = rows' ∧ K ⟨.o (.c (.row nx)), [], [], [.row le.size e rows']⟩
   | _, _, _ => False
  | none => False
 | _, _, _ => False
theorem exMake_ok (hL : LOk P L) {t : TypeId} {l c : Operand} (ho : o.op = .makeSlice t l c) (h : exMake L ev nx t l c K) : ∃ r, Spec P Γ o ev mem nx r ∧ K r := by
 unfold exMake at h
 split at h
 ·rename_i e kn n km m hl hn hm
  have hu := ((layOf_ok (hL _ _ hl)).under rfl).1 e rfl
  split at h
  ·rename_i le hle
   split at h
   ·rename_i hb1 hb3 hone
    have e2 : 0 < le.size := Nat.lt_of_succ_le (Nat.le_of_ble_eq_true hb1)
    have e3 := Nat.eq_of_beq_eq_true hb3
    obtain ⟨rfl, h0, hbytes, rows', rfl, h⟩ := h
    obtain ⟨i, d, z, h1, h2, h3, h4, h5, h6, h7⟩ := (layOf_ok (hL _ _ hle)).ex
    have hzs : z.cells.size = le.size := by rw [← e3, ← h6]; simp
    obtain ⟨n, rfl⟩ := Int.eq_ofNat_of_zero_le h0
    simp only [Int.toNat_natCast] at hbytes h
    refine ⟨_, spec_gen fun ι S A w hs q1 q2 => ?_, h⟩
    have el := V_v (q1 l (by simp [ho, Op.operands]) _ hn)
    have ec := V_v (q1 c (by simp [ho, Op.operands]) _ hm)
    have hr := run_make (P := P) w t e i z hu h1 h5 kn km n n (by omega) (Int.le_refl _) (by
     rw [h4]
     have : n * (le.bytes + 1) = le.bytes * n + n := by rw [Nat.mul_add, Nat.mul_one, Nat.mul_comm]
     have h' : ((le.bytes * n : Nat) : Int) ≤ 281474976710656 := by omega
     rwa [Int.natCast_mul] at h') (by
     have : n * (le.bytes + 1) = le.bytes * n + n := by rw [Nat.mul_add, Nat.mul_one, Nat.mul_comm]
     omega)
    simp only [Int.toNat_natCast] at hr
    have := After.made (nx := nx) (ι := ι) (S := S) (w := w) (v := .o (.c (.row nx))) (rd := []) (ks := []) (b := .row le.size e (List.replicate n (le.zero.map .v))) (O := .cells (madeCells z.cells (n * i.size)) e) (X := .slice (some ⟨w.heap.size, 0, none⟩) n n) (x := .slice (some ⟨w.heap.size, 0, none⟩) n n) hs (by simp) rfl
    rw [giveUp_nil] at this
    refine ⟨.slice (some ⟨w.heap.size, 0, none⟩) n n, w.alloc (.cells (madeCells z.cells (n * i.size)) e), _, S, .inl ?_, this ?_ ⟨by simp, _, _, _, rfl⟩⟩
    ·simp only [execOp, ho, el, ec]
     rw [Sem.run_bind, hr]
     rfl
    ·have hmd : (madeCells z.cells (n * i.size)).toList = (List.replicate n le.zero).flatten := by rw [h3, ← hzs, made_list _ _ (by rw [hzs]; exact e2), h6]
     refine ⟨(madeCells z.cells (n * i.size)).toList, ?_, ?_, fun r hr => by rw [(List.mem_replicate.1 hr).2]; simp [e3], fun b hb hS => ?_⟩
     ·simp only [if_true, List.length_replicate]
      exact World.ownsRow_lit (base := 0) (e := e) (size := le.size) w _ n (Nat.zero_le _) (by
       unfold maxLen
       have : n * (le.bytes + 1) = le.bytes * n + n := by rw [Nat.mul_add, Nat.mul_one, Nat.mul_comm]
       omega) (by rw [h3]; simp [madeCells])
     ·rw [hmd]
      have : (List.replicate n (le.zero.map D.v)).flatten = (List.replicate n le.zero).flatten.map D.v := by rw [List.map_flatten, List.map_replicate]
      rw [this]
      refine All2.map_left ⟨rfl, fun i a b ha hb => by
       rw [ha] at hb; cases hb
       refine Imm.v ?_
       obtain ⟨l, hl1, hl2⟩ := List.mem_flatten.1 (List.mem_of_getElem? ha)
       rw [(List.mem_replicate.1 hl1).2] at hl2
       exact List.all_eq_true.1 hone a hl2⟩
     ·simp only [if_true, blkOf, Option.some.injEq] at hb
      subst hb
      have := hs _ hS
      omega
   ·exact h.elim
  ·exact h.elim
 ·exact h.elim

def srcRows (ev : Operand → Option TV) (mem : Nat → Option Blk) (size : Nat) (x : Operand) : Option (List (List D) × List Nat) :=
 match ev x with
 | some (.o (.c (.row k))) => match mem k with
  | some (.row size' _ rows) => if size' = size then some (rows, [k]) else none
  | _ => none
 | some (.o (.c (.d (.sl size' rows)))) => if size' = size then some (rows, []) else none
 | some (.o (.c (.d (.v (.slice none 0 0))))) => some ([], [])
 | _ => none
def dstRows (ev : Operand → Option TV) (mem : Nat → Option Blk) (size : Nat) (e : TypeId) (s : Operand) : Option (List (List D) × List Nat) :=
 match ev s with
 | some (.o (.c (.row k))) => match mem k with
  | some (.row size' e' rows) => if size' = size ∧ e' = e then some (rows, [k]) else none
  | _ => none
 | some (.o (.c (.d (.v (.slice none 0 0))))) => some ([], [])
 | _ => none
theorem srcRows_ok {size : Nat} {x : Operand} {rows : List (List D)} {ks : List Nat} (h : srcRows ev mem size x = some (rows, ks)) {ι : Nat → Value} {S : Nat → Prop} {w : World} {A : Act} (hx : ∀ tv, ev x = some tv → V ι S w tv (A.eval x))
  (hk : ∀ k ∈ ks, ∀ b, mem k = some b → BlkOk ι S w k b) :
  (rows = [] ∧ A.eval x = .slice none 0 0) ∨ ∃ (a : Addr) (c : Nat) (us : List Value), A.eval x = .slice (some a) rows.length c ∧ (∀ j u, us[j]? = some u → w.cell? (a.add j) = some u) ∧ All2 (Imm S w) rows.flatten us ∧ ∀ r ∈ rows, r.length = size := by
 unfold srcRows at h
 split at h
 ·rename_i k hev
  split at h
  ·rename_i size' e' rows' hm
   split at h
   ·rename_i hsz
    subst hsz
    simp only [Option.some.injEq, Prod.mk.injEq] at h
    obtain ⟨rfl, rfl⟩ := h
    obtain ⟨he, _⟩ := hx _ hev
    obtain ⟨cs, h1, h2, h3, h4⟩ := hk k (by simp) _ hm
    rcases h1.2 with ⟨h5, h6⟩ | ⟨g, cap, cur, h5, _, h6, _⟩
    ·exact .inl ⟨List.eq_nil_of_length_eq_zero h6, he.trans h5⟩
    ·exact .inr ⟨⟨g, 0, none⟩, cap, cs, he.trans h5, fun j u hj => h1.cells (g := g) (by rw [h5]; rfl) j u hj, h2, h3⟩
   ·cases h
  ·cases h
 ·rename_i size' rows' hev
  split at h
  ·rename_i hsz
   subst hsz
   simp only [Option.some.injEq, Prod.mk.injEq] at h
   obtain ⟨rfl, rfl⟩ := h
   have hI : Imm S w _ _ := hx _ hev
   generalize A.eval x = u at hI
   cases hI with
   | nil => exact .inl ⟨rfl, rfl⟩
   | sl0 => exact .inr ⟨_, _, [], rfl, (fun j u hj => by simp at hj), .nil, by simp⟩
   | sl us hs hc hr h1 h2 =>
    rename_i g f cap
    refine .inr ⟨⟨g, f, none⟩, cap, (List.range rows'.flatten.length).map us, rfl, fun j u hj => ?_, ⟨by simp, fun i d u hd hu => ?_⟩, hr⟩
    ·obtain ⟨hj1, hj2⟩ := List.getElem?_eq_some_iff.1 hj
     simp only [List.length_map, List.length_range] at hj1
     simp at hj2
     subst hj2
     rw [Addr.add_lit]
     exact h1 j _ (List.getElem?_eq_getElem hj1)
    ·obtain ⟨hj1, hj2⟩ := List.getElem?_eq_some_iff.1 hu
     simp at hj2
     subst hj2
     exact h2 i d hd
  ·cases h
 ·simp only [Option.some.injEq, Prod.mk.injEq] at h
  obtain ⟨rfl, rfl⟩ := h
  rename_i hev
  exact .inl ⟨rfl, V_v (hx _ hev)⟩
 ·cases h
theorem dstRows_ok {size : Nat} {e : TypeId} {x : Operand} {rows : List (List D)} {ks : List Nat} (h : dstRows ev mem size e x = some (rows, ks)) {ι : Nat → Value} {S : Nat → Prop} {w : World} {A : Act} (hx : ∀ tv, ev x = some tv → V ι S w tv (A.eval x))
  (hk : ∀ k ∈ ks, ∀ b, mem k = some b → BlkOk ι S w k b) :
  ∃ xs, w.ownsRow 0 e size (A.eval x) rows.length xs ∧ All2 (Imm S w) rows.flatten xs ∧ (∀ r ∈ rows, r.length = size) ∧ (∀ g, blkOf (A.eval x) = some g → ¬ S g ∧ ∃ k ∈ ks, blkOf (ι k) = some g) := by
 unfold dstRows at h
 split at h
 ·rename_i k hev
  split at h
  ·rename_i size' e' rows' hm
   split at h
   ·rename_i hsz
    obtain ⟨rfl, rfl⟩ := hsz
    simp only [Option.some.injEq, Prod.mk.injEq] at h
    obtain ⟨rfl, rfl⟩ := h
    obtain ⟨he, _⟩ := hx _ hev
    obtain ⟨cs, h1, h2, h3, h4⟩ := hk k (by simp) _ hm
    rw [he]
    exact ⟨cs, h1, h2, h3, fun g hg => ⟨h4 g hg, k, by simp, hg⟩⟩
   ·cases h
  ·cases h
 ·simp only [Option.some.injEq, Prod.mk.injEq] at h
  obtain ⟨rfl, rfl⟩ := h
  rename_i hev
  rw [V_v (hx _ hev)]
  exact ⟨[], World.ownsRow_nil w _ _ _, .nil, by simp, fun g hg => by cases hg⟩
 ·cases h
theorem base0 {w : World} {base : Nat} {e : TypeId} {size : Nat} {v : Value} {n : Nat} {xs : List Value} (h : w.ownsRow base e size v n xs) : w.ownsRow 0 e size v n xs := by
 refine ⟨h.1, ?_⟩
 rcases h.2 with h2 | ⟨g, cap, cur, rfl, h3, h4⟩
 ·exact Or.inl h2
 ·exact Or.inr ⟨g, cap, cur, rfl, Nat.zero_le _, h4⟩
theorem run_append_row (w : World) (t ty e : TypeId) (i : TypeInfo) (z : Value) (size bytes : Nat) (ht : P.underlying t = some (.slice e)) (hi : P.info? e = some i) (hz : i.zero = some z)
  (hsize : i.size = size) (hby : i.bytes = bytes) (hzs : z.cells.size = size) (hsz : 0 < size) (v : Value) (n : Nat) (xs : List Value) (hown : w.ownsRow 0 e size v n xs)
  (ad : Addr) (m c : Nat) (news : List Value) (hl : news.length = m * size) (hnews : ∀ j u, news[j]? = some u → w.cell? (ad.add j) = some u) (h1 : ∀ u ∈ news, u.oneCell' = true)
  (h63 : n + m ≤ maxLen) (hbytes : (n + m) * bytes ≤ 140737488355328) :
  ∃ v' w', (Builtin.append_ #[t, t] ty #[v, .slice (some ad) m c]).run P w = .ok v' w' ∧ w'.ownsRow 0 e size v' (n + m) (xs ++ news) ∧ w.grownBy w' v.ownBlock ∧ (v'.ownBlock = v.ownBlock ∨ ∀ g, v'.ownBlock = some g → w.heap.size ≤ g) := by
 rcases hown.2 with ⟨rfl, rfl⟩ | ⟨g, cap, cur, rfl, hg, hgg, hnc, hcm, hcs, htk⟩
 ·have hx : xs = [] := List.eq_nil_of_length_eq_zero (by simpa using hown.1)
  subst hx
  obtain ⟨v', w', hr, h2, h3, _⟩ := run_append_own (P := P) w w.heap.size t ty e i z size bytes ht hi hz hsize hby hzs hsz (.slice none 0 0) 0 [] (World.ownsRow_nil w _ e size) ad m c news hl hnews h1 h63 hbytes (Nat.le_refl _)
  exact ⟨v', w', hr, base0 h2, h3, Or.inr fun g hg => (h2.lt g hg).1⟩
 ·by_cases hf : n + m ≤ cap
  ·obtain ⟨w', hr, h2, h3⟩ := run_append_fits (P := P) w 0 t ty e i size ht hi hsize g n cap xs hown ad m c news hl hnews h1 hf
   exact ⟨_, w', hr, h2, h3, Or.inl rfl⟩
  ·obtain ⟨v', w', hr, h2, h3⟩ := run_append_arg_grows (P := P) w t ty e i z size bytes ht hi hz hsize hby hzs hsz ⟨g, 0, none⟩ n cap xs hown.1 (fun j u hj => hown.cells rfl j u hj) ad m c news hl hnews (by omega) h63 hbytes
   exact ⟨v', w', hr, base0 h2, ⟨h3.os, h3.tape, h3.output, h3.size, fun k hk _ => h3.block k hk (by simp)⟩, Or.inr fun g hg => (h2.lt g hg).1⟩
theorem own_blk {w : World} {base : Nat} {e : TypeId} {size : Nat} {v : Value} {n : Nat} {xs : List Value} (h : w.ownsRow base e size v n xs) : blkOf v = v.ownBlock ∧ ∃ o n c, v = .slice o n c := by
 rcases h.2 with ⟨rfl, _⟩ | ⟨g, cap, cur, rfl, _⟩
 ·exact ⟨rfl, _, _, _, rfl⟩
 ·exact ⟨rfl, _, _, _, rfl⟩
def exAppend (L : Nat → Option Lay) (ev : Operand → Option TV) (mem : Nat → Option Blk) (nx : Nat) (t : TypeId) (s x : Operand) (K : Res → Prop) : Prop :=
 match L t with
 | some ⟨_, _, _, .sl e⟩ => match L e with
  | some le => match Nat.blt 0 le.size, Nat.beq le.zero.length le.size, dstRows ev mem le.size e s, srcRows ev mem le.size x with
   | true, true, some (r1, k1), some (r2, k2) => (r1.length + r2.length) * (le.bytes + 1) ≤ 140737488355328 ∧ ∃ rows', r1 ++ r2 = rows' ∧ K ⟨.o (.c (.row nx)), k1 ++ k2, dead k1, [.row le.size e rows']⟩
   | _, _, _, _ => False
  | none => False
 | _ => False
theorem exAppend_ok (hL : LOk P L) {t : TypeId} {s x : Operand} {ts : Array TypeId} (ho : o.op = .call { callee := .builtin .append, args := #[s, x], argTypes := ts }) (hts : ts = #[t, t]) (h : exAppend L ev mem nx t s x K) : ∃ r, Spec P Γ o ev mem nx r ∧ K r := by
 subst hts
 have hsm : s ∈ o.op.operands := by simp [ho, Op.operands, Call.operands]
 have hxm : x ∈ o.op.operands := by simp [ho, Op.operands, Call.operands]
 unfold exAppend at h
 split at h
 ·rename_i e hl
  have hu := ((layOf_ok (hL _ _ hl)).under rfl).1 e rfl
  split at h
  ·rename_i le hle
   split at h
   ·rename_i r1 k1 r2 k2 hb1 hb3 hd hsrc
    have e2 : 0 < le.size := Nat.lt_of_succ_le (Nat.le_of_ble_eq_true hb1)
    have e3 := Nat.eq_of_beq_eq_true hb3
    obtain ⟨hbytes, rows', rfl, h⟩ := h
    obtain ⟨i, d, z, h1, h2, h3, h4, h5, h6, h7⟩ := (layOf_ok (hL _ _ hle)).ex
    have hzs : z.cells.size = le.size := by rw [← e3, ← h6]; simp
    refine ⟨_, spec_gen fun ι S A w hs q1 q2 => ?_, h⟩
    obtain ⟨xs, hown, hall1, hrow1, hblk⟩ := dstRows_ok hd (A := A) (fun tv htv => q1 s hsm tv htv) (fun k hk b hb => q2 k (by simp [hk]) b hb)
    have hfin : ∀ (v' : Value) (w' : World) (ys : List Value), (execOp A.eval ‹Oper›).run P w = .ok (.value v') w' → w'.ownsRow 0 e le.size v' (r1.length + r2.length) (xs ++ ys) → w.grownBy w' (A.eval s).ownBlock →
      ((v'.ownBlock = (A.eval s).ownBlock) ∨ ∀ g, v'.ownBlock = some g → w.heap.size ≤ g) → All2 (Imm S w) r2.flatten ys → (∀ r ∈ r2, r.length = le.size) →
      ∃ x w' ι' S', ((execOp A.eval ‹Oper›).run P w = .ok (.value x) w' ∨ ((execOp A.eval ‹Oper›).run P w = .ok .skip w' ∧ x = undef)) ∧ After ι S w nx ⟨.o (.c (.row nx)), k1 ++ k2, dead k1, [.row le.size e (r1 ++ r2)]⟩ x ι' S' w' := fun v' w' ys hrun hown' hg hv' hall2 hrow2 => by
     obtain ⟨hb', hsl'⟩ := own_blk hown'
     obtain ⟨hb0, _⟩ := own_blk hown
     have hSb : ∀ b, S b → w'.heap[b]? = w.heap[b]? := fun b hb => hg.block b (hs b hb) (fun he => (hblk b (by rw [hb0, ← he])).1 hb)
     refine ⟨v', w', fun k => if k = nx then v' else ι k, S, .inl hrun, ⟨by simp, hsl'⟩, fun k hk => if_neg (by simp at hk; omega), fun _ h => h, fun _ h => .inl h, fun b hb => Nat.lt_of_lt_of_le (hs b hb) hg.size, hg.os, hg.tape, hg.output, hg.size, fun b hb hne => ?_, fun k b hk => ?_, fun i b hb => ?_, fun i b hb hl g hgv => ?_, fun i j b b' g hi hj _ _ _ _ => ?_⟩
     ·refine hg.block b hb (fun he => ?_)
      obtain ⟨_, k, hk, hkb⟩ := hblk b (by rw [hb0, ← he])
      exact hne k (List.mem_map.2 ⟨(k, .dead), List.mem_map.2 ⟨k, hk, rfl⟩, rfl⟩) hkb
     ·obtain ⟨k', _, he⟩ := List.mem_map.1 hk
      cases he
      trivial
     ·obtain ⟨rfl, rfl⟩ := one_at hb
      refine ⟨xs ++ ys, by simpa using hown', ?_, fun r hr => ?_, fun b hb => ?_⟩
      ·rw [List.flatten_append]
       exact (hall1.append hall2).mono fun a u hau => hau.mono hSb (fun _ h => h)
      ·rcases List.mem_append.1 hr with hr | hr
       ·exact hrow1 r hr
       ·exact hrow2 r hr
      ·simp only [Nat.add_zero, if_true] at hb
       rw [hb'] at hb
       rcases hv' with hv' | hv'
       ·rw [hv', ← hb0] at hb
        exact (hblk b hb).1
       ·intro hSS
        have := hv' b hb
        have := hs b hSS
        omega
     ·obtain ⟨rfl, rfl⟩ := one_at hb
      simp only [Nat.add_zero, if_true] at hgv
      rw [hb'] at hgv
      rcases hv' with hv' | hv'
      ·rw [hv', ← hb0] at hgv
       obtain ⟨hn, k, hk, hkb⟩ := hblk g hgv
       exact ⟨hn, .inr ⟨k, List.mem_map.2 ⟨k, hk, rfl⟩, hkb⟩⟩
      ·have := hv' g hgv
       exact ⟨fun hSS => by have := hs g hSS; omega, .inl this⟩
     ·obtain ⟨rfl, _⟩ := one_at hi
      obtain ⟨rfl, _⟩ := one_at hj
      rfl
    have hlen1 : (r1.length + r2.length) * le.bytes ≤ 140737488355328 := by
     have : (r1.length + r2.length) * (le.bytes + 1) = (r1.length + r2.length) * le.bytes + (r1.length + r2.length) := by rw [Nat.mul_add, Nat.mul_one]
     omega
    have hlen2 : r1.length + r2.length ≤ maxLen := by
     unfold maxLen
     have : (r1.length + r2.length) * (le.bytes + 1) = (r1.length + r2.length) * le.bytes + (r1.length + r2.length) := by rw [Nat.mul_add, Nat.mul_one]
     omega
    rcases srcRows_ok hsrc (A := A) (fun tv htv => q1 x hxm tv htv) (fun k hk b hb => q2 k (by simp [hk]) b hb) with ⟨rfl, hx⟩ | ⟨a, c, us, hx, hcell, hall2, hrow2⟩
    ·refine hfin (A.eval s) w [] ?_ (by simpa using hown) ⟨rfl, rfl, rfl, Nat.le_refl _, fun _ _ _ => rfl⟩ (.inl rfl) .nil (by simp)
     have := run_append_owned_none (P := P) w 0 t (‹Oper›).type e i le.size hu h1 (A.eval s) r1.length xs hown
     simp [execOp, ho, hx, resolve, invoke, builtin, this]
    ·have hul : us.length = r2.length * le.size := by rw [← hall2.len, flatten_len hrow2]
     obtain ⟨v', w', hr, ho', hg, hv'⟩ := run_append_row (P := P) w t (‹Oper›).type e i z le.size le.bytes hu h1 h5 h3 h4 hzs e2 (A.eval s) r1.length xs hown a r2.length c us hul hcell (fun u hu => by
      obtain ⟨j, hj, rfl⟩ := List.getElem_of_mem hu
      obtain ⟨d, _, hd⟩ := hall2.at_right (List.getElem?_eq_getElem hj)
      exact hd.one) hlen2 hlen1
     refine hfin v' w' us ?_ ho' hg hv' hall2 hrow2
     simp [execOp, ho, hx, resolve, invoke, builtin, hr]
   ·exact h.elim
  ·exact h.elim
 ·exact h.elim
end
end Go.Proofs.YtidnlfkakhmadaaGreatDoor

namespace Go.Proofs.YtidnlfkakhmadaaGreatDoor
open Go.RowKit

def byteRows (l : List UInt8) : List (List D) := l.map fun b => [.v (.int .u8 b.toNat)]
theorem byteRows_flat (l : List UInt8) : (byteRows l).flatten = l.map fun b => D.v (.int .u8 b.toNat) := by
 induction l with
 | nil => rfl
 | cons b l ih => simp only [byteRows, List.map_cons, List.flatten_cons] at ih ⊢; rw [ih]; rfl
theorem bytes_push (l : List UInt8) : ∀ s : ByteArray, (l.map fun b : UInt8 => (b.toNat : Int)).foldl (fun r n => r.push (UInt8.ofNat n.toNat)) s = ⟨s.data ++ l.toArray⟩ := by
 induction l with
 | nil => intro s; simp
 | cons b l ih =>
  intro s
  simp only [List.map_cons, List.foldl_cons]
  rw [ih]
  simp [ByteArray.push]
section
variable {P : Program} {Γ : Glob} {L : Nat → Option Lay} {o : Oper} {ev : Operand → Option TV} {mem : Nat → Option Blk} {nx : Nat} {K : Res → Prop}
def exConvB (L : Nat → Option Lay) (ev : Operand → Option TV) (mem : Nat → Option Blk) (src dst : TypeId) (x : Operand) (K : Res → Prop) : Prop :=
 match L src, L dst with
 | some _, some ⟨_, _, _, .sl e⟩ => match L e, ev x with
  | some ⟨_, _, _, .int .u8⟩, some (.o (.c (.d (.v (.string s))))) => K (pureR (Tsl 1 (byteRows s.data.toList)))
  | _, _ => False
 | some ⟨_, _, _, .sl e⟩, some ⟨_, _, _, .str⟩ => match L e, srcRows ev mem 1 x with
  | some ⟨_, _, _, .int .u8⟩, some (rows, ks) => ∃ l, rows = byteRows l ∧ K ⟨Tstr ⟨l.toArray⟩, ks, [], []⟩
  | _, _ => False
 | _, _ => exConv L ev src dst x K
theorem exConvB_ok (hL : LOk P L) {src dst : TypeId} {x : Operand} (ho : o.op = .convert src dst x) (h : exConvB L ev mem src dst x K) : ∃ r, Spec P Γ o ev mem nx r ∧ K r := by
 unfold exConvB at h
 split at h
 ·rename_i l1 _ _ _ e hs hd
  obtain ⟨i1, d1, z1, _, hu1, _⟩ := (layOf_ok (hL _ _ hs)).ex
  have hu := ((layOf_ok (hL _ _ hd)).under rfl).1 e rfl
  split at h
  ·rename_i _ _ _ s he hx
   have hue := ((layOf_ok (hL _ _ he)).under rfl).2.2.2.1 .u8 rfl
   refine ⟨_, spec_gen fun ι S A w hs q1 q2 => ?_, h⟩
   have ex := V_v (q1 x (by simp [ho, Op.operands]) _ hx)
   refine ⟨.slice (some ⟨w.heap.size, 0, none⟩) s.size (grownCap w s.size 0 e), Lib.bytesWorld w e s, ι, fun b => S b ∨ b = w.heap.size, .inl ?_, ?_⟩
   ·have := Lib.run_convert_string_bytes w src dst e s hu1 hu hue
    simp only [execOp, ho, ex]
    rw [Sem.run_bind, this]
    rfl
   ·refine ⟨?_, fun _ _ => rfl, fun b hb => .inl hb, fun b hb => ?_, fun b hb => ?_, rfl, rfl, rfl, by rw [Lib.bytesWorld_size]; omega, fun b hb _ => Lib.bytesWorld_at_old w e s b hb, (fun _ _ h => by simp at h), (fun _ _ h => by simp at h), (fun _ _ h => by simp at h), (fun _ _ _ _ _ h => by simp at h)⟩
    ·have hlen : s.size = (byteRows s.data.toList).length := by simp [byteRows]
     have hflat := byteRows_flat s.data.toList
     show Imm _ _ (.sl 1 (byteRows s.data.toList)) (.slice (some ⟨w.heap.size, 0, none⟩) s.size (grownCap w s.size 0 e))
     have hcap := grownCap_ge w s.size 0 e
     rw [hlen] at hcap ⊢
     refine Imm.sl (fun j => .int .u8 ((s.data.toList.getD j 0).toNat : Int)) (.inr rfl) hcap (fun r hr => ?_) (fun j d hj => ?_) (fun j d hj => ?_)
     ·obtain ⟨b, _, rfl⟩ := List.mem_map.1 hr; rfl
     ·have hj' := (List.getElem?_eq_some_iff.1 hj).1
      rw [hflat, List.length_map] at hj'
      rw [Nat.zero_add, Lib.bytesWorld_cell w e s j (by simpa using hj')]
     ·rw [hflat, List.getElem?_map] at hj
      obtain ⟨b, hb, rfl⟩ := Option.map_eq_some_iff.1 hj
      have : s.data.toList.getD j 0 = b := by simp only [List.getD, hb, Option.getD_some]
      rw [this]
      exact Imm.v rfl
    ·rcases hb with hb | hb
     ·exact .inl hb
     ·exact .inr (.inl (by omega))
    ·rw [Lib.bytesWorld_size]
     rcases hb with hb | hb
     ·have := hs b hb; omega
     ·omega
  ·exact h.elim
 ·rename_i e _ _ _ hs hd
  have hu1 := ((layOf_ok (hL _ _ hs)).under rfl).1 e rfl
  have hu := ((layOf_ok (hL _ _ hd)).under rfl).2.1 rfl
  split at h
  ·rename_i _ _ _ rows ks he hsrc
   have hue := ((layOf_ok (hL _ _ he)).under rfl).2.2.2.1 .u8 rfl
   obtain ⟨l, rfl, h⟩ := h
   refine ⟨_, spec_val fun ι S A w q1 q2 => ⟨.string ⟨l.toArray⟩, ?_, V_mk rfl⟩, h⟩
   rcases srcRows_ok hsrc (A := A) (fun tv htv => q1 x (by simp [ho, Op.operands]) tv htv) (fun k hk b hb => q2 k hk b hb) with ⟨hn, hx⟩ | ⟨a, c, us, hx, hcell, hall, _⟩
   ·have hl : l = [] := by simpa [byteRows] using hn
    subst hl
    simp only [execOp, ho, hx]
    rw [Sem.run_bind, run_convert_bytes_string w src dst e _ _ _ hu1 hue hu]
    rfl
   ·rw [byteRows_flat] at hall
    have hus : us = (l.map fun b : UInt8 => (b.toNat : Int)).map (Value.int .u8) := by
     rw [List.map_map]
     apply List.ext_getElem?
     intro j
     rw [List.getElem?_map]
     cases hb : l[j]? with
     | none =>
      have : us.length ≤ j := by rw [← hall.len, List.length_map]; simpa using hb
      simp [List.getElem?_eq_none this]
     | some b =>
      obtain ⟨u, hu1, hu2⟩ := hall.at_left (i := j) (a := D.v (.int .u8 b.toNat)) (by simp [hb])
      cases hu2
      rw [hu1]; rfl
    have hlen : us.length = (byteRows l).length := by rw [← hall.len]; simp [byteRows]
    have hload := run_loadCells_list (P := P) w a us hcell
    rw [hlen, hus] at hload
    have hb := run_bytesToString (P := P) w a (byteRows l).length c _ hload
    rw [bytes_push] at hb
    simp only [execOp, ho, hx]
    rw [Sem.run_bind, run_convert_bytes_string w src dst e _ _ _ hu1 hue hu, hb]
    simp
  ·exact h.elim
 ·exact exConv_ok hL ho h
end
end Go.Proofs.YtidnlfkakhmadaaGreatDoor

namespace Go.Proofs.YtidnlfkakhmadaaGreatDoor
open Go.RowKit

theorem run_append_row_str {P : Program} (w : World) (t u ty e : TypeId) (i : TypeInfo) (ht : P.underlying t = some (.slice e)) (hu : P.underlying u = some .string) (hi : P.info? e = some i) (hz : i.zero = some (.int .u8 0))
  (hsize : i.size = 1) (hby : i.bytes = 1) (v : Value) (n : Nat) (xs : List Value) (hown : w.ownsRow 0 e 1 v n xs) (s : ByteArray) (hb : n + s.size ≤ 140737488355328) :
  ∃ v' w', (Builtin.append_ #[t, u] ty #[v, .string s]).run P w = .ok v' w' ∧ w'.ownsRow 0 e 1 v' (n + s.size) (xs ++ Lib.strCells s) ∧ w.grownBy w' v.ownBlock ∧ (v'.ownBlock = v.ownBlock ∨ ∀ g, v'.ownBlock = some g → w.heap.size ≤ g) := by
 have h63 : n + s.size ≤ maxLen := by unfold maxLen; omega
 rcases hown.2 with ⟨rfl, rfl⟩ | ⟨g, cap, cur, rfl, hg, hgg, hnc, hcm, hcs, htk⟩
 ·have hx : xs = [] := List.eq_nil_of_length_eq_zero (by simpa using hown.1)
  subst hx
  obtain ⟨v', w', hr, h2, h3, _⟩ := Lib.run_append_own_string (P := P) w w.heap.size t u ty e i ht hu hi hz hsize hby (.slice none 0 0) 0 [] (World.ownsRow_nil w _ e 1) s h63 hb (Nat.le_refl _)
  exact ⟨v', w', hr, base0 h2, h3, Or.inr fun g hg => (h2.lt g hg).1⟩
 ·obtain ⟨v', w', hr, h2, h3, _⟩ := Lib.run_append_own_string (P := P) w 0 t u ty e i ht hu hi hz hsize hby _ n xs hown s h63 hb (Nat.zero_le _)
  refine ⟨v', w', hr, h2, h3, ?_⟩
  by_cases hroom : n + s.size ≤ cap
  ·have hcs' : cur.size = cap := by simpa using hcs
   have hr2 := Lib.run_append_room_string (P := P) w t u ty e i ht hu hi hsize g n cap cur hgg s hroom (by omega)
   rw [hr] at hr2
   cases hr2
   exact .inl rfl
  ·have holds : ∀ j u, xs[j]? = some u → w.cell? ((⟨g, 0, none⟩ : Addr).add j) = some u := hown.cells (g := g) rfl
   have hr2 := Lib.run_append_grow_string (P := P) w t u ty e i (.int .u8 0) ht hu hi hz ⟨g, 0, none⟩ n cap xs (by rw [hsize]; simpa using hown.1) holds s (by omega) (by omega) (by rw [hby]; exact growslice_fits (by omega) (by omega))
   rw [hr] at hr2
   cases hr2
   refine .inr fun g' hg' => ?_
   cases hg'
   exact Nat.le_refl _
section
variable {P : Program} {Γ : Glob} {L : Nat → Option Lay} {o : Oper} {ev : Operand → Option TV} {mem : Nat → Option Blk} {nx : Nat} {K : Res → Prop}
def InfoU8 (P : Program) (e : TypeId) : Prop := ∃ i, P.info? e = some i ∧ i.zero = some (.int .u8 0) ∧ i.size = 1 ∧ i.bytes = 1
def exAppendS (P : Program) (L : Nat → Option Lay) (ev : Operand → Option TV) (mem : Nat → Option Blk) (nx : Nat) (t t' : TypeId) (s x : Operand) (K : Res → Prop) : Prop :=
 match L t, L t', ev x with
 | some ⟨_, _, _, .sl e⟩, some ⟨_, _, _, .str⟩, some (.o (.c (.d (.v (.string str))))) => match dstRows ev mem 1 e s with
  | some (r1, k1) => InfoU8 P e ∧ r1.length + str.size ≤ 140737488355328 ∧ ∃ rows', r1 ++ byteRows str.data.toList = rows' ∧ K ⟨.o (.c (.row nx)), k1, dead k1, [.row 1 e rows']⟩
  | none => False
 | _, _, _ => False
theorem exAppendS_ok (hL : LOk P L) {t t' : TypeId} {s x : Operand} (ho : o.op = .call { callee := .builtin .append, args := #[s, x], argTypes := #[t, t'] }) (h : exAppendS P L ev mem nx t t' s x K) : ∃ r, Spec P Γ o ev mem nx r ∧ K r := by
 have hsm : s ∈ o.op.operands := by simp [ho, Op.operands, Call.operands]
 have hxm : x ∈ o.op.operands := by simp [ho, Op.operands, Call.operands]
 unfold exAppendS at h
 split at h
 ·rename_i e _ _ _ str hl hl' hx
  have hu := ((layOf_ok (hL _ _ hl)).under rfl).1 e rfl
  have hu' := ((layOf_ok (hL _ _ hl')).under rfl).2.1 rfl
  split at h
  ·rename_i r1 k1 hd
   obtain ⟨⟨i, h1, h5, h3, h4⟩, hbytes, rows', rfl, h⟩ := h
   refine ⟨_, spec_gen fun ι S A w hs q1 q2 => ?_, h⟩
   obtain ⟨xs, hown, hall1, hrow1, hblk⟩ := dstRows_ok hd (A := A) (fun tv htv => q1 s hsm tv htv) (fun k hk b hb => q2 k hk b hb)
   have hxv := V_v (q1 x hxm _ hx)
   obtain ⟨v', w', hrun, hown', hg, hv'⟩ := run_append_row_str (P := P) w t t' (‹Oper›).type e i hu hu' h1 h5 h3 h4 (A.eval s) r1.length xs hown str hbytes
   obtain ⟨hb', hsl'⟩ := own_blk hown'
   obtain ⟨hb0, _⟩ := own_blk hown
   have hSb : ∀ b, S b → w'.heap[b]? = w.heap[b]? := fun b hb => hg.block b (hs b hb) (fun he => (hblk b (by rw [hb0, ← he])).1 hb)
   have hall2 : All2 (Imm S w) (byteRows str.data.toList).flatten (Lib.strCells str) := by
    rw [byteRows_flat]
    refine All2.map_left ⟨by simp [Lib.strCells], fun i a b ha hb => ?_⟩
    simp only [Lib.strCells, List.getElem?_map, ha, Option.map_some, Option.some.injEq] at hb
    subst hb
    exact Imm.v rfl
   have hlr : (byteRows str.data.toList).length = str.size := by simp [byteRows]
   refine ⟨v', w', fun k => if k = nx then v' else ι k, S, .inl (by simp [execOp, ho, hxv, resolve, invoke, builtin, hrun]), ⟨by simp, hsl'⟩, fun k hk => if_neg (by simp at hk; omega), fun _ h => h, fun _ h => .inl h, fun b hb => Nat.lt_of_lt_of_le (hs b hb) hg.size, hg.os, hg.tape, hg.output, hg.size, fun b hb hne => ?_, fun k b hk => ?_, fun i b hb => ?_, fun i b hb hl g hgv => ?_, fun i j b b' g hi hj _ _ _ _ => ?_⟩
   ·refine hg.block b hb (fun he => ?_)
    obtain ⟨_, k, hk, hkb⟩ := hblk b (by rw [hb0, ← he])
    exact hne k (List.mem_map.2 ⟨(k, .dead), List.mem_map.2 ⟨k, hk, rfl⟩, rfl⟩) hkb
   ·obtain ⟨k', _, he⟩ := List.mem_map.1 hk
    cases he
    trivial
   ·obtain ⟨rfl, rfl⟩ := one_at hb
    refine ⟨xs ++ Lib.strCells str, by simpa [hlr] using hown', ?_, fun r hr => ?_, fun b hb => ?_⟩
    ·rw [List.flatten_append]
     exact (hall1.append hall2).mono fun a u hau => hau.mono hSb (fun _ h => h)
    ·rcases List.mem_append.1 hr with hr | hr
     ·exact hrow1 r hr
     ·obtain ⟨b, _, rfl⟩ := List.mem_map.1 hr; rfl
    ·simp only [Nat.add_zero, if_true] at hb
     rw [hb'] at hb
     rcases hv' with hv' | hv'
     ·rw [hv', ← hb0] at hb
      exact (hblk b hb).1
     ·intro hSS
      have := hv' b hb
      have := hs b hSS
      omega
   ·obtain ⟨rfl, rfl⟩ := one_at hb
    simp only [Nat.add_zero, if_true] at hgv
    rw [hb'] at hgv
    rcases hv' with hv' | hv'
    ·rw [hv', ← hb0] at hgv
     obtain ⟨hn, k, hk, hkb⟩ := hblk g hgv
     exact ⟨hn, .inr ⟨k, List.mem_map.2 ⟨k, hk, rfl⟩, hkb⟩⟩
    ·have := hv' g hgv
     exact ⟨fun hSS => by have := hs g hSS; omega, .inl this⟩
   ·obtain ⟨rfl, _⟩ := one_at hi
    obtain ⟨rfl, _⟩ := one_at hj
    rfl
  ·exact h.elim
 ·exact h.elim
end
end Go.Proofs.YtidnlfkakhmadaaGreatDoor

namespace Go.Proofs.YtidnlfkakhmadaaGreatDoor
open Go.RowKit
section
variable {P : Program} {Γ : Glob} {L : Nat → Option Lay} {o : Oper} {ev : Operand → Option TV} {mem : Nat → Option Blk} {nx : Nat} {K : Res → Prop}
def exUData (ev : Operand → Option TV) (mem : Nat → Option Blk) (x : Operand) (K : Res → Prop) : Prop :=
 match ev x with
 | some (.o (.c (.row k))) => match mem k with
  | some (.row size _ rows) => 0 < rows.length ∧ K ⟨.o (.c (.rptr k size 0 0)), [k], [], []⟩
  | _ => False
 | some (.o (.c (.d (.v (.slice none 0 0))))) => K (pureR (.o (.c (.d (.v (.pointer none))))))
 | _ => False
theorem row_block {ι : Nat → Value} {S : Nat → Prop} {w : World} {k size : Nat} {e : TypeId} {rows : List (List D)} (h : BlkOk ι S w k (.row size e rows)) (hr : 0 < rows.length) :
  ∃ g cap cur cs, ι k = .slice (some ⟨g, 0, none⟩) rows.length cap ∧ w.heap[g]? = some (.cells cur e (0, 0)) ∧ rows.length ≤ cap ∧ cap ≤ maxLen ∧ cur.size = cap * size ∧ All2 (Imm S w) rows.flatten cs ∧ (∀ j u, cs[j]? = some u → w.cell? ((⟨g, 0, none⟩ : Addr).add j) = some u) := by
 obtain ⟨cs, h1, h2, _, _⟩ := h
 rcases h1.2 with ⟨_, hz⟩ | ⟨g, cap, cur, hv, _, h3, h4, h5, h6, _⟩
 ·omega
 ·exact ⟨g, cap, cur, cs, hv, h3, h4, h5, h6, h2, h1.cells (g := g) (by rw [hv]; rfl)⟩
theorem exUData_ok {x : Operand} {ts : Array TypeId} (ho : o.op = .call { callee := .builtin .unsafeSliceData, args := #[x], argTypes := ts }) (h : exUData ev mem x K) : ∃ r, Spec P Γ o ev mem nx r ∧ K r := by
 unfold exUData at h
 split at h
 ·rename_i k hx
  split at h
  ·rename_i size e rows hk
   obtain ⟨hr, h⟩ := h
   refine ⟨_, spec_gen fun ι S A w hs q1 q2 => ?_, h⟩
   obtain ⟨g, cap, cur, cs, hv, _, hc, _⟩ := row_block (q2 k (by simp) _ hk) hr
   have hxv : A.eval x = ι k := (q1 x (by simp [ho, Op.operands, Call.operands]) _ hx).1
   refine ⟨.pointer (some ⟨g, 0, none⟩), w, ι, S, .inl ?_, ⟨g, _, cap, hv, by simp⟩, fun _ _ => rfl, fun _ h => h, fun _ h => .inl h, hs, rfl, rfl, rfl, Nat.le_refl _, fun _ _ _ => rfl, (fun _ _ h => by simp at h), (fun _ _ h => by simp at h), (fun _ _ h => by simp at h), (fun _ _ _ _ _ h => by simp at h)⟩
   have := Lib.run_unsafeSliceData_row (P := P) w ts (‹Oper›).type ⟨g, 0, none⟩ rows.length cap (by omega)
   simp [execOp, ho, hxv, hv, resolve, invoke, builtin, this]
  ·exact h.elim
 ·rename_i hx
  refine ⟨_, spec_val fun ι S A w q1 q2 => ⟨.pointer none, ?_, V_mk rfl⟩, h⟩
  have ex := V_v (q1 x (by simp [ho, Op.operands, Call.operands]) _ hx)
  have := Lib.run_unsafeSliceData_nil (P := P) w ts (‹Oper›).type 0 0
  simp [execOp, ho, ex, resolve, invoke, builtin, this]
 ·exact h.elim
def exUStr (P : Program) (ev : Operand → Option TV) (mem : Nat → Option Blk) (pt : TypeId) (p n : Operand) (K : Res → Prop) : Prop :=
 match ev p, ev n with
 | some (.o (.c (.rptr k _ i j))), some (.o (.c (.d (.v (.int kk m))))) => match mem k with
  | some (.row size e rows) => (P.underlying pt = some (.pointer e) ∧ P.cellsOf e = 1) ∧ i = 0 ∧ j = 0 ∧ kk = .i64 ∧ size = 1 ∧ ∃ l, rows = byteRows l ∧ l ≠ [] ∧ m = l.length ∧ K ⟨Tstr ⟨l.toArray⟩, [k], [(k, .dead)], []⟩
  | _ => False
 | some (.o (.c (.d (.v (.pointer none))))), some (.o (.c (.d (.v (.int kk m))))) => kk = .i64 ∧ m = 0 ∧ K (pureR (Tstr ByteArray.empty))
 | _, _ => False
theorem exUStr_ok {pt it : TypeId} {p n : Operand} (ho : o.op = .call { callee := .builtin .unsafeString, args := #[p, n], argTypes := #[pt, it] }) (h : exUStr P ev mem pt p n K) : ∃ r, Spec P Γ o ev mem nx r ∧ K r := by
 unfold exUStr at h
 split at h
 ·rename_i k sz i j kk m hp hn
  split at h
  ·rename_i size e rows hk
   obtain ⟨⟨hpt, hce⟩, rfl, rfl, rfl, rfl, l, rfl, hl0, rfl, h⟩ := h
   refine ⟨_, spec_gen fun ι S A w hs q1 q2 => ?_, h⟩
   have hlen : (byteRows l).length = l.length := by simp [byteRows]
   have hpos : 0 < l.length := List.length_pos_iff.2 hl0
   obtain ⟨g, cap, cur, cs, hv, hg, hc1, hc2, hc3, hall, hcell⟩ := row_block (q2 k (by simp) _ hk) (by omega)
   obtain ⟨b, n', cap', e1, e2⟩ := q1 p (by simp [ho, Op.operands, Call.operands]) _ hp
   rw [hv] at e1
   cases e1
   have hnv := V_v (q1 n (by simp [ho, Op.operands, Call.operands]) _ hn)
   have hcells : ∀ j x, l[j]? = some x → w.cell? ((⟨g, 0, none⟩ : Addr).add j) = some (.int .u8 x.toNat) := fun j x hx => by
    rw [byteRows_flat] at hall
    obtain ⟨u, hu1, hu2⟩ := hall.at_left (i := j) (a := D.v (.int .u8 x.toNat)) (by simp [hx])
    cases hu2
    exact hcell j _ hu1
   have hrun := Lib.run_unsafeString_row (P := P) w pt it (‹Oper›).type e hpt hce g cur.size (by simp [World.shape?, hg]) l hl0 (by rw [hlen] at hc1; omega) (by unfold maxLen at hc2; omega) hcells
   have hother : ∀ b, b ≠ g → (w.freeze ⟨g, 0, none⟩ l.length).heap[b]? = w.heap[b]? := fun b hb => by
    unfold World.freeze
    split
    ·rfl
    ·simp only [Array.getElem?_modify]
     rw [if_neg (fun e => hb e.symm)]
   have hsz : (w.freeze ⟨g, 0, none⟩ l.length).heap.size = w.heap.size := by
    unfold World.freeze
    split <;> simp
   refine ⟨.string ⟨l.toArray⟩, w.freeze ⟨g, 0, none⟩ l.length, ι, S, .inl ?_, V_mk rfl, fun _ _ => rfl, fun _ h => h, fun _ h => .inl h, fun b hb => by rw [hsz]; exact hs b hb, ?_, ?_, ?_, by rw [hsz]; exact Nat.le_refl _, fun b _ hne => hother b (fun e => ?_), fun k' b' hk' => ?_, (fun _ _ h => by simp at h), (fun _ _ h => by simp at h), (fun _ _ _ _ _ h => by simp at h)⟩
   ·simp only [Nat.zero_mul, Nat.add_zero] at e2
    simp [execOp, ho, e2, hnv, resolve, invoke, builtin, hrun]
   ·unfold World.freeze; split <;> rfl
   ·unfold World.freeze; split <;> rfl
   ·unfold World.freeze; split <;> rfl
   ·subst e
    exact hne k (by simp) (by rw [hv]; rfl)
   ·simp only [List.mem_singleton, Prod.mk.injEq] at hk'
    obtain ⟨rfl, rfl⟩ := hk'
    trivial
  ·exact h.elim
 ·rename_i kk m hp hn
  obtain ⟨rfl, rfl, h⟩ := h
  refine ⟨_, spec_val fun ι S A w q1 q2 => ⟨.string ByteArray.empty, ?_, V_mk rfl⟩, h⟩
  have ep := V_v (q1 p (by simp [ho, Op.operands, Call.operands]) _ hp)
  have en := V_v (q1 n (by simp [ho, Op.operands, Call.operands]) _ hn)
  have := Lib.run_unsafeString_none (P := P) w pt it (‹Oper›).type none
  simp [execOp, ho, ep, en, resolve, invoke, builtin, this]
 ·exact h.elim
end
end Go.Proofs.YtidnlfkakhmadaaGreatDoor

namespace Go.Proofs.YtidnlfkakhmadaaGreatDoor
open Go.RowKit
section
variable {P : Program} {Γ : Glob} {L : Nat → Option Lay} {o : Oper} {ev : Operand → Option TV} {mem : Nat → Option Blk} {nx : Nat} {K : Res → Prop}
def exSliceR (L : Nat → Option Lay) (ev : Operand → Option TV) (mem : Nat → Option Blk) (nx : Nat) (t : TypeId) (k : Nat) (lo hi : Option Operand) (K : Res → Prop) : Prop :=
 match L t, mem k with
 | some ⟨_, _, _, .sl e⟩, some (.row size e' rows) => match L e, bndLo ev lo, bndHi ev rows.length hi with
  | some le, some l, some h => match Nat.beq le.size size with
   | true => l = 0 ∧ 0 ≤ h ∧ h ≤ rows.length ∧ ∃ rows', rows.take h.toNat = rows' ∧ K ⟨.o (.c (.row nx)), [k], dead [k], [.row size e' rows']⟩
   | false => False
  | _, _, _ => False
 | _, _ => False
theorem exSliceR_ok (hL : LOk P L) {t : TypeId} {x : Operand} {lo hi : Option Operand} {k : Nat} (ho : o.op = .slice t x lo hi none) (hx : ev x = some (.o (.c (.row k)))) (h : exSliceR L ev mem nx t k lo hi K) : ∃ r, Spec P Γ o ev mem nx r ∧ K r := by
 have hops : ∀ y, (lo = some y ∨ hi = some y) → y ∈ o.op.operands := fun y hy => by
  rcases hy with rfl | rfl <;> simp [ho, Op.operands]
 unfold exSliceR at h
 split at h
 ·rename_i e size e' rows hl hm
  have hu := ((layOf_ok (hL _ _ hl)).under rfl).1 e rfl
  split at h
  ·rename_i le l h' hle hlo hhi
   split at h
   ·rename_i hbeq
    have hsz := Nat.eq_of_beq_eq_true hbeq
    obtain ⟨rfl, h1, h2, rows', rfl, h⟩ := h
    refine ⟨_, spec_gen fun ι S A w hs q1 q2 => ?_, h⟩
    obtain ⟨hv, -⟩ := q1 x (by simp [ho, Op.operands]) _ hx
    obtain ⟨cs, g1, g2, g3, g4⟩ := q2 k (by simp) _ hm
    have hs' := (layOf_ok (hL _ _ hle)).sizeOf w
    rw [hsz] at hs'
    have hex : A.eval x = ι k := hv
    have hlen : (rows.take h'.toNat).length = h'.toNat := by rw [List.length_take]; omega
    have hfl : (rows.take h'.toNat).flatten = rows.flatten.take (h'.toNat * size) := by have := flatten_part g3 0 h'.toNat; simpa using this
    have hrow : ∀ r ∈ rows.take h'.toNat, r.length = size := fun r hr => g3 r (List.mem_of_mem_take hr)
    have hfin : ∀ (v' : Value), (execOp A.eval ‹Oper›).run P w = .ok (.value v') w → w.ownsRow 0 e' size v' h'.toNat (cs.take (h'.toNat * size)) → (∀ g, blkOf v' = some g → blkOf (ι k) = some g) →
      ∃ x w' ι' S', ((execOp A.eval ‹Oper›).run P w = .ok (.value x) w' ∨ ((execOp A.eval ‹Oper›).run P w = .ok .skip w' ∧ x = undef)) ∧ After ι S w nx ⟨.o (.c (.row nx)), [k], dead [k], [.row size e' (rows.take h'.toNat)]⟩ x ι' S' w' := fun v' hrun hown hb => by
     obtain ⟨_, hsl'⟩ := own_blk hown
     refine ⟨v', w, fun j => if j = nx then v' else ι j, S, .inl hrun, ⟨by simp, hsl'⟩, fun j hj => if_neg (by simp at hj; omega), fun _ h => h, fun _ h => .inl h, hs, rfl, rfl, rfl, Nat.le_refl _, fun _ _ _ => rfl, fun j b hj => ?_, fun i b hb' => ?_, fun i b hb' hl' g hgv => ?_, fun i j b b' g hi' hj _ _ _ _ => ?_⟩
     ·obtain ⟨j', _, he⟩ := List.mem_map.1 hj
      cases he
      trivial
     ·obtain ⟨rfl, rfl⟩ := one_at hb'
      refine ⟨cs.take (h'.toNat * size), by rw [hlen]; simpa using hown, ?_, hrow, fun b hb2 => ?_⟩
      ·rw [hfl]
       exact (g2.take _).mono fun a u hau => hau
      ·simp only [Nat.add_zero, if_true] at hb2
       exact g4 b (hb b hb2)
     ·obtain ⟨rfl, rfl⟩ := one_at hb'
      simp only [Nat.add_zero, if_true] at hgv
      exact ⟨g4 g (hb g hgv), .inr ⟨k, List.mem_map.2 ⟨k, by simp, rfl⟩, hb g hgv⟩⟩
     ·obtain ⟨rfl, _⟩ := one_at hi'
      obtain ⟨rfl, _⟩ := one_at hj
      rfl
    rcases g1.2 with ⟨g5, g6⟩ | ⟨g, cap, cur, g5, g6, g7, g8, g9, g10, g11⟩
    ·have e2 : h'.toNat = 0 := by omega
     have hb := run_bounds (P := P) (A := A) (w := w) true 0 0 rfl (Nat.le_refl _) (fun y hy tv htv => q1 y (hops y hy) tv htv) hlo (by rw [g6] at hhi; exact hhi) (Int.le_refl _) h1 (by omega)
     rw [e2] at hb
     refine hfin (.slice none 0 0) ?_ ⟨by simp [e2], .inl ⟨rfl, e2⟩⟩ (fun g hg => by cases hg)
     rw [g5] at hex
     have hb' : (Instr.sliceBounds true 0 0 (lo.map A.eval) (hi.map A.eval) none).run P w = .ok (0, 0, 0) w := hb
     simp [execOp, ho, hex, Instr.sliceAt, Instr.slice, run_underlying hu, hb', hs']
    ·have hb := run_bounds (P := P) (A := A) (w := w) true rows.length cap rfl g8 (fun y hy tv htv => q1 y (hops y hy) tv htv) hlo hhi (Int.le_refl _) h1 h2
     rw [g5] at hex
     have hb' : (Instr.sliceBounds true rows.length cap (lo.map A.eval) (hi.map A.eval) none).run P w = .ok (0, h'.toNat, cap) w := hb
     have hown : w.ownsRow 0 e' size (.slice (some ⟨g, 0, none⟩) h'.toNat cap) h'.toNat (cs.take (h'.toNat * size)) := by
      refine ⟨?_, .inr ⟨g, cap, cur, rfl, g6, g7, by omega, g9, g10, ?_⟩⟩
      ·rw [List.length_take, g1.1]
       have : h'.toNat * size ≤ rows.length * size := Nat.mul_le_mul_right _ (by omega)
       omega
      ·rw [← g11, List.take_take]
       have : h'.toNat * size ≤ rows.length * size := Nat.mul_le_mul_right _ (by omega)
       rw [Nat.min_eq_left this]
     refine hfin _ ?_ hown (fun g' hg' => by rw [g5]; exact hg')
     by_cases hc0 : cap = 0
     ·subst hc0
      simp [execOp, ho, hex, Instr.sliceAt, Instr.slice, run_underlying hu, hb', hs']
     ·simp [execOp, ho, hex, Instr.sliceAt, Instr.slice, run_underlying hu, hb', hs', hc0, Addr.add_lit]
   ·exact h.elim
  ·exact h.elim
 ·exact h.elim
def exSliceAny (L : Nat → Option Lay) (ev : Operand → Option TV) (mem : Nat → Option Blk) (nx : Nat) (t : TypeId) (x : Operand) (lo hi : Option Operand) (K : Res → Prop) : Prop :=
 match ev x with
 | some (.o (.c (.row k))) => exSliceR L ev mem nx t k lo hi K
 | _ => exSlice L ev mem nx t x lo hi K
theorem exSliceAny_ok (hL : LOk P L) {t : TypeId} {x : Operand} {lo hi : Option Operand} (ho : o.op = .slice t x lo hi none) (h : exSliceAny L ev mem nx t x lo hi K) : ∃ r, Spec P Γ o ev mem nx r ∧ K r := by
 unfold exSliceAny at h
 split at h
 ·rename_i k hx
  exact exSliceR_ok hL ho hx h
 ·exact exSlice_ok hL ho h
end
end Go.Proofs.YtidnlfkakhmadaaGreatDoor

namespace Go.Proofs.YtidnlfkakhmadaaGreatDoor
open Go.RowKit

def flatC : CV → Option Value
 | .d (.v x) => some x
 | _ => none
def flatV : TV → Option Value
 | .o (.c (.d (.v x))) => some x
 | .o (.g l) => (l.mapM flatC).map fun l => .agg l.toArray
 | _ => none
theorem flatV_ok {ι : Nat → Value} {S : Nat → Prop} {w : World} {tv : TV} {x u : Value} (h : flatV tv = some x) (hv : V ι S w tv u) : u = x := by
 unfold flatV at h
 split at h
 ·cases h; exact V_v hv
 ·rename_i l
  obtain ⟨vs, hm, rfl⟩ := Option.map_eq_some_iff.1 h
  obtain ⟨us, rfl, hall⟩ := hv
  obtain ⟨h1, h2⟩ := mapM_isSome hm
  have : us = vs := by
   apply List.ext_getElem?
   intro i
   cases hl : l[i]? with
   | none =>
    have hle := List.getElem?_eq_none_iff.1 hl
    rw [List.getElem?_eq_none (by rw [← hall.len]; exact hle), List.getElem?_eq_none (by rw [← h1]; exact hle)]
   | some c =>
    obtain ⟨u, hu1, hu2⟩ := hall.at_left hl
    obtain ⟨v, hv1, hv2⟩ := h2 i c hl
    rw [hu1, hv2]
    unfold flatC at hv1
    split at hv1
    ·rename_i y
     cases hv1
     have h' : Imm S w _ u := hu2
     cases h'
     rfl
    ·cases hv1
  rw [this]
 ·cases h
def flatOk : Value → Bool
 | .agg a => a.toList.all Value.oneCell'
 | v => v.oneCell'
def val1 : Value → T1
 | .agg a => .g (a.toList.map fun x => .d (.v x))
 | v => .c (.d (.v v))
theorem val1_ok {ι : Nat → Value} {S : Nat → Prop} {w : World} {v : Value} (h : flatOk v = true) : V1 ι S w (val1 v) v := by
 cases v with
 | agg a =>
  refine ⟨a.toList, by simp, All2.map_left ⟨rfl, fun i x y hx hy => ?_⟩⟩
  rw [hx] at hy; cases hy
  exact Imm.v (List.all_eq_true.1 h x (List.mem_of_getElem? hx))
 | _ => exact Imm.v h

def sameKV : LK → Value → Value → Option Bool
 | .int _, .int k a, .int k' b => if k = k' then some (a == b) else none
 | .str, .string a, .string b => some (a == b)
 | .bool, .bool a, .bool b => some (a == b)
 | _, _, _ => none
def keyK : LK → Bool
 | .int _ | .str | .bool => true
 | _ => false
theorem kind_inv {P : Program} {d : TypeDesc} {lk : LK} (h : kindOf P d = some lk) : (∀ q, lk = .int q → d = .int q) ∧ (lk = .str → d = .string) ∧ (lk = .bool → d = .bool) ∧ ∀ k e, lk = .map k e → d = .map k e := by
 cases d with
 | struct fs =>
  simp only [kindOf] at h
  cases hm : fs.toList.mapM (fieldLay P) with
  | none => simp [hm] at h
  | some m =>
   simp [hm] at h
   subst h
   refine ⟨?_, ?_, ?_, ?_⟩ <;> intros <;> rename_i e <;> cases e
 | _ =>
  simp only [kindOf, Option.some.injEq] at h
  subst h
  refine ⟨?_, ?_, ?_, ?_⟩ <;> intros <;> rename_i e <;> first | (cases e; rfl) | cases e
theorem sameNow_kv {P : Program} {d : TypeDesc} {lk : LK} (h : kindOf P d = some lk) (hk : keyK lk = true) (a b : Value) : Instr.sameNow d a b = sameKV lk a b := by
 obtain ⟨h1, h2, h3, _⟩ := kind_inv h
 cases lk with
 | int q => rw [h1 q rfl]; cases a <;> cases b <;> rfl
 | str => rw [h2 rfl]; cases a <;> cases b <;> rfl
 | bool => rw [h3 rfl]; cases a <;> cases b <;> rfl
 | _ => cases hk
noncomputable def findKV (lk : LK) (k : Value) (es : List (Value × Value)) : Nat → Option (Option (Nat × Value)) :=
 List.rec (motive := fun _ => Nat → Option (Option (Nat × Value))) (fun _ => some none) (fun e _ ih i => match sameKV lk k e.1 with
  | some true => some (some (i, e.2))
  | some false => ih (i + 1)
  | none => none) es
theorem findKV_nil (lk : LK) (k : Value) (i : Nat) : findKV lk k [] i = some none := rfl
theorem findKV_cons (lk : LK) (k : Value) (e : Value × Value) (es : List (Value × Value)) (i : Nat) : findKV lk k (e :: es) i = match sameKV lk k e.1 with
  | some true => some (some (i, e.2))
  | some false => findKV lk k es (i + 1)
  | none => none := rfl
def prKV (e : MapEntry) : Value × Value := (e.key, e.val)
theorem findNow_kv {P : Program} {d : TypeDesc} {lk : LK} (h : kindOf P d = some lk) (hk : keyK lk = true) (k : Value) : ∀ (es : List MapEntry) (i : Nat), Instr.findNow d k es i = findKV lk k (es.map prKV) i
 | [], i => rfl
 | e :: es, i => by
  rw [List.map_cons, findKV_cons, Instr.findNow, sameNow_kv h hk]
  show _ = match sameKV lk k e.key with
   | some true => _
   | some false => _
   | none => _
  cases sameKV lk k e.key with
  | none => rfl
  | some b => cases b with
   | true => rfl
   | false => exact findNow_kv h hk k es (i + 1)
theorem ba_beq {a b : ByteArray} : (a == b) = true ↔ a = b := by
 have e : (a == b) = (a.data == b.data) := rfl
 rw [e, beq_iff_eq]
 cases a; cases b; simp
theorem sameKV_eq {lk : LK} {a b : Value} (h : sameKV lk a b = some true) : b = a ∧ ∀ n, Instr.sameBits n a a = true := by
 unfold sameKV at h
 split at h
 ·split at h
  ·rename_i e
   subst e
   simp at h
   subst h
   exact ⟨rfl, fun n => by cases n <;> simp [Instr.sameBits]⟩
  ·cases h
 ·have h := ba_beq.1 (Option.some.inj h)
  subst h
  exact ⟨rfl, fun n => by cases n <;> simp [Instr.sameBits, ba_beq]⟩
 ·simp at h
  subst h
  exact ⟨rfl, fun n => by cases n <;> simp [Instr.sameBits]⟩
 ·cases h
theorem findKV_hit {lk : LK} {k : Value} : ∀ {es : List (Value × Value)} {i j : Nat} {v : Value}, findKV lk k es i = some (some (j, v)) → i ≤ j ∧ ∃ e, es[j - i]? = some e ∧ e.2 = v ∧ sameKV lk k e.1 = some true
 | [], i, j, v, h => by rw [findKV_nil] at h; cases h
 | e :: es, i, j, v, h => by
  rw [findKV_cons] at h
  split at h
  ·rename_i hs
   cases h
   exact ⟨Nat.le_refl _, e, by simp, rfl, hs⟩
  ·obtain ⟨h1, e', h2, h3⟩ := findKV_hit h
   exact ⟨by omega, e', by rw [show j - i = (j - (i + 1)) + 1 by omega]; simpa using h2, h3⟩
  ·cases h
def putKV (es : List (Value × Value)) (k v : Value) : Option (Nat × Value) → List (Value × Value)
 | some (i, _) => es.set i (k, v)
 | none => es ++ [(k, v)]

def zeroVal (l : Lay) : Value := match l.kind.agg with
 | true => .agg l.zero.toArray
 | false => l.zero.headD undef

section
variable {P : Program} {Γ : Glob} {L : Nat → Option Lay} {o : Oper} {ev : Operand → Option TV} {mem : Nat → Option Blk} {nx : Nat} {K : Res → Prop}
theorem zero_run {t : TypeId} {l : Lay} (h : LayOk P t l) (w : World) : (zeroValue t).run P w = .ok (zeroVal l) w := by
 obtain ⟨i, d, z, h1, h2, h3, h4, h5, h6, h7⟩ := h.ex
 have hz := h.zag i z h1 h5
 have : z = zeroVal l := by
  unfold zeroVal
  split
  ·rename_i ha
   rw [ha] at hz
   cases z with
   | agg a =>
    rw [← h6]
    simp [Value.cells]
   | _ => cases hz
  ·rename_i ha
   rw [ha] at hz
   cases z with
   | agg a => cases hz
   | _ => rw [← h6]; rfl
 rw [← this]
 simp [zeroValue, typeInfo, h1, h5]
theorem key_run {t : TypeId} {l : Lay} (h : LayOk P t l) (hk : keyK l.kind = true) (w : World) (e : Bool) (v : Value) : (Instr.checkKey e 10000 t v).run P w = .ok () w := by
 obtain ⟨i, d, z, h1, h2, h3, h4, h5, h6, h7⟩ := h.ex
 obtain ⟨k1, k2, k3, _⟩ := kind_inv h7
 have hd : (∃ q, d = .int q) ∨ d = .string ∨ d = .bool := by
  cases hl : l.kind with
  | int q => exact .inl ⟨q, k1 q hl⟩
  | str => exact .inr (.inl (k2 hl))
  | bool => exact .inr (.inr (k3 hl))
  | _ => rw [hl] at hk; cases hk
 unfold Instr.checkKey
 rw [Sem.run_bind, run_underlying h2 w]
 rcases hd with ⟨q, rfl⟩ | rfl | rfl <;> cases v <;> rfl
theorem find_run {t : TypeId} {l : Lay} (h : LayOk P t l) (hk : keyK l.kind = true) (w : World) (k : Value) (es : List MapEntry) {r : Option (Nat × Value)} (hf : findKV l.kind k (es.map prKV) 0 = some r) : (Instr.findKey t k es).run P w = .ok r w := by
 obtain ⟨i, d, z, h1, h2, h3, h4, h5, h6, h7⟩ := h.ex
 unfold Instr.findKey
 rw [Sem.run_bind, run_underlying h2 w]
 show (match Instr.findNow d k es 0 with
  | some r => pure r
  | none => Instr.findAsking t k es : Sem _).run P w = _
 rw [findNow_kv h7 hk, hf]
 rfl
theorem map_under {t k e : TypeId} {l : Lay} (h : LayOk P t l) (hl : l.kind = .map k e) : P.underlying t = some (.map k e) := by
 obtain ⟨i, d, z, h1, h2, h3, h4, h5, h6, h7⟩ := h.ex
 rw [h2, (kind_inv h7).2.2.2 k e hl]

def lookT (ok : Bool) (v : Value) (b : Bool) : TV := match ok with
 | true => .tup [val1 v, .c (.d (.v (.bool b)))]
 | false => .o (val1 v)
def lookU (ok : Bool) (v : Value) (b : Bool) : Value := match ok with
 | true => .tuple #[v, .bool b]
 | false => v
def exLookup (L : Nat → Option Lay) (ev : Operand → Option TV) (mem : Nat → Option Blk) (t : TypeId) (x i : Operand) (ok : Bool) (K : Res → Prop) : Prop :=
 match L t with
 | some ⟨_, _, _, .map kt et⟩ => match L kt, L et, ev x, (ev i).bind flatV with
  | some lk, some le, some (.o (.c (.mp k))), some kv => match mem k, keyK lk.kind with
   | some (.map es), true => ∃ r, findKV lk.kind kv es 0 = some r ∧ (match r with
    | some (_, v) => (match flatOk v with
     | true => K ⟨lookT ok v true, [k], [], []⟩
     | false => False)
    | none => (match flatOk (zeroVal le) with
     | true => K ⟨lookT ok (zeroVal le) false, [k], [], []⟩
     | false => False))
   | _, _ => False
  | _, _, _, _ => False
 | _ => False
theorem exLookup_ok (hL : LOk P L) {t : TypeId} {x i : Operand} {ok : Bool} (ho : o.op = .lookup t x i ok) (h : exLookup L ev mem t x i ok K) : ∃ r, Spec P Γ o ev mem nx r ∧ K r := by
 unfold exLookup at h
 split at h
 ·rename_i kt et hl
  have hu := map_under (layOf_ok (hL _ _ hl)) rfl
  split at h
  ·rename_i lk le k kv hlk hle hx hi
   obtain ⟨tv, hiv, hfi⟩ := Option.bind_eq_some_iff.1 hi
   have hK := layOf_ok (hL _ _ hlk)
   have hE := layOf_ok (hL _ _ hle)
   split at h
   ·rename_i es hm hkk
    obtain ⟨r, hf, h⟩ := h
    have key : ∀ (v : Value) (b : Bool), flatOk v = true → ((∃ j, r = some (j, v)) ∧ b = true ∨ r = none ∧ v = zeroVal le ∧ b = false) → Spec P Γ o ev mem nx ⟨lookT ok v b, [k], [], []⟩ := fun v b hv hr => spec_val fun ι S A w q1 q2 => by
     have ex : A.eval x = ι k := (q1 x (by simp [ho, Op.operands]) _ hx).1
     have ei := flatV_ok hfi (q1 i (by simp [ho, Op.operands]) _ hiv)
     obtain ⟨b', arr, clock, e1, e2, e3, e4⟩ := q2 k (by simp) _ hm
     have hf' : findKV lk.kind kv (arr.toList.map prKV) 0 = some r := by rw [← hf, ← e3]; rfl
     refine ⟨(lookU ok v b), ?_, ?_⟩
     ·simp only [execOp, ho, ex, ei, e1]
      have : (Instr.lookup t (.map (some b')) kv ok).run P w = .ok (lookU ok v b) w := by
       unfold Instr.lookup
       rw [Sem.run_bind, run_underlying hu w]
       simp only [Result.andThen_ok, Sem.run_bind, run_getObj_map w b' arr clock e2, Sem.run_pure, key_run hK hkk w, find_run hK hkk w kv arr.toList hf']
       rcases hr with ⟨⟨j, rfl⟩, rfl⟩ | ⟨rfl, rfl, rfl⟩
       ·cases ok <;> rfl
       ·simp only [Sem.run_bind, zero_run hE w, Result.andThen_ok]
        cases ok <;> rfl
      simp only [Sem.run_bind, this, Result.andThen_ok]
      rfl
     ·have hV := val1_ok (ι := ι) (S := S) (w := w) hv
      cases ok with
      | true => exact ⟨[v, .bool b], rfl, .cons hV (.cons (Imm.v rfl) .nil)⟩
      | false => exact hV
    cases r with
    | some p =>
     obtain ⟨j, v⟩ := p
     cases hv : flatOk v with
     | true =>
      simp only [hv] at h
      exact ⟨_, key v true hv (.inl ⟨⟨j, rfl⟩, rfl⟩), h⟩
     | false =>
      simp only [hv] at h
    | none =>
     cases hv : flatOk (zeroVal le) with
     | true =>
      simp only [hv] at h
      exact ⟨_, key (zeroVal le) false hv (.inr ⟨rfl, rfl, rfl⟩), h⟩
     | false =>
      simp only [hv] at h
   ·exact h.elim
  ·exact h.elim
 ·exact h.elim

def exMapUpd (L : Nat → Option Lay) (ev : Operand → Option TV) (mem : Nat → Option Blk) (t : TypeId) (x i y : Operand) (K : Res → Prop) : Prop :=
 match L t with
 | some ⟨_, _, _, .map kt _⟩ => match L kt, ev x, (ev i).bind flatV, (ev y).bind flatV with
  | some lk, some (.o (.c (.mp k))), some kv, some xv => match mem k, keyK lk.kind with
   | some (.map es), true => ∃ r, findKV lk.kind kv es 0 = some r ∧ ∃ es', putKV es kv xv r = es' ∧ K ⟨.no, [k], [(k, .map es')], []⟩
   | _, _ => False
  | _, _, _, _ => False
 | _ => False
theorem run_setObjB (P : Program) (w : World) (b : Nat) (O : Obj) {es : Array MapEntry} {c : Nat} (h : w.heap[b]? = some (.map es c)) : (setObj b O).run P w = .ok () { w with heap := w.heap.setIfInBounds b O } := by simp [setObj, Sem.run, h]
theorem setBlk_other (w : World) (b b' : Nat) (O : Obj) (h : b' ≠ b) : ({ w with heap := w.heap.setIfInBounds b O } : World).heap[b']? = w.heap[b']? := by
 simp [Array.getElem?_setIfInBounds_ne (Ne.symm h)]
theorem exMapUpd_ok (hL : LOk P L) {t : TypeId} {x i y : Operand} (ho : o.op = .mapUpdate t x i y ∨ o.op = .insert t x i y) (h : exMapUpd L ev mem t x i y K) : ∃ r, Spec P Γ o ev mem nx r ∧ K r := by
 have hops : x ∈ o.op.operands ∧ i ∈ o.op.operands ∧ y ∈ o.op.operands := by rcases ho with ho | ho <;> simp [ho, Op.operands]
 unfold exMapUpd at h
 split at h
 ·rename_i kt et hl
  have hu := map_under (layOf_ok (hL _ _ hl)) rfl
  split at h
  ·rename_i lk k kv xv hlk hx hi hy
   obtain ⟨tv, hiv, hfi⟩ := Option.bind_eq_some_iff.1 hi
   obtain ⟨tv2, hyv, hfy⟩ := Option.bind_eq_some_iff.1 hy
   have hK := layOf_ok (hL _ _ hlk)
   split at h
   ·rename_i es hm hkk
    obtain ⟨r, hf, es', rfl, h⟩ := h
    refine ⟨_, spec_gen fun ι S A w hs q1 q2 => ?_, h⟩
    have ex : A.eval x = ι k := (q1 x hops.1 _ hx).1
    have ei := flatV_ok hfi (q1 i hops.2.1 _ hiv)
    have ey := flatV_ok hfy (q1 y hops.2.2 _ hyv)
    obtain ⟨b, arr, clock, e1, e2, e3, e4⟩ := q2 k (by simp) _ hm
    have hf' : findKV lk.kind kv (arr.toList.map prKV) 0 = some r := by rw [← hf, ← e3]; rfl
    have fin : ∀ (arr' : Array MapEntry) (clock' : Nat), (Instr.mapUpdate t (.map (some b)) kv xv).run P w = .ok () { w with heap := w.heap.setIfInBounds b (.map arr' clock') } → arr'.toList.map prKV = putKV es kv xv r →
      ∃ x w' ι' S', ((execOp A.eval ‹Oper›).run P w = .ok (.value x) w' ∨ ((execOp A.eval ‹Oper›).run P w = .ok .skip w' ∧ x = undef)) ∧ After ι S w nx ⟨.no, [k], [(k, .map (putKV es kv xv r))], []⟩ x ι' S' w' := fun arr' clock' hrun harr => by
     refine ⟨undef, { w with heap := w.heap.setIfInBounds b (.map arr' clock') }, ι, S, .inr ⟨?_, rfl⟩, trivial, fun _ _ => rfl, fun _ h => h, fun _ h => .inl h, (fun b' hb' => by have := hs b' hb'; simpa using this), rfl, rfl, rfl, by simp, fun b' _ hne => ?_, fun k' b' hk' => ?_, (fun _ _ h => by simp at h), (fun _ _ h => by simp at h), (fun _ _ _ _ _ h => by simp at h)⟩
     ·rcases ho with ho | ho <;>
      ·simp only [execOp, ho, ex, ei, ey, e1]
       simp only [Sem.run_bind, Sem.run_pure, Result.andThen_ok, hrun]
     ·refine setBlk_other w b b' _ (fun e => ?_)
      subst e
      exact hne k (by simp) (by rw [e1]; rfl)
     ·simp only [List.mem_singleton, Prod.mk.injEq] at hk'
      obtain ⟨rfl, rfl⟩ := hk'
      exact ⟨b, arr', clock', e1, by have := (Array.getElem?_eq_some_iff.1 e2).1; simp [this], harr, e4⟩
    have h0 : (Instr.mapUpdate t (.map (some b)) kv xv).run P w = ((match r with
      | some (i, _) => do
       let key ← Instr.keyThatStays (((arr[i]?).map (·.key)).getD kv) kv
       setObj b (.map (arr.modify i fun e => { e with key, val := xv }) clock)
      | none => setObj b (.map (arr.push { key := kv, val := xv, born := clock }) (clock + 1)) : Sem Unit)).run P w := by
     unfold Instr.mapUpdate
     rw [Sem.run_bind, run_underlying hu w]
     simp only [Result.andThen_ok, Sem.run_bind, run_getObj_map w b arr clock e2, key_run hK hkk w, find_run hK hkk w kv arr.toList hf']
     cases r <;> rfl
    have hpr : arr.toList.map prKV = es := e3
    cases r with
    | none =>
     refine fin _ _ (h0.trans (run_setObjB P w b _ e2)) ?_
     simp [putKV, ← hpr, prKV]
    | some p =>
     obtain ⟨j, v⟩ := p
     obtain ⟨_, e, he, _, hsk⟩ := findKV_hit hf'
     rw [Nat.sub_zero, List.getElem?_map] at he
     obtain ⟨me, hme, rfl⟩ := Option.map_eq_some_iff.1 he
     obtain ⟨hkey, hbits⟩ := sameKV_eq hsk
     have hkey : me.key = kv := hkey
     have hget : arr[j]? = some me := by simpa using hme
     have hst : (Instr.keyThatStays (((arr[j]?).map (·.key)).getD kv) kv).run P w = .ok kv w := by
      rw [hget]
      simp only [Option.map_some, Option.getD_some, hkey, Instr.keyThatStays, hbits, if_true]
      rfl
     refine fin (arr.modify j fun e => { e with key := kv, val := xv }) clock (h0.trans ?_) ?_
     ·simp only [Sem.run_bind, hst, Result.andThen_ok]
      exact run_setObjB P w b _ e2
     ·rw [Array.toList_modify, putKV, ← hpr]
      apply List.ext_getElem?
      intro n
      simp only [List.getElem?_map, List.getElem?_modify, List.getElem?_set, List.length_map]
      by_cases hn : j = n
      ·subst hn
       have hlt := (List.getElem?_eq_some_iff.1 hme).1
       simp only [if_true, hme, hlt, Option.map_some]
       simp [prKV]
      ·simp [hn]
   ·exact h.elim
  ·exact h.elim
 ·exact h.elim

def exMkMap (L : Nat → Option Lay) (ev : Operand → Option TV) (nx : Nat) (t : TypeId) (r : Option Operand) (K : Res → Prop) : Prop :=
 match r with
 | none => K ⟨.o (.c (.mp nx)), [], [], [.map []]⟩
 | some x => match L t, ev x with
  | some ⟨_, _, _, .map _ _⟩, some (.o (.c (.d (.v (.int _ _))))) => K ⟨.o (.c (.mp nx)), [], [], [.map []]⟩
  | _, _ => False
theorem exMkMap_ok (hL : LOk P L) {t : TypeId} {r : Option Operand} (ho : o.op = .makeMap t r) (h : exMkMap L ev nx t r K) : ∃ r, Spec P Γ o ev mem nx r ∧ K r := by
 have key : (∀ (ι : Nat → Value) (S : Nat → Prop) (A : Act) (w : World), Ops o ev ι S A w → (Instr.makeMap t (r.map A.eval)).run P w = .ok (.map (some w.heap.size)) (w.alloc (.map #[] 0))) → Spec P Γ o ev mem nx ⟨.o (.c (.mp nx)), [], [], [.map []]⟩ := fun hrun => spec_gen fun ι S A w hs q1 q2 => by
  have := After.made (nx := nx) (ι := ι) (S := S) (w := w) (v := .o (.c (.mp nx))) (rd := []) (ks := []) (b := .map []) (O := .map #[] 0) (X := .map (some w.heap.size)) (x := .map (some w.heap.size)) hs (fun k hk => by simp at hk) rfl
  rw [giveUp_nil] at this
  refine ⟨.map (some w.heap.size), w.alloc (.map #[] 0), _, S, .inl ?_, this ?_ ?_⟩
  ·simp only [execOp, ho]
   simp only [Sem.run_bind, hrun ι S A w q1, Result.andThen_ok]
   rfl
  ·refine ⟨w.heap.size, #[], 0, by simp, heap_alloc_new w _, rfl, fun h => ?_⟩
   have := hs _ h
   omega
  ·exact ⟨by simp, _, rfl⟩
 unfold exMkMap at h
 split at h
 ·exact ⟨_, key (fun ι S A w q1 => rfl), h⟩
 ·rename_i x
  split at h
  ·rename_i kt et q n hl hx
   have hu := map_under (layOf_ok (hL _ _ hl)) rfl
   refine ⟨_, key (fun ι S A w q1 => ?_), h⟩
   have ex := V_v (q1 x (by simp [ho, Op.operands]) _ hx)
   simp only [Option.map_some, ex, Instr.makeMap, Sem.run_bind, run_underlying hu w, Result.andThen_ok]
   rfl
  ·exact h.elim

def exLenAny (L : Nat → Option Lay) (ev : Operand → Option TV) (mem : Nat → Option Blk) (t : TypeId) (x : Operand) (K : Res → Prop) : Prop :=
 match ev x with
 | some (.o (.c (.mp k))) => match L t, mem k with
  | some ⟨_, _, _, .map _ _⟩, some (.map es) => ∃ n, (es.length : Int) = n ∧ K ⟨Tint .i64 n, [k], [], []⟩
  | _, _ => False
 | _ => exLen L ev mem t x K
theorem exLenAny_ok (hL : LOk P L) {t : TypeId} {x : Operand} {ts : Array TypeId} (ho : o.op = .call { callee := .builtin .len, args := #[x], argTypes := ts }) (hts : ts = #[t]) (h : exLenAny L ev mem t x K) : ∃ r, Spec P Γ o ev mem nx r ∧ K r := by
 unfold exLenAny at h
 split at h
 ·rename_i k hx
  split at h
  ·rename_i kt et es hl hm
   have hu := map_under (layOf_ok (hL _ _ hl)) rfl
   obtain ⟨n, rfl, h⟩ := h
   refine ⟨_, spec_val fun ι S A w q1 q2 => ⟨.int .i64 es.length, ?_, V_mk rfl⟩, h⟩
   subst hts
   have ex : A.eval x = ι k := (q1 x (by simp [ho, Op.operands, Call.operands]) _ hx).1
   obtain ⟨b, arr, clock, e1, e2, e3, e4⟩ := q2 k (by simp) _ hm
   have hsz : arr.size = es.length := by rw [← e3]; simp
   simp [execOp, ho, ex, e1, resolve, invoke, builtin, Builtin.len_, run_underlying hu, run_getObj_map w b arr clock e2, hsz, goInt]
  ·exact h.elim
 ·exact exLen_ok hL ho hts h
end
end Go.Proofs.YtidnlfkakhmadaaGreatDoor

namespace Go.Proofs.YtidnlfkakhmadaaGreatDoor
open Go.RowKit
section
variable {P : Program} {Γ : Glob} {L : Nat → Option Lay} {o : Oper} {ev : Operand → Option TV} {mem : Nat → Option Blk} {nx : Nat} {K : Res → Prop}
def exSliceT (L : Nat → Option Lay) (ev : Operand → Option TV) (mem : Nat → Option Blk) (t : TypeId) (k : Nat) (lo : Operand) (K : Res → Prop) : Prop :=
 match L t, mem k with
 | some ⟨_, _, _, .sl e⟩, some (.row size _ rows) => match L e, bndLo ev (some lo) with
  | some le, some l => match Nat.beq le.size size with
   | true => 0 ≤ l ∧ l < rows.length ∧ ∃ i n, l.toNat = i ∧ rows.length - i = n ∧ K ⟨.o (.c (.rsl k size i n)), [k], [], []⟩
   | false => False
  | _, _ => False
 | _, _ => False
theorem exSliceT_ok (hL : LOk P L) {t : TypeId} {x lo : Operand} {k : Nat} (ho : o.op = .slice t x (some lo) none none) (hx : ev x = some (.o (.c (.row k)))) (h : exSliceT L ev mem t k lo K) : ∃ r, Spec P Γ o ev mem nx r ∧ K r := by
 have hops : ∀ y, (some lo = some y ∨ none = some y) → y ∈ o.op.operands := fun y hy => by
  rcases hy with hy | hy
  ·cases hy; simp [ho, Op.operands]
  ·cases hy
 unfold exSliceT at h
 split at h
 ·rename_i e size e' rows hl hm
  have hu := ((layOf_ok (hL _ _ hl)).under rfl).1 e rfl
  split at h
  ·rename_i le l hle hlo
   split at h
   ·rename_i hbeq
    have hsz := Nat.eq_of_beq_eq_true hbeq
    obtain ⟨h1, h2, i, n, rfl, rfl, h⟩ := h
    refine ⟨_, spec_val fun ι S A w q1 q2 => ?_, h⟩
    obtain ⟨hv, -⟩ := q1 x (by simp [ho, Op.operands]) _ hx
    obtain ⟨cs, g1, g2, g3, g4⟩ := q2 k (by simp) _ hm
    have hs' := (layOf_ok (hL _ _ hle)).sizeOf w
    rw [hsz] at hs'
    have hex : A.eval x = ι k := hv
    rcases g1.2 with ⟨g5, g6⟩ | ⟨g, cap, cur, g5, g6, g7, g8, g9, g10, g11⟩
    ·omega
    ·have hb := run_bounds (P := P) (A := A) (w := w) (lo := some lo) (hi := none) (len := (rows.length : Int)) true rows.length cap rfl g8 (fun y hy tv htv => q1 y (hops y hy) tv htv) hlo rfl h1 (by omega) (Int.le_refl _)
     rw [g5] at hex
     rw [Int.toNat_natCast] at hb
     have hb' : (Instr.sliceBounds true rows.length cap (some (A.eval lo)) none none).run P w = .ok (l.toNat, rows.length, cap) w := hb
     have hne : ¬ cap = l.toNat := by omega
     refine ⟨.slice (some ⟨g, l.toNat * size, none⟩) (rows.length - l.toNat) (cap - l.toNat), ?_, g, rows.length, cap, _, g5, rfl⟩
     simp [execOp, ho, hex, Instr.sliceAt, Instr.slice, run_underlying hu, hb', hs', hne, Addr.add_lit]
   ·exact h.elim
  ·exact h.elim
 ·exact h.elim
def exSliceX (L : Nat → Option Lay) (ev : Operand → Option TV) (mem : Nat → Option Blk) (nx : Nat) (t : TypeId) (x : Operand) (lo hi : Option Operand) (K : Res → Prop) : Prop :=
 match ev x, lo, hi with
 | some (.o (.c (.row k))), some l, none => exSliceT L ev mem t k l K
 | _, _, _ => exSliceAny L ev mem nx t x lo hi K
theorem exSliceX_ok (hL : LOk P L) {t : TypeId} {x : Operand} {lo hi : Option Operand} (ho : o.op = .slice t x lo hi none) (h : exSliceX L ev mem nx t x lo hi K) : ∃ r, Spec P Γ o ev mem nx r ∧ K r := by
 unfold exSliceX at h
 split at h
 ·rename_i k l hx
  exact exSliceT_ok hL ho hx h
 ·exact exSliceAny_ok hL ho h

theorem zero_made (z : Array Value) (n : Nat) : Builtin.zeroCells z n = madeCells z (n * z.size) := rfl
def exClear (L : Nat → Option Lay) (ev : Operand → Option TV) (mem : Nat → Option Blk) (t : TypeId) (x : Operand) (K : Res → Prop) : Prop :=
 match L t, ev x with
 | some ⟨_, _, _, .sl e⟩, some (.o (.c (.rsl k size i n))) => match L e, mem k with
  | some le, some (.row size' e' rows) => match Nat.beq le.size size', Nat.beq size size', Nat.blt 0 le.size, Nat.beq le.zero.length le.size, le.zero.all Value.oneCell' with
   | true, true, true, true, true => i + n = rows.length ∧ ∃ rows', rows.take i ++ List.replicate n (le.zero.map D.v) = rows' ∧ K ⟨.tup [], [k], [(k, .row size' e' rows')], []⟩
   | _, _, _, _, _ => False
  | _, _ => False
 | _, _ => False
theorem exClear_ok (hL : LOk P L) {t : TypeId} {x : Operand} {ts : Array TypeId} (ho : o.op = .call { callee := .builtin .clear, args := #[x], argTypes := ts }) (hts : ts = #[t]) (h : exClear L ev mem t x K) : ∃ r, Spec P Γ o ev mem nx r ∧ K r := by
 subst hts
 unfold exClear at h
 split at h
 ·rename_i e k size i n hl hx
  have hu := ((layOf_ok (hL _ _ hl)).under rfl).1 e rfl
  split at h
  ·rename_i le size' e' rows hle hm
   split at h
   ·rename_i b1 b2 b3 b4 hone
    have e1 := Nat.eq_of_beq_eq_true b1
    obtain rfl := Nat.eq_of_beq_eq_true b2
    have e3 : 0 < le.size := Nat.lt_of_succ_le (Nat.le_of_ble_eq_true b3)
    have e4 := Nat.eq_of_beq_eq_true b4
    obtain ⟨hin, rows', rfl, h⟩ := h
    obtain ⟨it, d, z, h1, h2, h3, h4, h5, h6, h7⟩ := (layOf_ok (hL _ _ hle)).ex
    have hzs : z.cells.size = le.size := by rw [← e4, ← h6]; simp
    refine ⟨_, spec_gen fun ι S A w hs q1 q2 => ?_, h⟩
    obtain ⟨b, n0, c0, c, hb, hxv⟩ := q1 x (by simp [ho, Op.operands, Call.operands]) _ hx
    obtain ⟨us, g1, g2, g3, g4⟩ := q2 k (by simp) _ hm
    have hSb : ¬ S b := g4 b (by rw [hb]; rfl)
    cases n with
    | zero =>
     have hrows : rows.take i ++ List.replicate 0 (le.zero.map D.v) = rows := by simp only [List.replicate_zero, List.append_nil]; rw [List.take_of_length_le]; omega
     refine ⟨.tuple #[], w, ι, S, .inl ?_, ⟨[], rfl, .nil⟩, fun _ _ => rfl, fun _ h => h, fun _ h => .inl h, hs, rfl, rfl, rfl, Nat.le_refl _, fun _ _ _ => rfl, fun k' b' hk' => ?_, (fun _ _ h => by simp at h), (fun _ _ h => by simp at h), (fun _ _ _ _ _ h => by simp at h)⟩
     ·simp [execOp, ho, hxv, resolve, invoke, builtin, Builtin.clear_, run_underlying hu]
     ·simp only [List.mem_singleton, Prod.mk.injEq] at hk'
      obtain ⟨rfl, rfl⟩ := hk'
      rw [hrows]
      exact ⟨us, g1, g2, g3, g4⟩
    | succ n =>
     rcases g1.2 with ⟨h7', _⟩ | ⟨g, cap', cur, h7', h8, h9, h10, h11, h12, h13⟩
     ·rw [hb] at h7'; cases h7'
     rw [hb] at h7'
     cases h7'
     have hmd : (Builtin.zeroCells z.cells (n + 1)).toList = (List.replicate (n + 1) le.zero).flatten := by rw [zero_made, made_list _ _ (by rw [hzs]; exact e3), h6]
     have hrl : ∀ r ∈ List.replicate (n + 1) le.zero, r.length = size := fun r hr => by rw [(List.mem_replicate.1 hr).2]; omega
     have hzl : (Builtin.zeroCells z.cells (n + 1)).toList.length = (n + 1) * size := by rw [hmd, flatten_len hrl, List.length_replicate]
     have hcur : rows.length * size ≤ cur.size := by rw [h12]; exact Nat.mul_le_mul_right _ h10
     have hsum : i * size + (n + 1) * size = rows.length * size := by rw [← Nat.add_mul, hin]
     have hst := run_storeCells_at P b (i * size) e' (Builtin.zeroCells z.cells (n + 1)).toList 0 cur w h9 (by rw [hzl]; omega) (fun v hv => by
      rw [hmd] at hv
      obtain ⟨r, hr, hv⟩ := List.mem_flatten.1 hv
      rw [(List.mem_replicate.1 hr).2] at hv
      exact List.all_eq_true.1 hone v hv)
     simp only [Nat.add_zero] at hst
     have hset : cur.toList.take (i * size) ++ (Builtin.zeroCells z.cells (n + 1)).toList ++ cur.toList.drop (i * size + (Builtin.zeroCells z.cells (n + 1)).toList.length) = setAt cur.toList (i * size) (Builtin.zeroCells z.cells (n + 1)).toList := rfl
     rw [hset] at hst
     have hSo : ∀ b', S b' → (w.setRow b (setAt cur.toList (i * size) (Builtin.zeroCells z.cells (n + 1)).toList).toArray).heap[b']? = w.heap[b']? := fun b' hb' => setRow_other w b b' _ (fun e => hSb (e ▸ hb'))
     have hlen : (rows.take i ++ List.replicate (n + 1) (le.zero.map D.v)).length = rows.length := by rw [List.length_append, List.length_take, List.length_replicate]; omega
     have hzr : (zeroValue e).run P w = .ok z w := by simp [zeroValue, typeInfo, h1, h5]
     refine ⟨.tuple #[], w.setRow b (setAt cur.toList (i * size) (Builtin.zeroCells z.cells (n + 1)).toList).toArray, ι, S, .inl ?_, ⟨[], rfl, .nil⟩, fun _ _ => rfl, fun _ h => h, fun _ h => .inl h, (fun b' hb' => by have := hs b' hb'; simpa using this), rfl, rfl, rfl, by simp, fun b' _ hne => ?_, fun k' b' hk' => ?_, (fun _ _ h => by simp at h), (fun _ _ h => by simp at h), (fun _ _ _ _ _ h => by simp at h)⟩
     ·have hcl : (Builtin.clear_ #[t] ‹Oper›.type #[.slice (some ⟨b, i * size, none⟩) (n + 1) c]).run P w = .ok (.tuple #[]) (w.setRow b (setAt cur.toList (i * size) (Builtin.zeroCells z.cells (n + 1)).toList).toArray) := by
       simp only [Builtin.clear_, Sem.run_bind, run_underlying hu, Result.andThen_ok, List.getElem?_toArray, List.getElem?_cons_zero, hzr]
       rw [hst]
       rfl
      simp [execOp, ho, hxv, resolve, invoke, builtin, hcl]
     ·refine setRow_other w b b' _ (fun e => ?_)
      subst e
      exact hne k (by simp) (by rw [hb]; rfl)
     ·simp only [List.mem_singleton, Prod.mk.injEq] at hk'
      obtain ⟨rfl, rfl⟩ := hk'
      have hus : us.length = rows.length * size := by rw [← g2.len, flatten_len g3]
      refine ⟨us.take (i * size) ++ (Builtin.zeroCells z.cells (n + 1)).toList, ⟨?_, .inr ⟨b, c0, _, by rw [hb, hlen], h8, setRow_heap w b cur _ e' _ h9, by rw [hlen]; exact h10, h11, ?_, ?_⟩⟩, ?_, ?_, g4⟩
      ·rw [hlen, List.length_append, List.length_take, hzl]; omega
      ·simp only [List.size_toArray]
       rw [setAt_len _ _ _ (by rw [hzl]; simp; omega)]
       simpa using h12
      ·rw [hlen, ← h13]
       unfold setAt
       have hle : i * size ≤ cur.size := by omega
       have hd : rows.length * size = (cur.toList.take (i * size) ++ (Builtin.zeroCells z.cells (n + 1)).toList).length := by rw [List.length_append, List.length_take, hzl, show cur.toList.length = cur.size by simp, Nat.min_eq_left hle]; omega
       simp only []
       rw [List.take_take, Nat.min_eq_left (by omega), hd, List.take_left' rfl]
      ·rw [List.flatten_append]
       refine All2.append ?_ ?_
       ·have hfl : (rows.take i).flatten = rows.flatten.take (i * size) := by have := flatten_part g3 0 i; simpa using this
        rw [hfl]
        exact (g2.take _).mono fun a u hau => hau.mono hSo (fun _ h => h)
       ·rw [hmd]
        have : (List.replicate (n + 1) (le.zero.map D.v)).flatten = (List.replicate (n + 1) le.zero).flatten.map D.v := by
         rw [List.map_flatten, List.map_replicate]
        rw [this]
        refine All2.map_left ⟨rfl, fun j x y hx hy => ?_⟩
        rw [hx] at hy; cases hy
        obtain ⟨r, hr, hv⟩ := List.mem_flatten.1 (List.mem_of_getElem? hx)
        rw [(List.mem_replicate.1 hr).2] at hv
        exact Imm.v (List.all_eq_true.1 hone x hv)
      ·intro r hr
       rcases List.mem_append.1 hr with hr | hr
       ·exact g3 r (List.mem_of_mem_take hr)
       ·rw [(List.mem_replicate.1 hr).2, List.length_map]; omega
   ·exact h.elim
  ·exact h.elim
 ·exact h.elim
end
end Go.Proofs.YtidnlfkakhmadaaGreatDoor

namespace Go.Proofs.YtidnlfkakhmadaaGreatDoor
open Go.RowKit

def ι0 : Nat → Value := fun _ => undef
def Callable (P : Program) (f : FuncId) : Prop := ∃ fn, P.funcs[f]? = some fn ∧ (fn.name == "runtime.NumGoroutine") = false ∧ fn.body.isNone = false
def CallsA (P : Program) (Γ : Glob) (f : FuncId) (xs : List T1) (r : TV) : Prop :=
  Callable P f ∧ ∀ (S : Nat → Prop) (w : World) (vs : List Value), (∀ b, S b → b < w.heap.size) → Γ.G S w → All2 (V1 ι0 S w) xs vs →
    Calls P f vs.toArray w fun e w' => ∃ x S', e = .returned x ∧ Below w.heap.size w w' ∧ (∀ b, S b → S' b) ∧ (∀ b, S' b → S b ∨ w.heap.size ≤ b) ∧ (∀ b, S' b → b < w'.heap.size) ∧ V ι0 S' w' r x
def CV.pure : CV → Bool | .d _ | .eptr _ => true | _ => false
def T1.pure : T1 → Bool | .c x => x.pure | .g l => l.all CV.pure | .f _ _ _ => false
def TV.pure : TV → Bool | .no | .und => true | .o x => x.pure | .tup l => l.all T1.pure | .pan _ => false
theorem CV.pure_men {x : CV} (h : x.pure = true) (n : Nat) : x.men n = false := by cases x <;> simp_all [CV.pure, CV.men]
theorem T1.pure_men {x : T1} (h : x.pure = true) (n : Nat) : x.men n = false := by
  cases x with
  | c x => exact CV.pure_men h n
  | g l =>
    simp only [T1.men, List.any_eq_false]
    intro x hx
    rw [CV.pure_men (List.all_eq_true.1 h x hx) n]
    simp
  | f g a l => cases h
theorem TV.pure_men {x : TV} (h : x.pure = true) (n : Nat) : x.men n = false := by
  cases x with
  | no => rfl
  | und => rfl
  | o x => exact T1.pure_men h n
  | tup l =>
    simp only [TV.men, List.any_eq_false]
    intro x hx
    rw [T1.pure_men (List.all_eq_true.1 h x hx) n]
    simp
  | pan v => rfl
section
variable {P : Program} {Γ : Glob} {L : Nat → Option Lay} {o : Oper} {ev : Operand → Option TV} {mem : Nat → Option Blk} {nx : Nat} {K : Res → Prop}

def eat1 (mem : Nat → Option Blk) : T1 → Option (T1 × List Nat)
  | .c x => match eat mem [x] with
    | some ([d], ks) => some (.c (.d d), ks)
    | _ => none
  | .g l => match eat mem l with
    | some (ds, ks) => some (.g (ds.map .d), ks)
    | none => none
  | .f _ _ _ => none
def eatT (mem : Nat → Option Blk) : List (Option TV) → Option (List T1 × List Nat)
  | [] => some ([], [])
  | some (.o x) :: l => match eat1 mem x, eatT mem l with
    | some (y, k1), some (ys, k2) => some (y :: ys, k1 ++ k2)
    | _, _ => none
  | _ :: _ => none
theorem eat1_ok {ι ι' : Nat → Value} {S S' : Nat → Prop} {w : World} (hS : ∀ b, S b → S' b) {x y : T1} {ks : List Nat} {u : Value} (h : eat1 mem x = some (y, ks)) (hv : V1 ι S w x u)
    (hb : ∀ k ∈ ks, ∀ b, mem k = some b → BlkOk ι S w k b) (hs : ∀ k ∈ ks, ∀ g, blkOf (ι k) = some g → S' g) : V1 ι' S' w y u := by
  cases x with
  | c x =>
    simp only [eat1] at h
    split at h
    · rename_i d ks' he
      simp only [Option.some.injEq, Prod.mk.injEq] at h
      obtain ⟨rfl, rfl⟩ := h
      have hv' : VC ι S w x u := hv
      exact (eat_ok hS he (.cons hv' .nil) hb hs).head
    · cases h
  | g l =>
    simp only [eat1] at h
    split at h
    · rename_i ds ks' he
      simp only [Option.some.injEq, Prod.mk.injEq] at h
      obtain ⟨rfl, rfl⟩ := h
      obtain ⟨us, hu, hall⟩ := hv
      exact ⟨us, hu, All2.map_left ((eat_ok hS he hall hb hs).mono fun _ _ h => h)⟩
    · cases h
  | f g a l => simp [eat1] at h
theorem eat1_rows {x y : T1} {ks : List Nat} (h : eat1 mem x = some (y, ks)) : ∀ k ∈ ks, ∃ size e rows, mem k = some (.row size e rows) := by
  cases x with
  | c x =>
    simp only [eat1] at h
    split at h
    · rename_i d ks' he
      simp only [Option.some.injEq, Prod.mk.injEq] at h
      obtain ⟨rfl, rfl⟩ := h
      exact eat_rows he
    · cases h
  | g l =>
    simp only [eat1] at h
    split at h
    · rename_i ds ks' he
      simp only [Option.some.injEq, Prod.mk.injEq] at h
      obtain ⟨rfl, rfl⟩ := h
      exact eat_rows he
    · cases h
  | f g a l => simp [eat1] at h
theorem eatT_ok {ι ι' : Nat → Value} {S S' : Nat → Prop} {w : World} (hS : ∀ b, S b → S' b) : ∀ {l : List (Option TV)} {ys : List T1} {ks : List Nat} {us : List Value}, eatT mem l = some (ys, ks) → All2 (fun (a : Option TV) u => ∀ tv, a = some tv → V ι S w tv u) l us →
    (∀ k ∈ ks, ∀ b, mem k = some b → BlkOk ι S w k b) → (∀ k ∈ ks, ∀ g, blkOf (ι k) = some g → S' g) → All2 (V1 ι' S' w) ys us
  | [], ys, ks, us, h, ha, _, _ => by
    simp only [eatT, Option.some.injEq, Prod.mk.injEq] at h
    obtain ⟨rfl, rfl⟩ := h
    obtain rfl := ha.nil_left
    exact .nil
  | some (.o x) :: l, ys, ks, us, h, ha, hb, hs => by
    simp only [eatT] at h
    split at h
    · rename_i y k1 ys' k2 h1 h2
      simp only [Option.some.injEq, Prod.mk.injEq] at h
      obtain ⟨rfl, rfl⟩ := h
      obtain ⟨u, us', rfl, h3, h4⟩ := ha.cons_left
      exact .cons (eat1_ok hS h1 (h3 _ rfl) (fun k hk => hb k (by simp [hk])) (fun k hk => hs k (by simp [hk]))) (eatT_ok hS h2 h4 (fun k hk => hb k (by simp [hk])) (fun k hk => hs k (by simp [hk])))
    · cases h
  | none :: _, _, _, _, h, _, _, _ => by simp [eatT] at h
  | some .no :: _, _, _, _, h, _, _, _ => by simp [eatT] at h
  | some .und :: _, _, _, _, h, _, _, _ => by simp [eatT] at h
  | some (.tup _) :: _, _, _, _, h, _, _, _ => by simp [eatT] at h
  | some (.pan _) :: _, _, _, _, h, _, _, _ => by simp [eatT] at h
theorem eatT_rows : ∀ {l : List (Option TV)} {ys : List T1} {ks : List Nat}, eatT mem l = some (ys, ks) → ∀ k ∈ ks, ∃ size e rows, mem k = some (.row size e rows)
  | [], ys, ks, h, k, hk => by
    simp only [eatT, Option.some.injEq, Prod.mk.injEq] at h
    obtain ⟨rfl, rfl⟩ := h
    simp at hk
  | some (.o x) :: l, ys, ks, h, k, hk => by
    simp only [eatT] at h
    split at h
    · rename_i y k1 ys' k2 h1 h2
      simp only [Option.some.injEq, Prod.mk.injEq] at h
      obtain ⟨rfl, rfl⟩ := h
      rcases List.mem_append.1 hk with hk | hk
      · exact eat1_rows h1 k hk
      · exact eatT_rows h2 k hk
    · cases h
  | none :: _, _, _, h, _, _ => by simp [eatT] at h
  | some .no :: _, _, _, h, _, _ => by simp [eatT] at h
  | some .und :: _, _, _, h, _, _ => by simp [eatT] at h
  | some (.tup _) :: _, _, _, h, _, _ => by simp [eatT] at h
  | some (.pan _) :: _, _, _, h, _, _ => by simp [eatT] at h
def exCall (P : Program) (Γ : Glob) (mem : Nat → Option Blk) (f : FuncId) (avs : List (Option TV)) (K : Res → Prop) : Prop :=
  match eatT mem avs with
  | some (xs, ks) => ∃ r, CallsA P Γ f xs r ∧ (match r.pure with
    | true => K ⟨r, ks, dead ks, []⟩
    | false => False)
  | none => False
theorem exCall_ok {f : FuncId} {avs : List (Option TV)} (hv : Callable P f → ∀ (ι : Nat → Value) (S : Nat → Prop) (A : Act) (w : World), (∀ x ∈ o.op.operands, ∀ tv, ev x = some tv → V ι S w tv (A.eval x)) → ∃ us : List Value, All2 (fun (a : Option TV) u => ∀ tv, a = some tv → V ι S w tv u) avs us ∧ (execOp A.eval o).run P w = .ok (.enter f us.toArray) w) (h : exCall P Γ mem f avs K) : ∃ r, Spec P Γ o ev mem nx r ∧ K r := by
  unfold exCall at h
  split at h
  · rename_i xs ks he
    obtain ⟨r, ⟨⟨fn, hfn, hname, hbody⟩, hcall⟩, h⟩ := h
    split at h
    · rename_i hp
      refine ⟨_, fun Q next ι S A w hs hG _ q1 q2 hK _ => ?_, h⟩
      obtain ⟨us, hargs, hrun⟩ := hv ⟨fn, hfn, hname, hbody⟩ ι S A w q1
      have hrows : ∀ k ∈ ks, ∃ size e rows, BlkOk ι S w k (.row size e rows) := fun k hk => by
        obtain ⟨size, e, rows, hm⟩ := eatT_rows he k hk
        exact ⟨size, e, rows, q2 k hk _ hm⟩
      have hS1 : ∀ b, giveUp ι S ks b → b < w.heap.size := fun b hb => by
        rcases hb with hb | ⟨k, hk, hb⟩
        · exact hs b hb
        · obtain ⟨size, e, rows, hr⟩ := hrows k hk
          exact (row_lt hr b hb).1
      have hall := eatT_ok (ι' := ι0) (S' := giveUp ι S ks) (fun b hb => .inl hb) he hargs (fun k hk b hb => q2 k hk b hb) (fun k hk g hg => .inr ⟨k, hk, hg⟩)
      have hC := hcall (giveUp ι S ks) w _ hS1 (Γ.mono (fun _ _ => rfl) (fun b hb => .inl hb) hG) hall
      unfold Oper.wp
      rw [hrun, Oper.upon_enter]
      refine hC.mono fun e w' ⟨x, S', hx, hb, hm, hg, hlt, hv⟩ => ?_
      subst hx
      refine hK x ι S' w' ⟨V.mono (fun _ _ => rfl) (fun _ h => h) (fun k hk => by rw [TV.pure_men hp k] at hk; cases hk) hv, fun _ _ => rfl, fun b hb => hm b (.inl hb), fun b hb => ?_, hlt, hb.os, hb.tape, hb.output, hb.size, fun b hb' _ => hb.block b hb', fun k b hk => ?_, (fun _ _ h => by simp at h), (fun _ _ h => by simp at h), (fun _ _ _ _ _ h => by simp at h)⟩
      · rcases hg b hb with (h | ⟨k, hk, h⟩) | h
        · exact .inl h
        · exact .inr (.inr ⟨k, List.mem_map.2 ⟨k, hk, rfl⟩, h⟩)
        · exact .inr (.inl h)
      · obtain ⟨k', _, he⟩ := List.mem_map.1 hk
        cases he
        trivial
    · exact h.elim
  · exact h.elim

def disj (a b : List Nat) : Bool := a.all fun x => !(b.any fun y => Nat.beq x y)
theorem disj_spec {a b : List Nat} (h : disj a b = true) {k : Nat} (ha : k ∈ a) (hb : k ∈ b) : False := by
  have := List.all_eq_true.1 h k ha
  have h2 : (b.any fun y => Nat.beq k y) = true := List.any_eq_true.2 ⟨k, hb, by simp⟩
  rw [h2] at this
  cases this
def CallsM (P : Program) (Γ : Glob) (f : FuncId) (m : List (Nat × Blk)) (nx : Nat) (xs : List T1) (r : TV) (upd : List (Nat × Blk)) (new : List Blk) : Prop :=
  Callable P f ∧ ∀ (ι : Nat → Value) (S : Nat → Prop) (w : World) (vs : List Value), (∀ b, S b → b < w.heap.size) → Γ.G S w → (∀ p ∈ m, BlkOk ι S w p.1 p.2) →
    (∀ p ∈ m, ∀ q ∈ m, ∀ g, p.2.live = true → q.2.live = true → blkOf (ι p.1) = some g → blkOf (ι q.1) = some g → p.1 = q.1) → All2 (V1 ι S w) xs vs →
    Calls P f vs.toArray w fun e w' => (∃ x ι' S', e = .returned x ∧ After ι S w nx ⟨r, m.map (·.1), upd, new⟩ x ι' S' w') ∨ ∃ v ι' S', r = .pan v ∧ e = .panicked (panE v) ∧ After ι S w nx ⟨.und, m.map (·.1), upd, new⟩ undef ι' S' w'
def eatP (mem : Nat → Option Blk) : List CV → Option (List CV × List Nat)
  | [] => some ([], [])
  | .d x :: l => (eatP mem l).map fun p => (.d x :: p.1, p.2)
  | .ptr k o :: l => (eatP mem l).map fun p => (.ptr k o :: p.1, p.2)
  | .mp k :: l => (eatP mem l).map fun p => (.mp k :: p.1, p.2)
  | .eptr c :: l => (eatP mem l).map fun p => (.eptr c :: p.1, p.2)
  | .row k :: l => match mem k, eatP mem l with
    | some (.row size _ rows), some p => some (.d (.sl size rows) :: p.1, k :: p.2)
    | _, _ => none
  | _ :: _ => none
def eatPT (mem : Nat → Option Blk) : List (Option TV) → Option (List T1 × List Nat)
  | [] => some ([], [])
  | some (.o (.c x)) :: l => match eatP mem [x], eatPT mem l with
    | some ([y], k1), some (ys, k2) => some (.c y :: ys, k1 ++ k2)
    | _, _ => none
  | some (.o (.g x)) :: l => match eatP mem x, eatPT mem l with
    | some (y, k1), some (ys, k2) => some (.g y :: ys, k1 ++ k2)
    | _, _ => none
  | some (.o (.f g a x)) :: l => match eatPT mem l with
    | some (ys, k2) => some (.f g a x :: ys, k2)
    | _ => none
  | _ :: _ => none
theorem eatP_ok {ι : Nat → Value} {S S' : Nat → Prop} {w : World} (hS : ∀ b, S b → S' b) : ∀ {l : List CV} {ds : List CV} {ks : List Nat} {us : List Value}, eatP mem l = some (ds, ks) → All2 (VC ι S w) l us → (∀ k ∈ ks, ∀ b, mem k = some b → BlkOk ι S w k b) → (∀ k ∈ ks, ∀ g, blkOf (ι k) = some g → S' g) → All2 (VC ι S' w) ds us
  | [], ds, ks, us, h, ha, _, _ => by
    simp only [eatP, Option.some.injEq, Prod.mk.injEq] at h
    obtain ⟨rfl, rfl⟩ := h
    obtain rfl := ha.nil_left
    exact .nil
  | .d x :: l, ds, ks, us, h, ha, hb, hs => by
    simp only [eatP] at h
    cases hl : eatP mem l with
    | none => simp [hl] at h
    | some p =>
      simp only [hl, Option.map_some, Option.some.injEq, Prod.mk.injEq] at h
      obtain ⟨rfl, rfl⟩ := h
      obtain ⟨u, us', rfl, h1, h2⟩ := ha.cons_left
      exact .cons (VC.mono (fun _ _ => rfl) hS (fun _ _ => rfl) h1) (eatP_ok hS hl h2 hb hs)
  | .ptr k o :: l, ds, ks, us, h, ha, hb, hs => by
    simp only [eatP] at h
    cases hl : eatP mem l with
    | none => simp [hl] at h
    | some p =>
      simp only [hl, Option.map_some, Option.some.injEq, Prod.mk.injEq] at h
      obtain ⟨rfl, rfl⟩ := h
      obtain ⟨u, us', rfl, h1, h2⟩ := ha.cons_left
      exact .cons (VC.mono (fun _ _ => rfl) hS (fun _ _ => rfl) h1) (eatP_ok hS hl h2 hb hs)
  | .mp k :: l, ds, ks, us, h, ha, hb, hs => by
    simp only [eatP] at h
    cases hl : eatP mem l with
    | none => simp [hl] at h
    | some p =>
      simp only [hl, Option.map_some, Option.some.injEq, Prod.mk.injEq] at h
      obtain ⟨rfl, rfl⟩ := h
      obtain ⟨u, us', rfl, h1, h2⟩ := ha.cons_left
      exact .cons (VC.mono (fun _ _ => rfl) hS (fun _ _ => rfl) h1) (eatP_ok hS hl h2 hb hs)
  | .row k :: l, ds, ks, us, h, ha, hb, hs => by
    simp only [eatP] at h
    split at h
    · rename_i size e rows p hk hl
      simp only [Option.some.injEq, Prod.mk.injEq] at h
      obtain ⟨rfl, rfl⟩ := h
      obtain ⟨u, us', rfl, h1, h2⟩ := ha.cons_left
      obtain ⟨rfl, _⟩ := h1
      exact .cons (row_imm (hb k (by simp) _ hk) hS (hs k (by simp))) (eatP_ok hS hl h2 (fun k' hk' => hb k' (by simp [hk'])) (fun k' hk' => hs k' (by simp [hk'])))
    · cases h
  | .eptr c :: l, ds, ks, us, h, ha, hb, hs => by
    simp only [eatP] at h
    cases hl : eatP mem l with
    | none => simp [hl] at h
    | some p =>
      simp only [hl, Option.map_some, Option.some.injEq, Prod.mk.injEq] at h
      obtain ⟨rfl, rfl⟩ := h
      obtain ⟨u, us', rfl, h1, h2⟩ := ha.cons_left
      exact .cons (VC.mono (fun _ _ => rfl) hS (fun _ _ => rfl) h1) (eatP_ok hS hl h2 hb hs)
  | .rptr _ _ _ _ :: _, _, _, _, h, _, _, _ => by simp [eatP] at h
  | .rsl _ _ _ _ :: _, _, _, _, h, _, _, _ => by simp [eatP] at h
theorem eatP_rows {l : List CV} : ∀ {ds : List CV} {ks : List Nat}, eatP mem l = some (ds, ks) → ∀ k ∈ ks, ∃ size e rows, mem k = some (.row size e rows) := by
  induction l with
  | nil => intro ds ks h k hk; simp only [eatP, Option.some.injEq, Prod.mk.injEq] at h; obtain ⟨rfl, rfl⟩ := h; simp at hk
  | cons x l ih =>
    intro ds ks h k hk
    cases x with
    | d x =>
      simp only [eatP] at h
      cases hl : eatP mem l with
      | none => simp [hl] at h
      | some p =>
        simp only [hl, Option.map_some, Option.some.injEq, Prod.mk.injEq] at h
        obtain ⟨rfl, rfl⟩ := h
        exact ih hl k hk
    | ptr k' o =>
      simp only [eatP] at h
      cases hl : eatP mem l with
      | none => simp [hl] at h
      | some p =>
        simp only [hl, Option.map_some, Option.some.injEq, Prod.mk.injEq] at h
        obtain ⟨rfl, rfl⟩ := h
        exact ih hl k hk
    | mp k' =>
      simp only [eatP] at h
      cases hl : eatP mem l with
      | none => simp [hl] at h
      | some p =>
        simp only [hl, Option.map_some, Option.some.injEq, Prod.mk.injEq] at h
        obtain ⟨rfl, rfl⟩ := h
        exact ih hl k hk
    | eptr c =>
      simp only [eatP] at h
      cases hl : eatP mem l with
      | none => simp [hl] at h
      | some p =>
        simp only [hl, Option.map_some, Option.some.injEq, Prod.mk.injEq] at h
        obtain ⟨rfl, rfl⟩ := h
        exact ih hl k hk
    | row k' =>
      simp only [eatP] at h
      split at h
      · rename_i size e rows p hk' hl
        simp only [Option.some.injEq, Prod.mk.injEq] at h
        obtain ⟨rfl, rfl⟩ := h
        rcases List.mem_cons.1 hk with rfl | hk
        · exact ⟨_, _, _, hk'⟩
        · exact ih hl k hk
      · cases h
    | _ => simp [eatP] at h
theorem eatPT_ok {ι : Nat → Value} {S S' : Nat → Prop} {w : World} (hS : ∀ b, S b → S' b) : ∀ {l : List (Option TV)} {ys : List T1} {ks : List Nat} {us : List Value}, eatPT mem l = some (ys, ks) → All2 (fun (a : Option TV) u => ∀ tv, a = some tv → V ι S w tv u) l us →
    (∀ k ∈ ks, ∀ b, mem k = some b → BlkOk ι S w k b) → (∀ k ∈ ks, ∀ g, blkOf (ι k) = some g → S' g) → All2 (V1 ι S' w) ys us
  | [], ys, ks, us, h, ha, _, _ => by
    simp only [eatPT, Option.some.injEq, Prod.mk.injEq] at h
    obtain ⟨rfl, rfl⟩ := h
    obtain rfl := ha.nil_left
    exact .nil
  | some (.o (.c x)) :: l, ys, ks, us, h, ha, hb, hs => by
    simp only [eatPT] at h
    split at h
    · rename_i y k1 ys' k2 h1 h2
      simp only [Option.some.injEq, Prod.mk.injEq] at h
      obtain ⟨rfl, rfl⟩ := h
      obtain ⟨u, us', rfl, h3, h4⟩ := ha.cons_left
      have hv : VC ι S w x u := h3 _ rfl
      exact .cons (eatP_ok hS h1 (.cons hv .nil) (fun k hk => hb k (by simp [hk])) (fun k hk => hs k (by simp [hk]))).head (eatPT_ok hS h2 h4 (fun k hk => hb k (by simp [hk])) (fun k hk => hs k (by simp [hk])))
    · cases h
  | some (.o (.g x)) :: l, ys, ks, us, h, ha, hb, hs => by
    simp only [eatPT] at h
    split at h
    · rename_i y k1 ys' k2 h1 h2
      simp only [Option.some.injEq, Prod.mk.injEq] at h
      obtain ⟨rfl, rfl⟩ := h
      obtain ⟨u, us', rfl, h3, h4⟩ := ha.cons_left
      obtain ⟨us2, hu, hall⟩ := h3 _ rfl
      exact .cons ⟨us2, hu, eatP_ok hS h1 hall (fun k hk => hb k (by simp [hk])) (fun k hk => hs k (by simp [hk]))⟩ (eatPT_ok hS h2 h4 (fun k hk => hb k (by simp [hk])) (fun k hk => hs k (by simp [hk])))
    · cases h
  | some (.o (.f g a x)) :: l, ys, ks, us, h, ha, hb, hs => by
    simp only [eatPT] at h
    split at h
    · rename_i ys' k2 h2
      simp only [Option.some.injEq, Prod.mk.injEq] at h
      obtain ⟨rfl, rfl⟩ := h
      obtain ⟨u, us', rfl, h3, h4⟩ := ha.cons_left
      exact .cons (V1.mono (fun _ _ => rfl) hS (fun _ _ => rfl) (h3 _ rfl : V1 ι S w (.f g a x) u)) (eatPT_ok hS h2 h4 hb hs)
    · cases h
  | none :: _, _, _, _, h, _, _, _ => by simp [eatPT] at h
  | some .no :: _, _, _, _, h, _, _, _ => by simp [eatPT] at h
  | some .und :: _, _, _, _, h, _, _, _ => by simp [eatPT] at h
  | some (.tup _) :: _, _, _, _, h, _, _, _ => by simp [eatPT] at h
  | some (.pan _) :: _, _, _, _, h, _, _, _ => by simp [eatPT] at h
theorem eatPT_rows : ∀ {l : List (Option TV)} {ys : List T1} {ks : List Nat}, eatPT mem l = some (ys, ks) → ∀ k ∈ ks, ∃ size e rows, mem k = some (.row size e rows)
  | [], ys, ks, h, k, hk => by
    simp only [eatPT, Option.some.injEq, Prod.mk.injEq] at h
    obtain ⟨rfl, rfl⟩ := h
    simp at hk
  | some (.o (.c x)) :: l, ys, ks, h, k, hk => by
    simp only [eatPT] at h
    split at h
    · rename_i y k1 ys' k2 h1 h2
      simp only [Option.some.injEq, Prod.mk.injEq] at h
      obtain ⟨rfl, rfl⟩ := h
      rcases List.mem_append.1 hk with hk | hk
      · exact eatP_rows h1 k hk
      · exact eatPT_rows h2 k hk
    · cases h
  | some (.o (.g x)) :: l, ys, ks, h, k, hk => by
    simp only [eatPT] at h
    split at h
    · rename_i y k1 ys' k2 h1 h2
      simp only [Option.some.injEq, Prod.mk.injEq] at h
      obtain ⟨rfl, rfl⟩ := h
      rcases List.mem_append.1 hk with hk | hk
      · exact eatP_rows h1 k hk
      · exact eatPT_rows h2 k hk
    · cases h
  | some (.o (.f g a x)) :: l, ys, ks, h, k, hk => by
    simp only [eatPT] at h
    split at h
    · rename_i ys' k2 h2
      simp only [Option.some.injEq, Prod.mk.injEq] at h
      obtain ⟨rfl, rfl⟩ := h
      exact eatPT_rows h2 k hk
    · cases h
  | none :: _, _, _, h, _, _ => by simp [eatPT] at h
  | some .no :: _, _, _, h, _, _ => by simp [eatPT] at h
  | some .und :: _, _, _, h, _, _ => by simp [eatPT] at h
  | some (.tup _) :: _, _, _, h, _, _ => by simp [eatPT] at h
  | some (.pan _) :: _, _, _, h, _, _ => by simp [eatPT] at h
def ptrsC (l : List CV) : List Nat := l.filterMap fun | .ptr k _ | .mp k => some k | _ => none
def ptrsT (l : List T1) : List Nat := l.flatMap fun | .c x => ptrsC [x] | .g l => ptrsC l | .f _ _ l => ptrsC l
def refsB : Blk → List Nat
  | .obj l _ => l.filterMap fun | .ptr k _ | .row k | .rptr k _ _ _ | .mp k | .rsl k _ _ _ => some k | _ => none
  | _ => []
def reach (mem : Nat → Option Blk) : Nat → List Nat → List Nat → List Nat
  | 0, _, acc => acc
  | _ + 1, [], acc => acc
  | n + 1, k :: ks, acc => match acc.any (Nat.beq k) with
    | true => reach mem n ks acc
    | false => match mem k with
      | some b => reach mem n (refsB b ++ ks) (acc ++ [k])
      | none => reach mem n ks acc
def subMem (mem : Nat → Option Blk) : List Nat → Option (List (Nat × Blk))
  | [] => some []
  | k :: ks => match mem k, subMem mem ks with
    | some b, some l => some ((k, b) :: l)
    | _, _ => none
theorem subMem_ok : ∀ {ks : List Nat} {l : List (Nat × Blk)}, subMem mem ks = some l → l.map (·.1) = ks ∧ ∀ p ∈ l, mem p.1 = some p.2
  | [], l, h => by simp only [subMem, Option.some.injEq] at h; subst h; exact ⟨rfl, by simp⟩
  | k :: ks, l, h => by
    simp only [subMem] at h
    split at h
    · rename_i b l' hk hl
      cases h
      obtain ⟨h1, h2⟩ := subMem_ok hl
      exact ⟨by simp [h1], fun p hp => by
        rcases List.mem_cons.1 hp with rfl | hp
        · exact hk
        · exact h2 p hp⟩
    · cases h
def forceN (n : Nat) (K : Nat → Prop) : Prop := match n with
  | 0 => K 0
  | m + 1 => K (m + 1)
theorem forceN_eq (n : Nat) (K : Nat → Prop) : forceN n K = K n := by cases n <;> rfl
def forceNs : List Nat → (List Nat → Prop) → Prop
  | [], K => K []
  | x :: l, K => forceN x fun x => forceNs l fun l => K (x :: l)
theorem forceNs_eq : ∀ (l : List Nat) (K : List Nat → Prop), forceNs l K = K l
  | [], K => rfl
  | x :: l, K => by simp only [forceNs, forceN_eq, forceNs_eq l]
def exCallM (P : Program) (Γ : Glob) (mem : Nat → Option Blk) (nx : Nat) (f : FuncId) (avs : List (Option TV)) (K : Res → Prop) : Prop :=
  match eatPT mem avs with
  | some (xs, ks) => forceNs (reach mem 20 (ptrsT xs) []) fun ns => match disj ns ks, subMem mem ns with
    | true, some m => ∃ r upd new, CallsM P Γ f m nx xs r upd new ∧ K ⟨r, m.map (·.1) ++ ks, upd ++ dead ks, new⟩
    | _, _ => False
  | none => False
theorem run_enter {f : FuncId} {c : Call} (ho : o.op = .call c) (hc : c.callee = .value (.func f)) (hcb : Callable P f) (A : Act) (w : World) : (execOp A.eval o).run P w = .ok (.enter f (c.args.map A.eval).toList.toArray) w := by
  obtain ⟨fn, hfn, hn, hb⟩ := hcb
  simp only [execOp, ho, resolve, hc, Act.eval, Deferred.ofValue, invoke, callFunc, Sem.run_bind, Sem.run_pure, Result.andThen_ok]
  have hn' : ¬ fn.name = "runtime.NumGoroutine" := by simpa using hn
  have hb' : ¬ fn.body = none := by intro e; simp [e] at hb
  simp [program, Sem.run, hfn, hn', hb']
  apply Array.ext'
  simp
theorem exCallM_ok {f : FuncId} {avs : List (Option TV)} (hv : Callable P f → ∀ (ι : Nat → Value) (S : Nat → Prop) (A : Act) (w : World), (∀ x ∈ o.op.operands, ∀ tv, ev x = some tv → V ι S w tv (A.eval x)) → ∃ us : List Value, All2 (fun (a : Option TV) u => ∀ tv, a = some tv → V ι S w tv u) avs us ∧ (execOp A.eval o).run P w = .ok (.enter f us.toArray) w) (h : exCallM P Γ mem nx f avs K) : ∃ r, Spec P Γ o ev mem nx r ∧ K r := by
  unfold exCallM at h
  split at h
  · rename_i xs ks he
    rw [forceNs_eq] at h
    split at h
    · rename_i m hdisj hm
      obtain ⟨r, upd, new, ⟨hcb, hcall⟩, h⟩ := h
      obtain ⟨hm1, hm2⟩ := subMem_ok hm
      refine ⟨_, fun Q next ι S A w hs hG hdst q1 q2 hK hP => ?_, h⟩
      obtain ⟨us, hargs, hrun⟩ := hv hcb ι S A w q1
      have hrd : ∀ p ∈ m, BlkOk ι S w p.1 p.2 := fun p hp => q2 p.1 (List.mem_append_left _ (List.mem_map.2 ⟨p, hp, rfl⟩)) p.2 (hm2 p hp)
      have hrows : ∀ k ∈ ks, ∃ size e rows, mem k = some (.row size e rows) ∧ BlkOk ι S w k (.row size e rows) := fun k hk => by
        obtain ⟨size, e, rows, hm⟩ := eatPT_rows he k hk
        exact ⟨size, e, rows, hm, q2 k (List.mem_append_right _ hk) _ hm⟩
      have hS1 : ∀ b, giveUp ι S ks b → b < w.heap.size := fun b hb => by
        rcases hb with hb | ⟨k, hk, hb⟩
        · exact hs b hb
        · obtain ⟨size, e, rows, _, hr⟩ := hrows k hk
          exact (row_lt hr b hb).1
      have hall := eatPT_ok (S' := giveUp ι S ks) (fun b hb => .inl hb) he hargs (fun k hk b hb => q2 k (List.mem_append_right _ hk) b hb) (fun k hk g hg => .inr ⟨k, hk, hg⟩)
      have hne : ∀ p ∈ m, ∀ k ∈ ks, p.1 ≠ k := fun p hp k hk e => by
        subst e
        exact disj_spec hdisj (by rw [← hm1]; exact List.mem_map.2 ⟨p, hp, rfl⟩) hk
      have hsub : ∀ p ∈ m, BlkOk ι (giveUp ι S ks) w p.1 p.2 := fun p hp => by
        refine BlkOk.mono (fun _ _ => rfl) (fun b hb => .inl hb) (fun _ => rfl) (fun _ _ => rfl) (fun hl g hg => ⟨rfl, fun hgu => ?_⟩) (hrd p hp)
        rcases hgu with hgu | ⟨k, hk, hgk⟩
        · exact ((hrd p hp).sep hl hg).2 hgu
        · obtain ⟨size, e, rows, hmk, hr⟩ := hrows k hk
          exact hne p hp k hk (hdst p.1 (List.mem_append_left _ (List.mem_map.2 ⟨p, hp, rfl⟩)) k (List.mem_append_right _ hk) p.2 _ g (hm2 p hp) hmk hl rfl hg hgk)
      have hC := hcall ι (giveUp ι S ks) w _ hS1 (Γ.mono (fun _ _ => rfl) (fun b hb => .inl hb) hG) hsub (fun p hp q hq g hl hl' hg hg' => hdst p.1 (List.mem_append_left _ (List.mem_map.2 ⟨p, hp, rfl⟩)) q.1 (List.mem_append_left _ (List.mem_map.2 ⟨q, hq, rfl⟩)) p.2 q.2 g (hm2 p hp) (hm2 q hq) hl hl' hg hg') hall
      unfold Oper.wp
      rw [hrun, Oper.upon_enter]
      have conv : ∀ (tv : TV) (x : Value) (ι' : Nat → Value) (S' : Nat → Prop) (w' : World), After ι (giveUp ι S ks) w nx ⟨tv, m.map (·.1), upd, new⟩ x ι' S' w' → After ι S w nx ⟨tv, m.map (·.1) ++ ks, upd ++ dead ks, new⟩ x ι' S' w' := fun tv x ι' S' w' A => by
       refine ⟨A.val, A.keep, fun b hb => A.smono b (.inl hb), fun b hb => ?_, A.slt, A.os, A.tape, A.output, A.size, fun b hb hne' => A.heap b hb fun k hk => hne' k (by simp only [List.map_append, List.mem_append]; exact .inl hk), fun k b hk => ?_, A.newok, fun i b hb hl g hg => ?_, A.newdst⟩
       · rcases A.sgrow b hb with (h | ⟨k, hk, h⟩) | h | ⟨k, hk, h⟩
         · exact .inl h
         · exact .inr (.inr ⟨k, List.mem_append_right _ (List.mem_map.2 ⟨k, hk, rfl⟩), h⟩)
         · exact .inr (.inl h)
         · exact .inr (.inr ⟨k, List.mem_append_left _ hk, h⟩)
       · rcases List.mem_append.1 hk with hk | hk
         · exact A.updok k b hk
         · obtain ⟨k', _, he⟩ := List.mem_map.1 hk
           cases he
           trivial
       · obtain ⟨h1, h2⟩ := A.newblk i b hb hl g hg
         refine ⟨fun h => h1 (.inl h), ?_⟩
         rcases h2 with h2 | ⟨k, hk, h2⟩
         · exact .inl h2
         · exact .inr ⟨k, List.mem_append_left _ hk, h2⟩
      refine hC.mono fun e w' hX => ?_
      rcases hX with ⟨x, ι', S', hx, A⟩ | ⟨v, ι', S', hr, hx, A⟩
      · subst hx
        exact hK x ι' S' w' (conv _ _ _ _ _ A)
      · subst hx
        exact hP v hr ι' S' w' (conv _ _ _ _ _ A)
    · exact h.elim
  · exact h.elim
def plainT : List (Option TV) → Option (List T1)
  | [] => some []
  | some (.o x) :: l => (plainT l).map (x :: ·)
  | _ :: _ => none
theorem plainT_ok {ι : Nat → Value} {S S' : Nat → Prop} {w : World} (hS : ∀ b, S b → S' b) : ∀ {l : List (Option TV)} {xs : List T1} {us : List Value}, plainT l = some xs → All2 (fun (a : Option TV) u => ∀ tv, a = some tv → V ι S w tv u) l us → All2 (V1 ι S' w) xs us
  | [], xs, us, h, ha => by
    cases h
    obtain rfl := ha.nil_left
    exact .nil
  | some (.o x) :: l, xs, us, h, ha => by
    simp only [plainT] at h
    obtain ⟨ys, h1, rfl⟩ := Option.map_eq_some_iff.1 h
    obtain ⟨u, us', rfl, e1, e2⟩ := ha.cons_left
    refine .cons ?_ (plainT_ok hS h1 e2)
    have : V ι S' w (.o x) u := V.mono (fun _ _ => rfl) hS (fun _ _ => rfl) (e1 _ rfl)
    exact this
  | none :: l, xs, us, h, ha => by cases h
  | some .no :: l, xs, us, h, ha => by cases h
  | some .und :: l, xs, us, h, ha => by cases h
  | some (.tup _) :: l, xs, us, h, ha => by cases h
  | some (.pan _) :: l, xs, us, h, ha => by cases h
def namesC : CV → List Nat
  | .ptr k _ => [k]
  | .row k => [k]
  | .mp k => [k]
  | _ => []
def namesT : List T1 → List Nat
  | [] => []
  | .c x :: l => namesC x ++ namesT l
  | .g x :: l => x.flatMap namesC ++ namesT l
  | .f _ _ x :: l => x.flatMap namesC ++ namesT l
def exCallR (P : Program) (Γ : Glob) (mem : Nat → Option Blk) (nx : Nat) (f : FuncId) (avs : List (Option TV)) (K : Res → Prop) : Prop :=
  match plainT avs with
  | some xs => forceNs (reach mem 20 (namesT xs) []) fun ns => match subMem mem ns with
    | some m => ∃ r upd new, CallsM P Γ f m nx xs r upd new ∧ K ⟨r, m.map (·.1), upd, new⟩
    | _ => False
  | none => False
theorem exCallR_ok {f : FuncId} {avs : List (Option TV)} (hv : Callable P f → ∀ (ι : Nat → Value) (S : Nat → Prop) (A : Act) (w : World), (∀ x ∈ o.op.operands, ∀ tv, ev x = some tv → V ι S w tv (A.eval x)) → ∃ us : List Value, All2 (fun (a : Option TV) u => ∀ tv, a = some tv → V ι S w tv u) avs us ∧ (execOp A.eval o).run P w = .ok (.enter f us.toArray) w) (h : exCallR P Γ mem nx f avs K) : ∃ r, Spec P Γ o ev mem nx r ∧ K r := by
  unfold exCallR at h
  split at h
  · rename_i xs he
    obtain ⟨ks, hks⟩ : ∃ ks : List Nat, ks = [] := ⟨_, rfl⟩
    rw [forceNs_eq] at h
    split at h
    · rename_i m hm
      obtain ⟨r, upd, new, ⟨hcb, hcall⟩, h⟩ := h
      obtain ⟨hm1, hm2⟩ := subMem_ok hm
      refine ⟨⟨r, m.map (·.1) ++ ks, upd ++ dead ks, new⟩, fun Q next ι S A w hs hG hdst q1 q2 hK hP => ?_, by rw [hks, List.append_nil]; show K ⟨r, m.map (·.1), upd ++ [], new⟩; rw [List.append_nil]; exact h⟩
      obtain ⟨us, hargs, hrun⟩ := hv hcb ι S A w q1
      have hrd : ∀ p ∈ m, BlkOk ι S w p.1 p.2 := fun p hp => q2 p.1 (List.mem_append_left _ (List.mem_map.2 ⟨p, hp, rfl⟩)) p.2 (hm2 p hp)
      have hrows : ∀ k ∈ ks, ∃ size e rows, mem k = some (.row size e rows) ∧ BlkOk ι S w k (.row size e rows) := fun k hk => by
        rw [hks] at hk; cases hk
      have hS1 : ∀ b, giveUp ι S ks b → b < w.heap.size := fun b hb => by
        rcases hb with hb | ⟨k, hk, hb⟩
        · exact hs b hb
        · obtain ⟨size, e, rows, _, hr⟩ := hrows k hk
          exact (row_lt hr b hb).1
      have hall := plainT_ok (S' := giveUp ι S ks) (fun b hb => .inl hb) he hargs
      have hne : ∀ p ∈ m, ∀ k ∈ ks, p.1 ≠ k := fun p hp k hk e => by
        subst e
        rw [hks] at hk; cases hk
      have hsub : ∀ p ∈ m, BlkOk ι (giveUp ι S ks) w p.1 p.2 := fun p hp => by
        refine BlkOk.mono (fun _ _ => rfl) (fun b hb => .inl hb) (fun _ => rfl) (fun _ _ => rfl) (fun hl g hg => ⟨rfl, fun hgu => ?_⟩) (hrd p hp)
        rcases hgu with hgu | ⟨k, hk, hgk⟩
        · exact ((hrd p hp).sep hl hg).2 hgu
        · obtain ⟨size, e, rows, hmk, hr⟩ := hrows k hk
          exact hne p hp k hk (hdst p.1 (List.mem_append_left _ (List.mem_map.2 ⟨p, hp, rfl⟩)) k (List.mem_append_right _ hk) p.2 _ g (hm2 p hp) hmk hl rfl hg hgk)
      have hC := hcall ι (giveUp ι S ks) w _ hS1 (Γ.mono (fun _ _ => rfl) (fun b hb => .inl hb) hG) hsub (fun p hp q hq g hl hl' hg hg' => hdst p.1 (List.mem_append_left _ (List.mem_map.2 ⟨p, hp, rfl⟩)) q.1 (List.mem_append_left _ (List.mem_map.2 ⟨q, hq, rfl⟩)) p.2 q.2 g (hm2 p hp) (hm2 q hq) hl hl' hg hg') hall
      unfold Oper.wp
      rw [hrun, Oper.upon_enter]
      have conv : ∀ (tv : TV) (x : Value) (ι' : Nat → Value) (S' : Nat → Prop) (w' : World), After ι (giveUp ι S ks) w nx ⟨tv, m.map (·.1), upd, new⟩ x ι' S' w' → After ι S w nx ⟨tv, m.map (·.1) ++ ks, upd ++ dead ks, new⟩ x ι' S' w' := fun tv x ι' S' w' A => by
       refine ⟨A.val, A.keep, fun b hb => A.smono b (.inl hb), fun b hb => ?_, A.slt, A.os, A.tape, A.output, A.size, fun b hb hne' => A.heap b hb fun k hk => hne' k (by simp only [List.map_append, List.mem_append]; exact .inl hk), fun k b hk => ?_, A.newok, fun i b hb hl g hg => ?_, A.newdst⟩
       · rcases A.sgrow b hb with (h | ⟨k, hk, h⟩) | h | ⟨k, hk, h⟩
         · exact .inl h
         · exact .inr (.inr ⟨k, List.mem_append_right _ (List.mem_map.2 ⟨k, hk, rfl⟩), h⟩)
         · exact .inr (.inl h)
         · exact .inr (.inr ⟨k, List.mem_append_left _ hk, h⟩)
       · rcases List.mem_append.1 hk with hk | hk
         · exact A.updok k b hk
         · obtain ⟨k', _, he⟩ := List.mem_map.1 hk
           cases he
           trivial
       · obtain ⟨h1, h2⟩ := A.newblk i b hb hl g hg
         refine ⟨fun h => h1 (.inl h), ?_⟩
         rcases h2 with h2 | ⟨k, hk, h2⟩
         · exact .inl h2
         · exact .inr ⟨k, List.mem_append_left _ hk, h2⟩
      refine hC.mono fun e w' hX => ?_
      rcases hX with ⟨x, ι', S', hx, A⟩ | ⟨v, ι', S', hr, hx, A⟩
      · subst hx
        exact hK x ι' S' w' (conv _ _ _ _ _ A)
      · subst hx
        exact hP v hr ι' S' w' (conv _ _ _ _ _ A)
    · exact h.elim
  · exact h.elim
def exCallAny (P : Program) (Γ : Glob) (mem : Nat → Option Blk) (nx : Nat) (f : FuncId) (avs : List (Option TV)) (K : Res → Prop) : Prop :=
  match Γ.kr.any (Nat.beq f) with
  | true => exCallR P Γ mem nx f avs K
  | false => match eatT mem avs with
    | some _ => exCall P Γ mem f avs K
    | none => exCallM P Γ mem nx f avs K
theorem exCallAny_ok {f : FuncId} {avs : List (Option TV)} (hv : Callable P f → ∀ (ι : Nat → Value) (S : Nat → Prop) (A : Act) (w : World), (∀ x ∈ o.op.operands, ∀ tv, ev x = some tv → V ι S w tv (A.eval x)) → ∃ us : List Value, All2 (fun (a : Option TV) u => ∀ tv, a = some tv → V ι S w tv u) avs us ∧ (execOp A.eval o).run P w = .ok (.enter f us.toArray) w) (h : exCallAny P Γ mem nx f avs K) : ∃ r, Spec P Γ o ev mem nx r ∧ K r := by
  unfold exCallAny at h
  split at h
  · exact exCallR_ok hv h
  · split at h
    · exact exCall_ok hv h
    · exact exCallM_ok hv h
theorem call_func {f : FuncId} {c : Call} (ho : o.op = .call c) (hc : c.callee = .value (.func f)) (hcb : Callable P f) (ι : Nat → Value) (S : Nat → Prop) (A : Act) (w : World) (q1 : ∀ x ∈ o.op.operands, ∀ tv, ev x = some tv → V ι S w tv (A.eval x)) :
    ∃ us : List Value, All2 (fun (a : Option TV) u => ∀ tv, a = some tv → V ι S w tv u) (c.args.toList.map ev) us ∧ (execOp A.eval o).run P w = .ok (.enter f us.toArray) w := by
  refine ⟨(c.args.map A.eval).toList, ?_, run_enter ho hc hcb A w⟩
  rw [Array.toList_map]
  refine All2.map_left ⟨by simp, fun i a b ha hb => ?_⟩
  rw [List.getElem?_map, ha] at hb
  cases hb
  intro tv htv
  exact q1 a (by simp only [ho, Op.operands, Call.operands]; exact Array.mem_append_right _ (Array.mem_toList_iff.1 (List.mem_of_getElem? ha))) tv htv
def celT (x : CV) : Option TV := some (.o (.c x))
theorem call_clo {f : FuncId} {a : Nat} {l : List CV} {c : Call} {t : Tmp} (ho : o.op = .call c) (hc : c.callee = .value (.tmp t)) (ht : ev (.tmp t) = some (.o (.f f a l))) (hcb : Callable P f) (ι : Nat → Value) (S : Nat → Prop) (A : Act) (w : World) (q1 : ∀ x ∈ o.op.operands, ∀ tv, ev x = some tv → V ι S w tv (A.eval x)) :
    ∃ us : List Value, All2 (fun (a : Option TV) u => ∀ tv, a = some tv → V ι S w tv u) ((l.take a).map celT ++ (c.args.toList.map ev ++ (l.drop a).map celT)) us ∧ (execOp A.eval o).run P w = .ok (.enter f us.toArray) w := by
  obtain ⟨vs, hvs, hall⟩ := q1 (.tmp t) (by simp only [ho, Op.operands, Call.operands, hc]; simp) _ ht
  have hcv : ∀ {l : List CV} {us : List Value}, All2 (VC ι S w) l us → All2 (fun (a : Option TV) u => ∀ tv, a = some tv → V ι S w tv u) (l.map celT) us := fun h => All2.map_left (h.mono fun a u hau tv htv => by cases htv; exact hau)
  refine ⟨vs.take a ++ ((c.args.map A.eval).toList ++ vs.drop a), (hcv (hall.take a)).append (All2.append ?_ (hcv (hall.drop a))), ?_⟩
  · rw [Array.toList_map]
    refine All2.map_left ⟨by simp, fun i a b ha hb => ?_⟩
    rw [List.getElem?_map, ha] at hb
    cases hb
    intro tv htv
    exact q1 a (by simp only [ho, Op.operands, Call.operands]; exact Array.mem_append_right _ (Array.mem_toList_iff.1 (List.mem_of_getElem? ha))) tv htv
  · obtain ⟨fn, hfn, hn, hb⟩ := hcb
    have hn' : ¬ fn.name = "runtime.NumGoroutine" := by simpa using hn
    have hb' : ¬ fn.body = none := by intro e; simp [e] at hb
    simp only [execOp, ho, resolve, hc, hvs, Deferred.ofValue, invoke, callFunc, Sem.run_bind, Sem.run_pure, Result.andThen_ok]
    simp [program, Sem.run, hfn, hn', hb']

def exMkI (L : Nat → Option Lay) (ev : Operand → Option TV) (t : TypeId) (x : Operand) (K : Res → Prop) : Prop :=
  match L t, (ev x).bind flatV with
  | some ⟨_, _, _, .other⟩, _ => False
  | some _, some v => K (pureR (.o (.c (.d (.v (.iface t v))))))
  | _, _ => False
theorem exMkI_ok (hL : LOk P L) {t : TypeId} {x : Operand} (ho : o.op = .makeInterface t x) (h : exMkI L ev t x K) : ∃ r, Spec P Γ o ev mem nx r ∧ K r := by
  unfold exMkI at h
  split at h
  · exact h.elim
  · rename_i l v hno hl hv
    obtain ⟨tv, hx, hf⟩ := Option.bind_eq_some_iff.1 hv
    refine ⟨_, spec_val fun ι S A w h1 h2 => ⟨.iface t v, ?_, V_mk rfl⟩, h⟩
    have ex := flatV_ok hf (h1 x (by simp [ho, Op.operands]) _ hx)
    obtain ⟨i, d, z, _, hu, _, _, _, _, hk⟩ := (layOf_ok (hL _ _ hl)).ex
    have hni : ∀ ms, d ≠ .interface ms := fun ms e => by
      subst e
      simp only [kindOf, Option.some.injEq] at hk
      obtain ⟨a, b, c, kk⟩ := l
      simp only at hk
      subst hk
      exact hno _ _ _ rfl
    simp only [execOp, ho, ex, Instr.makeInterface, Sem.run_bind, run_underlying hu, Result.andThen_ok]
    cases d <;> first | rfl | exact absurd rfl (hni _)
  · exact h.elim
def cvsOf (ev : Operand → Option TV) : List Operand → Option (List CV)
  | [] => some []
  | x :: l => match ev x, cvsOf ev l with
    | some (.o (.c c)), some cs => some (c :: cs)
    | _, _ => none
theorem cvsOf_ok {ι : Nat → Value} {S : Nat → Prop} {w : World} {A : Act} : ∀ {l : List Operand} {cs : List CV}, cvsOf ev l = some cs → (∀ x ∈ l, ∀ tv, ev x = some tv → V ι S w tv (A.eval x)) → All2 (VC ι S w) cs (l.map A.eval)
  | [], cs, h, _ => by cases h; exact .nil
  | x :: l, cs, h, hq => by
    simp only [cvsOf] at h
    split at h
    · rename_i c cs' h1 h2
      cases h
      have : VC ι S w c (A.eval x) := hq x (by simp) _ h1
      exact .cons this (cvsOf_ok h2 (fun y hy => hq y (by simp [hy])))
    · cases h
def exMkFn (ev : Operand → Option TV) (fn : Fn) (first caps : List Operand) (K : Res → Prop) : Prop :=
  match fn, cvsOf ev (first ++ caps) with
  | .func g, some cs => K (pureR (.o (.f g first.length cs)))
  | _, _ => False
theorem exMkFn_ok {fn : Fn} {first caps : Array Operand} (ho : o.op = .makeFunc fn first caps) (h : exMkFn ev fn first.toList caps.toList K) : ∃ r, Spec P Γ o ev mem nx r ∧ K r := by
  unfold exMkFn at h
  split at h
  · rename_i g cs hcs
    refine ⟨_, spec_val fun ι S A w q1 q2 => ⟨.func (.func g) (first.map A.eval) (caps.map A.eval), ?_, ?_⟩, h⟩
    · simp only [execOp, ho, Instr.makeFunc]
      rfl
    · have := cvsOf_ok (A := A) hcs (fun x hx => q1 x (by
        simp only [ho, Op.operands]
        rcases List.mem_append.1 hx with h | h
        · exact Array.mem_append_left _ (Array.mem_toList_iff.1 h)
        · exact Array.mem_append_right _ (Array.mem_toList_iff.1 h)))
      refine ⟨_, ?_, this⟩
      rw [List.map_append, List.take_left' (by simp), List.drop_left' (by simp), ← Array.toList_map, ← Array.toList_map, Array.toArray_toList, Array.toArray_toList]
  · exact h.elim
def exPanic (ev : Operand → Option TV) (x : Operand) (K : Res → Prop) : Prop :=
  match ev x with
  | some (.o (.c (.d (.v (.iface t v))))) => K ⟨.pan (.iface t v), [], [], []⟩
  | _ => False
theorem exPanic_ok {x : Operand} (ho : o.op = .panic x) (h : exPanic ev x K) : ∃ r, Spec P Γ o ev mem nx r ∧ K r := by
  unfold exPanic at h
  split at h
  · rename_i t v hx
    refine ⟨_, fun Q next ι S A w hs hG hdst q1 q2 hK hP => ?_, h⟩
    have ex := V_v (q1 x (by simp [ho, Op.operands]) _ hx)
    unfold Oper.wp
    have hrun : (execOp A.eval ‹Oper›).run P w = .halt (.panic (.iface t v)) w := by
      simp [execOp, ho, ex, Instr.panic, Sem.run]
    rw [hrun, Oper.upon_panic]
    exact hP _ rfl ι S w (After.same hs rfl)
  · exact h.elim

def exC (P : Program) (Γ : Glob) (L : Nat → Option Lay) (ev : Operand → Option TV) (mem : Nat → Option Blk) (nx : Nat) (c : Call) (K : Res → Prop) : Prop :=
  match c.callee, c.args.toList, c.argTypes.toList with
  | .builtin .len, [x], [t] => exLenAny L ev mem t x K
  | .builtin .clear, [x], [t] => exClear L ev mem t x K
  | .builtin .append, [s, x], [t, t'] => match Nat.beq t t' with
    | true => exAppend L ev mem nx t s x K
    | false => exAppendS P L ev mem nx t t' s x K
  | .builtin .unsafeSliceData, [x], _ => exUData ev mem x K
  | .builtin .unsafeString, [p, n], [pt, _] => exUStr P ev mem pt p n K
  | .builtin .min, [x, y], _ => exMin ev x y K
  | .builtin .max, [x, y], _ => exMax ev x y K
  | .value (.func f), args, _ => exCallAny P Γ mem nx f (args.map ev) K
  | .value (.tmp t), args, _ => match ev (.tmp t) with
    | some (.o (.f f a l)) => exCallAny P Γ mem nx f ((l.take a).map celT ++ (args.map ev ++ (l.drop a).map celT)) K
    | _ => False
  | _, _, _ => False
def evG (Γ : Glob) (ev : Operand → Option TV) : Operand → Option TV
  | .global g => match Γ.gl g with
    | some cs => some (.o (.c (.eptr cs)))
    | none => none
  | .tmp t => ev (.tmp t)
  | .const v => ev (.const v)
  | .func f => ev (.func f)
theorem Spec.ofG {r : Res} (h : Spec P Γ o (evG Γ ev) mem nx r) : Spec P Γ o ev mem nx r := fun Q next ι S a w hs hG hdst q1 q2 hK hP => by
  refine h Q next ι S a w hs hG hdst (fun x hx tv htv => ?_) q2 hK hP
  cases x with
  | global g =>
    simp only [evG] at htv
    split at htv
    · rename_i cs hg
      cases htv
      obtain ⟨us, h1, h2⟩ := Γ.gok hG hg
      exact ⟨g, 0, us, rfl, h1, fun j d hj => by rw [Nat.zero_add]; exact h2 j d hj⟩
    · cases htv
  | tmp t => exact q1 _ hx tv htv
  | const v => exact q1 _ hx tv htv
  | func f => exact q1 _ hx tv htv
def exI (P : Program) (Γ : Glob) (L : Nat → Option Lay) (ev : Operand → Option TV) (mem : Nat → Option Blk) (nx : Nat) (op : Op) (K : Res → Prop) : Prop :=
  match op with
  | .move x | .assign x => exMove ev x K
  | .pick c x y => exPick ev c x y K
  | .alloc t => exAlloc L nx t K
  | .box _ x => exBox ev nx x K
  | .build t ps => exBuild L ev t ps K
  | .buildSlice t n ps => exBuildSlice L ev mem nx t n ps K
  | .load t p => exLoad L ev mem t p K
  | .store t p x => exStore L ev mem t p x K
  | .nilCheck x => exNil ev x K
  | .binOp op t x y _ => exBinOp P L ev op t x y K
  | .unOp op _ x => exUn ev op x K
  | .convert s d x => exConvB L ev mem s d x K
  | .makeSlice t l c => exMake L ev nx t l c K
  | .slice t x lo hi none => exSliceX L ev mem nx t x lo hi K
  | .fieldAddr t x f => exField L ev t x f K
  | .field t x f => exPart L ev t x f K
  | .indexAddr t x i => exIndexAddr L ev mem t x i K
  | .index t x i => exIndexStr L ev t x i K
  | .extract x i => exExtract ev x i K
  | .makeInterface t x => exMkI L ev t x K
  | .panic x => exPanic ev x K
  | .makeFunc fn first caps => exMkFn ev fn first.toList caps.toList K
  | .lookup t x i ok => exLookup L ev mem t x i ok K
  | .mapUpdate t x i y => exMapUpd L ev mem t x i y K
  | .insert t x i y => exMapUpd L ev mem t x i y K
  | .makeMap t r => exMkMap L ev nx t r K
  | .call c => exC P Γ L ev mem nx c K
  | _ => False
def ex (P : Program) (Γ : Glob) (L : Nat → Option Lay) (ev : Operand → Option TV) (mem : Nat → Option Blk) (nx : Nat) (op : Op) (K : Res → Prop) : Prop := exI P Γ L (evG Γ ev) mem nx op K
theorem exC_ok (hL : LOk P L) {c : Call} (ho : o.op = .call c) (h : exC P Γ L ev mem nx c K) : ∃ r, Spec P Γ o ev mem nx r ∧ K r := by
  obtain ⟨callee, args, ts⟩ := c
  unfold exC at h
  split at h
  · rename_i x t h1 h2 h3
    simp only at h1 h2 h3
    subst h1
    obtain rfl : args = #[x] := by rw [← Array.toArray_toList (xs := args), h2]
    obtain rfl : ts = #[t] := by rw [← Array.toArray_toList (xs := ts), h3]
    exact exLenAny_ok hL ho rfl h
  · rename_i x t h1 h2 h3
    simp only at h1 h2 h3
    subst h1
    obtain rfl : args = #[x] := by rw [← Array.toArray_toList (xs := args), h2]
    obtain rfl : ts = #[t] := by rw [← Array.toArray_toList (xs := ts), h3]
    exact exClear_ok hL ho rfl h
  · rename_i s x t t' h1 h2 h3
    simp only at h1 h2 h3
    subst h1
    split at h
    · rename_i hb
      obtain rfl := Nat.eq_of_beq_eq_true hb
      obtain rfl : args = #[s, x] := by rw [← Array.toArray_toList (xs := args), h2]
      obtain rfl : ts = #[t, t] := by rw [← Array.toArray_toList (xs := ts), h3]
      exact exAppend_ok hL ho rfl h
    · obtain rfl : args = #[s, x] := by rw [← Array.toArray_toList (xs := args), h2]
      obtain rfl : ts = #[t, t'] := by rw [← Array.toArray_toList (xs := ts), h3]
      exact exAppendS_ok hL ho h
  · rename_i x h1 h2
    simp only at h1 h2
    subst h1
    obtain rfl : args = #[x] := by rw [← Array.toArray_toList (xs := args), h2]
    exact exUData_ok ho h
  · rename_i p n pt it h1 h2 h3
    simp only at h1 h2 h3
    subst h1
    obtain rfl : args = #[p, n] := by rw [← Array.toArray_toList (xs := args), h2]
    obtain rfl : ts = #[pt, it] := by rw [← Array.toArray_toList (xs := ts), h3]
    exact exUStr_ok ho h
  · rename_i x y h1 h2
    simp only at h1 h2
    subst h1
    obtain rfl : args = #[x, y] := by rw [← Array.toArray_toList (xs := args), h2]
    exact exMin_ok ho h
  · rename_i x y h1 h2
    simp only at h1 h2
    subst h1
    obtain rfl : args = #[x, y] := by rw [← Array.toArray_toList (xs := args), h2]
    exact exMax_ok ho h
  · rename_i f h1
    simp only at h1
    exact exCallAny_ok (fun hcb ι S A w q1 => call_func ho h1 hcb ι S A w q1) h
  · rename_i t h1
    simp only at h1
    split at h
    · rename_i f a l ht
      exact exCallAny_ok (fun hcb ι S A w q1 => call_clo ho h1 ht hcb ι S A w q1) h
    · exact h.elim
  · exact h.elim
theorem exI_ok (hL : LOk P L) (h : exI P Γ L ev mem nx o.op K) : ∃ r, Spec P Γ o ev mem nx r ∧ K r := by
  unfold exI at h
  split at h
  · rename_i x ho; exact exMove_ok (.inl ho) h
  · rename_i x ho; exact exMove_ok (.inr ho) h
  · rename_i ho; exact exPick_ok ho h
  · rename_i ho; exact exAlloc_ok hL ho h
  · rename_i ho; exact exBox_ok ho h
  · rename_i ho; exact exBuild_ok hL ho h
  · rename_i ho; exact exBuildSlice_ok hL ho h
  · rename_i ho; exact exLoad_ok hL ho h
  · rename_i ho; exact exStore_ok hL ho h
  · rename_i ho; exact exNil_ok ho h
  · rename_i ho; exact exBinOp_ok hL ho h
  · rename_i ho; exact exUn_ok ho h
  · rename_i ho; exact exConvB_ok hL ho h
  · rename_i ho; exact exMake_ok hL ho h
  · rename_i ho; exact exSliceX_ok hL ho h
  · rename_i ho; exact exField_ok hL ho h
  · rename_i ho; exact exPart_ok hL ho h
  · rename_i ho; exact exIndexAddr_ok hL ho h
  · rename_i ho; exact exIndexStr_ok hL ho h
  · rename_i ho; exact exExtract_ok ho h
  · rename_i ho; exact exMkI_ok hL ho h
  · rename_i ho; exact exPanic_ok ho h
  · rename_i ho; exact exMkFn_ok ho h
  · rename_i ho; exact exLookup_ok hL ho h
  · rename_i ho; exact exMapUpd_ok hL (.inl ho) h
  · rename_i ho; exact exMapUpd_ok hL (.inr ho) h
  · rename_i ho; exact exMkMap_ok hL ho h
  · rename_i c ho; exact exC_ok hL ho h
  · exact h.elim
theorem ex_ok (hL : LOk P L) (h : ex P Γ L ev mem nx o.op K) : ∃ r, Spec P Γ o ev mem nx r ∧ K r := by
  obtain ⟨r, h1, h2⟩ := exI_ok hL h
  exact ⟨r, h1.ofG, h2⟩
def loadsAt (ev : Operand → Option TV) (op : Op) (r : Res) (k off : Nat) (c : CV) : Prop := ∃ t a, op = .load t (.tmp a) ∧ ev (.tmp a) = some (.o (.c (.ptr k off))) ∧ r = ⟨.o (.c c), [k], [], []⟩
theorem ofCells_one {b : Bool} {cs : List CV} {c : CV} (h : ofCells b cs = some (.o (.c c))) : b = false ∧ cs = [c] := by
  unfold ofCells at h
  split at h
  · simp_all
  · split at h
    · simp_all
    · cases h
theorem ex_ok2 (hL : LOk P L) (h : ex P Γ L ev mem nx o.op K) : ∃ r, Spec P Γ o ev mem nx r ∧ K r ∧ ∀ k off c, loadsAt ev o.op r k off c → (∃ cells tg, mem k = some (.obj cells tg) ∧ cells[off]? = some c) ∧ ∀ mem' : Nat → Option Blk, (∃ cells tg, mem' k = some (.obj cells tg) ∧ cells[off]? = some c) → Spec P Γ o ev mem' nx r := by
  by_cases hl : ∃ t a, o.op = .load t (.tmp a)
  · obtain ⟨t, a, hop⟩ := hl
    have h0 : exLoad L (evG Γ ev) mem t (.tmp a) K := by unfold ex at h; rw [hop] at h; exact h
    obtain ⟨r, hs, hK⟩ := ex_ok hL h
    clear hs hK
    obtain ⟨r, hs, hKr⟩ : ∃ r, exLoad L (evG Γ ev) mem t (.tmp a) (fun r' => r' = r) ∧ K r := by
      unfold exLoad at h0 ⊢
      split at h0
      · exact h0.elim
      split at h0
      · split at h0
        · split at h0
          · exact ⟨_, rfl, h0⟩
          · exact h0.elim
        · exact h0.elim
      · split at h0
        · exact ⟨_, rfl, h0⟩
        · exact h0.elim
      · split at h0
        · obtain ⟨e1, r, e2, h0⟩ := h0
          split at h0
          · rename_i v hv1 hv2
            exact ⟨⟨v, _, [], []⟩, ⟨e1, r, e2, by simp only [hv1, hv2]⟩, h0⟩
          · exact h0.elim
        · exact h0.elim
      · exact h0.elim
    have mk : ∀ mem' : Nat → Option Blk, exLoad L (evG Γ ev) mem' t (.tmp a) (fun r' => r' = r) → Spec P Γ o ev mem' nx r := fun mem' hm => by
      have : ex P Γ L ev mem' nx o.op (fun r' => r' = r) := by unfold ex; rw [hop]; exact hm
      obtain ⟨r', h1, rfl⟩ := ex_ok hL this
      exact h1
    refine ⟨r, mk mem hs, hKr, fun k off c ⟨t', a', hop', hev, hr⟩ => ?_⟩
    rw [hop] at hop'
    cases hop'
    have hevG : evG Γ ev (.tmp a) = some (.o (.c (.ptr k off))) := hev
    subst hr
    unfold exLoad at hs
    split at hs
    · exact hs.elim
    rename_i l hl
    rw [hevG] at hs
    dsimp only at hs
    split at hs
    · rename_i cells tg hk
      split at hs
      · rename_i v hle hv
        obtain rfl : v = .o (.c c) := congrArg Res.v hs
        obtain ⟨hagg, hcs⟩ := ofCells_one hv
        have hle' := Nat.le_of_ble_eq_true hle
        have hlen := congrArg List.length hcs
        simp only [List.length_take, List.length_drop, List.length_cons, List.length_nil] at hlen
        have hsz : l.size = 1 := by omega
        have hc : cells[off]? = some c := by
          have := congrArg (·[0]?) hcs
          simpa [hsz, List.getElem?_take, List.getElem?_drop] using this
        refine ⟨⟨cells, tg, hk, hc⟩, fun mem' ⟨cells', tg', hk', hc'⟩ => mk mem' ?_⟩
        unfold exLoad
        rw [hl, hevG]
        dsimp only
        rw [hk']
        dsimp only
        have hlt := (List.getElem?_eq_some_iff.1 hc').1
        have h1 : Nat.ble (off + l.size) cells'.length = true := by rw [hsz]; exact Nat.ble_eq_true_of_le (by omega)
        have h2 : (cells'.drop off).take l.size = [c] := by
          rw [hsz]
          apply List.ext_getElem?
          intro n
          rw [List.getElem?_take]
          cases n with
          | zero => simp [List.getElem?_drop, hc']
          | succ n => simp
        rw [h1, h2, ← hcs, hv]
      · exact hs.elim
    · exact hs.elim
  · obtain ⟨r, h1, h2⟩ := ex_ok hL h
    exact ⟨r, h1, h2, fun k off c ⟨t, a, hop, _⟩ => absurd ⟨t, a, hop⟩ hl⟩
end
end Go.Proofs.YtidnlfkakhmadaaGreatDoor
