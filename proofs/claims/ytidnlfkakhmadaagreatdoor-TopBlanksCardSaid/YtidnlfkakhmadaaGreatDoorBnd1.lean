/- Texts that the last one leans on: General lemmas that this repo's proofs share: the class of worlds that extend a world, a region that draws its order walked once in that class, small closers. No condition. What every law's row needs: from 'the call returns true and only makes memory' to the row's own words; arguments opened by their types. No condition. Plain law of the lexer: lexF, byte by byte; blanks and comments passed over; lines; tokens joined; the limits. No condition. Plain law of the parser of descriptions: what it reads of a list of tokens. Condition: none. Plain law of the parser: the place grows and stays within the tokens; no more expressions or types than tokens. Condition: the last token, and it alone, may be the end. Plain law of the parser: the place never goes back; a field and a pack read at least one token. No condition. Plain law of ParseJoins: a description behind another one is read as it is alone, moved. Condition: none. Plain law of the parser: expressions as they are written. What is written so is read so, and what is read was written so. Condition: the tokens are those of a text. Plain law of the parser: types as they are written. What is written so is read so, and what is read was written so. Condition: the tokens are those of a text. Plain law of the parser: a type that is written so is read so. Condition: none. Plain law of the parser: a type that is read was written so. Condition: the tokens are those of a text. Plain law of the parser: items,  -/
import Derived.Test.YtidnlfkakhmadaaGreatDoorRows
import Derived.WalkKit
import Derived.WalkSpells
import Derived.WalkLawsBesides
import Derived.BigQuiet
import Derived.Lib.Hide
import Derived.Handy
import Derived.StillTail
import Derived.Lib.ConvBytes
import Derived.ProofKit
import Derived.SizedLaws
import Derived.OpenShut
import Derived.Lib.ItoaNum
import Derived.Shelf.Strings.Builder1
import Derived.Shelf.Strings.Builder2
import Derived.Shelf.Strings.OnBuilder
import Derived.Shelf.Strings.Trim
import Derived.Shelf.Small.Utf8
import Derived.Shelf.Small.Strs
import Derived.Shelf.Small.Wraps
import Derived.Shelf.Strings.BuilderF
import Derived.Shelf.Strings.BuilderK
import Derived.Shelf.Strings.Builder2Cap
import Derived.Shelf.Strconv.Itoa0
import Derived.Shelf.Strconv.Itoa1
import Derived.Shelf.LaysM
import Derived.Shelf.Strconv.Itoa2
import Derived.Shelf.Strconv.Itoa3
import Derived.Shelf.Strconv.Clone
import Derived.Shelf.Strconv.SyntaxError
import Derived.Shelf.LaysC
import Derived.Shelf.Strconv.ToError
import Derived.Shelf.Strconv.Lower
import Derived.Shelf.Strconv.ParseUint10
import Derived.Shelf.Strconv.ParseUint10Empty
import Derived.Shelf.Strconv.ParseUint10Any
import Derived.Shelf.Strconv.RangeError
import Derived.Shelf.Strconv.ToErrorRange
import Derived.Shelf.Strconv.ParseUintEmpty
import Derived.Shelf.Strconv.ParseUint10b64
import Derived.Shelf.Strconv.ParseUint10b32
import Derived.Shelf.Strconv.ParseUint10b16
import Derived.Shelf.Strconv.ParseUint10b8
import Derived.Shelf.Strconv.ParseUint10At
import Derived.Ground.MpProg
import Derived.Shelf.Pu.ParseUintPublic10
import Derived.Shelf.Pu.ErrVarParseUint
import Derived.Shelf.Strings.Search1
import Derived.Shelf.Strings.Search2
import Derived.Shelf.Strings.Cut
import Derived.Shelf.Strings.Shaped
import Derived.Shelf.Strings.Prefix
import Derived.Shelf.Unicode.Decode
import Derived.Shelf.Strings.Runes
import Derived.Shelf.Strings.AsciiSet
import Derived.Shelf.Unicode.DecodeSlow
import Derived.Shelf.Unicode.DecodeAny
import Derived.Shelf.Strings.BuilderCap
import Derived.Shelf.Slices.Equal
import Derived.Shelf.Slices.Empties2
import Derived.Test.YtidnlfkakhmadaaGreatDoorProg
set_option linter.unusedVariables false
set_option linter.unusedSimpArgs false
set_option maxRecDepth 100000
namespace Go.Proofs.YtidnlfkakhmadaaGreatDoor
open Go.RowKit

structure Ext (W : World) where
 w : World
 b : Below W.heap.size W w

instance {W : World} : Nonempty (Ext W) := ⟨⟨W, Below.refl _ _⟩⟩
instance {W : World} : Inhabited (Ext W) := ⟨⟨W, Below.refl _ _⟩⟩

class ExtC (W : outParam World) (w : World) : Prop where
 b : Below W.heap.size W w
class LtC (n m : Nat) : Prop where
 h : n < m
class LeC (n m : Nat) : Prop where
 h : n ≤ m
instance (priority := 2000) (n : Nat) : LeC n n := ⟨Nat.le_refl _⟩
instance (priority := 1900) (n m : Nat) [LeC n m] : LeC n (m + 1) := ⟨Nat.le_succ_of_le LeC.h⟩
instance (priority := 1800) (n m : Nat) [LeC n m] : LeC (n + 1) (m + 1) := ⟨Nat.succ_le_succ LeC.h⟩
instance (n : Nat) (w : World) (o : Obj) [LeC n (w.heap.size + 1)] : LeC n (w.alloc o).heap.size := ⟨by rw [World.size_alloc]; exact LeC.h⟩
instance (n : Nat) (w : World) (a : Addr) (v : Value) [LeC n w.heap.size] : LeC n (w.setCell a v).heap.size := ⟨by simp only [World.setCell, Array.size_modify]; exact LeC.h⟩
instance (n : Nat) (w : World) [LeC n w.heap.size] : LeC n w.drew.heap.size := ⟨(LeC.h : n ≤ w.heap.size)⟩
instance (n : Nat) (W w : World) [h : ExtC W w] [LeC n W.heap.size] : LeC n w.heap.size := ⟨Nat.le_trans LeC.h h.b.size⟩
instance (priority := 2000) (n : Nat) : LtC n (n + 1) := ⟨Nat.lt_succ_self _⟩
instance (priority := 1900) (n m : Nat) [LtC n m] : LtC n (m + 1) := ⟨Nat.lt_succ_of_lt LtC.h⟩
instance (priority := 1800) (n m : Nat) [LtC n m] : LtC (n + 1) (m + 1) := ⟨Nat.succ_lt_succ LtC.h⟩
instance (n : Nat) (w : World) (o : Obj) [LtC n (w.heap.size + 1)] : LtC n (w.alloc o).heap.size := ⟨by rw [World.size_alloc]; exact LtC.h⟩
instance (n : Nat) (w : World) (a : Addr) (v : Value) [LtC n w.heap.size] : LtC n (w.setCell a v).heap.size := ⟨by simp only [World.setCell, Array.size_modify]; exact LtC.h⟩
instance (n : Nat) (w : World) [LtC n w.heap.size] : LtC n w.drew.heap.size := ⟨(LtC.h : n < w.heap.size)⟩
instance (n : Nat) (W w : World) [h : ExtC W w] [LtC n W.heap.size] : LtC n w.heap.size := ⟨Nat.lt_of_lt_of_le LtC.h h.b.size⟩
instance {W : World} (x : Ext W) : ExtC W x.w := ⟨x.b⟩

class AtC (w : World) (b : Nat) (W : outParam World) : Prop where
 h : w.heap[b]? = W.heap[b]?
instance {W w : World} (b : Nat) [h : ExtC W w] [LtC b W.heap.size] : AtC w b W := ⟨h.b.block b LtC.h⟩
def cellOf (W : World) (b o : Nat) : Option Value := W.cell? ⟨b, o, none⟩
def frozenOf (W : World) (b o : Nat) : Bool := W.frozen? ⟨b, o, none⟩
section
variable {P : Program} {ops : Array Oper} {md : Region.Mode} {C : World → Prop}

def backB (md : Region.Mode) (ops : Array Oper) : Bool :=
 (List.range ops.size).all fun i => match ops[i]? with
  | some o => o.after.all fun e => !Region.binds md e || decide (e.on < i)
  | none => true
def tailB (md : Region.Mode) (ops : Array Oper) (n : Nat) : Bool :=
 (List.range ops.size).all fun t => decide (t < n) || (List.range n).all fun i => Region.waitsFor md ops t i
def guardB (ops : Array Oper) (n : Nat) : Bool :=
 (List.range n).all fun i => match ops[i]? with
  | some o => match o.guard with
   | some (j, _) => decide (j < n)
   | none => true
  | none => true

def fullTo (n m : Nat) : Array Bool := ((List.range m).map fun i => decide (i < n)).toArray

end


def bcells (l : List UInt8) : List Value := l.map fun b => .int .u8 (b.toNat : Int)

end Go.Proofs.YtidnlfkakhmadaaGreatDoor

namespace Go.Proofs.YtidnlfkakhmadaaGreatDoor
open Go.ChangeShapes Go.WideShapes Go.ChangeAt Go.RowKit

theorem own : ownKnob Tryz.prog.godebug = none := by kernel_rfl
theorem laidOut : laidOutB Tryz.prog = true := by kernel_rfl

section
variable {H : Type} {enc : TypeId × Value → H} {P : Program} {W W' : World}

theorem trodAll_below (hl : laidOutB P = true) (hb : Below W.heap.size W W') : ∀ (ts : List TypeId) (vs : List Value) (ds : List (DataW H)) (ps : List MemPlace), (∀ t ∈ ts, P.readableRec t = true ∧ t < P.types.size) →
  DataW.TrodAll enc P W 0 (fun _ => true) true ts vs ds ps → (∀ x ∈ ps, x.block < W.heap.size) → DataW.TrodAll enc P W' 0 (fun b => decide (b < W.heap.size)) true ts vs ds ps
 | [], [], [], _, _, h, _ => h
 | t :: ts, v :: vs, d :: ds, ps, hr, h, hlt => by
  obtain ⟨p, q, h1, h2, rfl⟩ := h
  have ht := hr t (by simp)
  exact ⟨p, q, Below.trod hl ht.1 ht.2 h1 hb (fun x hx => hlt x (by simp [hx])), trodAll_below hl hb ts vs ds q (fun t' h' => hr t' (by simp [h'])) h2 (fun x hx => hlt x (by simp [hx])), rfl⟩
 | [], [], _ :: _, _, _, h, _ => h.elim
 | [], _ :: _, _, _, _, h, _ => h.elim
 | _ :: _, [], _, _, _, h, _ => h.elim
 | _ :: _, _ :: _, [], _, _, h, _ => h.elim

theorem law_post {f : Func} {s : ChangeSpec} {args : Array Value} {ds : List (DataW H)} {before : List MemPlace} {tb : TypeId} (hl : laidOutB P = true)
  (hW : DataW.Whole enc P f.params.toList s.vars false W args.toList ds [] before) (hsv : s.vars = []) (hr0 : (f.params.toList.all fun t => P.readableRec t && decide (t < P.types.size)) = true)
  (hrt : f.resultTypes = #[tb]) (htb : P.underlying tb = some .bool) (h1 : (s.fn H (ds ++ [])).results = [.lit (.bool true)]) (h2 : (s.fn H (ds ++ [])).args = ds) (h3 : (s.fn H (ds ++ [])).vars = [])
  (hb : Below W.heap.size W W') : s.post enc P f false true false false W args (.bool true) W' := by
 have hr : ∀ t ∈ f.params.toList, P.readableRec t = true ∧ t < P.types.size := fun t ht => by simpa using List.all_eq_true.1 hr0 t ht
 have hlt : ∀ p ∈ before, p.block < W.heap.size := fun p hp => hW.lt p hp
 have hW0 := hW
 obtain ⟨p, q, hA, hV, rfl, _, _⟩ := hW0
 rw [hsv] at hV
 obtain rfl : q = [] := hV
 refine ⟨ds, [], _, [], p, [], hW, ?_, ?_, ?_, hb.frame _, fun h => by cases h⟩
 ·rw [h1, hrt]
  exact trodAll_mk1 (shut_bool htb true)
 ·rw [h2]
  exact trodAll_below hl hb _ _ _ _ hr hA (fun x hx => hlt x (by simp [hx]))
 ·rw [h3, hsv]; rfl
end

section
variable {H : Type} {enc : TypeId × Value → H} {P : Program} {w : World} {base : Nat} {sp : Nat → Bool} {held : Bool}

theorem wf_u8 {n : Int} (h : (Lit.int .u8 n).wf = true) : 0 ≤ n ∧ n ≤ 255 := by
 have h1 : IntKind.u8.min = 0 := rfl
 have h2 : IntKind.u8.max = 255 := rfl
 simpa [Lit.wf, h1, h2] using h
end
end Go.Proofs.YtidnlfkakhmadaaGreatDoor

namespace Go.Proofs.YtidnlfkakhmadaaGreatDoor
abbrev bs (l : List UInt8) : ByteArray := ⟨l.toArray⟩
theorem bs_app (l m : List UInt8) : bs l ++ bs m = bs (l ++ m) := by
 apply ByteArray.ext
 rw [ByteArray.data_append]
 simp
theorem bs_size (l : List UInt8) : (bs l).size = l.length := by simp [ByteArray.size]
structure TokP where
 k : Nat
 t : List UInt8
 n : Nat
 l : Nat
 c : Nat
def isDig (b : UInt8) : Bool := decide (48 ≤ b.toNat) && decide (b.toNat ≤ 57)
def isLet (b : UInt8) : Bool := (decide (65 ≤ b.toNat) && decide (b.toNat ≤ 90)) || ((decide (97 ≤ b.toNat) && decide (b.toNat ≤ 122)) || decide (b.toNat = 95))
def alnum (b : UInt8) : Bool := isDig b || isLet b
def isHex (b : UInt8) : Bool := isDig b || ((decide (97 ≤ b.toNat) && decide (b.toNat ≤ 102)) || (decide (65 ≤ b.toNat) && decide (b.toNat ≤ 70)))
def hexN (b : UInt8) : Nat := if b.toNat ≤ 57 then b.toNat - 48 else if 97 ≤ b.toNat then b.toNat - 87 else b.toNat - 55
def valF (base : Nat) : Nat → List UInt8 → Option Nat
 | n, [] => some n
 | n, b :: r => if n * base + hexN b < 18446744073709551616 then valF base (n * base + hexN b) r else none
inductive TR where
 | ok (k : Nat) (t : List UInt8) (n : Nat)
 | err (e : Nat)
def numR (s : List UInt8) : Option Nat → TR
 | some n => .ok 1 s n
 | none => .err 5
def sixteen (s : List UInt8) : Bool := [48, 120].isPrefixOf s && (decide (2 < s.length) && (s.drop 2).all isHex)
def numF (s : List UInt8) : TR :=
 if sixteen s then numR s (valF 16 0 (s.drop 2)) else if s.all isDig then numR s (valF 10 0 s) else .err 4
def signsL : List (List UInt8) := [[46, 46], [61, 61], [33, 61], [60, 61], [62, 61], [60, 60], [62, 62], [38, 38], [124, 124], [123], [125], [40], [41], [91], [93], [59], [58], [44], [61], [60], [62], [43], [45], [42], [47], [37], [38], [124], [33]]
def signF (r : List UInt8) : Option (List UInt8) := signsL.find? (·.isPrefixOf r)
def tokF (r : List UInt8) : TR :=
 match r.takeWhile alnum with
 | [] => match signF r with | none => .err 4 | some t => .ok 2 t 0
 | b :: w => if isDig b then numF (b :: w) else if (b :: w).length ≤ 32 then .ok 0 (b :: w) 0 else .err 7
def isCom (r : List UInt8) : Bool := [47, 47].isPrefixOf r
inductive Stp where
 | done
 | go (r : List UInt8) (l c : Nat)
 | tok (k : Nat) (t : List UInt8) (n : Nat)
 | err (e : Nat)
def notNl (b : UInt8) : Bool := b != 10
def TR.stp : TR → Stp
 | .ok k t n => .tok k t n
 | .err e => .err e
def stp (r : List UInt8) (l c : Nat) : Stp :=
 match r with
 | [] => .done
 | b :: r' => if b = 10 then .go r' (l + 1) 1 else if b = 32 ∨ b = 9 ∨ b = 13 then .go r' l (c + 1)
  else if isCom (b :: r') then .go ((b :: r').dropWhile notNl) l (c + ((b :: r').takeWhile notNl).length)
  else (tokF (b :: r')).stp
inductive LR where
 | ok (ts : List TokP)
 | err (l c e : Nat)
def LR.pre (o : List TokP) : LR → LR
 | .ok ts => .ok (o ++ ts)
 | .err l c e => .err l c e
def lexN : Nat → List UInt8 → Nat → Nat → LR
 | 0, _, _, _ => .ok []
 | n + 1, r, l, c => match stp r l c with
  | .done => .ok [⟨3, [], 0, l, c⟩]
  | .go r' l' c' => lexN n r' l' c'
  | .tok k t v => (lexN n (r.drop t.length) l (c + t.length)).pre [⟨k, t, v, l, c⟩]
  | .err e => .err l c e
def lexF (r : List UInt8) (l c : Nat) : LR := lexN (r.length + 1) r l c

theorem takeWhile_split {α} (p : α → Bool) : ∀ l : List α, ∃ X, l = l.takeWhile p ++ X ∧ (∀ c, X[0]? = some c → p c = false)
 | [] => ⟨[], rfl, fun c h => by cases h⟩
 | a :: l => by
  rcases h : p a with _ | _
  ·exact ⟨a :: l, by rw [List.takeWhile_cons, h]; rfl, fun c hc => by cases hc; exact h⟩
  ·obtain ⟨X, h1, h2⟩ := takeWhile_split p l
   exact ⟨X, by rw [List.takeWhile_cons, h]; show a :: l = a :: (l.takeWhile p ++ X); rw [← h1], h2⟩
theorem takeWhile_all {α} (p : α → Bool) : ∀ l : List α, ∀ c ∈ l.takeWhile p, p c = true
 | [], c, h => by cases h
 | a :: l, c, h => by
  rw [List.takeWhile_cons] at h
  split at h
  ·rename_i ha
   rcases List.mem_cons.1 h with rfl | h
   ·exact ha
   ·exact takeWhile_all p l c h
  ·cases h
theorem dropWhile_eq {α} (p : α → Bool) : ∀ l : List α, l.dropWhile p = l.drop (l.takeWhile p).length
 | [] => rfl
 | a :: l => by
  rw [List.dropWhile_cons, List.takeWhile_cons]
  split
  ·rw [dropWhile_eq p l]; rfl
  ·rfl
theorem takeWhile_app {α : Type} {p : α → Bool} : ∀ {l X : List α}, (∀ c ∈ l, p c = true) → (∀ c, X[0]? = some c → p c = false) → (l ++ X).takeWhile p = l
 | [], [], _, _ => rfl
 | [], c :: X, _, h => by rw [List.nil_append, List.takeWhile_cons, if_neg (by rw [h c rfl]; decide)]
 | c :: l, X, h1, h2 => by
  rw [List.cons_append, List.takeWhile_cons, if_pos (h1 c (by simp)), takeWhile_app (fun d hd => h1 d (by simp [hd])) h2]
theorem signs_len : ∀ t ∈ signsL, 0 < t.length ∧ t.length ≤ 2 ∧ (∀ c ∈ t, alnum c = false) ∧ 10 ∉ t := by decide +kernel
theorem signF_mem {r t : List UInt8} (h : signF r = some t) : t ∈ signsL ∧ ∃ X, r = t ++ X := by
 have h1 := List.find?_some h
 exact ⟨List.mem_of_find?_eq_some h, by obtain ⟨X, hX⟩ := List.isPrefixOf_iff_prefix.1 h1; exact ⟨X, hX.symm⟩⟩
theorem numF_ok {s t : List UInt8} {k n : Nat} (h : numF s = .ok k t n) : k = 1 ∧ t = s := by
 unfold numF at h
 split at h
 ·revert h; cases valF 16 0 (s.drop 2) <;> intro h <;> cases h; exact ⟨rfl, rfl⟩
 ·split at h
  ·revert h; cases valF 10 0 s <;> intro h <;> cases h; exact ⟨rfl, rfl⟩
  ·cases h
theorem tokF_ok {r t : List UInt8} {k n : Nat} (h : tokF r = .ok k t n) : (∃ X, r = t ++ X) ∧ t ≠ [] ∧ k < 3 ∧ 10 ∉ t := by
 unfold tokF at h
 split at h
 ·split at h
  ·cases h
  ·rename_i hs
   cases h
   obtain ⟨h1, h2⟩ := signF_mem hs
   have h3 := signs_len t h1
   exact ⟨h2, by intro e; rw [e] at h3; exact absurd h3.1 (by decide), by decide, h3.2.2.2⟩
 ·rename_i b w hw
  obtain ⟨X, hX, -⟩ := takeWhile_split alnum r
  have ha : 10 ∉ r.takeWhile alnum := fun hc => absurd (takeWhile_all alnum r 10 hc) (by decide)
  rw [hw] at hX ha
  split at h
  ·obtain ⟨rfl, rfl⟩ := numF_ok h
   exact ⟨⟨X, hX⟩, by simp, by decide, ha⟩
  ·split at h
   ·cases h
    exact ⟨⟨X, hX⟩, by simp, by decide, ha⟩
   ·cases h
theorem stp_go {r r' : List UInt8} {l c l' c' : Nat} (h : stp r l c = .go r' l' c') : r'.length < r.length := by
 unfold stp at h
 split at h
 ·cases h
 ·rename_i b x
  split at h
  ·cases h; simp
  ·split at h
   ·cases h; simp
   ·split at h
    ·rename_i hc
     cases h
     have hb : b = 47 := by
      have := List.isPrefixOf_iff_prefix.1 hc
      obtain ⟨X, hX⟩ := this
      simp at hX
      exact hX.1.symm
     rw [List.dropWhile_cons, if_pos (by rw [hb]; decide)]
     rw [dropWhile_eq, List.length_drop]
     simp; omega
    ·revert h; cases tokF (b :: x) <;> intro h <;> cases h
theorem stp_tok {r t : List UInt8} {l c k n : Nat} (h : stp r l c = .tok k t n) : tokF r = .ok k t n := by
 unfold stp at h
 split at h
 ·cases h
 ·rename_i b x
  split at h
  ·cases h
  ·split at h
   ·cases h
   ·split at h
    ·cases h
    ·revert h; cases tokF (b :: x) <;> intro h <;> cases h; rfl
theorem lexN_two : ∀ (n m : Nat) (r : List UInt8) (l c : Nat), r.length < n → r.length < m → lexN n r l c = lexN m r l c := by
 intro n
 induction n with
 | zero => intro m r l c h; omega
 | succ n ih =>
  intro m r l c h hm
  obtain ⟨m, rfl⟩ : ∃ k, m = k + 1 := ⟨m - 1, by omega⟩
  rw [lexN, lexN]
  rcases hs : stp r l c with _ | ⟨r', l', c'⟩ | ⟨k, t, v⟩ | e <;> dsimp only
  ·have h1 := stp_go hs
   exact ih m r' l' c' (by omega) (by omega)
  ·obtain ⟨⟨X, rfl⟩, h2, -⟩ := tokF_ok (stp_tok hs)
   have h3 : 0 < t.length := List.length_pos_iff.2 h2
   rw [List.length_append] at h hm
   rw [ih m ((t ++ X).drop t.length) l (c + t.length) (by simp; omega) (by simp; omega)]
theorem lexF_eq (r : List UInt8) (l c : Nat) : lexF r l c = match stp r l c with
  | .done => .ok [⟨3, [], 0, l, c⟩]
  | .go r' l' c' => lexF r' l' c'
  | .tok k t v => (lexF (r.drop t.length) l (c + t.length)).pre [⟨k, t, v, l, c⟩]
  | .err e => .err l c e := by
 unfold lexF
 rw [lexN]
 rcases hs : stp r l c with _ | ⟨r', l', c'⟩ | ⟨k, t, v⟩ | e <;> dsimp only
 ·have h1 := stp_go hs
  exact lexN_two _ _ r' l' c' (by omega) (by omega)
 ·obtain ⟨⟨X, rfl⟩, h2, -⟩ := tokF_ok (stp_tok hs)
  have h3 : 0 < t.length := List.length_pos_iff.2 h2
  rw [lexN_two _ (((t ++ X).drop t.length).length + 1) ((t ++ X).drop t.length) l (c + t.length) (by simp; omega) (by simp)]
theorem LR.pre_pre (a b : List TokP) (x : LR) : (x.pre b).pre a = x.pre (a ++ b) := by
 cases x <;> simp [LR.pre]
def skipP (p : Nat × Nat) (b : UInt8) : Nat × Nat := if b = 10 then (p.1 + 1, 1) else (p.1, p.2 + 1)
def blank (b : UInt8) : Bool := decide (b = 32) || (decide (b = 9) || (decide (b = 10) || decide (b = 13)))
theorem skip_line : ∀ (x : List UInt8) (l c : Nat), 10 ∉ x → x.foldl skipP (l, c) = (l, c + x.length)
 | [], l, c, _ => rfl
 | b :: x, l, c, h => by
  rw [List.foldl_cons]
  unfold skipP
  rw [if_neg (fun e => h (by rw [e]; simp))]
  rw [show List.foldl (fun p b => if b = 10 then (p.1 + 1, 1) else (p.1, p.2 + 1)) (l, c + 1) x = x.foldl skipP (l, c + 1) from rfl, skip_line x l (c + 1) (fun e => h (by simp [e]))]
  rw [List.length_cons, Nat.add_assoc, Nat.add_comm 1]
theorem lexF_blank : ∀ (x r : List UInt8) (p : Nat × Nat), (∀ c ∈ x, blank c = true) → lexF (x ++ r) p.1 p.2 = lexF r (x.foldl skipP p).1 (x.foldl skipP p).2
 | [], r, p, _ => rfl
 | b :: x, r, p, h => by
  rw [List.cons_append, lexF_eq, List.foldl_cons]
  have hb := h b (by simp)
  unfold stp
  dsimp only
  by_cases h10 : b = 10
  ·rw [if_pos h10]
   dsimp only
   rw [show skipP p b = (p.1 + 1, 1) from by unfold skipP; rw [if_pos h10]]
   exact lexF_blank x r (p.1 + 1, 1) (fun c hc => h c (by simp [hc]))
  ·rw [if_neg h10, if_pos (by simp [blank, h10] at hb; rcases hb with hb | hb | hb <;> simp [hb])]
   dsimp only
   rw [show skipP p b = (p.1, p.2 + 1) from by unfold skipP; rw [if_neg h10]]
   exact lexF_blank x r (p.1, p.2 + 1) (fun c hc => h c (by simp [hc]))
theorem isCom_eq {r : List UInt8} (h : isCom r = true) : ∃ X, r = 47 :: 47 :: X := by
 obtain ⟨X, hX⟩ := List.isPrefixOf_iff_prefix.1 h
 exact ⟨X, hX.symm⟩
theorem takeWhile_nl (r : List UInt8) : 10 ∉ r.takeWhile notNl := fun h => absurd (takeWhile_all notNl r 10 h) (by decide)
theorem lexF_com {r : List UInt8} (p : Nat × Nat) (h : isCom r = true) : lexF r p.1 p.2 = lexF (r.dropWhile notNl) ((r.takeWhile notNl).foldl skipP p).1 ((r.takeWhile notNl).foldl skipP p).2 := by
 obtain ⟨X, rfl⟩ := isCom_eq h
 rw [lexF_eq, skip_line _ _ _ (takeWhile_nl _)]
 unfold stp
 dsimp only
 rw [if_neg (by decide), if_neg (by decide), if_pos h]
theorem lexF_tok {r : List UInt8} (l c : Nat) (hr : r ≠ []) (hb : ∀ b, r[0]? = some b → blank b = false) (hc : isCom r = false) : lexF r l c = match tokF r with
  | .ok k t v => (lexF (r.drop t.length) l (c + t.length)).pre [⟨k, t, v, l, c⟩]
  | .err e => .err l c e := by
 rw [lexF_eq]
 rcases r with _ | ⟨b, x⟩
 ·exact absurd rfl hr
 have h0 := hb b rfl
 unfold stp
 dsimp only
 rw [if_neg (by intro e; rw [e] at h0; revert h0; decide), if_neg (by rintro (e | e | e) <;> (rw [e] at h0; revert h0; decide)), if_neg (by rw [hc]; decide)]
 cases tokF (b :: x) <;> rfl
theorem lexF_nil (l c : Nat) : lexF [] l c = .ok [⟨3, [], 0, l, c⟩] := by rw [lexF_eq]; rfl
def LR.shift (k : Nat) : LR → LR
 | .ok ts => .ok (ts.map fun t => ⟨t.k, t.t, t.n, t.l + k, t.c⟩)
 | .err l c e => .err (l + k) c e
def Stp.shift (k : Nat) : Stp → Stp
 | .go r l c => .go r (l + k) c
 | x => x
theorem find_congr {α} {p q : α → Bool} : ∀ {l : List α}, (∀ a ∈ l, p a = q a) → l.find? p = l.find? q
 | [], _ => rfl
 | a :: l, h => by rw [List.find?_cons, List.find?_cons, h a (by simp), find_congr (fun b hb => h b (by simp [hb]))]
def TokP.key (t : TokP) : Nat × List UInt8 × Nat := (t.k, t.t, t.n)
def blankX (X : List UInt8) : Prop := X = [] ∨ X[0]? = some 32
def tailJ (us : List TokP) : List UInt8 := us.flatMap fun u => 32 :: u.t
def joinF (us : List TokP) : List UInt8 := (tailJ us).drop 1
def GoodTok (u : TokP) : Prop := u.k < 3 ∧ u.t ≠ [] ∧ ∃ r, tokF r = .ok u.k u.t u.n
theorem lexN_good : ∀ (n : Nat) (r : List UInt8) (l c : Nat) (ts : List TokP), r.length < n → lexN n r l c = .ok ts → ∃ us l' c', ts = us ++ [⟨3, [], 0, l', c'⟩] ∧ ∀ u ∈ us, GoodTok u := by
 intro n
 induction n with
 | zero => intro r l c ts h; omega
 | succ n ih =>
  intro r l c ts hlen h
  rw [lexN] at h
  rcases hs : stp r l c with _ | ⟨r', l', c'⟩ | ⟨k, t, v⟩ | e <;> rw [hs] at h <;> dsimp only at h
  ·cases h; exact ⟨[], l, c, rfl, fun u h => by cases h⟩
  ·exact ih r' l' c' ts (by have := stp_go hs; omega) h
  ·have ht := stp_tok hs
   obtain ⟨⟨X, rfl⟩, h2, h3, -⟩ := tokF_ok ht
   have h4 : 0 < t.length := List.length_pos_iff.2 h2
   rw [List.drop_left] at h
   rcases hr : lexN n X l (c + t.length) with ts' | _
   ·rw [hr] at h
    have h' : [⟨k, t, v, l, c⟩] ++ ts' = ts := by injection h
    obtain ⟨us, l', c', e1, e2⟩ := ih X l (c + t.length) ts' (by rw [List.length_append] at hlen; omega) hr
    refine ⟨⟨k, t, v, l, c⟩ :: us, l', c', by rw [← h', e1]; rfl, fun u hu => ?_⟩
    rcases List.mem_cons.1 hu with rfl | hu
    ·exact ⟨h3, h2, _, ht⟩
    ·exact e2 u hu
   ·rw [hr] at h; cases h
  ·cases h
theorem lexF_good {r : List UInt8} {l c : Nat} {ts : List TokP} (h : lexF r l c = .ok ts) : ∃ us l' c', ts = us ++ [⟨3, [], 0, l', c'⟩] ∧ ∀ u ∈ us, GoodTok u :=
 lexN_good _ r l c ts (by omega) h
def bigW (d : UInt8) (k : Nat) : List UInt8 := 32 :: List.replicate k d
def repN (d : Nat) : Nat → Nat
 | 0 => 0
 | k + 1 => 10 * repN d k + d
def okWord (k : Nat) : Bool := match lexF (bigW 120 k) 1 1 with
 | .ok [t, _] => decide (k ≤ 32) && (t.k == 0 && (t.t == List.replicate k 120 && (t.n == 0 && (t.l == 1 && t.c == 2))))
 | .err l c e => decide (32 < k) && (e == 7 && (l == 1 && c == 2))
 | _ => false
def okNum (d k : Nat) : Bool := match lexF (bigW (UInt8.ofNat (49 + d)) k) 1 1 with
 | .ok [t, _] => decide (k ≤ 20) && (t.n == repN (1 + d) k && decide (repN (1 + d) k < 18446744073709551616))
 | .err l c e => decide (20 ≤ k) && (e == 5 && (l == 1 && c == 2))
 | _ => false
end Go.Proofs.YtidnlfkakhmadaaGreatDoor

namespace Go.Proofs.YtidnlfkakhmadaaGreatDoor

structure EX where
 k : Nat
 op : List UInt8
 n : Nat
 nm : List UInt8
 kids : List Int
structure CA where
 n : Nat
 t : Int
structure TY where
 k : Nat
 size : Nat
 little : Bool
 nm : List UInt8
 args : List Int
 ex : Int
 inn : Int
 cases : List CA
structure SB where
 nm : List UInt8
 bits : Nat
structure IT where
 nm : List UInt8
 ty : Int
 der : Nat
 a : List UInt8
 b : List UInt8
 wh : Int
 size : Nat
 little : Bool
 subs : List SB
structure RC where
 nm : List UInt8
 ps : List (List UInt8)
 its : List IT
structure CO where
 nm : List UInt8
 n : Nat
structure PS where
 i : Nat
 xs : List EX
 ts : List TY
inductive PR (α : Type) where
 | ok (v : α) (s : PS)
 | err (i e : Nat)
def PM (α : Type) : Type := PS → PR α
def PM.and {α β : Type} (x : PM α) (f : α → PM β) : PM β := fun s => match x s with
 | .ok v s' => f v s'
 | .err i e => .err i e
def PM.ret {α : Type} (v : α) : PM α := fun s => .ok v s
instance : Monad PM where
 pure := PM.ret
 bind := PM.and
theorem and_ok {α β : Type} {x : PM α} {f : α → PM β} {s s' : PS} {v : α} (h : x s = .ok v s') : (x >>= f) s = f v s' := by show PM.and x f s = _; unfold PM.and; rw [h]
theorem and_err {α β : Type} {x : PM α} {f : α → PM β} {s : PS} {i e : Nat} (h : x s = .err i e) : (x >>= f) s = .err i e := by show PM.and x f s = _; unfold PM.and; rw [h]

abbrev bu (s : String) : List UInt8 := s.toUTF8.toList
def intsL : List (List UInt8 × Nat × Bool) := [([117, 56], 1, false), ([117, 49, 54, 98, 101], 2, false), ([117, 49, 54, 108, 101], 2, true), ([117, 50, 52, 98, 101], 3, false), ([117, 50, 52, 108, 101], 3, true), ([117, 51, 50, 98, 101], 4, false), ([117, 51, 50, 108, 101], 4, true), ([117, 54, 52, 98, 101], 8, false), ([117, 54, 52, 108, 101], 8, true)]
def integerV (w : List UInt8) : Option (Nat × Bool) := (intsL.find? fun p => p.1 == w).map (·.2)
def keysL : List (List UInt8) := [[99, 111, 110, 115, 116], [115, 116, 114, 117, 99, 116], [112, 97, 99, 107], [119, 104, 101, 114, 101], [115, 105, 122, 101, 111, 102], [99, 111, 117, 110, 116, 111, 102], [99, 114, 99, 51, 50], [97, 100, 108, 101, 114, 51, 50], [98, 121, 116, 101, 115], [122, 101, 114, 111], [115, 107, 105, 112], [119, 105, 110, 100, 111, 119], [97, 116], [114, 101, 115, 116], [116, 97, 105, 108], [110, 111, 110, 101], [115, 119, 105, 116, 99, 104], [99, 97, 115, 101], [101, 108, 115, 101]]
def keyV (w : List UInt8) : Bool := keysL.contains w || (integerV w).isSome
def levelsL : List (List UInt8 × Nat) := [([124, 124], 1), ([38, 38], 2), ([61, 61], 3), ([33, 61], 3), ([60], 3), ([60, 61], 3), ([62], 3), ([62, 61], 3), ([124], 4), ([38], 5), ([60, 60], 6), ([62, 62], 6), ([43], 7), ([45], 7), ([42], 8), ([47], 8), ([37], 8)]
def levelV (w : List UInt8) : Nat := ((levelsL.find? fun p => p.1 == w).map (·.2)).getD 0
def typesL : List (List UInt8) := [[98, 121, 116, 101, 115], [122, 101, 114, 111], [115, 107, 105, 112], [119, 105, 110, 100, 111, 119], [97, 116], [114, 101, 115, 116], [116, 97, 105, 108], [110, 111, 110, 101], [115, 119, 105, 116, 99, 104]]
abbrev w_const : List UInt8 := [99, 111, 110, 115, 116]
abbrev w_struct : List UInt8 := [115, 116, 114, 117, 99, 116]
abbrev w_pack : List UInt8 := [112, 97, 99, 107]
abbrev w_where : List UInt8 := [119, 104, 101, 114, 101]
abbrev w_sizeof : List UInt8 := [115, 105, 122, 101, 111, 102]
abbrev w_countof : List UInt8 := [99, 111, 117, 110, 116, 111, 102]
abbrev w_crc32 : List UInt8 := [99, 114, 99, 51, 50]
abbrev w_adler32 : List UInt8 := [97, 100, 108, 101, 114, 51, 50]
abbrev w_bytes : List UInt8 := [98, 121, 116, 101, 115]
abbrev w_zero : List UInt8 := [122, 101, 114, 111]
abbrev w_skip : List UInt8 := [115, 107, 105, 112]
abbrev w_window : List UInt8 := [119, 105, 110, 100, 111, 119]
abbrev w_at : List UInt8 := [97, 116]
abbrev w_rest : List UInt8 := [114, 101, 115, 116]
abbrev w_tail : List UInt8 := [116, 97, 105, 108]
abbrev w_none : List UInt8 := [110, 111, 110, 101]
abbrev w_switch : List UInt8 := [115, 119, 105, 116, 99, 104]
abbrev w_case : List UInt8 := [99, 97, 115, 101]
abbrev w_else : List UInt8 := [101, 108, 115, 101]
abbrev t_bang : List UInt8 := [33]
abbrev t_lpar : List UInt8 := [40]
abbrev t_rpar : List UInt8 := [41]
abbrev t_lsq : List UInt8 := [91]
abbrev t_rsq : List UInt8 := [93]
abbrev t_lcur : List UInt8 := [123]
abbrev t_rcur : List UInt8 := [125]
abbrev t_colon : List UInt8 := [58]
abbrev t_semi : List UInt8 := [59]
abbrev t_comma : List UInt8 := [44]
abbrev t_eq : List UInt8 := [61]
abbrev t_dots : List UInt8 := [46, 46]

section
variable (L : List TokP)
def tk (i : Nat) : TokP := L.getD i ⟨3, [], 0, 0, 0⟩
def isV (i : Nat) (t : List UInt8) : Bool := !decide ((tk L i).k = 3) && decide ((tk L i).t = t)
def namedV (i : Nat) : Bool := decide ((tk L i).k = 0) && !keyV (tk L i).t
def beginsV (i : Nat) : Bool := isV L i t_bang || (isV L i t_lpar || (namedV L i || decide ((tk L i).k = 1)))
def startsV (i : Nat) : Bool := namedV L i || (decide ((tk L i).k = 0) && (typesL.contains (tk L i).t || (integerV (tk L i).t).isSome))
def stepM : PM Unit := fun s => .ok () { s with i := s.i + 1 }
def failM {α : Type} (e : Nat) : PM α := fun s => .err s.i e
def takeM (t : List UInt8) : PM Unit := fun s => if isV L s.i t = true then stepM s else failM 4 s
def nameM : PM (List UInt8) := fun s => if namedV L s.i = true then .ok (tk L s.i).t { s with i := s.i + 1 } else failM 4 s
def numberM : PM Nat := fun s => if (tk L s.i).k = 1 then .ok (tk L s.i).n { s with i := s.i + 1 } else failM 4 s
def roomM (n : Nat) : PM Unit := fun s => if 64 ≤ n then failM 10 s else .ok () s
def enterM (m : Nat) (may : Bool) : PM Unit := fun s => if may = false then failM 4 s else if m = 0 then failM 8 s else .ok () s
def putM (x : EX) : PM Int := fun s => .ok s.xs.length { s with xs := s.xs ++ [x] }
def layM (t : TY) : PM Int := fun s => .ok s.ts.length { s with ts := s.ts ++ [t] }
def atM {α : Type} (p : Nat → Bool) (x y : PM α) : PM α := fun s => if p s.i = true then x s else y s
def unF (m : Nat) (un ex : PM Int) : PM Int :=
 atM (isV L · t_bang) (stepM >>= fun _ => (fun s => enterM m (beginsV L s.i) s) >>= fun _ => un >>= fun k => putM ⟨2, [], 0, [], [k]⟩)
 (atM (isV L · t_lpar) (stepM >>= fun _ => (fun s => enterM m (beginsV L s.i) s) >>= fun _ => ex >>= fun k => takeM L t_rpar >>= fun _ => pure k)
 (atM (namedV L ·) (nameM L >>= fun w => putM ⟨1, [], 0, w, []⟩) (numberM L >>= fun n => putM ⟨0, [], n, [], []⟩)))
def opAt (lv i : Nat) : Bool := decide ((tk L i).k = 2) && decide (levelV (tk L i).t = lv)
def lineN (lv : Nat) (x : PM Int) : Nat → Int → PM Int
 | 0, left => pure left
 | n + 1, left => fun s => if opAt L lv s.i = true then
   (stepM >>= fun _ => x >>= fun right => putM ⟨3, (tk L s.i).t, 0, [], [left, right]⟩ >>= fun k => lineN lv x n k) s
  else .ok left s
def lineJ (un : PM Int) : Nat → PM Int
 | 0 => un
 | j + 1 => lineJ un j >>= fun left => fun s => lineN L (8 - j) (lineJ un j) (L.length - s.i + 1) left s
def unM : Nat → PM Int
 | 0 => unF L 0 (failM 8) (failM 8)
 | m + 1 => unF L (m + 1) (unM m) (lineJ L (unM m) 8)
def exprM (m : Nat) : PM Int := lineJ L (unM L m) 8
def bracketM (m : Nat) : PM Int := takeM L t_lsq >>= fun _ => exprM L m >>= fun k => takeM L t_rsq >>= fun _ => pure k
def tyP (k : Nat) : TY := ⟨k, 0, false, [], [], -1, -1, []⟩
def arrayM (m : Nat) (t : TY) : PM Int := layM t >>= fun k => atM (isV L · t_lsq) (bracketM L m >>= fun x => layM { tyP 5 with ex := x, inn := k }) (pure k)
def argsN (m : Nat) : Nat → List Int → PM (List Int)
 | 0, l => pure l
 | n + 1, l => atM (isV L · t_comma) (stepM >>= fun _ => (fun s => if beginsV L s.i = true then roomM l.length s else .ok () s) >>= fun _ => exprM L m >>= fun x => argsN m n (l ++ [x])) (pure l)
def refM (m : Nat) : PM TY := nameM L >>= fun w => atM (isV L · t_lpar)
 (stepM >>= fun _ => exprM L m >>= fun x => (fun s => argsN L m (L.length - s.i + 1) [x] s) >>= fun l => takeM L t_rpar >>= fun _ => pure { tyP 10 with nm := w, args := l })
 (pure { tyP 10 with nm := w })
def innerM (m : Nat) (kd : PM Int) : PM Int := (fun s => enterM m (startsV L s.i) s) >>= fun _ => kd
def casesN (m : Nat) (kd : PM Int) : Nat → List CA → PM (List CA)
 | 0, l => pure l
 | n + 1, l => atM (isV L · w_case) (roomM l.length >>= fun _ => stepM >>= fun _ => numberM L >>= fun c => takeM L t_colon >>= fun _ => innerM L m kd >>= fun k => takeM L t_semi >>= fun _ => casesN m kd n (l ++ [⟨c, k⟩])) (pure l)
def choiceM (m : Nat) (kd : PM Int) : PM Int :=
 takeM L t_lpar >>= fun _ => exprM L m >>= fun x => takeM L t_rpar >>= fun _ => takeM L t_lcur >>= fun _ =>
 (fun s => casesN L m kd (L.length - s.i + 1) [] s) >>= fun cs =>
 atM (isV L · w_else) (stepM >>= fun _ => takeM L t_colon >>= fun _ => innerM L m kd >>= fun k => takeM L t_semi >>= fun _ => pure k) (pure (-1)) >>= fun k =>
 takeM L t_rcur >>= fun _ => layM { tyP 9 with ex := x, inn := k, cases := cs }
def sizedV (w : List UInt8) : Option Nat := if w = w_bytes then some 1 else if w = w_zero then some 2 else if w = w_skip then some 3 else if w = w_window then some 7 else if w = w_at then some 8 else none
def wordM (m : Nat) (kd : PM Int) (w : List UInt8) : PM Int :=
 match sizedV w with
 | some k => bracketM L m >>= fun x => (if k = 7 ∨ k = 8 then innerM L m kd else pure (-1)) >>= fun i => layM { tyP k with ex := x, inn := i }
 | none =>
  if w = w_rest then innerM L m kd >>= fun i => layM { tyP 6 with inn := i } else
  if w = w_tail then layM (tyP 4) else
  if w = w_none then layM (tyP 11) else
  if w = w_switch then choiceM L m kd else
  arrayM L m { tyP 0 with size := ((integerV w).getD (0, false)).1, little := ((integerV w).getD (0, false)).2 }
def kindF (m : Nat) (kd : PM Int) : PM Int :=
 atM (namedV L ·) (refM L m >>= fun t => arrayM L m t) (atM (startsV L ·) (fun s => (stepM >>= fun _ => wordM L m kd (tk L s.i).t) s) (failM 4))
def kindM : Nat → PM Int
 | 0 => kindF L 0 (failM 8)
 | m + 1 => kindF L (m + 1) (kindM m)
def derOf (w : List UInt8) : Nat := if w = w_sizeof then 1 else if w = w_countof then 2 else if w = w_crc32 then 3 else if w = w_adler32 then 4 else 0
def derivedM : PM (Nat × List UInt8 × List UInt8) :=
 atM (fun i => !decide ((tk L i).k = 3) && !decide (derOf (tk L i).t = 0))
  (fun s => (stepM >>= fun _ => takeM L t_lpar >>= fun _ => nameM L >>= fun a =>
   (if 3 ≤ derOf (tk L s.i).t then takeM L t_dots >>= fun _ => nameM L else pure []) >>= fun b => takeM L t_rpar >>= fun _ => pure (derOf (tk L s.i).t, a, b)) s)
  (failM 4)
def fieldM : PM IT :=
 nameM L >>= fun w => takeM L t_colon >>= fun _ => kindM L 32 >>= fun t =>
 atM (isV L · t_eq) (stepM >>= fun _ => derivedM L) (pure (0, [], [])) >>= fun d =>
 atM (isV L · w_where) (stepM >>= fun _ => exprM L 32) (pure (-1)) >>= fun x =>
 takeM L t_semi >>= fun _ => pure ⟨w, t, d.1, d.2.1, d.2.2, x, 0, false, []⟩
def subsN : Nat → List SB → PM (List SB)
 | 0, l => pure l
 | n + 1, l => (fun s => if namedV L s.i = true then roomM l.length s else .ok () s) >>= fun _ => nameM L >>= fun w => takeM L t_colon >>= fun _ => numberM L >>= fun b => takeM L t_semi >>= fun _ =>
   atM (namedV L ·) (subsN n (l ++ [⟨w, min b 1048576⟩])) (pure (l ++ [⟨w, min b 1048576⟩]))
def packM : PM IT :=
 takeM L w_pack >>= fun _ => fun s => match (if (tk L s.i).k = 0 then integerV (tk L s.i).t else none) with
  | none => failM 4 s
  | some (z, lt) => (stepM >>= fun _ => takeM L t_lcur >>= fun _ => (fun s => subsN L (L.length - s.i + 1) [] s) >>= fun l => takeM L t_rcur >>= fun _ => pure (⟨[], -1, 0, [], [], -1, z, lt, l⟩ : IT)) s
def parsN : Nat → List (List UInt8) → PM (List (List UInt8))
 | 0, l => pure l
 | n + 1, l => atM (isV L · t_comma) (stepM >>= fun _ => (fun s => if namedV L s.i = true then roomM l.length s else .ok () s) >>= fun _ => nameM L >>= fun x => parsN n (l ++ [x])) (pure l)
def itemsN : Nat → List IT → PM (List IT)
 | 0, l => pure l
 | n + 1, l => atM (fun i => isV L i w_pack || namedV L i) (roomM l.length >>= fun _ => atM (isV L · w_pack) (packM L) (fieldM L) >>= fun x => itemsN n (l ++ [x])) (pure l)
def recordM : PM RC :=
 takeM L w_struct >>= fun _ => nameM L >>= fun w =>
 atM (isV L · t_lpar) (stepM >>= fun _ => nameM L >>= fun x => (fun s => parsN L (L.length - s.i + 1) [x] s) >>= fun l => takeM L t_rpar >>= fun _ => pure l) (pure []) >>= fun ps =>
 takeM L t_lcur >>= fun _ => (fun s => itemsN L (L.length - s.i + 1) [] s) >>= fun is => takeM L t_rcur >>= fun _ => pure ⟨w, ps, is⟩
def constM : PM CO := takeM L w_const >>= fun _ => nameM L >>= fun w => takeM L t_eq >>= fun _ => numberM L >>= fun n => takeM L t_semi >>= fun _ => pure ⟨w, n⟩
def wholeN : Nat → List CO → List RC → PM (List CO × List RC)
 | 0, cs, rs => pure (cs, rs)
 | n + 1, cs, rs => atM (isV L · w_const) (roomM cs.length >>= fun _ => constM L >>= fun c => wholeN n (cs ++ [c]) rs)
  (atM (isV L · w_struct) (roomM rs.length >>= fun _ => recordM L >>= fun r => wholeN n cs (rs ++ [r]))
  (atM (fun i => decide ((tk L i).k = 3)) (pure (cs, rs)) (failM 4)))
end
inductive FR where
 | ok (cs : List CO) (rs : List RC) (xs : List EX) (ts : List TY)
 | err (l c e : Nat)
def fileV : LR → FR
 | .err l c e => .err l c e
 | .ok L => match wholeN L (L.length + 1) [] [] ⟨0, [], []⟩ with
  | .ok (cs, rs) s => .ok cs rs s.xs s.ts
  | .err i e => .err (tk L i).l (tk L i).c e
end Go.Proofs.YtidnlfkakhmadaaGreatDoor

namespace Go.Proofs.YtidnlfkakhmadaaGreatDoor

def TokOk (L : List TokP) : Prop := 0 < L.length ∧ ∀ i, i + 1 = L.length → (tk L i).k = 3
structure SOk (L : List TokP) (c : Nat) (s : PS) : Prop where
 i : s.i < L.length
 x : s.xs.length + c ≤ s.i
 t : s.ts.length + c ≤ s.i
def Up (L : List TokP) {α : Type} (x : PM α) (a b : Nat) : Prop := ∀ s c, SOk L (c + a) s → match x s with
 | .ok _ s' => SOk L (c + b) s' ∧ s.i ≤ s'.i
 | .err i e => s.i ≤ i ∧ i < L.length ∧ 0 < e ∧ e ≤ 10
section
variable {L : List TokP}
theorem SOk.less {c d : Nat} {s : PS} (h : SOk L c s) (hd : d ≤ c) : SOk L d s := ⟨h.i, by have := h.x; omega, by have := h.t; omega⟩
theorem Up.and {α β : Type} {x : PM α} {f : α → PM β} {a b c : Nat} (hx : Up L x a b) (hf : ∀ v, Up L (f v) b c) : Up L (x >>= f) a c := fun s d h => by
 have h1 := hx s d h
 show match PM.and x f s with
  | .ok _ s' => SOk L (d + c) s' ∧ s.i ≤ s'.i
  | .err i e => s.i ≤ i ∧ i < L.length ∧ 0 < e ∧ e ≤ 10
 unfold PM.and
 revert h1
 cases x s with
 | err i e => exact id
 | ok v s1 =>
  rintro ⟨h1, h2⟩
  have h3 := hf v s1 d h1
  revert h3
  dsimp only
  cases f v s1 with
  | err i e => rintro ⟨h3, h4⟩; exact ⟨by omega, h4⟩
  | ok w s2 => rintro ⟨h3, h4⟩; exact ⟨h3, by omega⟩
theorem Up.pure {α : Type} (v : α) (a : Nat) : Up L (pure v) a a := fun _ _ h => ⟨h, Nat.le_refl _⟩
theorem Up.less {α : Type} {x : PM α} {a b : Nat} (h : Up L x a b) {a' b' : Nat} (n : Nat) (ha : a + n ≤ a') (hb : b' ≤ b + n) : Up L x a' b' := fun s c hs => by
 have h1 := h s (c + n) (hs.less (by omega))
 revert h1
 cases x s with
 | err i e => exact id
 | ok v s1 => rintro ⟨h1, h2⟩; exact ⟨h1.less (by omega), h2⟩
theorem Up.fail {α : Type} {e : Nat} (h0 : 0 < e) (h1 : e ≤ 10) (a b : Nat) : Up L (failM e : PM α) a b := fun _ _ h => ⟨Nat.le_refl _, h.i, h0, h1⟩
theorem Up.look {α : Type} {f : PS → PM α} {a b : Nat} (h : ∀ s, Up L (f s) a b) : Up L (fun s => f s s) a b := fun s c hs => h s s c hs
theorem Up.at {α : Type} {p : Nat → Bool} {x y : PM α} {a b : Nat} (hx : Up L x a b) (hy : Up L y a b) : Up L (atM p x y) a b := fun s c hs => by
 unfold atM
 by_cases h : p s.i = true
 ·rw [if_pos h]; exact hx s c hs
 ·rw [if_neg h]; exact hy s c hs
theorem stepP_ok (hL : TokOk L) {s : PS} {c : Nat} (h : SOk L c s) (hk : (tk L s.i).k ≠ 3) : SOk L (c + 1) { s with i := s.i + 1 } := by
 have h1 := h.x
 have h2 := h.t
 have h3 := h.i
 have h4 := hL.2 s.i
 exact ⟨by show s.i + 1 < _; by_cases he : s.i + 1 = L.length; exact absurd (h4 he) hk; omega, by show s.xs.length + (c + 1) ≤ s.i + 1; omega, by show s.ts.length + (c + 1) ≤ s.i + 1; omega⟩
theorem Up.step {α : Type} (hL : TokOk L) {p : Nat → Bool} {f : Unit → PM α} {y : PM α} {a b : Nat} (hp : ∀ i, p i = true → (tk L i).k ≠ 3) (hx : Up L (f ()) (a + 1) b) (hy : Up L y a b) : Up L (atM p (stepM >>= f) y) a b := fun s c hs => by
 unfold atM
 by_cases h : p s.i = true
 ·rw [if_pos h]
  have := hx { s with i := s.i + 1 } c (stepP_ok hL hs (hp _ h))
  show match f () { s with i := s.i + 1 } with
   | .ok _ s' => SOk L (c + b) s' ∧ s.i ≤ s'.i
   | .err i e => s.i ≤ i ∧ i < L.length ∧ 0 < e ∧ e ≤ 10
  revert this
  cases f () { s with i := s.i + 1 } with
  | err i e => rintro ⟨h3, h4⟩; exact ⟨Nat.le_of_succ_le h3, h4⟩
  | ok w s2 => rintro ⟨h3, h4⟩; exact ⟨h3, Nat.le_of_succ_le h4⟩
 ·rw [if_neg h]; exact hy s c hs
theorem isV_k {i : Nat} {t : List UInt8} (h : isV L i t = true) : (tk L i).k ≠ 3 := by
 unfold isV at h
 rw [Bool.and_eq_true] at h
 simpa using h.1
theorem namedV_k {i : Nat} (h : namedV L i = true) : (tk L i).k ≠ 3 := by
 unfold namedV at h
 rw [Bool.and_eq_true] at h
 have := of_decide_eq_true h.1
 omega
theorem startsV_k {i : Nat} (h : startsV L i = true) : (tk L i).k ≠ 3 := by
 unfold startsV at h
 rw [Bool.or_eq_true] at h
 rcases h with h | h
 ·exact namedV_k h
 ·rw [Bool.and_eq_true] at h
  have := of_decide_eq_true h.1
  omega
theorem Up.take (hL : TokOk L) (t : List UInt8) (a : Nat) : Up L (takeM L t) a (a + 1) := fun s c hs => by
 unfold takeM
 by_cases h : isV L s.i t = true
 ·rw [if_pos h]; exact ⟨stepP_ok hL hs (isV_k h), Nat.le_succ _⟩
 ·rw [if_neg h]; exact ⟨Nat.le_refl _, hs.i, by decide, by decide⟩
theorem Up.name (hL : TokOk L) (a : Nat) : Up L (nameM L) a (a + 1) := fun s c hs => by
 unfold nameM
 by_cases h : namedV L s.i = true
 ·rw [if_pos h]; exact ⟨stepP_ok hL hs (namedV_k h), Nat.le_succ _⟩
 ·rw [if_neg h]; exact ⟨Nat.le_refl _, hs.i, by decide, by decide⟩
theorem Up.number (hL : TokOk L) (a : Nat) : Up L (numberM L) a (a + 1) := fun s c hs => by
 unfold numberM
 by_cases h : (tk L s.i).k = 1
 ·rw [if_pos h]; exact ⟨stepP_ok hL hs (by omega), Nat.le_succ _⟩
 ·rw [if_neg h]; exact ⟨Nat.le_refl _, hs.i, by decide, by decide⟩
theorem Up.room (n a : Nat) : Up L (roomM n) a a := fun s c hs => by
 unfold roomM
 by_cases h : 64 ≤ n
 ·rw [if_pos h]; exact ⟨Nat.le_refl _, hs.i, by decide, by decide⟩
 ·rw [if_neg h]; exact ⟨hs, Nat.le_refl _⟩
theorem Up.enter (m : Nat) (b : Bool) (a : Nat) : Up L (enterM m b) a a := fun s c hs => by
 unfold enterM
 by_cases h : b = false
 ·rw [if_pos h]; exact ⟨Nat.le_refl _, hs.i, by decide, by decide⟩
 ·rw [if_neg h]
  by_cases h2 : m = 0
  ·rw [if_pos h2]; exact ⟨Nat.le_refl _, hs.i, by decide, by decide⟩
  ·rw [if_neg h2]; exact ⟨hs, Nat.le_refl _⟩
theorem Up.put (x : EX) (a : Nat) : Up L (putM x) (a + 1) a := fun s c hs =>
 ⟨⟨hs.i, by have := hs.x; show (s.xs ++ [x]).length + _ ≤ s.i; rw [List.length_append, List.length_singleton]; omega, by have := hs.t; show s.ts.length + _ ≤ s.i; omega⟩, Nat.le_refl _⟩
theorem Up.lay (x : TY) (a : Nat) : Up L (layM x) (a + 1) a := fun s c hs =>
 ⟨⟨hs.i, by have := hs.x; show s.xs.length + _ ≤ s.i; omega, by have := hs.t; show (s.ts ++ [x]).length + _ ≤ s.i; rw [List.length_append, List.length_singleton]; omega⟩, Nat.le_refl _⟩
theorem Up.roomIf (p : Nat → Bool) (n a : Nat) : Up L (fun s => if p s.i = true then roomM n s else .ok () s) a a := fun s c hs => by
 dsimp only
 by_cases h : p s.i = true
 ·rw [if_pos h]; exact Up.room n a s c hs
 ·rw [if_neg h]; exact ⟨hs, Nat.le_refl _⟩
theorem Up.roomStep {α : Type} (hL : TokOk L) {p : Nat → Bool} {n : Nat} {f : Unit → PM α} {y : PM α} {a b : Nat} (hp : ∀ i, p i = true → (tk L i).k ≠ 3) (hx : Up L (f ()) (a + 1) b) (hy : Up L y a b) : Up L (atM p (roomM n >>= fun _ => stepM >>= f) y) a b := fun s c hs => by
 have h1 := Up.step hL hp hx hy s c hs
 unfold atM at h1 ⊢
 by_cases h : p s.i = true
 ·rw [if_pos h] at h1 ⊢
  by_cases hr : 64 ≤ n
  ·rw [and_err (i := s.i) (e := 10) (by unfold roomM; rw [if_pos hr]; rfl)]
   exact ⟨Nat.le_refl _, hs.i, by decide, by decide⟩
  ·rw [and_ok (s' := s) (v := ()) (by unfold roomM; rw [if_neg hr])]
   exact h1
 ·rw [if_neg h] at h1 ⊢
  exact h1
theorem up_un (hL : TokOk L) (m : Nat) {un ex : PM Int} (h1 : Up L un 0 0) (h2 : Up L ex 0 0) : Up L (unF L m un ex) 0 0 := by
 unfold unF
 refine Up.step hL (fun i h => isV_k h) ?_ (Up.step hL (fun i h => isV_k h) ?_ (Up.at ?_ ?_))
 ·exact (Up.look fun s => Up.enter _ _ _).and fun _ => (h1.less 1 (by omega) (Nat.le_refl _)).and fun k => Up.put _ _
 ·exact (Up.look fun s => Up.enter _ _ _).and fun _ => (h2.less 1 (by omega) (Nat.le_refl _)).and fun k => (Up.take hL _ _).and fun _ => (Up.pure _ _).less 0 (Nat.le_refl _) (by omega)
 ·exact (Up.name hL 0).and fun w => Up.put _ _
 ·exact (Up.number hL 0).and fun w => Up.put _ _
theorem up_line (hL : TokOk L) (lv : Nat) {x : PM Int} (hx : Up L x 0 0) : ∀ n left, Up L (lineN L lv x n left) 0 0
 | 0, left => Up.pure _ _
 | n + 1, left => by
  refine Up.look (f := fun s => fun s' => if opAt L lv s'.i = true then (stepM >>= fun _ => x >>= fun right => putM ⟨3, (tk L s.i).t, 0, [], [left, right]⟩ >>= fun k => lineN L lv x n k) s' else .ok left s') fun s => ?_
  refine Up.step hL (p := fun i => opAt L lv i) (fun i h => ?_) ?_ (Up.pure left 0)
  ·unfold opAt at h
   rw [Bool.and_eq_true] at h
   have := of_decide_eq_true h.1
   omega
  ·exact (hx.less 1 (by omega) (Nat.le_refl _)).and fun r => (Up.put _ 0).and fun k => up_line hL lv hx n k
theorem up_lineJ (hL : TokOk L) {un : PM Int} (hx : Up L un 0 0) : ∀ j, Up L (lineJ L un j) 0 0
 | 0 => hx
 | j + 1 => (up_lineJ hL hx j).and fun left => Up.look fun s => up_line hL _ (up_lineJ hL hx j) _ _
theorem up_unM (hL : TokOk L) : ∀ m, Up L (unM L m) 0 0
 | 0 => up_un hL 0 (Up.fail (by decide) (by decide) _ _) (Up.fail (by decide) (by decide) _ _)
 | m + 1 => up_un hL _ (up_unM hL m) (up_lineJ hL (up_unM hL m) 8)
theorem up_expr (hL : TokOk L) (m a : Nat) : Up L (exprM L m) a a := (up_lineJ hL (up_unM hL m) 8).less a (by omega) (by omega)
theorem up_bracket (hL : TokOk L) (m a : Nat) : Up L (bracketM L m) a (a + 2) := (Up.take hL _ a).and fun _ => (up_expr hL m _).and fun k => (Up.take hL _ _).and fun _ => Up.pure _ _
theorem up_array (hL : TokOk L) (m : Nat) (t : TY) : Up L (arrayM L m t) 1 0 :=
 (Up.lay t 0).and fun k => Up.at ((up_bracket hL m 0).and fun x => (Up.lay _ 0).less 1 (Nat.le_refl _) (by omega)) (Up.pure _ _)
theorem up_args (hL : TokOk L) (m : Nat) : ∀ n l, Up L (argsN L m n l) 0 0
 | 0, l => Up.pure _ _
 | n + 1, l => Up.step hL (fun i h => isV_k h) ((Up.roomIf (beginsV L ·) _ _).and fun _ => (up_expr hL m 1).and fun x => (up_args hL m n (l ++ [x])).less 0 (by omega) (Nat.le_refl _)) (Up.pure _ _)
theorem up_ref (hL : TokOk L) (m : Nat) : Up L (refM L m) 0 1 :=
 (Up.name hL 0).and fun w => Up.step hL (fun i h => isV_k h) ((up_expr hL m _).and fun x => (Up.look fun s => (up_args hL m _ _).less 2 (by omega) (Nat.le_refl _)).and fun l => (Up.take hL _ _).and fun _ => (Up.pure _ _).less 0 (Nat.le_refl _) (by omega)) (Up.pure _ _)
theorem up_inner (m : Nat) {kd : PM Int} (h : Up L kd 0 0) (a : Nat) : Up L (innerM L m kd) a a :=
 (Up.look fun s => Up.enter _ _ _).and fun _ => h.less a (by omega) (by omega)
theorem up_cases (hL : TokOk L) (m : Nat) {kd : PM Int} (h : Up L kd 0 0) : ∀ n l, Up L (casesN L m kd n l) 0 0
 | 0, l => Up.pure _ _
 | n + 1, l => Up.roomStep hL (fun i h => isV_k h) ((Up.number hL 1).and fun c => (Up.take hL t_colon _).and fun _ => (up_inner m h _).and fun k => (Up.take hL t_semi _).and fun _ => (up_cases hL m h n (l ++ [⟨c, k⟩])).less 0 (by omega) (Nat.le_refl _)) (Up.pure _ _)
theorem up_choice (hL : TokOk L) (m : Nat) {kd : PM Int} (h : Up L kd 0 0) (a : Nat) : Up L (choiceM L m kd) a a := by
 unfold choiceM
 exact (Up.take hL _ _).and fun _ => (up_expr hL m _).and fun x => (Up.take hL _ _).and fun _ => (Up.take hL _ _).and fun _ => (Up.look fun s => (up_cases hL m h _ _).less (a + 3) (by omega) (Nat.le_refl _)).and fun cs =>
  (Up.step hL (fun i h => isV_k h) ((Up.take hL _ _).and fun _ => (up_inner m h _).and fun k => (Up.take hL _ _).and fun _ => (Up.pure _ _).less 0 (Nat.le_refl _) (b' := 0 + (a + 3)) (by omega)) (Up.pure _ _)).and fun k =>
  (Up.take hL _ _).and fun _ => (Up.lay _ a).less 3 (by omega) (by omega)
theorem up_word (hL : TokOk L) (m : Nat) {kd : PM Int} (h : Up L kd 0 0) (w : List UInt8) : Up L (wordM L m kd w) 1 0 := by
 unfold wordM
 split
 ·rename_i k _
  refine (up_bracket hL m _).and fun x => ?_
  by_cases hk : k = 7 ∨ k = 8
  ·rw [if_pos hk]; exact (up_inner m h _).and fun i => (Up.lay _ 0).less 2 (by omega) (by omega)
  ·rw [if_neg hk]; exact (Up.pure _ _).and fun i => (Up.lay _ 0).less 2 (by omega) (by omega)
 ·repeat' split
  ·exact (up_inner m h _).and fun i => Up.lay _ 0
  ·exact Up.lay _ 0
  ·exact Up.lay _ 0
  ·exact (up_choice hL m h 0).less 1 (Nat.le_refl _) (by omega)
  ·exact up_array hL m _
theorem up_kindF (hL : TokOk L) (m : Nat) {kd : PM Int} (h : Up L kd 0 0) : Up L (kindF L m kd) 0 0 := by
 unfold kindF
 refine Up.at ((up_ref hL m).and fun t => up_array hL m t) (Up.look (f := fun s => atM (startsV L ·) (stepM >>= fun _ => wordM L m kd (tk L s.i).t) (failM 4)) fun s => ?_)
 exact Up.step hL (fun i h => startsV_k h) (up_word hL m h _) (Up.fail (by decide) (by decide) _ _)
theorem up_kind (hL : TokOk L) : ∀ m, Up L (kindM L m) 0 0
 | 0 => up_kindF hL 0 (Up.fail (by decide) (by decide) _ _)
 | m + 1 => up_kindF hL _ (up_kind hL m)
theorem up_derived (hL : TokOk L) (a : Nat) : Up L (derivedM L) a a := by
 unfold derivedM
 refine Up.look (f := fun s => atM (fun i => !decide ((tk L i).k = 3) && !decide (derOf (tk L i).t = 0)) (stepM >>= fun _ => takeM L t_lpar >>= fun _ => nameM L >>= fun a =>
   (if 3 ≤ derOf (tk L s.i).t then takeM L t_dots >>= fun _ => nameM L else pure []) >>= fun b => takeM L t_rpar >>= fun _ => pure (derOf (tk L s.i).t, a, b)) (failM 4)) fun s => ?_
 refine Up.step hL (fun i h => ?_) ((Up.take hL _ _).and fun _ => (Up.name hL _).and fun w => ?_) (Up.fail (by decide) (by decide) _ _)
 ·rw [Bool.and_eq_true] at h
  simpa using h.1
 ·by_cases hd : 3 ≤ derOf (tk L s.i).t
  ·rw [if_pos hd]
   exact ((Up.take hL _ _).and fun _ => Up.name hL _).and fun b => (Up.take hL _ _).and fun _ => (Up.pure _ _).less 0 (Nat.le_refl _) (by omega)
  ·rw [if_neg hd]
   exact (Up.pure _ _).and fun b => (Up.take hL _ _).and fun _ => (Up.pure _ _).less 0 (Nat.le_refl _) (by omega)
theorem up_field (hL : TokOk L) : Up L (fieldM L) 0 0 := by
 unfold fieldM
 exact (Up.name hL 0).and fun w => (Up.take hL _ _).and fun _ => ((up_kind hL 32).less 2 (by omega) (Nat.le_refl _)).and fun t =>
  (Up.step hL (fun i h => isV_k h) ((up_derived hL _).less 0 (Nat.le_refl _) (b' := 2) (by omega)) (Up.pure _ _)).and fun d =>
  (Up.step hL (fun i h => isV_k h) ((up_expr hL 32 _).less 0 (Nat.le_refl _) (b' := 2) (by omega)) (Up.pure _ _)).and fun x =>
  (Up.take hL _ _).and fun _ => (Up.pure _ _).less 0 (Nat.le_refl _) (by omega)
theorem up_subs (hL : TokOk L) : ∀ n l, Up L (subsN L n l) 0 0
 | 0, l => Up.pure _ _
 | n + 1, l => by
  rw [subsN]
  exact (Up.roomIf (namedV L ·) _ _).and fun _ => (Up.name hL _).and fun w => (Up.take hL _ _).and fun _ => (Up.number hL _).and fun b => (Up.take hL _ _).and fun _ =>
   Up.at ((up_subs hL n _).less 4 (by omega) (by omega)) ((Up.pure _ _).less 0 (Nat.le_refl _) (by omega))
theorem up_pack (hL : TokOk L) : Up L (packM L) 0 0 := by
 unfold packM
 refine (Up.take hL _ _).and fun _ => ?_
 intro s c hs
 dsimp only
 by_cases hk : (tk L s.i).k = 0
 ·rw [if_pos hk]
  cases integerV (tk L s.i).t with
  | none => exact ⟨Nat.le_refl _, hs.i, by decide, by decide⟩
  | some p =>
   obtain ⟨z, lt⟩ := p
   have := Up.step (L := L) hL (p := fun i => decide ((tk L i).k = 0)) (f := fun _ => takeM L t_lcur >>= fun _ => (fun s => subsN L (L.length - s.i + 1) [] s) >>= fun l => takeM L t_rcur >>= fun _ => pure (⟨[], -1, 0, [], [], -1, z, lt, l⟩ : IT)) (y := failM 4) (a := 1) (b := 0) (fun i h => by have := of_decide_eq_true h; omega)
    ((Up.take hL t_lcur 2).and fun _ => (Up.look fun s => (up_subs hL (L.length - s.i + 1) []).less (a' := 3) (b' := 3) 3 (by omega) (by omega)).and fun l => (Up.take hL t_rcur 3).and fun _ => (Up.pure (⟨[], -1, 0, [], [], -1, z, lt, l⟩ : IT) 4).less (b' := 0) 0 (Nat.le_refl _) (by omega)) (Up.fail (by decide) (by decide) _ _) s c hs
   unfold atM at this
   rw [if_pos (decide_eq_true hk)] at this
   exact this
 ·rw [if_neg hk]; exact ⟨Nat.le_refl _, hs.i, by decide, by decide⟩
theorem up_pars (hL : TokOk L) : ∀ n l, Up L (parsN L n l) 0 0
 | 0, l => Up.pure _ _
 | n + 1, l => Up.step hL (fun i h => isV_k h) ((Up.roomIf (namedV L ·) _ _).and fun _ => (Up.name hL _).and fun x => (up_pars hL n (l ++ [x])).less 2 (by omega) (by omega)) (Up.pure _ _)
theorem up_items (hL : TokOk L) : ∀ n l, Up L (itemsN L n l) 0 0
 | 0, l => Up.pure _ _
 | n + 1, l => Up.at ((Up.room _ _).and fun _ => (Up.at (up_pack hL) (up_field hL)).and fun x => up_items hL n _) (Up.pure _ _)
theorem up_record (hL : TokOk L) : Up L (recordM L) 0 0 := by
 unfold recordM
 exact (Up.take hL _ _).and fun _ => (Up.name hL _).and fun w =>
  (Up.step hL (fun i h => isV_k h) ((Up.name hL _).and fun x => (Up.look fun s => (up_pars hL _ _).less 4 (by omega) (Nat.le_refl _)).and fun l => (Up.take hL _ _).and fun _ => (Up.pure _ _).less 0 (Nat.le_refl _) (b' := 2) (by omega)) (Up.pure _ _)).and fun ps =>
  (Up.take hL _ _).and fun _ => (Up.look fun s => (up_items hL _ _).less 3 (by omega) (Nat.le_refl _)).and fun is => (Up.take hL _ _).and fun _ => (Up.pure _ _).less 0 (Nat.le_refl _) (by omega)
theorem up_const (hL : TokOk L) : Up L (constM L) 0 0 := by
 unfold constM
 exact (Up.take hL _ _).and fun _ => (Up.name hL _).and fun w => (Up.take hL _ _).and fun _ => (Up.number hL _).and fun n => (Up.take hL _ _).and fun _ => (Up.pure _ _).less 0 (Nat.le_refl _) (by omega)
theorem up_whole (hL : TokOk L) : ∀ n cs rs, Up L (wholeN L n cs rs) 0 0
 | 0, cs, rs => Up.pure _ _
 | n + 1, cs, rs => Up.at ((Up.room _ _).and fun _ => (up_const hL).and fun c => up_whole hL n _ _) (Up.at ((Up.room _ _).and fun _ => (up_record hL).and fun c => up_whole hL n _ _) (Up.at (Up.pure _ _) (Up.fail (by decide) (by decide) _ _)))
end
end Go.Proofs.YtidnlfkakhmadaaGreatDoor

namespace Go.Proofs.YtidnlfkakhmadaaGreatDoor

def Mo {α : Type} (x : PM α) : Prop := ∀ s v s', x s = .ok v s' → s.i ≤ s'.i
def Mo1 {α : Type} (x : PM α) : Prop := ∀ s v s', x s = .ok v s' → s.i < s'.i
theorem mo_inv {α β : Type} {x : PM α} {f : α → PM β} {s s' : PS} {v : β} (h : (x >>= f) s = .ok v s') : ∃ u s1, x s = .ok u s1 ∧ f u s1 = .ok v s' := by
 have hb : PM.and x f s = .ok v s' := h
 unfold PM.and at hb
 rcases hxs : x s with ⟨u, s1⟩ | ⟨i, e⟩
 ·rw [hxs] at hb; exact ⟨u, s1, rfl, hb⟩
 ·rw [hxs] at hb; cases hb
theorem Mo.and {α β : Type} {x : PM α} {f : α → PM β} (hx : Mo x) (hf : ∀ v, Mo (f v)) : Mo (x >>= f) := fun s v s' h => by
 obtain ⟨u, s1, h1, h2⟩ := mo_inv h
 exact Nat.le_trans (hx _ _ _ h1) (hf u _ _ _ h2)
theorem Mo1.and {α β : Type} {x : PM α} {f : α → PM β} (hx : Mo1 x) (hf : ∀ v, Mo (f v)) : Mo1 (x >>= f) := fun s v s' h => by
 obtain ⟨u, s1, h1, h2⟩ := mo_inv h
 exact Nat.lt_of_lt_of_le (hx _ _ _ h1) (hf u _ _ _ h2)
theorem Mo1.mo {α : Type} {x : PM α} (h : Mo1 x) : Mo x := fun s v s' hx => Nat.le_of_lt (h s v s' hx)
theorem Mo.at {α : Type} {p : Nat → Bool} {x y : PM α} (hx : Mo x) (hy : Mo y) : Mo (atM p x y) := fun s v s' h => by
 unfold atM at h
 split at h
 ·exact hx _ _ _ h
 ·exact hy _ _ _ h
theorem Mo.pure {α : Type} (v : α) : Mo (pure v) := fun s u s' h => by cases h; exact Nat.le_refl _
theorem Mo.put (x : EX) : Mo (putM x) := fun s u s' h => by cases h; exact Nat.le_refl _
theorem Mo.lay (x : TY) : Mo (layM x) := fun s u s' h => by cases h; exact Nat.le_refl _
theorem Mo.fail {α : Type} (e : Nat) : Mo (failM e : PM α) := fun s u s' h => by cases h
theorem Mo1.step : Mo1 stepM := fun s u s' h => by cases h; exact Nat.lt_succ_self _
theorem Mo.room (n : Nat) : Mo (roomM n) := fun s u s' h => by unfold roomM at h; split at h <;> cases h; exact Nat.le_refl _
theorem Mo.roomIf (p : Nat → Bool) (n : Nat) : Mo (fun s => if p s.i = true then roomM n s else .ok () s) := fun s u s' h => by
 dsimp only at h
 split at h
 ·exact Mo.room n _ _ _ h
 ·cases h; exact Nat.le_refl _
theorem Mo.enter (m : Nat) (p : Nat → Bool) : Mo (fun s => enterM m (p s.i) s) := fun s u s' h => by
 dsimp only at h; unfold enterM at h
 split at h
 ·cases h
 ·split at h <;> cases h; exact Nat.le_refl _
section
variable {L : List TokP}
theorem Mo1.take (t : List UInt8) : Mo1 (takeM L t) := fun s v s' h => by unfold takeM at h; split at h <;> cases h; exact Nat.lt_succ_self _
theorem Mo1.name : Mo1 (nameM L) := fun s v s' h => by unfold nameM at h; split at h <;> cases h; exact Nat.lt_succ_self _
theorem Mo1.num : Mo1 (numberM L) := fun s v s' h => by unfold numberM at h; split at h <;> cases h; exact Nat.lt_succ_self _
theorem mo_un (m : Nat) {un ex : PM Int} (h1 : Mo un) (h2 : Mo ex) : Mo (unF L m un ex) :=
 Mo.at (Mo1.step.mo.and fun _ => (Mo.enter _ _).and fun _ => h1.and fun _ => Mo.put _) (Mo.at (Mo1.step.mo.and fun _ => (Mo.enter _ _).and fun _ => h2.and fun _ => (Mo1.take _).mo.and fun _ => Mo.pure _) (Mo.at (Mo1.name.mo.and fun _ => Mo.put _) (Mo1.num.mo.and fun _ => Mo.put _)))
theorem mo_line (lv : Nat) {x : PM Int} (hx : Mo x) : ∀ n left, Mo (lineN L lv x n left)
 | 0, left => Mo.pure _
 | n + 1, left => fun s v s' h => by
  rw [lineN] at h
  change (if opAt L lv s.i = true then _ else _) = _ at h
  split at h
  ·exact (Mo1.step.mo.and fun _ => hx.and fun r => (Mo.put ⟨3, (tk L s.i).t, 0, [], [left, r]⟩).and fun k => mo_line lv hx n k) _ _ _ h
  ·cases h; exact Nat.le_refl _
theorem mo_lineJ {un : PM Int} (hx : Mo un) : ∀ j, Mo (lineJ L un j)
 | 0 => hx
 | j + 1 => (mo_lineJ hx j).and fun left => fun s v s' h => mo_line _ (mo_lineJ hx j) _ _ s v s' h
theorem mo_unM : ∀ m, Mo (unM L m)
 | 0 => mo_un 0 (Mo.fail _) (Mo.fail _)
 | m + 1 => mo_un _ (mo_unM m) (mo_lineJ (mo_unM m) 8)
theorem mo_expr (m : Nat) : Mo (exprM L m) := mo_lineJ (mo_unM m) 8
theorem mo_bracket (m : Nat) : Mo (bracketM L m) := (Mo1.take _).mo.and fun _ => (mo_expr m).and fun _ => (Mo1.take _).mo.and fun _ => Mo.pure _
theorem mo_array (m : Nat) (t : TY) : Mo (arrayM L m t) := (Mo.lay t).and fun k => Mo.at ((mo_bracket m).and fun x => Mo.lay _) (Mo.pure _)
theorem mo_args (m : Nat) : ∀ n l, Mo (argsN L m n l)
 | 0, l => Mo.pure _
 | n + 1, l => Mo.at (Mo1.step.mo.and fun _ => (Mo.roomIf (beginsV L ·) _).and fun _ => (mo_expr m).and fun x => mo_args m n _) (Mo.pure _)
theorem mo_ref (m : Nat) : Mo (refM L m) := Mo1.name.mo.and fun w => Mo.at (Mo1.step.mo.and fun _ => (mo_expr m).and fun x => (show Mo (fun s => argsN L m (L.length - s.i + 1) [x] s) from fun s v s' h => mo_args m _ _ s v s' h).and fun l => (Mo1.take _).mo.and fun _ => Mo.pure _) (Mo.pure _)
theorem mo_inner (m : Nat) {kd : PM Int} (h : Mo kd) : Mo (innerM L m kd) := (Mo.enter m (startsV L ·)).and fun _ => h
theorem mo_cases (m : Nat) {kd : PM Int} (h : Mo kd) : ∀ n l, Mo (casesN L m kd n l)
 | 0, l => Mo.pure _
 | n + 1, l => Mo.at ((Mo.room _).and fun _ => Mo1.step.mo.and fun _ => Mo1.num.mo.and fun c => (Mo1.take _).mo.and fun _ => (mo_inner m h).and fun k => (Mo1.take _).mo.and fun _ => mo_cases m h n _) (Mo.pure _)
theorem mo_choice (m : Nat) {kd : PM Int} (h : Mo kd) : Mo (choiceM L m kd) := by
 unfold choiceM
 exact (Mo1.take _).mo.and fun _ => (mo_expr m).and fun x => (Mo1.take _).mo.and fun _ => (Mo1.take _).mo.and fun _ => (show Mo (fun s => casesN L m kd (L.length - s.i + 1) [] s) from fun s v s' hx => mo_cases m h _ _ s v s' hx).and fun cs =>
  (Mo.at (Mo1.step.mo.and fun _ => (Mo1.take _).mo.and fun _ => (mo_inner m h).and fun k => (Mo1.take _).mo.and fun _ => Mo.pure _) (Mo.pure _)).and fun k => (Mo1.take _).mo.and fun _ => Mo.lay _
theorem mo_word (m : Nat) {kd : PM Int} (h : Mo kd) (w : List UInt8) : Mo (wordM L m kd w) := by
 unfold wordM
 split
 ·refine (mo_bracket m).and fun x => ?_
  split
  ·exact (mo_inner m h).and fun i => Mo.lay _
  ·exact (Mo.pure _).and fun i => Mo.lay _
 ·repeat' split
  ·exact (mo_inner m h).and fun i => Mo.lay _
  ·exact Mo.lay _
  ·exact Mo.lay _
  ·exact mo_choice m h
  ·exact mo_array m _
theorem mo_kindF (m : Nat) {kd : PM Int} (h : Mo kd) : Mo (kindF L m kd) := Mo.at ((mo_ref m).and fun t => mo_array m t) (Mo.at (fun s v s' hx => (Mo1.step.mo.and fun _ => mo_word m h (tk L s.i).t) s v s' hx) (Mo.fail _))
theorem mo_kind : ∀ m, Mo (kindM L m)
 | 0 => mo_kindF 0 (Mo.fail _)
 | m + 1 => mo_kindF _ (mo_kind m)
theorem mo_derived : Mo (derivedM L) := by
 refine Mo.at (fun s v s' hx => (Mo1.step.mo.and fun _ => (Mo1.take t_lpar).mo.and fun _ => Mo1.name.mo.and fun a => Mo.and ?_ fun b => (Mo1.take t_rpar).mo.and fun _ => Mo.pure (derOf (tk L s.i).t, a, b)) s v s' hx) (Mo.fail _)
 split
 ·exact (Mo1.take _).mo.and fun _ => Mo1.name.mo
 ·exact Mo.pure _
theorem mo_field : Mo1 (fieldM L) := Mo1.name.and fun w => (Mo1.take _).mo.and fun _ => (mo_kind 32).and fun t => (Mo.at (Mo1.step.mo.and fun _ => mo_derived) (Mo.pure _)).and fun d => (Mo.at (Mo1.step.mo.and fun _ => mo_expr 32) (Mo.pure _)).and fun x => (Mo1.take _).mo.and fun _ => Mo.pure _
theorem mo_subs : ∀ n l, Mo (subsN L n l)
 | 0, l => Mo.pure _
 | n + 1, l => by
  rw [subsN]
  exact (Mo.roomIf (namedV L ·) _).and fun _ => Mo1.name.mo.and fun w => (Mo1.take _).mo.and fun _ => Mo1.num.mo.and fun b => (Mo1.take _).mo.and fun _ => Mo.at (mo_subs n _) (Mo.pure _)
theorem mo_pack : Mo1 (packM L) := (Mo1.take _).and fun _ => fun s v s' h => by
 split at h
 ·cases h
 ·exact (Mo1.step.mo.and fun _ => (Mo1.take _).mo.and fun _ => (show Mo (fun s => subsN L (L.length - s.i + 1) [] s) from fun s v s' hx => mo_subs _ _ s v s' hx).and fun l => (Mo1.take _).mo.and fun _ => Mo.pure _) _ _ _ h
theorem mo_pars : ∀ n l, Mo (parsN L n l)
 | 0, l => Mo.pure _
 | n + 1, l => Mo.at (Mo1.step.mo.and fun _ => (Mo.roomIf (namedV L ·) _).and fun _ => Mo1.name.mo.and fun x => mo_pars n _) (Mo.pure _)
theorem mo_items : ∀ n l, Mo (itemsN L n l)
 | 0, l => Mo.pure _
 | n + 1, l => Mo.at ((Mo.room _).and fun _ => (Mo.at mo_pack.mo mo_field.mo).and fun x => mo_items n _) (Mo.pure _)
theorem mo_record : Mo1 (recordM L) := (Mo1.take _).and fun _ => Mo1.name.mo.and fun w =>
 (Mo.at (Mo1.step.mo.and fun _ => Mo1.name.mo.and fun x => (show Mo (fun s => parsN L (L.length - s.i + 1) [x] s) from fun s v s' h => mo_pars _ _ s v s' h).and fun l => (Mo1.take _).mo.and fun _ => Mo.pure _) (Mo.pure _)).and fun ps =>
 (Mo1.take _).mo.and fun _ => (show Mo (fun s => itemsN L (L.length - s.i + 1) [] s) from fun s v s' h => mo_items _ _ s v s' h).and fun is => (Mo1.take _).mo.and fun _ => Mo.pure _
theorem mo_const : Mo1 (constM L) := (Mo1.take _).and fun _ => Mo1.name.mo.and fun w => (Mo1.take _).mo.and fun _ => Mo1.num.mo.and fun n => (Mo1.take _).mo.and fun _ => Mo.pure _
end
end Go.Proofs.YtidnlfkakhmadaaGreatDoor

namespace Go.Proofs.YtidnlfkakhmadaaGreatDoor

def TokP.same (u t : TokP) : Prop := u.k = t.k ∧ u.t = t.t ∧ u.n = t.n
theorem atY {α : Type} {p : Nat → Bool} {x y : PM α} {s : PS} (h : p s.i = true) : atM p x y s = x s := if_pos h
theorem atN {α : Type} {p : Nat → Bool} {x y : PM α} {s : PS} (h : p s.i = false) : atM p x y s = y s := if_neg (by rw [h]; decide)
theorem room_inv {α : Type} {n : Nat} {f : Unit → PM α} {s s' : PS} {v : α} (h : (roomM n >>= f) s = .ok v s') : n < 64 ∧ f () s = .ok v s' := by
 obtain ⟨u, s1, h1, h2⟩ := mo_inv h
 unfold roomM at h1
 split at h1
 ·cases h1
 ·cases h1; exact ⟨by omega, h2⟩
theorem room_lt {α : Type} {n : Nat} {f : Unit → PM α} {s : PS} (h : n < 64) : (roomM n >>= f) s = f () s := and_ok (by unfold roomM; rw [if_neg (by omega)])
structure Lc (K lo : Nat) {α : Type} (x x' : PM α) : Prop where
 mo : Mo x
 lc : ∀ s v s', lo ≤ s.i → x s = .ok v s' → s'.i < K → x' s = .ok v s'
structure LcE (K : Nat) {α : Type} (x x' : PM α) : Prop where
 mo : Mo1 x
 lc : ∀ s v s', x s = .ok v s' → s'.i ≤ K → x' s = .ok v s'
section
variable {K lo : Nat} {L L' : List TokP} {α β : Type}
def AskB (K : Nat) (p p' : Nat → Bool) : Prop := ∀ i, i < K → p' i = p i
structure Ag (L L' : List TokP) (K : Nat) : Prop where
 lo : ∀ i, i < K → (tk L' i).same (tk L i)
 l1 : K ≤ L.length
 l2 : K ≤ L'.length
variable (hc : Ag L L' K)
include hc
def derB2 (L : List TokP) (t : List UInt8) : PM (Nat × List UInt8 × List UInt8) := takeM L t_lpar >>= fun _ => nameM L >>= fun a => (if 3 ≤ derOf t then takeM L t_dots >>= fun _ => nameM L else pure []) >>= fun b => takeM L t_rpar >>= fun _ => pure (derOf t, a, b)
end
end Go.Proofs.YtidnlfkakhmadaaGreatDoor

namespace Go.Proofs.YtidnlfkakhmadaaGreatDoor

abbrev Ky := Nat × List UInt8 × Nat
def AtK (L : List TokP) : Nat → List Ky → Prop
 | _, [] => True
 | i, k :: ks => (tk L i).key = k ∧ AtK L (i + 1) ks
theorem atK_app {L : List TokP} : ∀ {a : List Ky} {i : Nat} {b : List Ky}, AtK L i (a ++ b) ↔ AtK L i a ∧ AtK L (i + a.length) b
 | [], i, b => ⟨fun h => ⟨trivial, h⟩, fun h => h.2⟩
 | k :: a, i, b => by
  have e : i + (k :: a).length = i + 1 + a.length := by rw [List.length_cons]; omega
  rw [e]
  exact ⟨fun h => ⟨⟨h.1, (atK_app.1 h.2).1⟩, (atK_app.1 h.2).2⟩, fun h => ⟨h.1.1, atK_app.2 ⟨h.1.2, h.2⟩⟩⟩
theorem isV_key {L : List TokP} {i : Nat} {k : Ky} (h : (tk L i).key = k) (t : List UInt8) : isV L i t = (!decide (k.1 = 3) && decide (k.2.1 = t)) := by subst h; rfl
theorem namedV_key {L : List TokP} {i : Nat} {k : Ky} (h : (tk L i).key = k) : namedV L i = (decide (k.1 = 0) && !keyV k.2.1) := by subst h; rfl
theorem opAt_key {L : List TokP} {i : Nat} {k : Ky} (h : (tk L i).key = k) (lv : Nat) : opAt L lv i = (decide (k.1 = 2) && decide (levelV k.2.1 = lv)) := by subst h; rfl
theorem tk_kind {L : List TokP} {i : Nat} {k : Ky} (h : (tk L i).key = k) : (tk L i).k = k.1 := by subst h; rfl
theorem tk_text {L : List TokP} {i : Nat} {k : Ky} (h : (tk L i).key = k) : (tk L i).t = k.2.1 := by subst h; rfl
theorem tk_num {L : List TokP} {i : Nat} {k : Ky} (h : (tk L i).key = k) : (tk L i).n = k.2.2 := by subst h; rfl
theorem tokF_cases {r t : List UInt8} {k n : Nat} (h : tokF r = .ok k t n) : (k = 2 ∧ t ∈ signsL ∧ n = 0) ∨ (k = 1 ∧ (∃ b w, t = b :: w ∧ isDig b = true) ∧ ∀ c ∈ t, alnum c = true) ∨ (k = 0 ∧ n = 0 ∧ t.length ≤ 32 ∧ (∃ b w, t = b :: w ∧ isDig b = false) ∧ ∀ c ∈ t, alnum c = true) := by
 have ha := takeWhile_all alnum r
 unfold tokF at h
 split at h
 ·split at h
  ·cases h
  ·rename_i hs
   cases h
   exact .inl ⟨rfl, (signF_mem hs).1, rfl⟩
 ·rename_i b w hw
  rw [hw] at ha
  split at h
  ·rename_i hb
   obtain ⟨rfl, rfl⟩ := numF_ok h
   exact .inr (.inl ⟨rfl, ⟨b, w, rfl, hb⟩, ha⟩)
  ·rename_i hb
   split at h
   ·rename_i hl
    cases h
    exact .inr (.inr ⟨rfl, rfl, hl, ⟨b, w, rfl, by simpa using hb⟩, ha⟩)
   ·cases h
theorem sign_not {t : List UInt8} (h : t ∈ signsL) (ha : ∀ c ∈ t, alnum c = true) : False := by
 obtain ⟨h1, -, h3, -⟩ := signs_len t h
 obtain ⟨c, hc⟩ : ∃ c, c ∈ t := by cases t with
  | nil => exact absurd h1 (by decide)
  | cons c t => exact ⟨c, List.mem_cons_self⟩
 have := h3 c hc
 rw [ha c hc] at this
 cases this
theorem good_sign {u : TokP} (h : GoodTok u) (hs : u.t ∈ signsL) : u.key = (2, u.t, 0) := by
 obtain ⟨-, -, r, hr⟩ := h
 unfold TokP.key
 rcases tokF_cases hr with ⟨h1, -, h3⟩ | ⟨-, -, h3⟩ | ⟨-, -, -, -, h3⟩
 ·rw [h1, h3]
 ·exact (sign_not hs h3).elim
 ·exact (sign_not hs h3).elim
theorem good_word {u : TokP} (h : GoodTok u) {b : UInt8} {w : List UInt8} (hb : alnum b = true) (hd : isDig b = false) (e : u.t = b :: w) : u.key = (0, u.t, 0) := by
 obtain ⟨-, -, r, hr⟩ := h
 unfold TokP.key
 rcases tokF_cases hr with ⟨-, h2, -⟩ | ⟨-, ⟨b', w', h2, h3⟩, -⟩ | ⟨h1, h2, -⟩
 ·have := (signs_len _ h2).2.2.1 b (by rw [e]; exact List.mem_cons_self)
  rw [hb] at this; cases this
 ·rw [e] at h2; cases h2; rw [hd] at h3; cases h3
 ·rw [h1, h2]
class LexT (L : List TokP) : Prop where
 h : ∀ i, (tk L i).key = (3, [], 0) ∨ GoodTok (tk L i)
theorem lexT_of {s : List UInt8} {l c : Nat} {L : List TokP} (h : lexF s l c = .ok L) : LexT L := ⟨fun i => by
 obtain ⟨us, l', c', rfl, hg⟩ := lexF_good h
 unfold tk
 rw [List.getD_eq_getElem?_getD]
 by_cases hi : i < us.length
 ·right
  rw [List.getElem?_append_left hi, List.getElem?_eq_getElem hi]
  exact hg us[i] (List.getElem_mem hi)
 ·left
  rw [List.getElem?_append_right (by omega)]
  cases i - us.length with
  | zero => rfl
  | succ n => rfl⟩
section
variable {L : List TokP} [LexT L]
theorem isV_good {i : Nat} {t : List UInt8} (h : isV L i t = true) : GoodTok (tk L i) ∧ (tk L i).t = t := by
 unfold isV at h
 simp only [Bool.and_eq_true, Bool.not_eq_true', decide_eq_false_iff_not, decide_eq_true_eq] at h
 refine ⟨(LexT.h (L := L) i).elim (fun e => absurd (congrArg Prod.fst e) h.1) id, h.2⟩
theorem isV_sign {i : Nat} {t : List UInt8} (h : isV L i t = true) (ht : t ∈ signsL) : (tk L i).key = (2, t, 0) := by
 obtain ⟨h1, h2⟩ := isV_good h
 rw [good_sign h1 (by rw [h2]; exact ht), h2]
theorem isV_word {i : Nat} {b : UInt8} {w : List UInt8} (h : isV L i (b :: w) = true) (hb : alnum b = true) (hd : isDig b = false) : (tk L i).key = (0, b :: w, 0) := by
 obtain ⟨h1, h2⟩ := isV_good h
 rw [good_word h1 hb hd h2, h2]
theorem named_key {i : Nat} (h : namedV L i = true) : (tk L i).key = (0, (tk L i).t, 0) ∧ keyV (tk L i).t = false ∧ ∃ r, tokF r = .ok 0 (tk L i).t 0 := by
 unfold namedV at h
 simp only [Bool.and_eq_true, Bool.not_eq_true', decide_eq_true_eq] at h
 rcases LexT.h (L := L) i with e | ⟨-, -, r, hr⟩
 ·have := congrArg Prod.fst e
  exact absurd (this.symm.trans h.1) (by decide)
 ·rw [h.1] at hr
  rcases tokF_cases hr with ⟨h1, -⟩ | ⟨h1, -⟩ | ⟨-, h2, -⟩
  ·cases h1
  ·cases h1
  ·rw [h2] at hr
   exact ⟨by unfold TokP.key; rw [h.1, h2], h.2, r, hr⟩
theorem num_key {i : Nat} (h : (tk L i).k = 1) : (tk L i).key = (1, (tk L i).t, (tk L i).n) ∧ ∃ r, tokF r = .ok 1 (tk L i).t (tk L i).n := by
 rcases LexT.h (L := L) i with e | ⟨-, -, r, hr⟩
 ·have := congrArg Prod.fst e
  exact absurd (this.symm.trans h) (by decide)
 ·rw [h] at hr
  exact ⟨by unfold TokP.key; rw [h], r, hr⟩
theorem op_key {i lv : Nat} (h : opAt L lv i = true) : (tk L i).key = (2, (tk L i).t, 0) ∧ levelV (tk L i).t = lv ∧ (tk L i).t ∈ signsL := by
 unfold opAt at h
 simp only [Bool.and_eq_true, decide_eq_true_eq] at h
 rcases LexT.h (L := L) i with e | hg
 ·have := congrArg Prod.fst e
  exact absurd (this.symm.trans h.1) (by decide)
 ·obtain ⟨-, -, r, hr⟩ := id hg
  rw [h.1] at hr
  rcases tokF_cases hr with ⟨-, h1, -⟩ | ⟨h1, -⟩ | ⟨h1, -⟩
  ·exact ⟨good_sign hg h1, h.2, h1⟩
  ·cases h1
  ·cases h1
end
theorem level_le (w : List UInt8) : levelV w ≤ 8 := by
 unfold levelV
 generalize h : levelsL.find? _ = o
 cases o with
 | none => exact Nat.zero_le 8
 | some p =>
  have hm := List.mem_of_find?_eq_some h
  have : ∀ p ∈ levelsL, p.2 ≤ 8 := by decide +kernel
  exact this p hm
inductive CE where
 | num (t : List UInt8) (n : Nat)
 | name (w : List UInt8)
 | not (a : CE)
 | par (a : CE)
 | bin (op : List UInt8) (a b : CE)
def CE.toks : CE → List Ky
 | .num t n => [(1, t, n)]
 | .name w => [(0, w, 0)]
 | .not a => (2, t_bang, 0) :: a.toks
 | .par a => (2, t_lpar, 0) :: (a.toks ++ [(2, t_rpar, 0)])
 | .bin op a b => a.toks ++ (2, op, 0) :: b.toks
def CE.sz : CE → Nat
 | .num _ _ => 1
 | .name _ => 1
 | .not a => a.sz + 1
 | .par a => a.sz
 | .bin _ a b => a.sz + b.sz + 1
def CE.dp : CE → Nat
 | .num _ _ => 0
 | .name _ => 0
 | .not a => a.dp + 1
 | .par a => a.dp + 1
 | .bin _ a b => max a.dp b.dp
def CE.lv : CE → Nat
 | .bin op _ _ => levelV op
 | _ => 9
def CE.ok : CE → Prop
 | .num t n => ∃ r, tokF r = .ok 1 t n
 | .name w => keyV w = false ∧ ∃ r, tokF r = .ok 0 w 0
 | .not a => a.ok ∧ a.lv = 9
 | .par a => a.ok
 | .bin op a b => a.ok ∧ b.ok ∧ levelV op ≠ 0 ∧ op ∈ signsL ∧ levelV op ≤ a.lv ∧ levelV op < b.lv
def CE.ix (c : CE) (o : Nat) : Int := ((o + c.sz - 1 : Nat) : Int)
def CE.flat : CE → Nat → List EX
 | .num _ n, _ => [⟨0, [], n, [], []⟩]
 | .name w, _ => [⟨1, [], 0, w, []⟩]
 | .not a, o => a.flat o ++ [⟨2, [], 0, [], [a.ix o]⟩]
 | .par a, o => a.flat o
 | .bin op a b, o => a.flat o ++ b.flat (o + a.sz) ++ [⟨3, op, 0, [], [a.ix o, b.ix (o + a.sz)]⟩]
theorem CE.sz_pos : ∀ c : CE, 0 < c.sz
 | .num _ _ => Nat.one_pos
 | .name _ => Nat.one_pos
 | .not a => Nat.succ_pos _
 | .par a => a.sz_pos
 | .bin _ a b => Nat.succ_pos _
theorem CE.flat_len : ∀ (c : CE) (o : Nat), (c.flat o).length = c.sz
 | .num _ _, _ => rfl
 | .name _, _ => rfl
 | .not a, o => by simp [CE.flat, CE.sz, a.flat_len]
 | .par a, o => a.flat_len o
 | .bin _ a b, o => by simp [CE.flat, CE.sz, a.flat_len, b.flat_len]; omega
theorem CE.lv_le (c : CE) : c.lv ≤ 9 := by
 cases c <;> first | exact Nat.le_refl 9 | exact Nat.le_succ_of_le (level_le _)
theorem CE.lv_pos {c : CE} (hok : c.ok) : 0 < c.lv := by
 cases c with
 | bin op a b => exact Nat.pos_of_ne_zero hok.2.2.1
 | _ => exact Nat.succ_pos 8
theorem CE.toks_pos : ∀ c : CE, 0 < c.toks.length
 | .num _ _ => Nat.one_pos
 | .name _ => Nat.one_pos
 | .not a => Nat.succ_pos _
 | .par a => Nat.succ_pos _
 | .bin op a b => by simp only [CE.toks, List.length_append, List.length_cons]; omega
def CE.put (c : CE) (s : PS) : PS := ⟨s.i + c.toks.length, s.xs ++ c.flat s.xs.length, s.ts⟩
theorem CE.begins {L : List TokP} : ∀ (c : CE) {i : Nat}, c.ok → AtK L i c.toks → beginsV L i = true
 | .num t n, i, h, ha => by
  have := tk_kind ha.1
  unfold beginsV
  rw [this]
  simp
 | .name w, i, h, ha => by
  have := namedV_key ha.1
  unfold beginsV
  rw [this]
  dsimp only
  rw [h.1]
  simp
 | .not a, i, h, ha => by
  have := isV_key ha.1 t_bang
  unfold beginsV
  rw [this]
  rfl
 | .par a, i, h, ha => by
  have := isV_key ha.1 t_lpar
  unfold beginsV
  rw [this]
  show (_ || (true || _)) = true
  simp
 | .bin op a b, i, h, ha => a.begins h.1 (atK_app.1 ha).1
def Rd (m : Nat) (c : CE) (x : PM Int) (s : PS) : Prop := (c.dp ≤ m ∧ x s = .ok (c.ix s.xs.length) (c.put s)) ∨ (m < c.dp ∧ ∃ i, x s = .err i 8)
def Stop (L : List TokP) (i lv : Nat) : Prop := ∀ l, lv ≤ l → opAt L l i = false
theorem lineN_eq {L : List TokP} (lv : Nat) (x : PM Int) (n : Nat) (left : Int) (s : PS) : lineN L lv x (n + 1) left s = if opAt L lv s.i = true then (stepM >>= fun _ => x >>= fun right => putM ⟨3, (tk L s.i).t, 0, [], [left, right]⟩ >>= fun k => lineN L lv x n k) s else .ok left s := rfl
theorem line_stop {L : List TokP} {lv : Nat} {x : PM Int} (n : Nat) (left : Int) {s : PS} (h : opAt L lv s.i = false) : lineN L lv x n left s = .ok left s := by
 cases n with
 | zero => rfl
 | succ n => rw [lineN_eq, h]; rfl
theorem tk_out {L : List TokP} {i : Nat} (h : L.length ≤ i) : tk L i = ⟨3, [], 0, 0, 0⟩ := by
 unfold tk; rw [List.getD_eq_getElem?_getD, List.getElem?_eq_none h]; rfl
theorem op_in {L : List TokP} {i lv : Nat} (h : opAt L lv i = true) : i < L.length := by
 by_cases hi : i < L.length
 ·exact hi
 ·unfold opAt at h
  rw [tk_out (by omega)] at h
  cases h
section
variable {L : List TokP}
theorem pstep_ok {α : Type} {f : Unit → PM α} {s : PS} : (stepM >>= f) s = f () { s with i := s.i + 1 } := rfl
theorem take_ok {α : Type} {t : List UInt8} {f : Unit → PM α} {s : PS} (h : isV L s.i t = true) : (takeM L t >>= f) s = f () { s with i := s.i + 1 } := and_ok (by unfold takeM; rw [if_pos h]; rfl)
theorem take_no {α : Type} {t : List UInt8} {f : Unit → PM α} {s : PS} (h : isV L s.i t = false) : (takeM L t >>= f) s = .err s.i 4 := and_err (by unfold takeM; rw [if_neg (by rw [h]; decide)]; rfl)
theorem take_inv {α : Type} {t : List UInt8} {f : Unit → PM α} {s s' : PS} {v : α} (h : (takeM L t >>= f) s = .ok v s') : isV L s.i t = true ∧ f () { s with i := s.i + 1 } = .ok v s' := by
 cases h1 : isV L s.i t with
 | true => rw [take_ok h1] at h; exact ⟨rfl, h⟩
 | false => rw [take_no h1] at h; cases h
theorem name_ok {α : Type} {w : List UInt8} {n : Nat} {f : List UInt8 → PM α} {s : PS} (h : (tk L s.i).key = (0, w, n)) (hk : keyV w = false) : (nameM L >>= f) s = f w { s with i := s.i + 1 } := and_ok (by
 unfold nameM
 rw [namedV_key h, tk_text h, hk]
 rfl)
theorem number_ok {α : Type} {w : List UInt8} {n : Nat} {f : Nat → PM α} {s : PS} (h : (tk L s.i).key = (1, w, n)) : (numberM L >>= f) s = f n { s with i := s.i + 1 } := and_ok (by
 unfold numberM
 rw [tk_kind h, tk_num h]
 rfl)
theorem name_inv {α : Type} [LexT L] {f : List UInt8 → PM α} {s s' : PS} {v : α} (h : (nameM L >>= f) s = .ok v s') : ∃ w, (tk L s.i).key = (0, w, 0) ∧ keyV w = false ∧ (∃ r, tokF r = .ok 0 w 0) ∧ f w { s with i := s.i + 1 } = .ok v s' := by
 obtain ⟨w, s1, h1, h2⟩ := mo_inv h
 unfold nameM at h1
 split at h1
 ·rename_i hn
  obtain ⟨a, b, c⟩ := named_key hn
  cases h1
  exact ⟨_, a, b, c, h2⟩
 ·cases h1
theorem number_inv {α : Type} [LexT L] {f : Nat → PM α} {s s' : PS} {v : α} (h : (numberM L >>= f) s = .ok v s') : ∃ w n, (tk L s.i).key = (1, w, n) ∧ (∃ r, tokF r = .ok 1 w n) ∧ f n { s with i := s.i + 1 } = .ok v s' := by
 obtain ⟨w, s1, h1, h2⟩ := mo_inv h
 unfold numberM at h1
 split at h1
 ·rename_i hn
  obtain ⟨a, b⟩ := num_key hn
  cases h1
  exact ⟨_, _, a, b, h2⟩
 ·cases h1
theorem enter_ok {α : Type} {m : Nat} {p : Nat → Bool} {f : Unit → PM α} {s : PS} (h : p s.i = true) : ((fun s => enterM (m + 1) (p s.i) s) >>= f) s = f () s := and_ok (by
 show enterM (m + 1) (p s.i) s = _
 rw [h]; rfl)
theorem enter_err {α : Type} {p : Nat → Bool} {f : Unit → PM α} {s : PS} (h : p s.i = true) : ((fun s => enterM 0 (p s.i) s) >>= f) s = .err s.i 8 := and_err (by
 show enterM 0 (p s.i) s = _
 rw [h]; rfl)
theorem enter_inv {α : Type} {m : Nat} {p : Nat → Bool} {f : Unit → PM α} {s s' : PS} {v : α} (h : ((fun s => enterM m (p s.i) s) >>= f) s = .ok v s') : ∃ m', m = m' + 1 ∧ p s.i = true ∧ f () s = .ok v s' := by
 obtain ⟨u, s1, h1, h2⟩ := mo_inv h
 have h1 : enterM m (p s.i) s = .ok u s1 := h1
 unfold enterM at h1
 split at h1
 ·cases h1
 ·rename_i hp
  split at h1
  ·cases h1
  ·rename_i hm
   cases h1
   exact ⟨m - 1, by omega, by simpa using hp, h2⟩
def unP (L : List TokP) : Nat → PM Int
 | 0 => failM 8
 | m + 1 => unM L m
def exPm (L : List TokP) : Nat → PM Int
 | 0 => failM 8
 | m + 1 => lineJ L (unM L m) 8
theorem unM_eq (m : Nat) : unM L m = unF L m (unP L m) (exPm L m) := by cases m <;> rfl
theorem isV_head {i : Nat} {k n : Nat} {b c : UInt8} {w : List UInt8} (h : (tk L i).key = (k, b :: w, n)) (hc : b ≠ c) : isV L i [c] = false := by
 rw [isV_key h]
 have : ¬ (b :: w = [c]) := fun e => hc (by cases e; rfl)
 dsimp only
 rw [decide_eq_false this, Bool.and_false]
theorem rd_num {m : Nat} {t : List UInt8} {n : Nat} {s : PS} (hok : (CE.num t n).ok) (ha : AtK L s.i (CE.num t n).toks) : Rd m (.num t n) (unM L m) s := by
 have h1 := ha.1
 obtain ⟨r, hr⟩ := hok
 rcases tokF_cases hr with ⟨h, -⟩ | ⟨-, ⟨b, w, rfl, hb⟩, -⟩ | ⟨h, -⟩
 ·cases h
 ·have e0 : isV L s.i t_bang = false := isV_head h1 (by rintro rfl; exact absurd hb (by decide))
  have e1 : isV L s.i t_lpar = false := isV_head h1 (by rintro rfl; exact absurd hb (by decide))
  have e2 : namedV L s.i = false := by rw [namedV_key h1]; rfl
  refine .inl ⟨Nat.zero_le _, ?_⟩
  rw [unM_eq]
  unfold unF
  rw [atN e0, atN e1, atN e2, number_ok h1]
  unfold CE.put CE.ix
  simp [putM, CE.sz, CE.toks, CE.flat]
 ·cases h
theorem rd_name {m : Nat} {w : List UInt8} {s : PS} (hok : (CE.name w).ok) (ha : AtK L s.i (CE.name w).toks) : Rd m (.name w) (unM L m) s := by
 have h1 := ha.1
 obtain ⟨hk, r, hr⟩ := hok
 rcases tokF_cases hr with ⟨h, -⟩ | ⟨h, -⟩ | ⟨-, -, -, ⟨b, x, rfl, hb⟩, hal⟩
 ·cases h
 ·cases h
 ·have hbl := hal b List.mem_cons_self
  have e0 : isV L s.i t_bang = false := isV_head h1 (by rintro rfl; exact absurd hbl (by decide))
  have e1 : isV L s.i t_lpar = false := isV_head h1 (by rintro rfl; exact absurd hbl (by decide))
  have e2 : namedV L s.i = true := by rw [namedV_key h1, hk]; rfl
  refine .inl ⟨Nat.zero_le _, ?_⟩
  rw [unM_eq]
  unfold unF
  rw [atN e0, atN e1, atY e2, name_ok h1 hk]
  unfold CE.put CE.ix
  simp [putM, CE.sz, CE.toks, CE.flat]
theorem rd_not {m : Nat} {a : CE} {s : PS} (hok : a.ok) (ha : AtK L s.i (CE.not a).toks) (ih : ∀ m', Rd m' a (unM L m') { s with i := s.i + 1 }) : Rd m (.not a) (unM L m) s := by
 have e1 : isV L s.i t_bang = true := by rw [isV_key ha.1]; rfl
 have hb := a.begins hok ha.2
 rw [unM_eq]
 unfold unF Rd
 rw [atY e1, pstep_ok]
 cases m with
 | zero =>
  exact .inr ⟨Nat.succ_pos _, s.i + 1, enter_err (p := beginsV L) hb⟩
 | succ m =>
  rw [enter_ok (p := beginsV L) hb]
  rcases ih m with ⟨h1, h2⟩ | ⟨h1, i, h2⟩
  ·refine .inl ⟨Nat.succ_le_succ h1, ?_⟩
   show (unM L m >>= _) _ = _
   rw [and_ok h2]
   have hz := a.sz_pos
   unfold CE.put CE.ix
   simp only [putM, CE.toks, CE.flat, CE.sz, List.length_cons, List.length_append, CE.flat_len, List.append_assoc, CE.ix]
   congr 2
   omega
  ·refine .inr ⟨Nat.succ_lt_succ h1, i, ?_⟩
   exact and_err h2
theorem rd_par {m : Nat} {a : CE} {s : PS} (hok : a.ok) (ha : AtK L s.i (CE.par a).toks) (ih : ∀ m', Rd m' a (lineJ L (unM L m') 8) { s with i := s.i + 1 }) : Rd m (.par a) (unM L m) s := by
 have e0 : isV L s.i t_bang = false := by rw [isV_key ha.1]; decide
 have e1 : isV L s.i t_lpar = true := by rw [isV_key ha.1]; rfl
 obtain ⟨ha1, ha2⟩ := atK_app.1 ha.2
 have hb := a.begins hok ha1
 rw [unM_eq]
 unfold unF Rd
 rw [atN e0, atY e1, pstep_ok]
 cases m with
 | zero => exact .inr ⟨Nat.succ_pos _, s.i + 1, enter_err (p := beginsV L) hb⟩
 | succ m =>
  rw [enter_ok (p := beginsV L) hb]
  rcases ih m with ⟨h1, h2⟩ | ⟨h1, i, h2⟩
  ·refine .inl ⟨Nat.succ_le_succ h1, ?_⟩
   show (lineJ L (unM L m) 8 >>= _) _ = _
   rw [and_ok h2]
   have e2 : isV L (a.put { s with i := s.i + 1 }).i t_rpar = true := by
    show isV L (s.i + 1 + a.toks.length) t_rpar = true
    rw [isV_key ha2.1]; rfl
   rw [take_ok e2]
   show PR.ok _ _ = _
   unfold CE.put
   simp only [CE.toks, CE.flat, CE.ix, CE.sz, List.length_cons, List.length_append, List.length_nil]
   congr 2
   omega
  ·exact .inr ⟨Nat.succ_lt_succ h1, i, and_err h2⟩
def RdL (L : List TokP) (m : Nat) (c : CE) (j : Nat) (s : PS) : Prop := (c.dp ≤ m ∧ ∃ n, L.length + 1 ≤ (c.put s).i + n ∧ lineJ L (unM L m) (j + 1) s = lineN L (8 - j) (lineJ L (unM L m) j) n (c.ix s.xs.length) (c.put s)) ∨ (m < c.dp ∧ ∃ i, lineJ L (unM L m) (j + 1) s = .err i 8)
def ClA (L : List TokP) (c : CE) (j : Nat) : Prop := ∀ m, 9 ≤ c.lv + j → ∀ s, AtK L s.i c.toks → Stop L (s.i + c.toks.length) (9 - j) → Rd m c (lineJ L (unM L m) j) s
def ClB (L : List TokP) (c : CE) (j : Nat) : Prop := ∀ m, 8 ≤ c.lv + j → ∀ s, AtK L s.i c.toks → Stop L (s.i + c.toks.length) (9 - j) → RdL L m c j s
theorem clB_of {c : CE} {j : Nat} (hA : ClA L c j) : ∀ m, 9 ≤ c.lv + j → ∀ s, AtK L s.i c.toks → Stop L (s.i + c.toks.length) (9 - j) → RdL L m c j s := fun m hl s ha hs => by
 rcases hA m hl s ha hs with ⟨h1, h2⟩ | ⟨h1, i, h2⟩
 ·refine .inl ⟨h1, L.length - (c.put s).i + 1, by omega, ?_⟩
  rw [lineJ]
  exact and_ok h2
 ·refine .inr ⟨h1, i, ?_⟩
  rw [lineJ]
  exact and_err h2
theorem clA_succ {c : CE} {j : Nat} (hj : j < 8) (hB : ClB L c j) : ClA L c (j + 1) := fun m hl s ha hs => by
 rcases hB m (by omega) s ha (fun l hl => hs l (by omega)) with ⟨h1, n, -, h2⟩ | ⟨h1, i, h2⟩
 ·refine .inl ⟨h1, ?_⟩
  rw [h2]
  exact line_stop n _ (hs (8 - j) (by omega))
 ·exact .inr ⟨h1, i, h2⟩
theorem clB_bin {op : List UInt8} {a b : CE} {j : Nat} (hop : levelV op = 8 - j) (hla : levelV op ≤ a.lv) (hlb : levelV op < b.lv) (hj : j < 8) (hA : ClA L b j) (hB : ClB L a j) : ClB L (.bin op a b) j := fun m hl s ha hs => by
 obtain ⟨ha1, ha2⟩ := atK_app.1 ha
 have hk := ha2.1
 have hlen : (CE.bin op a b).toks.length = a.toks.length + (b.toks.length + 1) := by simp [CE.toks]
 have hst : Stop L (s.i + a.toks.length) (9 - j) := fun l hl => by
  rw [opAt_key hk]
  dsimp only
  rw [decide_eq_false (by omega : ¬ levelV op = l), Bool.and_false]
 rcases hB m (by omega) s ha1 hst with ⟨h1, n, hn, h2⟩ | ⟨h1, i, h2⟩
 ·have hop2 : opAt L (8 - j) (a.put s).i = true := by
   rw [show opAt L (8 - j) (a.put s).i = _ from opAt_key hk _, decide_eq_true hop]; rfl
  have hin := op_in hop2
  obtain ⟨n, rfl⟩ : ∃ n', n = n' + 1 := ⟨n - 1, by omega⟩
  have e1 : lineN L (8 - j) (lineJ L (unM L m) j) (n + 1) (a.ix s.xs.length) (a.put s) = (lineJ L (unM L m) j >>= fun right => putM ⟨3, op, 0, [], [a.ix s.xs.length, right]⟩ >>= fun k => lineN L (8 - j) (lineJ L (unM L m) j) n k) { a.put s with i := (a.put s).i + 1 } := by
   rw [lineN_eq, hop2, if_pos rfl, pstep_ok, show (tk L (a.put s).i).t = op from tk_text hk]
  have hb := hA m (by omega) { a.put s with i := (a.put s).i + 1 } ha2.2 (fun l hl => by
   have := hs l hl
   rw [hlen] at this
   show opAt L l (s.i + a.toks.length + 1 + b.toks.length) = false
   rw [show s.i + a.toks.length + 1 + b.toks.length = s.i + (a.toks.length + (b.toks.length + 1)) by omega]
   exact this)
  unfold RdL
  rw [h2, e1]
  rcases hb with ⟨g1, g2⟩ | ⟨g1, i, g2⟩
  ·refine .inl ⟨Nat.max_le.2 ⟨h1, g1⟩, n, ?_, ?_⟩
   ·have := b.toks_pos
    show _ ≤ s.i + (CE.bin op a b).toks.length + n
    have hn : L.length + 1 ≤ s.i + a.toks.length + (n + 1) := hn
    omega
   ·rw [and_ok g2]
    show lineN L (8 - j) _ n _ _ = _
    have hza := a.sz_pos
    have hzb := b.sz_pos
    congr 1
    ·unfold CE.put CE.ix
     simp only [CE.flat_len, List.length_append, CE.sz]
     congr 1
     omega
    ·unfold CE.put
     simp only [hlen, CE.flat, CE.flat_len, List.length_append, List.append_assoc]
     congr 1
     omega
  ·refine .inr ⟨Nat.lt_of_lt_of_le g1 (Nat.le_max_right _ _), i, and_err g2⟩
 ·refine .inr ⟨Nat.lt_of_lt_of_le h1 (Nat.le_max_left _ _), i, h2⟩
theorem cl_all : ∀ (c : CE), c.ok → ∀ j, j ≤ 8 → ClA L c j ∧ (j < 8 → ClB L c j) := by
 have un : ∀ c : CE, c.lv = 9 → (∀ m s, AtK L s.i c.toks → Rd m c (unM L m) s) → ∀ j, j ≤ 8 → ClA L c j ∧ (j < 8 → ClB L c j) := fun c hl h j => by
  induction j with
  | zero =>
   intro _
   have hA : ClA L c 0 := fun m _ s ha _ => h m s ha
   exact ⟨hA, fun _ m hm s ha hs => clB_of hA m (by omega) s ha hs⟩
  | succ j ih =>
   intro hj
   have hA : ClA L c (j + 1) := clA_succ (by omega) ((ih (by omega)).2 (by omega))
   exact ⟨hA, fun _ m hm s ha hs => clB_of hA m (by omega) s ha hs⟩
 intro c
 induction c with
 | num t n => exact fun hok => un _ rfl fun m s ha => rd_num hok ha
 | name w => exact fun hok => un _ rfl fun m s ha => rd_name hok ha
 | not a ih => exact fun hok => un _ rfl fun m s ha => rd_not hok.1 ha fun m' => ((ih hok.1 0 (by omega)).1 m' (by rw [hok.2]; omega) _ ha.2 (fun l hl => by
   cases ho : opAt L l (s.i + 1 + a.toks.length) with
   | false => rfl
   | true =>
    exfalso
    unfold opAt at ho
    simp only [Bool.and_eq_true, decide_eq_true_eq] at ho
    have := level_le (tk L (s.i + 1 + a.toks.length)).t
    omega))
 | par a ih =>
   intro hok
   refine un _ rfl fun m s ha => ?_
   have ha' := atK_app.1 ha.2
   refine rd_par hok ha fun m' => (ih hok 8 (by omega)).1 m' (by have := CE.lv_pos (c := a) hok; omega) _ ha'.1 (fun l hl => ?_)
   show opAt L l (s.i + 1 + a.toks.length) = false
   rw [opAt_key ha'.2.1]
   have hz : levelV t_rpar = 0 := by decide +kernel
   dsimp only
   rw [hz, decide_eq_false (by omega : ¬ 0 = l), Bool.and_false]
 | bin op a b iha ihb =>
  intro hok j
  obtain ⟨h1, h2, h3, -, h5, h6⟩ := hok
  have hlv : (CE.bin op a b).lv = levelV op := rfl
  have hle := level_le op
  have hB : ∀ j, j < 8 → (9 ≤ levelV op + j → ClA L (.bin op a b) j) → ClB L (.bin op a b) j := fun j hj hA m hm s ha hs => by
   by_cases hc : 9 ≤ levelV op + j
   ·exact clB_of (hA hc) m hc s ha hs
   ·rw [hlv] at hm
    exact clB_bin (by omega) h5 h6 hj (ihb h2 j (by omega)).1 ((iha h1 j (by omega)).2 hj) m (by rw [hlv]; exact hm) s ha hs
  induction j with
  | zero =>
   intro _
   exact ⟨fun m hm => by rw [hlv] at hm; omega, fun hj => hB 0 hj fun h => by omega⟩
  | succ j ih =>
   intro hj
   have hA : ClA L (.bin op a b) (j + 1) := clA_succ (by omega) ((ih (by omega)).2 (by omega))
   exact ⟨hA, fun hj' => hB _ hj' fun _ => hA⟩
theorem rd_expr {c : CE} (hok : c.ok) (m : Nat) {s : PS} (ha : AtK L s.i c.toks) (hs : Stop L (s.i + c.toks.length) 1) (hl : 0 < c.lv) : Rd m c (exprM L m) s :=
 (cl_all c hok 8 (by omega)).1 m (by omega) s ha (fun l h => hs l (by omega))
def Sd (L : List TokP) (m lv : Nat) (x : PM Int) : Prop := ∀ s v s', x s = .ok v s' → ∃ c : CE, c.ok ∧ lv ≤ c.lv ∧ c.dp ≤ m ∧ AtK L s.i c.toks ∧ v = c.ix s.xs.length ∧ s' = c.put s
variable [LexT L]
theorem sd_un {m : Nat} {un ex : PM Int} (h1 : ∀ m', m = m' + 1 → Sd L m' 9 un) (h2 : ∀ m', m = m' + 1 → Sd L m' 0 ex) : Sd L m 9 (unF L m un ex) := fun s v s' h => by
 unfold unF at h
 cases e0 : isV L s.i t_bang with
 | true =>
  rw [atY (p := (isV L · t_bang)) e0, pstep_ok] at h
  obtain ⟨m', hm, hb, h⟩ := enter_inv (p := beginsV L) h
  obtain ⟨u, s1, g1, g2⟩ := mo_inv h
  obtain ⟨c, a1, a2, a3, a4, rfl, rfl⟩ := h1 m' hm _ _ _ g1
  cases g2
  have hl : c.lv = 9 := by have := c.lv_le; omega
  refine ⟨.not c, ⟨a1, hl⟩, Nat.le_refl _, by show c.dp + 1 ≤ m; omega, ⟨isV_sign e0 (by decide), a4⟩, ?_, ?_⟩
  ·unfold CE.put CE.ix
   simp only [List.length_append, CE.flat_len, CE.sz]
   have := c.sz_pos
   omega
  ·unfold CE.put
   simp only [CE.toks, CE.flat, List.length_cons, List.append_assoc, CE.flat_len]
   congr 1
   omega
 | false =>
  rw [atN (p := (isV L · t_bang)) e0] at h
  cases e1 : isV L s.i t_lpar with
  | true =>
   rw [atY (p := (isV L · t_lpar)) e1, pstep_ok] at h
   obtain ⟨m', hm, hb, h⟩ := enter_inv (p := beginsV L) h
   obtain ⟨u, s1, g1, g2⟩ := mo_inv h
   obtain ⟨c, a1, a2, a3, a4, rfl, rfl⟩ := h2 m' hm _ _ _ g1
   obtain ⟨g3, g4⟩ := take_inv g2
   cases g4
   refine ⟨.par c, a1, Nat.le_refl _, by show c.dp + 1 ≤ m; omega, ⟨isV_sign e1 (by decide), atK_app.2 ⟨a4, isV_sign g3 (by decide), trivial⟩⟩, rfl, ?_⟩
   unfold CE.put
   simp only [CE.toks, CE.flat, List.length_cons, List.length_append, List.length_nil]
   congr 1
   omega
  | false =>
   rw [atN (p := (isV L · t_lpar)) e1] at h
   cases e2 : namedV L s.i with
   | true =>
    rw [atY (p := (namedV L ·)) e2] at h
    obtain ⟨w, b1, b2, b3, b4⟩ := name_inv h
    cases b4
    refine ⟨.name w, ⟨b2, b3⟩, Nat.le_refl _, Nat.zero_le _, ⟨b1, trivial⟩, ?_, rfl⟩
    unfold CE.ix
    simp [CE.sz]
   | false =>
    rw [atN (p := (namedV L ·)) e2] at h
    obtain ⟨w, n, b1, b2, b3⟩ := number_inv h
    cases b3
    refine ⟨.num w n, b2, Nat.le_refl _, Nat.zero_le _, ⟨b1, trivial⟩, ?_, rfl⟩
    unfold CE.ix
    simp [CE.sz]
theorem sd_line {m j : Nat} {x : PM Int} (hj : j < 8) (hx : Sd L m (9 - j) x) : ∀ n (c0 : CE) (s0 s : PS) (left v : Int) (s' : PS), c0.ok → 8 - j ≤ c0.lv → c0.dp ≤ m → AtK L s0.i c0.toks → left = c0.ix s0.xs.length → s = c0.put s0 → lineN L (8 - j) x n left s = .ok v s' →
  ∃ c : CE, c.ok ∧ 8 - j ≤ c.lv ∧ c.dp ≤ m ∧ AtK L s0.i c.toks ∧ v = c.ix s0.xs.length ∧ s' = c.put s0
 | 0, c0, s0, s, left, v, s', a1, a2, a3, a4, a5, a6, h => by
  cases h
  exact ⟨c0, a1, a2, a3, a4, a5, a6⟩
 | n + 1, c0, s0, s, left, v, s', a1, a2, a3, a4, a5, a6, h => by
  rw [lineN_eq] at h
  cases ho : opAt L (8 - j) s.i with
  | false =>
   rw [ho] at h
   cases h
   exact ⟨c0, a1, a2, a3, a4, a5, a6⟩
  | true =>
   rw [ho, if_pos rfl, pstep_ok] at h
   obtain ⟨r, s1, g1, g2⟩ := mo_inv h
   obtain ⟨b, b1, b2, b3, b4, rfl, rfl⟩ := hx _ _ _ g1
   obtain ⟨k1, k2, k3⟩ := op_key ho
   generalize (tk L s.i).t = op at *
   subst a5 a6
   have hlen : (CE.bin op c0 b).toks.length = c0.toks.length + (b.toks.length + 1) := by simp [CE.toks]
   refine sd_line hj hx n (.bin op c0 b) s0 _ _ _ _ ⟨a1, b1, by omega, k3, by omega, by omega⟩ (by show 8 - j ≤ levelV op; omega) (Nat.max_le.2 ⟨a3, b3⟩) (atK_app.2 ⟨a4, k1, b4⟩) rfl rfl ?_
   rw [← g2]
   show lineN L (8 - j) x n _ _ = lineN L (8 - j) x n _ _
   have hza := c0.sz_pos
   have hzb := b.sz_pos
   congr 1
   ·unfold CE.put CE.ix
    simp only [CE.flat_len, List.length_append, CE.sz]
    congr 1
    omega
   ·unfold CE.put
    simp only [hlen, CE.flat, CE.flat_len, List.length_append, List.append_assoc]
    congr 1
    omega
theorem sd_lineJ {m : Nat} (h : Sd L m 9 (unM L m)) : ∀ j, j ≤ 8 → Sd L m (9 - j) (lineJ L (unM L m) j)
 | 0, _ => h
 | j + 1, hj => fun s v s' he => by
  rw [lineJ] at he
  obtain ⟨u, s1, g1, g2⟩ := mo_inv he
  obtain ⟨c, a1, a2, a3, a4, a5, a6⟩ := sd_lineJ h j (by omega) _ _ _ g1
  obtain ⟨c', b1, b2, b3, b4, b5, b6⟩ := sd_line (by omega) (sd_lineJ h j (by omega)) _ c s s1 u v s' a1 (by omega) a3 a4 a5 a6 g2
  exact ⟨c', b1, by omega, b3, b4, b5, b6⟩
theorem sd_unM : ∀ m, Sd L m 9 (unM L m)
 | 0 => sd_un (fun _ h => by omega) (fun _ h => by omega)
 | m + 1 => sd_un (fun m' h => by cases h; exact sd_unM m) (fun m' h => by
   cases h
   intro s v s' he
   obtain ⟨c, b1, b2, b3⟩ := sd_lineJ (sd_unM m) 8 (by omega) s v s' he
   exact ⟨c, b1, Nat.zero_le _, b3⟩)
theorem sd_expr (m : Nat) : Sd L m 1 (exprM L m) := sd_lineJ (sd_unM m) 8 (by omega)
end
end Go.Proofs.YtidnlfkakhmadaaGreatDoor

namespace Go.Proofs.YtidnlfkakhmadaaGreatDoor

theorem pmb_assoc {α β γ : Type} (x : PM α) (f : α → PM β) (g : β → PM γ) : ((x >>= f) >>= g) = (x >>= fun u => f u >>= g) := by
 funext s
 show PM.and (PM.and x f) g s = PM.and x (fun u => PM.and (f u) g) s
 unfold PM.and
 cases x s <;> rfl
theorem pm_pure {α β : Type} (v : α) (f : α → PM β) : (pure v >>= f) = f v := rfl
theorem bind_at' {α β : Type} {x y : PM α} {f : α → PM β} {s s' : PS} (h : x s = y s') : (x >>= f) s = (y >>= f) s' := by
 show PM.and x f s = PM.and y f s'
 unfold PM.and
 rw [h]
def flatL : List CE → Nat → List EX
 | [], _ => []
 | c :: l, o => c.flat o ++ flatL l (o + c.sz)
def szCs : List CE → Nat
 | [] => 0
 | c :: l => c.sz + szCs l
def ixL : List CE → Nat → List Int
 | [], _ => []
 | c :: l, o => c.ix o :: ixL l (o + c.sz)
def dpL : List CE → Nat
 | [] => 0
 | c :: l => max c.dp (dpL l)
def toksL : List CE → List Ky
 | [] => []
 | c :: l => (2, t_comma, 0) :: (c.toks ++ toksL l)
def okL (l : List CE) : Prop := ∀ c ∈ l, c.ok
theorem flatL_len : ∀ (l : List CE) (o : Nat), (flatL l o).length = szCs l
 | [], _ => rfl
 | c :: l, o => by rw [flatL, List.length_append, c.flat_len, flatL_len l]; rfl
theorem ixL_len : ∀ (l : List CE) (o : Nat), (ixL l o).length = l.length
 | [], _ => rfl
 | c :: l, o => by rw [ixL, List.length_cons, ixL_len l]; rfl
mutual
inductive CT where
 | int (w : List UInt8)
 | ref (nm : List UInt8) (args : List CE)
 | sized (w : List UInt8) (e : CE)
 | over (w : List UInt8) (e : CE) (i : CT)
 | rest (i : CT)
 | tail
 | none
 | arr (b : CT) (e : CE)
 | switch (e : CE) (cs : CS)
inductive CS where
 | fin
 | els (i : CT)
 | case (t : List UInt8) (n : Nat) (i : CT) (r : CS)
end
def argT : List CE → List Ky
 | [] => []
 | c :: l => (2, t_lpar, 0) :: (c.toks ++ (toksL l ++ [(2, t_rpar, 0)]))
mutual
def CT.toks : CT → List Ky
 | .int w => [(0, w, 0)]
 | .ref nm args => (0, nm, 0) :: argT args
 | .sized w e => (0, w, 0) :: (2, t_lsq, 0) :: (e.toks ++ [(2, t_rsq, 0)])
 | .over w e i => (0, w, 0) :: (2, t_lsq, 0) :: (e.toks ++ (2, t_rsq, 0) :: i.toks)
 | .rest i => (0, w_rest, 0) :: i.toks
 | .tail => [(0, w_tail, 0)]
 | .none => [(0, w_none, 0)]
 | .arr b e => b.toks ++ (2, t_lsq, 0) :: (e.toks ++ [(2, t_rsq, 0)])
 | .switch e cs => (0, w_switch, 0) :: (2, t_lpar, 0) :: (e.toks ++ (2, t_rpar, 0) :: (2, t_lcur, 0) :: (cs.toks ++ [(2, t_rcur, 0)]))
def CS.toks : CS → List Ky
 | .fin => []
 | .els i => (0, w_else, 0) :: (2, t_colon, 0) :: (i.toks ++ [(2, t_semi, 0)])
 | .case t n i r => (0, w_case, 0) :: (1, t, n) :: (2, t_colon, 0) :: (i.toks ++ (2, t_semi, 0) :: r.toks)
end
mutual
def CT.sx : CT → Nat
 | .int _ => 0
 | .ref _ args => szCs args
 | .sized _ e => e.sz
 | .over _ e i => e.sz + i.sx
 | .rest i => i.sx
 | .tail => 0
 | .none => 0
 | .arr b e => b.sx + e.sz
 | .switch e cs => e.sz + cs.sx
def CS.sx : CS → Nat
 | .fin => 0
 | .els i => i.sx
 | .case _ _ i r => i.sx + r.sx
end
mutual
def CT.st : CT → Nat
 | .int _ => 1
 | .ref _ _ => 1
 | .sized _ _ => 1
 | .over _ _ i => i.st + 1
 | .rest i => i.st + 1
 | .tail => 1
 | .none => 1
 | .arr b _ => b.st + 1
 | .switch _ cs => cs.st + 1
def CS.st : CS → Nat
 | .fin => 0
 | .els i => i.st
 | .case _ _ i r => i.st + r.st
end
def CT.ix (c : CT) (p : Nat) : Int := ((p + c.st - 1 : Nat) : Int)
def CS.num : CS → Nat
 | .case _ _ _ r => r.num + 1
 | _ => 0
def CS.cases : CS → Nat → List CA
 | .case _ n i r, p => ⟨n, i.ix p⟩ :: r.cases (p + i.st)
 | _, _ => []
def CS.inn : CS → Nat → Int
 | .fin, _ => -1
 | .els i, p => i.ix p
 | .case _ _ i r, p => r.inn (p + i.st)
mutual
def CT.fx : CT → Nat → List EX
 | .int _, _ => []
 | .ref _ args, o => flatL args o
 | .sized _ e, o => e.flat o
 | .over _ e i, o => e.flat o ++ i.fx (o + e.sz)
 | .rest i, o => i.fx o
 | .tail, _ => []
 | .none, _ => []
 | .arr b e, o => b.fx o ++ e.flat (o + b.sx)
 | .switch e cs, o => e.flat o ++ cs.fx (o + e.sz)
def CS.fx : CS → Nat → List EX
 | .fin, _ => []
 | .els i, o => i.fx o
 | .case _ _ i r, o => i.fx o ++ r.fx (o + i.sx)
end
mutual
def CT.ft : CT → Nat → Nat → List TY
 | .int w, _, _ => [{ tyP 0 with size := ((integerV w).getD (0, false)).1, little := ((integerV w).getD (0, false)).2 }]
 | .ref nm args, o, _ => [{ tyP 10 with nm := nm, args := ixL args o }]
 | .sized w e, o, _ => [{ tyP ((sizedV w).getD 0) with ex := e.ix o, inn := -1 }]
 | .over w e i, o, p => i.ft (o + e.sz) p ++ [{ tyP ((sizedV w).getD 0) with ex := e.ix o, inn := i.ix p }]
 | .rest i, o, p => i.ft o p ++ [{ tyP 6 with inn := i.ix p }]
 | .tail, _, _ => [tyP 4]
 | .none, _, _ => [tyP 11]
 | .arr b e, o, p => b.ft o p ++ [{ tyP 5 with ex := e.ix (o + b.sx), inn := b.ix p }]
 | .switch e cs, o, p => cs.ft (o + e.sz) p ++ [{ tyP 9 with ex := e.ix o, inn := cs.inn p, cases := cs.cases p }]
def CS.ft : CS → Nat → Nat → List TY
 | .fin, _, _ => []
 | .els i, o, p => i.ft o p
 | .case _ _ i r, o, p => i.ft o p ++ r.ft (o + i.sx) (p + i.st)
end
mutual
def CT.dp : CT → Nat
 | .int _ => 0
 | .ref _ args => dpL args
 | .sized _ e => e.dp
 | .over _ e i => max e.dp (i.dp + 1)
 | .rest i => i.dp + 1
 | .tail => 0
 | .none => 0
 | .arr b e => max b.dp e.dp
 | .switch e cs => max e.dp cs.dp
def CS.dp : CS → Nat
 | .fin => 0
 | .els i => i.dp + 1
 | .case _ _ i r => max (i.dp + 1) r.dp
end
def CT.flatT : CT → Prop
 | .int _ => True
 | .ref _ _ => True
 | _ => False
mutual
def CT.ok : CT → Prop
 | .int w => integerV w ≠ Option.none
 | .ref nm args => keyV nm = false ∧ (∃ r, tokF r = .ok 0 nm 0) ∧ okL args ∧ args.length ≤ 64
 | .sized w e => (w = w_bytes ∨ w = w_zero ∨ w = w_skip) ∧ e.ok
 | .over w e i => (w = w_window ∨ w = w_at) ∧ e.ok ∧ i.ok
 | .rest i => i.ok
 | .tail => True
 | .none => True
 | .arr b e => b.ok ∧ e.ok ∧ b.flatT
 | .switch e cs => e.ok ∧ cs.ok ∧ cs.num ≤ 64
def CS.ok : CS → Prop
 | .fin => True
 | .els i => i.ok
 | .case t n i r => (∃ q, tokF q = .ok 1 t n) ∧ i.ok ∧ r.ok
end
mutual
theorem CT.fx_len : ∀ (c : CT) (o : Nat), (c.fx o).length = c.sx
 | .int _, _ => rfl
 | .ref _ args, o => flatL_len args o
 | .sized _ e, o => e.flat_len o
 | .over _ e i, o => by rw [CT.fx, List.length_append, e.flat_len, i.fx_len]; rfl
 | .rest i, o => i.fx_len o
 | .tail, _ => rfl
 | .none, _ => rfl
 | .arr b e, o => by rw [CT.fx, List.length_append, e.flat_len, b.fx_len]; rfl
 | .switch e cs, o => by rw [CT.fx, List.length_append, e.flat_len, cs.fx_len]; rfl
theorem CS.fx_len : ∀ (c : CS) (o : Nat), (c.fx o).length = c.sx
 | .fin, _ => rfl
 | .els i, o => i.fx_len o
 | .case _ _ i r, o => by rw [CS.fx, List.length_append, i.fx_len, r.fx_len]; rfl
end
mutual
theorem CT.ft_len : ∀ (c : CT) (o p : Nat), (c.ft o p).length = c.st
 | .int _, _, _ => rfl
 | .ref _ _, _, _ => rfl
 | .sized _ _, _, _ => rfl
 | .over _ e i, o, p => by rw [CT.ft, List.length_append, i.ft_len]; rfl
 | .rest i, o, p => by rw [CT.ft, List.length_append, i.ft_len]; rfl
 | .tail, _, _ => rfl
 | .none, _, _ => rfl
 | .arr b e, o, p => by rw [CT.ft, List.length_append, b.ft_len]; rfl
 | .switch e cs, o, p => by rw [CT.ft, List.length_append, cs.ft_len]; rfl
theorem CS.ft_len : ∀ (c : CS) (o p : Nat), (c.ft o p).length = c.st
 | .fin, _, _ => rfl
 | .els i, o, p => i.ft_len o p
 | .case _ _ i r, o, p => by rw [CS.ft, List.length_append, i.ft_len, r.ft_len]; rfl
end
theorem CT.st_pos (c : CT) : 0 < c.st := by
 cases c <;> simp [CT.st]
theorem CS.cases_len : ∀ (c : CS) (p : Nat), (c.cases p).length = c.num
 | .fin, _ => rfl
 | .els _, _ => rfl
 | .case _ _ i r, p => by rw [CS.cases, List.length_cons, r.cases_len]; rfl
def CT.put (c : CT) (s : PS) : PS := ⟨s.i + c.toks.length, s.xs ++ c.fx s.xs.length, s.ts ++ c.ft s.xs.length s.ts.length⟩
def CS.put (c : CS) (s : PS) : PS := ⟨s.i + c.toks.length, s.xs ++ c.fx s.xs.length, s.ts ++ c.ft s.xs.length s.ts.length⟩
theorem words_key : ∀ w ∈ typesL, keyV w = true := by decide +kernel
theorem ints_key {w : List UInt8} (h : integerV w ≠ none) : keyV w = true := by
 unfold keyV
 rw [Option.isSome_iff_ne_none.2 h, Bool.or_true]
theorem ints_sized {w : List UInt8} (h : integerV w ≠ none) : sizedV w = none ∧ w ≠ w_rest ∧ w ≠ w_tail ∧ w ≠ w_none ∧ w ≠ w_switch := by
 have h2 : ∀ v ∈ typesL, integerV v = none := by decide +kernel
 have hn : ∀ v ∈ typesL, w ≠ v := fun v hv e => h (by rw [e]; exact h2 v hv)
 refine ⟨?_, hn _ (by decide), hn _ (by decide), hn _ (by decide), hn _ (by decide)⟩
 unfold sizedV
 rw [if_neg (hn _ (by decide)), if_neg (hn _ (by decide)), if_neg (hn _ (by decide)), if_neg (hn _ (by decide)), if_neg (hn _ (by decide))]
section
variable {L : List TokP}
def NoBr (L : List TokP) (i : Nat) : Prop := isV L i t_lsq = false ∧ isV L i t_lpar = false
theorem stop_key {i : Nat} {k : Ky} (h : (tk L i).key = k) (hz : levelV k.2.1 = 0) : Stop L i 1 := fun l hl => by
 rw [opAt_key h, hz, decide_eq_false (by omega : ¬ 0 = l), Bool.and_false]
theorem rd_ok {c : CE} (hok : c.ok) {m : Nat} (hd : c.dp ≤ m) {s : PS} (ha : AtK L s.i c.toks) (hs : Stop L (s.i + c.toks.length) 1) : exprM L m s = .ok (c.ix s.xs.length) (c.put s) := by
 rcases rd_expr hok m ha hs (CE.lv_pos hok) with ⟨-, h⟩ | ⟨h, -⟩
 ·exact h
 ·omega
theorem bracket_ok {c : CE} (hok : c.ok) {m : Nat} (hd : c.dp ≤ m) {s : PS} (ha : AtK L s.i ((2, t_lsq, 0) :: (c.toks ++ [(2, t_rsq, 0)]))) : bracketM L m s = .ok (c.ix s.xs.length) ⟨s.i + c.toks.length + 2, s.xs ++ c.flat s.xs.length, s.ts⟩ := by
 obtain ⟨h1, h2⟩ := atK_app.1 ha.2
 have e1 : isV L s.i t_lsq = true := by rw [isV_key ha.1]; rfl
 have e2 : isV L (s.i + 1 + c.toks.length) t_rsq = true := by rw [isV_key h2.1]; rfl
 unfold bracketM
 rw [take_ok e1, and_ok (rd_ok hok hd (s := { s with i := s.i + 1 }) h1 (stop_key h2.1 (by decide +kernel)))]
 rw [take_ok (show isV L (c.put { s with i := s.i + 1 }).i t_rsq = true from e2)]
 show PR.ok _ _ = PR.ok _ _
 unfold CE.put
 congr 2
 show s.i + 1 + c.toks.length + 1 = _
 omega
theorem array_no {m : Nat} {t : TY} {s : PS} (h : isV L s.i t_lsq = false) : arrayM L m t s = .ok s.ts.length { s with ts := s.ts ++ [t] } := by
 unfold arrayM
 show atM (isV L · t_lsq) _ _ ({ s with ts := s.ts ++ [t] } : PS) = _
 exact atN (p := (isV L · t_lsq)) h
theorem array_yes {m : Nat} {t : TY} {s : PS} {c : CE} (hok : c.ok) (hd : c.dp ≤ m) (ha : AtK L s.i ((2, t_lsq, 0) :: (c.toks ++ [(2, t_rsq, 0)]))) :
  arrayM L m t s = .ok (s.ts.length + 1 : Nat) ⟨s.i + c.toks.length + 2, s.xs ++ c.flat s.xs.length, s.ts ++ [t] ++ [{ tyP 5 with ex := c.ix s.xs.length, inn := s.ts.length }]⟩ := by
 have e1 : isV L s.i t_lsq = true := by rw [isV_key ha.1]; rfl
 unfold arrayM
 show atM (isV L · t_lsq) _ _ ({ s with ts := s.ts ++ [t] } : PS) = _
 rw [atY (p := (isV L · t_lsq)) (s := { s with ts := s.ts ++ [t] }) e1, and_ok (bracket_ok hok hd (s := { s with ts := s.ts ++ [t] }) ha)]
 show PR.ok _ _ = PR.ok _ _
 simp only [List.length_append, List.length_singleton]
theorem args_ok {m : Nat} : ∀ (l : List CE) (n : Nat) (acc : List Int) (s : PS), okL l → dpL l ≤ m → acc.length + l.length ≤ 64 → AtK L s.i (toksL l ++ [(2, t_rpar, 0)]) → L.length < s.i + n →
  argsN L m n acc s = .ok (acc ++ ixL l s.xs.length) ⟨s.i + (toksL l).length, s.xs ++ flatL l s.xs.length, s.ts⟩
 | [], n, acc, s, _, _, _, ha, hn => by
  have e1 : isV L s.i t_comma = false := by rw [isV_key ha.1]; decide +kernel
  cases n with
  | zero => simp [argsN, toksL, flatL, ixL]; rfl
  | succ n =>
   show atM (isV L · t_comma) _ _ s = _
   rw [atN (p := (isV L · t_comma)) e1]
   simp [toksL, flatL, ixL]; rfl
 | c :: l, n, acc, s, hok, hd, hl, ha, hn => by
  have ha : AtK L s.i ((2, t_comma, 0) :: (c.toks ++ (toksL l ++ [(2, t_rpar, 0)]))) := by
   have : toksL (c :: l) ++ [((2, t_rpar, 0) : Ky)] = (2, t_comma, 0) :: (c.toks ++ (toksL l ++ [(2, t_rpar, 0)])) := by rw [toksL, List.cons_append, List.append_assoc]
   rwa [this] at ha
  have e1 : isV L s.i t_comma = true := by rw [isV_key ha.1]; decide +kernel
  obtain ⟨h1, h2⟩ := atK_app.1 ha.2
  have hc := hok c List.mem_cons_self
  have hi : s.i < L.length := by
   by_cases hi : s.i < L.length
   ·exact hi
   ·have := ha.1
    rw [tk_out (by omega)] at this; cases this
  have hdc : c.dp ≤ m := Nat.le_trans (Nat.le_max_left _ _) hd
  have hdl : dpL l ≤ m := Nat.le_trans (Nat.le_max_right _ _) hd
  have hstop : Stop L (s.i + 1 + c.toks.length) 1 := by
   cases l with
   | nil => exact stop_key h2.1 (by decide +kernel)
   | cons d l => exact stop_key h2.1 (by decide +kernel)
  obtain ⟨n, rfl⟩ : ∃ n', n = n' + 1 := ⟨n - 1, by omega⟩
  have hr : (fun s => if beginsV L s.i = true then roomM acc.length s else .ok () s : PM Unit) { s with i := s.i + 1 } = .ok () { s with i := s.i + 1 } := by
   show (if beginsV L (s.i + 1) = true then roomM acc.length { s with i := s.i + 1 } else .ok () { s with i := s.i + 1 }) = _
   rw [if_pos (c.begins hc h1)]
   unfold roomM
   rw [if_neg (by rw [List.length_cons] at hl; omega)]
  show atM (isV L · t_comma) _ _ s = _
  rw [atY (p := (isV L · t_comma)) e1, pstep_ok]
  refine (and_ok hr).trans ((and_ok (rd_ok hc hdc (s := { s with i := s.i + 1 }) h1 hstop)).trans ?_)
  have ih := args_ok l n (acc ++ [c.ix s.xs.length]) (c.put { s with i := s.i + 1 }) (fun d hd => hok d (List.mem_cons_of_mem _ hd)) hdl (by rw [List.length_append, List.length_singleton]; rw [List.length_cons] at hl; omega) h2 (by
   show L.length < s.i + 1 + c.toks.length + n
   omega)
  show argsN L m n (acc ++ [c.ix s.xs.length]) (c.put { s with i := s.i + 1 }) = _
  rw [ih]
  unfold CE.put
  simp only [List.length_append, CE.flat_len, ixL, flatL, toksL, List.length_cons, List.append_assoc, List.singleton_append]
  congr 2
  omega
end
end Go.Proofs.YtidnlfkakhmadaaGreatDoor

namespace Go.Proofs.YtidnlfkakhmadaaGreatDoor

section
variable {L : List TokP}
def kdP (L : List TokP) : Nat → PM Int
 | 0 => failM 8
 | m + 1 => kindM L m
theorem kindM_eq (m : Nat) : kindM L m = kindF L m (kdP L m) := by cases m <;> rfl
theorem types_mem {w : List UInt8} (h : w = w_bytes ∨ w = w_zero ∨ w = w_skip ∨ w = w_window ∨ w = w_at) : w ∈ typesL := by
 rcases h with rfl | rfl | rfl | rfl | rfl <;> decide
theorem starts_word {i : Nat} {w : List UInt8} (h : (tk L i).key = (0, w, 0)) (hw : w ∈ typesL) : startsV L i = true := by
 unfold startsV
 rw [tk_kind h, tk_text h, List.contains_iff_mem.2 hw]
 simp
theorem CT.starts : ∀ (c : CT) {i : Nat}, c.ok → AtK L i c.toks → startsV L i = true
 | .int w, i, h, ha => by
  unfold startsV
  rw [tk_kind ha.1, tk_text ha.1]
  dsimp only
  rw [Option.isSome_iff_ne_none.2 h]
  simp
 | .ref nm args, i, h, ha => by
  have : namedV L i = true := by rw [namedV_key ha.1, h.1]; rfl
  unfold startsV
  rw [this]; rfl
 | .sized w e, i, h, ha => starts_word ha.1 (types_mem (by rcases h.1 with h | h | h <;> simp [h]))
 | .over w e j, i, h, ha => starts_word ha.1 (types_mem (by rcases h.1 with h | h <;> simp [h]))
 | .rest j, i, h, ha => starts_word ha.1 (by decide)
 | .tail, i, h, ha => starts_word ha.1 (by decide)
 | .none, i, h, ha => starts_word ha.1 (by decide)
 | .arr b e, i, h, ha => CT.starts b h.1 (atK_app.1 ha).1
 | .switch e cs, i, h, ha => starts_word ha.1 (by decide)
theorem kindF_word {m : Nat} {kd : PM Int} {w : List UInt8} {s : PS} (h : (tk L s.i).key = (0, w, 0)) (hk : keyV w = true) (hs : startsV L s.i = true) : kindF L m kd s = wordM L m kd w { s with i := s.i + 1 } := by
 have e1 : namedV L s.i = false := by rw [namedV_key h, hk]; rfl
 unfold kindF
 rw [atN (p := (namedV L ·)) e1]
 refine (atY (p := (startsV L ·)) hs).trans ?_
 show (stepM >>= fun _ => wordM L m kd (tk L s.i).t) s = _
 rw [pstep_ok, tk_text h]
theorem ref_ok {m : Nat} {nm : List UInt8} {args : List CE} {s : PS} (hok : (CT.ref nm args).ok) (hd : dpL args ≤ m) (ha : AtK L s.i (CT.ref nm args).toks) (hn : isV L (s.i + (CT.ref nm args).toks.length) t_lpar = false) :
  refM L m s = .ok { tyP 10 with nm := nm, args := ixL args s.xs.length } ⟨s.i + (CT.ref nm args).toks.length, s.xs ++ flatL args s.xs.length, s.ts⟩ := by
 obtain ⟨hk, -, ho, hl⟩ := hok
 unfold refM
 rw [name_ok ha.1 hk]
 cases args with
 | nil =>
  refine (atN (p := (isV L · t_lpar)) (s := { s with i := s.i + 1 }) hn).trans ?_
  simp [flatL, ixL, CT.toks, argT]; rfl
 | cons c l =>
  have ha : AtK L (s.i + 1) ((2, t_lpar, 0) :: (c.toks ++ (toksL l ++ [(2, t_rpar, 0)]))) := ha.2
  have e1 : isV L (s.i + 1) t_lpar = true := by rw [isV_key ha.1]; rfl
  obtain ⟨h1, h2⟩ := atK_app.1 ha.2
  have hc := ho c List.mem_cons_self
  have hstop : Stop L (s.i + 1 + 1 + c.toks.length) 1 := by
   cases l with
   | nil => exact stop_key h2.1 (by decide +kernel)
   | cons d l => exact stop_key h2.1 (by decide +kernel)
  have hdc : c.dp ≤ m := Nat.le_trans (Nat.le_max_left _ _) hd
  have hdl : dpL l ≤ m := Nat.le_trans (Nat.le_max_right _ _) hd
  have e2 := args_ok l (L.length - (c.put { s with i := s.i + 1 + 1 }).i + 1) [c.ix s.xs.length] (c.put { s with i := s.i + 1 + 1 }) (fun d hd => ho d (List.mem_cons_of_mem _ hd)) hdl (by rw [List.length_cons] at hl; show 1 + l.length ≤ 64; omega) h2 (by omega)
  have e3 : isV L (s.i + 1 + 1 + c.toks.length + (toksL l).length) t_rpar = true := by
   rw [isV_key (atK_app.1 h2).2.1]; rfl
  refine (atY (p := (isV L · t_lpar)) (s := { s with i := s.i + 1 }) e1).trans ?_
  rw [pstep_ok]
  refine (and_ok (rd_ok hc hdc (s := { s with i := s.i + 1 + 1 }) h1 hstop)).trans ((and_ok e2).trans ((take_ok e3).trans ?_))
  show PR.ok _ _ = PR.ok _ _
  unfold CE.put
  simp only [List.length_append, CE.flat_len, ixL, flatL, CT.toks, argT, List.length_cons, List.length_nil, List.append_assoc, List.singleton_append]
  congr 2
  omega
theorem inner_of {m : Nat} {i : CT} {s s' : PS} {v : Int} (hs : startsV L s.i = true) (h : ∀ m', m = m' + 1 → kindM L m' s = .ok v s') (hm : 0 < m) : innerM L m (kdP L m) s = .ok v s' := by
 obtain ⟨m, rfl⟩ : ∃ m', m = m' + 1 := ⟨m - 1, by omega⟩
 unfold innerM
 rw [enter_ok (p := (startsV L ·)) hs]
 exact h m rfl
theorem sized_get {w : List UInt8} (h : w = w_bytes ∨ w = w_zero ∨ w = w_skip) : ∃ k, sizedV w = some k ∧ k ≠ 7 ∧ k ≠ 8 := by
 rcases h with rfl | rfl | rfl
 ·exact ⟨1, by decide, by decide, by decide⟩
 ·exact ⟨2, by decide, by decide, by decide⟩
 ·exact ⟨3, by decide, by decide, by decide⟩
theorem over_get {w : List UInt8} (h : w = w_window ∨ w = w_at) : ∃ k, sizedV w = some k ∧ (k = 7 ∨ k = 8) := by
 rcases h with rfl | rfl
 ·exact ⟨7, by decide, .inl rfl⟩
 ·exact ⟨8, by decide, .inr rfl⟩
theorem word_sized {m k : Nat} {kd : PM Int} {w : List UInt8} (h : sizedV w = some k) : wordM L m kd w = (bracketM L m >>= fun x => (if k = 7 ∨ k = 8 then innerM L m kd else pure (-1)) >>= fun i => layM { tyP k with ex := x, inn := i }) := by
 unfold wordM
 rw [h]
def elseM (L : List TokP) (m : Nat) (kd : PM Int) : PM Int := atM (isV L · w_else) (stepM >>= fun _ => takeM L t_colon >>= fun _ => innerM L m kd >>= fun k => takeM L t_semi >>= fun _ => pure k) (pure (-1))
theorem br_semi {i : Nat} {t : List UInt8} (h : (tk L i).key = (2, t, 0)) (h1 : t ≠ t_lsq) (h2 : t ≠ t_lpar) : NoBr L i := by
 unfold NoBr
 rw [isV_key h, isV_key h]
 dsimp only
 rw [decide_eq_false h1, decide_eq_false h2]
 exact ⟨rfl, rfl⟩
mutual
theorem kd_ok : ∀ (c : CT) (m : Nat) (s : PS), c.ok → c.dp ≤ m → AtK L s.i c.toks → NoBr L (s.i + c.toks.length) → kindM L m s = .ok (c.ix s.ts.length) (c.put s)
 | .int w, m, s, hok, _, ha, hb => by
  obtain ⟨g1, g2, g3, g4, g5⟩ := ints_sized hok
  rw [kindM_eq, kindF_word ha.1 (ints_key hok) (CT.starts (.int w) hok ha)]
  unfold wordM
  rw [g1]
  dsimp only
  rw [if_neg g2, if_neg g3, if_neg g4, if_neg g5, array_no (s := { s with i := s.i + 1 }) hb.1]
  simp [CT.ix, CT.put, CT.st, CT.toks, CT.fx, CT.ft]
 | .ref nm args, m, s, hok, hd, ha, hb => by
  have e1 : namedV L s.i = true := by rw [namedV_key ha.1, hok.1]; rfl
  rw [kindM_eq]
  unfold kindF
  rw [atY (p := (namedV L ·)) e1, and_ok (ref_ok hok hd ha hb.2), array_no hb.1]
  simp [CT.ix, CT.put, CT.st, CT.fx, CT.ft]
 | .sized w e, m, s, hok, hd, ha, _ => by
  obtain ⟨k, h1, h2, h3⟩ := sized_get hok.1
  have hw := types_mem (w := w) (by rcases hok.1 with h | h | h <;> simp [h])
  rw [kindM_eq, kindF_word ha.1 (words_key _ hw) (starts_word ha.1 hw), word_sized h1, and_ok (bracket_ok hok.2 hd (s := { s with i := s.i + 1 }) ha.2), if_neg (by omega)]
  show PR.ok _ _ = PR.ok _ _
  simp only [CT.ix, CT.put, CT.st, CT.toks, CT.fx, CT.ft, h1, Option.getD_some, List.length_cons, List.length_append, List.length_nil]
  congr 2
  omega
 | .over w e i, m, s, hok, hd, ha, hb => by
  obtain ⟨k, h1, h2⟩ := over_get hok.1
  have hw := types_mem (w := w) (by rcases hok.1 with h | h <;> simp [h])
  have hA : AtK L (s.i + 1) (((2, t_lsq, 0) :: (e.toks ++ [(2, t_rsq, 0)])) ++ i.toks) := by
   have : ((2, t_lsq, 0) : Ky) :: (e.toks ++ (2, t_rsq, 0) :: i.toks) = ((2, t_lsq, 0) :: (e.toks ++ [(2, t_rsq, 0)])) ++ i.toks := by simp
   rw [← this]; exact ha.2
  obtain ⟨hA1, hA2⟩ := atK_app.1 hA
  have hl : (CT.over w e i).toks.length = e.toks.length + i.toks.length + 3 := by simp [CT.toks]; omega
  have hlen : s.i + 1 + ((2, t_lsq, 0) :: (e.toks ++ [((2, t_rsq, 0) : Ky)])).length = s.i + 1 + e.toks.length + 2 := by simp; omega
  rw [hlen] at hA2
  have hde : e.dp ≤ m := Nat.le_trans (Nat.le_max_left _ _) hd
  have hdi : i.dp + 1 ≤ m := Nat.le_trans (Nat.le_max_right _ _) hd
  rw [hl, show s.i + (e.toks.length + i.toks.length + 3) = s.i + 1 + e.toks.length + 2 + i.toks.length by omega] at hb
  have hin := inner_of (m := m) (i := i) (s := ⟨s.i + 1 + e.toks.length + 2, s.xs ++ e.flat s.xs.length, s.ts⟩) (CT.starts i hok.2.2 hA2) (fun m' hm => kd_ok i m' _ hok.2.2 (by omega) hA2 hb) (by omega)
  rw [kindM_eq, kindF_word ha.1 (words_key _ hw) (starts_word ha.1 hw), word_sized h1, and_ok (bracket_ok hok.2.1 hde (s := { s with i := s.i + 1 }) hA1), if_pos h2]
  refine (and_ok hin).trans ?_
  show PR.ok _ _ = PR.ok _ _
  have hp := i.st_pos
  simp only [CT.ix, CT.put, CT.st, hl, CT.fx, CT.ft, h1, Option.getD_some, List.length_append, CE.flat_len, CT.ft_len, List.append_assoc]
  congr 2
  all_goals omega
 | .rest i, m, s, hok, hd, ha, hb => by
  have hl : (CT.rest i).toks.length = i.toks.length + 1 := rfl
  rw [hl, show s.i + (i.toks.length + 1) = s.i + 1 + i.toks.length by omega] at hb
  have hdi : i.dp + 1 ≤ m := hd
  have hin := inner_of (m := m) (i := i) (s := { s with i := s.i + 1 }) (CT.starts i hok ha.2) (fun m' hm => kd_ok i m' _ hok (by omega) ha.2 hb) (by omega)
  rw [kindM_eq, kindF_word ha.1 (by decide +kernel) (starts_word ha.1 (by decide))]
  have hw : wordM L m (kdP L m) w_rest = (innerM L m (kdP L m) >>= fun i => layM { tyP 6 with inn := i }) := by
   unfold wordM
   rw [show sizedV w_rest = Option.none by decide]
   dsimp only
   rw [if_pos rfl]
  rw [hw]
  refine (and_ok hin).trans ?_
  show PR.ok _ _ = PR.ok _ _
  have hp := i.st_pos
  simp only [CT.ix, CT.put, CT.st, hl, CT.fx, CT.ft, List.length_append, CT.ft_len, List.append_assoc]
  congr 2
  all_goals omega
 | .tail, m, s, hok, hd, ha, hb => by
  rw [kindM_eq, kindF_word ha.1 (by decide +kernel) (starts_word ha.1 (by decide))]
  have hw : wordM L m (kdP L m) w_tail = layM (tyP 4) := by
   unfold wordM
   rw [show sizedV w_tail = Option.none by decide]
   dsimp only
   rw [if_neg (by decide), if_pos rfl]
  rw [hw]
  simp [layM, CT.ix, CT.put, CT.st, CT.toks, CT.fx, CT.ft]
 | .none, m, s, hok, hd, ha, hb => by
  rw [kindM_eq, kindF_word ha.1 (by decide +kernel) (starts_word ha.1 (by decide))]
  have hw : wordM L m (kdP L m) w_none = layM (tyP 11) := by
   unfold wordM
   rw [show sizedV w_none = Option.none by decide]
   dsimp only
   rw [if_neg (by decide), if_neg (by decide), if_pos rfl]
  rw [hw]
  simp [layM, CT.ix, CT.put, CT.st, CT.toks, CT.fx, CT.ft]
 | .arr (.int w) e, m, s, hok, hd, ha, hb => by
  obtain ⟨hob, hoe, -⟩ := hok
  obtain ⟨g1, g2, g3, g4, g5⟩ := ints_sized hob
  obtain ⟨ha1, ha2⟩ := atK_app.1 ha
  have hde : e.dp ≤ m := Nat.le_trans (Nat.le_max_right _ _) hd
  rw [kindM_eq, kindF_word ha1.1 (ints_key hob) (CT.starts (.int w) hob ha1)]
  unfold wordM
  rw [g1]
  dsimp only
  rw [if_neg g2, if_neg g3, if_neg g4, if_neg g5, array_yes hoe hde (s := { s with i := s.i + 1 }) ha2]
  simp only [CT.ix, CT.put, CT.st, CT.sx, CT.toks, CT.fx, CT.ft, List.nil_append, List.length_cons, List.length_append, List.length_nil, List.append_assoc, List.singleton_append, Nat.add_zero]
  congr 2
  omega
 | .arr (.ref nm args) e, m, s, hok, hd, ha, hb => by
  obtain ⟨hob, hoe, -⟩ := hok
  obtain ⟨ha1, ha2⟩ := atK_app.1 ha
  have hdb : dpL args ≤ m := Nat.le_trans (Nat.le_max_left _ _) hd
  have hde : e.dp ≤ m := Nat.le_trans (Nat.le_max_right _ _) hd
  have e1 : namedV L s.i = true := by rw [namedV_key ha1.1, hob.1]; rfl
  rw [kindM_eq]
  unfold kindF
  rw [atY (p := (namedV L ·)) e1, and_ok (ref_ok hob hdb ha1 (by rw [isV_key ha2.1]; decide)), array_yes hoe hde ha2]
  simp only [CT.ix, CT.put, CT.st, CT.sx, CT.fx, CT.ft, flatL_len, List.length_append, List.append_assoc, List.singleton_append]
  congr 2
  simp only [CT.toks, List.length_append, List.length_cons, List.length_nil]
  omega
 | .arr (.sized _ _) _, _, _, hok, _, _, _ => hok.2.2.elim
 | .arr (.over _ _ _) _, _, _, hok, _, _, _ => hok.2.2.elim
 | .arr (.rest _) _, _, _, hok, _, _, _ => hok.2.2.elim
 | .arr .tail _, _, _, hok, _, _, _ => hok.2.2.elim
 | .arr .none _, _, _, hok, _, _, _ => hok.2.2.elim
 | .arr (.arr _ _) _, _, _, hok, _, _, _ => hok.2.2.elim
 | .arr (.switch _ _) _, _, _, hok, _, _, _ => hok.2.2.elim
 | .switch e cs, m, s, hok, hd, ha, hb => by
  obtain ⟨hoe, hoc, hnum⟩ := hok
  have hde : e.dp ≤ m := Nat.le_trans (Nat.le_max_left _ _) hd
  have hdc : cs.dp ≤ m := Nat.le_trans (Nat.le_max_right _ _) hd
  have k1 := ha.2.1
  obtain ⟨a1, k2, k3, a2⟩ := atK_app.1 ha.2.2
  obtain ⟨a3, k4, -⟩ := atK_app.1 a2
  have e1 : isV L (s.i + 1) t_lpar = true := by rw [isV_key k1]; rfl
  have e2 : isV L (s.i + 1 + 1 + e.toks.length) t_rpar = true := by rw [isV_key k2]; rfl
  have e3 : isV L (s.i + 1 + 1 + e.toks.length + 1) t_lcur = true := by rw [isV_key k3]; rfl
  have e4 : isV L (s.i + 1 + 1 + e.toks.length + 1 + 1 + cs.toks.length) t_rcur = true := by rw [isV_key k4]; rfl
  rw [kindM_eq, kindF_word ha.1 (by decide +kernel) (starts_word ha.1 (by decide))]
  have hw : wordM L m (kdP L m) w_switch = choiceM L m (kdP L m) := by
   unfold wordM
   rw [show sizedV w_switch = Option.none by decide]
   dsimp only
   rw [if_neg (by decide), if_neg (by decide), if_neg (by decide), if_pos rfl]
  rw [hw]
  unfold choiceM
  rw [take_ok (s := { s with i := s.i + 1 }) e1]
  refine (and_ok (rd_ok hoe hde (s := { s with i := s.i + 1 + 1 }) a1 (stop_key k2 (by decide +kernel)))).trans ((take_ok e2).trans ((take_ok (s := { e.put { s with i := s.i + 1 + 1 } with i := s.i + 1 + 1 + e.toks.length + 1 }) e3).trans ?_))
  have h := cs_ok cs m (L.length - (s.i + 1 + 1 + e.toks.length + 1 + 1) + 1) [] ⟨s.i + 1 + 1 + e.toks.length + 1 + 1, s.xs ++ e.flat s.xs.length, s.ts⟩ (fun cs k => takeM L t_rcur >>= fun _ => layM { tyP 9 with ex := e.ix s.xs.length, inn := k, cases := cs }) hoc hdc (by simpa using hnum) a3 k4 (by show L.length < s.i + 1 + 1 + e.toks.length + 1 + 1 + (L.length - (s.i + 1 + 1 + e.toks.length + 1 + 1) + 1); omega)
  refine Eq.trans ?_ (h.trans ((take_ok (s := cs.put ⟨s.i + 1 + 1 + e.toks.length + 1 + 1, s.xs ++ e.flat s.xs.length, s.ts⟩) e4).trans ?_))
  ·rfl
  ·show PR.ok _ _ = PR.ok _ _
   simp only [CS.put, CT.ix, CT.put, CT.st, CT.fx, CT.ft, List.length_append, CE.flat_len, CS.ft_len, List.append_assoc, List.nil_append]
   congr 2
   all_goals first | omega | (simp only [CT.toks, List.length_append, List.length_cons, List.length_nil]; omega)
theorem cs_ok {β : Type} : ∀ (c : CS) (m n : Nat) (acc : List CA) (s : PS) (F : List CA → Int → PM β), c.ok → c.dp ≤ m → acc.length + c.num ≤ 64 → AtK L s.i c.toks → (tk L (s.i + c.toks.length)).key = (2, t_rcur, 0) → L.length < s.i + n →
  (casesN L m (kdP L m) n acc >>= fun cs => elseM L m (kdP L m) >>= fun k => F cs k) s = F (acc ++ c.cases s.ts.length) (c.inn s.ts.length) (c.put s)
 | .fin, m, n, acc, s, F, hok, hd, hl, ha, hk, hn => by
  have hk : (tk L s.i).key = (2, t_rcur, 0) := hk
  have e1 : isV L s.i w_case = false := by rw [isV_key hk]; decide
  have e2 : isV L s.i w_else = false := by rw [isV_key hk]; decide
  have hc : casesN L m (kdP L m) n acc s = .ok acc s := by
   cases n with
   | zero => rfl
   | succ n => exact atN (p := (isV L · w_case)) e1
  rw [and_ok hc, and_ok (show elseM L m (kdP L m) s = .ok (-1) s from atN (p := (isV L · w_else)) e2)]
  simp [CS.cases, CS.inn, CS.put, CS.toks, CS.fx, CS.ft]
 | .els i, m, n, acc, s, F, hok, hd, hl, ha, hk, hn => by
  have e1 : isV L s.i w_case = false := by rw [isV_key ha.1]; decide
  have e2 : isV L s.i w_else = true := by rw [isV_key ha.1]; decide
  have e3 : isV L (s.i + 1) t_colon = true := by rw [isV_key ha.2.1]; decide
  have hc : casesN L m (kdP L m) n acc s = .ok acc s := by
   cases n with
   | zero => rfl
   | succ n => exact atN (p := (isV L · w_case)) e1
  obtain ⟨a1, k1, -⟩ := atK_app.1 ha.2.2
  have hdi : i.dp + 1 ≤ m := hd
  have hin := inner_of (m := m) (i := i) (s := { s with i := s.i + 1 + 1 }) (CT.starts i hok a1) (fun m' hm => kd_ok i m' _ hok (by omega) a1 (br_semi k1 (by decide) (by decide))) (by omega)
  have e4 : isV L (s.i + 1 + 1 + i.toks.length) t_semi = true := by rw [isV_key k1]; decide
  have he : elseM L m (kdP L m) s = .ok (i.ix s.ts.length) ((CS.els i).put s) := by
   unfold elseM
   rw [atY (p := (isV L · w_else)) e2, pstep_ok, take_ok (s := { s with i := s.i + 1 }) e3]
   refine (and_ok hin).trans ((take_ok e4).trans ?_)
   show PR.ok _ _ = PR.ok _ _
   simp only [CT.put, CS.put, CS.toks, CS.fx, CS.ft, List.length_cons, List.length_append, List.length_nil]
   congr 2
   omega
  rw [and_ok hc, and_ok he]
  simp only [CS.cases, CS.inn, List.append_nil]
 | .case t q i r, m, n, acc, s, F, hok, hd, hl, ha, hk, hn => by
  obtain ⟨-, hoi, hor⟩ := hok
  have hnum : (CS.case t q i r).num = r.num + 1 := rfl
  have e1 : isV L s.i w_case = true := by rw [isV_key ha.1]; decide
  have k1 := ha.2.1
  have e2 : isV L (s.i + 1 + 1) t_colon = true := by rw [isV_key ha.2.2.1]; decide
  obtain ⟨a1, k2, a2⟩ := atK_app.1 ha.2.2.2
  have hdi : i.dp + 1 ≤ m := Nat.le_trans (Nat.le_max_left _ _) hd
  have hdr : r.dp ≤ m := Nat.le_trans (Nat.le_max_right _ _) hd
  have hin := inner_of (m := m) (i := i) (s := { s with i := s.i + 1 + 1 + 1 }) (CT.starts i hoi a1) (fun m' hm => kd_ok i m' _ hoi (by omega) a1 (br_semi k2 (by decide) (by decide))) (by omega)
  have e4 : isV L (s.i + 1 + 1 + 1 + i.toks.length) t_semi = true := by rw [isV_key k2]; decide
  have hi : s.i < L.length := by
   by_cases hi : s.i < L.length
   ·exact hi
   ·have := ha.1
    rw [tk_out (by omega)] at this; cases this
  obtain ⟨n, rfl⟩ : ∃ n', n = n' + 1 := ⟨n - 1, by omega⟩
  have hlen : (CS.case t q i r).toks.length = i.toks.length + r.toks.length + 4 := by simp [CS.toks]; omega
  have hc : ∀ G : List CA → PM β, (casesN L m (kdP L m) (n + 1) acc >>= G) s = (casesN L m (kdP L m) n (acc ++ [⟨q, i.ix s.ts.length⟩]) >>= G) ⟨s.i + 1 + 1 + 1 + i.toks.length + 1, s.xs ++ i.fx s.xs.length, s.ts ++ i.ft s.xs.length s.ts.length⟩ := fun G => by
   refine bind_at' ?_
   show atM (isV L · w_case) _ _ s = _
   rw [atY (p := (isV L · w_case)) e1, room_lt (by rw [hnum] at hl; omega), pstep_ok, number_ok (s := { s with i := s.i + 1 }) k1, take_ok (s := { s with i := s.i + 1 + 1 }) e2]
   exact (and_ok hin).trans (take_ok e4)
  rw [hc]
  have ih := cs_ok r m n (acc ++ [⟨q, i.ix s.ts.length⟩]) ⟨s.i + 1 + 1 + 1 + i.toks.length + 1, s.xs ++ i.fx s.xs.length, s.ts ++ i.ft s.xs.length s.ts.length⟩ F hor hdr (by rw [List.length_append, List.length_singleton]; rw [hnum] at hl; omega) a2 (by
   rw [hlen] at hk
   show (tk L (s.i + 1 + 1 + 1 + i.toks.length + 1 + r.toks.length)).key = _
   rw [show s.i + 1 + 1 + 1 + i.toks.length + 1 + r.toks.length = s.i + (i.toks.length + r.toks.length + 4) by omega]
   exact hk) (by show L.length < s.i + 1 + 1 + 1 + i.toks.length + 1 + n; omega)
  rw [ih]
  simp only [CS.put, CS.cases, CS.inn, CS.fx, CS.ft, hlen, List.length_append, CT.fx_len, CT.ft_len, List.append_assoc, List.singleton_append]
  congr 2
  omega
end
end
end Go.Proofs.YtidnlfkakhmadaaGreatDoor

namespace Go.Proofs.YtidnlfkakhmadaaGreatDoor

section
variable {L : List TokP} [LexT L]
theorem word0_key {i : Nat} (h : (tk L i).k = 0) : (tk L i).key = (0, (tk L i).t, 0) := by
 rcases LexT.h (L := L) i with e | ⟨-, -, r, hr⟩
 ·have := congrArg Prod.fst e
  exact absurd (this.symm.trans h) (by decide)
 ·rw [h] at hr
  rcases tokF_cases hr with ⟨h1, -⟩ | ⟨h1, -⟩ | ⟨-, h2, -⟩
  ·cases h1
  ·cases h1
  ·unfold TokP.key; rw [h, h2]
theorem bracket_inv {m : Nat} {s s' : PS} {v : Int} (h : bracketM L m s = .ok v s') : ∃ e : CE, e.ok ∧ e.dp ≤ m ∧ AtK L s.i ((2, t_lsq, 0) :: (e.toks ++ [(2, t_rsq, 0)])) ∧ v = e.ix s.xs.length ∧ s' = ⟨s.i + e.toks.length + 2, s.xs ++ e.flat s.xs.length, s.ts⟩ := by
 unfold bracketM at h
 obtain ⟨e1, h⟩ := take_inv h
 obtain ⟨u, s1, h1, h2⟩ := mo_inv h
 obtain ⟨e, a1, a2, a3, a4, rfl, rfl⟩ := sd_expr m _ _ _ h1
 obtain ⟨e2, h3⟩ := take_inv h2
 cases h3
 refine ⟨e, a1, a3, ⟨isV_sign e1 (by decide), atK_app.2 ⟨a4, isV_sign e2 (by decide), trivial⟩⟩, rfl, ?_⟩
 unfold CE.put
 congr 1
 show s.i + 1 + e.toks.length + 1 = _
 omega
theorem array_inv {m : Nat} {t : TY} {s s' : PS} {v : Int} (h : arrayM L m t s = .ok v s') : (v = s.ts.length ∧ s' = { s with ts := s.ts ++ [t] }) ∨
  ∃ e : CE, e.ok ∧ e.dp ≤ m ∧ AtK L s.i ((2, t_lsq, 0) :: (e.toks ++ [(2, t_rsq, 0)])) ∧ v = (s.ts.length + 1 : Nat) ∧ s' = ⟨s.i + e.toks.length + 2, s.xs ++ e.flat s.xs.length, s.ts ++ [t] ++ [{ tyP 5 with ex := e.ix s.xs.length, inn := s.ts.length }]⟩ := by
 cases hb : isV L s.i t_lsq with
 | false => rw [array_no hb] at h; cases h; exact .inl ⟨rfl, rfl⟩
 | true =>
  right
  unfold arrayM at h
  have h : atM (isV L · t_lsq) (bracketM L m >>= fun x => layM { tyP 5 with ex := x, inn := s.ts.length }) (pure (s.ts.length : Int)) ({ s with ts := s.ts ++ [t] } : PS) = .ok v s' := h
  rw [atY (p := (isV L · t_lsq)) (s := { s with ts := s.ts ++ [t] }) hb] at h
  obtain ⟨u, s1, h1, h2⟩ := mo_inv h
  obtain ⟨e, a1, a2, a3, rfl, rfl⟩ := bracket_inv h1
  cases h2
  refine ⟨e, a1, a2, a3, ?_, rfl⟩
  simp only [List.length_append, List.length_singleton]
theorem roomIf_inv {α : Type} {n : Nat} {p : Nat → Bool} {f : Unit → PM α} {s s' : PS} {v : α} (h : ((fun s => if p s.i = true then roomM n s else .ok () s : PM Unit) >>= f) s = .ok v s') : (p s.i = true → n < 64) ∧ f () s = .ok v s' := by
 obtain ⟨u, s1, h1, h2⟩ := mo_inv h
 have h1 : (if p s.i = true then roomM n s else .ok () s) = .ok u s1 := h1
 by_cases hp : p s.i = true
 ·rw [if_pos hp] at h1
  unfold roomM at h1
  split at h1
  ·cases h1
  ·cases h1; exact ⟨fun _ => by omega, h2⟩
 ·rw [if_neg hp] at h1
  cases h1
  exact ⟨fun h => absurd h hp, h2⟩
theorem args_inv {m : Nat} : ∀ (n : Nat) (acc : List Int) (s s' : PS) (v : List Int), acc.length ≤ 64 → argsN L m n acc s = .ok v s' →
  ∃ l : List CE, okL l ∧ dpL l ≤ m ∧ acc.length + l.length ≤ 64 ∧ AtK L s.i (toksL l) ∧ v = acc ++ ixL l s.xs.length ∧ s' = ⟨s.i + (toksL l).length, s.xs ++ flatL l s.xs.length, s.ts⟩
 | 0, acc, s, s', v, hl, h => by
  cases h
  exact ⟨[], fun c hc => (by cases hc), Nat.zero_le _, hl, trivial, by simp [ixL], by simp [toksL, flatL]⟩
 | n + 1, acc, s, s', v, hl, h => by
  have h : atM (isV L · t_comma) _ _ s = _ := h
  cases hb : isV L s.i t_comma with
  | false =>
   rw [atN (p := (isV L · t_comma)) hb] at h
   cases h
   exact ⟨[], fun c hc => (by cases hc), Nat.zero_le _, hl, trivial, by simp [ixL], by simp [toksL, flatL]⟩
  | true =>
   rw [atY (p := (isV L · t_comma)) hb, pstep_ok] at h
   obtain ⟨hr, h⟩ := roomIf_inv (p := (beginsV L ·)) h
   obtain ⟨u, s1, h1, h2⟩ := mo_inv h
   obtain ⟨c, a1, a2, a3, a4, rfl, rfl⟩ := sd_expr m _ _ _ h1
   have hlt := hr (c.begins a1 a4)
   obtain ⟨l, b1, b2, b3, b4, rfl, rfl⟩ := args_inv n _ _ _ _ (by rw [List.length_append, List.length_singleton]; omega) h2
   refine ⟨c :: l, fun d hd => ?_, Nat.max_le.2 ⟨a3, b2⟩, by rw [List.length_append, List.length_singleton] at b3; rw [List.length_cons]; omega, ⟨isV_sign hb (by decide), atK_app.2 ⟨a4, b4⟩⟩, ?_, ?_⟩
   ·rcases List.mem_cons.1 hd with rfl | hd
    ·exact a1
    ·exact b1 d hd
   ·unfold CE.put
    simp only [List.length_append, CE.flat_len, ixL, List.append_assoc, List.singleton_append]
   ·unfold CE.put
    simp only [List.length_append, CE.flat_len, flatL, toksL, List.length_cons, List.append_assoc]
    congr 1
    omega
theorem ref_inv {m : Nat} {s s' : PS} {t : TY} (h : refM L m s = .ok t s') : ∃ nm args, (CT.ref nm args).ok ∧ dpL args ≤ m ∧ AtK L s.i (CT.ref nm args).toks ∧ t = { tyP 10 with nm := nm, args := ixL args s.xs.length } ∧ s' = ⟨s.i + (CT.ref nm args).toks.length, s.xs ++ flatL args s.xs.length, s.ts⟩ := by
 unfold refM at h
 obtain ⟨w, k1, k2, k3, h⟩ := name_inv h
 cases hb : isV L (s.i + 1) t_lpar with
 | false =>
  rw [atN (p := (isV L · t_lpar)) (s := { s with i := s.i + 1 }) hb] at h
  cases h
  exact ⟨w, [], ⟨k2, k3, fun c hc => (by cases hc), Nat.zero_le _⟩, Nat.zero_le _, ⟨k1, trivial⟩, rfl, by simp [CT.toks, argT, flatL]⟩
 | true =>
  rw [atY (p := (isV L · t_lpar)) (s := { s with i := s.i + 1 }) hb, pstep_ok] at h
  obtain ⟨u, s1, h1, h2⟩ := mo_inv h
  obtain ⟨c, a1, a2, a3, a4, rfl, rfl⟩ := sd_expr m _ _ _ h1
  obtain ⟨v, s2, h3, h4⟩ := mo_inv h2
  obtain ⟨l, b1, b2, b3, b4, rfl, rfl⟩ := args_inv _ _ _ _ _ (by show 1 ≤ 64; decide) h3
  obtain ⟨e2, h5⟩ := take_inv h4
  cases h5
  refine ⟨w, c :: l, ⟨k2, k3, fun d hd => ?_, by rw [List.length_cons]; have : 1 + l.length ≤ 64 := b3; omega⟩, Nat.max_le.2 ⟨a3, b2⟩, ⟨k1, isV_sign hb (by decide), atK_app.2 ⟨a4, atK_app.2 ⟨b4, isV_sign e2 (by decide), trivial⟩⟩⟩, ?_, ?_⟩
  ·rcases List.mem_cons.1 hd with rfl | hd
   ·exact a1
   ·exact b1 d hd
  ·unfold CE.put
   simp only [List.length_append, CE.flat_len, ixL, List.singleton_append]
  ·unfold CE.put
   simp only [List.length_append, CE.flat_len, flatL, CT.toks, argT, List.length_cons, List.length_nil, List.append_assoc]
   congr 1
   omega
omit [LexT L] in
theorem word_none {m : Nat} {kd : PM Int} {w : List UInt8} (h : sizedV w = none) : wordM L m kd w = (if w = w_rest then innerM L m kd >>= fun i => layM { tyP 6 with inn := i } else
  if w = w_tail then layM (tyP 4) else
  if w = w_none then layM (tyP 11) else
  if w = w_switch then choiceM L m kd else
  arrayM L m { tyP 0 with size := ((integerV w).getD (0, false)).1, little := ((integerV w).getD (0, false)).2 }) := by
 unfold wordM
 rw [h]
def SdK (L : List TokP) (m : Nat) (x : PM Int) : Prop := ∀ s v s', x s = .ok v s' → ∃ c : CT, c.ok ∧ c.dp ≤ m ∧ AtK L s.i c.toks ∧ v = c.ix s.ts.length ∧ s' = c.put s
section
variable {m : Nat} {kd : PM Int} (hk : ∀ m', m = m' + 1 → SdK L m' kd)
include hk
omit [LexT L] in
theorem inner_inv {s s' : PS} {v : Int} (h : innerM L m kd s = .ok v s') : ∃ c : CT, c.ok ∧ c.dp + 1 ≤ m ∧ AtK L s.i c.toks ∧ v = c.ix s.ts.length ∧ s' = c.put s := by
 unfold innerM at h
 obtain ⟨m', hm, -, h⟩ := enter_inv (p := (startsV L ·)) h
 obtain ⟨c, a1, a2, a3⟩ := hk m' hm _ _ _ h
 exact ⟨c, a1, by omega, a3⟩
theorem else_inv {s s' : PS} {v : Int} (h : elseM L m kd s = .ok v s') : ∃ c : CS, c.num = 0 ∧ c.ok ∧ c.dp ≤ m ∧ AtK L s.i c.toks ∧ (∀ p, c.cases p = []) ∧ v = c.inn s.ts.length ∧ s' = c.put s := by
 unfold elseM at h
 cases hb : isV L s.i w_else with
 | false =>
  rw [atN (p := (isV L · w_else)) hb] at h
  cases h
  exact ⟨.fin, rfl, trivial, Nat.zero_le _, trivial, fun _ => rfl, rfl, by simp [CS.put, CS.toks, CS.fx, CS.ft]⟩
 | true =>
  rw [atY (p := (isV L · w_else)) hb, pstep_ok] at h
  obtain ⟨e1, h⟩ := take_inv h
  obtain ⟨u, s1, h1, h2⟩ := mo_inv h
  obtain ⟨c, a1, a2, a3, rfl, rfl⟩ := inner_inv hk h1
  obtain ⟨e2, h3⟩ := take_inv h2
  cases h3
  refine ⟨.els c, rfl, a1, a2, ⟨isV_word hb (by decide) (by decide), isV_sign e1 (by decide), atK_app.2 ⟨a3, isV_sign e2 (by decide), trivial⟩⟩, fun _ => rfl, rfl, ?_⟩
  simp only [CS.put, CT.put, CS.toks, CS.fx, CS.ft, List.length_cons, List.length_append, List.length_nil]
  congr 1
  omega
theorem cases_inv : ∀ (n : Nat) (acc : List CA) (s s1 s' : PS) (l : List CA) (v : Int), acc.length ≤ 64 → casesN L m kd n acc s = .ok l s1 → elseM L m kd s1 = .ok v s' →
  ∃ c : CS, c.ok ∧ c.dp ≤ m ∧ acc.length + c.num ≤ 64 ∧ AtK L s.i c.toks ∧ l = acc ++ c.cases s.ts.length ∧ v = c.inn s.ts.length ∧ s' = c.put s
 | 0, acc, s, s1, s', l, v, hl, h, h2 => by
  cases h
  obtain ⟨c, a0, a1, a2, a3, a4, a5, a6⟩ := else_inv hk h2
  exact ⟨c, a1, a2, by omega, a3, by rw [a4, List.append_nil], a5, a6⟩
 | n + 1, acc, s, s1, s', l, v, hl, h, h2 => by
  have h : atM (isV L · w_case) _ _ s = _ := h
  cases hb : isV L s.i w_case with
  | false =>
   rw [atN (p := (isV L · w_case)) hb] at h
   cases h
   obtain ⟨c, a0, a1, a2, a3, a4, a5, a6⟩ := else_inv hk h2
   exact ⟨c, a1, a2, by omega, a3, by rw [a4, List.append_nil], a5, a6⟩
  | true =>
   rw [atY (p := (isV L · w_case)) hb] at h
   obtain ⟨hr, h⟩ := room_inv h
   rw [pstep_ok] at h
   obtain ⟨t, q, k1, k2, h⟩ := number_inv h
   obtain ⟨e1, h⟩ := take_inv h
   obtain ⟨u, s2, h3, h4⟩ := mo_inv h
   obtain ⟨i, a1, a2, a3, rfl, rfl⟩ := inner_inv hk h3
   obtain ⟨e2, h5⟩ := take_inv h4
   obtain ⟨r, b1, b2, b3, b4, rfl, rfl, rfl⟩ := cases_inv n _ _ _ _ _ _ (by rw [List.length_append, List.length_singleton]; omega) h5 h2
   refine ⟨.case t q i r, ⟨k2, a1, b1⟩, Nat.max_le.2 ⟨a2, b2⟩, ?_, ⟨isV_word hb (by decide) (by decide), k1, isV_sign e1 (by decide), atK_app.2 ⟨a3, isV_sign e2 (by decide), b4⟩⟩, ?_, ?_, ?_⟩
   ·show acc.length + (r.num + 1) ≤ 64
    rw [List.length_append, List.length_singleton] at b3
    omega
   ·simp only [CT.put, CS.cases, List.length_append, CT.ft_len, List.append_assoc, List.singleton_append]
   ·simp only [CT.put, CS.inn, List.length_append, CT.ft_len]
   ·simp only [CS.put, CT.put, CS.toks, CS.fx, CS.ft, List.length_cons, List.length_append, CT.fx_len, CT.ft_len, List.append_assoc]
    congr 1
    omega
theorem choice_inv {s s' : PS} {v : Int} (h : choiceM L m kd s = .ok v s') (hs : (tk L (s.i - 1)).key = (0, w_switch, 0)) (h0 : 0 < s.i) : ∃ c : CT, c.ok ∧ c.dp ≤ m ∧ AtK L (s.i - 1) c.toks ∧ v = c.ix s.ts.length ∧ s' = c.put { s with i := s.i - 1 } := by
 unfold choiceM at h
 obtain ⟨e1, h⟩ := take_inv h
 obtain ⟨u, s1, h1, h⟩ := mo_inv h
 obtain ⟨e, a1, a2, a3, a4, rfl, rfl⟩ := sd_expr m _ _ _ h1
 obtain ⟨e2, h⟩ := take_inv h
 obtain ⟨e3, h⟩ := take_inv h
 obtain ⟨l, s2, h2, h⟩ := mo_inv h
 obtain ⟨k, s3, h3, h⟩ := mo_inv h
 obtain ⟨c, b1, b2, b3, b4, rfl, rfl, rfl⟩ := cases_inv hk _ _ _ _ _ _ _ (by show 0 ≤ 64; decide) h2 h3
 obtain ⟨e4, h⟩ := take_inv h
 cases h
 have hi : s.i - 1 + 1 = s.i := by omega
 refine ⟨.switch e c, ⟨a1, b1, by have : 0 + c.num ≤ 64 := b3; omega⟩, Nat.max_le.2 ⟨a3, b2⟩, ⟨hs, ?_⟩, ?_, ?_⟩
 ·rw [hi]
  exact ⟨isV_sign e1 (by decide), atK_app.2 ⟨a4, isV_sign e2 (by decide), isV_sign e3 (by decide), atK_app.2 ⟨b4, isV_sign e4 (by decide), trivial⟩⟩⟩
 ·simp only [CE.put, CS.put, CT.ix, CT.st, List.length_append, CS.ft_len]
  omega
 ·simp only [CE.put, CS.put, CT.put, CT.toks, CT.fx, CT.ft, List.length_cons, List.length_append, List.length_nil, CE.flat_len, CS.ft_len, List.append_assoc, List.nil_append]
  congr 1
  omega
theorem sd_kindF : SdK L m (kindF L m kd) := fun s v s' h => by
 unfold kindF at h
 cases hn : namedV L s.i with
 | true =>
  rw [atY (p := (namedV L ·)) hn] at h
  obtain ⟨t, s1, h1, h2⟩ := mo_inv h
  obtain ⟨nm, args, a1, a2, a3, rfl, rfl⟩ := ref_inv h1
  rcases array_inv h2 with ⟨rfl, rfl⟩ | ⟨e, b1, b2, b3, rfl, rfl⟩
  ·exact ⟨.ref nm args, a1, a2, a3, by simp [CT.ix, CT.st], by simp [CT.put, CT.fx, CT.ft]⟩
  ·refine ⟨.arr (.ref nm args) e, ⟨a1, b1, trivial⟩, Nat.max_le.2 ⟨a2, b2⟩, atK_app.2 ⟨a3, b3⟩, by simp only [CT.ix, CT.st]; omega, ?_⟩
   simp only [CT.put, CT.fx, CT.ft, CT.sx, CT.ix, CT.st, flatL_len, List.length_append, List.append_assoc, List.singleton_append]
   congr 1
   simp only [CT.toks, List.length_cons, List.length_append, List.length_nil]
   omega
 | false =>
  rw [atN (p := (namedV L ·)) hn] at h
  cases hs : startsV L s.i with
  | false =>
   replace h := (atN (p := (startsV L ·)) hs).symm.trans h
   cases h
  | true =>
   replace h := (atY (p := (startsV L ·)) hs).symm.trans h
   replace h : (stepM >>= fun _ => wordM L m kd (tk L s.i).t) s = .ok v s' := h
   rw [pstep_ok] at h
   have hs' := hs
   unfold startsV at hs'
   rw [hn, Bool.false_or] at hs'
   simp only [Bool.and_eq_true, decide_eq_true_eq] at hs'
   have hkey := word0_key hs'.1
   have hor := hs'.2
   generalize (tk L s.i).t = w at *
   rcases hsz : sizedV w with _ | k
   rotate_left
   ·rw [word_sized hsz] at h
    obtain ⟨x, s1, h1, h2⟩ := mo_inv h
    obtain ⟨e, a1, a2, a3, rfl, rfl⟩ := bracket_inv h1
    have hw : (k = 7 ∨ k = 8) ∧ (w = w_window ∨ w = w_at) ∨ ¬ (k = 7 ∨ k = 8) ∧ (w = w_bytes ∨ w = w_zero ∨ w = w_skip) := by
     unfold sizedV at hsz
     split at hsz
     ·rename_i e; injection hsz with hsz; subst hsz; exact .inr ⟨by decide, .inl e⟩
     split at hsz
     ·rename_i e; injection hsz with hsz; subst hsz; exact .inr ⟨by decide, .inr (.inl e)⟩
     split at hsz
     ·rename_i e; injection hsz with hsz; subst hsz; exact .inr ⟨by decide, .inr (.inr e)⟩
     split at hsz
     ·rename_i e; injection hsz with hsz; subst hsz; exact .inl ⟨by decide, .inl e⟩
     split at hsz
     ·rename_i e; injection hsz with hsz; subst hsz; exact .inl ⟨by decide, .inr e⟩
     ·cases hsz
    rcases hw with ⟨hk7, hw⟩ | ⟨hk7, hw⟩
    ·rw [if_pos hk7] at h2
     obtain ⟨j, s2, h3, h4⟩ := mo_inv h2
     obtain ⟨i, b1, b2, b3, rfl, rfl⟩ := inner_inv hk h3
     cases h4
     have hlen : (CT.over w e i).toks.length = e.toks.length + i.toks.length + 3 := by simp [CT.toks]; omega
     refine ⟨.over w e i, ⟨hw, a1, b1⟩, Nat.max_le.2 ⟨a2, b2⟩, ?_, ?_, ?_⟩
     ·have e1 : (CT.over w e i).toks = (0, w, 0) :: (((2, t_lsq, 0) :: (e.toks ++ [(2, t_rsq, 0)])) ++ i.toks) := by simp [CT.toks]
      rw [e1]
      refine ⟨hkey, atK_app.2 ⟨a3, ?_⟩⟩
      have e2 : s.i + 1 + ((2, t_lsq, 0) :: (e.toks ++ [((2, t_rsq, 0) : Ky)])).length = s.i + 1 + e.toks.length + 2 := by simp; omega
      rw [e2]; exact b3
     ·simp only [CT.put, CT.ix, CT.st, List.length_append, CT.ft_len]
      omega
     ·simp only [CT.put, CT.fx, CT.ft, hlen, hsz, Option.getD_some, CE.flat_len, List.length_append, List.append_assoc]
      congr 1
      omega
    ·rw [if_neg hk7] at h2
     cases h2
     refine ⟨.sized w e, ⟨hw, a1⟩, a2, ⟨hkey, a3⟩, by simp [CT.ix, CT.st], ?_⟩
     simp only [CT.put, CT.fx, CT.ft, CT.toks, hsz, Option.getD_some, List.length_cons, List.length_append, List.length_nil]
     congr 1
     omega
   ·rw [word_none hsz] at h
    split at h
    ·rename_i e
     subst e
     obtain ⟨j, s2, h3, h4⟩ := mo_inv h
     obtain ⟨i, b1, b2, b3, rfl, rfl⟩ := inner_inv hk h3
     cases h4
     refine ⟨.rest i, b1, b2, ⟨hkey, b3⟩, ?_, ?_⟩
     ·simp only [CT.put, CT.ix, CT.st, List.length_append, CT.ft_len]
      omega
     ·simp only [CT.put, CT.fx, CT.ft, CT.toks, List.length_cons, List.append_assoc]
      congr 1
      omega
    split at h
    ·rename_i e
     subst e
     cases h
     exact ⟨.tail, trivial, Nat.zero_le _, ⟨hkey, trivial⟩, by simp [CT.ix, CT.st], by simp [CT.put, CT.fx, CT.ft, CT.toks]⟩
    split at h
    ·rename_i e
     subst e
     cases h
     exact ⟨.none, trivial, Nat.zero_le _, ⟨hkey, trivial⟩, by simp [CT.ix, CT.st], by simp [CT.put, CT.fx, CT.ft, CT.toks]⟩
    split at h
    ·rename_i e
     subst e
     exact choice_inv hk (s := { s with i := s.i + 1 }) h hkey (Nat.succ_pos _)
    ·rename_i n1 n2 n3 n4
     have hint : integerV w ≠ none := by
      rcases (Bool.or_eq_true _ _).mp hor with h1 | h1
      ·exfalso
       have hm := List.contains_iff_mem.1 h1
       have : ∀ v ∈ typesL, sizedV v = none → v = w_rest ∨ v = w_tail ∨ v = w_none ∨ v = w_switch := by decide
       rcases this w hm hsz with e | e | e | e <;> contradiction
      ·exact Option.isSome_iff_ne_none.1 h1
     rcases array_inv h with ⟨rfl, rfl⟩ | ⟨e, b1, b2, b3, rfl, rfl⟩
     ·exact ⟨.int w, hint, Nat.zero_le _, ⟨hkey, trivial⟩, by simp [CT.ix, CT.st], by simp [CT.put, CT.fx, CT.ft, CT.toks]⟩
     ·refine ⟨.arr (.int w) e, ⟨hint, b1, trivial⟩, Nat.max_le.2 ⟨Nat.zero_le _, b2⟩, ⟨hkey, b3⟩, by simp only [CT.ix, CT.st]; omega, ?_⟩
      simp only [CT.put, CT.fx, CT.ft, CT.sx, CT.ix, CT.st, CT.toks, List.nil_append, Nat.add_zero, List.length_append, List.length_cons, List.length_nil, List.append_assoc, List.singleton_append]
      congr 1
      omega
end
theorem sd_kind : ∀ m, SdK L m (kindM L m)
 | 0 => sd_kindF (fun _ h => by omega)
 | m + 1 => sd_kindF (fun m' h => by cases h; exact sd_kind m)
end
end Go.Proofs.YtidnlfkakhmadaaGreatDoor

namespace Go.Proofs.YtidnlfkakhmadaaGreatDoor

def NameOk (w : List UInt8) : Prop := keyV w = false ∧ ∃ r, tokF r = .ok 0 w 0
def derW (d : Nat) : List UInt8 := if d = 1 then w_sizeof else if d = 2 then w_countof else if d = 3 then w_crc32 else w_adler32
def derT (d : Nat) (a b : List UInt8) : List Ky :=
 if d = 0 then [] else (2, t_eq, 0) :: (0, derW d, 0) :: (2, t_lpar, 0) :: (0, a, 0) :: (if 3 ≤ d then [(2, t_dots, 0), (0, b, 0), (2, t_rpar, 0)] else [(2, t_rpar, 0)])
def DerOk (d : Nat) (a b : List UInt8) : Prop := (d = 0 ∧ a = [] ∧ b = []) ∨ ((d = 1 ∨ d = 2) ∧ NameOk a ∧ b = []) ∨ ((d = 3 ∨ d = 4) ∧ NameOk a ∧ NameOk b)
def whT : Option CE → List Ky
 | none => []
 | some e => (0, w_where, 0) :: e.toks
structure CSb where
 nm : List UInt8
 t : List UInt8
 n : Nat
def CSb.toks (b : CSb) : List Ky := [(0, b.nm, 0), (2, t_colon, 0), (1, b.t, b.n), (2, t_semi, 0)]
def CSb.ok (b : CSb) : Prop := NameOk b.nm ∧ ∃ r, tokF r = .ok 1 b.t b.n
def CSb.sb (b : CSb) : SB := ⟨b.nm, min b.n 1048576⟩
def subT : List CSb → List Ky
 | [] => []
 | b :: l => b.toks ++ subT l
inductive CI where
 | field (nm : List UInt8) (t : CT) (d : Nat) (a b : List UInt8) (wh : Option CE)
 | pack (w : List UInt8) (l : List CSb)
def CI.toks : CI → List Ky
 | .field nm t d a b wh => (0, nm, 0) :: (2, t_colon, 0) :: (t.toks ++ (derT d a b ++ (whT wh ++ [(2, t_semi, 0)])))
 | .pack w l => (0, w_pack, 0) :: (0, w, 0) :: (2, t_lcur, 0) :: (subT l ++ [(2, t_rcur, 0)])
def CI.sx : CI → Nat
 | .field _ t _ _ _ wh => t.sx + (match wh with | none => 0 | some e => e.sz)
 | .pack _ _ => 0
def CI.st : CI → Nat
 | .field _ t _ _ _ _ => t.st
 | .pack _ _ => 0
def CI.fx : CI → Nat → List EX
 | .field _ t _ _ _ wh, o => t.fx o ++ (match wh with | none => [] | some e => e.flat (o + t.sx))
 | .pack _ _, _ => []
def CI.ft : CI → Nat → Nat → List TY
 | .field _ t _ _ _ _, o, p => t.ft o p
 | .pack _ _, _, _ => []
def CI.it : CI → Nat → Nat → IT
 | .field nm t d a b wh, o, p => ⟨nm, t.ix p, d, a, b, (match wh with | none => -1 | some e => e.ix (o + t.sx)), 0, false, []⟩
 | .pack w l, _, _ => ⟨[], -1, 0, [], [], -1, ((integerV w).getD (0, false)).1, ((integerV w).getD (0, false)).2, l.map CSb.sb⟩
def CI.ok : CI → Prop
 | .field nm t d a b wh => NameOk nm ∧ t.ok ∧ t.dp ≤ 32 ∧ DerOk d a b ∧ ∀ e, wh = some e → e.ok ∧ e.dp ≤ 32
 | .pack w l => integerV w ≠ none ∧ l ≠ [] ∧ l.length ≤ 64 ∧ ∀ b ∈ l, b.ok
theorem CI.fx_len (c : CI) (o : Nat) : (c.fx o).length = c.sx := by
 cases c with
 | field nm t d a b wh => cases wh <;> simp [CI.fx, CI.sx, t.fx_len, CE.flat_len]
 | pack w l => rfl
theorem CI.ft_len (c : CI) (o p : Nat) : (c.ft o p).length = c.st := by
 cases c with
 | field nm t d a b wh => exact t.ft_len o p
 | pack w l => rfl
def CI.put (c : CI) (s : PS) : PS := ⟨s.i + c.toks.length, s.xs ++ c.fx s.xs.length, s.ts ++ c.ft s.xs.length s.ts.length⟩
def itT : List CI → List Ky
 | [] => []
 | c :: l => c.toks ++ itT l
def itX : List CI → Nat → List EX
 | [], _ => []
 | c :: l, o => c.fx o ++ itX l (o + c.sx)
def itY : List CI → Nat → Nat → List TY
 | [], _, _ => []
 | c :: l, o, p => c.ft o p ++ itY l (o + c.sx) (p + c.st)
def itI : List CI → Nat → Nat → List IT
 | [], _, _ => []
 | c :: l, o, p => c.it o p :: itI l (o + c.sx) (p + c.st)
def itSx : List CI → Nat
 | [] => 0
 | c :: l => c.sx + itSx l
def itSt : List CI → Nat
 | [] => 0
 | c :: l => c.st + itSt l
theorem itX_len : ∀ (l : List CI) (o : Nat), (itX l o).length = itSx l
 | [], _ => rfl
 | c :: l, o => by rw [itX, List.length_append, c.fx_len, itX_len l]; rfl
theorem itY_len : ∀ (l : List CI) (o p : Nat), (itY l o p).length = itSt l
 | [], _, _ => rfl
 | c :: l, o, p => by rw [itY, List.length_append, c.ft_len, itY_len l]; rfl
def commaT : List (List UInt8) → List Ky
 | [] => []
 | p :: l => (2, t_comma, 0) :: (0, p, 0) :: commaT l
def parT' : List (List UInt8) → List Ky
 | [] => []
 | p :: l => (2, t_lpar, 0) :: (0, p, 0) :: (commaT l ++ [(2, t_rpar, 0)])
structure CR where
 nm : List UInt8
 ps : List (List UInt8)
 its : List CI
def CR.toks (r : CR) : List Ky := (0, w_struct, 0) :: (0, r.nm, 0) :: (parT' r.ps ++ (2, t_lcur, 0) :: (itT r.its ++ [(2, t_rcur, 0)]))
def CR.ok (r : CR) : Prop := NameOk r.nm ∧ (∀ p ∈ r.ps, NameOk p) ∧ r.ps.length ≤ 64 ∧ r.its.length ≤ 64 ∧ ∀ c ∈ r.its, c.ok
def CR.rc (r : CR) (o p : Nat) : RC := ⟨r.nm, r.ps, itI r.its o p⟩
inductive CD where
 | con (nm t : List UInt8) (n : Nat)
 | str (r : CR)
def CD.toks : CD → List Ky
 | .con nm t n => [(0, w_const, 0), (0, nm, 0), (2, t_eq, 0), (1, t, n), (2, t_semi, 0)]
 | .str r => r.toks
def CD.ok : CD → Prop
 | .con nm t n => NameOk nm ∧ ∃ r, tokF r = .ok 1 t n
 | .str r => r.ok
def dT : List CD → List Ky
 | [] => []
 | d :: l => d.toks ++ dT l
def dC : List CD → List CO
 | [] => []
 | .con nm _ n :: l => ⟨nm, n⟩ :: dC l
 | .str _ :: l => dC l
def dR : List CD → Nat → Nat → List RC
 | [], _, _ => []
 | .con _ _ _ :: l, o, p => dR l o p
 | .str r :: l, o, p => r.rc o p :: dR l (o + itSx r.its) (p + itSt r.its)
def dX : List CD → Nat → List EX
 | [], _ => []
 | .con _ _ _ :: l, o => dX l o
 | .str r :: l, o => itX r.its o ++ dX l (o + itSx r.its)
def dY : List CD → Nat → Nat → List TY
 | [], _, _ => []
 | .con _ _ _ :: l, o, p => dY l o p
 | .str r :: l, o, p => itY r.its o p ++ dY l (o + itSx r.its) (p + itSt r.its)
def DsOk (l : List CD) : Prop := ∀ d ∈ l, d.ok
section
variable {L : List TokP}
theorem name_get {w : List UInt8} (h : NameOk w) {α : Type} {f : List UInt8 → PM α} {s : PS} {n : Nat} (hk : (tk L s.i).key = (0, w, n)) : (nameM L >>= f) s = f w { s with i := s.i + 1 } := name_ok hk h.1
theorem name_named {w : List UInt8} (h : NameOk w) {i n : Nat} (hk : (tk L i).key = (0, w, n)) : namedV L i = true := by rw [namedV_key hk, h.1]; rfl
theorem name_notV {w : List UInt8} (h : NameOk w) {i n : Nat} (hk : (tk L i).key = (0, w, n)) {t : List UInt8} (ht : keyV t = true ∨ t ∈ signsL) : isV L i t = false := by
 rw [isV_key hk]
 have : w ≠ t := fun e => by
  rcases ht with ht | ht
  ·rw [← e, h.1] at ht; cases ht
  ·obtain ⟨-, r, hr⟩ := h
   rcases tokF_cases hr with ⟨h1, -⟩ | ⟨h1, -⟩ | ⟨-, -, -, -, h3⟩
   ·cases h1
   ·cases h1
   ·exact sign_not (e ▸ ht) h3
 dsimp only
 rw [decide_eq_false this, Bool.and_false]
theorem derW_of {d : Nat} (h : d = 1 ∨ d = 2 ∨ d = 3 ∨ d = 4) : derOf (derW d) = d := by
 rcases h with rfl | rfl | rfl | rfl <;> decide
theorem derived_ok {d : Nat} {a b : List UInt8} (h : DerOk d a b) {s : PS} (ha : AtK L s.i (derT d a b)) (hn : isV L (s.i + (derT d a b).length) t_eq = false) :
  atM (isV L · t_eq) (stepM >>= fun _ => derivedM L) (pure (0, [], [])) s = .ok (d, a, b) { s with i := s.i + (derT d a b).length } := by
 rcases h with ⟨rfl, rfl, rfl⟩ | ⟨hd, hA, rfl⟩ | ⟨hd, hA, hB⟩
 ·exact atN (p := (isV L · t_eq)) hn
 ·have h3 : ¬ 3 ≤ d := by omega
  have h0 : ¬ d = 0 := by omega
  have ed : derOf (derW d) = d := derW_of (by omega)
  have hT : derT d a [] = [(2, t_eq, 0), (0, derW d, 0), (2, t_lpar, 0), (0, a, 0), (2, t_rpar, 0)] := by
   unfold derT; rw [if_neg h0, if_neg h3]
  rw [hT] at ha ⊢
  obtain ⟨k0, k1, k2, k3, k4, -⟩ := ha
  have e0 : isV L s.i t_eq = true := by rw [isV_key k0]; rfl
  have e2 : isV L (s.i + 1 + 1) t_lpar = true := by rw [isV_key k2]; rfl
  have e4 : isV L (s.i + 1 + 1 + 1 + 1) t_rpar = true := by rw [isV_key k4]; rfl
  rw [atY (p := (isV L · t_eq)) e0, pstep_ok]
  unfold derivedM
  refine (atY (s := { s with i := s.i + 1 }) (p := fun i => !decide ((tk L i).k = 3) && !decide (derOf (tk L i).t = 0)) (by
   show (!decide ((tk L (s.i + 1)).k = 3) && !decide (derOf (tk L (s.i + 1)).t = 0)) = true
   rw [tk_kind k1, tk_text k1, ed, decide_eq_false h0]; rfl)).trans ?_
  show (stepM >>= fun _ => takeM L t_lpar >>= fun _ => nameM L >>= fun a => (if 3 ≤ derOf (tk L (s.i + 1)).t then takeM L t_dots >>= fun _ => nameM L else pure []) >>= fun b => takeM L t_rpar >>= fun _ => pure (derOf (tk L (s.i + 1)).t, a, b)) ({ s with i := s.i + 1 } : PS) = _
  rw [tk_text k1, ed, if_neg h3, pstep_ok, take_ok (s := { s with i := s.i + 1 + 1 }) e2, name_get hA (s := { s with i := s.i + 1 + 1 + 1 }) k3, pm_pure, take_ok (s := { s with i := s.i + 1 + 1 + 1 + 1 }) e4]
  rfl
 ·have h3 : 3 ≤ d := by omega
  have h0 : ¬ d = 0 := by omega
  have ed : derOf (derW d) = d := derW_of (by omega)
  have hT : derT d a b = [(2, t_eq, 0), (0, derW d, 0), (2, t_lpar, 0), (0, a, 0), (2, t_dots, 0), (0, b, 0), (2, t_rpar, 0)] := by
   unfold derT; rw [if_neg h0, if_pos h3]
  rw [hT] at ha ⊢
  obtain ⟨k0, k1, k2, k3, k4, k5, k6, -⟩ := ha
  have e0 : isV L s.i t_eq = true := by rw [isV_key k0]; rfl
  have e2 : isV L (s.i + 1 + 1) t_lpar = true := by rw [isV_key k2]; rfl
  have e4 : isV L (s.i + 1 + 1 + 1 + 1) t_dots = true := by rw [isV_key k4]; rfl
  have e6 : isV L (s.i + 1 + 1 + 1 + 1 + 1 + 1) t_rpar = true := by rw [isV_key k6]; rfl
  rw [atY (p := (isV L · t_eq)) e0, pstep_ok]
  unfold derivedM
  refine (atY (s := { s with i := s.i + 1 }) (p := fun i => !decide ((tk L i).k = 3) && !decide (derOf (tk L i).t = 0)) (by
   show (!decide ((tk L (s.i + 1)).k = 3) && !decide (derOf (tk L (s.i + 1)).t = 0)) = true
   rw [tk_kind k1, tk_text k1, ed, decide_eq_false h0]; rfl)).trans ?_
  show (stepM >>= fun _ => takeM L t_lpar >>= fun _ => nameM L >>= fun a => (if 3 ≤ derOf (tk L (s.i + 1)).t then takeM L t_dots >>= fun _ => nameM L else pure []) >>= fun b => takeM L t_rpar >>= fun _ => pure (derOf (tk L (s.i + 1)).t, a, b)) ({ s with i := s.i + 1 } : PS) = _
  rw [tk_text k1, ed, if_pos h3, pstep_ok, take_ok (s := { s with i := s.i + 1 + 1 }) e2, name_get hA (s := { s with i := s.i + 1 + 1 + 1 }) k3, pmb_assoc, take_ok (s := { s with i := s.i + 1 + 1 + 1 + 1 }) e4, name_get hB (s := { s with i := s.i + 1 + 1 + 1 + 1 + 1 }) k5, take_ok (s := { s with i := s.i + 1 + 1 + 1 + 1 + 1 + 1 }) e6]
  rfl
theorem where_ok {wh : Option CE} (h : ∀ e, wh = some e → e.ok ∧ e.dp ≤ 32) {s : PS} (ha : AtK L s.i (whT wh ++ [(2, t_semi, 0)])) :
  atM (isV L · w_where) (stepM >>= fun _ => exprM L 32) (pure (-1)) s = .ok (match wh with | none => -1 | some e => e.ix s.xs.length) ⟨s.i + (whT wh).length, s.xs ++ (match wh with | none => [] | some e => e.flat s.xs.length), s.ts⟩ := by
 cases wh with
 | none =>
  have e1 : isV L s.i w_where = false := by rw [isV_key ha.1]; decide
  rw [atN (p := (isV L · w_where)) e1]
  simp [whT]; rfl
 | some e =>
  obtain ⟨h1, h2⟩ := h e rfl
  have e1 : isV L s.i w_where = true := by rw [isV_key ha.1]; decide
  obtain ⟨a1, a2⟩ := atK_app.1 ha.2
  rw [atY (p := (isV L · w_where)) e1, pstep_ok, rd_ok h1 h2 (s := { s with i := s.i + 1 }) a1 (stop_key a2.1 (by decide +kernel))]
  unfold CE.put
  simp only [whT, List.length_cons]
  congr 2
  omega
theorem der_key (d : Nat) (a b : List UInt8) (wh : Option CE) : ∃ k ks, derT d a b ++ (whT wh ++ [((2, t_semi, 0) : Ky)]) = k :: ks ∧ k.2.1 ≠ t_lsq ∧ k.2.1 ≠ t_lpar := by
 unfold derT
 by_cases h0 : d = 0
 ·rw [if_pos h0]
  cases wh with
  | none => exact ⟨_, _, rfl, by decide, by decide⟩
  | some e => exact ⟨_, _, rfl, by decide, by decide⟩
 ·rw [if_neg h0]
  exact ⟨_, _, rfl, by decide, by decide⟩
theorem field_ok {nm : List UInt8} {t : CT} {d : Nat} {a b : List UInt8} {wh : Option CE} (hok : (CI.field nm t d a b wh).ok) {s : PS} (ha : AtK L s.i (CI.field nm t d a b wh).toks) :
  fieldM L s = .ok ((CI.field nm t d a b wh).it s.xs.length s.ts.length) ((CI.field nm t d a b wh).put s) := by
 obtain ⟨h1, h2, h3, h4, h5⟩ := hok
 have e1 : isV L (s.i + 1) t_colon = true := by rw [isV_key ha.2.1]; rfl
 obtain ⟨a1, a2⟩ := atK_app.1 ha.2.2
 obtain ⟨a3, a4⟩ := atK_app.1 a2
 obtain ⟨a5, a6, -⟩ := atK_app.1 a4
 have hnb : NoBr L (s.i + 1 + 1 + t.toks.length) := by
  obtain ⟨k, ks, e, k1, k2⟩ := der_key d a b wh
  rw [e] at a2
  unfold NoBr
  rw [isV_key a2.1, isV_key a2.1, decide_eq_false k1, decide_eq_false k2, Bool.and_false]
  exact ⟨rfl, rfl⟩
 have hne : isV L (s.i + 1 + 1 + t.toks.length + (derT d a b).length) t_eq = false := by
  cases wh with
  | none => rw [isV_key a4.1]; decide
  | some e => rw [isV_key a4.1]; decide
 have e2 : isV L (s.i + 1 + 1 + t.toks.length + (derT d a b).length + (whT wh).length) t_semi = true := by rw [isV_key a6]; rfl
 unfold fieldM
 rw [name_get h1 ha.1, take_ok (s := { s with i := s.i + 1 }) e1, and_ok (kd_ok t 32 { s with i := s.i + 1 + 1 } h2 h3 a1 hnb)]
 rw [and_ok (derived_ok h4 (s := t.put { s with i := s.i + 1 + 1 }) a3 hne)]
 refine (and_ok (where_ok h5 (s := { t.put { s with i := s.i + 1 + 1 } with i := s.i + 1 + 1 + t.toks.length + (derT d a b).length }) a4)).trans ((take_ok e2).trans ?_)
 show PR.ok _ _ = PR.ok _ _
 cases wh <;> simp only [CT.put, CI.put, CI.it, CI.fx, CI.ft, CI.toks, List.length_append, List.length_cons, List.length_nil, CT.fx_len, List.append_assoc, List.append_nil, whT] <;> congr 2 <;> omega
theorem subs_ok : ∀ (l : List CSb) (n : Nat) (acc : List SB) (s : PS), l ≠ [] → (∀ b ∈ l, b.ok) → acc.length + l.length ≤ 64 → AtK L s.i (subT l ++ [(2, t_rcur, 0)]) → L.length < s.i + n → subsN L n acc s = .ok (acc ++ l.map CSb.sb) { s with i := s.i + (subT l).length }
 | [], _, _, _, h, _, _, _, _ => absurd rfl h
 | b :: l, n, acc, s, _, hok, hl, ha, hn => by
  have ha : AtK L s.i ((0, b.nm, 0) :: (2, t_colon, 0) :: (1, b.t, b.n) :: (2, t_semi, 0) :: (subT l ++ [(2, t_rcur, 0)])) := by
   have : subT (b :: l) ++ [((2, t_rcur, 0) : Ky)] = (0, b.nm, 0) :: (2, t_colon, 0) :: (1, b.t, b.n) :: (2, t_semi, 0) :: (subT l ++ [(2, t_rcur, 0)]) := by simp [subT, CSb.toks]
   rwa [this] at ha
  obtain ⟨k0, k1, k2, k3, a1⟩ := ha
  obtain ⟨hb1, hb2⟩ := hok b List.mem_cons_self
  have hi : s.i < L.length := by
   by_cases hi : s.i < L.length
   ·exact hi
   ·rw [tk_out (by omega)] at k0; cases k0
  obtain ⟨n, rfl⟩ : ∃ n', n = n' + 1 := ⟨n - 1, by omega⟩
  have hr : (fun s => if namedV L s.i = true then roomM acc.length s else .ok () s : PM Unit) s = .ok () s := by
   show (if namedV L s.i = true then roomM acc.length s else .ok () s) = _
   rw [if_pos (name_named hb1 k0)]
   unfold roomM
   rw [if_neg (by rw [List.length_cons] at hl; omega)]
  have e1 : isV L (s.i + 1) t_colon = true := by rw [isV_key k1]; rfl
  have e3 : isV L (s.i + 1 + 1 + 1) t_semi = true := by rw [isV_key k3]; rfl
  have hlen : (subT (b :: l)).length = (subT l).length + 4 := by simp [subT, CSb.toks]
  rw [subsN]
  refine (and_ok hr).trans ?_
  rw [name_get hb1 k0, take_ok (s := { s with i := s.i + 1 }) e1, number_ok (s := { s with i := s.i + 1 + 1 }) k2, take_ok (s := { s with i := s.i + 1 + 1 + 1 }) e3]
  cases l with
  | nil =>
   have e4 : namedV L (s.i + 1 + 1 + 1 + 1) = false := by rw [namedV_key a1.1]; decide
   rw [atN (p := (namedV L ·)) (s := { s with i := s.i + 1 + 1 + 1 + 1 }) e4]
   rfl
  | cons c l =>
   have k4 : (tk L (s.i + 1 + 1 + 1 + 1)).key = (0, c.nm, 0) := a1.1
   have e4 : namedV L (s.i + 1 + 1 + 1 + 1) = true := name_named (hok c (by simp)).1 k4
   rw [atY (p := (namedV L ·)) (s := { s with i := s.i + 1 + 1 + 1 + 1 }) e4]
   have ih := subs_ok (c :: l) n (acc ++ [⟨b.nm, min b.n 1048576⟩]) { s with i := s.i + 1 + 1 + 1 + 1 } (by simp) (fun d hd => hok d (List.mem_cons_of_mem _ hd)) (by rw [List.length_append, List.length_singleton]; rw [List.length_cons] at hl; omega) a1 (by show L.length < s.i + 1 + 1 + 1 + 1 + n; omega)
   rw [ih, hlen]
   show PR.ok _ _ = PR.ok _ _
   simp only [List.map_cons, List.append_assoc, List.singleton_append, CSb.sb]
   congr 2
   omega
theorem pack_ok {w : List UInt8} {l : List CSb} (hok : (CI.pack w l).ok) {s : PS} (ha : AtK L s.i (CI.pack w l).toks) : packM L s = .ok ((CI.pack w l).it s.xs.length s.ts.length) ((CI.pack w l).put s) := by
 obtain ⟨h1, h2, h3, h4⟩ := hok
 have e0 : isV L s.i w_pack = true := by rw [isV_key ha.1]; rfl
 have k1 := ha.2.1
 have e2 : isV L (s.i + 1 + 1) t_lcur = true := by rw [isV_key ha.2.2.1]; rfl
 have a1 := ha.2.2.2
 have e3 : isV L (s.i + 1 + 1 + 1 + (subT l).length) t_rcur = true := by rw [isV_key (atK_app.1 a1).2.1]; rfl
 obtain ⟨⟨z, lt⟩, hz⟩ : ∃ q, integerV w = some q := Option.ne_none_iff_exists'.1 h1
 have hq : (if (tk L (s.i + 1)).k = 0 then integerV (tk L (s.i + 1)).t else none) = some (z, lt) := by
  rw [tk_kind k1, tk_text k1, if_pos rfl, hz]
 have h0 : packM L s = (stepM >>= fun _ => takeM L t_lcur >>= fun _ => (fun s => subsN L (L.length - s.i + 1) [] s) >>= fun l => takeM L t_rcur >>= fun _ => pure (⟨[], -1, 0, [], [], -1, z, lt, l⟩ : IT)) ({ s with i := s.i + 1 } : PS) := by
  unfold packM
  refine (take_ok e0).trans ?_
  dsimp only
  rw [hq]
 rw [h0]
 rw [pstep_ok, take_ok (s := { s with i := s.i + 1 + 1 }) e2]
 have hs := subs_ok l (L.length - (s.i + 1 + 1 + 1) + 1) [] { s with i := s.i + 1 + 1 + 1 } h2 h4 (by rw [List.length_nil, Nat.zero_add]; exact h3) a1 (by show L.length < s.i + 1 + 1 + 1 + (L.length - (s.i + 1 + 1 + 1) + 1); omega)
 rw [List.nil_append] at hs
 obtain ⟨V, hV⟩ : ∃ V, l.map CSb.sb = V := ⟨_, rfl⟩
 rw [hV] at hs
 refine (and_ok hs).trans ?_
 refine (take_ok e3).trans ?_
 have v1 : (CI.pack w l).it s.xs.length s.ts.length = ⟨[], -1, 0, [], [], -1, z, lt, V⟩ := by
  show (⟨[], -1, 0, [], [], -1, ((integerV w).getD (0, false)).1, ((integerV w).getD (0, false)).2, l.map CSb.sb⟩ : IT) = _
  rw [hz, hV]; rfl
 have v2 : (CI.pack w l).put s = ⟨s.i + 1 + 1 + 1 + (subT l).length + 1, s.xs, s.ts⟩ := by
  unfold CI.put
  simp only [CI.fx, CI.ft, CI.toks, List.append_nil, List.length_cons, List.length_append, List.length_nil]
  congr 1
  omega
 rw [v1, v2]
 rfl
theorem CI.toks_pos (c : CI) : 0 < c.toks.length := by
 cases c <;> exact Nat.succ_pos _
theorem items_ok : ∀ (l : List CI) (n : Nat) (acc : List IT) (s : PS), (∀ c ∈ l, c.ok) → acc.length + l.length ≤ 64 → AtK L s.i (itT l ++ [(2, t_rcur, 0)]) → L.length < s.i + n →
  itemsN L n acc s = .ok (acc ++ itI l s.xs.length s.ts.length) ⟨s.i + (itT l).length, s.xs ++ itX l s.xs.length, s.ts ++ itY l s.xs.length s.ts.length⟩
 | [], n, acc, s, _, _, ha, _ => by
  have e1 : (isV L s.i w_pack || namedV L s.i) = false := by rw [isV_key ha.1, namedV_key ha.1]; decide
  cases n with
  | zero => simp [itemsN, itT, itX, itY, itI]; rfl
  | succ n =>
   refine (atN (p := fun i => isV L i w_pack || namedV L i) e1).trans ?_
   simp [itT, itX, itY, itI]; rfl
 | c :: l, n, acc, s, hok, hl, ha, hn => by
  have ha : AtK L s.i (c.toks ++ (itT l ++ [(2, t_rcur, 0)])) := by rw [itT, List.append_assoc] at ha; exact ha
  obtain ⟨a1, a2⟩ := atK_app.1 ha
  have hc := hok c List.mem_cons_self
  have hi : s.i < L.length := by
   by_cases hi : s.i < L.length
   ·exact hi
   ·cases c with
    | field => have := a1.1; rw [tk_out (by omega)] at this; cases this
    | pack => have := a1.1; rw [tk_out (by omega)] at this; cases this
  obtain ⟨n, rfl⟩ : ∃ n', n = n' + 1 := ⟨n - 1, by omega⟩
  have key : (isV L s.i w_pack || namedV L s.i) = true ∧ atM (isV L · w_pack) (packM L) (fieldM L) s = .ok (c.it s.xs.length s.ts.length) (c.put s) := by
   cases c with
   | field nm t d a b wh =>
    have e2 := name_named hc.1 a1.1
    have e3 : isV L s.i w_pack = false := name_notV hc.1 a1.1 (.inl (by decide +kernel))
    exact ⟨by rw [e2, Bool.or_true], by rw [atN (p := (isV L · w_pack)) e3]; exact field_ok hc a1⟩
   | pack w l =>
    have e3 : isV L s.i w_pack = true := by rw [isV_key a1.1]; rfl
    exact ⟨by rw [e3, Bool.true_or], by rw [atY (p := (isV L · w_pack)) e3]; exact pack_ok hc a1⟩
  refine (atY (p := fun i => isV L i w_pack || namedV L i) key.1).trans ?_
  rw [room_lt (by rw [List.length_cons] at hl; omega), and_ok key.2]
  have ih := items_ok l n (acc ++ [c.it s.xs.length s.ts.length]) (c.put s) (fun d hd => hok d (List.mem_cons_of_mem _ hd)) (by rw [List.length_append, List.length_singleton]; rw [List.length_cons] at hl; omega) a2 (by
   have := c.toks_pos
   show L.length < s.i + c.toks.length + n
   omega)
  rw [ih]
  simp only [CI.put, itT, itX, itY, itI, List.length_append, c.fx_len, c.ft_len, List.append_assoc, List.singleton_append]
  congr 2
  omega
theorem pars_ok : ∀ (l : List (List UInt8)) (n : Nat) (acc : List (List UInt8)) (s : PS), (∀ p ∈ l, NameOk p) → acc.length + l.length ≤ 64 → AtK L s.i (commaT l ++ [(2, t_rpar, 0)]) → L.length < s.i + n → parsN L n acc s = .ok (acc ++ l) { s with i := s.i + (commaT l).length }
 | [], n, acc, s, _, _, ha, _ => by
  have e1 : isV L s.i t_comma = false := by rw [isV_key ha.1]; decide
  cases n with
  | zero => simp [parsN, commaT]; rfl
  | succ n =>
   refine (atN (p := (isV L · t_comma)) e1).trans ?_
   simp [commaT]; rfl
 | p :: l, n, acc, s, hok, hl, ha, hn => by
  have hp := hok p List.mem_cons_self
  have k0 := ha.1
  have k1 := ha.2.1
  have a2 := ha.2.2
  have e1 : isV L s.i t_comma = true := by rw [isV_key k0]; rfl
  have hi : s.i < L.length := by
   by_cases hi : s.i < L.length
   ·exact hi
   ·rw [tk_out (by omega)] at k0; cases k0
  obtain ⟨n, rfl⟩ : ∃ n', n = n' + 1 := ⟨n - 1, by omega⟩
  have hr : (fun s => if namedV L s.i = true then roomM acc.length s else .ok () s : PM Unit) { s with i := s.i + 1 } = .ok () { s with i := s.i + 1 } := by
   show (if namedV L (s.i + 1) = true then roomM acc.length { s with i := s.i + 1 } else .ok () { s with i := s.i + 1 }) = _
   rw [if_pos (name_named hp k1)]
   unfold roomM
   rw [if_neg (by rw [List.length_cons] at hl; omega)]
  refine (atY (p := (isV L · t_comma)) e1).trans ?_
  rw [pstep_ok]
  refine (and_ok hr).trans ?_
  rw [name_get hp (s := { s with i := s.i + 1 }) k1]
  have ih := pars_ok l n (acc ++ [p]) { s with i := s.i + 1 + 1 } (fun d hd => hok d (List.mem_cons_of_mem _ hd)) (by rw [List.length_append, List.length_singleton]; rw [List.length_cons] at hl; omega) a2 (by show L.length < s.i + 1 + 1 + n; omega)
  rw [ih]
  simp only [commaT, List.length_cons, List.append_assoc, List.singleton_append]
  congr 2
  omega
theorem record_ok {r : CR} (hok : r.ok) {s : PS} (ha : AtK L s.i r.toks) : recordM L s = .ok (r.rc s.xs.length s.ts.length) ⟨s.i + r.toks.length, s.xs ++ itX r.its s.xs.length, s.ts ++ itY r.its s.xs.length s.ts.length⟩ := by
 obtain ⟨nm, ps, its⟩ := r
 obtain ⟨h1, h2, h3, h4, h5⟩ := hok
 have e0 : isV L s.i w_struct = true := by rw [isV_key ha.1]; rfl
 have k1 := ha.2.1
 obtain ⟨a1, k2, a2⟩ := atK_app.1 ha.2.2
 have e2 : isV L (s.i + 1 + 1 + (parT' ps).length) t_lcur = true := by rw [isV_key k2]; rfl
 have e3 : isV L (s.i + 1 + 1 + (parT' ps).length + 1 + (itT its).length) t_rcur = true := by rw [isV_key (atK_app.1 a2).2.1]; rfl
 have hps : atM (isV L · t_lpar) (stepM >>= fun _ => nameM L >>= fun x => (fun s => parsN L (L.length - s.i + 1) [x] s) >>= fun l => takeM L t_rpar >>= fun _ => pure l) (pure []) ({ s with i := s.i + 1 + 1 } : PS) = .ok ps { s with i := s.i + 1 + 1 + (parT' ps).length } := by
  cases ps with
  | nil =>
   have e4 : isV L (s.i + 1 + 1) t_lpar = false := by rw [isV_key (show (tk L (s.i + 1 + 1)).key = _ from k2)]; decide
   exact atN (p := (isV L · t_lpar)) (s := { s with i := s.i + 1 + 1 }) e4
  | cons p l =>
   have e4 : isV L (s.i + 1 + 1) t_lpar = true := by rw [isV_key a1.1]; rfl
   have e5 : isV L (s.i + 1 + 1 + 1 + 1 + (commaT l).length) t_rpar = true := by rw [isV_key (atK_app.1 a1.2.2).2.1]; rfl
   refine (atY (p := (isV L · t_lpar)) (s := { s with i := s.i + 1 + 1 }) e4).trans ?_
   rw [pstep_ok, name_get (h2 p List.mem_cons_self) (s := { s with i := s.i + 1 + 1 + 1 }) a1.2.1]
   refine (and_ok (pars_ok l (L.length - (s.i + 1 + 1 + 1 + 1) + 1) [p] { s with i := s.i + 1 + 1 + 1 + 1 } (fun d hd => h2 d (List.mem_cons_of_mem _ hd)) (by rw [List.length_cons] at h3; show 1 + l.length ≤ 64; omega) a1.2.2 (by show L.length < s.i + 1 + 1 + 1 + 1 + (L.length - (s.i + 1 + 1 + 1 + 1) + 1); omega))).trans ((take_ok e5).trans ?_)
   show PR.ok _ _ = PR.ok _ _
   simp only [parT', List.length_cons, List.length_append, List.length_nil, List.singleton_append]
   congr 2
   omega
 unfold recordM
 rw [take_ok e0, name_get h1 (s := { s with i := s.i + 1 }) k1, and_ok hps, take_ok (s := { s with i := s.i + 1 + 1 + (parT' ps).length }) e2]
 refine (and_ok (items_ok its (L.length - (s.i + 1 + 1 + (parT' ps).length + 1) + 1) [] { s with i := s.i + 1 + 1 + (parT' ps).length + 1 } h5 (by simpa using h4) a2 (by show L.length < s.i + 1 + 1 + (parT' ps).length + 1 + (L.length - (s.i + 1 + 1 + (parT' ps).length + 1) + 1); omega))).trans ((take_ok e3).trans ?_)
 show PR.ok _ _ = PR.ok _ _
 simp only [CR.rc, CR.toks, List.length_cons, List.length_append, List.length_nil, List.nil_append]
 congr 2
 omega
theorem whole_ok : ∀ (l : List CD) (n : Nat) (cs : List CO) (rs : List RC) (s : PS), DsOk l → cs.length + (dC l).length ≤ 64 → rs.length + (dR l 0 0).length ≤ 64 → AtK L s.i (dT l ++ [(3, [], 0)]) → L.length < s.i + n →
  wholeN L n cs rs s = .ok (cs ++ dC l, rs ++ dR l s.xs.length s.ts.length) ⟨s.i + (dT l).length, s.xs ++ dX l s.xs.length, s.ts ++ dY l s.xs.length s.ts.length⟩ := by
 have hlen : ∀ (l : List CD) (o p : Nat), (dR l o p).length = (dR l 0 0).length := by
  intro l
  induction l with
  | nil => intro o p; rfl
  | cons d l ih =>
   intro o p
   cases d with
   | con => exact ih o p
   | str r =>
    show (dR l _ _).length + 1 = (dR l _ _).length + 1
    rw [ih (o + itSx r.its) (p + itSt r.its), ih (0 + itSx r.its) (0 + itSt r.its)]
 intro l
 induction l with
 | nil =>
  intro n cs rs s _ _ _ ha hn
  have e1 : isV L s.i w_const = false := by rw [isV_key ha.1]; decide
  have e2 : isV L s.i w_struct = false := by rw [isV_key ha.1]; decide
  have e3 : decide ((tk L s.i).k = 3) = true := by rw [tk_kind ha.1]; rfl
  cases n with
  | zero => simp [wholeN, dC, dR, dX, dY, dT]; rfl
  | succ n =>
   rw [wholeN, atN (p := (isV L · w_const)) e1, atN (p := (isV L · w_struct)) e2, atY (p := fun i => decide ((tk L i).k = 3)) e3]
   simp [dC, dR, dX, dY, dT]; rfl
 | cons d l ih =>
  intro n cs rs s hok hc hr ha hn
  have ha : AtK L s.i (d.toks ++ (dT l ++ [(3, [], 0)])) := by rw [dT, List.append_assoc] at ha; exact ha
  obtain ⟨a1, a2⟩ := atK_app.1 ha
  have hd := hok d List.mem_cons_self
  have hi : s.i < L.length := by
   by_cases hi : s.i < L.length
   ·exact hi
   ·cases d with
    | con => have := a1.1; rw [tk_out (by omega)] at this; cases this
    | str => have := a1.1; rw [tk_out (by omega)] at this; cases this
  obtain ⟨n, rfl⟩ : ∃ n', n = n' + 1 := ⟨n - 1, by omega⟩
  cases d with
  | con nm t q =>
   obtain ⟨k0, k1, k2, k3, k4, -⟩ := a1
   have e1 : isV L s.i w_const = true := by rw [isV_key k0]; rfl
   have e3 : isV L (s.i + 1 + 1) t_eq = true := by rw [isV_key k2]; rfl
   have e5 : isV L (s.i + 1 + 1 + 1 + 1) t_semi = true := by rw [isV_key k4]; rfl
   have hcl : cs.length + ((dC l).length + 1) ≤ 64 := hc
   have hcon : constM L s = .ok ⟨nm, q⟩ { s with i := s.i + 1 + 1 + 1 + 1 + 1 } := by
    unfold constM
    rw [take_ok e1, name_get hd.1 (s := { s with i := s.i + 1 }) k1, take_ok (s := { s with i := s.i + 1 + 1 }) e3, number_ok (s := { s with i := s.i + 1 + 1 + 1 }) k3, take_ok (s := { s with i := s.i + 1 + 1 + 1 + 1 }) e5]
    rfl
   refine (atY (p := (isV L · w_const)) e1).trans ((room_lt (by omega)).trans ((and_ok hcon).trans ((ih n (cs ++ [⟨nm, q⟩]) rs { s with i := s.i + 1 + 1 + 1 + 1 + 1 } (fun d hd => hok d (List.mem_cons_of_mem _ hd)) (by rw [List.length_append, List.length_singleton]; omega) hr a2 (by show L.length < s.i + 1 + 1 + 1 + 1 + 1 + n; omega)).trans ?_)))
   simp only [dC, dR, dX, dY, dT, CD.toks, List.length_append, List.length_cons, List.length_nil, List.append_assoc, List.singleton_append]
   congr 2
   omega
  | str r =>
   have hk := a1.1
   have e1 : isV L s.i w_const = false := by rw [isV_key hk]; decide
   have e2 : isV L s.i w_struct = true := by rw [isV_key hk]; rfl
   have hrl : rs.length + ((dR l 0 0).length + 1) ≤ 64 := by
    have : (dR (.str r :: l) 0 0).length = (dR l 0 0).length + 1 := by
     show (dR l _ _).length + 1 = _
     rw [hlen]
    rw [this] at hr; exact hr
   have htp : 0 < r.toks.length := Nat.succ_pos _
   refine (atN (p := (isV L · w_const)) e1).trans ((atY (p := (isV L · w_struct)) e2).trans ((room_lt (by omega)).trans ((and_ok (record_ok hd a1)).trans ((ih n cs (rs ++ [r.rc s.xs.length s.ts.length]) ⟨s.i + r.toks.length, s.xs ++ itX r.its s.xs.length, s.ts ++ itY r.its s.xs.length s.ts.length⟩ (fun d hd => hok d (List.mem_cons_of_mem _ hd)) hc (by rw [List.length_append, List.length_singleton]; omega) a2 (by show L.length < s.i + r.toks.length + n; omega)).trans ?_))))
   simp only [dC, dR, dX, dY, dT, CD.toks, List.length_append, itX_len, itY_len, List.append_assoc, List.singleton_append]
   congr 2
   omega
theorem fileV_ok {l : List CD} (hok : DsOk l) (hc : (dC l).length ≤ 64) (hr : (dR l 0 0).length ≤ 64) (hL : L.map TokP.key = dT l ++ [(3, [], 0)]) (hA : AtK L 0 (dT l ++ [(3, [], 0)])) : fileV (.ok L) = .ok (dC l) (dR l 0 0) (dX l 0) (dY l 0 0) := by
 have h := whole_ok l (L.length + 1) [] [] ⟨0, [], []⟩ hok (by simpa using hc) (by simpa using hr) hA (by show L.length < 0 + (L.length + 1); omega)
 unfold fileV
 dsimp only
 rw [h]
 rfl
end
end Go.Proofs.YtidnlfkakhmadaaGreatDoor

namespace Go.Proofs.YtidnlfkakhmadaaGreatDoor

section
variable {L : List TokP} [LexT L]
theorem name_inv' {α : Type} {f : List UInt8 → PM α} {s s' : PS} {v : α} (h : (nameM L >>= f) s = .ok v s') : ∃ w, (tk L s.i).key = (0, w, 0) ∧ NameOk w ∧ f w { s with i := s.i + 1 } = .ok v s' := by
 obtain ⟨w, h1, h2, h3, h4⟩ := name_inv h
 exact ⟨w, h1, ⟨h2, h3⟩, h4⟩
theorem derOf_cases {t : List UInt8} (h : derOf t ≠ 0) : ∃ d, (d = 1 ∨ d = 2 ∨ d = 3 ∨ d = 4) ∧ derOf t = d ∧ t = derW d := by
 unfold derOf at h ⊢
 by_cases h1 : t = w_sizeof
 ·exact ⟨1, .inl rfl, if_pos h1, h1⟩
 rw [if_neg h1] at h ⊢
 by_cases h2 : t = w_countof
 ·exact ⟨2, .inr (.inl rfl), if_pos h2, h2⟩
 rw [if_neg h2] at h ⊢
 by_cases h3 : t = w_crc32
 ·exact ⟨3, .inr (.inr (.inl rfl)), if_pos h3, h3⟩
 rw [if_neg h3] at h ⊢
 by_cases h4 : t = w_adler32
 ·exact ⟨4, .inr (.inr (.inr rfl)), if_pos h4, h4⟩
 rw [if_neg h4] at h
 exact absurd rfl h
theorem derW_key {i d : Nat} (hk : (tk L i).k ≠ 3) (hd : d = 1 ∨ d = 2 ∨ d = 3 ∨ d = 4) (h : (tk L i).t = derW d) : (tk L i).key = (0, derW d, 0) := by
 have hg : GoodTok (tk L i) := (LexT.h (L := L) i).elim (fun e => absurd (congrArg Prod.fst e) hk) id
 rcases hd with rfl | rfl | rfl | rfl
 all_goals
  rw [← h]
  exact good_word hg (by decide) (by decide) h
theorem derived_inv {s s' : PS} {v : Nat × List UInt8 × List UInt8} (h : atM (isV L · t_eq) (stepM >>= fun _ => derivedM L) (pure (0, [], [])) s = .ok v s') :
  ∃ d a b, DerOk d a b ∧ AtK L s.i (derT d a b) ∧ v = (d, a, b) ∧ s' = { s with i := s.i + (derT d a b).length } := by
 cases hb : isV L s.i t_eq with
 | false =>
  rw [atN (p := (isV L · t_eq)) hb] at h
  cases h
  exact ⟨0, [], [], .inl ⟨rfl, rfl, rfl⟩, trivial, rfl, rfl⟩
 | true =>
  rw [atY (p := (isV L · t_eq)) hb, pstep_ok] at h
  have hk := isV_sign hb (by decide)
  unfold derivedM at h
  cases hp : (!decide ((tk L (s.i + 1)).k = 3) && !decide (derOf (tk L (s.i + 1)).t = 0)) with
  | false =>
   replace h := (atN (s := { s with i := s.i + 1 }) (p := fun i => !decide ((tk L i).k = 3) && !decide (derOf (tk L i).t = 0)) hp).symm.trans h
   cases h
  | true =>
   replace h := (atY (s := { s with i := s.i + 1 }) (p := fun i => !decide ((tk L i).k = 3) && !decide (derOf (tk L i).t = 0)) hp).symm.trans h
   simp only [Bool.and_eq_true, Bool.not_eq_true', decide_eq_false_iff_not] at hp
   obtain ⟨d, hd, hd1, hd2⟩ := derOf_cases hp.2
   have hk1 := derW_key hp.1 hd hd2
   replace h : (stepM >>= fun _ => takeM L t_lpar >>= fun _ => nameM L >>= fun a => (if 3 ≤ derOf (tk L (s.i + 1)).t then takeM L t_dots >>= fun _ => nameM L else pure []) >>= fun b => takeM L t_rpar >>= fun _ => pure (derOf (tk L (s.i + 1)).t, a, b)) ({ s with i := s.i + 1 } : PS) = .ok v s' := h
   rw [hd1, pstep_ok] at h
   obtain ⟨e2, h⟩ := take_inv h
   obtain ⟨a, k3, hA, h⟩ := name_inv' h
   have h0 : ¬ d = 0 := by omega
   by_cases h3 : 3 ≤ d
   ·rw [if_pos h3, pmb_assoc] at h
    obtain ⟨e4, h⟩ := take_inv h
    obtain ⟨b, k5, hB, h⟩ := name_inv' h
    obtain ⟨e6, h⟩ := take_inv h
    cases h
    have hT : derT d a b = [(2, t_eq, 0), (0, derW d, 0), (2, t_lpar, 0), (0, a, 0), (2, t_dots, 0), (0, b, 0), (2, t_rpar, 0)] := by
     unfold derT; rw [if_neg h0, if_pos h3]
    refine ⟨d, a, b, .inr (.inr ⟨by omega, hA, hB⟩), ?_, rfl, by rw [hT]; rfl⟩
    rw [hT]
    exact ⟨hk, hk1, isV_sign e2 (by decide), k3, isV_sign e4 (by decide), k5, isV_sign e6 (by decide), trivial⟩
   ·rw [if_neg h3, pm_pure] at h
    obtain ⟨e4, h⟩ := take_inv h
    cases h
    have hT : derT d a [] = [(2, t_eq, 0), (0, derW d, 0), (2, t_lpar, 0), (0, a, 0), (2, t_rpar, 0)] := by
     unfold derT; rw [if_neg h0, if_neg h3]
    refine ⟨d, a, [], .inr (.inl ⟨by omega, hA, rfl⟩), ?_, rfl, by rw [hT]; rfl⟩
    rw [hT]
    exact ⟨hk, hk1, isV_sign e2 (by decide), k3, isV_sign e4 (by decide), trivial⟩
theorem where_inv {s s' : PS} {v : Int} (h : atM (isV L · w_where) (stepM >>= fun _ => exprM L 32) (pure (-1)) s = .ok v s') :
  ∃ wh : Option CE, (∀ e, wh = some e → e.ok ∧ e.dp ≤ 32) ∧ AtK L s.i (whT wh) ∧ v = (match wh with | none => -1 | some e => e.ix s.xs.length) ∧ s' = ⟨s.i + (whT wh).length, s.xs ++ (match wh with | none => [] | some e => e.flat s.xs.length), s.ts⟩ := by
 cases hb : isV L s.i w_where with
 | false =>
  rw [atN (p := (isV L · w_where)) hb] at h
  cases h
  exact ⟨none, fun e he => by (cases he), trivial, rfl, by simp [whT]⟩
 | true =>
  rw [atY (p := (isV L · w_where)) hb, pstep_ok] at h
  obtain ⟨e, a1, a2, a3, a4, rfl, rfl⟩ := sd_expr 32 _ _ _ h
  refine ⟨some e, fun e' he => by cases he; exact ⟨a1, a3⟩, ⟨isV_word hb (by decide) (by decide), a4⟩, rfl, ?_⟩
  unfold CE.put
  simp only [whT, List.length_cons]
  congr 1
  omega
theorem field_inv {s s' : PS} {v : IT} (h : fieldM L s = .ok v s') : ∃ c : CI, c.ok ∧ AtK L s.i c.toks ∧ v = c.it s.xs.length s.ts.length ∧ s' = c.put s := by
 unfold fieldM at h
 obtain ⟨nm, k0, h0, h⟩ := name_inv' h
 obtain ⟨e1, h⟩ := take_inv h
 obtain ⟨t, s1, h1, h⟩ := mo_inv h
 obtain ⟨c, a1, a2, a3, rfl, rfl⟩ := sd_kind 32 _ _ _ h1
 obtain ⟨q, s2, h2, h⟩ := mo_inv h
 obtain ⟨d, a, b, b1, b2, rfl, rfl⟩ := derived_inv h2
 obtain ⟨x, s3, h3, h⟩ := mo_inv h
 obtain ⟨wh, c1, c2, rfl, rfl⟩ := where_inv h3
 obtain ⟨e4, h⟩ := take_inv h
 cases h
 refine ⟨.field nm c d a b wh, ⟨h0, a1, a2, b1, c1⟩, ⟨k0, isV_sign e1 (by decide), atK_app.2 ⟨a3, atK_app.2 ⟨b2, atK_app.2 ⟨c2, isV_sign e4 (by decide), trivial⟩⟩⟩⟩, ?_, ?_⟩
 ·cases wh <;> simp [CI.it, CT.put, c.fx_len]
 ·cases wh <;> simp only [CT.put, CI.put, CI.fx, CI.ft, CI.toks, List.length_append, List.length_cons, List.length_nil, CT.fx_len, List.append_assoc, List.append_nil, whT] <;> congr 1 <;> omega
theorem subs_inv : ∀ (n : Nat) (acc v : List SB) (s s' : PS), acc.length ≤ 64 → L.length < s.i + n → s.i < L.length → (∀ i, i + 1 = L.length → (tk L i).k = 3) → subsN L n acc s = .ok v s' → ∃ l : List CSb, l ≠ [] ∧ (∀ b ∈ l, b.ok) ∧ acc.length + l.length ≤ 64 ∧ AtK L s.i (subT l) ∧ v = acc ++ l.map CSb.sb ∧ s' = { s with i := s.i + (subT l).length }
 | 0, acc, v, s, s', _, hn, hi, _, h => by omega
 | n + 1, acc, v, s, s', hl, hn, hi, hE, h => by
  rw [subsN] at h
  obtain ⟨hr, h⟩ := roomIf_inv (p := (namedV L ·)) h
  obtain ⟨nm, k0, h0, h⟩ := name_inv' h
  obtain ⟨e1, h⟩ := take_inv h
  obtain ⟨t, q, k2, h2, h⟩ := number_inv h
  obtain ⟨e3, h⟩ := take_inv h
  have hlt := hr (name_named h0 k0)
  have hb : (⟨nm, t, q⟩ : CSb).ok := ⟨h0, h2⟩
  have hA : ∀ T, AtK L (s.i + 1 + 1 + 1 + 1) T → AtK L s.i ((⟨nm, t, q⟩ : CSb).toks ++ T) := fun T hT => ⟨k0, isV_sign e1 (by decide), k2, isV_sign e3 (by decide), hT⟩
  have hi4 : s.i + 1 + 1 + 1 + 1 < L.length := by
   have h3 : (tk L (s.i + 1 + 1 + 1)).k = 2 := tk_kind (isV_sign e3 (by decide))
   by_cases hi : s.i + 1 + 1 + 1 < L.length
   ·by_cases he : s.i + 1 + 1 + 1 + 1 = L.length
    ·exact absurd ((hE _ he).symm.trans h3) (by decide)
    ·omega
   ·rw [tk_out (i := s.i + 1 + 1 + 1) (by omega)] at h3; cases h3
  cases hb4 : namedV L (s.i + 1 + 1 + 1 + 1) with
  | false =>
   rw [atN (p := (namedV L ·)) (s := { s with i := s.i + 1 + 1 + 1 + 1 }) hb4] at h
   cases h
   exact ⟨[⟨nm, t, q⟩], by simp, fun b hb' => by rw [List.mem_singleton.1 hb']; exact hb, by rw [List.length_singleton]; omega, hA [] trivial, rfl, rfl⟩
  | true =>
   rw [atY (p := (namedV L ·)) (s := { s with i := s.i + 1 + 1 + 1 + 1 }) hb4] at h
   obtain ⟨l, c0, c1, c2, c3, rfl, rfl⟩ := subs_inv n _ _ _ _ (by rw [List.length_append, List.length_singleton]; omega) (by show L.length < s.i + 1 + 1 + 1 + 1 + n; omega) hi4 hE h
   refine ⟨⟨nm, t, q⟩ :: l, by simp, fun b hb' => ?_, by rw [List.length_append, List.length_singleton] at c2; rw [List.length_cons]; omega, hA _ c3, ?_, ?_⟩
   ·rcases List.mem_cons.1 hb' with rfl | hb'
    ·exact hb
    ·exact c1 b hb'
   ·simp only [List.map_cons, List.append_assoc, List.singleton_append, CSb.sb]
   ·simp only [subT, CSb.toks, List.length_cons, List.length_append, List.length_nil]
    congr 1
    omega
theorem pack_inv (hE : ∀ i, i + 1 = L.length → (tk L i).k = 3) {s s' : PS} {v : IT} (h : packM L s = .ok v s') : ∃ c : CI, c.ok ∧ AtK L s.i c.toks ∧ v = c.it s.xs.length s.ts.length ∧ s' = c.put s := by
 unfold packM at h
 obtain ⟨e0, h⟩ := take_inv h
 dsimp only at h
 split at h
 ·cases h
 ·rename_i z lt hq
  have hk : (tk L (s.i + 1)).k = 0 := by
   by_cases hk : (tk L (s.i + 1)).k = 0
   ·exact hk
   ·rw [if_neg hk] at hq; cases hq
  rw [if_pos hk] at hq
  have k1 := word0_key hk
  generalize (tk L (s.i + 1)).t = w at *
  rw [pstep_ok] at h
  obtain ⟨e2, h⟩ := take_inv h
  obtain ⟨l, s1, h1, h⟩ := mo_inv h
  have hi : s.i + 1 + 1 + 1 < L.length := by
   have h3 : (tk L (s.i + 1 + 1)).k = 2 := tk_kind (isV_sign e2 (by decide))
   by_cases hi : s.i + 1 + 1 < L.length
   ·by_cases he : s.i + 1 + 1 + 1 = L.length
    ·exact absurd ((hE _ he).symm.trans h3) (by decide)
    ·omega
   ·rw [tk_out (i := s.i + 1 + 1) (by omega)] at h3; cases h3
  obtain ⟨c, c0, c1, c2, c3, rfl, rfl⟩ := subs_inv (L.length - (s.i + 1 + 1 + 1) + 1) [] _ ({ s with i := s.i + 1 + 1 + 1 } : PS) _ (by show 0 ≤ 64; decide) (by show L.length < s.i + 1 + 1 + 1 + (L.length - (s.i + 1 + 1 + 1) + 1); omega) hi hE h1
  obtain ⟨e4, h⟩ := take_inv h
  cases h
  refine ⟨.pack w c, ⟨by rw [hq]; simp, c0, by rw [List.length_nil] at c2; omega, c1⟩, ⟨isV_word e0 (by decide) (by decide), k1, isV_sign e2 (by decide), atK_app.2 ⟨c3, isV_sign e4 (by decide), trivial⟩⟩, ?_, ?_⟩
  ·show _ = (⟨[], -1, 0, [], [], -1, ((integerV w).getD (0, false)).1, ((integerV w).getD (0, false)).2, c.map CSb.sb⟩ : IT)
   rw [hq]; rfl
  ·unfold CI.put
   simp only [CI.fx, CI.ft, CI.toks, List.append_nil, List.length_cons, List.length_append, List.length_nil]
   congr 1
   omega
theorem items_inv (hE : ∀ i, i + 1 = L.length → (tk L i).k = 3) : ∀ (n : Nat) (acc v : List IT) (s s' : PS), acc.length ≤ 64 → itemsN L n acc s = .ok v s' → ∃ l : List CI, (∀ c ∈ l, c.ok) ∧ acc.length + l.length ≤ 64 ∧ AtK L s.i (itT l) ∧ v = acc ++ itI l s.xs.length s.ts.length ∧ s' = ⟨s.i + (itT l).length, s.xs ++ itX l s.xs.length, s.ts ++ itY l s.xs.length s.ts.length⟩
 | 0, acc, v, s, s', hl, h => by
  cases h
  exact ⟨[], fun c hc => (by cases hc), hl, trivial, by simp [itI], by simp [itT, itX, itY]⟩
 | n + 1, acc, v, s, s', hl, h => by
  replace h : atM (fun i => isV L i w_pack || namedV L i) _ _ s = _ := h
  cases hb : (isV L s.i w_pack || namedV L s.i) with
  | false =>
   rw [atN (p := fun i => isV L i w_pack || namedV L i) hb] at h
   cases h
   exact ⟨[], fun c hc => (by cases hc), hl, trivial, by simp [itI], by simp [itT, itX, itY]⟩
  | true =>
   rw [atY (p := fun i => isV L i w_pack || namedV L i) hb] at h
   obtain ⟨hr, h⟩ := room_inv h
   obtain ⟨x, s1, h1, h⟩ := mo_inv h
   have hx : ∃ c : CI, c.ok ∧ AtK L s.i c.toks ∧ x = c.it s.xs.length s.ts.length ∧ s1 = c.put s := by
    cases hp : isV L s.i w_pack with
    | true => rw [atY (p := (isV L · w_pack)) hp] at h1; exact pack_inv hE h1
    | false => rw [atN (p := (isV L · w_pack)) hp] at h1; exact field_inv h1
   obtain ⟨c, a1, a2, rfl, rfl⟩ := hx
   obtain ⟨l, b1, b2, b3, rfl, rfl⟩ := items_inv hE n _ _ _ _ (by rw [List.length_append, List.length_singleton]; omega) h
   refine ⟨c :: l, fun d hd => ?_, by rw [List.length_append, List.length_singleton] at b2; rw [List.length_cons]; omega, atK_app.2 ⟨a2, b3⟩, ?_, ?_⟩
   ·rcases List.mem_cons.1 hd with rfl | hd
    ·exact a1
    ·exact b1 d hd
   ·simp only [CI.put, itI, List.length_append, c.fx_len, c.ft_len, List.append_assoc, List.singleton_append]
   ·simp only [CI.put, itT, itX, itY, List.length_append, c.fx_len, c.ft_len, List.append_assoc]
    congr 1
    omega
theorem pars_inv : ∀ (n : Nat) (acc v : List (List UInt8)) (s s' : PS), acc.length ≤ 64 → parsN L n acc s = .ok v s' → ∃ l : List (List UInt8), (∀ p ∈ l, NameOk p) ∧ acc.length + l.length ≤ 64 ∧ AtK L s.i (commaT l) ∧ v = acc ++ l ∧ s' = { s with i := s.i + (commaT l).length }
 | 0, acc, v, s, s', hl, h => by
  cases h
  exact ⟨[], fun c hc => (by cases hc), hl, trivial, by simp, rfl⟩
 | n + 1, acc, v, s, s', hl, h => by
  replace h : atM (isV L · t_comma) _ _ s = _ := h
  cases hb : isV L s.i t_comma with
  | false =>
   rw [atN (p := (isV L · t_comma)) hb] at h
   cases h
   exact ⟨[], fun c hc => (by cases hc), hl, trivial, by simp, rfl⟩
  | true =>
   rw [atY (p := (isV L · t_comma)) hb, pstep_ok] at h
   obtain ⟨hr, h⟩ := roomIf_inv (p := (namedV L ·)) h
   obtain ⟨w, k1, hw, h⟩ := name_inv' h
   have hlt := hr (name_named hw k1)
   obtain ⟨l, b1, b2, b3, rfl, rfl⟩ := pars_inv n _ _ _ _ (by rw [List.length_append, List.length_singleton]; omega) h
   refine ⟨w :: l, fun d hd => ?_, by rw [List.length_append, List.length_singleton] at b2; rw [List.length_cons]; omega, ⟨isV_sign hb (by decide), k1, b3⟩, ?_, ?_⟩
   ·rcases List.mem_cons.1 hd with rfl | hd
    ·exact hw
    ·exact b1 d hd
   ·simp only [List.append_assoc, List.singleton_append]
   ·simp only [commaT, List.length_cons]
    congr 1
    omega
theorem record_inv (hE : ∀ i, i + 1 = L.length → (tk L i).k = 3) {s s' : PS} {v : RC} (h : recordM L s = .ok v s') : ∃ r : CR, r.ok ∧ AtK L s.i r.toks ∧ v = r.rc s.xs.length s.ts.length ∧ s' = ⟨s.i + r.toks.length, s.xs ++ itX r.its s.xs.length, s.ts ++ itY r.its s.xs.length s.ts.length⟩ := by
 unfold recordM at h
 obtain ⟨e0, h⟩ := take_inv h
 obtain ⟨nm, k1, h1, h⟩ := name_inv' h
 obtain ⟨ps, s1, h2, h⟩ := mo_inv h
 have hps : (∀ p ∈ ps, NameOk p) ∧ ps.length ≤ 64 ∧ AtK L (s.i + 1 + 1) (parT' ps) ∧ s1 = { s with i := s.i + 1 + 1 + (parT' ps).length } := by
  cases hb : isV L (s.i + 1 + 1) t_lpar with
  | false =>
   rw [atN (p := (isV L · t_lpar)) (s := { s with i := s.i + 1 + 1 }) hb] at h2
   cases h2
   exact ⟨fun p hp => (by cases hp), Nat.zero_le _, trivial, rfl⟩
  | true =>
   rw [atY (p := (isV L · t_lpar)) (s := { s with i := s.i + 1 + 1 }) hb, pstep_ok] at h2
   obtain ⟨p, k3, hp, h2⟩ := name_inv' h2
   obtain ⟨l, s2, h3, h2⟩ := mo_inv h2
   obtain ⟨l', b1, b2, b3, rfl, rfl⟩ := pars_inv _ _ _ _ _ (by show 1 ≤ 64; decide) h3
   obtain ⟨e5, h2⟩ := take_inv h2
   cases h2
   refine ⟨fun d hd => ?_, by have : 1 + l'.length ≤ 64 := b2; rw [List.length_append, List.length_singleton]; exact this, ⟨isV_sign hb (by decide), k3, atK_app.2 ⟨b3, isV_sign e5 (by decide), trivial⟩⟩, ?_⟩
   ·rcases List.mem_append.1 hd with hd | hd
    ·rw [List.mem_singleton.1 hd]; exact hp
    ·exact b1 d hd
   ·simp only [List.singleton_append, parT', List.length_cons, List.length_append, List.length_nil]
    congr 1
    omega
 obtain ⟨p1, p2, p3, rfl⟩ := hps
 obtain ⟨e2, h⟩ := take_inv h
 obtain ⟨is, s2, h3, h⟩ := mo_inv h
 obtain ⟨l, b1, b2, b3, rfl, rfl⟩ := items_inv hE _ _ _ _ _ (by show 0 ≤ 64; decide) h3
 obtain ⟨e3, h⟩ := take_inv h
 cases h
 refine ⟨⟨nm, ps, l⟩, ⟨h1, p1, p2, by have : 0 + l.length ≤ 64 := b2; show l.length ≤ 64; omega, b1⟩, ⟨isV_word e0 (by decide) (by decide), k1, atK_app.2 ⟨p3, isV_sign e2 (by decide), atK_app.2 ⟨b3, isV_sign e3 (by decide), trivial⟩⟩⟩, rfl, ?_⟩
 simp only [CR.toks, List.length_cons, List.length_append, List.length_nil]
 congr 1
 omega
theorem whole_inv (hE : ∀ i, i + 1 = L.length → (tk L i).k = 3) : ∀ (n : Nat) (cs : List CO) (rs : List RC) (v : List CO × List RC) (s s' : PS), cs.length ≤ 64 → rs.length ≤ 64 → s.i < L.length → L.length < s.i + n → wholeN L n cs rs s = .ok v s' →
  ∃ l : List CD, DsOk l ∧ v.1.length ≤ 64 ∧ v.2.length ≤ 64 ∧ AtK L s.i (dT l ++ [(3, [], 0)]) ∧ v.1 = cs ++ dC l ∧ v.2 = rs ++ dR l s.xs.length s.ts.length ∧ s'.xs = s.xs ++ dX l s.xs.length ∧ s'.ts = s.ts ++ dY l s.xs.length s.ts.length
 | 0, cs, rs, v, s, s', _, _, hi, hn, h => by omega
 | n + 1, cs, rs, v, s, s', hc, hr, hi, hn, h => by
  replace h : atM (isV L · w_const) _ _ s = _ := h
  have next : ∀ {a : Nat} {k : Ky}, (tk L a).key = k → k.1 ≠ 3 → a + 1 < L.length := fun {a k} hk h3 => by
   by_cases ha : a < L.length
   ·by_cases he : a + 1 = L.length
    ·exact absurd ((tk_kind hk).symm.trans (hE _ he)) h3
    ·omega
   ·rw [tk_out (by omega)] at hk
    rw [← hk] at h3
    exact absurd rfl h3
  cases f1 : isV L s.i w_const with
  | true =>
   rw [atY (p := (isV L · w_const)) f1] at h
   obtain ⟨hlt, h⟩ := room_inv h
   obtain ⟨c, s1, h1, h⟩ := mo_inv h
   unfold constM at h1
   obtain ⟨e0, h1⟩ := take_inv h1
   obtain ⟨nm, k1, hnm, h1⟩ := name_inv' h1
   obtain ⟨e2, h1⟩ := take_inv h1
   obtain ⟨t, q, k3, hq, h1⟩ := number_inv h1
   obtain ⟨e4, h1⟩ := take_inv h1
   cases h1
   have hl := next (isV_sign e4 (by decide)) (by decide)
   obtain ⟨l, b1, b2, b3, b4, b5, b6, b7, b8⟩ := whole_inv hE n _ _ _ _ _ (by rw [List.length_append, List.length_singleton]; omega) hr hl (by show L.length < s.i + 1 + 1 + 1 + 1 + 1 + n; omega) h
   refine ⟨.con nm t q :: l, fun d hd => ?_, b2, b3, ?_, ?_, b6, b7, b8⟩
   ·rcases List.mem_cons.1 hd with rfl | hd
    ·exact ⟨hnm, hq⟩
    ·exact b1 d hd
   ·exact ⟨isV_word f1 (by decide) (by decide), k1, isV_sign e2 (by decide), k3, isV_sign e4 (by decide), b4⟩
   ·rw [b5]
    simp only [dC, List.append_assoc, List.singleton_append]
  | false =>
   rw [atN (p := (isV L · w_const)) f1] at h
   cases f2 : isV L s.i w_struct with
   | true =>
    rw [atY (p := (isV L · w_struct)) f2] at h
    obtain ⟨hlt, h⟩ := room_inv h
    obtain ⟨r, s1, h1, h⟩ := mo_inv h
    obtain ⟨r, a1, a2, rfl, rfl⟩ := record_inv hE h1
    have hpos : 0 < r.toks.length := Nat.succ_pos _
    have hlast : (tk L (s.i + r.toks.length - 1)).key = (2, t_rcur, 0) := by
     have hT : r.toks = ((0, w_struct, 0) :: (0, r.nm, 0) :: (parT' r.ps ++ (2, t_lcur, 0) :: itT r.its)) ++ [(2, t_rcur, 0)] := by simp [CR.toks]
     have h2 := a2
     rw [hT] at h2
     have h3 := (atK_app.1 h2).2.1
     rw [← h3]
     congr 2
     have := congrArg List.length hT
     rw [List.length_append, List.length_singleton] at this
     omega
    have hl := next hlast (by decide)
    obtain ⟨l, b1, b2, b3, b4, b5, b6, b7, b8⟩ := whole_inv hE n _ _ _ _ _ hc (by rw [List.length_append, List.length_singleton]; omega) (by show s.i + r.toks.length < L.length; omega) (by show L.length < s.i + r.toks.length + n; omega) h
    refine ⟨.str r :: l, fun d hd => ?_, b2, b3, ?_, b5, ?_, ?_, ?_⟩
    ·rcases List.mem_cons.1 hd with rfl | hd
     ·exact a1
     ·exact b1 d hd
    ·rw [dT, List.append_assoc]
     exact atK_app.2 ⟨a2, b4⟩
    ·rw [b6]
     simp only [dR, List.length_append, itX_len, itY_len, List.append_assoc, List.singleton_append]
    ·rw [b7]
     simp only [dX, List.length_append, itX_len, List.append_assoc]
    ·rw [b8]
     simp only [dY, List.length_append, itX_len, itY_len, List.append_assoc]
   | false =>
    rw [atN (p := (isV L · w_struct)) f2] at h
    by_cases h3 : (tk L s.i).k = 3
    ·rw [atY (p := fun i => decide ((tk L i).k = 3)) (decide_eq_true h3)] at h
     cases h
     have hk : (tk L s.i).key = (3, [], 0) := by
      rcases LexT.h (L := L) s.i with e | hg
      ·exact e
      ·have := hg.1; omega
     exact ⟨[], fun d hd => (by cases hd), hc, hr, ⟨hk, trivial⟩, by simp [dC], by simp [dR], by simp [dX], by simp [dY]⟩
    ·rw [atN (p := fun i => decide ((tk L i).k = 3)) (decide_eq_false h3)] at h
     cases h
theorem fileV_inv (h0 : 0 < L.length) (hE : ∀ i, i + 1 = L.length → (tk L i).k = 3) {cs : List CO} {rs : List RC} {xs : List EX} {ts : List TY} (h : fileV (.ok L) = .ok cs rs xs ts) :
  ∃ l : List CD, DsOk l ∧ cs.length ≤ 64 ∧ rs.length ≤ 64 ∧ AtK L 0 (dT l ++ [(3, [], 0)]) ∧ cs = dC l ∧ rs = dR l 0 0 ∧ xs = dX l 0 ∧ ts = dY l 0 0 := by
 unfold fileV at h
 dsimp only at h
 split at h
 ·rename_i c r s hw
  cases h
  obtain ⟨l, b1, b2, b3, b4, b5, b6, b7, b8⟩ := whole_inv hE (L.length + 1) [] [] _ ⟨0, [], []⟩ _ (by show 0 ≤ 64; decide) (by show 0 ≤ 64; decide) h0 (by show L.length < 0 + (L.length + 1); omega) hw
  exact ⟨l, b1, b2, b3, b4, b5, b6, b7, b8⟩
 ·cases h
end
end Go.Proofs.YtidnlfkakhmadaaGreatDoor

namespace Go.Proofs.YtidnlfkakhmadaaGreatDoor

end Go.Proofs.YtidnlfkakhmadaaGreatDoor

namespace Go.Proofs.YtidnlfkakhmadaaGreatDoor

def LR.keys : LR → Option (List Ky)
 | .ok L => some (L.map TokP.key)
 | .err _ _ _ => none
theorem LR.keys_pre (x : LR) (o : List TokP) : (x.pre o).keys = x.keys.map (o.map TokP.key ++ ·) := by
 cases x <;> simp [LR.pre, LR.keys]
theorem stp_pl (r : List UInt8) (l c l' c' : Nat) : (stp r l c = .done ∧ stp r l' c' = .done) ∨ (∃ r' a b a' b', stp r l c = .go r' a b ∧ stp r l' c' = .go r' a' b') ∨ (∃ k t n, stp r l c = .tok k t n ∧ stp r l' c' = .tok k t n) ∨ (∃ e, stp r l c = .err e ∧ stp r l' c' = .err e) := by
 unfold stp
 split
 ·exact .inl ⟨rfl, rfl⟩
 ·rename_i b x
  by_cases h1 : b = 10
  ·rw [if_pos h1, if_pos h1]; exact .inr (.inl ⟨_, _, _, _, _, rfl, rfl⟩)
  rw [if_neg h1, if_neg h1]
  by_cases h2 : b = 32 ∨ b = 9 ∨ b = 13
  ·rw [if_pos h2, if_pos h2]; exact .inr (.inl ⟨_, _, _, _, _, rfl, rfl⟩)
  rw [if_neg h2, if_neg h2]
  by_cases h3 : isCom (b :: x) = true
  ·rw [if_pos h3, if_pos h3]; exact .inr (.inl ⟨_, _, _, _, _, rfl, rfl⟩)
  rw [if_neg h3, if_neg h3]
  cases tokF (b :: x) with
  | ok k t n => exact .inr (.inr (.inl ⟨k, t, n, rfl, rfl⟩))
  | err e => exact .inr (.inr (.inr ⟨e, rfl, rfl⟩))
theorem lexF_keys : ∀ (n : Nat) (r : List UInt8) (l c l' c' : Nat), r.length < n → (lexF r l c).keys = (lexF r l' c').keys := by
 intro n
 induction n with
 | zero => intro r l c l' c' h; omega
 | succ n ih =>
  intro r l c l' c' h
  rw [lexF_eq r l c, lexF_eq r l' c']
  rcases stp_pl r l c l' c' with ⟨h1, h2⟩ | ⟨r', a, b, a', b', h1, h2⟩ | ⟨k, t, v, h1, h2⟩ | ⟨e, h1, h2⟩ <;> rw [h1, h2] <;> dsimp only
  ·rfl
  ·exact ih r' _ _ _ _ (by have := stp_go h1; omega)
  ·obtain ⟨⟨X, rfl⟩, h3, -⟩ := tokF_ok (stp_tok h1)
   have h4 : 0 < t.length := List.length_pos_iff.2 h3
   rw [LR.keys_pre, LR.keys_pre, List.drop_left, ih X _ (c + t.length) l' (c' + t.length) (by rw [List.length_append] at h; omega)]
   rfl
  ·rfl
def lexK (r : List UInt8) : Option (List Ky) := (lexF r 1 1).keys
theorem lexK_of (r : List UInt8) (l c : Nat) : (lexF r l c).keys = lexK r := lexF_keys _ r _ _ _ _ (Nat.lt_succ_self _)
theorem lexK_nil : lexK [] = some [(3, [], 0)] := rfl
theorem lexK_blank {b : UInt8} (r : List UInt8) (hb : blank b = true) : lexK (b :: r) = lexK r := by
 have := lexF_blank [b] r (1, 1) (fun c hc => by rw [List.mem_singleton.1 hc]; exact hb)
 show (lexF (b :: r) 1 1).keys = _
 rw [show lexF (b :: r) 1 1 = _ from this]
 exact lexK_of _ _ _
theorem lexK_com {r : List UInt8} (h : isCom r = true) : lexK r = lexK (r.dropWhile notNl) := by
 show (lexF r 1 1).keys = _
 rw [show lexF r 1 1 = _ from lexF_com (1, 1) h]
 exact lexK_of _ _ _
theorem lexK_tok {r : List UInt8} (hr : r ≠ []) (hb : ∀ b, r[0]? = some b → blank b = false) (hc : isCom r = false) : lexK r = match tokF r with
  | .ok k t v => (lexK (r.drop t.length)).map ((k, t, v) :: ·)
  | .err _ => none := by
 unfold lexK
 rw [lexF_tok 1 1 hr hb hc]
 cases tokF r with
 | ok k t v =>
  dsimp only
  rw [LR.keys_pre, lexK_of]
  rfl
 | err e => rfl
theorem blank_cases {b : UInt8} (h : blank b = true) : b = 32 ∨ b = 9 ∨ b = 10 ∨ b = 13 := by
 unfold blank at h
 simpa using h
theorem tokF_nb {r t : List UInt8} {k n : Nat} (h : tokF r = .ok k t n) : r ≠ [] ∧ ∀ b, r[0]? = some b → blank b = false := by
 obtain ⟨⟨X, hX⟩, h2, -⟩ := tokF_ok h
 have key : ∀ c w, t = c :: w → blank c = false := fun c w e => by
  rcases hb : blank c with _ | _
  ·rfl
  ·have hc := blank_cases hb
   exfalso
   rcases tokF_cases h with ⟨-, h3, -⟩ | ⟨-, -, h3⟩ | ⟨-, -, -, -, h3⟩
   ·have : ∀ p ∈ signsL, ∀ c w, p = c :: w → c ≠ 32 ∧ c ≠ 9 ∧ c ≠ 10 ∧ c ≠ 13 := by
     intro p hp c w e
     have : signsL.all (fun p => match p with | [] => true | c :: _ => c != 32 && c != 9 && c != 10 && c != 13) = true := by decide +kernel
     have := List.all_eq_true.1 this p hp
     rw [e] at this
     simpa [and_assoc] using this
    obtain ⟨a1, a2, a3, a4⟩ := this t h3 c w e
    rcases hc with hc | hc | hc | hc <;> contradiction
   ·have := h3 c (by rw [e]; exact List.mem_cons_self)
    rcases hc with rfl | rfl | rfl | rfl <;> exact absurd this (by decide)
   ·have := h3 c (by rw [e]; exact List.mem_cons_self)
    rcases hc with rfl | rfl | rfl | rfl <;> exact absurd this (by decide)
 cases t with
 | nil => exact absurd rfl h2
 | cons c w => subst hX; exact ⟨by simp, fun b hb => by cases hb; exact key _ _ rfl⟩
theorem lexK_go {r t : List UInt8} {k n : Nat} (h : tokF r = .ok k t n) (hc : isCom r = false) : lexK r = (lexK (r.drop t.length)).map ((k, t, n) :: ·) := by
 obtain ⟨h1, h2⟩ := tokF_nb h
 rw [lexK_tok h1 h2 hc, h]
theorem lexK_cons {t X : List UInt8} {k n : Nat} (h : tokF (t ++ X) = .ok k t n) (hc : isCom (t ++ X) = false) : lexK (t ++ X) = (lexK X).map ((k, t, n) :: ·) := by
 rw [lexK_go h hc, List.drop_left]
def closer (b : UInt8) : Bool := !alnum b && (b != 47 && (!blank b && signsL.all fun p => p[1]? != some b))
theorem isPre_cl {b : UInt8} {p s Y : List UInt8} (hp : 0 < p.length) (hl : p.length ≤ 2) (h1 : p[1]? ≠ some b) (hs : s ≠ []) : p.isPrefixOf (s ++ b :: Y) = p.isPrefixOf s := by
 match p, s, hp, hl, hs with
 | [a], d :: s, _, _, _ => simp [List.isPrefixOf]
 | [a, a'], [d], _, _, _ => simp [List.isPrefixOf]; intro _ e; exact absurd (by rw [e]; rfl) h1
 | [a, a'], d :: d' :: s, _, _, _ => simp [List.isPrefixOf]
end Go.Proofs.YtidnlfkakhmadaaGreatDoor

namespace Go.Proofs.YtidnlfkakhmadaaGreatDoor

def HdA (X : List UInt8) : Prop := ∀ b, X[0]? = some b → alnum b = false
def safe (b : UInt8) : Bool := signsL.all (fun p => p[1]? != some b) && b != 47
def HdS (X : List UInt8) : Prop := ∀ b, X[0]? = some b → safe b = true
theorem hdA_cons {b : UInt8} {X : List UInt8} (h : alnum b = false) : HdA (b :: X) := fun c hc => by cases hc; exact h
theorem hdS_cons {b : UInt8} {X : List UInt8} (h : safe b = true) : HdS (b :: X) := fun c hc => by cases hc; exact h
theorem safe_alnum {b : UInt8} (h : alnum b = true) : safe b = true := by
 unfold safe
 rw [Bool.and_eq_true, List.all_eq_true]
 refine ⟨fun p hp => ?_, ?_⟩
 ·obtain ⟨-, -, h3, -⟩ := signs_len p hp
  rw [bne_iff_ne]
  intro e
  have := h3 b (List.mem_of_getElem? e)
  rw [h] at this; cases this
 ·rw [bne_iff_ne]
  rintro rfl
  exact absurd h (by decide)
theorem tokF_al {r t X : List UInt8} {k n : Nat} (h : tokF r = .ok k t n) (hk : k ≠ 2) (hX : HdA X) : tokF (t ++ X) = .ok k t n ∧ isCom (t ++ X) = false := by
 unfold tokF at h
 split at h
 ·split at h
  ·cases h
  ·cases h; exact absurd rfl hk
 ·rename_i b w hw
  have hall := takeWhile_all alnum r
  rw [hw] at hall
  have htw : (b :: w ++ X).takeWhile alnum = b :: w := takeWhile_app hall hX
  have hb : alnum b = true := hall b (by simp)
  have fin : (b :: w) = t → tokF (t ++ X) = .ok k t n ∧ isCom (t ++ X) = false := by
   intro ht
   refine ⟨?_, ?_⟩
   ·rw [← ht]
    unfold tokF
    rw [htw]
    dsimp only
    rw [h, ht]
   ·rw [← ht]
    rcases hc : isCom (b :: w ++ X) with _ | _
    ·rfl
    ·obtain ⟨Z, hZ⟩ := isCom_eq hc
     have : b = 47 := by injection hZ
     rw [this] at hb
     exact absurd hb (by decide)
  split at h
  ·exact fin (numF_ok h).2.symm
  ·split at h
   ·exact fin (by cases h; rfl)
   ·cases h
theorem lexK_al {r t X : List UInt8} {k n : Nat} (h : tokF r = .ok k t n) (hk : k ≠ 2) (hX : HdA X) : lexK (t ++ X) = (lexK X).map ((k, t, n) :: ·) := by
 obtain ⟨h1, h2⟩ := tokF_al h hk hX
 exact lexK_cons h1 h2
theorem signs_selfK : ∀ t ∈ signsL, signF t = some t ∧ isCom t = false := by decide +kernel
theorem lexK_sg {t X : List UInt8} (ht : t ∈ signsL) (hX : HdS X) : lexK (t ++ X) = (lexK X).map ((2, t, 0) :: ·) := by
 obtain ⟨h1, h2, h3, -⟩ := signs_len t ht
 obtain ⟨h4, h5⟩ := signs_selfK t ht
 cases t with
 | nil => exact absurd h1 (by decide)
 | cons c t =>
  have hc := h3 c List.mem_cons_self
  have hsafe : ∀ b Y, X = b :: Y → (∀ p ∈ signsL, p[1]? ≠ some b) ∧ b ≠ 47 := fun b Y e => by
   have := hX b (by rw [e]; rfl)
   unfold safe at this
   rw [Bool.and_eq_true, List.all_eq_true, bne_iff_ne] at this
   exact ⟨fun p hp => bne_iff_ne.1 (this.1 p hp), this.2⟩
  have hs : signF (c :: t ++ X) = some (c :: t) := by
   cases X with
   | nil => rw [List.append_nil]; exact h4
   | cons b Y =>
    rw [← h4]
    exact find_congr fun p hp => isPre_cl (signs_len p hp).1 (signs_len p hp).2.1 ((hsafe b Y rfl).1 p hp) (by simp)
  have htok : tokF (c :: t ++ X) = .ok 2 (c :: t) 0 := by
   unfold tokF
   rw [List.cons_append, List.takeWhile_cons, if_neg (by rw [hc]; decide), ← List.cons_append, hs]
  refine lexK_cons htok ?_
  cases X with
  | nil => rw [List.append_nil]; exact h5
  | cons b Y =>
   have hb := (hsafe b Y rfl).2
   cases t with
   | nil =>
    show ((47 : UInt8) == c && ((47 : UInt8) == b && true)) = false
    have : ((47 : UInt8) == b) = false := by
     rcases h : ((47 : UInt8) == b) with _ | _
     ·rfl
     ·exact absurd (eq_of_beq h).symm hb
    rw [this]; simp
   | cons d t => exact h5
theorem lexK_cl1 {b : UInt8} (h : ([b] ∈ signsL ∧ b ≠ 47 ∧ alnum b = false) ∧ ∀ p ∈ signsL, p[0]? = some b → p = [b]) (X : List UInt8) : lexK ([b] ++ X) = (lexK X).map ((2, [b], 0) :: ·) := by
 obtain ⟨⟨h1, h2, h3⟩, h4⟩ := h
 have hs : signF ([b] ++ X) = some [b] := by
  unfold signF
  have hm : ∀ p ∈ signsL, p.isPrefixOf ([b] ++ X) = decide (p = [b]) := fun p hp => by
   obtain ⟨l1, -⟩ := signs_len p hp
   cases p with
   | nil => exact absurd l1 (by decide)
   | cons c p =>
    by_cases e : c = b
    ·subst e
     have := h4 _ hp rfl
     rw [this]
     simp [List.isPrefixOf]
    ·have e2 : (c == b) = false := by
      rcases q : (c == b) with _ | _
      ·rfl
      ·exact absurd (eq_of_beq q) e
     show (c == b && _) = _
     rw [e2, decide_eq_false (by intro q; injection q with q _; exact e q)]
     rfl
  rw [find_congr hm]
  have key : ∀ l : List (List UInt8), [b] ∈ l → l.find? (fun p => decide (p = [b])) = some [b] := by
   intro l
   induction l with
   | nil => intro h; cases h
   | cons p l ih =>
    intro h
    rw [List.find?_cons]
    by_cases e : p = [b]
    ·rw [decide_eq_true e, e]
    ·rw [decide_eq_false e]
     rcases List.mem_cons.1 h with h | h
     ·exact absurd h.symm e
     ·exact ih h
  exact key _ h1
 have htok : tokF ([b] ++ X) = .ok 2 [b] 0 := by
  unfold tokF
  rw [List.cons_append, List.takeWhile_cons, if_neg (by rw [h3]; decide), ← List.cons_append, hs]
 refine lexK_cons htok ?_
 rcases hc : isCom ([b] ++ X) with _ | _
 ·rfl
 ·obtain ⟨Z, hZ⟩ := isCom_eq hc
  injection hZ with e
  exact absurd e h2
theorem lexK_sp (X : List UInt8) : lexK (32 :: X) = lexK X := lexK_blank X (by decide)
theorem lexK_nl (X : List UInt8) : lexK (10 :: X) = lexK X := lexK_blank X (by decide)
theorem lexK_word {w X : List UInt8} (h : NameOk w) (hX : HdA X) : lexK (w ++ X) = (lexK X).map ((0, w, 0) :: ·) := by
 obtain ⟨-, r, hr⟩ := h
 exact lexK_al hr (by decide) hX
theorem valF_snoc (base : Nat) : ∀ (l : List UInt8) (m : Nat) (b : UInt8), valF base m (l ++ [b]) = (valF base m l).bind fun k => if k * base + hexN b < 18446744073709551616 then some (k * base + hexN b) else none
 | [], m, b => by
  show valF base m [b] = _
  unfold valF
  show _ = if m * base + hexN b < 18446744073709551616 then some (m * base + hexN b) else none
  split <;> rfl
 | c :: l, m, b => by
  show valF base m (c :: (l ++ [b])) = _
  unfold valF
  split
  ·exact valF_snoc base l _ b
  ·rfl
theorem dig_of (d : Nat) (h : d < 10) : isDig (UInt8.ofNat (48 + d)) = true ∧ hexN (UInt8.ofNat (48 + d)) = d := by
 have : ∀ d : Fin 10, isDig (UInt8.ofNat (48 + d.val)) = true ∧ hexN (UInt8.ofNat (48 + d.val)) = d.val := by decide
 exact this ⟨d, h⟩
theorem dec_all : ∀ n : Nat, (∀ c ∈ Lib.decDigits n, isDig c = true) ∧ (n < 18446744073709551616 → valF 10 0 (Lib.decDigits n) = some n) ∧ Lib.decDigits n ≠ [] := by
 intro n
 induction n using Nat.strongRecOn with
 | ind n ih =>
  rw [Lib.decDigits]
  by_cases h : n < 10
  ·rw [dif_pos h]
   obtain ⟨h1, h2⟩ := dig_of n h
   refine ⟨fun c hc => by rw [List.mem_singleton.1 hc]; exact h1, fun _ => ?_, by simp⟩
   unfold valF
   rw [h2, Nat.zero_mul, Nat.zero_add, if_pos (by omega)]
   rfl
  ·rw [dif_neg h]
   obtain ⟨i1, i2, i3⟩ := ih (n / 10) (by omega)
   obtain ⟨h1, h2⟩ := dig_of (n % 10) (by omega)
   refine ⟨fun c hc => ?_, fun hn => ?_, by simp⟩
   ·rcases List.mem_append.1 hc with hc | hc
    ·exact i1 c hc
    ·rw [List.mem_singleton.1 hc]; exact h1
   ·rw [valF_snoc, i2 (by omega)]
    show (if n / 10 * 10 + hexN _ < 18446744073709551616 then some (n / 10 * 10 + hexN _) else none) = some n
    rw [h2, if_pos (by omega)]
    congr 1
    omega
theorem tokF_dec (n : Nat) (h : n < 18446744073709551616) : tokF (Lib.decDigits n) = .ok 1 (Lib.decDigits n) n := by
 obtain ⟨h1, h2, h3⟩ := dec_all n
 have h2 := h2 h
 generalize Lib.decDigits n = t at *
 have htw : t.takeWhile alnum = t := by
  have := takeWhile_app (p := alnum) (l := t) (X := []) (fun c hc => by unfold alnum; rw [h1 c hc]; rfl) (fun c hc => by cases hc)
  rwa [List.append_nil] at this
 unfold tokF
 rw [htw]
 cases t with
 | nil => exact absurd rfl h3
 | cons b w =>
  dsimp only
  rw [h1 b List.mem_cons_self]
  show numF (b :: w) = _
  have hs : sixteen (b :: w) = false := by
   unfold sixteen
   cases w with
   | nil => simp [List.isPrefixOf]
   | cons d w =>
    have hd := h1 d (by simp)
    have : ((120 : UInt8) == d) = false := by
     rcases e : ((120 : UInt8) == d) with _ | _
     ·rfl
     ·rw [← eq_of_beq e] at hd; exact absurd hd (by decide)
    simp [List.isPrefixOf, this]
  unfold numF
  rw [hs, if_neg (by decide), if_pos (List.all_eq_true.2 h1), h2]
  rfl
def CE.opd (lv : Nat) (c : CE) : CE := if c.lv < lv then .par c else c
def CE.norm : CE → CE
 | .num _ n => .num (Lib.decDigits n) n
 | .name w => .name w
 | .not a => .not (a.norm.opd 9)
 | .par a => a.norm
 | .bin op a b => .bin op (a.norm.opd (levelV op)) (b.norm.opd (levelV op + 1))
def CE.tx : CE → List UInt8
 | .num t _ => t
 | .name w => w
 | .not a => 33 :: a.tx
 | .par a => 40 :: (a.tx ++ [41])
 | .bin op a b => a.tx ++ 32 :: (op ++ 32 :: b.tx)
def CE.nums : CE → Prop
 | .num _ n => n < 18446744073709551616
 | .name _ => True
 | .not a => a.nums
 | .par a => a.nums
 | .bin _ a b => a.nums ∧ b.nums
theorem opd_sz (lv : Nat) (c : CE) : (c.opd lv).sz = c.sz := by unfold CE.opd; split <;> rfl
theorem opd_ix (lv : Nat) (c : CE) (o : Nat) : (c.opd lv).ix o = c.ix o := by unfold CE.ix; rw [opd_sz]
theorem opd_flat (lv : Nat) (c : CE) (o : Nat) : (c.opd lv).flat o = c.flat o := by unfold CE.opd; split <;> rfl
theorem opd_ok {lv : Nat} {c : CE} (h : c.ok) : (c.opd lv).ok := by unfold CE.opd; split <;> exact h
theorem opd_lv {lv : Nat} (h9 : lv ≤ 9) (c : CE) : lv ≤ (c.opd lv).lv := by
 unfold CE.opd
 split
 ·exact h9
 ·omega
theorem norm_sz : ∀ c : CE, c.norm.sz = c.sz
 | .num _ _ => rfl
 | .name _ => rfl
 | .not a => by show (a.norm.opd 9).sz + 1 = _; rw [opd_sz, norm_sz a]; rfl
 | .par a => norm_sz a
 | .bin op a b => by show (a.norm.opd _).sz + (b.norm.opd _).sz + 1 = _; rw [opd_sz, opd_sz, norm_sz a, norm_sz b]; rfl
theorem norm_ix (c : CE) (o : Nat) : c.norm.ix o = c.ix o := by unfold CE.ix; rw [norm_sz]
theorem norm_flat : ∀ (c : CE) (o : Nat), c.norm.flat o = c.flat o
 | .num _ _, _ => rfl
 | .name _, _ => rfl
 | .not a, o => by show (a.norm.opd 9).flat o ++ [⟨2, [], 0, [], [(a.norm.opd 9).ix o]⟩] = _; rw [opd_flat, opd_ix, norm_flat a, norm_ix]; rfl
 | .par a, o => norm_flat a o
 | .bin op a b, o => by
  show (a.norm.opd _).flat o ++ (b.norm.opd _).flat (o + (a.norm.opd _).sz) ++ [⟨3, op, 0, [], [(a.norm.opd _).ix o, (b.norm.opd _).ix (o + (a.norm.opd _).sz)]⟩] = _
  rw [opd_flat, opd_flat, opd_sz, opd_ix, opd_ix, norm_flat a, norm_flat b, norm_sz, norm_ix, norm_ix]; rfl
theorem norm_ok : ∀ c : CE, c.ok → c.nums → c.norm.ok
 | .num t n, _, hn => ⟨_, tokF_dec n hn⟩
 | .name w, h, _ => h
 | .not a, h, hn => ⟨opd_ok (norm_ok a h.1 hn), Nat.le_antisymm (CE.lv_le _) (opd_lv (Nat.le_refl _) _)⟩
 | .par a, h, hn => norm_ok a h hn
 | .bin op a b, h, hn => ⟨opd_ok (norm_ok a h.1 hn.1), opd_ok (norm_ok b h.2.1 hn.2), h.2.2.1, h.2.2.2.1, opd_lv (Nat.le_succ_of_le (level_le _)) _, opd_lv (Nat.succ_le_succ (level_le _)) _⟩
theorem norm_dp : ∀ c : CE, c.ok → c.norm.dp ≤ c.dp ∧ (∀ lv, lv ≤ c.lv → (c.norm.opd lv).dp ≤ c.dp) := by
 have key : ∀ c : CE, c.norm.dp ≤ c.dp → c.norm.lv = c.lv → c.norm.dp ≤ c.dp ∧ (∀ lv, lv ≤ c.lv → (c.norm.opd lv).dp ≤ c.dp) := fun c h h2 => ⟨h, fun lv hl => by
  unfold CE.opd
  rw [if_neg (by omega)]
  exact h⟩
 intro c
 induction c with
 | num t n => exact fun _ => key _ (Nat.le_refl _) rfl
 | name w => exact fun _ => key _ (Nat.le_refl _) rfl
 | not a ih => exact fun h => key _ (Nat.succ_le_succ ((ih h.1).2 9 (by rw [h.2]; exact Nat.le_refl _))) rfl
 | par a ih => exact fun h => ⟨Nat.le_succ_of_le (ih h).1, fun lv _ => by
   show (a.norm.opd lv).dp ≤ a.dp + 1
   have := (ih h).1
   unfold CE.opd
   split
   ·exact Nat.succ_le_succ this
   ·exact Nat.le_succ_of_le this⟩
 | bin op a b iha ihb =>
   intro h
   have h1 := (iha h.1).2 (levelV op) h.2.2.2.2.1
   have h2 := (ihb h.2.1).2 (levelV op + 1) h.2.2.2.2.2
   exact key (.bin op a b) (show max (a.norm.opd (levelV op)).dp (b.norm.opd (levelV op + 1)).dp ≤ max a.dp b.dp by omega) rfl
theorem tx_head : ∀ c : CE, c.ok → ∃ b w, c.tx = b :: w ∧ safe b = true
 | .num t n, ⟨r, h⟩ => by
  rcases tokF_cases h with ⟨h1, -⟩ | ⟨-, ⟨b, w, rfl, -⟩, h2⟩ | ⟨h1, -⟩
  ·cases h1
  ·exact ⟨b, w, rfl, safe_alnum (h2 b List.mem_cons_self)⟩
  ·cases h1
 | .name w, ⟨_, r, h⟩ => by
  rcases tokF_cases h with ⟨h1, -⟩ | ⟨h1, -⟩ | ⟨-, -, -, ⟨b, w, rfl, -⟩, h2⟩
  ·cases h1
  ·cases h1
  ·exact ⟨b, w, rfl, safe_alnum (h2 b List.mem_cons_self)⟩
 | .not a, _ => ⟨33, a.tx, rfl, by decide +kernel⟩
 | .par a, _ => ⟨40, _, rfl, by decide +kernel⟩
 | .bin op a b, h => by
  obtain ⟨d, w, e, h1⟩ := tx_head a h.1
  exact ⟨d, w ++ 32 :: (op ++ 32 :: b.tx), by show a.tx ++ _ = _; rw [e]; rfl, h1⟩
theorem hdS_tx {c : CE} (h : c.ok) (X : List UInt8) : HdS (c.tx ++ X) := by
 obtain ⟨b, w, e, h1⟩ := tx_head c h
 rw [e]
 exact hdS_cons h1
theorem lexK_tx : ∀ (c : CE) (X : List UInt8), c.ok → HdA X → lexK (c.tx ++ X) = (lexK X).map (c.toks ++ ·)
 | .num t n, X, ⟨r, h⟩, hX => lexK_al h (by decide) hX
 | .name w, X, h, hX => lexK_word h hX
 | .not a, X, h, hX => by
  show lexK ([33] ++ (a.tx ++ X)) = _
  rw [lexK_sg (by decide) (hdS_tx h.1 X), lexK_tx a X h.1 hX]
  cases lexK X <;> rfl
 | .par a, X, h, hX => by
  show lexK ([40] ++ (a.tx ++ [41] ++ X)) = _
  rw [List.append_assoc, lexK_sg (by decide) (hdS_tx (c := a) h _), lexK_tx a ([41] ++ X) h (hdA_cons (by decide)), show lexK ([41] ++ X) = _ from lexK_cl1 (by decide +kernel) X]
  cases lexK X <;> simp [CE.toks]
 | .bin op a b, X, h, hX => by
  show lexK (a.tx ++ 32 :: (op ++ 32 :: b.tx) ++ X) = _
  rw [List.append_assoc, List.cons_append, lexK_tx a _ h.1 (hdA_cons (by decide)), lexK_sp, List.append_assoc, List.cons_append, lexK_sg h.2.2.2.1 (hdS_cons (by decide +kernel)), lexK_sp, lexK_tx b X h.2.1 hX]
  cases lexK X <;> simp [CE.toks]
end Go.Proofs.YtidnlfkakhmadaaGreatDoor

namespace Go.Proofs.YtidnlfkakhmadaaGreatDoor

abbrev EV := List (List UInt8 × Nat)
def getE : EV → List UInt8 → Option Nat
 | [], _ => none
 | p :: r, nm => match getE r nm with
  | some n => some n
  | none => if p.1 = nm then some p.2 else none
def numW (v : Nat) : Nat × Nat := if v < 18446744073709551616 then (v, 0) else (0, 5)
def subW (a b : Nat) : Nat × Nat := if a < b then (0, 5) else (a - b, 0)
def shlW (a n : Nat) : Nat × Nat := if 63 < n then (0, 5) else numW (a * 2 ^ n)
def shrW (a n : Nat) : Nat × Nat := if 63 < n then (0, 5) else (a / 2 ^ n, 0)
def divW (a b : Nat) : Nat × Nat := if b = 0 then (0, 6) else (a / b, 0)
def remW (a b : Nat) : Nat × Nat := if b = 0 then (0, 6) else (a % b, 0)
def yes (p : Bool) : Nat × Nat := (if p then 1 else 0, 0)
def opW (op : List UInt8) (a b : Nat) : Nat × Nat :=
 if op = [43] then numW (a + b) else if op = [45] then subW a b else if op = [42] then numW (a * b) else if op = [47] then divW a b else if op = [37] then remW a b else
 if op = [60, 60] then shlW a b else if op = [62, 62] then shrW a b else if op = [38] then (a &&& b, 0) else if op = [124] then (a ||| b, 0) else
 if op = [61, 61] then yes (decide (a = b)) else if op = [33, 61] then yes (!decide (a = b)) else if op = [60] then yes (decide (a < b)) else if op = [60, 61] then yes (decide (a ≤ b)) else
 if op = [62] then yes (decide (b < a)) else if op = [62, 61] then yes (decide (b ≤ a)) else if op = [38, 38] then yes (!decide (a = 0) && !decide (b = 0)) else if op = [124, 124] then yes (!decide (a = 0) || !decide (b = 0)) else (0, 4)
structure EI where
 k : Int
 op : List UInt8
 n : Nat
 nm : List UInt8
 kids : List Int
def EX.ei (x : EX) : EI := ⟨x.k, x.op, x.n, x.nm, x.kids⟩
inductive ET where
 | num (n : Nat)
 | name (w : List UInt8)
 | not (a : ET)
 | bin (op : List UInt8) (a b : ET)
def evalT (e : EV) : ET → Nat × Nat
 | .num n => (n, 0)
 | .name w => match getE e w with | none => (0, 11) | some n => (n, 0)
 | .not a => if (evalT e a).2 = 0 then yes (decide ((evalT e a).1 = 0)) else evalT e a
 | .bin op a b => if (evalT e a).2 = 0 then (if (evalT e b).2 = 0 then opW op (evalT e a).1 (evalT e b).1 else evalT e b) else evalT e a
def kidE (ts : List (Option ET)) (k : Int) : Option ET := if 0 ≤ k then (ts[k.toNat]?).join else none
def treeE (ts : List (Option ET)) (x : EI) : Option ET :=
 if x.k = 0 then some (.num x.n) else if x.k = 1 then some (.name x.nm) else
 if x.k = 2 then (match x.kids with | [a] => (kidE ts a).map .not | _ => none) else
 if x.k = 3 then (match x.kids with | [a, b] => (match kidE ts a, kidE ts b with | some t, some u => some (.bin x.op t u) | _, _ => none) | _ => none) else none
def treesE : List EI → List (Option ET) := List.foldl (fun ts x => ts ++ [treeE ts x]) []
def exprE (xs : List EI) (at' : Int) : Option ET := kidE (treesE xs) at'
def evalE (xs : List EI) (at' : Int) (e : EV) : Nat × Nat := match exprE xs at' with | none => (0, 2) | some t => evalT e t
def namesET : ET → List (List UInt8)
 | .num _ => []
 | .name w => [w]
 | .not a => namesET a
 | .bin _ a b => namesET a ++ namesET b
end Go.Proofs.YtidnlfkakhmadaaGreatDoor

namespace Go.Proofs.YtidnlfkakhmadaaGreatDoor
def CE.tree : CE → ET
 | .num _ n => .num n
 | .name w => .name w
 | .not a => .not a.tree
 | .par a => a.tree
 | .bin op a b => .bin op a.tree b.tree
end Go.Proofs.YtidnlfkakhmadaaGreatDoor

namespace Go.Proofs.YtidnlfkakhmadaaGreatDoor

def ET.sz : ET → Nat
 | .num _ => 1
 | .name _ => 1
 | .not a => a.sz + 1
 | .bin _ a b => a.sz + b.sz + 1
def ET.ix (t : ET) (o : Nat) : Int := ((o + t.sz - 1 : Nat) : Int)
def ET.flat : ET → Nat → List EX
 | .num n, _ => [⟨0, [], n, [], []⟩]
 | .name w, _ => [⟨1, [], 0, w, []⟩]
 | .not a, o => a.flat o ++ [⟨2, [], 0, [], [a.ix o]⟩]
 | .bin op a b, o => a.flat o ++ b.flat (o + a.sz) ++ [⟨3, op, 0, [], [a.ix o, b.ix (o + a.sz)]⟩]
def ET.lv : ET → Nat
 | .bin op _ _ => levelV op
 | _ => 9
def par' (b : Bool) (s : List UInt8) : List UInt8 := if b then 40 :: (s ++ [41]) else s
def ET.tx : ET → List UInt8
 | .num n => Lib.decDigits n
 | .name w => w
 | .not a => 33 :: par' (decide (a.lv < 9)) a.tx
 | .bin op a b => par' (decide (a.lv < levelV op)) a.tx ++ 32 :: (op ++ 32 :: par' (decide (b.lv < levelV op + 1)) b.tx)
def ET.opdX (lv : Nat) (t : ET) : List UInt8 := par' (decide (t.lv < lv)) t.tx
def ET.nums : ET → Prop
 | .num n => n < 18446744073709551616
 | .name _ => True
 | .not a => a.nums
 | .bin _ a b => a.nums ∧ b.nums
theorem ET.sz_pos (t : ET) : 0 < t.sz := by cases t <;> simp [ET.sz]
theorem ET.flat_len : ∀ (t : ET) (o : Nat), (t.flat o).length = t.sz
 | .num _, _ => rfl
 | .name _, _ => rfl
 | .not a, o => by simp [ET.flat, ET.sz, a.flat_len]
 | .bin _ a b, o => by simp [ET.flat, ET.sz, a.flat_len, b.flat_len]; omega
theorem tree_sz : ∀ c : CE, c.tree.sz = c.sz
 | .num _ _ => rfl
 | .name _ => rfl
 | .not a => by show a.tree.sz + 1 = _; rw [tree_sz a]; rfl
 | .par a => tree_sz a
 | .bin _ a b => by show a.tree.sz + b.tree.sz + 1 = _; rw [tree_sz a, tree_sz b]; rfl
theorem tree_ix (c : CE) (o : Nat) : c.tree.ix o = c.ix o := by unfold ET.ix CE.ix; rw [tree_sz]
theorem tree_flat : ∀ (c : CE) (o : Nat), c.tree.flat o = c.flat o
 | .num _ _, _ => rfl
 | .name _, _ => rfl
 | .not a, o => by show a.tree.flat o ++ [⟨2, [], 0, [], [a.tree.ix o]⟩] = _; rw [tree_flat a, tree_ix]; rfl
 | .par a, o => tree_flat a o
 | .bin op a b, o => by
  show a.tree.flat o ++ b.tree.flat (o + a.tree.sz) ++ [⟨3, op, 0, [], [a.tree.ix o, b.tree.ix (o + a.tree.sz)]⟩] = _
  rw [tree_flat a, tree_flat b, tree_sz, tree_ix, tree_ix]; rfl
theorem tree_lv : ∀ c : CE, c.norm.lv = c.tree.lv
 | .num _ _ => rfl
 | .name _ => rfl
 | .not _ => rfl
 | .par a => tree_lv a
 | .bin _ _ _ => rfl
theorem opd_tx (lv : Nat) (c : CE) : (c.opd lv).tx = par' (decide (c.lv < lv)) c.tx := by
 unfold CE.opd par'
 by_cases h : c.lv < lv
 ·rw [if_pos h, decide_eq_true h]; rfl
 ·rw [if_neg h, decide_eq_false h]; rfl
theorem tree_tx : ∀ c : CE, c.norm.tx = c.tree.tx
 | .num _ _ => rfl
 | .name _ => rfl
 | .not a => by show 33 :: (a.norm.opd 9).tx = 33 :: par' (decide (a.tree.lv < 9)) a.tree.tx; rw [opd_tx, tree_lv, tree_tx a]
 | .par a => tree_tx a
 | .bin op a b => by
  show (a.norm.opd (levelV op)).tx ++ 32 :: (op ++ 32 :: (b.norm.opd (levelV op + 1)).tx) = par' (decide (a.tree.lv < levelV op)) a.tree.tx ++ 32 :: (op ++ 32 :: par' (decide (b.tree.lv < levelV op + 1)) b.tree.tx)
  rw [opd_tx, opd_tx, tree_lv, tree_lv, tree_tx a, tree_tx b]
theorem tree_nums : ∀ c : CE, c.nums → c.tree.nums
 | .num _ _, h => h
 | .name _, h => h
 | .not a, h => tree_nums a h
 | .par a, h => tree_nums a h
 | .bin _ a b, h => ⟨tree_nums a h.1, tree_nums b h.2⟩
end Go.Proofs.YtidnlfkakhmadaaGreatDoor

namespace Go.Proofs
open Go.Shelf
def Tryz.lays156_ren : Go.Shelf.Ren := ⟨fun | 156 => 28 | 165 => 48 | 166 => 8 | 169 => 9 | 240 => 19 | 241 => 64 | 276 => 41 | 277 => 78 | n => n, fun | 31 => 33 | 9 => 9 | 3 => 3 | 4 => 4 | 0 => 0 | 20 => 20 | 72 => 36 | 76 => 43 | 70 => 34 | 37 => 22 | 75 => 42 | 127 => 76 | 164 => 108 | 5 => 5 | 80 => 45 | n => n, fun | n => n⟩
theorem Tryz.lays156 : Go.Proofs.Lays.n156 Tryz.prog Tryz.lays156_ren := {
 mixed := by kernel_rfl
 f156 := Tryz.func28.trans (congrArg some (by kernel_rfl))
 f165 := Tryz.func48.trans (congrArg some (by kernel_rfl))
 f166 := Tryz.func8.trans (congrArg some (by kernel_rfl))
 f169 := Tryz.func9.trans (congrArg some (by kernel_rfl))
 f240 := Tryz.func19.trans (congrArg some (by kernel_rfl))
 f241 := Tryz.func64.trans (congrArg some (by kernel_rfl))
 f276 := Tryz.func41.trans (congrArg some (by kernel_rfl))
 f277 := Tryz.func78.trans (congrArg some (by kernel_rfl))
 t0 := Tryz.underlying0
 a0 := Tryz.isAgg0
 z0 := Tryz.sizeOf0
 v0 := Tryz.zeroValue0
 t3 := Tryz.underlying3
 a3 := Tryz.isAgg3
 z3 := Tryz.sizeOf3
 v3 := Tryz.zeroValue3
 t4 := Tryz.underlying4
 a4 := Tryz.isAgg4
 z4 := Tryz.sizeOf4
 v4 := Tryz.zeroValue4
 t9 := Tryz.underlying9
 a9 := Tryz.isAgg9
 z9 := Tryz.sizeOf9
 v9 := Tryz.zeroValue9
 t20 := Tryz.underlying20
 a20 := Tryz.isAgg20
 z20 := Tryz.sizeOf20
 v20 := Tryz.zeroValue20
 t31 := Tryz.underlying33
 a31 := Tryz.isAgg33
 z31 := Tryz.sizeOf33
 v31 := Tryz.zeroValue33
 t37 := Tryz.underlying22
 a37 := Tryz.isAgg22
 z37 := Tryz.sizeOf22
 v37 := Tryz.zeroValue22
 t70 := Tryz.underlying34
 a70 := Tryz.isAgg34
 z70 := Tryz.sizeOf34
 v70 := Tryz.zeroValue34
 t72 := Tryz.underlying36
 a72 := Tryz.isAgg36
 z72 := Tryz.sizeOf36
 v72 := Tryz.zeroValue36
 t75 := Tryz.underlying42
 a75 := Tryz.isAgg42
 z75 := Tryz.sizeOf42
 v75 := Tryz.zeroValue42
 t76 := Tryz.underlying43
 a76 := Tryz.isAgg43
 z76 := Tryz.sizeOf43
 v76 := Tryz.zeroValue43
 t127 := Tryz.underlying76
 a127 := Tryz.isAgg76
 z127 := Tryz.sizeOf76
 v127 := Tryz.zeroValue76
 t164 := Tryz.underlying108
 a164 := Tryz.isAgg108
 z164 := Tryz.sizeOf108
 v164 := Tryz.zeroValue108 }
theorem Tryz.Builder_Extra_156 : Builder.Extra Tryz.prog Tryz.lays156_ren := {
 sizeBuilder := by kernel_rfl
 liesBuilder := by kernel_rfl
 t5 := Tryz.underlying5
 a5 := Tryz.isAgg5
 z5 := Tryz.sizeOf5
 v5 := Tryz.zeroValue5
 infoByte := by kernel_rfl
 cellsByte := by kernel_rfl
 sizeByte := by kernel_rfl
 neB5 := by decide }
open Go.RowKit in
theorem Tryz.strings_Join_none (a : Option Addr) (c : Nat) (sep : ByteArray) (w : World) :
  Calls Tryz.prog 28 #[.slice a 0 c, .string sep] w fun e w' => e = .returned (.string ⟨#[]⟩) ∧ w' = w := Any.strings_Join_none Tryz.lays156 Tryz.Builder_Extra_156 a c sep w
open Go.RowKit in
theorem Tryz.strings_Join (bk o c : Nat) (xs : List ByteArray) (sep : ByteArray) (w : World) (hcells : ∀ (j : Nat) x, xs[j]? = some x → w.cell? ⟨bk, o + j, none⟩ = some (.string x)) (hbk : bk < w.heap.size) (hN : xs.length ≤ 140737488355328) (hcap : xs.length ≤ c) (hlen : (Lib.join (xs.map (·.data.toList)) sep.data.toList).length ≤ 140737488355328) :
  Calls Tryz.prog 28 #[.slice (some ⟨bk, o, none⟩) xs.length c, .string sep] w fun e w' => e = .returned (.string ⟨(Lib.join (xs.map (·.data.toList)) sep.data.toList).toArray⟩) ∧ Below w.heap.size w w' := Any.strings_Join Tryz.lays156 Tryz.Builder_Extra_156 bk o c xs sep w hcells hbk hN hcap hlen
def Tryz.lays161_ren : Go.Shelf.Ren := ⟨fun | 161 => 49 | 231 => 65 | 227 => 66 | 233 => 67 | 235 => 68 | 228 => 79 | 197 => 80 | 151 => 81 | 260 => 111 | 152 => 112 | 137 => 132 | 119 => 133 | 224 => 84 | 225 => 83 | 217 => 82 | 266 => 113 | n => n, fun | 9 => 9 | 4 => 4 | 3 => 3 | 5 => 5 | 117 => 140 | 116 => 139 | 0 => 0 | 124 => 143 | 105 => 153 | 21 => 21 | 119 => 195 | 46 => 158 | 139 => 198 | 138 => 197 | n => n, fun | 3 => 5 | 4 => 6 | n => n⟩
theorem Tryz.lays161 : Go.Proofs.Lays.n161 Tryz.prog Tryz.lays161_ren := {
 mixed := by kernel_rfl
 f119 := Tryz.func133.trans (congrArg some (by kernel_rfl))
 f137 := Tryz.func132.trans (congrArg some (by kernel_rfl))
 f151 := Tryz.func81.trans (congrArg some (by kernel_rfl))
 f152 := Tryz.func112.trans (congrArg some (by kernel_rfl))
 f161 := Tryz.func49.trans (congrArg some (by kernel_rfl))
 f197 := Tryz.func80.trans (congrArg some (by kernel_rfl))
 f217 := Tryz.func82.trans (congrArg some (by kernel_rfl))
 f224 := Tryz.func84.trans (congrArg some (by kernel_rfl))
 f225 := Tryz.func83.trans (congrArg some (by kernel_rfl))
 f227 := Tryz.func66.trans (congrArg some (by kernel_rfl))
 f228 := Tryz.func79.trans (congrArg some (by kernel_rfl))
 f231 := Tryz.func65.trans (congrArg some (by kernel_rfl))
 f233 := Tryz.func67.trans (congrArg some (by kernel_rfl))
 f235 := Tryz.func68.trans (congrArg some (by kernel_rfl))
 f260 := Tryz.func111.trans (congrArg some (by kernel_rfl))
 f266 := Tryz.func113.trans (congrArg some (by kernel_rfl))
 t0 := Tryz.underlying0
 a0 := Tryz.isAgg0
 z0 := Tryz.sizeOf0
 v0 := Tryz.zeroValue0
 t3 := Tryz.underlying3
 a3 := Tryz.isAgg3
 z3 := Tryz.sizeOf3
 v3 := Tryz.zeroValue3
 t4 := Tryz.underlying4
 a4 := Tryz.isAgg4
 z4 := Tryz.sizeOf4
 v4 := Tryz.zeroValue4
 t5 := Tryz.underlying5
 a5 := Tryz.isAgg5
 z5 := Tryz.sizeOf5
 v5 := Tryz.zeroValue5
 t9 := Tryz.underlying9
 a9 := Tryz.isAgg9
 z9 := Tryz.sizeOf9
 v9 := Tryz.zeroValue9
 t21 := Tryz.underlying21
 a21 := Tryz.isAgg21
 z21 := Tryz.sizeOf21
 v21 := Tryz.zeroValue21
 t46 := Tryz.underlying158
 a46 := Tryz.isAgg158
 z46 := Tryz.sizeOf158
 v46 := Tryz.zeroValue158
 t105 := Tryz.underlying153
 a105 := Tryz.isAgg153
 z105 := Tryz.sizeOf153
 v105 := Tryz.zeroValue153
 t116 := Tryz.underlying139
 a116 := Tryz.isAgg139
 z116 := Tryz.sizeOf139
 t117 := Tryz.underlying140
 a117 := Tryz.isAgg140
 z117 := Tryz.sizeOf140
 v117 := Tryz.zeroValue140
 t119 := Tryz.underlying195
 a119 := Tryz.isAgg195
 z119 := Tryz.sizeOf195
 t124 := Tryz.underlying143
 a124 := Tryz.isAgg143
 z124 := Tryz.sizeOf143
 v124 := Tryz.zeroValue143
 t138 := Tryz.underlying197
 a138 := Tryz.isAgg197
 z138 := Tryz.sizeOf197
 v138 := Tryz.zeroValue197
 t139 := Tryz.underlying198
 a139 := Tryz.isAgg198
 z139 := Tryz.sizeOf198
 v139 := Tryz.zeroValue198
 g3 := by kernel_rfl
 g4 := by kernel_rfl }
open Go.RowKit in
open Go.RowKit in
def Tryz.lays283_ren : Go.Shelf.Ren := ⟨fun | 283 => 103 | n => n, fun | 3 => 3 | 9 => 9 | 4 => 4 | n => n, fun | n => n⟩
theorem Tryz.lays283 : Go.Proofs.Lays.n283 Tryz.prog Tryz.lays283_ren := {
 mixed := by kernel_rfl
 f283 := Tryz.func103.trans (congrArg some (by kernel_rfl))
 t3 := Tryz.underlying3
 a3 := Tryz.isAgg3
 z3 := Tryz.sizeOf3
 v3 := Tryz.zeroValue3
 t4 := Tryz.underlying4
 a4 := Tryz.isAgg4
 z4 := Tryz.sizeOf4
 v4 := Tryz.zeroValue4
 t9 := Tryz.underlying9
 a9 := Tryz.isAgg9
 z9 := Tryz.sizeOf9
 v9 := Tryz.zeroValue9 }
open Go.Lib in
theorem Tryz.internal_strconv_small (i : Nat) (h : i < 100) (w : World) :
  Calls Tryz.prog 103 #[.int .i64 i] w fun e w' => e = .returned (.string ⟨(Lib.decDigits i).toArray⟩) ∧ w' = w := Any.internal_strconv_small Tryz.lays283 i h w
def Tryz.laysM284_ren : Go.Shelf.Ren := ⟨fun | 284 => 104 | 129 => 124 | 317 => 123 | 318 => 125 | n => n, fun | 53 => 38 | 3 => 3 | 212 => 188 | 0 => 0 | 4 => 4 | 46 => 158 | 5 => 5 | 9 => 9 | n => n, fun | 17 => 4 | n => n⟩
theorem Tryz.laysM284 : Go.Proofs.LaysM.n284 Tryz.prog Tryz.laysM284_ren := {
 mixed := by kernel_rfl
 f129 := Tryz.func124.trans (congrArg some (by kernel_rfl))
 f284 := Tryz.func104.trans (congrArg some (by kernel_rfl))
 f317 := Tryz.func123.trans (congrArg some (by kernel_rfl))
 f318 := Tryz.func125.trans (congrArg some (by kernel_rfl))
 t0 := Tryz.underlying0
 a0 := Tryz.isAgg0
 z0 := Tryz.sizeOf0
 v0 := Tryz.zeroValue0
 t3 := Tryz.underlying3
 a3 := Tryz.isAgg3
 z3 := Tryz.sizeOf3
 v3 := Tryz.zeroValue3
 t4 := Tryz.underlying4
 a4 := Tryz.isAgg4
 z4 := Tryz.sizeOf4
 v4 := Tryz.zeroValue4
 t5 := Tryz.underlying5
 a5 := Tryz.isAgg5
 z5 := Tryz.sizeOf5
 v5 := Tryz.zeroValue5
 t9 := Tryz.underlying9
 a9 := Tryz.isAgg9
 z9 := Tryz.sizeOf9
 v9 := Tryz.zeroValue9
 t46 := Tryz.underlying158
 a46 := Tryz.isAgg158
 z46 := Tryz.sizeOf158
 v46 := Tryz.zeroValue158
 t53 := Tryz.underlying38
 a53 := Tryz.isAgg38
 z53 := Tryz.sizeOf38
 v53 := Tryz.zeroValue38
 t212 := Tryz.underlying188
 a212 := Tryz.isAgg188
 z212 := Tryz.sizeOf188
 v212 := Tryz.zeroValue188
 g17 := by kernel_rfl
 i0 := by kernel_rfl
 i3 := by kernel_rfl
 i4 := by kernel_rfl
 i5 := by kernel_rfl
 i9 := by kernel_rfl
 i46 := by kernel_rfl
 i53 := by kernel_rfl
 i212 := by kernel_rfl
 m17 := by kernel_rfl }
open Go.Lib in
theorem Tryz.internal_strconv_numDigits (u : Nat) (h1 : 1 ≤ u) (h2 : u < 18446744073709551616) (w : World) (htab : Lib.TabIs Tryz.prog w "internal/strconv.uint64pow10" .u64 Lib.pow10Tab) :
  Calls Tryz.prog 104 #[.int .u64 u] w fun e w' => e = .returned (.int .i64 (Lib.nDigits u)) ∧ w' = w := Any.internal_strconv_numDigits Tryz.laysM284 u h1 h2 w htab
def Tryz.lays285_ren : Go.Shelf.Ren := ⟨fun | 285 => 105 | n => n, fun | 37 => 22 | 53 => 38 | 3 => 3 | 4 => 4 | 51 => 177 | 9 => 9 | 5 => 5 | 0 => 0 | n => n, fun | n => n⟩
theorem Tryz.lays285 : Go.Proofs.Lays.n285 Tryz.prog Tryz.lays285_ren := {
 mixed := by kernel_rfl
 f285 := Tryz.func105.trans (congrArg some (by kernel_rfl))
 t0 := Tryz.underlying0
 a0 := Tryz.isAgg0
 z0 := Tryz.sizeOf0
 v0 := Tryz.zeroValue0
 t3 := Tryz.underlying3
 a3 := Tryz.isAgg3
 z3 := Tryz.sizeOf3
 v3 := Tryz.zeroValue3
 t4 := Tryz.underlying4
 a4 := Tryz.isAgg4
 z4 := Tryz.sizeOf4
 v4 := Tryz.zeroValue4
 t5 := Tryz.underlying5
 a5 := Tryz.isAgg5
 z5 := Tryz.sizeOf5
 v5 := Tryz.zeroValue5
 t9 := Tryz.underlying9
 a9 := Tryz.isAgg9
 z9 := Tryz.sizeOf9
 v9 := Tryz.zeroValue9
 t37 := Tryz.underlying22
 a37 := Tryz.isAgg22
 z37 := Tryz.sizeOf22
 v37 := Tryz.zeroValue22
 t51 := Tryz.underlying177
 a51 := Tryz.isAgg177
 z51 := Tryz.sizeOf177
 v51 := Tryz.zeroValue177
 t53 := Tryz.underlying38
 a53 := Tryz.isAgg38
 z53 := Tryz.sizeOf38
 v53 := Tryz.zeroValue38 }
open Go.RowKit Go.Sort Go.Lib in
theorem Tryz.internal_strconv_formatBase10 (blk off cap : Nat) (u : Nat) (d : Array UInt8) (w : World) (hH : Holds (fun (b : UInt8) => Value.int .u8 (b.toNat : Int)) w blk off d) (hu : u < 10 ^ d.size) (hu64 : u < 18446744073709551616) (hsz : d.size < 4611686018427387904) :
  Calls Tryz.prog 105 #[.slice (some ⟨blk, off, none⟩) d.size cap, .int .u64 u] w fun e w' =>
   e = .returned (.tuple #[]) ∧ ∃ (n v' : Nat) (dk : Array UInt8), w' = (putRow (fun (b : UInt8) => Value.int .u8 (b.toNat : Int)) w blk off dk).drewN n ∧ FmtInv d.size u 0 v' dk := Any.internal_strconv_formatBase10 Tryz.lays285 blk off cap u d w hH hu hu64 hsz
def Tryz.laysM171_ren : Go.Shelf.Ren := ⟨fun | 171 => 117 | 243 => 134 | 246 => 139 | 283 => 103 | 284 => 104 | 285 => 105 | 286 => 106 | 129 => 124 | 317 => 123 | 318 => 125 | 319 => 126 | 320 => 127 | 337 => 135 | 338 => 136 | n => n, fun | 3 => 3 | 9 => 9 | 2 => 2 | 4 => 4 | 171 => 170 | 0 => 0 | 53 => 38 | 37 => 22 | 5 => 5 | 173 => 173 | 212 => 188 | 51 => 177 | 20 => 20 | 213 => 189 | 46 => 158 | 232 => 207 | 233 => 208 | n => n, fun | 17 => 4 | 18 => 7 | 19 => 8 | n => n⟩
theorem Tryz.laysM171 : Go.Proofs.LaysM.n171 Tryz.prog Tryz.laysM171_ren := {
 mixed := by kernel_rfl
 f129 := Tryz.func124.trans (congrArg some (by kernel_rfl))
 f171 := Tryz.func117.trans (congrArg some (by kernel_rfl))
 f243 := Tryz.func134.trans (congrArg some (by kernel_rfl))
 f246 := Tryz.func139.trans (congrArg some (by kernel_rfl))
 f283 := Tryz.func103.trans (congrArg some (by kernel_rfl))
 f284 := Tryz.func104.trans (congrArg some (by kernel_rfl))
 f285 := Tryz.func105.trans (congrArg some (by kernel_rfl))
 f286 := Tryz.func106.trans (congrArg some (by kernel_rfl))
 f317 := Tryz.func123.trans (congrArg some (by kernel_rfl))
 f318 := Tryz.func125.trans (congrArg some (by kernel_rfl))
 f319 := Tryz.func126.trans (congrArg some (by kernel_rfl))
 f320 := Tryz.func127.trans (congrArg some (by kernel_rfl))
 f337 := Tryz.func135.trans (congrArg some (by kernel_rfl))
 f338 := Tryz.func136.trans (congrArg some (by kernel_rfl))
 t0 := Tryz.underlying0
 a0 := Tryz.isAgg0
 z0 := Tryz.sizeOf0
 v0 := Tryz.zeroValue0
 t2 := Tryz.underlying2
 a2 := Tryz.isAgg2
 z2 := Tryz.sizeOf2
 v2 := Tryz.zeroValue2
 t3 := Tryz.underlying3
 a3 := Tryz.isAgg3
 z3 := Tryz.sizeOf3
 v3 := Tryz.zeroValue3
 t4 := Tryz.underlying4
 a4 := Tryz.isAgg4
 z4 := Tryz.sizeOf4
 v4 := Tryz.zeroValue4
 t5 := Tryz.underlying5
 a5 := Tryz.isAgg5
 z5 := Tryz.sizeOf5
 v5 := Tryz.zeroValue5
 t9 := Tryz.underlying9
 a9 := Tryz.isAgg9
 z9 := Tryz.sizeOf9
 v9 := Tryz.zeroValue9
 t20 := Tryz.underlying20
 a20 := Tryz.isAgg20
 z20 := Tryz.sizeOf20
 v20 := Tryz.zeroValue20
 t37 := Tryz.underlying22
 a37 := Tryz.isAgg22
 z37 := Tryz.sizeOf22
 v37 := Tryz.zeroValue22
 t46 := Tryz.underlying158
 a46 := Tryz.isAgg158
 z46 := Tryz.sizeOf158
 v46 := Tryz.zeroValue158
 t51 := Tryz.underlying177
 a51 := Tryz.isAgg177
 z51 := Tryz.sizeOf177
 v51 := Tryz.zeroValue177
 t53 := Tryz.underlying38
 a53 := Tryz.isAgg38
 z53 := Tryz.sizeOf38
 v53 := Tryz.zeroValue38
 t171 := Tryz.underlying170
 a171 := Tryz.isAgg170
 z171 := Tryz.sizeOf170
 v171 := Tryz.zeroValue170
 t173 := Tryz.underlying173
 a173 := Tryz.isAgg173
 z173 := Tryz.sizeOf173
 v173 := Tryz.zeroValue173
 t212 := Tryz.underlying188
 a212 := Tryz.isAgg188
 z212 := Tryz.sizeOf188
 v212 := Tryz.zeroValue188
 t213 := Tryz.underlying189
 a213 := Tryz.isAgg189
 z213 := Tryz.sizeOf189
 t232 := Tryz.underlying207
 a232 := Tryz.isAgg207
 z232 := Tryz.sizeOf207
 v232 := Tryz.zeroValue207
 t233 := Tryz.underlying208
 a233 := Tryz.isAgg208
 z233 := Tryz.sizeOf208
 v233 := Tryz.zeroValue208
 g17 := by kernel_rfl
 g18 := by kernel_rfl
 g19 := by kernel_rfl
 i0 := by kernel_rfl
 i2 := by kernel_rfl
 i3 := by kernel_rfl
 i4 := by kernel_rfl
 i5 := by kernel_rfl
 i9 := by kernel_rfl
 i20 := by kernel_rfl
 i37 := by kernel_rfl
 i46 := by kernel_rfl
 i51 := by kernel_rfl
 i53 := by kernel_rfl
 i171 := by kernel_rfl
 i173 := by kernel_rfl
 i212 := by kernel_rfl
 i232 := by kernel_rfl
 i233 := by kernel_rfl
 m17 := by kernel_rfl
 m18 := by kernel_rfl
 m19 := by kernel_rfl }
open Go.RowKit Go.Sort Go.Lib in
theorem Tryz.strconv_Itoa (n : Int) (h0 : -9223372036854775808 ≤ n) (h1 : n ≤ 9223372036854775807) (w : World) (htab : Lib.TabIs Tryz.prog w "internal/strconv.uint64pow10" .u64 Lib.pow10Tab) :
  Calls Tryz.prog 117 #[.int .i64 n] w fun e w' => e = .returned (.string ⟨(Lib.itoa n).toArray⟩) ∧ ∃ k os, w' = grow (w.drewN k) os := Any.strconv_Itoa Tryz.laysM171 n h0 h1 w htab
def Tryz.laysC245_ren : Go.Shelf.Ren := ⟨fun | 245 => 72 | 279 => 89 | 280 => 90 | 281 => 91 | 282 => 92 | 316 => 115 | 171 => 117 | 205 => 116 | 243 => 134 | 246 => 139 | 283 => 103 | 284 => 104 | 285 => 105 | 286 => 106 | 129 => 124 | 317 => 123 | 318 => 125 | 319 => 126 | 320 => 127 | 337 => 135 | 338 => 136 | n => n, fun | 9 => 9 | 3 => 3 | 75 => 42 | 167 => 159 | 4 => 4 | 168 => 161 | 210 => 182 | 37 => 22 | 0 => 0 | 127 => 76 | 145 => 202 | 143 => 200 | 2 => 2 | 171 => 170 | 53 => 38 | 5 => 5 | 173 => 173 | 212 => 188 | 51 => 177 | 20 => 20 | 213 => 189 | 46 => 158 | 232 => 207 | 233 => 208 | 80 => 45 | n => n, fun | 15 => 2 | 16 => 3 | 17 => 4 | 18 => 7 | 19 => 8 | n => n⟩
theorem Tryz.laysC245 : Go.Proofs.LaysC.n245 Tryz.prog Tryz.laysC245_ren := {
 mixed := by kernel_rfl
 f129 := Tryz.func124.trans (congrArg some (by kernel_rfl))
 f171 := Tryz.func117.trans (congrArg some (by kernel_rfl))
 f205 := Tryz.func116.trans (congrArg some (by kernel_rfl))
 f243 := Tryz.func134.trans (congrArg some (by kernel_rfl))
 f245 := Tryz.func72.trans (congrArg some (by kernel_rfl))
 f246 := Tryz.func139.trans (congrArg some (by kernel_rfl))
 f279 := Tryz.func89.trans (congrArg some (by kernel_rfl))
 f280 := Tryz.func90.trans (congrArg some (by kernel_rfl))
 f281 := Tryz.func91.trans (congrArg some (by kernel_rfl))
 f282 := Tryz.func92.trans (congrArg some (by kernel_rfl))
 f283 := Tryz.func103.trans (congrArg some (by kernel_rfl))
 f284 := Tryz.func104.trans (congrArg some (by kernel_rfl))
 f285 := Tryz.func105.trans (congrArg some (by kernel_rfl))
 f286 := Tryz.func106.trans (congrArg some (by kernel_rfl))
 f316 := Tryz.func115.trans (congrArg some (by kernel_rfl))
 f317 := Tryz.func123.trans (congrArg some (by kernel_rfl))
 f318 := Tryz.func125.trans (congrArg some (by kernel_rfl))
 f319 := Tryz.func126.trans (congrArg some (by kernel_rfl))
 f320 := Tryz.func127.trans (congrArg some (by kernel_rfl))
 f337 := Tryz.func135.trans (congrArg some (by kernel_rfl))
 f338 := Tryz.func136.trans (congrArg some (by kernel_rfl))
 t0 := Tryz.underlying0
 a0 := Tryz.isAgg0
 z0 := Tryz.sizeOf0
 v0 := Tryz.zeroValue0
 t2 := Tryz.underlying2
 a2 := Tryz.isAgg2
 z2 := Tryz.sizeOf2
 v2 := Tryz.zeroValue2
 t3 := Tryz.underlying3
 a3 := Tryz.isAgg3
 z3 := Tryz.sizeOf3
 v3 := Tryz.zeroValue3
 t4 := Tryz.underlying4
 a4 := Tryz.isAgg4
 z4 := Tryz.sizeOf4
 v4 := Tryz.zeroValue4
 t5 := Tryz.underlying5
 a5 := Tryz.isAgg5
 z5 := Tryz.sizeOf5
 v5 := Tryz.zeroValue5
 t9 := Tryz.underlying9
 a9 := Tryz.isAgg9
 z9 := Tryz.sizeOf9
 v9 := Tryz.zeroValue9
 t20 := Tryz.underlying20
 a20 := Tryz.isAgg20
 z20 := Tryz.sizeOf20
 v20 := Tryz.zeroValue20
 t37 := Tryz.underlying22
 a37 := Tryz.isAgg22
 z37 := Tryz.sizeOf22
 v37 := Tryz.zeroValue22
 t46 := Tryz.underlying158
 a46 := Tryz.isAgg158
 z46 := Tryz.sizeOf158
 v46 := Tryz.zeroValue158
 t51 := Tryz.underlying177
 a51 := Tryz.isAgg177
 z51 := Tryz.sizeOf177
 v51 := Tryz.zeroValue177
 t53 := Tryz.underlying38
 a53 := Tryz.isAgg38
 z53 := Tryz.sizeOf38
 v53 := Tryz.zeroValue38
 t75 := Tryz.underlying42
 a75 := Tryz.isAgg42
 z75 := Tryz.sizeOf42
 v75 := Tryz.zeroValue42
 t127 := Tryz.underlying76
 a127 := Tryz.isAgg76
 z127 := Tryz.sizeOf76
 v127 := Tryz.zeroValue76
 t143 := Tryz.underlying200
 a143 := Tryz.isAgg200
 z143 := Tryz.sizeOf200
 v143 := Tryz.zeroValue200
 t145 := Tryz.underlying202
 a145 := Tryz.isAgg202
 z145 := Tryz.sizeOf202
 v145 := Tryz.zeroValue202
 t167 := Tryz.underlying159
 a167 := Tryz.isAgg159
 z167 := Tryz.sizeOf159
 v167 := Tryz.zeroValue159
 t168 := Tryz.underlying161
 a168 := Tryz.isAgg161
 z168 := Tryz.sizeOf161
 v168 := Tryz.zeroValue161
 t171 := Tryz.underlying170
 a171 := Tryz.isAgg170
 z171 := Tryz.sizeOf170
 v171 := Tryz.zeroValue170
 t173 := Tryz.underlying173
 a173 := Tryz.isAgg173
 z173 := Tryz.sizeOf173
 v173 := Tryz.zeroValue173
 t210 := Tryz.underlying182
 a210 := Tryz.isAgg182
 z210 := Tryz.sizeOf182
 v210 := Tryz.zeroValue182
 t212 := Tryz.underlying188
 a212 := Tryz.isAgg188
 z212 := Tryz.sizeOf188
 v212 := Tryz.zeroValue188
 t213 := Tryz.underlying189
 a213 := Tryz.isAgg189
 z213 := Tryz.sizeOf189
 t232 := Tryz.underlying207
 a232 := Tryz.isAgg207
 z232 := Tryz.sizeOf207
 v232 := Tryz.zeroValue207
 t233 := Tryz.underlying208
 a233 := Tryz.isAgg208
 z233 := Tryz.sizeOf208
 v233 := Tryz.zeroValue208
 g15 := by kernel_rfl
 g16 := by kernel_rfl
 g17 := by kernel_rfl
 g18 := by kernel_rfl
 g19 := by kernel_rfl
 t80 := Tryz.underlying45
 a80 := Tryz.isAgg45
 z80 := Tryz.sizeOf45
 v80 := Tryz.zeroValue45
 i0 := by kernel_rfl
 i2 := by kernel_rfl
 i3 := by kernel_rfl
 i4 := by kernel_rfl
 i5 := by kernel_rfl
 i9 := by kernel_rfl
 i20 := by kernel_rfl
 i37 := by kernel_rfl
 i46 := by kernel_rfl
 i51 := by kernel_rfl
 i53 := by kernel_rfl
 i75 := by kernel_rfl
 i80 := by kernel_rfl
 i127 := by kernel_rfl
 i143 := by kernel_rfl
 i145 := by kernel_rfl
 i167 := by kernel_rfl
 i168 := by kernel_rfl
 i171 := by kernel_rfl
 i173 := by kernel_rfl
 i210 := by kernel_rfl
 i212 := by kernel_rfl
 i232 := by kernel_rfl
 i233 := by kernel_rfl
 m15 := by kernel_rfl
 m16 := by kernel_rfl
 m17 := by kernel_rfl
 m18 := by kernel_rfl
 m19 := by kernel_rfl
 c0 := by kernel_rfl
 c2 := by kernel_rfl
 c3 := by kernel_rfl
 c4 := by kernel_rfl
 c5 := by kernel_rfl
 c9 := by kernel_rfl
 c20 := by kernel_rfl
 c37 := by kernel_rfl
 c46 := by kernel_rfl
 c51 := by kernel_rfl
 c53 := by kernel_rfl
 c75 := by kernel_rfl
 c80 := by kernel_rfl
 c127 := by kernel_rfl
 c143 := by kernel_rfl
 c145 := by kernel_rfl
 c167 := by kernel_rfl
 c168 := by kernel_rfl
 c171 := by kernel_rfl
 c173 := by kernel_rfl
 c210 := by kernel_rfl
 c212 := by kernel_rfl
 c213 := by kernel_rfl
 c232 := by kernel_rfl
 c233 := by kernel_rfl }
def Tryz.lays321_ren : Go.Shelf.Ren := ⟨fun | 321 => 87 | n => n, fun | 5 => 5 | n => n, fun | n => n⟩
theorem Tryz.lays321 : Go.Proofs.Lays.n321 Tryz.prog Tryz.lays321_ren := {
 mixed := by kernel_rfl
 f321 := Tryz.func87.trans (congrArg some (by kernel_rfl))
 t5 := Tryz.underlying5
 a5 := Tryz.isAgg5
 z5 := Tryz.sizeOf5
 v5 := Tryz.zeroValue5 }
open Go.RowKit in
theorem Tryz.internal_strconv_lower (c : Int) (w : World) :
  Calls Tryz.prog 87 #[.int .u8 c] w fun e w' => e = .returned (.int .u8 (bits .or .u8 c 32)) ∧ w' = w := Any.internal_strconv_lower Tryz.lays321 c w
open Go.RowKit in
theorem Tryz.strconv_toError_range (fn s : ByteArray) (base bits : Int) (ev : Value) (w : World) (hlim : s.size ≤ 281474976710656) (hv : w.cell? ⟨3, 0, none⟩ = some ev) (hev : ev = .nilIface ∨ ∃ te pe, ev = .iface te pe) :
  Calls Tryz.prog 72 #[.string fn, .string s, .int .i64 base, .int .i64 bits, .iface 159 (.int .i64 1)] w fun e w' => ∃ N, e = .returned (.iface 161 (.pointer (some ⟨N, 0, none⟩))) ∧ w.heap.size ≤ N ∧ w'.heap[N]? = some (.cells #[.string fn, .string s, ev] 182 (0, 0)) ∧ Below w.heap.size w w' := Any.strconv_toError_range Tryz.laysC245 fn s base bits ev w hlim hv hev
open Go.RowKit in
open Go.RowKit in
def Tryz.lays145_ren : Go.Shelf.Ren := ⟨fun | 145 => 31 | 220 => 51 | 219 => 69 | 217 => 82 | 225 => 83 | 224 => 84 | 267 => 85 | 266 => 113 | 314 => 114 | n => n, fun | 9 => 9 | 4 => 4 | 59 => 95 | 3 => 3 | 5 => 5 | 46 => 158 | 146 => 178 | 51 => 177 | n => n, fun | 1 => 1 | n => n⟩
theorem Tryz.lays145 : Go.Proofs.Lays.n145 Tryz.prog Tryz.lays145_ren := {
 mixed := by kernel_rfl
 f145 := Tryz.func31.trans (congrArg some (by kernel_rfl))
 f217 := Tryz.func82.trans (congrArg some (by kernel_rfl))
 f219 := Tryz.func69.trans (congrArg some (by kernel_rfl))
 f220 := Tryz.func51.trans (congrArg some (by kernel_rfl))
 f224 := Tryz.func84.trans (congrArg some (by kernel_rfl))
 f225 := Tryz.func83.trans (congrArg some (by kernel_rfl))
 f266 := Tryz.func113.trans (congrArg some (by kernel_rfl))
 f267 := Tryz.func85.trans (congrArg some (by kernel_rfl))
 f314 := Tryz.func114.trans (congrArg some (by kernel_rfl))
 t3 := Tryz.underlying3
 a3 := Tryz.isAgg3
 z3 := Tryz.sizeOf3
 v3 := Tryz.zeroValue3
 t4 := Tryz.underlying4
 a4 := Tryz.isAgg4
 z4 := Tryz.sizeOf4
 v4 := Tryz.zeroValue4
 t5 := Tryz.underlying5
 a5 := Tryz.isAgg5
 z5 := Tryz.sizeOf5
 v5 := Tryz.zeroValue5
 t9 := Tryz.underlying9
 a9 := Tryz.isAgg9
 z9 := Tryz.sizeOf9
 v9 := Tryz.zeroValue9
 t46 := Tryz.underlying158
 a46 := Tryz.isAgg158
 z46 := Tryz.sizeOf158
 v46 := Tryz.zeroValue158
 t51 := Tryz.underlying177
 a51 := Tryz.isAgg177
 z51 := Tryz.sizeOf177
 v51 := Tryz.zeroValue177
 t59 := Tryz.underlying95
 a59 := Tryz.isAgg95
 z59 := Tryz.sizeOf95
 v59 := Tryz.zeroValue95
 t146 := Tryz.underlying178
 a146 := Tryz.isAgg178
 z146 := Tryz.sizeOf178
 v146 := Tryz.zeroValue178
 g1 := by kernel_rfl }
open Go.RowKit Go.Lib in
theorem Tryz.strings_Cut (s sep : ByteArray) (m : Int) (w : World) (hs : s.size < 4294967281) (hm : w.cell? ⟨1, 0, none⟩ = some (.int .i64 m)) :
  Calls Tryz.prog 31 #[.string s, .string sep] w fun e w' => e = .returned (.tuple #[.string ⟨(Lib.cut s.data.toList sep.data.toList).1.toArray⟩, .string ⟨(Lib.cut s.data.toList sep.data.toList).2.1.toArray⟩, .bool (Lib.cut s.data.toList sep.data.toList).2.2]) ∧ ∃ n, w' = w.drewN n := Any.strings_Cut Tryz.lays145 s sep m w hs hm
def Tryz.lays206_ren : Go.Shelf.Ren := ⟨fun | 206 => 50 | n => n, fun | 9 => 9 | 4 => 4 | 3 => 3 | n => n, fun | n => n⟩
theorem Tryz.lays206 : Go.Proofs.Lays.n206 Tryz.prog Tryz.lays206_ren := {
 mixed := by kernel_rfl
 f206 := Tryz.func50.trans (congrArg some (by kernel_rfl))
 t3 := Tryz.underlying3
 a3 := Tryz.isAgg3
 z3 := Tryz.sizeOf3
 v3 := Tryz.zeroValue3
 t4 := Tryz.underlying4
 a4 := Tryz.isAgg4
 z4 := Tryz.sizeOf4
 v4 := Tryz.zeroValue4
 t9 := Tryz.underlying9
 a9 := Tryz.isAgg9
 z9 := Tryz.sizeOf9
 v9 := Tryz.zeroValue9 }
open Go.RowKit Go.Lib in
theorem Tryz.stringslite_HasPrefix (s p : ByteArray) (w : World) :
  Calls Tryz.prog 50 #[.string s, .string p] w fun e w' => e = .returned (.bool (Lib.hasPrefix s.data.toList p.data.toList)) ∧ w' = w := Any.stringslite_HasPrefix Tryz.lays206 s p w
def Tryz.lays99_ren : Go.Shelf.Ren := ⟨fun | 99 => 30 | 206 => 50 | n => n, fun | 9 => 9 | 4 => 4 | 3 => 3 | n => n, fun | n => n⟩
theorem Tryz.lays99 : Go.Proofs.Lays.n99 Tryz.prog Tryz.lays99_ren := {
 mixed := by kernel_rfl
 f99 := Tryz.func30.trans (congrArg some (by kernel_rfl))
 f206 := Tryz.func50.trans (congrArg some (by kernel_rfl))
 t3 := Tryz.underlying3
 a3 := Tryz.isAgg3
 z3 := Tryz.sizeOf3
 v3 := Tryz.zeroValue3
 t4 := Tryz.underlying4
 a4 := Tryz.isAgg4
 z4 := Tryz.sizeOf4
 v4 := Tryz.zeroValue4
 t9 := Tryz.underlying9
 a9 := Tryz.isAgg9
 z9 := Tryz.sizeOf9
 v9 := Tryz.zeroValue9 }
open Go.RowKit Go.Lib in
theorem Tryz.strings_HasPrefix (s p : ByteArray) (w : World) :
  Calls Tryz.prog 30 #[.string s, .string p] w fun e w' => e = .returned (.bool (Lib.hasPrefix s.data.toList p.data.toList)) ∧ w' = w := Any.strings_HasPrefix Tryz.lays99 s p w
end Go.Proofs
