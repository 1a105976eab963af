/- The contract of Turn. Condition: the string takes at most 2^48 bytes. -/
import Derived.Test.YtnpbhdphbbdefaaEndsR
namespace Go.Proofs.Ytnpbhdphbbdefaa
open Go.RowKit Go.Lib Go.Sort
attribute [local go_sem] cellI frozenI cellOf_is frozenOf_is cellA frozenA setCellA

theorem below_putRow {α : Type} [Inhabited α] (enc : α → Value) {B : Nat} {w0 w1 : World} {blk off n : Nat} {d : Array α} (hb : Below B w0 w1) (hB : B ≤ blk) : Below B w0 (putRow enc (Sort.ahead w1 n) blk off d) :=
  ⟨hb.os, hb.tape, hb.output, by rw [size_putRow]; exact hb.size, fun k hk => by
    simp only [putRow, mapBlock, Array.getElem?_modify]
    rw [if_neg (by omega)]
    exact hb.block k hk⟩
theorem reverse_n (blk off cap n : Nat) (d : Array Int) (w : World) (hd : d.size = n) (hH : Holds (Value.int .u8) w blk off d) (hsz : n ≤ 281474976710656) :
    Calls Try.prog 18 #[.slice (some ⟨blk, off, none⟩) n cap] w fun e w' => e = .returned (.tuple #[]) ∧ ∃ n, w' = putRow (Value.int .u8) (Sort.ahead w n) blk off d.reverse := by
  subst hd
  exact reverse_any blk off cap d w hH hsz

/-- Bytes, the other way round. -/
def turnB (s : ByteArray) : ByteArray := ⟨s.data.toList.reverse.toArray⟩
/-- Bytes as numbers. -/
def ints (l : List UInt8) : Array Int := (l.map fun b => (b.toNat : Int)).toArray
theorem ints_size (l : List UInt8) : (ints l).size = l.length := by simp [ints]
theorem ints_at (l : List UInt8) (j : Nat) (h : j < l.length) : (ints l)[j]! = (l[j].toNat : Int) := by
  rw [getElem!_pos _ j (by rw [ints_size]; exact h)]
  simp [ints]
theorem ints_rev (l : List UInt8) : (ints l).reverse = ints l.reverse := by simp [ints]
/-- A row that holds bytes becomes a string. -/
theorem string_holds (w : World) (g cap n : Nat) (l : List UInt8) (hl : l.length = n) (h : Holds (Value.int .u8) w g 0 (ints l)) :
    (convert 43 9 (.slice (some ⟨g, 0, none⟩) n cap)).run Try.prog w = .ok (.string ⟨l.toArray⟩) w := by
  subst hl
  refine Go.run_convert_bytes_back (P := Try.prog) w 43 9 5 ⟨g, 0, none⟩ cap l Try.underlying43 Try.underlying5 Try.underlying9 (fun j hj => ?_)
  have hadd : (⟨g, 0, none⟩ : Addr).add j = ⟨g, 0 + j, none⟩ := by unfold Addr.add; split <;> simp_all
  rw [hadd, (h j (by rw [ints_size]; exact hj)).1, ints_at l j hj]
theorem bytes_holds (w : World) (e : TypeId) (s : ByteArray) : Holds (Value.int .u8) (Lib.bytesWorld w e s) w.heap.size 0 (ints s.data.toList) := by
  intro j hj
  have hjs : j < s.data.toList.length := by rw [ints_size] at hj; exact hj
  have hj2 : j < s.size := by simpa using hjs
  rw [Nat.zero_add, ints_at _ j hjs]
  refine ⟨?_, ?_⟩
  · rw [Lib.bytesWorld_cell w e s j hj2, List.getD, List.getElem?_eq_getElem hjs]
    rfl
  · have : s.size ≤ (Lib.bytesCells w e s).size := by simp [Lib.bytesCells]
    simp [World.frozen?, Lib.bytesWorld_at_new]
    omega

theorem turn_any (s : ByteArray) (w : World) (hs : s.size ≤ 281474976710656) :
    Calls Try.prog 12 #[.string s] w fun e w' => e = .returned (.string (turnB s)) ∧ Below w.heap.size w w' := by
  have hcv := Lib.run_convert_string_bytes (P := Try.prog) w 9 43 5 s Try.underlying9 Try.underlying43 Try.underlying5
  have hH := bytes_holds w 5 s
  have hbw := below_bytes w 5 s
  have hls : (ints s.data.toList).size = s.size := by rw [ints_size]; simp
  go_enter Try.func12, Try.ntmps12
  go_wp2_with (go_at_call 18; fail)
  refine (reverse_n w.heap.size 0 _ s.size (ints s.data.toList) _ hls hH hs).mono ?_
  rintro e w1 ⟨rfl, n, hw1⟩
  have hH1 : Holds (Value.int .u8) w1 w.heap.size 0 (ints s.data.toList.reverse) := by
    rw [hw1, ints_rev]
    exact holds_putRow _ _ _ _ (ints s.data.toList) _ (holds_ahead _ _ _ _ _ _ hH) (by rw [ints_size, ints_size]; simp)
  have hb1 : Below w.heap.size w w1 := by rw [hw1]; exact below_putRow _ hbw (Nat.le_refl _)
  have hst := string_holds w1 w.heap.size (grownCap w s.size 0 5) s.size s.data.toList.reverse (by simp) hH1
  clear hw1 hH hH1 hbw hls hcv
  go_wp2
  exact bodyPost_ret (v := (.string (turnB s))) (by simp (maxDischargeDepth := 6) [results, Try.results12, go_sem, turnB]) rfl ⟨rfl, by (repeat' (first | (with_reducible exact Below.refl _ _) | (with_reducible refine Below.alloc ?_ ?_ _) | (with_reducible refine Below.setCell ?_ ?_ _) | (with_reducible refine Below.drew ?_) | (with_reducible refine below_step ?_ (by assumption) ?_) | (with_reducible exact leC) | go_size))⟩
end Go.Proofs.Ytnpbhdphbbdefaa
