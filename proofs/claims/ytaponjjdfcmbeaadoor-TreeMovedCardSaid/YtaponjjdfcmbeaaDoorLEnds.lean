/- Contracts of the functions of package ends that later chapters call, and of the reference's. Conditions: a string takes at most 2^47 bytes. -/
import Derived.Test.YtaponjjdfcmbeaaDoorRows1
import Derived.Deep.LoopGhost
import Derived.Sort.WalkB12
import Derived.Lib.SlicesMore
import Derived.RegionTactic
namespace Go.Proofs.YtaponjjdfcmbeaaDoor
set_option linter.unusedVariables false
set_option linter.unusedSimpArgs false
open Go.RowKit
attribute [local go_sem] cellI frozenI cellOf_is frozenOf_is cellA frozenA setCellA
namespace En

/-- The sizes that a number may have. -/
def goodB (k : Int) : Bool := decide (k = 1 ∨ k = 2 ∨ k = 3 ∨ k = 4 ∨ k = 8)
def sizeAt : Nat → Int
  | 0 => 1 | 1 => 2 | 2 => 3 | 3 => 4 | _ => 8
theorem good_at (v : Int) : goodB v = true ↔ ∃ k, k < 5 ∧ v = sizeAt k := by
  unfold goodB
  rw [decide_eq_true_iff]
  constructor
  · rintro (h | h | h | h | h)
    · exact ⟨0, by omega, h⟩
    · exact ⟨1, by omega, h⟩
    · exact ⟨2, by omega, h⟩
    · exact ⟨3, by omega, h⟩
    · exact ⟨4, by omega, h⟩
  · rintro ⟨k, hk, rfl⟩
    match k, hk with
    | 0, _ => exact Or.inl rfl
    | 1, _ => exact Or.inr (Or.inl rfl)
    | 2, _ => exact Or.inr (Or.inr (Or.inl rfl))
    | 3, _ => exact Or.inr (Or.inr (Or.inr (Or.inl rfl)))
    | 4, _ => exact Or.inr (Or.inr (Or.inr (Or.inr rfl)))

set_option maxHeartbeats 800000 in
theorem index_any (g cap : Nat) (v : Int) (w : World) (hc : ∀ k, k < 5 → w.cell? ⟨g, k, none⟩ = some (.int .i64 (sizeAt k))) :
    Calls Tryd.prog 58 #[.slice (some ⟨g, 0, none⟩) 5 cap, .int .i64 v] w fun e w' => ∃ r : Int, e = .returned (.int .i64 r) ∧ (decide (0 ≤ r) = goodB v) ∧ w' = w := by
  have hg := Lib.hid (good_at v)
  go_enter Tryd.func58, Tryd.ntmps58
  go_wp2
  go_loop [8] (fun i => ∃ k : Nat, k ≤ 5 ∧ i = .int .i64 k ∧ Hid (∀ j, j < k → v ≠ sizeAt j)) (fun i => 5 - (intOf i).toNat)
  case atStart => exact ⟨0, by omega, rfl, fun j h => absurd h (Nat.not_lt_zero _)⟩
  case round =>
    obtain ⟨k, hk, rfl, hne⟩ := hrel
    by_cases hlt : k < 5
    · obtain ⟨z, hze, hcz⟩ : ∃ z, sizeAt k = z ∧ w.cell? ⟨g, k, none⟩ = some (.int .i64 z) := ⟨_, rfl, hc k hlt⟩
      have hd : decide ((k : Int) < 5) = true := decide_eq_true (by omega)
      by_cases hz : v = z
      · have hgt : goodB v = true := hg.out.2 ⟨k, hlt, by rw [hz, hze]⟩
        have hk0 : decide ((0 : Int) ≤ (k : Int)) = true := decide_eq_true (by omega)
        replace hgt := Lib.hid hgt
        replace hk0 := Lib.hid hk0
        replace hze := Lib.hid hze
        clear hc
        subst hz
        go_wp2
        exact bodyPost_ret (v := .int .i64 k) (by simp (maxDischargeDepth := 6) [results, Tryd.results58, go_sem]) rfl ⟨k, rfl, hk0.out.trans hgt.out.symm, rfl⟩
      · have hvz : (v == z) = false := by simpa using hz
        have hvz2 : decide (v = z) = false := decide_eq_false hz
        replace hze := Lib.hid hze
        clear hc
        go_wp2
        go_round
        case rel =>
          refine ⟨k + 1, by omega, by go_num, fun j hj => ?_⟩
          by_cases hjk : j = k
          · rw [hjk, hze.out]; exact hz
          · exact hne.out j (by omega)
        case measure => simp [intOf]; omega
    · obtain rfl : k = 5 := by omega
      have hgf : goodB v = false := by
        cases h : goodB v with
        | false => rfl
        | true =>
          obtain ⟨j, hj, he⟩ := hg.out.1 h
          exact absurd he (hne.out j hj)
      replace hgf := Lib.hid hgf
      clear hc
      go_wp2
      exact bodyPost_ret (v := .int .i64 (-1)) (by simp (maxDischargeDepth := 6) [results, Tryd.results58, go_sem]) rfl ⟨-1, rfl, by rw [hgf.out]; rfl, rfl⟩
theorem contains_any (g cap : Nat) (v : Int) (w : World) (hc : ∀ k, k < 5 → w.cell? ⟨g, k, none⟩ = some (.int .i64 (sizeAt k))) :
    Calls Tryd.prog 52 #[.slice (some ⟨g, 0, none⟩) 5 cap, .int .i64 v] w fun e w' => e = .returned (.bool (goodB v)) ∧ w' = w := by
  go_enter Tryd.func52, Tryd.ntmps52
  go_wp2_with (go_at_call 58; fail)
  refine (index_any g cap v w hc).mono ?_
  rintro e _ ⟨r, rfl, hr, rfl⟩
  go_wp2
  exact bodyPost_ret (v := .bool (goodB v)) (by simp (maxDischargeDepth := 6) [results, Tryd.results52, go_sem, hr]) rfl ⟨rfl, rfl⟩
theorem good_any (k : Int) (w : World) :
    Calls Tryd.prog 40 #[.int .i64 k] w fun e w' => e = .returned (.bool (goodB k)) ∧ Below w.heap.size w w' := by
  go_enter Tryd.func40, Tryd.ntmps40
  go_wp2_with (go_at_call 52; fail)
  refine (contains_any w.heap.size 5 k _ (fun j hj => ?_)).mono ?_
  · rw [Go.cell_of_row _ _ _ _ _ _ (Go.heap_alloc_new _ _)]
    match j, hj with
    | 0, _ => rfl
    | 1, _ => rfl
    | 2, _ => rfl
    | 3, _ => rfl
    | 4, _ => rfl
  rintro e _ ⟨rfl, rfl⟩
  go_wp2
  exact bodyPost_ret (v := (.bool (goodB k))) (by simp (maxDischargeDepth := 6) [results, Tryd.results40, go_sem]) rfl ⟨rfl, by (repeat' (first | (with_reducible exact Below.refl _ _) | (with_reducible refine Below.alloc ?_ ?_ _) | (with_reducible refine Below.setCell ?_ ?_ _) | (with_reducible refine Below.drew ?_) | (with_reducible refine below_step ?_ (by assumption) ?_) | (with_reducible exact leC) | go_size))⟩
theorem rgood_any (k : Int) (w : World) :
    Calls Tryd.prog 42 #[.int .i64 k] w fun e w' => e = .returned (.bool (goodB k)) ∧ Below w.heap.size w w' := by
  have hg : goodB k = (k == 1 || k == 2 || k == 3 || k == 4 || k == 8) := by
    unfold goodB
    rw [Bool.eq_iff_iff]
    simp [or_assoc]
  rw [hg]
  clear hg
  go_enter Tryd.func42, Tryd.ntmps42
  go_wp2
  all_goals (try subst_vars)
  all_goals exact bodyPost_ret (v := (.bool _)) (by simp (maxDischargeDepth := 6) [results, Tryd.results42, go_sem]) rfl ⟨rfl, by (repeat' (first | (with_reducible exact Below.refl _ _) | (with_reducible refine Below.alloc ?_ ?_ _) | (with_reducible refine Below.setCell ?_ ?_ _) | (with_reducible refine Below.drew ?_) | (with_reducible refine below_step ?_ (by assumption) ?_) | (with_reducible exact leC) | go_size))⟩
section
open Go.RowKit Go.Lib Go.Sort

set_option maxHeartbeats 1600000 in
set_option maxRecDepth 1000000 in
theorem reverse_any (blk off cap : Nat) (d : Array Int) (w : World) (hH : Holds (Value.int .u8) w blk off d) (hsz : d.size ≤ 281474976710656) :
    Calls Tryd.prog 54 #[.slice (some ⟨blk, off, none⟩) d.size cap] w fun e w' => e = .returned (.tuple #[]) ∧ ∃ n, w' = putRow (Value.int .u8) (Sort.ahead w n) blk off d.reverse := by
  go_enter Tryd.func54, Tryd.ntmps54
  go_wp2
  go_loopg [2, 3] d.size (fun k s2 s3 wr => ∃ (i jn : Nat) (jz : Int) (dk : Array Int) (n : Nat), s2 = .int .i64 i ∧ s3 = .int .i64 jz ∧ ((i : Int) < jz → jz = jn ∧ jn < d.size) ∧ (¬ (i : Int) < jz → ¬ i < jn) ∧ jn - i ≤ k ∧
    dk.size = d.size ∧ wr = putRow (Value.int .u8) (Sort.ahead w n) blk off dk ∧ reverseLoop i jn dk = reverseLoop 0 (d.size - 1) d)
  case atStart => exact ⟨0, d.size - 1, (d.size : Int) - 1, d, 0, rfl, rfl, fun h => ⟨by omega, by omega⟩, fun h => by omega, by omega, rfl, (putRow_self (Value.int .u8) w blk off d hH).symm, rfl⟩
  case round =>
    obtain ⟨i, jn, jz, dk, n, rfl, rfl, h1, h2, hk, hds, hwr, heq⟩ := hrel
    by_cases hlt : (i : Int) < jz
    · obtain ⟨rfl, hjn⟩ := h1 hlt
      have hij : i < jn := by omega
      have hHk : Holds (Value.int .u8) wr blk off dk := by rw [hwr]; exact holds_putRow (Value.int .u8) _ blk off d dk (holds_ahead (Value.int .u8) w n blk off d hH) hds
      obtain ⟨ci, fi⟩ := hHk i (by omega)
      obtain ⟨cj, fj⟩ := hHk jn (by omega)
      have A := Lib.hid hwr
      clear hwr hHk hH h1 h2
      go_wp2
      go_region
      go_wp2
      go_roundg (jn - 1 - (i + 1))
      case measure => omega
      case rel =>
        rw [reverseLoop, if_pos hij] at heq
        exact ⟨i + 1, jn - 1, (jn : Int) - 1, swp dk i jn, n + 1, by simp, rfl, fun h => ⟨by omega, by omega⟩, fun h => by omega, Nat.le_refl _, by rw [size_swp]; exact hds,
          swap_world (Value.int .u8) (by omega) (by omega) A.out (by first | rfl | simp [getElem!_pos, show jn < dk.size by omega]) (by first | rfl | simp [getElem!_pos, show i < dk.size by omega]), heq⟩
    · have hnot := h2 hlt
      go_wp2
      exact bodyPost_end (v := .tuple #[]) (by simp (maxDischargeDepth := 6) [results, Tryd.results54, go_sem]) rfl ⟨rfl, n, by
        rw [reverseLoop, if_neg hnot] at heq
        rw [← Lib.reverseLoop_reverse, ← heq]⟩

theorem below_putRow {α : Type} [Inhabited α] (enc : α → Value) {B : Nat} {w0 w1 : World} {blk off n : Nat} {d : Array α} (hb : Below B w0 w1) (hB : B ≤ blk) : Below B w0 (putRow enc (Sort.ahead w1 n) blk off d) :=
  ⟨hb.os, hb.tape, hb.output, by rw [size_putRow]; exact hb.size, fun k hk => by
    simp only [putRow, mapBlock, Array.getElem?_modify]
    rw [if_neg (by omega)]
    exact hb.block k hk⟩
theorem reverse_n (blk off cap n : Nat) (d : Array Int) (w : World) (hd : d.size = n) (hH : Holds (Value.int .u8) w blk off d) (hsz : n ≤ 281474976710656) :
    Calls Tryd.prog 54 #[.slice (some ⟨blk, off, none⟩) n cap] w fun e w' => e = .returned (.tuple #[]) ∧ ∃ n, w' = putRow (Value.int .u8) (Sort.ahead w n) blk off d.reverse := by
  subst hd
  exact reverse_any blk off cap d w hH hsz

/-- Bytes, the other way round. -/
def turnB (s : ByteArray) : ByteArray := ⟨s.data.toList.reverse.toArray⟩
/-- Bytes as numbers. -/
def ints (l : List UInt8) : Array Int := (l.map fun b => (b.toNat : Int)).toArray
theorem ints_size (l : List UInt8) : (ints l).size = l.length := by simp [ints]
theorem ints_at (l : List UInt8) (j : Nat) (h : j < l.length) : (ints l)[j]! = (l[j].toNat : Int) := by
  rw [getElem!_pos _ j (by rw [ints_size]; exact h)]
  simp [ints]
theorem ints_rev (l : List UInt8) : (ints l).reverse = ints l.reverse := by simp [ints]
/-- A row that holds bytes becomes a string. -/
theorem string_holds (w : World) (g cap n : Nat) (l : List UInt8) (hl : l.length = n) (h : Holds (Value.int .u8) w g 0 (ints l)) :
    (convert 84 9 (.slice (some ⟨g, 0, none⟩) n cap)).run Tryd.prog w = .ok (.string ⟨l.toArray⟩) w := by
  subst hl
  refine Go.run_convert_bytes_back (P := Tryd.prog) w 84 9 5 ⟨g, 0, none⟩ cap l Tryd.underlying84 Tryd.underlying5 Tryd.underlying9 (fun j hj => ?_)
  have hadd : (⟨g, 0, none⟩ : Addr).add j = ⟨g, 0 + j, none⟩ := by unfold Addr.add; split <;> simp_all
  rw [hadd, (h j (by rw [ints_size]; exact hj)).1, ints_at l j hj]
theorem bytes_holds (w : World) (e : TypeId) (s : ByteArray) : Holds (Value.int .u8) (Lib.bytesWorld w e s) w.heap.size 0 (ints s.data.toList) := by
  intro j hj
  have hjs : j < s.data.toList.length := by rw [ints_size] at hj; exact hj
  have hj2 : j < s.size := by simpa using hjs
  rw [Nat.zero_add, ints_at _ j hjs]
  refine ⟨?_, ?_⟩
  · rw [Lib.bytesWorld_cell w e s j hj2, List.getD, List.getElem?_eq_getElem hjs]
    rfl
  · have : s.size ≤ (Lib.bytesCells w e s).size := by simp [Lib.bytesCells]
    simp [World.frozen?, Lib.bytesWorld_at_new]
    omega

theorem turn_any (s : ByteArray) (w : World) (hs : s.size ≤ 281474976710656) :
    Calls Tryd.prog 44 #[.string s] w fun e w' => e = .returned (.string (turnB s)) ∧ Below w.heap.size w w' := by
  have hcv := Lib.run_convert_string_bytes (P := Tryd.prog) w 9 84 5 s Tryd.underlying9 Tryd.underlying84 Tryd.underlying5
  have hH := bytes_holds w 5 s
  have hbw := below_bytes w 5 s
  have hls : (ints s.data.toList).size = s.size := by rw [ints_size]; simp
  go_enter Tryd.func44, Tryd.ntmps44
  go_wp2_with (go_at_call 54; fail)
  refine (reverse_n w.heap.size 0 _ s.size (ints s.data.toList) _ hls hH hs).mono ?_
  rintro e w1 ⟨rfl, n, hw1⟩
  have hH1 : Holds (Value.int .u8) w1 w.heap.size 0 (ints s.data.toList.reverse) := by
    rw [hw1, ints_rev]
    exact holds_putRow _ _ _ _ (ints s.data.toList) _ (holds_ahead _ _ _ _ _ _ hH) (by rw [ints_size, ints_size]; simp)
  have hb1 : Below w.heap.size w w1 := by rw [hw1]; exact below_putRow _ hbw (Nat.le_refl _)
  have hst := string_holds w1 w.heap.size (grownCap w s.size 0 5) s.size s.data.toList.reverse (by simp) hH1
  clear hw1 hH hH1 hbw hls hcv
  go_wp2
  exact bodyPost_ret (v := (.string (turnB s))) (by simp (maxDischargeDepth := 6) [results, Tryd.results44, go_sem, turnB]) rfl ⟨rfl, by (repeat' (first | (with_reducible exact Below.refl _ _) | (with_reducible refine Below.alloc ?_ ?_ _) | (with_reducible refine Below.setCell ?_ ?_ _) | (with_reducible refine Below.drew ?_) | (with_reducible refine below_step ?_ (by assumption) ?_) | (with_reducible exact leC) | go_size))⟩
end

theorem good_cases {k : Int} (h : goodB k = true) : k = 1 ∨ k = 2 ∨ k = 3 ∨ k = 4 ∨ k = 8 := by
  unfold goodB at h
  exact of_decide_eq_true h
theorem good_nat {k : Int} (h : goodB k = true) : ∃ m : Nat, k = m ∧ 1 ≤ m ∧ m ≤ 8 := by
  rcases good_cases h with rfl | rfl | rfl | rfl | rfl
  · exact ⟨1, rfl, by omega, by omega⟩
  · exact ⟨2, rfl, by omega, by omega⟩
  · exact ⟨3, rfl, by omega, by omega⟩
  · exact ⟨4, rfl, by omega, by omega⟩
  · exact ⟨8, rfl, by omega, by omega⟩
theorem takeSnoc (l : List UInt8) (k : Nat) (h : k < l.length) : l.take (k + 1) = l.take k ++ [l.getD k 0] := by
  rw [List.take_add_one, List.getElem?_eq_getElem h]
  simp [h]


theorem bv64 (a : Nat) (h : a < 18446744073709551616) : (BitVec.ofInt 64 (a : Int)).toNat = a := by
  rw [BitVec.ofInt_natCast, BitVec.toNat_ofNat]
  have e : (2 : Nat) ^ 64 = 18446744073709551616 := by decide
  exact Nat.mod_eq_of_lt (by rw [e]; exact h)
theorem wrap_u64_nat (a : Nat) (h : a < 18446744073709551616) : IntKind.u64.wrap (a : Int) = a := by rw [IntKind.wrap_u64]; omega
theorem u64_or (a b : Nat) (ha : a * 256 + b < 18446744073709551616) (hb : b < 2 ^ 8) : bits .or .u64 ((a : Int) * 256) (b : Int) = ((a * 256 + b : Nat) : Int) := by
  have e : (a : Int) * 256 = ((a * 256 : Nat) : Int) := by omega
  rw [e]
  show IntKind.u64.wrap ((BitVec.ofInt 64 ((a * 256 : Nat) : Int) ||| BitVec.ofInt 64 (b : Int)).toNat : Int) = _
  have b1 := bv64 (a * 256) (Nat.lt_of_le_of_lt (Nat.le_add_right _ _) ha)
  have b2 := bv64 b (Nat.lt_of_le_of_lt (Nat.le_add_left _ _) ha)
  rw [BitVec.toNat_or, b1, b2]
  have h2 : a * 256 ||| b = a * 256 + b := by rw [show a * 256 = 2 ^ 8 * a from Nat.mul_comm _ _, Nat.two_pow_add_eq_or_of_lt hb]
  rw [h2, wrap_u64_nat _ ha]
theorem extractL (s : ByteArray) (a b : Nat) : (s.extract a b).data.toList = (s.data.toList.drop a).take (b - a) := by simp
/-- The number of bytes, the highest one first. -/
def beVal (l : List UInt8) : Nat := l.foldl (fun n b => n * 256 + b.toNat) 0
theorem beVal_snoc (l : List UInt8) (b : UInt8) : beVal (l ++ [b]) = beVal l * 256 + b.toNat := by simp [beVal]
theorem beVal_lt : ∀ (n : Nat) (l : List UInt8), l.length = n → beVal l < 256 ^ n := by
  intro n
  induction n with
  | zero =>
    intro l h
    obtain rfl : l = [] := by simpa using h
    decide
  | succ n ih =>
    intro l h
    rcases List.eq_nil_or_concat l with rfl | ⟨l', b, rfl⟩
    · simp at h
    · rw [List.concat_eq_append] at *
      have := ih l' (by simpa using h)
      have := b.toNat_lt
      rw [beVal_snoc, Nat.pow_succ]
      omega
theorem beVal_64 (l : List UInt8) (h : l.length ≤ 8) : beVal l < 18446744073709551616 := by
  have h1 := beVal_lt _ l rfl
  have h2 : 256 ^ l.length ≤ 256 ^ 8 := Nat.pow_le_pow_right (by omega) h
  have h3 : 256 ^ 8 = 18446744073709551616 := rfl
  omega
/-- The bytes that Get reads. -/
def getL (s : ByteArray) (a k : Nat) (little : Bool) : List UInt8 := if little then ((s.data.toList.drop a).take k).reverse else (s.data.toList.drop a).take k
/-- What Get answers. -/
def getV (s : ByteArray) (a k : Int) (little : Bool) : Nat × Int :=
  if goodB k = false then (0, 2) else if a < 0 ∨ (s.size : Int) - k < a then (0, 3) else (beVal (getL s a.toNat k.toNat little), 0)

set_option maxHeartbeats 1600000 in
theorem get_any (s : ByteArray) (a k : Int) (little : Bool) (w : World) (hs : s.size ≤ 281474976710656) (ha : -9223372036854775808 ≤ a ∧ a ≤ 9223372036854775807) :
    Calls Tryd.prog 28 #[.string s, .int .i64 a, .int .i64 k, .bool little] w fun e w' => e = .returned (.tuple #[.int .u64 ((getV s a k little).1 : Nat), .int .i64 (getV s a k little).2]) ∧ Below w.heap.size w w' := by
  cases hg : goodB k
  · have hv : getV s a k little = (0, 2) := by simp [getV, hg]
    rw [hv]
    go_enter Tryd.func28, Tryd.ntmps28
    go_wp2_with (go_at_call 40; fail)
    refine (good_any k w).mono ?_
    rintro e w1 ⟨rfl, hb1⟩
    haveI hx1 := ExtC.mk hb1
    rw [hg]
    go_wp2
    exact bodyPost_ret (v := (.tuple #[.int .u64 0, .int .i64 2])) (by simp (maxDischargeDepth := 6) [results, Tryd.results28, go_sem]) rfl ⟨rfl, by (repeat' (first | (with_reducible exact Below.refl _ _) | (with_reducible refine Below.alloc ?_ ?_ _) | (with_reducible refine Below.setCell ?_ ?_ _) | (with_reducible refine Below.drew ?_) | (with_reducible refine below_step ?_ (by assumption) ?_) | (with_reducible exact leC) | go_size))⟩
  obtain ⟨m, rfl, hm1, hm8⟩ := good_nat hg
  by_cases hb : a < 0 ∨ (s.size : Int) - m < a
  · have hv : getV s a m little = (0, 3) := by simp [getV, hg, hb]
    rw [hv]
    clear hv
    by_cases h0 : a < 0
    · have hd : decide (a < 0) = true := decide_eq_true h0
      go_enter Tryd.func28, Tryd.ntmps28
      go_wp2_with (go_at_call 40; fail)
      refine (good_any m w).mono ?_
      rintro e w1 ⟨rfl, hb1⟩
      haveI hx1 := ExtC.mk hb1
      rw [hg]
      go_wp2
      exact bodyPost_ret (v := (.tuple #[.int .u64 0, .int .i64 3])) (by simp (maxDischargeDepth := 6) [results, Tryd.results28, go_sem]) rfl ⟨rfl, by (repeat' (first | (with_reducible exact Below.refl _ _) | (with_reducible refine Below.alloc ?_ ?_ _) | (with_reducible refine Below.setCell ?_ ?_ _) | (with_reducible refine Below.drew ?_) | (with_reducible refine below_step ?_ (by assumption) ?_) | (with_reducible exact leC) | go_size))⟩
    · have hd : decide (a < 0) = false := decide_eq_false h0
      have hd2 : decide ((s.size : Int) - m < a) = true := decide_eq_true (by omega)
      go_enter Tryd.func28, Tryd.ntmps28
      go_wp2_with (go_at_call 40; fail)
      refine (good_any m w).mono ?_
      rintro e w1 ⟨rfl, hb1⟩
      haveI hx1 := ExtC.mk hb1
      rw [hg]
      go_wp2
      exact bodyPost_ret (v := (.tuple #[.int .u64 0, .int .i64 3])) (by simp (maxDischargeDepth := 6) [results, Tryd.results28, go_sem]) rfl ⟨rfl, by (repeat' (first | (with_reducible exact Below.refl _ _) | (with_reducible refine Below.alloc ?_ ?_ _) | (with_reducible refine Below.setCell ?_ ?_ _) | (with_reducible refine Below.drew ?_) | (with_reducible refine below_step ?_ (by assumption) ?_) | (with_reducible exact leC) | go_size))⟩
  · obtain ⟨na, rfl⟩ := Int.eq_ofNat_of_zero_le (show 0 ≤ a by omega)
    have hfit : na + m ≤ s.size := by omega
    have hv : getV s na m little = (beVal (getL s na m little), 0) := by simp only [getV, hg]; rw [if_neg (by decide), if_neg hb]; rfl
    rw [hv]
    clear hv
    have hd : decide ((na : Int) < 0) = false := decide_eq_false (by omega)
    have hd2 : decide ((s.size : Int) - m < na) = false := decide_eq_false (by omega)
    have hll : (getL s na m little).length = m := by unfold getL; split <;> simp <;> omega
    obtain ⟨L, l, hLd, hLs, hll2, hl, hLe, hLt⟩ : ∃ (L : ByteArray) (l : List UInt8), Hid (L.data.toList = l) ∧ L.size = m ∧ l.length = m ∧ getL s na m little = l ∧ (little = false → s.extract na (na + m) = L) ∧ (little = true → turnB (s.extract na (na + m)) = L) := by
      have hx : (s.extract na (na + m)).data.toList = (s.data.toList.drop na).take m := by rw [extractL]; congr 1; omega
      refine ⟨⟨(getL s na m little).toArray⟩, _, rfl, by show (getL s na m little).toArray.size = m; simpa using hll, hll, rfl, fun h => ?_, fun h => ?_⟩
      · rw [h]
        apply ByteArray.ext
        apply Array.ext'
        rw [hx]; rfl
      · rw [h]
        unfold turnB
        rw [hx]; rfl
    rw [hl]
    clear hl hll
    have hcv := fun w => Lib.run_convert_string_bytes (P := Tryd.prog) w 9 84 5 L Tryd.underlying9 Tryd.underlying84 Tryd.underlying5
    go_enter Tryd.func28, Tryd.ntmps28
    go_wp2_with (go_at_call 40; fail)
    refine (good_any m w).mono ?_
    rintro e w1 ⟨rfl, hb1⟩
    haveI hx1 := ExtC.mk hb1
    rw [hg]
    cases little
    · have he := hLe rfl
      clear hLe hLt
      go_wp2
      have hcell := fun j (hj : j < m) => Lib.bytesWorld_cell w1 5 L j (by rw [hLs]; exact hj)
      rw [hLd.out] at hcell
      have hbw := below_bytes w1 5 L
      generalize Lib.bytesWorld w1 5 L = W at *
      go_loop [11, 41] (fun v i => ∃ q N : Nat, q ≤ m ∧ Hid (beVal (l.take q) = N) ∧ N < 256 ^ q ∧ v = .int .u64 N ∧ i = .int .i64 q) (fun _ i => m - (intOf i).toNat)
      case atStart => exact ⟨0, 0, by omega, rfl, by decide, rfl, rfl⟩
      case round =>
        obtain ⟨q, N, hq, hN, hNl, rfl, rfl⟩ := hrel
        by_cases hlt : q < m
        · obtain ⟨x, hxe, hx, hcx⟩ : ∃ x : Nat, Hid (x = (l.getD q 0).toNat) ∧ x < 2 ^ 8 ∧ W.cell? ⟨w1.heap.size, q, none⟩ = some (.int .u8 x) := ⟨_, rfl, (l.getD q 0).toNat_lt, hcell q hlt⟩
          have hsn := Lib.hid (beVal_snoc (l.take q) (l.getD q 0))
          have hts := Lib.hid (takeSnoc l q (by omega))
          have hnl := Lib.hid (beVal_lt (q + 1) (l.take (q + 1)) (by rw [List.length_take]; omega))
          have hN64 : N * 256 + 256 ≤ 18446744073709551616 := by
            have h2 : 256 ^ q ≤ 256 ^ 7 := Nat.pow_le_pow_right (by omega) (by omega)
            have h3 : 256 ^ 7 = 72057594037927936 := rfl
            omega
          have hor := u64_or N x (by omega) hx
          have hdq : decide ((q : Int) < (m : Int)) = true := decide_eq_true (by omega)
          replace hNl := Lib.hid hNl
          clear hcell hcv
          go_wp2
          go_round
          case rel =>
            refine ⟨q + 1, N * 256 + x, by omega, ?_, ?_, by go_num, ?_⟩
            · show beVal (l.take (q + 1)) = N * 256 + x
              rw [hts.out, hsn.out, hN.out, ← hxe.out]
            · have := hNl.out
              rw [Nat.pow_succ]
              omega
            · go_num
          case measure => simp [intOf]; omega
        · obtain rfl : q = m := by omega
          have hfin := hN.out
          rw [List.take_of_length_le (by omega)] at hfin
          replace hfin := Lib.hid hfin
          replace hNl := Lib.hid hNl
          clear hcell hcv
          go_wp2
          exact bodyPost_ret (v := (.tuple #[.int .u64 (beVal l : Nat), .int .i64 0])) (by simp (maxDischargeDepth := 6) [results, Tryd.results28, go_sem, hfin.out]) rfl ⟨rfl, by (repeat' (first | (with_reducible exact Below.refl _ _) | (with_reducible refine Below.alloc ?_ ?_ _) | (with_reducible refine Below.setCell ?_ ?_ _) | (with_reducible refine Below.drew ?_) | (with_reducible refine below_step ?_ (by assumption) ?_) | (with_reducible exact leC) | go_size))⟩
    · have he := hLt rfl
      clear hLe hLt
      go_wp2_with (go_at_call 44; fail)
      have hxs : (s.extract na (na + m)).size ≤ 281474976710656 := by rw [ByteArray.size_extract]; omega
      refine (turn_any _ w1 hxs).mono ?_
      rintro e w2 ⟨rfl, hb2⟩
      haveI hx2 := ExtC.mk hb2
      rw [he]
      go_wp2
      have hcell := fun j (hj : j < m) => Lib.bytesWorld_cell w2 5 L j (by rw [hLs]; exact hj)
      rw [hLd.out] at hcell
      have hbw := below_bytes w2 5 L
      generalize Lib.bytesWorld w2 5 L = W at *
      go_loop [11, 41] (fun v i => ∃ q N : Nat, q ≤ m ∧ Hid (beVal (l.take q) = N) ∧ N < 256 ^ q ∧ v = .int .u64 N ∧ i = .int .i64 q) (fun _ i => m - (intOf i).toNat)
      case atStart => exact ⟨0, 0, by omega, rfl, by decide, rfl, rfl⟩
      case round =>
        obtain ⟨q, N, hq, hN, hNl, rfl, rfl⟩ := hrel
        by_cases hlt : q < m
        · obtain ⟨x, hxe, hx, hcx⟩ : ∃ x : Nat, Hid (x = (l.getD q 0).toNat) ∧ x < 2 ^ 8 ∧ W.cell? ⟨w2.heap.size, q, none⟩ = some (.int .u8 x) := ⟨_, rfl, (l.getD q 0).toNat_lt, hcell q hlt⟩
          have hsn := Lib.hid (beVal_snoc (l.take q) (l.getD q 0))
          have hts := Lib.hid (takeSnoc l q (by omega))
          have hnl := Lib.hid (beVal_lt (q + 1) (l.take (q + 1)) (by rw [List.length_take]; omega))
          have hN64 : N * 256 + 256 ≤ 18446744073709551616 := by
            have h2 : 256 ^ q ≤ 256 ^ 7 := Nat.pow_le_pow_right (by omega) (by omega)
            have h3 : 256 ^ 7 = 72057594037927936 := rfl
            omega
          have hor := u64_or N x (by omega) hx
          have hdq : decide ((q : Int) < (m : Int)) = true := decide_eq_true (by omega)
          replace hNl := Lib.hid hNl
          clear hcell hcv
          go_wp2
          go_round
          case rel =>
            refine ⟨q + 1, N * 256 + x, by omega, ?_, ?_, by go_num, ?_⟩
            · show beVal (l.take (q + 1)) = N * 256 + x
              rw [hts.out, hsn.out, hN.out, ← hxe.out]
            · have := hNl.out
              rw [Nat.pow_succ]
              omega
            · go_num
          case measure => simp [intOf]; omega
        · obtain rfl : q = m := by omega
          have hfin := hN.out
          rw [List.take_of_length_le (by omega)] at hfin
          replace hfin := Lib.hid hfin
          replace hNl := Lib.hid hNl
          clear hcell hcv
          go_wp2
          exact bodyPost_ret (v := (.tuple #[.int .u64 (beVal l : Nat), .int .i64 0])) (by simp (maxDischargeDepth := 6) [results, Tryd.results28, go_sem, hfin.out]) rfl ⟨rfl, by (repeat' (first | (with_reducible exact Below.refl _ _) | (with_reducible refine Below.alloc ?_ ?_ _) | (with_reducible refine Below.setCell ?_ ?_ _) | (with_reducible refine Below.drew ?_) | (with_reducible refine below_step ?_ (by assumption) ?_) | (with_reducible exact leC) | go_size))⟩

theorem at_fwd (s : ByteArray) (a m q : Nat) (h : a + m ≤ s.size) (hq : q < m) : s[a + q]'(by omega) = ((s.data.toList.drop a).take m).getD q 0 := by
  have h1 : q < ((s.data.toList.drop a).take m).length := by simp; omega
  rw [List.getD, List.getElem?_eq_getElem h1]
  simp
  rfl
theorem at_back (s : ByteArray) (a m q : Nat) (h : a + m ≤ s.size) (hq : q < m) : s[a + m - 1 - q]'(by omega) = ((s.data.toList.drop a).take m).reverse.getD q 0 := by
  have h1 : q < ((s.data.toList.drop a).take m).reverse.length := by simp; omega
  rw [List.getD, List.getElem?_eq_getElem h1]
  have h2 : min m (s.size - a) = m := by omega
  simp [h2]
  congr 1
  omega

set_option maxHeartbeats 1600000 in
set_option maxRecDepth 100000 in
theorem rget_any (s : ByteArray) (a k : Int) (little : Bool) (w : World) (hs : s.size ≤ 281474976706560) (ha : -9223372036854775808 ≤ a ∧ a ≤ 9223372036854775807) :
    Calls Tryd.prog 31 #[.string s, .int .i64 a, .int .i64 k, .bool little] w fun e w' => e = .returned (.tuple #[.int .u64 ((getV s a k little).1 : Nat), .int .i64 (getV s a k little).2]) ∧ Below w.heap.size w w' := by
  cases hg : goodB k
  · have hv : getV s a k little = (0, 2) := by simp [getV, hg]
    rw [hv]
    go_enter Tryd.func31, Tryd.ntmps31
    go_wp2_with (go_at_call 42; fail)
    refine (rgood_any k w).mono ?_
    rintro e w1 ⟨rfl, hb1⟩
    haveI hx1 := ExtC.mk hb1
    rw [hg]
    go_wp2
    exact bodyPost_ret (v := (.tuple #[.int .u64 0, .int .i64 2])) (by simp (maxDischargeDepth := 6) [results, Tryd.results31, go_sem]) rfl ⟨rfl, by (repeat' (first | (with_reducible exact Below.refl _ _) | (with_reducible refine Below.alloc ?_ ?_ _) | (with_reducible refine Below.setCell ?_ ?_ _) | (with_reducible refine Below.drew ?_) | (with_reducible refine below_step ?_ (by assumption) ?_) | (with_reducible exact leC) | go_size))⟩
  obtain ⟨m, rfl, hm1, hm8⟩ := good_nat hg
  by_cases hb : a < 0 ∨ (s.size : Int) - m < a
  · have hv : getV s a m little = (0, 3) := by simp [getV, hg, hb]
    rw [hv]
    clear hv
    by_cases h0 : a < 0
    · have hd : decide (a < 0) = true := decide_eq_true h0
      go_enter Tryd.func31, Tryd.ntmps31
      go_wp2_with (go_at_call 42; fail)
      refine (rgood_any m w).mono ?_
      rintro e w1 ⟨rfl, hb1⟩
      haveI hx1 := ExtC.mk hb1
      rw [hg]
      go_wp2
      exact bodyPost_ret (v := (.tuple #[.int .u64 0, .int .i64 3])) (by simp (maxDischargeDepth := 6) [results, Tryd.results31, go_sem]) rfl ⟨rfl, by (repeat' (first | (with_reducible exact Below.refl _ _) | (with_reducible refine Below.alloc ?_ ?_ _) | (with_reducible refine Below.setCell ?_ ?_ _) | (with_reducible refine Below.drew ?_) | (with_reducible refine below_step ?_ (by assumption) ?_) | (with_reducible exact leC) | go_size))⟩
    · by_cases h1 : (s.size : Int) < a
      · have hd : decide (a < 0) = false := decide_eq_false h0
        have hd2 : decide ((s.size : Int) < a) = true := decide_eq_true h1
        go_enter Tryd.func31, Tryd.ntmps31
        go_wp2_with (go_at_call 42; fail)
        refine (rgood_any m w).mono ?_
        rintro e w1 ⟨rfl, hb1⟩
        haveI hx1 := ExtC.mk hb1
        rw [hg]
        go_wp2
        exact bodyPost_ret (v := (.tuple #[.int .u64 0, .int .i64 3])) (by simp (maxDischargeDepth := 6) [results, Tryd.results31, go_sem]) rfl ⟨rfl, by (repeat' (first | (with_reducible exact Below.refl _ _) | (with_reducible refine Below.alloc ?_ ?_ _) | (with_reducible refine Below.setCell ?_ ?_ _) | (with_reducible refine Below.drew ?_) | (with_reducible refine below_step ?_ (by assumption) ?_) | (with_reducible exact leC) | go_size))⟩
      · have hd : decide (a < 0) = false := decide_eq_false h0
        have hd2 : decide ((s.size : Int) < a) = false := decide_eq_false h1
        have hd3 : decide ((s.size : Int) - a < m) = true := decide_eq_true (by omega)
        go_enter Tryd.func31, Tryd.ntmps31
        go_wp2_with (go_at_call 42; fail)
        refine (rgood_any m w).mono ?_
        rintro e w1 ⟨rfl, hb1⟩
        haveI hx1 := ExtC.mk hb1
        rw [hg]
        go_wp2
        exact bodyPost_ret (v := (.tuple #[.int .u64 0, .int .i64 3])) (by simp (maxDischargeDepth := 6) [results, Tryd.results31, go_sem]) rfl ⟨rfl, by (repeat' (first | (with_reducible exact Below.refl _ _) | (with_reducible refine Below.alloc ?_ ?_ _) | (with_reducible refine Below.setCell ?_ ?_ _) | (with_reducible refine Below.drew ?_) | (with_reducible refine below_step ?_ (by assumption) ?_) | (with_reducible exact leC) | go_size))⟩
  · obtain ⟨na, rfl⟩ := Int.eq_ofNat_of_zero_le (show 0 ≤ a by omega)
    have hfit : na + m ≤ s.size := by omega
    have hv : getV s na m little = (beVal (getL s na m little), 0) := by simp only [getV, hg]; rw [if_neg (by decide), if_neg hb]; rfl
    rw [hv]
    clear hv
    have hd : decide ((na : Int) < 0) = false := decide_eq_false (by omega)
    have hd2 : decide ((s.size : Int) < na) = false := decide_eq_false (by omega)
    have hd3 : decide ((s.size : Int) - na < m) = false := decide_eq_false (by omega)
    have hll : (getL s na m little).length = m := by unfold getL; split <;> simp <;> omega
    have hat : ∀ q, q < m → ∃ (j : Nat) (hj : j < s.size), (if little then (na : Int) + m - 1 - q else (na : Int) + q) = (j : Int) ∧ s[j] = (getL s na m little).getD q 0 := by
      intro q hq
      cases little
      · exact ⟨na + q, by omega, by simp, at_fwd s na m q hfit hq⟩
      · exact ⟨na + m - 1 - q, by omega, by simp; omega, at_back s na m q hfit hq⟩
    generalize getL s na m little = l at *
    replace hat := Lib.hid hat
    go_enter Tryd.func31, Tryd.ntmps31
    go_wp2_with (go_at_call 42; fail)
    refine (rgood_any m w).mono ?_
    rintro e w1 ⟨rfl, hb1⟩
    haveI hx1 := ExtC.mk hb1
    rw [hg]
    have hd4 : decide (s.size < na) = false := decide_eq_false (by omega)
    go_wp2
    go_loop [11, 12] (fun v i => ∃ q N : Nat, q ≤ m ∧ Hid (beVal (l.take q) = N) ∧ N < 256 ^ q ∧ v = .int .u64 N ∧ i = .int .i64 q) (fun _ i => m - (intOf i).toNat)
    case atStart => exact ⟨0, 0, by omega, rfl, by decide, rfl, rfl⟩
    case round =>
      obtain ⟨q, N, hq, hN, hNl, rfl, rfl⟩ := hrel
      by_cases hlt : q < m
      · obtain ⟨j, hj, hji, hx⟩ := hat.out q hlt
        obtain ⟨x, hx1, hx2⟩ : ∃ x : UInt8, s[j] = x ∧ Hid (x = l.getD q 0) := ⟨_, rfl, hx⟩
        clear hx
        have hxl := x.toNat_lt
        have hsn := Lib.hid (beVal_snoc (l.take q) (l.getD q 0))
        have hts := Lib.hid (takeSnoc l q (by omega))
        have hN64 : N * 256 + 256 ≤ 18446744073709551616 := by
          have h2 : 256 ^ q ≤ 256 ^ 7 := Nat.pow_le_pow_right (by omega) (by omega)
          have h3 : 256 ^ 7 = 72057594037927936 := rfl
          omega
        have hdq : decide ((q : Int) < (m : Int)) = true := decide_eq_true (by omega)
        replace hNl := Lib.hid hNl
        cases little
        · have hji2 : (na : Int) + q = (j : Int) := by simpa using hji
          clear hji
          go_wp2
          go_round
          case rel =>
            refine ⟨q + 1, N * 256 + x.toNat, by omega, ?_, ?_, ?_, by go_num⟩
            · show beVal (l.take (q + 1)) = N * 256 + x.toNat
              rw [hts.out, hsn.out, hN.out, ← hx2.out]
            · have := hNl.out
              rw [Nat.pow_succ]
              omega
            · exact congrArg (Value.int .u64) (by omega)
          case measure => simp [intOf]; omega
        · have hji2 : (na : Int) + m - 1 - q = (j : Int) := by simpa using hji
          clear hji
          go_wp2
          go_round
          case rel =>
            refine ⟨q + 1, N * 256 + x.toNat, by omega, ?_, ?_, ?_, by go_num⟩
            · show beVal (l.take (q + 1)) = N * 256 + x.toNat
              rw [hts.out, hsn.out, hN.out, ← hx2.out]
            · have := hNl.out
              rw [Nat.pow_succ]
              omega
            · exact congrArg (Value.int .u64) (by omega)
          case measure => simp [intOf]; omega
      · obtain rfl : q = m := by omega
        have hfin := hN.out
        rw [List.take_of_length_le (by omega)] at hfin
        replace hfin := Lib.hid hfin
        replace hNl := Lib.hid hNl
        go_wp2
        exact bodyPost_ret (v := (.tuple #[.int .u64 (beVal l : Nat), .int .i64 0])) (by simp (maxDischargeDepth := 6) [results, Tryd.results31, go_sem, hfin.out]) rfl ⟨rfl, by (repeat' (first | (with_reducible exact Below.refl _ _) | (with_reducible refine Below.alloc ?_ ?_ _) | (with_reducible refine Below.setCell ?_ ?_ _) | (with_reducible refine Below.drew ?_) | (with_reducible refine below_step ?_ (by assumption) ?_) | (with_reducible exact leC) | go_size))⟩
end En
end Go.Proofs.YtaponjjdfcmbeaaDoor
