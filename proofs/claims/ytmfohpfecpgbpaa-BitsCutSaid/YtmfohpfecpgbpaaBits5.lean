/- Contracts of word.Fits, Field.Get and of the reference's Bits, Part. No condition. -/
import Derived.Test.YtmfohpfecpgbpaaBits4
import Derived.Deep.OwnRows
namespace Go.Proofs.Ytmfohpfecpgbpaa
open Go.RowKit
attribute [local go_sem] cellI frozenI cellOf_is frozenOf_is cellA frozenA setCellA

theorem fits_any (n m : Nat) (w : World) (h1 : 1 ≤ m) (h : m ≤ 64) :
    Calls Try.prog 23 #[.int .u64 n, .int .i64 m] w fun e w' => e = .returned (.bool (decide (n < 2 ^ m))) ∧ Below w.heap.size w w' := by
  have hd : (decide ((n : Int) ≤ ((2 ^ m - 1 : Nat) : Int))) = decide (n < 2 ^ m) := by
    have : 0 < 2 ^ m := Nat.pow_pos (by omega)
    rw [decide_eq_decide]
    omega
  have hm := fun w => mask_any m w h1 h
  generalize 2 ^ m = M at *
  rw [← hd]
  go_enter Try.func23, Try.ntmps23
  go_wp2_with (go_at_call 21; fail)
  refine (hm w).mono ?_
  rintro e w1 ⟨rfl, hb1⟩
  haveI hx1 := ExtC.mk hb1
  go_wp2
  exact bodyPost_ret (v := (.bool (decide ((n : Int) ≤ ((M - 1 : Nat) : Int))))) (by simp (maxDischargeDepth := 6) [results, Try.results23, go_sem]) rfl ⟨rfl, by (repeat' (first | (with_reducible exact Below.refl _ _) | (with_reducible refine Below.alloc ?_ ?_ _) | (with_reducible refine Below.setCell ?_ ?_ _) | (with_reducible refine Below.drew ?_) | (with_reducible refine below_step ?_ (by assumption) ?_) | (with_reducible exact leC) | go_size))⟩

theorem bv64 (a : Nat) (h : a < 18446744073709551616) : (BitVec.ofInt 64 (a : Int)).toNat = a := by
  rw [BitVec.ofInt_natCast, BitVec.toNat_ofNat]
  have e : (2 : Nat) ^ 64 = 18446744073709551616 := by decide
  exact Nat.mod_eq_of_lt (by rw [e]; exact h)
theorem wrap_u64_nat (a : Nat) (h : a < 18446744073709551616) : IntKind.u64.wrap (a : Int) = a := by rw [IntKind.wrap_u64]; omega
theorem pow_64 {m : Nat} (h : m ≤ 64) : 2 ^ m ≤ 18446744073709551616 := Nat.le_trans (Nat.pow_le_pow_right (by omega) h) (by decide)
theorem u64_and_mask (n b m : Nat) (hn : n < 18446744073709551616) (hm : m ≤ 64) : bits .and .u64 ((n : Int) / 2 ^ b) ((2 ^ m - 1 : Nat) : Int) = ((n / 2 ^ b % 2 ^ m : Nat) : Int) := by
  have e : (n : Int) / 2 ^ b = ((n / 2 ^ b : Nat) : Int) := by rw [Int.natCast_ediv, Int.natCast_pow]; rfl
  rw [e]
  show IntKind.u64.wrap ((BitVec.ofInt 64 ((n / 2 ^ b : Nat) : Int) &&& BitVec.ofInt 64 ((2 ^ m - 1 : Nat) : Int)).toNat : Int) = _
  have hd : n / 2 ^ b < 18446744073709551616 := Nat.lt_of_le_of_lt (Nat.div_le_self _ _) hn
  have hp := pow_64 hm
  have hp0 : 0 < 2 ^ m := Nat.pow_pos (by omega)
  rw [BitVec.toNat_and, bv64 _ hd, bv64 _ (by omega), Nat.and_two_pow_sub_one_eq_mod]
  exact wrap_u64_nat _ (Nat.lt_of_le_of_lt (Nat.mod_le _ _) hd)
/-- The part of a number. -/
def partV (n : Nat) (b m : Int) : Nat := if b < 0 ∨ 63 < b ∨ m < 1 ∨ 64 < m then 0 else n / 2 ^ b.toNat % 2 ^ m.toNat
set_option maxHeartbeats 400000 in
theorem get_any (b m : Int) (n : Nat) (w : World) (hn : n < 18446744073709551616) (hb : -9223372036854775808 ≤ b ∧ b ≤ 9223372036854775807) (hm : -9223372036854775808 ≤ m ∧ m ≤ 9223372036854775807) :
    Calls Try.prog 10 #[.agg #[.int .i64 b, .int .i64 m], .int .u64 n] w fun e w' => e = .returned (.int .u64 (partV n b m : Nat)) ∧ Below w.heap.size w w' := by
  by_cases h : b < 0 ∨ 63 < b ∨ m < 1 ∨ 64 < m
  · have hv : partV n b m = 0 := by rw [partV, if_pos h]
    rw [hv]
    clear hv
    go_enter Try.func10, Try.ntmps10
    go_wp2
    all_goals first | (exfalso; omega) | skip
    all_goals exact bodyPost_ret (v := (.int .u64 0)) (by simp (maxDischargeDepth := 6) [results, Try.results10, go_sem]) rfl ⟨rfl, by (repeat' (first | (with_reducible exact Below.refl _ _) | (with_reducible refine Below.alloc ?_ ?_ _) | (with_reducible refine Below.setCell ?_ ?_ _) | (with_reducible refine Below.drew ?_) | (with_reducible refine below_step ?_ (by assumption) ?_) | (with_reducible exact leC) | go_size))⟩
  · have hv : partV n b m = n / 2 ^ b.toNat % 2 ^ m.toNat := by rw [partV, if_neg h]
    rw [hv]
    clear hv
    obtain ⟨b, rfl⟩ := Int.eq_ofNat_of_zero_le (show 0 ≤ b by omega)
    obtain ⟨m, rfl⟩ := Int.eq_ofNat_of_zero_le (show 0 ≤ m by omega)
    have hbm : m ≤ 64 := by omega
    have g1 : decide ((b : Int) < 0) = false := decide_eq_false (by omega)
    have g2 : decide (64 ≤ (b : Int)) = false := decide_eq_false (by omega)
    have g3 : decide ((m : Int) < 1) = false := decide_eq_false (by omega)
    have g4 : decide (64 < (m : Int)) = false := decide_eq_false (by omega)
    go_enter Try.func10, Try.ntmps10
    go_wp2
    refine steady_region (by kernel_rfl) (by kernel_rfl) ?_
    repeat (first | go_big_quiet_skip | (go_big_quiet_want; go_big_quiet_op; first | go_big_quiet_on | (apply Exists.intro; refine ⟨fun _ => ?_, ?_⟩; (focus (((go_at_call 21; (first | with_reducible exact Calls.steady (mask_any m _ (by omega) (by omega))))))); go_big_quiet_on)))
    refine wpQuiet_nil ?_
    rintro w1 ⟨⟨_, hb1⟩, rfl⟩
    haveI hx1 := ExtC.mk hb1
    try dsimp only
    go_wp2
    exact bodyPost_ret (v := (.int .u64 (n / 2 ^ b % 2 ^ m : Nat))) (by simp (maxDischargeDepth := 6) [results, Try.results10, go_sem, u64_and_mask _ _ _ hn hbm]) rfl ⟨rfl, by (repeat' (first | (with_reducible exact Below.refl _ _) | (with_reducible refine Below.alloc ?_ ?_ _) | (with_reducible refine Below.setCell ?_ ?_ _) | (with_reducible refine Below.drew ?_) | (with_reducible refine below_step ?_ (by assumption) ?_) | (with_reducible exact leC) | go_size))⟩

/-- The bits of a number, the lowest first. -/
def bitC (n : Nat) (j : Nat) : Value := .int .i64 ((n / 2 ^ j % 2 : Nat) : Int)
def bitCells (n : Nat) : List Value := (List.range 64).map (bitC n)
theorem rbits_any (n : Nat) (w : World) (hn : n < 18446744073709551616) :
    Calls Try.prog 22 #[.int .u64 n] w (Ret (fun v w' => RowIs w' v 64 (bitCells n)) w) := by
  have hmk : (Instr.makeSlice 22 (.int .i64 64) (.int .i64 64)).run Try.prog w = .ok (.slice (some ⟨w.heap.size, 0, none⟩) 64 64) (w.alloc (.cells (madeCells #[Value.int .i64 0] 64) 3)) := run_make_row' (P := Try.prog) 22 3 (.int .i64 0) 8 Try.underlying22 (by kernel_rfl) rfl .i64 .i64 64 (by omega) (by omega) w
  have hrow0 : (w.alloc (.cells (madeCells #[Value.int .i64 0] 64) 3)).heap[w.heap.size]? = some (.cells (rowTo (bitC n) (.int .i64 0) 64 0) 3) := by rw [Go.heap_alloc_new, rowTo_zero (bitC n)]
  have hba : Below w.heap.size w (w.alloc (.cells (madeCells #[Value.int .i64 0] 64) 3)) := by (repeat' (first | (with_reducible exact Below.refl _ _) | (with_reducible refine Below.alloc ?_ ?_ _) | (with_reducible refine Below.setCell ?_ ?_ _) | (with_reducible refine Below.drew ?_) | (with_reducible refine below_step ?_ (by assumption) ?_) | (with_reducible exact leC) | go_size))
  generalize w.alloc (.cells (madeCells #[Value.int .i64 0] 64) 3) = W at *
  go_enter Try.func22, Try.ntmps22
  go_wp2
  go_loopw [0, 4] (fun av i wr => ∃ (k A : Nat), k ≤ 64 ∧ Hid (n / 2 ^ k = A) ∧ A < 18446744073709551616 ∧ av = .int .u64 A ∧ i = .int .i64 k ∧ wr.heap[w.heap.size]? = some (.cells (rowTo (bitC n) (.int .i64 0) 64 k) 3) ∧ Below w.heap.size w wr) (fun _ i _ => 64 - (intOf i).toNat)
  case atStart => exact ⟨0, n, by omega, by show n / 2 ^ 0 = n; simp, hn, rfl, rfl, hrow0, hba⟩
  case round =>
    obtain ⟨k, A, hk, hA, hA1, rfl, rfl, hrk, hbk⟩ := hrel
    clear hrow0 hba hmk
    by_cases hlt : k < 64
    · have hjs : k < (rowTo (bitC n) (.int .i64 0) 64 k).size := by rw [rowTo_size]; exact hlt
      have hcell : wr.cell? ⟨w.heap.size, k, none⟩ = some ((rowTo (bitC n) (.int .i64 0) 64 k)[k]) := by rw [Go.cell_of_row wr _ _ _ _ _ hrk]; exact Array.getElem?_eq_getElem hjs
      have hfro := Go.frozen_of_row wr w.heap.size k _ _ hrk
      have hnew := Go.heap_setCell_same wr w.heap.size k _ _ (bitC n k) hrk
      rw [rowTo_step _ _ 64 k hlt] at hnew
      have e1 : bitC n k = .int .i64 ((A : Int) % 2) := by rw [bitC, hA.out]; rfl
      rw [e1] at hnew
      replace e1 := Lib.hid e1
      go_wp2
      go_roundw
      case rel => exact ⟨k + 1, A / 2, by omega, by show n / 2 ^ (k + 1) = A / 2; rw [Nat.pow_succ, ← Nat.div_div_eq_div_mul, hA.out], by omega, by go_num, by go_num, hnew, Below.setCell hbk (Nat.le_refl _) _⟩
      case measure => simp [intOf]; omega
    · obtain rfl : k = 64 := by omega
      rw [rowTo_full] at hrk
      go_wp2
      refine bodyPost_ret (v := (.slice (some ⟨w.heap.size, 0, none⟩) 64 64)) (by simp (maxDischargeDepth := 6) [results, Try.results22, go_sem]) rfl ⟨_, rfl, by (repeat' (first | (with_reducible exact Below.refl _ _) | (with_reducible refine Below.alloc ?_ ?_ _) | (with_reducible refine Below.setCell ?_ ?_ _) | (with_reducible refine Below.drew ?_) | (with_reducible refine below_step ?_ (by assumption) ?_) | (with_reducible exact leC) | go_size)), ?_⟩
      exact RowIs.of_block (by omega) hrk
end Go.Proofs.Ytmfohpfecpgbpaa
