/- Contracts of the functions of package bits that later chapters call, and of the reference's. Conditions: the numbers are a uint64's. -/
import Derived.Test.YtaponjjdfcmbeaaDoorRows1
namespace Go.Proofs.YtaponjjdfcmbeaaDoor
open Go.RowKit
attribute [local go_sem] cellI frozenI cellOf_is frozenOf_is cellA frozenA setCellA
attribute [-go_sem] run_min_int2
namespace Bi
theorem mask_num : ∀ m : Nat, m ≤ 64 → 18446744073709551615 / 2 ^ (64 - m) = 2 ^ m - 1 := by decide +kernel
/-- The number of so many ones, at most 64. -/
theorem mask_any (m : Nat) (w : World) (h1 : 1 ≤ m) (h : m ≤ 64) :
    Calls Tryd.prog 46 #[.int .i64 m] w fun e w' => e = .returned (.int .u64 ((2 ^ m - 1 : Nat) : Int)) ∧ Below w.heap.size w w' := by
  have hmn : ∀ (w : World) (ts : Array TypeId) (t : TypeId), (Builtin.min_ ts t #[.int .i64 m, .int .i64 64]).run Tryd.prog w = .ok (.int .i64 m) w := fun w ts t => by rw [run_min_int2, if_neg (by omega)]
  obtain ⟨q, hq, hqm⟩ : ∃ q : Nat, (64 : Int) - m = q ∧ q = 64 - m := ⟨64 - m, by omega, rfl⟩
  have hv : (18446744073709551615 : Int) / 2 ^ q = ((2 ^ m - 1 : Nat) : Int) := by
    rw [← mask_num m h, ← hqm, Int.natCast_ediv, Int.natCast_pow]
    rfl
  obtain ⟨V, hV⟩ : ∃ V : Nat, 2 ^ m - 1 = V := ⟨_, rfl⟩
  rw [hV] at hv ⊢
  replace hqm := Lib.hid hqm
  clear hV
  go_enter Tryd.func46, Tryd.ntmps46
  go_wp2
  exact bodyPost_ret (v := (.int .u64 V)) (by simp (maxDischargeDepth := 6) [results, Tryd.results46, go_sem, hq, hv]) rfl ⟨rfl, by (repeat' (first | (with_reducible exact Below.refl _ _) | (with_reducible refine Below.alloc ?_ ?_ _) | (with_reducible refine Below.setCell ?_ ?_ _) | (with_reducible refine Below.drew ?_) | (with_reducible refine below_step ?_ (by assumption) ?_) | (with_reducible exact leC) | go_size))⟩
theorem bv64 (a : Nat) (h : a < 18446744073709551616) : (BitVec.ofInt 64 (a : Int)).toNat = a := by
  rw [BitVec.ofInt_natCast, BitVec.toNat_ofNat]
  have e : (2 : Nat) ^ 64 = 18446744073709551616 := by decide
  exact Nat.mod_eq_of_lt (by rw [e]; exact h)
theorem wrap_u64_nat (a : Nat) (h : a < 18446744073709551616) : IntKind.u64.wrap (a : Int) = a := by rw [IntKind.wrap_u64]; omega
theorem pow_64 {m : Nat} (h : m ≤ 64) : 2 ^ m ≤ 18446744073709551616 := Nat.le_trans (Nat.pow_le_pow_right (by omega) h) (by decide)
theorem u64_and_mask (n b m : Nat) (hn : n < 18446744073709551616) (hm : m ≤ 64) : bits .and .u64 ((n : Int) / 2 ^ b) ((2 ^ m - 1 : Nat) : Int) = ((n / 2 ^ b % 2 ^ m : Nat) : Int) := by
  have e : (n : Int) / 2 ^ b = ((n / 2 ^ b : Nat) : Int) := by rw [Int.natCast_ediv, Int.natCast_pow]; rfl
  rw [e]
  show IntKind.u64.wrap ((BitVec.ofInt 64 ((n / 2 ^ b : Nat) : Int) &&& BitVec.ofInt 64 ((2 ^ m - 1 : Nat) : Int)).toNat : Int) = _
  have hd : n / 2 ^ b < 18446744073709551616 := Nat.lt_of_le_of_lt (Nat.div_le_self _ _) hn
  have hp := pow_64 hm
  have hp0 : 0 < 2 ^ m := Nat.pow_pos (by omega)
  rw [BitVec.toNat_and, bv64 _ hd, bv64 _ (by omega), Nat.and_two_pow_sub_one_eq_mod]
  exact wrap_u64_nat _ (Nat.lt_of_le_of_lt (Nat.mod_le _ _) hd)
/-- The part of a number. -/
def partV (n : Nat) (b m : Int) : Nat := if b < 0 ∨ 63 < b ∨ m < 1 ∨ 64 < m then 0 else n / 2 ^ b.toNat % 2 ^ m.toNat
set_option maxHeartbeats 400000 in
theorem get_any (b m : Int) (n : Nat) (w : World) (hn : n < 18446744073709551616) (hb : -9223372036854775808 ≤ b ∧ b ≤ 9223372036854775807) (hm : -9223372036854775808 ≤ m ∧ m ≤ 9223372036854775807) :
    Calls Tryd.prog 30 #[.agg #[.int .i64 b, .int .i64 m], .int .u64 n] w fun e w' => e = .returned (.int .u64 (partV n b m : Nat)) ∧ Below w.heap.size w w' := by
  by_cases h : b < 0 ∨ 63 < b ∨ m < 1 ∨ 64 < m
  · have hv : partV n b m = 0 := by rw [partV, if_pos h]
    rw [hv]
    clear hv
    go_enter Tryd.func30, Tryd.ntmps30
    go_wp2
    all_goals first | (exfalso; omega) | skip
    all_goals exact bodyPost_ret (v := (.int .u64 0)) (by simp (maxDischargeDepth := 6) [results, Tryd.results30, go_sem]) rfl ⟨rfl, by (repeat' (first | (with_reducible exact Below.refl _ _) | (with_reducible refine Below.alloc ?_ ?_ _) | (with_reducible refine Below.setCell ?_ ?_ _) | (with_reducible refine Below.drew ?_) | (with_reducible refine below_step ?_ (by assumption) ?_) | (with_reducible exact leC) | go_size))⟩
  · have hv : partV n b m = n / 2 ^ b.toNat % 2 ^ m.toNat := by rw [partV, if_neg h]
    rw [hv]
    clear hv
    obtain ⟨b, rfl⟩ := Int.eq_ofNat_of_zero_le (show 0 ≤ b by omega)
    obtain ⟨m, rfl⟩ := Int.eq_ofNat_of_zero_le (show 0 ≤ m by omega)
    have hbm : m ≤ 64 := by omega
    have g1 : decide ((b : Int) < 0) = false := decide_eq_false (by omega)
    have g2 : decide (64 ≤ (b : Int)) = false := decide_eq_false (by omega)
    have g3 : decide ((m : Int) < 1) = false := decide_eq_false (by omega)
    have g4 : decide (64 < (m : Int)) = false := decide_eq_false (by omega)
    go_enter Tryd.func30, Tryd.ntmps30
    go_wp2
    refine steady_region (by kernel_rfl) (by kernel_rfl) ?_
    repeat (first | go_big_quiet_skip | (go_big_quiet_want; go_big_quiet_op; first | go_big_quiet_on | (apply Exists.intro; refine ⟨fun _ => ?_, ?_⟩; (focus (((go_at_call 46; (first | with_reducible exact Calls.steady (mask_any m _ (by omega) (by omega))))))); go_big_quiet_on)))
    refine wpQuiet_nil ?_
    rintro w1 ⟨⟨_, hb1⟩, rfl⟩
    haveI hx1 := ExtC.mk hb1
    try dsimp only
    go_wp2
    exact bodyPost_ret (v := (.int .u64 (n / 2 ^ b % 2 ^ m : Nat))) (by simp (maxDischargeDepth := 6) [results, Tryd.results30, go_sem, u64_and_mask _ _ _ hn hbm]) rfl ⟨rfl, by (repeat' (first | (with_reducible exact Below.refl _ _) | (with_reducible refine Below.alloc ?_ ?_ _) | (with_reducible refine Below.setCell ?_ ?_ _) | (with_reducible refine Below.drew ?_) | (with_reducible refine below_step ?_ (by assumption) ?_) | (with_reducible exact leC) | go_size))⟩

/-- The bits of a number, the lowest first. -/
def bitC (n : Nat) (j : Nat) : Value := .int .i64 ((n / 2 ^ j % 2 : Nat) : Int)
def bitCells (n : Nat) : List Value := (List.range 64).map (bitC n)
theorem rbits_any (n : Nat) (w : World) (hn : n < 18446744073709551616) :
    Calls Tryd.prog 47 #[.int .u64 n] w (Ret (fun v w' => RowIs w' v 64 (bitCells n)) w) := by
  have hmk : (Instr.makeSlice 48 (.int .i64 64) (.int .i64 64)).run Tryd.prog w = .ok (.slice (some ⟨w.heap.size, 0, none⟩) 64 64) (w.alloc (.cells (madeCells #[Value.int .i64 0] 64) 3)) := run_make_row' (P := Tryd.prog) 48 3 (.int .i64 0) 8 Tryd.underlying48 (by kernel_rfl) rfl .i64 .i64 64 (by omega) (by omega) w
  have hrow0 : (w.alloc (.cells (madeCells #[Value.int .i64 0] 64) 3)).heap[w.heap.size]? = some (.cells (rowTo (bitC n) (.int .i64 0) 64 0) 3) := by rw [Go.heap_alloc_new, rowTo_zero (bitC n)]
  have hba : Below w.heap.size w (w.alloc (.cells (madeCells #[Value.int .i64 0] 64) 3)) := by (repeat' (first | (with_reducible exact Below.refl _ _) | (with_reducible refine Below.alloc ?_ ?_ _) | (with_reducible refine Below.setCell ?_ ?_ _) | (with_reducible refine Below.drew ?_) | (with_reducible refine below_step ?_ (by assumption) ?_) | (with_reducible exact leC) | go_size))
  generalize w.alloc (.cells (madeCells #[Value.int .i64 0] 64) 3) = W at *
  go_enter Tryd.func47, Tryd.ntmps47
  go_wp2
  go_loopw [0, 4] (fun av i wr => ∃ (k A : Nat), k ≤ 64 ∧ Hid (n / 2 ^ k = A) ∧ A < 18446744073709551616 ∧ av = .int .u64 A ∧ i = .int .i64 k ∧ wr.heap[w.heap.size]? = some (.cells (rowTo (bitC n) (.int .i64 0) 64 k) 3) ∧ Below w.heap.size w wr) (fun _ i _ => 64 - (intOf i).toNat)
  case atStart => exact ⟨0, n, by omega, by show n / 2 ^ 0 = n; simp, hn, rfl, rfl, hrow0, hba⟩
  case round =>
    obtain ⟨k, A, hk, hA, hA1, rfl, rfl, hrk, hbk⟩ := hrel
    clear hrow0 hba hmk
    by_cases hlt : k < 64
    · have hjs : k < (rowTo (bitC n) (.int .i64 0) 64 k).size := by rw [rowTo_size]; exact hlt
      have hcell : wr.cell? ⟨w.heap.size, k, none⟩ = some ((rowTo (bitC n) (.int .i64 0) 64 k)[k]) := by rw [Go.cell_of_row wr _ _ _ _ _ hrk]; exact Array.getElem?_eq_getElem hjs
      have hfro := Go.frozen_of_row wr w.heap.size k _ _ hrk
      have hnew := Go.heap_setCell_same wr w.heap.size k _ _ (bitC n k) hrk
      rw [rowTo_step _ _ 64 k hlt] at hnew
      have e1 : bitC n k = .int .i64 ((A : Int) % 2) := by rw [bitC, hA.out]; rfl
      rw [e1] at hnew
      replace e1 := Lib.hid e1
      go_wp2
      go_roundw
      case rel => exact ⟨k + 1, A / 2, by omega, by show n / 2 ^ (k + 1) = A / 2; rw [Nat.pow_succ, ← Nat.div_div_eq_div_mul, hA.out], by omega, by go_num, by go_num, hnew, Below.setCell hbk (Nat.le_refl _) _⟩
      case measure => simp [intOf]; omega
    · obtain rfl : k = 64 := by omega
      rw [rowTo_full] at hrk
      go_wp2
      refine bodyPost_ret (v := (.slice (some ⟨w.heap.size, 0, none⟩) 64 64)) (by simp (maxDischargeDepth := 6) [results, Tryd.results47, go_sem]) rfl ⟨_, rfl, by (repeat' (first | (with_reducible exact Below.refl _ _) | (with_reducible refine Below.alloc ?_ ?_ _) | (with_reducible refine Below.setCell ?_ ?_ _) | (with_reducible refine Below.drew ?_) | (with_reducible refine below_step ?_ (by assumption) ?_) | (with_reducible exact leC) | go_size)), ?_⟩
      exact RowIs.of_block (by omega) hrk

theorem part_step (n b m r : Nat) (h0 : 1 ≤ r) (h1 : r ≤ m) : n / 2 ^ (b + (r - 1)) % 2 ^ (m - (r - 1)) = n / 2 ^ (b + r) % 2 ^ (m - r) + n / 2 ^ (b + r) % 2 ^ (m - r) + n / 2 ^ (b + (r - 1)) % 2 := by
  obtain ⟨s, rfl⟩ : ∃ s, r = s + 1 := ⟨r - 1, by omega⟩
  obtain ⟨k, rfl⟩ : ∃ k, m = s + 1 + k := ⟨m - (s + 1), by omega⟩
  have e1 : s + 1 - 1 = s := by omega
  have e2 : s + 1 + k - s = k + 1 := by omega
  have e3 : s + 1 + k - (s + 1) = k := by omega
  have e4 : n / 2 ^ (b + (s + 1)) = n / 2 ^ (b + s) / 2 := by rw [← Nat.add_assoc, Nat.pow_succ, Nat.div_div_eq_div_mul]
  rw [e1, e2, e3, e4, Nat.pow_succ, Nat.mul_comm (2 ^ k) 2, Nat.mod_mul]
  omega
theorem bitCells_get (n j : Nat) (h : j < 64) : (bitCells n)[j]? = some (.int .i64 ((n / 2 ^ j % 2 : Nat) : Int)) := by simp [bitCells, bitC, h]
theorem div_zero_of {n j : Nat} (hn : n < 18446744073709551616) (h : 64 ≤ j) : n / 2 ^ j = 0 := by
  refine Nat.div_eq_of_lt (Nat.lt_of_lt_of_le hn ?_)
  exact Nat.le_trans (by decide : 18446744073709551616 ≤ 2 ^ 64) (Nat.pow_le_pow_right (by omega) h)
set_option maxHeartbeats 400000 in
theorem rpart_any (b m : Int) (n : Nat) (w : World) (hn : n < 18446744073709551616) :
    Calls Tryd.prog 32 #[.int .u64 n, .int .i64 b, .int .i64 m] w fun e w' => e = .returned (.int .u64 (partV n b m : Nat)) ∧ Below w.heap.size w w' := by
  by_cases h : b < 0 ∨ 63 < b ∨ m < 1 ∨ 64 < m
  · have hv : partV n b m = 0 := by rw [partV, if_pos h]
    rw [hv]
    clear hv
    go_enter Tryd.func32, Tryd.ntmps32
    go_wp2
    all_goals first | (exfalso; omega) | skip
    all_goals exact bodyPost_ret (v := (.int .u64 0)) (by simp (maxDischargeDepth := 6) [results, Tryd.results32, go_sem]) rfl ⟨rfl, by (repeat' (first | (with_reducible exact Below.refl _ _) | (with_reducible refine Below.alloc ?_ ?_ _) | (with_reducible refine Below.setCell ?_ ?_ _) | (with_reducible refine Below.drew ?_) | (with_reducible refine below_step ?_ (by assumption) ?_) | (with_reducible exact leC) | go_size))⟩
  · have hv : partV n b m = n / 2 ^ b.toNat % 2 ^ m.toNat := by rw [partV, if_neg h]
    rw [hv]
    clear hv
    obtain ⟨b, rfl⟩ := Int.eq_ofNat_of_zero_le (show 0 ≤ b by omega)
    obtain ⟨m, rfl⟩ := Int.eq_ofNat_of_zero_le (show 0 ≤ m by omega)
    have hbm : b ≤ 63 ∧ 1 ≤ m ∧ m ≤ 64 := by omega
    clear h
    obtain ⟨hb63, hm1, hm64⟩ := hbm
    have g1 : decide ((b : Int) < 0) = false := decide_eq_false (by omega)
    have g2 : decide (63 < (b : Int)) = false := decide_eq_false (by omega)
    have g3 : decide ((m : Int) < 1) = false := decide_eq_false (by omega)
    have g4 : decide (64 < (m : Int)) = false := decide_eq_false (by omega)
    rw [Int.toNat_natCast, Int.toNat_natCast]
    obtain ⟨V, hV⟩ : ∃ V, n / 2 ^ b % 2 ^ m = V := ⟨_, rfl⟩
    rw [hV]
    replace hV := Lib.hid hV
    go_enter Tryd.func32, Tryd.ntmps32
    go_wp2_with (go_at_call 47; fail)
    refine ((rbits_any n w hn)).mono ?_
    rintro e w1 ⟨v1, rfl, hb1, ⟨o, cap, rfl, hl1, hl2, ho, hcell⟩⟩
    haveI hx1 := ExtC.mk hb1
    obtain ⟨g, f, rfl⟩ := RowIs.addr ho 0 (by omega)
    replace hcell := hcell g f rfl
    clear ho
    go_wp2
    go_loop [8, 9] (fun p i => ∃ r P : Nat, r ≤ m ∧ Hid (n / 2 ^ (b + r) % 2 ^ (m - r) = P) ∧ P < 18446744073709551616 ∧ p = .int .u64 P ∧ i = .int .i64 (((b + r : Nat) : Int) - 1)) (fun _ i => (intOf i + 1).toNat)
    case atStart => exact ⟨m, 0, by omega, by show _ = _; rw [Nat.sub_self, Nat.pow_zero, Nat.mod_one], by omega, rfl, by go_num⟩
    case round =>
      obtain ⟨r, P, hr, hP, hP1, rfl, rfl⟩ := hrel
      by_cases hlt : 1 ≤ r
      · have hst := part_step n b m r hlt hr
        rw [hP.out] at hst
        have hle : n / 2 ^ (b + (r - 1)) % 2 ^ (m - (r - 1)) < 18446744073709551616 := Nat.lt_of_le_of_lt (Nat.le_trans (Nat.mod_le _ _) (Nat.div_le_self _ _)) hn
        obtain ⟨P2, hP2⟩ : ∃ P2, n / 2 ^ (b + (r - 1)) % 2 ^ (m - (r - 1)) = P2 := ⟨_, rfl⟩
        rw [hP2] at hst hle
        replace hP2 := Lib.hid hP2
        have hd1 : decide ((b : Int) ≤ ((b + r : Nat) : Int) - 1) = true := decide_eq_true (by omega)
        by_cases h64 : b + (r - 1) < 64
        · have hc := hcell (b + (r - 1)) _ (bitCells_get n _ h64)
          obtain ⟨B, hB⟩ : ∃ B, n / 2 ^ (b + (r - 1)) % 2 = B := ⟨_, rfl⟩
          rw [hB] at hst hc
          have hB2 : B < 2 := by omega
          clear hB hcell
          obtain ⟨j, hj, hjj⟩ : ∃ j : Nat, ((b + r : Nat) : Int) - 1 = j ∧ j = b + (r - 1) := ⟨b + (r - 1), by omega, rfl⟩
          rw [← hjj] at hc
          have hjl : j < 64 := by omega
          rw [hj] at hd1 ⊢
          replace hj := Lib.hid hj
          replace hjj := Lib.hid hjj
          have hj64 : decide ((j : Int) < 64) = true := decide_eq_true (by omega)
          replace hst := Lib.hid hst
          have hs2 : P + P + B < 18446744073709551616 := by have := hst.out; omega
          have hbj : b ≤ j := by have := hjj.out; omega
          go_wp2
          go_round
          case rel => exact ⟨r - 1, P2, by omega, hP2, hle, by rw [hst.out]; go_num, by have := hjj.out; congr 1; omega⟩
          case measure => simp [intOf] <;> omega
        · rw [div_zero_of hn (by omega : 64 ≤ b + (r - 1)), Nat.zero_mod] at hst
          have hP0 : P = 0 := by rw [← hP.out, div_zero_of hn (by omega), Nat.zero_mod]
          obtain ⟨j, hj, hjj⟩ : ∃ j : Nat, ((b + r : Nat) : Int) - 1 = j ∧ j = b + (r - 1) := ⟨b + (r - 1), by omega, rfl⟩
          rw [hj] at hd1 ⊢
          replace hj := Lib.hid hj
          have hj64 : decide ((j : Int) < 64) = false := decide_eq_false (by omega)
          have hbj : b ≤ j := by omega
          have hj1 : 1 ≤ j := by omega
          have hj2 : j ≤ 200 := by omega
          replace hjj := Lib.hid hjj
          replace hst := Lib.hid hst
          replace hP0 := Lib.hid hP0
          go_wp2
          go_round
          case rel => exact ⟨r - 1, P2, by omega, hP2, hle, by rw [hst.out, hP0.out], by have := hjj.out; congr 1; omega⟩
          case measure => simp [intOf] <;> omega
      · obtain rfl : r = 0 := by omega
        rw [Nat.add_zero, Nat.sub_zero] at hP
        have hd1 : decide ((b : Int) ≤ ((b + 0 : Nat) : Int) - 1) = false := decide_eq_false (by omega)
        go_wp2
        obtain rfl : V = P := hV.out.symm.trans hP.out
        exact bodyPost_ret (v := (.int .u64 V)) (by simp (maxDischargeDepth := 6) [results, Tryd.results32, go_sem]) rfl ⟨rfl, by (repeat' (first | (with_reducible exact Below.refl _ _) | (with_reducible refine Below.alloc ?_ ?_ _) | (with_reducible refine Below.setCell ?_ ?_ _) | (with_reducible refine Below.drew ?_) | (with_reducible refine below_step ?_ (by assumption) ?_) | (with_reducible exact leC) | go_size))⟩
end Bi
end Go.Proofs.YtaponjjdfcmbeaaDoor
