/- Contracts of the reference's Part and Goes. No condition. -/
import Derived.Test.YtmfohpfecpgbpaaBits5
namespace Go.Proofs.Ytmfohpfecpgbpaa
open Go.RowKit
attribute [local go_sem] cellI frozenI cellOf_is frozenOf_is cellA frozenA setCellA

theorem part_step (n b m r : Nat) (h0 : 1 ≤ r) (h1 : r ≤ m) : n / 2 ^ (b + (r - 1)) % 2 ^ (m - (r - 1)) = n / 2 ^ (b + r) % 2 ^ (m - r) + n / 2 ^ (b + r) % 2 ^ (m - r) + n / 2 ^ (b + (r - 1)) % 2 := by
  obtain ⟨s, rfl⟩ : ∃ s, r = s + 1 := ⟨r - 1, by omega⟩
  obtain ⟨k, rfl⟩ : ∃ k, m = s + 1 + k := ⟨m - (s + 1), by omega⟩
  have e1 : s + 1 - 1 = s := by omega
  have e2 : s + 1 + k - s = k + 1 := by omega
  have e3 : s + 1 + k - (s + 1) = k := by omega
  have e4 : n / 2 ^ (b + (s + 1)) = n / 2 ^ (b + s) / 2 := by rw [← Nat.add_assoc, Nat.pow_succ, Nat.div_div_eq_div_mul]
  rw [e1, e2, e3, e4, Nat.pow_succ, Nat.mul_comm (2 ^ k) 2, Nat.mod_mul]
  omega
theorem bitCells_get (n j : Nat) (h : j < 64) : (bitCells n)[j]? = some (.int .i64 ((n / 2 ^ j % 2 : Nat) : Int)) := by simp [bitCells, bitC, h]
theorem div_zero_of {n j : Nat} (hn : n < 18446744073709551616) (h : 64 ≤ j) : n / 2 ^ j = 0 := by
  refine Nat.div_eq_of_lt (Nat.lt_of_lt_of_le hn ?_)
  exact Nat.le_trans (by decide : 18446744073709551616 ≤ 2 ^ 64) (Nat.pow_le_pow_right (by omega) h)
set_option maxHeartbeats 400000 in
theorem rpart_any (b m : Int) (n : Nat) (w : World) (hn : n < 18446744073709551616) :
    Calls Try.prog 11 #[.int .u64 n, .int .i64 b, .int .i64 m] w fun e w' => e = .returned (.int .u64 (partV n b m : Nat)) ∧ Below w.heap.size w w' := by
  by_cases h : b < 0 ∨ 63 < b ∨ m < 1 ∨ 64 < m
  · have hv : partV n b m = 0 := by rw [partV, if_pos h]
    rw [hv]
    clear hv
    go_enter Try.func11, Try.ntmps11
    go_wp2
    all_goals first | (exfalso; omega) | skip
    all_goals exact bodyPost_ret (v := (.int .u64 0)) (by simp (maxDischargeDepth := 6) [results, Try.results11, go_sem]) rfl ⟨rfl, by (repeat' (first | (with_reducible exact Below.refl _ _) | (with_reducible refine Below.alloc ?_ ?_ _) | (with_reducible refine Below.setCell ?_ ?_ _) | (with_reducible refine Below.drew ?_) | (with_reducible refine below_step ?_ (by assumption) ?_) | (with_reducible exact leC) | go_size))⟩
  · have hv : partV n b m = n / 2 ^ b.toNat % 2 ^ m.toNat := by rw [partV, if_neg h]
    rw [hv]
    clear hv
    obtain ⟨b, rfl⟩ := Int.eq_ofNat_of_zero_le (show 0 ≤ b by omega)
    obtain ⟨m, rfl⟩ := Int.eq_ofNat_of_zero_le (show 0 ≤ m by omega)
    have hbm : b ≤ 63 ∧ 1 ≤ m ∧ m ≤ 64 := by omega
    clear h
    obtain ⟨hb63, hm1, hm64⟩ := hbm
    have g1 : decide ((b : Int) < 0) = false := decide_eq_false (by omega)
    have g2 : decide (63 < (b : Int)) = false := decide_eq_false (by omega)
    have g3 : decide ((m : Int) < 1) = false := decide_eq_false (by omega)
    have g4 : decide (64 < (m : Int)) = false := decide_eq_false (by omega)
    rw [Int.toNat_natCast, Int.toNat_natCast]
    obtain ⟨V, hV⟩ : ∃ V, n / 2 ^ b % 2 ^ m = V := ⟨_, rfl⟩
    rw [hV]
    replace hV := Lib.hid hV
    go_enter Try.func11, Try.ntmps11
    go_wp2_with (go_at_call 22; fail)
    refine ((rbits_any n w hn)).mono ?_
    rintro e w1 ⟨v1, rfl, hb1, ⟨o, cap, rfl, hl1, hl2, ho, hcell⟩⟩
    haveI hx1 := ExtC.mk hb1
    obtain ⟨g, f, rfl⟩ := RowIs.addr ho 0 (by omega)
    replace hcell := hcell g f rfl
    clear ho
    go_wp2
    go_loop [8, 9] (fun p i => ∃ r P : Nat, r ≤ m ∧ Hid (n / 2 ^ (b + r) % 2 ^ (m - r) = P) ∧ P < 18446744073709551616 ∧ p = .int .u64 P ∧ i = .int .i64 (((b + r : Nat) : Int) - 1)) (fun _ i => (intOf i + 1).toNat)
    case atStart => exact ⟨m, 0, by omega, by show _ = _; rw [Nat.sub_self, Nat.pow_zero, Nat.mod_one], by omega, rfl, by go_num⟩
    case round =>
      obtain ⟨r, P, hr, hP, hP1, rfl, rfl⟩ := hrel
      by_cases hlt : 1 ≤ r
      · have hst := part_step n b m r hlt hr
        rw [hP.out] at hst
        have hle : n / 2 ^ (b + (r - 1)) % 2 ^ (m - (r - 1)) < 18446744073709551616 := Nat.lt_of_le_of_lt (Nat.le_trans (Nat.mod_le _ _) (Nat.div_le_self _ _)) hn
        obtain ⟨P2, hP2⟩ : ∃ P2, n / 2 ^ (b + (r - 1)) % 2 ^ (m - (r - 1)) = P2 := ⟨_, rfl⟩
        rw [hP2] at hst hle
        replace hP2 := Lib.hid hP2
        have hd1 : decide ((b : Int) ≤ ((b + r : Nat) : Int) - 1) = true := decide_eq_true (by omega)
        by_cases h64 : b + (r - 1) < 64
        · have hc := hcell (b + (r - 1)) _ (bitCells_get n _ h64)
          obtain ⟨B, hB⟩ : ∃ B, n / 2 ^ (b + (r - 1)) % 2 = B := ⟨_, rfl⟩
          rw [hB] at hst hc
          have hB2 : B < 2 := by omega
          clear hB hcell
          obtain ⟨j, hj, hjj⟩ : ∃ j : Nat, ((b + r : Nat) : Int) - 1 = j ∧ j = b + (r - 1) := ⟨b + (r - 1), by omega, rfl⟩
          rw [← hjj] at hc
          have hjl : j < 64 := by omega
          rw [hj] at hd1 ⊢
          replace hj := Lib.hid hj
          replace hjj := Lib.hid hjj
          have hj64 : decide ((j : Int) < 64) = true := decide_eq_true (by omega)
          replace hst := Lib.hid hst
          have hs2 : P + P + B < 18446744073709551616 := by have := hst.out; omega
          have hbj : b ≤ j := by have := hjj.out; omega
          go_wp2
          go_round
          case rel => exact ⟨r - 1, P2, by omega, hP2, hle, by rw [hst.out]; go_num, by have := hjj.out; congr 1; omega⟩
          case measure => simp [intOf] <;> omega
        · rw [div_zero_of hn (by omega : 64 ≤ b + (r - 1)), Nat.zero_mod] at hst
          have hP0 : P = 0 := by rw [← hP.out, div_zero_of hn (by omega), Nat.zero_mod]
          obtain ⟨j, hj, hjj⟩ : ∃ j : Nat, ((b + r : Nat) : Int) - 1 = j ∧ j = b + (r - 1) := ⟨b + (r - 1), by omega, rfl⟩
          rw [hj] at hd1 ⊢
          replace hj := Lib.hid hj
          have hj64 : decide ((j : Int) < 64) = false := decide_eq_false (by omega)
          have hbj : b ≤ j := by omega
          have hj1 : 1 ≤ j := by omega
          have hj2 : j ≤ 200 := by omega
          replace hjj := Lib.hid hjj
          replace hst := Lib.hid hst
          replace hP0 := Lib.hid hP0
          go_wp2
          go_round
          case rel => exact ⟨r - 1, P2, by omega, hP2, hle, by rw [hst.out, hP0.out], by have := hjj.out; congr 1; omega⟩
          case measure => simp [intOf] <;> omega
      · obtain rfl : r = 0 := by omega
        rw [Nat.add_zero, Nat.sub_zero] at hP
        have hd1 : decide ((b : Int) ≤ ((b + 0 : Nat) : Int) - 1) = false := decide_eq_false (by omega)
        go_wp2
        obtain rfl : V = P := hV.out.symm.trans hP.out
        exact bodyPost_ret (v := (.int .u64 V)) (by simp (maxDischargeDepth := 6) [results, Try.results11, go_sem]) rfl ⟨rfl, by (repeat' (first | (with_reducible exact Below.refl _ _) | (with_reducible refine Below.alloc ?_ ?_ _) | (with_reducible refine Below.setCell ?_ ?_ _) | (with_reducible refine Below.drew ?_) | (with_reducible refine below_step ?_ (by assumption) ?_) | (with_reducible exact leC) | go_size))⟩
end Go.Proofs.Ytmfohpfecpgbpaa
