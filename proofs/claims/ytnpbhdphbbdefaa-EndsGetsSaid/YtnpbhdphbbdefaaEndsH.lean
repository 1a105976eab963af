/- The contract of the reference's Get. Condition: the string takes at most 2^47 - 4096 bytes. -/
import Derived.Test.YtnpbhdphbbdefaaEndsL
namespace Go.Proofs.Ytnpbhdphbbdefaa
open Go.RowKit
attribute [local go_sem] cellI frozenI cellOf_is frozenOf_is cellA frozenA setCellA

theorem at_fwd (s : ByteArray) (a m q : Nat) (h : a + m ≤ s.size) (hq : q < m) : s[a + q]'(by omega) = ((s.data.toList.drop a).take m).getD q 0 := by
  have h1 : q < ((s.data.toList.drop a).take m).length := by simp; omega
  rw [List.getD, List.getElem?_eq_getElem h1]
  simp
  rfl
theorem at_back (s : ByteArray) (a m q : Nat) (h : a + m ≤ s.size) (hq : q < m) : s[a + m - 1 - q]'(by omega) = ((s.data.toList.drop a).take m).reverse.getD q 0 := by
  have h1 : q < ((s.data.toList.drop a).take m).reverse.length := by simp; omega
  rw [List.getD, List.getElem?_eq_getElem h1]
  have h2 : min m (s.size - a) = m := by omega
  simp [h2]
  congr 1
  omega

set_option maxHeartbeats 1600000 in
set_option maxRecDepth 100000 in
theorem rget_any (s : ByteArray) (a k : Int) (little : Bool) (w : World) (hs : s.size ≤ 140737488351232) (ha : -9223372036854775808 ≤ a ∧ a ≤ 9223372036854775807) :
    Calls Try.prog 16 #[.string s, .int .i64 a, .int .i64 k, .bool little] w fun e w' => e = .returned (.tuple #[.int .u64 ((getV s a k little).1 : Nat), .int .i64 (getV s a k little).2]) ∧ Below w.heap.size w w' := by
  cases hg : goodB k
  · have hv : getV s a k little = (0, 2) := by simp [getV, hg]
    rw [hv]
    go_enter Try.func16, Try.ntmps16
    go_wp2_with (go_at_call 11; fail)
    refine (rgood_any k w).mono ?_
    rintro e w1 ⟨rfl, hb1⟩
    haveI hx1 := ExtC.mk hb1
    rw [hg]
    go_wp2
    exact bodyPost_ret (v := (.tuple #[.int .u64 0, .int .i64 2])) (by simp (maxDischargeDepth := 6) [results, Try.results16, go_sem]) rfl ⟨rfl, by (repeat' (first | (with_reducible exact Below.refl _ _) | (with_reducible refine Below.alloc ?_ ?_ _) | (with_reducible refine Below.setCell ?_ ?_ _) | (with_reducible refine Below.drew ?_) | (with_reducible refine below_step ?_ (by assumption) ?_) | (with_reducible exact leC) | go_size))⟩
  obtain ⟨m, rfl, hm1, hm8⟩ := good_nat hg
  by_cases hb : a < 0 ∨ (s.size : Int) - m < a
  · have hv : getV s a m little = (0, 3) := by simp [getV, hg, hb]
    rw [hv]
    clear hv
    by_cases h0 : a < 0
    · have hd : decide (a < 0) = true := decide_eq_true h0
      go_enter Try.func16, Try.ntmps16
      go_wp2_with (go_at_call 11; fail)
      refine (rgood_any m w).mono ?_
      rintro e w1 ⟨rfl, hb1⟩
      haveI hx1 := ExtC.mk hb1
      rw [hg]
      go_wp2
      exact bodyPost_ret (v := (.tuple #[.int .u64 0, .int .i64 3])) (by simp (maxDischargeDepth := 6) [results, Try.results16, go_sem]) rfl ⟨rfl, by (repeat' (first | (with_reducible exact Below.refl _ _) | (with_reducible refine Below.alloc ?_ ?_ _) | (with_reducible refine Below.setCell ?_ ?_ _) | (with_reducible refine Below.drew ?_) | (with_reducible refine below_step ?_ (by assumption) ?_) | (with_reducible exact leC) | go_size))⟩
    · by_cases h1 : (s.size : Int) < a
      · have hd : decide (a < 0) = false := decide_eq_false h0
        have hd2 : decide ((s.size : Int) < a) = true := decide_eq_true h1
        go_enter Try.func16, Try.ntmps16
        go_wp2_with (go_at_call 11; fail)
        refine (rgood_any m w).mono ?_
        rintro e w1 ⟨rfl, hb1⟩
        haveI hx1 := ExtC.mk hb1
        rw [hg]
        go_wp2
        exact bodyPost_ret (v := (.tuple #[.int .u64 0, .int .i64 3])) (by simp (maxDischargeDepth := 6) [results, Try.results16, go_sem]) rfl ⟨rfl, by (repeat' (first | (with_reducible exact Below.refl _ _) | (with_reducible refine Below.alloc ?_ ?_ _) | (with_reducible refine Below.setCell ?_ ?_ _) | (with_reducible refine Below.drew ?_) | (with_reducible refine below_step ?_ (by assumption) ?_) | (with_reducible exact leC) | go_size))⟩
      · have hd : decide (a < 0) = false := decide_eq_false h0
        have hd2 : decide ((s.size : Int) < a) = false := decide_eq_false h1
        have hd3 : decide ((s.size : Int) - a < m) = true := decide_eq_true (by omega)
        go_enter Try.func16, Try.ntmps16
        go_wp2_with (go_at_call 11; fail)
        refine (rgood_any m w).mono ?_
        rintro e w1 ⟨rfl, hb1⟩
        haveI hx1 := ExtC.mk hb1
        rw [hg]
        go_wp2
        exact bodyPost_ret (v := (.tuple #[.int .u64 0, .int .i64 3])) (by simp (maxDischargeDepth := 6) [results, Try.results16, go_sem]) rfl ⟨rfl, by (repeat' (first | (with_reducible exact Below.refl _ _) | (with_reducible refine Below.alloc ?_ ?_ _) | (with_reducible refine Below.setCell ?_ ?_ _) | (with_reducible refine Below.drew ?_) | (with_reducible refine below_step ?_ (by assumption) ?_) | (with_reducible exact leC) | go_size))⟩
  · obtain ⟨na, rfl⟩ := Int.eq_ofNat_of_zero_le (show 0 ≤ a by omega)
    have hfit : na + m ≤ s.size := by omega
    have hv : getV s na m little = (beVal (getL s na m little), 0) := by simp only [getV, hg]; rw [if_neg (by decide), if_neg hb]; rfl
    rw [hv]
    clear hv
    have hd : decide ((na : Int) < 0) = false := decide_eq_false (by omega)
    have hd2 : decide ((s.size : Int) < na) = false := decide_eq_false (by omega)
    have hd3 : decide ((s.size : Int) - na < m) = false := decide_eq_false (by omega)
    have hll : (getL s na m little).length = m := by unfold getL; split <;> simp <;> omega
    have hat : ∀ q, q < m → ∃ (j : Nat) (hj : j < s.size), (if little then (na : Int) + m - 1 - q else (na : Int) + q) = (j : Int) ∧ s[j] = (getL s na m little).getD q 0 := by
      intro q hq
      cases little
      · exact ⟨na + q, by omega, by simp, at_fwd s na m q hfit hq⟩
      · exact ⟨na + m - 1 - q, by omega, by simp; omega, at_back s na m q hfit hq⟩
    generalize getL s na m little = l at *
    replace hat := Lib.hid hat
    go_enter Try.func16, Try.ntmps16
    go_wp2_with (go_at_call 11; fail)
    refine (rgood_any m w).mono ?_
    rintro e w1 ⟨rfl, hb1⟩
    haveI hx1 := ExtC.mk hb1
    rw [hg]
    have hd4 : decide (s.size < na) = false := decide_eq_false (by omega)
    go_wp2
    go_loop [11, 12] (fun v i => ∃ q N : Nat, q ≤ m ∧ Hid (beVal (l.take q) = N) ∧ N < 256 ^ q ∧ v = .int .u64 N ∧ i = .int .i64 q) (fun _ i => m - (intOf i).toNat)
    case atStart => exact ⟨0, 0, by omega, rfl, by decide, rfl, rfl⟩
    case round =>
      obtain ⟨q, N, hq, hN, hNl, rfl, rfl⟩ := hrel
      by_cases hlt : q < m
      · obtain ⟨j, hj, hji, hx⟩ := hat.out q hlt
        obtain ⟨x, hx1, hx2⟩ : ∃ x : UInt8, s[j] = x ∧ Hid (x = l.getD q 0) := ⟨_, rfl, hx⟩
        clear hx
        have hxl := x.toNat_lt
        have hsn := Lib.hid (beVal_snoc (l.take q) (l.getD q 0))
        have hts := Lib.hid (takeSnoc l q (by omega))
        have hN64 : N * 256 + 256 ≤ 18446744073709551616 := by
          have h2 : 256 ^ q ≤ 256 ^ 7 := Nat.pow_le_pow_right (by omega) (by omega)
          have h3 : 256 ^ 7 = 72057594037927936 := rfl
          omega
        have hdq : decide ((q : Int) < (m : Int)) = true := decide_eq_true (by omega)
        replace hNl := Lib.hid hNl
        cases little
        · have hji2 : (na : Int) + q = (j : Int) := by simpa using hji
          clear hji
          go_wp2
          go_round
          case rel =>
            refine ⟨q + 1, N * 256 + x.toNat, by omega, ?_, ?_, ?_, by go_num⟩
            · show beVal (l.take (q + 1)) = N * 256 + x.toNat
              rw [hts.out, hsn.out, hN.out, ← hx2.out]
            · have := hNl.out
              rw [Nat.pow_succ]
              omega
            · exact congrArg (Value.int .u64) (by omega)
          case measure => simp [intOf]; omega
        · have hji2 : (na : Int) + m - 1 - q = (j : Int) := by simpa using hji
          clear hji
          go_wp2
          go_round
          case rel =>
            refine ⟨q + 1, N * 256 + x.toNat, by omega, ?_, ?_, ?_, by go_num⟩
            · show beVal (l.take (q + 1)) = N * 256 + x.toNat
              rw [hts.out, hsn.out, hN.out, ← hx2.out]
            · have := hNl.out
              rw [Nat.pow_succ]
              omega
            · exact congrArg (Value.int .u64) (by omega)
          case measure => simp [intOf]; omega
      · obtain rfl : q = m := by omega
        have hfin := hN.out
        rw [List.take_of_length_le (by omega)] at hfin
        replace hfin := Lib.hid hfin
        replace hNl := Lib.hid hNl
        go_wp2
        exact bodyPost_ret (v := (.tuple #[.int .u64 (beVal l : Nat), .int .i64 0])) (by simp (maxDischargeDepth := 6) [results, Try.results16, go_sem, hfin.out]) rfl ⟨rfl, by (repeat' (first | (with_reducible exact Below.refl _ _) | (with_reducible refine Below.alloc ?_ ?_ _) | (with_reducible refine Below.setCell ?_ ?_ _) | (with_reducible refine Below.drew ?_) | (with_reducible refine below_step ?_ (by assumption) ?_) | (with_reducible exact leC) | go_size))⟩
end Go.Proofs.Ytnpbhdphbbdefaa
