/- The contracts of Get and of the reference's. Condition: the string takes at most 2^47 bytes. -/
import Derived.Test.YtnpbhdphbbdefaaEndsW
namespace Go.Proofs.Ytnpbhdphbbdefaa
open Go.RowKit
attribute [local go_sem] cellI frozenI cellOf_is frozenOf_is cellA frozenA setCellA

theorem bv64 (a : Nat) (h : a < 18446744073709551616) : (BitVec.ofInt 64 (a : Int)).toNat = a := by
  rw [BitVec.ofInt_natCast, BitVec.toNat_ofNat]
  have e : (2 : Nat) ^ 64 = 18446744073709551616 := by decide
  exact Nat.mod_eq_of_lt (by rw [e]; exact h)
theorem wrap_u64_nat (a : Nat) (h : a < 18446744073709551616) : IntKind.u64.wrap (a : Int) = a := by rw [IntKind.wrap_u64]; omega
theorem u64_or (a b : Nat) (ha : a * 256 + b < 18446744073709551616) (hb : b < 2 ^ 8) : bits .or .u64 ((a : Int) * 256) (b : Int) = ((a * 256 + b : Nat) : Int) := by
  have e : (a : Int) * 256 = ((a * 256 : Nat) : Int) := by omega
  rw [e]
  show IntKind.u64.wrap ((BitVec.ofInt 64 ((a * 256 : Nat) : Int) ||| BitVec.ofInt 64 (b : Int)).toNat : Int) = _
  have b1 := bv64 (a * 256) (Nat.lt_of_le_of_lt (Nat.le_add_right _ _) ha)
  have b2 := bv64 b (Nat.lt_of_le_of_lt (Nat.le_add_left _ _) ha)
  rw [BitVec.toNat_or, b1, b2]
  have h2 : a * 256 ||| b = a * 256 + b := by rw [show a * 256 = 2 ^ 8 * a from Nat.mul_comm _ _, Nat.two_pow_add_eq_or_of_lt hb]
  rw [h2, wrap_u64_nat _ ha]
theorem extractL (s : ByteArray) (a b : Nat) : (s.extract a b).data.toList = (s.data.toList.drop a).take (b - a) := by simp
/-- The number of bytes, the highest one first. -/
def beVal (l : List UInt8) : Nat := l.foldl (fun n b => n * 256 + b.toNat) 0
theorem beVal_snoc (l : List UInt8) (b : UInt8) : beVal (l ++ [b]) = beVal l * 256 + b.toNat := by simp [beVal]
theorem beVal_lt : ∀ (n : Nat) (l : List UInt8), l.length = n → beVal l < 256 ^ n := by
  intro n
  induction n with
  | zero =>
    intro l h
    obtain rfl : l = [] := by simpa using h
    decide
  | succ n ih =>
    intro l h
    rcases List.eq_nil_or_concat l with rfl | ⟨l', b, rfl⟩
    · simp at h
    · rw [List.concat_eq_append] at *
      have := ih l' (by simpa using h)
      have := b.toNat_lt
      rw [beVal_snoc, Nat.pow_succ]
      omega
theorem beVal_64 (l : List UInt8) (h : l.length ≤ 8) : beVal l < 18446744073709551616 := by
  have h1 := beVal_lt _ l rfl
  have h2 : 256 ^ l.length ≤ 256 ^ 8 := Nat.pow_le_pow_right (by omega) h
  have h3 : 256 ^ 8 = 18446744073709551616 := rfl
  omega
/-- The bytes that Get reads. -/
def getL (s : ByteArray) (a k : Nat) (little : Bool) : List UInt8 := if little then ((s.data.toList.drop a).take k).reverse else (s.data.toList.drop a).take k
/-- What Get answers. -/
def getV (s : ByteArray) (a k : Int) (little : Bool) : Nat × Int :=
  if goodB k = false then (0, 2) else if a < 0 ∨ (s.size : Int) - k < a then (0, 3) else (beVal (getL s a.toNat k.toNat little), 0)

set_option maxHeartbeats 1600000 in
theorem get_any (s : ByteArray) (a k : Int) (little : Bool) (w : World) (hs : s.size ≤ 281474976710656) (ha : -9223372036854775808 ≤ a ∧ a ≤ 9223372036854775807) :
    Calls Try.prog 15 #[.string s, .int .i64 a, .int .i64 k, .bool little] w fun e w' => e = .returned (.tuple #[.int .u64 ((getV s a k little).1 : Nat), .int .i64 (getV s a k little).2]) ∧ Below w.heap.size w w' := by
  cases hg : goodB k
  · have hv : getV s a k little = (0, 2) := by simp [getV, hg]
    rw [hv]
    go_enter Try.func15, Try.ntmps15
    go_wp2_with (go_at_call 10; fail)
    refine (good_any k w).mono ?_
    rintro e w1 ⟨rfl, hb1⟩
    haveI hx1 := ExtC.mk hb1
    rw [hg]
    go_wp2
    exact bodyPost_ret (v := (.tuple #[.int .u64 0, .int .i64 2])) (by simp (maxDischargeDepth := 6) [results, Try.results15, go_sem]) rfl ⟨rfl, by (repeat' (first | (with_reducible exact Below.refl _ _) | (with_reducible refine Below.alloc ?_ ?_ _) | (with_reducible refine Below.setCell ?_ ?_ _) | (with_reducible refine Below.drew ?_) | (with_reducible refine below_step ?_ (by assumption) ?_) | (with_reducible exact leC) | go_size))⟩
  obtain ⟨m, rfl, hm1, hm8⟩ := good_nat hg
  by_cases hb : a < 0 ∨ (s.size : Int) - m < a
  · have hv : getV s a m little = (0, 3) := by simp [getV, hg, hb]
    rw [hv]
    clear hv
    by_cases h0 : a < 0
    · have hd : decide (a < 0) = true := decide_eq_true h0
      go_enter Try.func15, Try.ntmps15
      go_wp2_with (go_at_call 10; fail)
      refine (good_any m w).mono ?_
      rintro e w1 ⟨rfl, hb1⟩
      haveI hx1 := ExtC.mk hb1
      rw [hg]
      go_wp2
      exact bodyPost_ret (v := (.tuple #[.int .u64 0, .int .i64 3])) (by simp (maxDischargeDepth := 6) [results, Try.results15, go_sem]) rfl ⟨rfl, by (repeat' (first | (with_reducible exact Below.refl _ _) | (with_reducible refine Below.alloc ?_ ?_ _) | (with_reducible refine Below.setCell ?_ ?_ _) | (with_reducible refine Below.drew ?_) | (with_reducible refine below_step ?_ (by assumption) ?_) | (with_reducible exact leC) | go_size))⟩
    · have hd : decide (a < 0) = false := decide_eq_false h0
      have hd2 : decide ((s.size : Int) - m < a) = true := decide_eq_true (by omega)
      go_enter Try.func15, Try.ntmps15
      go_wp2_with (go_at_call 10; fail)
      refine (good_any m w).mono ?_
      rintro e w1 ⟨rfl, hb1⟩
      haveI hx1 := ExtC.mk hb1
      rw [hg]
      go_wp2
      exact bodyPost_ret (v := (.tuple #[.int .u64 0, .int .i64 3])) (by simp (maxDischargeDepth := 6) [results, Try.results15, go_sem]) rfl ⟨rfl, by (repeat' (first | (with_reducible exact Below.refl _ _) | (with_reducible refine Below.alloc ?_ ?_ _) | (with_reducible refine Below.setCell ?_ ?_ _) | (with_reducible refine Below.drew ?_) | (with_reducible refine below_step ?_ (by assumption) ?_) | (with_reducible exact leC) | go_size))⟩
  · obtain ⟨na, rfl⟩ := Int.eq_ofNat_of_zero_le (show 0 ≤ a by omega)
    have hfit : na + m ≤ s.size := by omega
    have hv : getV s na m little = (beVal (getL s na m little), 0) := by simp only [getV, hg]; rw [if_neg (by decide), if_neg hb]; rfl
    rw [hv]
    clear hv
    have hd : decide ((na : Int) < 0) = false := decide_eq_false (by omega)
    have hd2 : decide ((s.size : Int) - m < na) = false := decide_eq_false (by omega)
    have hll : (getL s na m little).length = m := by unfold getL; split <;> simp <;> omega
    obtain ⟨L, l, hLd, hLs, hll2, hl, hLe, hLt⟩ : ∃ (L : ByteArray) (l : List UInt8), Hid (L.data.toList = l) ∧ L.size = m ∧ l.length = m ∧ getL s na m little = l ∧ (little = false → s.extract na (na + m) = L) ∧ (little = true → turnB (s.extract na (na + m)) = L) := by
      have hx : (s.extract na (na + m)).data.toList = (s.data.toList.drop na).take m := by rw [extractL]; congr 1; omega
      refine ⟨⟨(getL s na m little).toArray⟩, _, rfl, by show (getL s na m little).toArray.size = m; simpa using hll, hll, rfl, fun h => ?_, fun h => ?_⟩
      · rw [h]
        apply ByteArray.ext
        apply Array.ext'
        rw [hx]; rfl
      · rw [h]
        unfold turnB
        rw [hx]; rfl
    rw [hl]
    clear hl hll
    have hcv := fun w => Lib.run_convert_string_bytes (P := Try.prog) w 9 43 5 L Try.underlying9 Try.underlying43 Try.underlying5
    go_enter Try.func15, Try.ntmps15
    go_wp2_with (go_at_call 10; fail)
    refine (good_any m w).mono ?_
    rintro e w1 ⟨rfl, hb1⟩
    haveI hx1 := ExtC.mk hb1
    rw [hg]
    cases little
    · have he := hLe rfl
      clear hLe hLt
      go_wp2
      have hcell := fun j (hj : j < m) => Lib.bytesWorld_cell w1 5 L j (by rw [hLs]; exact hj)
      rw [hLd.out] at hcell
      have hbw := below_bytes w1 5 L
      generalize Lib.bytesWorld w1 5 L = W at *
      go_loop [11, 41] (fun v i => ∃ q N : Nat, q ≤ m ∧ Hid (beVal (l.take q) = N) ∧ N < 256 ^ q ∧ v = .int .u64 N ∧ i = .int .i64 q) (fun _ i => m - (intOf i).toNat)
      case atStart => exact ⟨0, 0, by omega, rfl, by decide, rfl, rfl⟩
      case round =>
        obtain ⟨q, N, hq, hN, hNl, rfl, rfl⟩ := hrel
        by_cases hlt : q < m
        · obtain ⟨x, hxe, hx, hcx⟩ : ∃ x : Nat, Hid (x = (l.getD q 0).toNat) ∧ x < 2 ^ 8 ∧ W.cell? ⟨w1.heap.size, q, none⟩ = some (.int .u8 x) := ⟨_, rfl, (l.getD q 0).toNat_lt, hcell q hlt⟩
          have hsn := Lib.hid (beVal_snoc (l.take q) (l.getD q 0))
          have hts := Lib.hid (takeSnoc l q (by omega))
          have hnl := Lib.hid (beVal_lt (q + 1) (l.take (q + 1)) (by rw [List.length_take]; omega))
          have hN64 : N * 256 + 256 ≤ 18446744073709551616 := by
            have h2 : 256 ^ q ≤ 256 ^ 7 := Nat.pow_le_pow_right (by omega) (by omega)
            have h3 : 256 ^ 7 = 72057594037927936 := rfl
            omega
          have hor := u64_or N x (by omega) hx
          have hdq : decide ((q : Int) < (m : Int)) = true := decide_eq_true (by omega)
          replace hNl := Lib.hid hNl
          clear hcell hcv
          go_wp2
          go_round
          case rel =>
            refine ⟨q + 1, N * 256 + x, by omega, ?_, ?_, by go_num, ?_⟩
            · show beVal (l.take (q + 1)) = N * 256 + x
              rw [hts.out, hsn.out, hN.out, ← hxe.out]
            · have := hNl.out
              rw [Nat.pow_succ]
              omega
            · go_num
          case measure => simp [intOf]; omega
        · obtain rfl : q = m := by omega
          have hfin := hN.out
          rw [List.take_of_length_le (by omega)] at hfin
          replace hfin := Lib.hid hfin
          replace hNl := Lib.hid hNl
          clear hcell hcv
          go_wp2
          exact bodyPost_ret (v := (.tuple #[.int .u64 (beVal l : Nat), .int .i64 0])) (by simp (maxDischargeDepth := 6) [results, Try.results15, go_sem, hfin.out]) rfl ⟨rfl, by (repeat' (first | (with_reducible exact Below.refl _ _) | (with_reducible refine Below.alloc ?_ ?_ _) | (with_reducible refine Below.setCell ?_ ?_ _) | (with_reducible refine Below.drew ?_) | (with_reducible refine below_step ?_ (by assumption) ?_) | (with_reducible exact leC) | go_size))⟩
    · have he := hLt rfl
      clear hLe hLt
      go_wp2_with (go_at_call 12; fail)
      have hxs : (s.extract na (na + m)).size ≤ 281474976710656 := by rw [ByteArray.size_extract]; omega
      refine (turn_any _ w1 hxs).mono ?_
      rintro e w2 ⟨rfl, hb2⟩
      haveI hx2 := ExtC.mk hb2
      rw [he]
      go_wp2
      have hcell := fun j (hj : j < m) => Lib.bytesWorld_cell w2 5 L j (by rw [hLs]; exact hj)
      rw [hLd.out] at hcell
      have hbw := below_bytes w2 5 L
      generalize Lib.bytesWorld w2 5 L = W at *
      go_loop [11, 41] (fun v i => ∃ q N : Nat, q ≤ m ∧ Hid (beVal (l.take q) = N) ∧ N < 256 ^ q ∧ v = .int .u64 N ∧ i = .int .i64 q) (fun _ i => m - (intOf i).toNat)
      case atStart => exact ⟨0, 0, by omega, rfl, by decide, rfl, rfl⟩
      case round =>
        obtain ⟨q, N, hq, hN, hNl, rfl, rfl⟩ := hrel
        by_cases hlt : q < m
        · obtain ⟨x, hxe, hx, hcx⟩ : ∃ x : Nat, Hid (x = (l.getD q 0).toNat) ∧ x < 2 ^ 8 ∧ W.cell? ⟨w2.heap.size, q, none⟩ = some (.int .u8 x) := ⟨_, rfl, (l.getD q 0).toNat_lt, hcell q hlt⟩
          have hsn := Lib.hid (beVal_snoc (l.take q) (l.getD q 0))
          have hts := Lib.hid (takeSnoc l q (by omega))
          have hnl := Lib.hid (beVal_lt (q + 1) (l.take (q + 1)) (by rw [List.length_take]; omega))
          have hN64 : N * 256 + 256 ≤ 18446744073709551616 := by
            have h2 : 256 ^ q ≤ 256 ^ 7 := Nat.pow_le_pow_right (by omega) (by omega)
            have h3 : 256 ^ 7 = 72057594037927936 := rfl
            omega
          have hor := u64_or N x (by omega) hx
          have hdq : decide ((q : Int) < (m : Int)) = true := decide_eq_true (by omega)
          replace hNl := Lib.hid hNl
          clear hcell hcv
          go_wp2
          go_round
          case rel =>
            refine ⟨q + 1, N * 256 + x, by omega, ?_, ?_, by go_num, ?_⟩
            · show beVal (l.take (q + 1)) = N * 256 + x
              rw [hts.out, hsn.out, hN.out, ← hxe.out]
            · have := hNl.out
              rw [Nat.pow_succ]
              omega
            · go_num
          case measure => simp [intOf]; omega
        · obtain rfl : q = m := by omega
          have hfin := hN.out
          rw [List.take_of_length_le (by omega)] at hfin
          replace hfin := Lib.hid hfin
          replace hNl := Lib.hid hNl
          clear hcell hcv
          go_wp2
          exact bodyPost_ret (v := (.tuple #[.int .u64 (beVal l : Nat), .int .i64 0])) (by simp (maxDischargeDepth := 6) [results, Try.results15, go_sem, hfin.out]) rfl ⟨rfl, by (repeat' (first | (with_reducible exact Below.refl _ _) | (with_reducible refine Below.alloc ?_ ?_ _) | (with_reducible refine Below.setCell ?_ ?_ _) | (with_reducible refine Below.drew ?_) | (with_reducible refine below_step ?_ (by assumption) ?_) | (with_reducible exact leC) | go_size))⟩
end Go.Proofs.Ytnpbhdphbbdefaa
