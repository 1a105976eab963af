/- Contracts of the CRC-32: the table, the sum made byte by byte, and the reference: both compute the plain sum. Condition: the string takes at most 2^48 bytes. -/
import Derived.Test.YtnpikkghgflefaaAdler
namespace Go.Proofs.Ytnpikkghgflefaa
open Go.RowKit
attribute [local go_sem] cellI frozenI cellOf_is frozenOf_is cellA frozenA setCellA

set_option maxHeartbeats 800000 in
theorem rcrc_any (s : ByteArray) (w : World) (hs : s.size ≤ 281474976710656) :
    Calls Try.prog 10 #[.string s] w fun e w' => e = .returned (.int .u32 (crc32 s.data.toList : Nat)) ∧ Below w.heap.size w w' := by
  go_enter Try.func10, Try.ntmps10
  go_wp2
  go_loop [3, 4] (fun r i => ∃ k R : Nat, k ≤ s.size ∧ Hid (crcReg 4294967295 (s.data.toList.take k) = R) ∧ R < 2 ^ 32 ∧ i = .int .i64 k ∧ r = .int .u32 R) (fun _ i => s.size - (intOf i).toNat)
  case atStart => exact ⟨0, 4294967295, by omega, rfl, by omega, rfl, rfl⟩
  case round =>
    obtain ⟨k, R, hk, hR, hRlt, rfl, rfl⟩ := hrel
    by_cases hlt : k < s.size
    · obtain ⟨x, hxe, hx⟩ : ∃ x : UInt8, s[k] = x ∧ Hid (x = s.data.toList.getD k 0) := ⟨_, rfl, get_getD s k hlt⟩
      have hx2 := x.toNat_lt
      have hxor := u32_xor R x.toNat hRlt (by omega)
      have hX := Nat.xor_lt_two_pow hRlt (show x.toNat < 2 ^ 32 by omega)
      have hsn := Lib.hid (crcReg_snoc 4294967295 (s.data.toList.take k) (s.data.toList.getD k 0))
      have hts := Lib.hid (take_snoc s.data.toList k (by simpa using hlt))
      go_wp2
      go_loop [3, 5] (fun r j => ∃ n C : Nat, n ≤ 8 ∧ Hid (cstepN n (R ^^^ x.toNat) = C) ∧ C < 2 ^ 32 ∧ j = .int .i64 n ∧ r = .int .u32 C) (fun _ j => 8 - (intOf j).toNat)
      case atStart => exact ⟨0, _, by omega, rfl, hX, rfl, rfl⟩
      case round =>
        obtain ⟨n, C, hn, hC, hClt, rfl, rfl⟩ := hrel
        by_cases hlt8 : n < 8
        · have hd8 : decide ((n : Int) < 8) = true := decide_eq_true (by omega)
          have hcs : Hid (cstep C = if C % 2 = 1 then (C / 2) ^^^ poly else C / 2) := rfl
          have hcl := cstep_lt hClt
          have hxp : bits .xor .u32 ((C : Int) / 2) 3988292384 = ((C / 2 ^^^ poly : Nat) : Int) := u32_xorp (C / 2) (by omega)
          rcases Nat.mod_two_eq_zero_or_one C with hp | hp
          · have hd2 : decide ((C : Int) % 2 = 1) = false := decide_eq_false (by omega)
            go_wp2
            go_round
            case rel =>
              refine ⟨n + 1, cstep C, by omega, ?_, hcl, by go_num, ?_⟩
              · show cstep (cstepN n _) = _
                rw [hC.out]
              · rw [hcs.out, if_neg (by omega)]
                first | rfl | (congr 1; done) | (congr 1; omega)
            case measure => simp [intOf]; omega
          · have hd2 : decide ((C : Int) % 2 = 1) = true := decide_eq_true (by omega)
            go_wp2
            go_round
            case rel =>
              refine ⟨n + 1, cstep C, by omega, ?_, hcl, by go_num, ?_⟩
              · show cstep (cstepN n _) = _
                rw [hC.out]
              · rw [hcs.out, if_pos hp]
            case measure => simp [intOf]; omega
        · obtain rfl : n = 8 := by omega
          go_wp2
          go_round
          case rel =>
            refine ⟨k + 1, C, by omega, ?_, hClt, by go_num, rfl⟩
            rw [hts.out, hsn.out, hR.out, ← hx.out]
            exact hC.out
          case measure => simp [intOf]; omega
    · obtain rfl : k = s.size := by omega
      have hfin := Lib.hid (show crc32 s.data.toList = 4294967295 - R by
        have := hR.out
        rw [List.take_of_length_le (by simp)] at this
        unfold crc32; rw [this])
      go_wp2
      go_ret
      refine ⟨ret_int ?_, Below.refl _ _⟩
      rw [hfin.out]
      omega
end Go.Proofs.Ytnpikkghgflefaa
