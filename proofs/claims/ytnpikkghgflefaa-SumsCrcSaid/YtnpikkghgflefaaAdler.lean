/- Contracts of Adler32 and of its reference: both compute the plain sum. Condition: the string takes at most 2^48 bytes. -/
import Derived.Test.YtnpikkghgflefaaCrc
namespace Go.Proofs.Ytnpikkghgflefaa
open Go.RowKit
attribute [local go_sem] cellI frozenI cellOf_is frozenOf_is cellA frozenA setCellA

theorem take_snoc (l : List UInt8) (k : Nat) (h : k < l.length) : l.take (k + 1) = l.take k ++ [l.getD k 0] := by
  rw [List.take_add_one, List.getElem?_eq_getElem h]
  simp [h]
theorem get_getD (s : ByteArray) (k : Nat) (h : k < s.size) : s[k] = s.data.toList.getD k 0 := by
  have : k < s.data.toList.length := by simpa using h
  rw [List.getD, List.getElem?_eq_getElem this]
  rfl

set_option maxHeartbeats 800000 in
theorem adler_any (s : ByteArray) (w : World) (hs : s.size ≤ 281474976710656) :
    Calls Try.prog 13 #[.string s] w fun e w' => e = .returned (.int .u32 (adler s.data.toList : Nat)) ∧ Below w.heap.size w w' := by
  have hcv := fun w => Lib.run_convert_string_bytes (P := Try.prog) w 9 33 5 s Try.underlying9 Try.underlying33 Try.underlying5
  have hcell := fun k hk => Lib.bytesWorld_cell w 5 s k hk
  go_enter Try.func13, Try.ntmps13
  go_wp2
  go_loop [3, 4, 10] (fun a b i => ∃ k A B : Nat, k ≤ s.size ∧ Hid (adB (s.data.toList.take k) = (A, B)) ∧ A < 65521 ∧ B < 65521 ∧ i = .int .i64 k ∧ a = .int .u32 A ∧ b = .int .u32 B) (fun _ _ i => s.size - (intOf i).toNat)
  case atStart => exact ⟨0, 1, 0, by omega, rfl, by omega, by omega, rfl, rfl, rfl⟩
  case round =>
    obtain ⟨k, A, B, hk, hAB, hA, hB, rfl, rfl, rfl⟩ := hrel
    by_cases hlt : k < s.size
    · obtain ⟨x, hxe, hx, hc⟩ : ∃ x : Nat, Hid (x = (s.data.toList.getD k 0).toNat) ∧ x < 256 ∧ (Lib.bytesWorld w 5 s).cell? ⟨w.heap.size, k, none⟩ = some (.int .u8 x) := ⟨_, rfl, (s.data.toList.getD k 0).toNat_lt, hcell k hlt⟩
      have hsn := Lib.hid (adB_snoc (s.data.toList.take k) (s.data.toList.getD k 0))
      have hts := Lib.hid (take_snoc s.data.toList k (by simpa using hlt))
      clear hcell
      go_wp2
      go_round
      case rel =>
        refine ⟨k + 1, (A + x) % 65521, (B + (A + x) % 65521) % 65521, by omega, ?_, Nat.mod_lt _ (by omega), Nat.mod_lt _ (by omega), by go_num, ?_, ?_⟩
        · show adB _ = _
          rw [hts.out, hsn.out, hAB.out, ← hxe.out]
        · first | rfl | (congr 1; omega)
        · first | rfl | (congr 1; omega)
      case measure => simp [intOf]; omega
    · obtain rfl : k = s.size := by omega
      have hfin := Lib.hid (show adler s.data.toList = B * 65536 + A by
        have := hAB.out
        rw [List.take_of_length_le (by simp)] at this
        unfold adler; rw [this])
      have hor := Lib.hid (u32_or_high B A (by omega) (by omega))
      clear hcell
      go_wp2
      go_ret
      refine ⟨ret_int ?_, below_bytes _ _ _⟩
      rw [hfin.out]
      have := hor.out
      rw [Int.natCast_mul] at this
      exact this

set_option maxHeartbeats 800000 in
theorem radler_any (s : ByteArray) (w : World) (hs : s.size ≤ 281474976710656) :
    Calls Try.prog 14 #[.string s] w fun e w' => e = .returned (.int .u32 (adler s.data.toList : Nat)) ∧ Below w.heap.size w w' := by
  go_enter Try.func14, Try.ntmps14
  go_wp2
  go_loop [3, 4, 5] (fun a b i => ∃ k A B : Nat, k ≤ s.size ∧ Hid (adB (s.data.toList.take k) = (A, B)) ∧ A < 65521 ∧ B < 65521 ∧ i = .int .i64 k ∧ a = .int .i64 A ∧ b = .int .i64 B) (fun _ _ i => s.size - (intOf i).toNat)
  case atStart => exact ⟨0, 1, 0, by omega, rfl, by omega, by omega, rfl, rfl, rfl⟩
  case round =>
    obtain ⟨k, A, B, hk, hAB, hA, hB, rfl, rfl, rfl⟩ := hrel
    by_cases hlt : k < s.size
    · obtain ⟨x, hxe, hx⟩ : ∃ x : UInt8, s[k] = x ∧ Hid (x = s.data.toList.getD k 0) := ⟨_, rfl, get_getD s k hlt⟩
      have hx2 := x.toNat_lt
      have hsn := Lib.hid (adB_snoc (s.data.toList.take k) (s.data.toList.getD k 0))
      have hts := Lib.hid (take_snoc s.data.toList k (by simpa using hlt))
      go_wp2
      go_round
      case rel =>
        refine ⟨k + 1, (A + x.toNat) % 65521, (B + (A + x.toNat) % 65521) % 65521, by omega, ?_, Nat.mod_lt _ (by omega), Nat.mod_lt _ (by omega), by go_num, ?_, ?_⟩
        · show adB _ = _
          rw [hts.out, hsn.out, hAB.out, ← hx.out]
        · first | rfl | (congr 1; omega)
        · first | rfl | (congr 1; omega)
      case measure => simp [intOf]; omega
    · obtain rfl : k = s.size := by omega
      have hfin := Lib.hid (show adler s.data.toList = B * 65536 + A by
        have := hAB.out
        rw [List.take_of_length_le (by simp)] at this
        unfold adler; rw [this])
      go_wp2
      go_ret
      refine ⟨ret_int ?_, Below.refl _ _⟩
      rw [hfin.out]
      omega
end Go.Proofs.Ytnpikkghgflefaa
