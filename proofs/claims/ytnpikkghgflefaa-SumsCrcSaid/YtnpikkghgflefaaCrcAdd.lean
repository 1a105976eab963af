/- Contracts of the sum that is being made: Add, Sum; and of Crc32. Condition: the string takes at most 2^48 bytes. -/
import Derived.Test.YtnpikkghgflefaaTable
namespace Go.Proofs.Ytnpikkghgflefaa
open Go.RowKit
attribute [local go_sem] cellI frozenI cellOf_is frozenOf_is cellA frozenA setCellA

theorem u32_not (a : Nat) (h : a < 2 ^ 32) : bits .xor .u32 IntKind.u32.max (a : Int) = ((4294967295 - a : Nat) : Int) := by
  show IntKind.u32.wrap ((BitVec.allOnes 32 ^^^ BitVec.ofInt 32 (a : Int)).toNat : Int) = _
  rw [BitVec.allOnes_xor, BitVec.toNat_not, bv32 a h, wrap_u32_nat _ (by omega)]
/-- The sum as it stands behind more bytes. -/
def crcAdd (c : Nat) (l : List UInt8) : Nat := 4294967295 - crcReg (4294967295 - c) l
theorem crcAdd_lt (c : Nat) (l : List UInt8) : crcAdd c l < 2 ^ 32 := by unfold crcAdd; omega

theorem sum_any (w : World) (g c : Nat) (h : w.heap[g]? = some (.cells (crcRow c) 41)) :
    Calls Try.prog 9 #[.pointer (some ⟨g, 0, none⟩)] w fun e w' => e = .returned (.int .u32 c) ∧ w' = w := by
  have hc := (Go.cell_of_row w g 256 _ _ _ h).trans (crcRow_last c)
  go_enter Try.func9, Try.ntmps9
  go_wp2
  exact bodyPost_ret (v := .int .u32 c) (by simp (maxDischargeDepth := 6) [results, Try.results9, go_sem]) rfl ⟨rfl, rfl⟩
theorem sum_nil (w : World) :
    Calls Try.prog 9 #[.pointer none] w fun e w' => e = .returned (.int .u32 0) ∧ Below w.heap.size w w' := by
  go_enter Try.func9, Try.ntmps9
  go_wp2
  exact bodyPost_ret (v := (.int .u32 0)) (by simp (maxDischargeDepth := 6) [results, Try.results9, go_sem]) rfl ⟨rfl, by (repeat' (first | (with_reducible exact Below.refl _ _) | (with_reducible refine Below.alloc ?_ ?_ _) | (with_reducible refine Below.setCell ?_ ?_ _) | (with_reducible refine Below.drew ?_) | (with_reducible refine below_step ?_ (by assumption) ?_) | (with_reducible exact leC) | go_size))⟩
theorem add_nil (s : ByteArray) (w : World) :
    Calls Try.prog 8 #[.pointer none, .string s] w fun e w' => e = .returned (.tuple #[]) ∧ Below w.heap.size w w' := by
  go_enter Try.func8, Try.ntmps8
  go_wp2
  exact bodyPost_ret (v := (.tuple #[])) (by simp (maxDischargeDepth := 6) [results, Try.results8, go_sem]) rfl ⟨rfl, by (repeat' (first | (with_reducible exact Below.refl _ _) | (with_reducible refine Below.alloc ?_ ?_ _) | (with_reducible refine Below.setCell ?_ ?_ _) | (with_reducible refine Below.drew ?_) | (with_reducible refine below_step ?_ (by assumption) ?_) | (with_reducible exact leC) | go_size))⟩
set_option maxHeartbeats 800000 in
set_option maxRecDepth 100000 in
theorem add_any (s : ByteArray) (w : World) (g c : Nat) (hs : s.size ≤ 281474976710656) (hcl : c < 2 ^ 32) (h : w.heap[g]? = some (.cells (crcRow c) 41)) :
    Calls Try.prog 8 #[.pointer (some ⟨g, 0, none⟩), .string s] w fun e w' => e = .returned (.tuple #[]) ∧ ∃ w1, Below w.heap.size w w1 ∧ w' = w1.setCell ⟨g, 256, none⟩ (.int .u32 (crcAdd c s.data.toList : Nat)) := by
  have hcv := Lib.run_convert_string_bytes (P := Try.prog) w 9 33 5 s Try.underlying9 Try.underlying33 Try.underlying5
  have hc := (Go.cell_of_row w g 256 _ _ _ h).trans (crcRow_last c)
  go_enter Try.func8, Try.ntmps8
  have hg : g < w.heap.size := (Array.getElem?_eq_some_iff.1 h).1
  have hcell := fun k hk => Lib.bytesWorld_cell w 5 s k hk
  have hbw := below_bytes w 5 s
  have hrow : (Lib.bytesWorld w 5 s).heap[g]? = some (.cells (crcRow c) 41) := (hbw.block g hg).trans h
  have hc2 := (Go.cell_of_row _ g 256 _ _ _ hrow).trans (crcRow_last c)
  have hf2 := Go.frozen_of_row _ g 256 _ _ hrow
  obtain ⟨nc, hncl, hnc, hnot⟩ : ∃ nc, nc < 2 ^ 32 ∧ Hid (4294967295 - c = nc) ∧ bits .xor .u32 IntKind.u32.max (c : Int) = (nc : Int) := ⟨_, by omega, rfl, u32_not c hcl⟩
  generalize hWe : Lib.bytesWorld w 5 s = W at *
  replace hWe := Lib.hid hWe
  go_wp2
  go_loop [4, 17] (fun r i => ∃ k R : Nat, k ≤ s.size ∧ Hid (crcReg (nc) (s.data.toList.take k) = R) ∧ R < 2 ^ 32 ∧ i = .int .i64 k ∧ r = .int .u32 R) (fun _ i => s.size - (intOf i).toNat)
  case atStart => exact ⟨0, nc, by omega, rfl, hncl, rfl, rfl⟩
  case round =>
    obtain ⟨k, R, hk, hR, hRlt, rfl, rfl⟩ := hrel
    by_cases hlt : k < s.size
    · obtain ⟨x, hxe, hx, hcx⟩ : ∃ x : Nat, Hid (x = (s.data.toList.getD k 0).toNat) ∧ x < 256 ∧ W.cell? ⟨w.heap.size, k, none⟩ = some (.int .u8 x) := ⟨_, rfl, (s.data.toList.getD k 0).toNat_lt, hcell k hlt⟩
      have hsn := Lib.hid (crcReg_snoc (nc) (s.data.toList.take k) (s.data.toList.getD k 0))
      have hts := Lib.hid (take_snoc s.data.toList k (by simpa using hlt))
      have hand := u32_and255 R hRlt
      have hxor8 : bits .xor .u8 ((R : Int) % 256) (x : Int) = ((R % 256 ^^^ x : Nat) : Int) := u8_xor (R % 256) x (by omega) hx
      obtain ⟨j, hj⟩ : ∃ j, R % 256 ^^^ x = j := ⟨_, rfl⟩
      have hjl : j < 256 := by rw [← hj]; exact Nat.xor_lt_two_pow (n := 8) (by omega) hx
      rw [hj] at hxor8
      have hct := (Go.cell_of_row W g j _ _ _ hrow).trans (crcRow_at c j hjl)
      have hel := entry_lt hjl
      obtain ⟨E, hE⟩ : ∃ E, entry j = E := ⟨_, rfl⟩
      rw [hE] at hct hel
      have hxr : bits .xor .u32 (E : Int) ((R : Int) / 256) = ((E ^^^ (R / 256) : Nat) : Int) := u32_xor E (R / 256) hel (by omega)
      have hby := Lib.hid (crcByte_eq R x)
      have hX := Nat.xor_lt_two_pow hel (show R / 256 < 2 ^ 32 by omega)
      replace hj := Lib.hid hj
      replace hE := Lib.hid hE
      clear hcell
      go_wp2
      go_round
      case rel =>
        refine ⟨k + 1, E ^^^ (R / 256), by omega, ?_, hX, by go_num, rfl⟩
        rw [hts.out, hsn.out, hR.out, ← hxe.out, ← hby.out]
        unfold crcByte
        rw [hj.out, hE.out]
        exact rfl
      case measure => simp [intOf]; omega
    · obtain rfl : k = s.size := by omega
      have hfin := Lib.hid (show crcReg (nc) s.data.toList = R by
        have := hR.out
        rwa [List.take_of_length_le (by simp)] at this)
      obtain ⟨nr, hnr, hnot2⟩ : ∃ nr, Hid (4294967295 - R = nr) ∧ bits .xor .u32 IntKind.u32.max (R : Int) = (nr : Int) := ⟨_, rfl, u32_not R hRlt⟩
      clear hcell
      go_wp2
      exact bodyPost_end (v := .tuple #[]) (by simp (maxDischargeDepth := 6) [results, Try.results8, go_sem]) rfl ⟨rfl, W, hbw, by unfold crcAdd; rw [hnc.out, hfin.out, hnr.out]⟩

theorem crcAdd_zero (l : List UInt8) : crcAdd 0 l = crc32 l := rfl
theorem crcAdd_append (c : Nat) (hc : c < 2 ^ 32) (l m : List UInt8) : crcAdd (crcAdd c l) m = crcAdd c (l ++ m) := by
  have h := crcReg_lt l (4294967295 - c) (by omega)
  unfold crcAdd
  rw [crcReg_append, show 4294967295 - (4294967295 - crcReg (4294967295 - c) l) = crcReg (4294967295 - c) l by omega]
set_option maxHeartbeats 800000 in
theorem crc_any (s : ByteArray) (w : World) (hs : s.size ≤ 281474976710656) :
    Calls Try.prog 12 #[.string s] w fun e w' => e = .returned (.int .u32 (crc32 s.data.toList : Nat)) ∧ Below w.heap.size w w' := by
  go_enter Try.func12, Try.ntmps12
  go_wp2_with (go_at_call 7; refine (new_any w).mono ?_; rintro e w1 ⟨g, rfl, hrow, hge, hb1⟩)
  have hlt : g < w1.heap.size := (Array.getElem?_eq_some_iff.1 hrow).1
  go_wp2_with (go_at_call 8; refine (add_any s w1 g 0 hs (by omega) hrow).mono ?_; rintro e _ ⟨rfl, w2, hb2, rfl⟩)
  have hrow2 : w2.heap[g]? = some (.cells (crcRow 0) 41) := (hb2.block g hlt).trans hrow
  have hrow3 := Go.heap_setCell_same w2 g 256 _ _ (.int .u32 (crcAdd 0 s.data.toList : Nat)) hrow2
  rw [crcRow_set] at hrow3
  have hb3 : Below w.heap.size w (w2.setCell ⟨g, 256, none⟩ (.int .u32 (crcAdd 0 s.data.toList : Nat))) := Below.setCell (hb1.trans (hb2.mono hb1.size)) hge _
  generalize w2.setCell ⟨g, 256, none⟩ (.int .u32 (crcAdd 0 s.data.toList : Nat)) = w3 at *
  go_wp2_with (go_at_call 9; refine (sum_any w3 g _ hrow3).mono ?_; rintro e _ ⟨rfl, rfl⟩)
  exact bodyPost_ret (v := (.int .u32 (crc32 s.data.toList : Nat))) (by simp (maxDischargeDepth := 6) [results, Try.results12, go_sem, crcAdd_zero]) rfl ⟨rfl, by (repeat' (first | (with_reducible exact Below.refl _ _) | (with_reducible refine Below.alloc ?_ ?_ _) | (with_reducible refine Below.setCell ?_ ?_ _) | (with_reducible refine Below.drew ?_) | (with_reducible refine below_step ?_ (by assumption) ?_) | (with_reducible exact leC) | go_size))⟩
end Go.Proofs.Ytnpikkghgflefaa
