/- The walks of what the document fixes (wakes) and of SumsAdler. Condition: the string takes at most 2^48 bytes. -/
import Derived.Test.YtnpikkghgflefaaCrcAdd
import Derived.Test.YtnpikkghgflefaaRow
namespace Go.Proofs.Ytnpikkghgflefaa
open Go.RowKit
attribute [local go_sem] cellI frozenI cellOf_is frozenOf_is cellA frozenA setCellA

theorem wake1 (w : World) : Calls Try.prog 12 #[.string ⟨#[49, 50, 51, 52, 53, 54, 55, 56, 57]⟩] w fun e w' => e = .returned (.int .u32 3421780262) ∧ Below w.heap.size w w' := by
  have h : crc32 (⟨#[49, 50, 51, 52, 53, 54, 55, 56, 57]⟩ : ByteArray).data.toList = 3421780262 := by decide +kernel
  have := crc_any ⟨#[49, 50, 51, 52, 53, 54, 55, 56, 57]⟩ w (by decide)
  rw [h] at this
  exact this
theorem wake2 (w : World) : Calls Try.prog 13 #[.string ⟨#[87, 105, 107, 105, 112, 101, 100, 105, 97]⟩] w fun e w' => e = .returned (.int .u32 300286872) ∧ Below w.heap.size w w' := by
  have h : adler (⟨#[87, 105, 107, 105, 112, 101, 100, 105, 97]⟩ : ByteArray).data.toList = 300286872 := by decide +kernel
  have := adler_any ⟨#[87, 105, 107, 105, 112, 101, 100, 105, 97]⟩ w (by decide)
  rw [h] at this
  exact this
theorem wakes_any (w : World) :
    Calls Try.prog 11 #[] w fun e w' => e = .returned (.bool true) ∧ Below w.heap.size w w' := by
  go_enter Try.func11, Try.ntmps11
  go_wp2_with (go_at_call 12; fail)
  refine (wake1 w).mono ?_
  rintro e w1 ⟨rfl, hb1⟩
  haveI hx1 := ExtC.mk hb1
  go_wp2_with (go_at_call 13; fail)
  refine (wake2 w1).mono ?_
  rintro e w2 ⟨rfl, hb2⟩
  haveI hx2 := ExtC.mk hb2
  go_wp2
  exact bodyPost_ret (v := (.bool true)) (by simp (maxDischargeDepth := 6) [results, Try.results11, go_sem]) rfl ⟨rfl, by (repeat' (first | (with_reducible exact Below.refl _ _) | (with_reducible refine Below.alloc ?_ ?_ _) | (with_reducible refine Below.setCell ?_ ?_ _) | (with_reducible refine Below.drew ?_) | (with_reducible refine below_step ?_ (by assumption) ?_) | (with_reducible exact leC) | go_size))⟩
theorem adlerW_any (s : ByteArray) (w : World) (hs : s.size ≤ 281474976710656) :
    Calls Try.prog 4 #[.string s] w fun e w' => e = .returned (.bool true) ∧ Below w.heap.size w w' := by
  go_enter Try.func4, Try.ntmps4
  go_wp2_with (go_at_call 11; fail)
  refine (wakes_any w).mono ?_
  rintro e w1 ⟨rfl, hb1⟩
  haveI hx1 := ExtC.mk hb1
  go_wp2_with (go_at_call 13; fail)
  refine (adler_any s w1 hs).mono ?_
  rintro e w2 ⟨rfl, hb2⟩
  haveI hx2 := ExtC.mk hb2
  go_wp2_with (go_at_call 14; fail)
  refine (radler_any s w2 hs).mono ?_
  rintro e w3 ⟨rfl, hb3⟩
  haveI hx3 := ExtC.mk hb3
  go_wp2
  exact bodyPost_ret (v := (.bool true)) (by simp (maxDischargeDepth := 6) [results, Try.results4, go_sem]) rfl ⟨rfl, by (repeat' (first | (with_reducible exact Below.refl _ _) | (with_reducible refine Below.alloc ?_ ?_ _) | (with_reducible refine Below.setCell ?_ ?_ _) | (with_reducible refine Below.drew ?_) | (with_reducible refine below_step ?_ (by assumption) ?_) | (with_reducible exact leC) | go_size))⟩
end Go.Proofs.Ytnpikkghgflefaa
