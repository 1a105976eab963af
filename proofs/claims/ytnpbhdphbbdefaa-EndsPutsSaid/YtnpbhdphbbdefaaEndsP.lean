/- The walk of EndsPuts. No condition. -/
import Derived.Test.YtnpbhdphbbdefaaEndsL
namespace Go.Proofs.Ytnpbhdphbbdefaa
open Go.RowKit
attribute [local go_sem] cellI frozenI cellOf_is frozenOf_is cellA frozenA setCellA

set_option maxHeartbeats 1600000 in
set_option maxRecDepth 100000 in
theorem endsPuts_any (n : Nat) (size : Int) (little : Bool) (w : World) (hn : n < 18446744073709551616) :
    Calls Try.prog 3 #[.int .u64 n, .int .i64 size, .bool little] w fun e w' => e = .returned (.bool true) ∧ Below w.heap.size w w' := by
  go_enter Try.func3, Try.ntmps3
  go_wp2_with (go_at_call 7; refine (sizes_any size w).mono ?_; rintro e w1 ⟨g, cap, f, rfl, hg, hc, hb1⟩)
  haveI hx1 := ExtC.mk hb1
  go_loopw [16] (fun i wr => ∃ k : Nat, k ≤ 7 ∧ i = .int .i64 k ∧ Below w1.heap.size w1 wr) (fun i _ => 7 - (intOf i).toNat)
  case atStart => exact ⟨0, by omega, rfl, Below.refl _ _⟩
  case round =>
    obtain ⟨k, hk, rfl, hbr⟩ := hrel
    by_cases hlt : k < 7
    · have hck := (hbr.cell (p := ⟨g, k, none⟩) hg).trans (hc k hlt)
      obtain ⟨z, hz⟩ : ∃ z, f k = z := ⟨_, rfl⟩
      rw [hz] at hck
      obtain ⟨A, E, hA⟩ : ∃ A E, putV n z little = (A, E) := ⟨_, _, rfl⟩
      have h4 := putV_size n z little
      rw [hA] at h4
      dsimp only at h4
      have hA1 := fun w => put_is n z little w A E hn hA
      have hB1 := fun w => rput_is n z little w A E hn hA
      have hT1 := fun w => turn_any A w (by omega)
      have hT2 := fun w => rturn_any A w (by omega)
      have hd : decide ((k : Int) < 7) = true := decide_eq_true (by omega)
      haveI hxr := ExtC.mk hbr
      clear hA hz hc
      go_wp2_with (first | (go_at_call 8; (first | (with_reducible refine (hA1 _).mono ?_)); rintro e w9 ⟨rfl, hb9⟩; haveI hx9 := ExtC.mk hb9) | (go_at_call 9; (first | (with_reducible refine (hB1 _).mono ?_)); rintro e w9 ⟨rfl, hb9⟩; haveI hx9 := ExtC.mk hb9) | (go_at_call 12; (first | (with_reducible refine (hT1 _).mono ?_)); rintro e w9 ⟨rfl, hb9⟩; haveI hx9 := ExtC.mk hb9) | (go_at_call 13; (first | (with_reducible refine (hT2 _).mono ?_)); rintro e w9 ⟨rfl, hb9⟩; haveI hx9 := ExtC.mk hb9) | (go_at_call 10; (first | (with_reducible refine (good_any _ _).mono ?_)); rintro e w9 ⟨rfl, hb9⟩; haveI hx9 := ExtC.mk hb9) | (go_at_call 11; (first | (with_reducible refine (rgood_any _ _).mono ?_)); rintro e w9 ⟨rfl, hb9⟩; haveI hx9 := ExtC.mk hb9))
      go_roundw
      case rel => exact ⟨k + 1, by omega, by go_num, by (repeat' (first | (with_reducible exact Below.refl _ _) | (with_reducible refine Below.alloc ?_ ?_ _) | (with_reducible refine Below.setCell ?_ ?_ _) | (with_reducible refine Below.drew ?_) | (with_reducible refine below_step ?_ (by assumption) ?_) | (with_reducible exact leC) | go_size))⟩
      case measure => simp [intOf]; omega
    · obtain rfl : k = 7 := by omega
      haveI hxr := ExtC.mk hbr
      clear hc
      go_wp2_with (first | (go_at_call 14; (first | (with_reducible refine (wakes_any _).mono ?_)); rintro e w9 ⟨rfl, hb9⟩; haveI hx9 := ExtC.mk hb9))
      exact bodyPost_ret (v := (.bool true)) (by simp (maxDischargeDepth := 6) [results, Try.results3, go_sem]) rfl ⟨rfl, by (repeat' (first | (with_reducible exact Below.refl _ _) | (with_reducible refine Below.alloc ?_ ?_ _) | (with_reducible refine Below.setCell ?_ ?_ _) | (with_reducible refine Below.drew ?_) | (with_reducible refine below_step ?_ (by assumption) ?_) | (with_reducible exact leC) | go_size))⟩
end Go.Proofs.Ytnpbhdphbbdefaa
