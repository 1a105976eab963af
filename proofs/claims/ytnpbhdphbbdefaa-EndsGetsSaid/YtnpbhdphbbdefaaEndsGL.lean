/- The walk of EndsGets. Condition: the string takes at most 2^47 - 4096 bytes. -/
import Derived.Test.YtnpbhdphbbdefaaEndsH
namespace Go.Proofs.Ytnpbhdphbbdefaa
open Go.RowKit
attribute [local go_sem] cellI frozenI cellOf_is frozenOf_is cellA frozenA setCellA

theorem get_is (s : ByteArray) (a k : Int) (little : Bool) (w : World) (N : Nat) (E : Int) (hs : s.size ≤ 140737488351232) (ha : -9223372036854775808 ≤ a ∧ a ≤ 9223372036854775807) (h : getV s a k little = (N, E)) :
    Calls Try.prog 15 #[.string s, .int .i64 a, .int .i64 k, .bool little] w fun e w' => e = .returned (.tuple #[.int .u64 N, .int .i64 E]) ∧ Below w.heap.size w w' := by
  have := get_any s a k little w hs ha
  rw [h] at this
  exact this
theorem rget_is (s : ByteArray) (a k : Int) (little : Bool) (w : World) (N : Nat) (E : Int) (hs : s.size ≤ 140737488351232) (ha : -9223372036854775808 ≤ a ∧ a ≤ 9223372036854775807) (h : getV s a k little = (N, E)) :
    Calls Try.prog 16 #[.string s, .int .i64 a, .int .i64 k, .bool little] w fun e w' => e = .returned (.tuple #[.int .u64 N, .int .i64 E]) ∧ Below w.heap.size w w' := by
  have := rget_any s a k little w hs ha
  rw [h] at this
  exact this

set_option maxHeartbeats 1600000 in
set_option maxRecDepth 100000 in
theorem endsGets_any (s : ByteArray) (a size : Int) (w : World) (hs : s.size ≤ 140737488351232) (ha : -9223372036854775808 ≤ a ∧ a ≤ 9223372036854775807) :
    Calls Try.prog 4 #[.string s, .int .i64 a, .int .i64 size] w fun e w' => e = .returned (.bool true) ∧ Below w.heap.size w w' := by
  go_enter Try.func4, Try.ntmps4
  go_wp2_with (go_at_call 7; refine (sizes_any size w).mono ?_; rintro e w1 ⟨g, cap, f, rfl, hg, hc, hb1⟩)
  haveI hx1 := ExtC.mk hb1
  go_loopw [18] (fun i wr => ∃ k : Nat, k ≤ 7 ∧ i = .int .i64 k ∧ Below w1.heap.size w1 wr) (fun i _ => 7 - (intOf i).toNat)
  case atStart => exact ⟨0, by omega, rfl, Below.refl _ _⟩
  case round =>
    obtain ⟨k, hk, rfl, hbr⟩ := hrel
    haveI hxr := ExtC.mk hbr
    by_cases hlt : k < 7
    · have hck := (hbr.cell (p := ⟨g, k, none⟩) hg).trans (hc k hlt)
      obtain ⟨z, hz⟩ : ∃ z, f k = z := ⟨_, rfl⟩
      rw [hz] at hck
      clear hz hc
      have hd : decide ((k : Int) < 7) = true := decide_eq_true (by omega)
      go_wp2
      have hW2c : ∀ j, j < 2 → (wr.alloc (.cells #[.bool false, .bool true] 4)).cell? ⟨wr.heap.size, j, none⟩ = some (.bool (decide (j = 1))) := fun j hj => by
        rw [Go.cell_of_row _ _ _ _ _ _ (Go.heap_alloc_new _ _)]
        match j, hj with
        | 0, _ => rfl
        | 1, _ => rfl
      have hbW : Below w1.heap.size w1 (wr.alloc (.cells #[.bool false, .bool true] 4)) := Below.alloc hbr hbr.size _
      have hlW : wr.heap.size < (wr.alloc (.cells #[.bool false, .bool true] 4)).heap.size := by rw [World.size_alloc]; exact Nat.lt_succ_self _
      clear hck
      generalize wr.alloc (.cells #[.bool false, .bool true] 4) = W2 at *
      generalize wr.heap.size = g2 at *
      haveI hx2 := ExtC.mk hbW
      go_loopw [24] (fun i wq => ∃ j : Nat, j ≤ 2 ∧ i = .int .i64 j ∧ Below W2.heap.size W2 wq) (fun i _ => 2 - (intOf i).toNat)
      case atStart => exact ⟨0, by omega, rfl, Below.refl _ _⟩
      case round =>
        obtain ⟨j, hj, rfl, hbq⟩ := hrel
        haveI hxq := ExtC.mk hbq
        by_cases hlt2 : j < 2
        · have hcj := (hbq.cell (p := ⟨g2, j, none⟩) hlW).trans (hW2c j hlt2)
          obtain ⟨b, hb⟩ : ∃ b, decide (j = 1) = b := ⟨_, rfl⟩
          rw [hb] at hcj
          obtain ⟨N, E, hV⟩ : ∃ N E, getV s a z b = (N, E) := ⟨_, _, rfl⟩
          have hA1 := fun w => get_is s a z b w N E hs ha hV
          have hB1 := fun w => rget_is s a z b w N E hs ha hV
          have hd2 : decide ((j : Int) < 2) = true := decide_eq_true (by omega)
          clear hb hV hW2c
          go_wp2_with (first | (go_at_call 15; (first | (with_reducible refine (hA1 _).mono ?_)); rintro e w9 ⟨rfl, hb9⟩; haveI hx9 := ExtC.mk hb9) | (go_at_call 16; (first | (with_reducible refine (hB1 _).mono ?_)); rintro e w9 ⟨rfl, hb9⟩; haveI hx9 := ExtC.mk hb9))
          go_roundw
          case rel => exact ⟨j + 1, by omega, by go_num, by (repeat' (first | (with_reducible exact Below.refl _ _) | (with_reducible refine Below.alloc ?_ ?_ _) | (with_reducible refine Below.setCell ?_ ?_ _) | (with_reducible refine Below.drew ?_) | (with_reducible refine below_step ?_ (by assumption) ?_) | (with_reducible exact leC) | go_size))⟩
          case measure => simp [intOf]; omega
        · obtain rfl : j = 2 := by omega
          clear hW2c
          go_wp2
          go_roundw
          case rel => exact ⟨k + 1, by omega, by go_num, by (repeat' (first | (with_reducible exact Below.refl _ _) | (with_reducible refine Below.alloc ?_ ?_ _) | (with_reducible refine Below.setCell ?_ ?_ _) | (with_reducible refine Below.drew ?_) | (with_reducible refine below_step ?_ (by assumption) ?_) | (with_reducible exact leC) | go_size))⟩
          case measure => simp [intOf]; omega
    · obtain rfl : k = 7 := by omega
      have hT1 := fun w => turn_any s w (by omega)
      have hT2 := fun w => rturn_any s w hs
      clear hc
      go_wp2_with (first | (go_at_call 14; (first | (with_reducible refine (wakes_any _).mono ?_)); rintro e w9 ⟨rfl, hb9⟩; haveI hx9 := ExtC.mk hb9) | (go_at_call 12; (first | (with_reducible refine (hT1 _).mono ?_)); rintro e w9 ⟨rfl, hb9⟩; haveI hx9 := ExtC.mk hb9) | (go_at_call 13; (first | (with_reducible refine (hT2 _).mono ?_)); rintro e w9 ⟨rfl, hb9⟩; haveI hx9 := ExtC.mk hb9))
      exact bodyPost_ret (v := (.bool true)) (by simp (maxDischargeDepth := 6) [results, Try.results4, go_sem]) rfl ⟨rfl, by (repeat' (first | (with_reducible exact Below.refl _ _) | (with_reducible refine Below.alloc ?_ ?_ _) | (with_reducible refine Below.setCell ?_ ?_ _) | (with_reducible refine Below.drew ?_) | (with_reducible refine below_step ?_ (by assumption) ?_) | (with_reducible exact leC) | go_size))⟩
end Go.Proofs.Ytnpbhdphbbdefaa
