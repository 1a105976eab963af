/- Contracts of what the document fixes (wakes) and of sizes; the walks of EndsTurn and EndsPuts. Condition: the string takes at most 2^47 bytes. -/
import Derived.Test.YtnpbhdphbbdefaaEndsG
namespace Go.Proofs.Ytnpbhdphbbdefaa
open Go.RowKit
attribute [local go_sem] cellI frozenI cellOf_is frozenOf_is cellA frozenA setCellA

theorem put_is (n : Nat) (k : Int) (little : Bool) (w : World) (S : ByteArray) (E : Int) (hn : n < 18446744073709551616) (h : putV n k little = (S, E)) :
    Calls Try.prog 8 #[.int .u64 n, .int .i64 k, .bool little] w fun e w' => e = .returned (.tuple #[.string S, .int .i64 E]) ∧ Below w.heap.size w w' := by
  have := put_any n k little w hn
  rw [h] at this
  exact this
theorem rput_is (n : Nat) (k : Int) (little : Bool) (w : World) (S : ByteArray) (E : Int) (hn : n < 18446744073709551616) (h : putV n k little = (S, E)) :
    Calls Try.prog 9 #[.int .u64 n, .int .i64 k, .bool little] w fun e w' => e = .returned (.tuple #[.string S, .int .i64 E]) ∧ Below w.heap.size w w' := by
  have := rput_any n k little w hn
  rw [h] at this
  exact this
theorem wk1 (w : World) : Calls Try.prog 8 #[.int .u64 258, .int .i64 2, .bool false] w fun e w' => e = .returned (.tuple #[.string ⟨#[1, 2]⟩, .int .i64 0]) ∧ Below w.heap.size w w' := put_is 258 2 false w _ _ (by omega) (by decide +kernel)
theorem wk2 (w : World) : Calls Try.prog 8 #[.int .u64 258, .int .i64 2, .bool true] w fun e w' => e = .returned (.tuple #[.string ⟨#[2, 1]⟩, .int .i64 0]) ∧ Below w.heap.size w w' := put_is 258 2 true w _ _ (by omega) (by decide +kernel)
theorem wk3 (w : World) : Calls Try.prog 8 #[.int .u64 256, .int .i64 1, .bool false] w fun e w' => e = .returned (.tuple #[.string ⟨#[]⟩, .int .i64 5]) ∧ Below w.heap.size w w' := put_is 256 1 false w _ _ (by omega) (by decide +kernel)
theorem wk4 (w : World) : Calls Try.prog 15 #[.string ⟨#[1, 2]⟩, .int .i64 0, .int .i64 2, .bool false] w fun e w' => e = .returned (.tuple #[.int .u64 258, .int .i64 0]) ∧ Below w.heap.size w w' := by
  have h : getV ⟨#[1, 2]⟩ 0 2 false = (258, 0) := by decide +kernel
  have := get_any ⟨#[1, 2]⟩ 0 2 false w (by decide) (by omega)
  rw [h] at this
  exact this
theorem wakes_any (w : World) :
    Calls Try.prog 14 #[] w fun e w' => e = .returned (.bool true) ∧ Below w.heap.size w w' := by
  go_enter Try.func14, Try.ntmps14
  go_wp2_with (first | (go_at_call 8; (first | (with_reducible refine (wk1 _).mono ?_) | (with_reducible refine (wk2 _).mono ?_) | (with_reducible refine (wk3 _).mono ?_)); rintro e w9 ⟨rfl, hb9⟩; haveI hx9 := ExtC.mk hb9) | (go_at_call 15; (first | (with_reducible refine (wk4 _).mono ?_)); rintro e w9 ⟨rfl, hb9⟩; haveI hx9 := ExtC.mk hb9))
  exact bodyPost_ret (v := (.bool true)) (by simp (maxDischargeDepth := 6) [results, Try.results14, go_sem]) rfl ⟨rfl, by (repeat' (first | (with_reducible exact Below.refl _ _) | (with_reducible refine Below.alloc ?_ ?_ _) | (with_reducible refine Below.setCell ?_ ?_ _) | (with_reducible refine Below.drew ?_) | (with_reducible refine below_step ?_ (by assumption) ?_) | (with_reducible exact leC) | go_size))⟩
theorem sizes_any (n : Int) (w : World) :
    Calls Try.prog 7 #[.int .i64 n] w fun e w' => ∃ (g cap : Nat) (f : Nat → Int), e = .returned (.slice (some ⟨g, 0, none⟩) 7 cap) ∧ g < w'.heap.size ∧ (∀ j, j < 7 → w'.cell? ⟨g, j, none⟩ = some (.int .i64 (f j))) ∧ Below w.heap.size w w' := by
  go_enter Try.func7, Try.ntmps7
  go_wp2
  refine bodyPost_ret (v := .slice (some ⟨w.heap.size, 0, none⟩) 7 7) (by simp (maxDischargeDepth := 6) [results, Try.results7, go_sem]) rfl ⟨w.heap.size, 7, fun j => [n, bits .and .i64 n 15, 1, 2, 3, 4, 8].getD j 0, rfl, by rw [World.size_alloc]; exact Nat.lt_succ_self _, fun j hj => ?_, by (repeat' (first | (with_reducible exact Below.refl _ _) | (with_reducible refine Below.alloc ?_ ?_ _) | (with_reducible refine Below.setCell ?_ ?_ _) | (with_reducible refine Below.drew ?_) | (with_reducible refine below_step ?_ (by assumption) ?_) | (with_reducible exact leC) | go_size))⟩
  rw [Go.cell_of_row _ _ _ _ _ _ (Go.heap_alloc_new _ _)]
  match j, hj with
  | 0, _ => rfl
  | 1, _ => rfl
  | 2, _ => rfl
  | 3, _ => rfl
  | 4, _ => rfl
  | 5, _ => rfl
  | 6, _ => rfl
theorem putV_turn (n : Nat) (k : Int) : (putV n k false).2 = (putV n k true).2 ∧ turnB (putV n k false).1 = (putV n k true).1 ∧ (putV n k false).1.size = (putV n k true).1.size := by
  unfold putV
  split
  · exact ⟨rfl, rfl, rfl⟩
  · split
    · refine ⟨rfl, ?_, ?_⟩
      · simp [turnB]
      · show ((leBytes n k.toNat).reverse.toArray).size = ((leBytes n k.toNat).toArray).size
        simp
    · exact ⟨rfl, rfl, rfl⟩
theorem putV_size (n : Nat) (k : Int) (little : Bool) : (putV n k little).1.size ≤ 8 := by
  unfold putV
  split
  · decide
  · rename_i h
    obtain ⟨m, rfl, h1, h8⟩ := good_nat (by simpa using h)
    split
    · cases little
      · show ((leBytes n m).reverse.toArray).size ≤ 8
        simp [leBytes_len, h8]
      · show ((leBytes n m).toArray).size ≤ 8
        simp [leBytes_len, h8]
    · decide
theorem turnB_turnB (s : ByteArray) : turnB (turnB s) = s := by
  apply ByteArray.ext
  apply Array.ext'
  simp [turnB]
set_option maxHeartbeats 1600000 in
set_option maxRecDepth 100000 in
theorem endsTurn_any (n : Nat) (s : ByteArray) (w : World) (hn : n < 18446744073709551616) (hs : s.size ≤ 140737488351232) :
    Calls Try.prog 6 #[.int .u64 n, .string s] w fun e w' => e = .returned (.bool true) ∧ Below w.heap.size w w' := by
  go_enter Try.func6, Try.ntmps6
  go_wp2_with (go_at_call 7; refine (sizes_any 3 w).mono ?_; rintro e w1 ⟨g, cap, f, rfl, hg, hc, hb1⟩)
  haveI hx1 := ExtC.mk hb1
  go_loopw [13] (fun i wr => ∃ k : Nat, k ≤ 7 ∧ i = .int .i64 k ∧ Below w1.heap.size w1 wr) (fun i _ => 7 - (intOf i).toNat)
  case atStart => exact ⟨0, by omega, rfl, Below.refl _ _⟩
  case round =>
    obtain ⟨k, hk, rfl, hbr⟩ := hrel
    by_cases hlt : k < 7
    · have hck := (hbr.cell (p := ⟨g, k, none⟩) hg).trans (hc k hlt)
      obtain ⟨z, hz⟩ : ∃ z, f k = z := ⟨_, rfl⟩
      rw [hz] at hck
      obtain ⟨A, E, hA⟩ : ∃ A E, putV n z false = (A, E) := ⟨_, _, rfl⟩
      obtain ⟨B, F, hB⟩ : ∃ B F, putV n z true = (B, F) := ⟨_, _, rfl⟩
      obtain ⟨h1, h2, h3⟩ := putV_turn n z
      have h4 := putV_size n z false
      rw [hA, hB] at h1 h2 h3
      rw [hA] at h4
      dsimp only at h1 h2 h3 h4
      subst h1
      have hA1 := fun w => put_is n z false w A E hn hA
      have hB1 := fun w => put_is n z true w B E hn hB
      have hT1 := fun w => turn_any A w (by omega)
      rw [h2] at hT1
      have hd : decide ((k : Int) < 7) = true := decide_eq_true (by omega)
      have hsz : (A.size : Int) = (B.size : Int) := by omega
      haveI hxr := ExtC.mk hbr
      clear hA hB h2 hz hc
      go_wp2_with (first | (go_at_call 8; (first | (with_reducible refine (hA1 _).mono ?_) | (with_reducible refine (hB1 _).mono ?_)); rintro e w9 ⟨rfl, hb9⟩; haveI hx9 := ExtC.mk hb9) | (go_at_call 12; (first | (with_reducible refine (hT1 _).mono ?_)); rintro e w9 ⟨rfl, hb9⟩; haveI hx9 := ExtC.mk hb9))
      go_roundw
      case rel => exact ⟨k + 1, by omega, by go_num, by (repeat' (first | (with_reducible exact Below.refl _ _) | (with_reducible refine Below.alloc ?_ ?_ _) | (with_reducible refine Below.setCell ?_ ?_ _) | (with_reducible refine Below.drew ?_) | (with_reducible refine below_step ?_ (by assumption) ?_) | (with_reducible exact leC) | go_size))⟩
      case measure => simp [intOf]; omega
    · obtain rfl : k = 7 := by omega
      haveI hxr := ExtC.mk hbr
      have hT1 := fun w => turn_any s w (by omega)
      have hT2 := fun w => turn_any (turnB s) w (by show (s.data.toList.reverse.toArray).size ≤ _; simp; omega)
      rw [turnB_turnB] at hT2
      clear hc
      go_wp2_with (first | (go_at_call 14; (first | (with_reducible refine (wakes_any _).mono ?_)); rintro e w9 ⟨rfl, hb9⟩; haveI hx9 := ExtC.mk hb9) | (go_at_call 12; (first | (with_reducible refine (hT1 _).mono ?_) | (with_reducible refine (hT2 _).mono ?_)); rintro e w9 ⟨rfl, hb9⟩; haveI hx9 := ExtC.mk hb9))
      exact bodyPost_ret (v := (.bool true)) (by simp (maxDischargeDepth := 6) [results, Try.results6, go_sem]) rfl ⟨rfl, by (repeat' (first | (with_reducible exact Below.refl _ _) | (with_reducible refine Below.alloc ?_ ?_ _) | (with_reducible refine Below.setCell ?_ ?_ _) | (with_reducible refine Below.drew ?_) | (with_reducible refine below_step ?_ (by assumption) ?_) | (with_reducible exact leC) | go_size))⟩
end Go.Proofs.Ytnpbhdphbbdefaa
