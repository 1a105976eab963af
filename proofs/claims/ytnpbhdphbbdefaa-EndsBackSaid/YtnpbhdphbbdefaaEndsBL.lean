/- The walk of EndsBack. Condition: both strings take at most 2^47 - 4096 bytes. -/
import Derived.Test.YtnpbhdphbbdefaaEndsQ
namespace Go.Proofs.Ytnpbhdphbbdefaa
open Go.RowKit
attribute [local go_sem] cellI frozenI cellOf_is frozenOf_is cellA frozenA setCellA

theorem getIs (s : ByteArray) (a k : Int) (little : Bool) (w : World) (N : Nat) (E : Int) (hs : s.size ≤ 281474976710656) (ha : -9223372036854775808 ≤ a ∧ a ≤ 9223372036854775807) (h : getV s a k little = (N, E)) :
    Calls Try.prog 15 #[.string s, .int .i64 a, .int .i64 k, .bool little] w fun e w' => e = .returned (.tuple #[.int .u64 N, .int .i64 E]) ∧ Below w.heap.size w w' := by
  have := get_any s a k little w hs ha
  rw [h] at this
  exact this

set_option maxHeartbeats 1600000 in
set_option maxRecDepth 100000 in
theorem endsBack_any (n : Nat) (X Y : ByteArray) (w : World) (hn : n < 18446744073709551616) (hX : X.size ≤ 140737488351232) (hY : Y.size ≤ 140737488351232) :
    Calls Try.prog 5 #[.int .u64 n, .string X, .string Y] w fun e w' => e = .returned (.bool true) ∧ Below w.heap.size w w' := by
  go_enter Try.func5, Try.ntmps5
  go_wp2_with (go_at_call 7; refine (sizes_any 1 w).mono ?_; rintro e w1 ⟨g, cap, f, rfl, hg, hc, hb1⟩)
  haveI hx1 := ExtC.mk hb1
  go_loopw [21] (fun i wr => ∃ k : Nat, k ≤ 7 ∧ i = .int .i64 k ∧ Below w1.heap.size w1 wr) (fun i _ => 7 - (intOf i).toNat)
  case atStart => exact ⟨0, by omega, rfl, Below.refl _ _⟩
  case round =>
    obtain ⟨k, hk, rfl, hbr⟩ := hrel
    haveI hxr := ExtC.mk hbr
    by_cases hlt : k < 7
    · have hck := (hbr.cell (p := ⟨g, k, none⟩) hg).trans (hc k hlt)
      obtain ⟨z, hz⟩ : ∃ z, f k = z := ⟨_, rfl⟩
      rw [hz] at hck
      clear hz hc
      have hd : decide ((k : Int) < 7) = true := decide_eq_true (by omega)
      go_wp2
      have hW2c : ∀ j, j < 2 → (wr.alloc (.cells #[.bool false, .bool true] 4)).cell? ⟨wr.heap.size, j, none⟩ = some (.bool (decide (j = 1))) := fun j hj => by
        rw [Go.cell_of_row _ _ _ _ _ _ (Go.heap_alloc_new _ _)]
        match j, hj with
        | 0, _ => rfl
        | 1, _ => rfl
      have hbW : Below w1.heap.size w1 (wr.alloc (.cells #[.bool false, .bool true] 4)) := Below.alloc hbr hbr.size _
      have hlW : wr.heap.size < (wr.alloc (.cells #[.bool false, .bool true] 4)).heap.size := by rw [World.size_alloc]; exact Nat.lt_succ_self _
      clear hck
      generalize wr.alloc (.cells #[.bool false, .bool true] 4) = W2 at *
      generalize wr.heap.size = g2 at *
      haveI hx2 := ExtC.mk hbW
      go_loopw [27] (fun i wq => ∃ j : Nat, j ≤ 2 ∧ i = .int .i64 j ∧ Below W2.heap.size W2 wq) (fun i _ => 2 - (intOf i).toNat)
      case atStart => exact ⟨0, by omega, rfl, Below.refl _ _⟩
      case round =>
        obtain ⟨j, hj, rfl, hbq⟩ := hrel
        haveI hxq := ExtC.mk hbq
        by_cases hlt2 : j < 2
        · have hcj := (hbq.cell (p := ⟨g2, j, none⟩) hlW).trans (hW2c j hlt2)
          obtain ⟨b, hb⟩ : ∃ b, decide (j = 1) = b := ⟨_, rfl⟩
          rw [hb] at hcj
          obtain ⟨A, E, hA⟩ : ∃ A E, putV n z b = (A, E) := ⟨_, _, rfl⟩
          obtain ⟨M, F, hM⟩ : ∃ M F, getV X 0 z b = (M, F) := ⟨_, _, rfl⟩
          have hAs := putV_size n z b
          rw [hA] at hAs
          dsimp only at hAs
          have hP1 := fun w => put_is n z b w A E hn hA
          have hG2 := fun w => getIs X 0 z b w M F (by omega) (by omega) hM
          have hd2 : decide ((j : Int) < 2) = true := decide_eq_true (by omega)
          have hsz : (X ++ A ++ Y).size ≤ 281474976710656 := by rw [ByteArray.size_append, ByteArray.size_append]; omega
          clear hb hW2c
          by_cases hE : E = 0 <;> by_cases hF : F = 0
          · subst hE hF
            obtain ⟨m, rfl, hmX, hM64, hPM⟩ := get_put X z b M hM
            have hG1 := fun w => getIs (X ++ A ++ Y) X.size m b w n 0 hsz (by omega) (put_get n m b A X Y hA)
            have hP2 := fun w => put_is M m b w _ 0 hM64 hPM
            clear hA hM hPM
            go_wp2_with (first | (go_at_call 8; (first | (with_reducible refine (hP1 _).mono ?_) | (with_reducible refine (hP2 _).mono ?_)); rintro e w9 ⟨rfl, hb9⟩; haveI hx9 := ExtC.mk hb9) | (go_at_call 15; (first | (with_reducible refine (hG1 _).mono ?_) | (with_reducible refine (hG2 _).mono ?_)); rintro e w9 ⟨rfl, hb9⟩; haveI hx9 := ExtC.mk hb9))
            go_roundw
            case rel => exact ⟨j + 1, by omega, by go_num, by (repeat' (first | (with_reducible exact Below.refl _ _) | (with_reducible refine Below.alloc ?_ ?_ _) | (with_reducible refine Below.setCell ?_ ?_ _) | (with_reducible refine Below.drew ?_) | (with_reducible refine below_step ?_ (by assumption) ?_) | (with_reducible exact leC) | go_size))⟩
            case measure => simp [intOf]; omega
          · subst hE
            have hG1 := fun w => getIs (X ++ A ++ Y) X.size z b w n 0 hsz (by omega) (put_get n z b A X Y hA)
            have hF1 : (F == 0) = false := by simpa using hF
            have hF2 : decide (F = 0) = false := decide_eq_false hF
            clear hA hM
            go_wp2_with (first | (go_at_call 8; (first | (with_reducible refine (hP1 _).mono ?_)); rintro e w9 ⟨rfl, hb9⟩; haveI hx9 := ExtC.mk hb9) | (go_at_call 15; (first | (with_reducible refine (hG1 _).mono ?_) | (with_reducible refine (hG2 _).mono ?_)); rintro e w9 ⟨rfl, hb9⟩; haveI hx9 := ExtC.mk hb9))
            go_roundw
            case rel => exact ⟨j + 1, by omega, by go_num, by (repeat' (first | (with_reducible exact Below.refl _ _) | (with_reducible refine Below.alloc ?_ ?_ _) | (with_reducible refine Below.setCell ?_ ?_ _) | (with_reducible refine Below.drew ?_) | (with_reducible refine below_step ?_ (by assumption) ?_) | (with_reducible exact leC) | go_size))⟩
            case measure => simp [intOf]; omega
          · subst hF
            obtain ⟨m, rfl, hmX, hM64, hPM⟩ := get_put X z b M hM
            have hP2 := fun w => put_is M m b w _ 0 hM64 hPM
            have hE1 : (E == 0) = false := by simpa using hE
            have hE2 : decide (E = 0) = false := decide_eq_false hE
            clear hA hM hPM
            go_wp2_with (first | (go_at_call 8; (first | (with_reducible refine (hP1 _).mono ?_) | (with_reducible refine (hP2 _).mono ?_)); rintro e w9 ⟨rfl, hb9⟩; haveI hx9 := ExtC.mk hb9) | (go_at_call 15; (first | (with_reducible refine (hG2 _).mono ?_)); rintro e w9 ⟨rfl, hb9⟩; haveI hx9 := ExtC.mk hb9))
            go_roundw
            case rel => exact ⟨j + 1, by omega, by go_num, by (repeat' (first | (with_reducible exact Below.refl _ _) | (with_reducible refine Below.alloc ?_ ?_ _) | (with_reducible refine Below.setCell ?_ ?_ _) | (with_reducible refine Below.drew ?_) | (with_reducible refine below_step ?_ (by assumption) ?_) | (with_reducible exact leC) | go_size))⟩
            case measure => simp [intOf]; omega
          · have hE1 : (E == 0) = false := by simpa using hE
            have hE2 : decide (E = 0) = false := decide_eq_false hE
            have hF1 : (F == 0) = false := by simpa using hF
            have hF2 : decide (F = 0) = false := decide_eq_false hF
            clear hA hM
            go_wp2_with (first | (go_at_call 8; (first | (with_reducible refine (hP1 _).mono ?_)); rintro e w9 ⟨rfl, hb9⟩; haveI hx9 := ExtC.mk hb9) | (go_at_call 15; (first | (with_reducible refine (hG2 _).mono ?_)); rintro e w9 ⟨rfl, hb9⟩; haveI hx9 := ExtC.mk hb9))
            go_roundw
            case rel => exact ⟨j + 1, by omega, by go_num, by (repeat' (first | (with_reducible exact Below.refl _ _) | (with_reducible refine Below.alloc ?_ ?_ _) | (with_reducible refine Below.setCell ?_ ?_ _) | (with_reducible refine Below.drew ?_) | (with_reducible refine below_step ?_ (by assumption) ?_) | (with_reducible exact leC) | go_size))⟩
            case measure => simp [intOf]; omega
        · obtain rfl : j = 2 := by omega
          clear hW2c
          go_wp2
          go_roundw
          case rel => exact ⟨k + 1, by omega, by go_num, by (repeat' (first | (with_reducible exact Below.refl _ _) | (with_reducible refine Below.alloc ?_ ?_ _) | (with_reducible refine Below.setCell ?_ ?_ _) | (with_reducible refine Below.drew ?_) | (with_reducible refine below_step ?_ (by assumption) ?_) | (with_reducible exact leC) | go_size))⟩
          case measure => simp [intOf]; omega
    · obtain rfl : k = 7 := by omega
      clear hc
      go_wp2_with (first | (go_at_call 14; (first | (with_reducible refine (wakes_any _).mono ?_)); rintro e w9 ⟨rfl, hb9⟩; haveI hx9 := ExtC.mk hb9))
      exact bodyPost_ret (v := (.bool true)) (by simp (maxDischargeDepth := 6) [results, Try.results5, go_sem]) rfl ⟨rfl, by (repeat' (first | (with_reducible exact Below.refl _ _) | (with_reducible refine Below.alloc ?_ ?_ _) | (with_reducible refine Below.setCell ?_ ?_ _) | (with_reducible refine Below.drew ?_) | (with_reducible refine below_step ?_ (by assumption) ?_) | (with_reducible exact leC) | go_size))⟩
end Go.Proofs.Ytnpbhdphbbdefaa
