/- The walk of SumsJoin. Condition: both strings take at most 2^47 bytes. -/
import Derived.Test.YtnpikkghgflefaaJoin
namespace Go.Proofs.Ytnpikkghgflefaa
open Go.RowKit
attribute [local go_sem] cellI frozenI cellOf_is frozenOf_is cellA frozenA setCellA

set_option maxRecDepth 100000 in
theorem joinW_any (s t : ByteArray) (n : Int) (w : World) (hs : s.size ≤ 140737488355328) (ht : t.size ≤ 140737488355328) (hn : -9223372036854775808 ≤ n ∧ n ≤ 9223372036854775807) :
    Calls Try.prog 6 #[.string s, .string t, .int .i64 n] w fun e w' => e = .returned (.bool true) ∧ Below w.heap.size w w' := by
  obtain ⟨A, B, J, lA, lB, hS, hT, hST, hJ, hJ1, hJ2, hJ3⟩ : ∃ A B J : Nat, A < 2 ^ 32 ∧ B < 2 ^ 32 ∧
      (∀ w, Calls Try.prog 13 #[.string s] w fun e w' => e = .returned (.int .u32 A) ∧ Below w.heap.size w w') ∧
      (∀ w, Calls Try.prog 13 #[.string t] w fun e w' => e = .returned (.int .u32 B) ∧ Below w.heap.size w w') ∧
      (∀ w, Calls Try.prog 13 #[.string (s ++ t)] w fun e w' => e = .returned (.int .u32 J) ∧ Below w.heap.size w w') ∧
      (∀ w, Calls Try.prog 15 #[.int .u32 A, .int .u32 B, .int .i64 t.size] w fun e w' => e = .returned (.int .u32 J) ∧ Below w.heap.size w w') ∧
      (∀ w m, m < 0 → Calls Try.prog 15 #[.int .u32 A, .int .u32 B, .int .i64 m] w fun e w' => e = .returned (.int .u32 0) ∧ Below w.heap.size w w') ∧
      (∀ w, Calls Try.prog 15 #[.int .u32 65521, .int .u32 B, .int .i64 t.size] w fun e w' => e = .returned (.int .u32 0) ∧ Below w.heap.size w w') ∧
      (∀ w, Calls Try.prog 15 #[.int .u32 A, .int .u32 4293984256, .int .i64 t.size] w fun e w' => e = .returned (.int .u32 0) ∧ Below w.heap.size w w') := by
    have h1 := adler_lt s.data.toList
    have h2 := adler_lt t.data.toList
    have l1 := adB_lt s.data.toList
    have l2 := adB_lt t.data.toList
    refine ⟨_, _, _, h1, h2, fun w => adler_any s w (by omega), fun w => adler_any t w (by omega), fun w => adler_any (s ++ t) w (by rw [ByteArray.size_append]; omega), fun w => ?_, fun w m hm => join_neg _ _ m w h1 h2 hm, fun w => join_top 65521 _ _ w (by omega) h2 (by omega) (by omega), fun w => join_top _ 4293984256 _ w h1 (by omega) (by omega) (by omega)⟩
    have hj := adler_join s.data.toList t.data.toList
    rw [show (s ++ t).data.toList = s.data.toList ++ t.data.toList by simp, hj]
    have := join_ok (adler s.data.toList) (adler t.data.toList) _ _ _ _ t.size w rfl rfl l1.1 l1.2 l2.1 l2.2 (by omega)
    simpa using this
  go_enter Try.func6, Try.ntmps6
  go_wp2_with (first | (go_at_call 13; (first | (with_reducible refine (hS _).mono ?_) | (with_reducible refine (hT _).mono ?_) | (with_reducible refine (hST _).mono ?_)); rintro e w9 ⟨rfl, hb9⟩; haveI hx9 := ExtC.mk hb9) | (go_at_call 15; (first | (with_reducible refine (hJ _).mono ?_) | (with_reducible refine (hJ2 _).mono ?_) | (with_reducible refine (hJ3 _).mono ?_) | (with_reducible refine (hJ1 _ _ (by split <;> omega)).mono ?_)); rintro e w9 ⟨rfl, hb9⟩; haveI hx9 := ExtC.mk hb9) | (go_at_call 11; (first | (with_reducible refine (wakes_any _).mono ?_)); rintro e w9 ⟨rfl, hb9⟩; haveI hx9 := ExtC.mk hb9))
  all_goals exact bodyPost_ret (v := (.bool true)) (by simp (maxDischargeDepth := 6) [results, Try.results6, go_sem]) rfl ⟨rfl, by (repeat' (first | (with_reducible exact Below.refl _ _) | (with_reducible refine Below.alloc ?_ ?_ _) | (with_reducible refine Below.setCell ?_ ?_ _) | (with_reducible refine Below.drew ?_) | (with_reducible refine below_step ?_ (by assumption) ?_) | (with_reducible exact leC) | go_size))⟩
end Go.Proofs.Ytnpikkghgflefaa
