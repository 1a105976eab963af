/- The contract of the reference's Number. Conditions: the view's numbers are int's, the string takes at most 2^47 bytes. -/
import Derived.Test.YtaponjjdfcmbeaaDoorTree2
namespace Go.Proofs.YtaponjjdfcmbeaaDoor
set_option linter.unusedVariables false
set_option linter.unusedSimpArgs false
open Go.RowKit
attribute [local go_sem] cellI frozenI cellOf_is frozenOf_is cellA frozenA setCellA
attribute [-go_sem] run_min_int2

set_option maxHeartbeats 1600000 in
theorem rnumber_any (k a l : Int) (li : Bool) (b m : Int) (kv : Value) (s : ByteArray) (w : World) (ha : Sp.I64 a) (hl : Sp.I64 l) (hs : s.size ≤ 281474976706560) :
    Calls Tryd.prog 16 #[.agg #[.int .i64 k, .int .i64 a, .int .i64 l, .bool li, .int .i64 b, .int .i64 m, kv], .string s] w fun e w' => e = .returned (.tuple #[.int .u64 ((numV k a l li b m s).1 : Nat), .int .i64 (numV k a l li b m s).2]) ∧ Below w.heap.size w w' := by
  by_cases hn1 : k = 0 ∨ k = 1
  · have hsd := fun w => rsound_any k a l li b m kv s w ha hl hs
    cases hso : soundB k a l b m s.size
    · have hv : numV k a l li b m s = (0, 3) := by rw [numV, if_neg (fun h => h hn1), if_pos hso]
      rw [hv]
      rw [hso] at hsd
      rcases hn1 with rfl | rfl
      all_goals
        go_enter Tryd.func16, Tryd.ntmps16
        go_wp2_with (go_at_call 24; fail)
        refine (hsd _).mono ?_
        rintro e w2 ⟨rfl, hb2⟩
        haveI hx2 := ExtC.mk hb2
        go_wp2
        exact bodyPost_ret (v := (.tuple #[.int .u64 0, .int .i64 3])) (by simp (maxDischargeDepth := 6) [results, Tryd.results16, go_sem]) rfl ⟨rfl, by (repeat' (first | (with_reducible exact Below.refl _ _) | (with_reducible refine Below.alloc ?_ ?_ _) | (with_reducible refine Below.setCell ?_ ?_ _) | (with_reducible refine Below.drew ?_) | (with_reducible refine below_step ?_ (by assumption) ?_) | (with_reducible exact leC) | go_size))⟩
    · obtain ⟨hg, hz⟩ := sound_parts hso
      obtain ⟨_, _, hlt⟩ := get_text s a l li hg (hz (by omega))
      have hv : numV k a l li b m s = (if k = 1 then Bi.partV (En.getV s a l li).1 b m else (En.getV s a l li).1, 0) := by rw [numV, if_neg (fun h => h hn1), if_neg (by rw [hso]; decide)]
      rw [hv]
      rw [hso] at hsd
      have hge := fun w => En.rget_any s a l li w hs ha
      obtain ⟨G, E, hGE⟩ : ∃ G E, En.getV s a l li = (G, E) := ⟨_, _, rfl⟩
      rw [hGE] at hge hlt ⊢
      simp only at hge hlt ⊢
      clear hGE hv
      rcases hn1 with rfl | rfl
      · rw [if_neg (by decide)]
        go_enter Tryd.func16, Tryd.ntmps16
        go_wp2_with (go_at_call 24; fail)
        refine (hsd _).mono ?_
        rintro e w2 ⟨rfl, hb2⟩
        haveI hx2 := ExtC.mk hb2
        go_wp2_with (go_at_call 31; fail)
        refine (hge _).mono ?_
        rintro e w3 ⟨rfl, hb3⟩
        haveI hx3 := ExtC.mk hb3
        go_wp2
        exact bodyPost_ret (v := (.tuple #[.int .u64 G, .int .i64 0])) (by simp (maxDischargeDepth := 6) [results, Tryd.results16, go_sem]) rfl ⟨rfl, by (repeat' (first | (with_reducible exact Below.refl _ _) | (with_reducible refine Below.alloc ?_ ?_ _) | (with_reducible refine Below.setCell ?_ ?_ _) | (with_reducible refine Below.drew ?_) | (with_reducible refine below_step ?_ (by assumption) ?_) | (with_reducible exact leC) | go_size))⟩
      · rw [if_pos rfl]
        go_enter Tryd.func16, Tryd.ntmps16
        go_wp2_with (go_at_call 24; fail)
        refine (hsd _).mono ?_
        rintro e w2 ⟨rfl, hb2⟩
        haveI hx2 := ExtC.mk hb2
        go_wp2_with (go_at_call 31; fail)
        refine (hge _).mono ?_
        rintro e w3 ⟨rfl, hb3⟩
        haveI hx3 := ExtC.mk hb3
        go_wp2_with (go_at_call 32; fail)
        refine (Bi.rpart_any b m G _ hlt).mono ?_
        rintro e w4 ⟨rfl, hb4⟩
        haveI hx4 := ExtC.mk hb4
        go_wp2
        exact bodyPost_ret (v := (.tuple #[.int .u64 (Bi.partV G b m : Nat), .int .i64 0])) (by simp (maxDischargeDepth := 6) [results, Tryd.results16, go_sem]) rfl ⟨rfl, by (repeat' (first | (with_reducible exact Below.refl _ _) | (with_reducible refine Below.alloc ?_ ?_ _) | (with_reducible refine Below.setCell ?_ ?_ _) | (with_reducible refine Below.drew ?_) | (with_reducible refine below_step ?_ (by assumption) ?_) | (with_reducible exact leC) | go_size))⟩
  · have hv : numV k a l li b m s = (0, 24) := by rw [numV, if_pos hn1]
    rw [hv]
    have d1 : (k != 0) = true := by simp; omega
    have d2 : (k != 1) = true := by simp; omega
    go_enter Tryd.func16, Tryd.ntmps16
    go_wp2
    exact bodyPost_ret (v := (.tuple #[.int .u64 0, .int .i64 24])) (by simp (maxDischargeDepth := 6) [results, Tryd.results16, go_sem]) rfl ⟨rfl, by (repeat' (first | (with_reducible exact Below.refl _ _) | (with_reducible refine Below.alloc ?_ ?_ _) | (with_reducible refine Below.setCell ?_ ?_ _) | (with_reducible refine Below.drew ?_) | (with_reducible refine below_step ?_ (by assumption) ?_) | (with_reducible exact leC) | go_size))⟩
end Go.Proofs.YtaponjjdfcmbeaaDoor
