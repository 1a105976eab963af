/- More contracts of package span and of its reference: Between, Text, Of, and the reference's functions. Conditions: the numbers are int's, a string takes at most maxLen bytes. -/
import Derived.Test.YtbgcdoikcjjaeaaSpan
namespace Go.Proofs.Ytbgcdoikcjjaeaa
open Go.RowKit
attribute [local go_sem] cellI frozenI cellOf_is frozenOf_is cellA frozenA setCellA

theorem endIs {v : Int} (a l : Int) (w : World) (ha : I64 a) (hl : I64 l) (h : endI a l = v) :
    Calls Try.prog 10 #[.agg #[.int .i64 a, .int .i64 l]] w fun e w' => e = .returned (.int .i64 v) ∧ Below w.heap.size w w' := by
  subst h; exact end_any a l w ha hl
theorem good_is {v : Bool} (a l n : Int) (w : World) (ha : I64 a) (hl : I64 l) (hn : I64 n) (h : goodB a l n = v) :
    Calls Try.prog 8 #[.agg #[.int .i64 a, .int .i64 l], .int .i64 n] w fun e w' => e = .returned (.bool v) ∧ Below w.heap.size w w' := by
  subst h; exact good_any a l n w ha hl hn

/-- What Of gives. -/
def ofI (n : Int) : Int := if n < 0 ∨ 4611686018427387904 < n then 0 else n
theorem of_any (n : Int) (w : World) : Calls Try.prog 14 #[.int .i64 n] w fun e w' => e = .returned (.agg #[.int .i64 0, .int .i64 (ofI n)]) ∧ Below w.heap.size w w' := by
  by_cases h : n < 0
  · have he : ofI n = 0 := by simp [ofI, h]
    rw [he]; clear he
    go_enter Try.func14, Try.ntmps14
    go_wp2
    exact bodyPost_ret (v := .agg #[.int .i64 0, .int .i64 0]) (by simp (maxDischargeDepth := 6) [results, Try.results14, go_sem]) rfl ⟨rfl, by (repeat' (first | (with_reducible exact Below.refl _ _) | (with_reducible refine Below.alloc ?_ ?_ _) | (with_reducible refine Below.setCell ?_ ?_ _) | (with_reducible refine Below.drew ?_) | (with_reducible refine below_step ?_ (by assumption) ?_) | (with_reducible exact leC) | go_size))⟩
  · by_cases h2 : 4611686018427387904 < n
    · have he : ofI n = 0 := by simp [ofI, h2]
      rw [he]; clear he
      go_enter Try.func14, Try.ntmps14
      go_wp2
      exact bodyPost_ret (v := .agg #[.int .i64 0, .int .i64 0]) (by simp (maxDischargeDepth := 6) [results, Try.results14, go_sem]) rfl ⟨rfl, by (repeat' (first | (with_reducible exact Below.refl _ _) | (with_reducible refine Below.alloc ?_ ?_ _) | (with_reducible refine Below.setCell ?_ ?_ _) | (with_reducible refine Below.drew ?_) | (with_reducible refine below_step ?_ (by assumption) ?_) | (with_reducible exact leC) | go_size))⟩
    · have he : ofI n = n := by simp [ofI, h, h2]
      rw [he]; clear he
      go_enter Try.func14, Try.ntmps14
      go_wp2
      exact bodyPost_ret (v := .agg #[.int .i64 0, .int .i64 n]) (by simp (maxDischargeDepth := 6) [results, Try.results14, go_sem]) rfl ⟨rfl, by (repeat' (first | (with_reducible exact Below.refl _ _) | (with_reducible refine Below.alloc ?_ ?_ _) | (with_reducible refine Below.setCell ?_ ?_ _) | (with_reducible refine Below.drew ?_) | (with_reducible refine below_step ?_ (by assumption) ?_) | (with_reducible exact leC) | go_size))⟩

/-- What Between gives. -/
def betR (a l b m : Int) : Int × Int × Int := if soundB a l && soundB b m then (if b + m < a then (0, 0, 3) else (a, b + m - a, 0)) else (0, 0, 2)

set_option maxHeartbeats 800000 in
theorem between_any (a l b m : Int) (w : World) (ha : I64 a) (hl : I64 l) (hb : I64 b) (hm : I64 m) :
    Calls Try.prog 20 #[.agg #[.int .i64 a, .int .i64 l], .agg #[.int .i64 b, .int .i64 m]] w fun e w' => e = .returned (from3 (betR a l b m)) ∧ Below w.heap.size w w' := by
  cases hs : soundB a l
  · rw [show betR a l b m = (0, 0, 2) by simp [betR, hs]]
    go_enter Try.func20, Try.ntmps20
    go_wp2_with fail
    refine (sound_is _ _ _ ha hl hs).mono ?_
    rintro e w1 ⟨rfl, hb1⟩
    haveI hx1 := ExtC.mk hb1
    go_wp2
    exact bodyPost_ret (v := from3 (0, 0, 2)) (by simp (maxDischargeDepth := 6) [results, Try.results20, go_sem, from3]) rfl ⟨rfl, by (repeat' (first | (with_reducible exact Below.refl _ _) | (with_reducible refine Below.alloc ?_ ?_ _) | (with_reducible refine Below.setCell ?_ ?_ _) | (with_reducible refine Below.drew ?_) | (with_reducible refine below_step ?_ (by assumption) ?_) | (with_reducible exact leC) | go_size))⟩
  · cases ht : soundB b m
    · rw [show betR a l b m = (0, 0, 2) by simp [betR, ht]]
      go_enter Try.func20, Try.ntmps20
      go_wp2_with fail
      refine (sound_is _ _ _ ha hl hs).mono ?_
      rintro e w1 ⟨rfl, hb1⟩
      haveI hx1 := ExtC.mk hb1
      go_wp2_with fail
      refine (sound_is _ _ _ hb hm ht).mono ?_
      rintro e w2 ⟨rfl, hb2⟩
      replace hb2 := hb1.trans (hb2.mono hb1.size)
      haveI hx2 := ExtC.mk hb2
      go_wp2
      exact bodyPost_ret (v := from3 (0, 0, 2)) (by simp (maxDischargeDepth := 6) [results, Try.results20, go_sem, from3]) rfl ⟨rfl, by (repeat' (first | (with_reducible exact Below.refl _ _) | (with_reducible refine Below.alloc ?_ ?_ _) | (with_reducible refine Below.setCell ?_ ?_ _) | (with_reducible refine Below.drew ?_) | (with_reducible refine below_step ?_ (by assumption) ?_) | (with_reducible exact leC) | go_size))⟩
    · obtain ⟨h1, h2, h3⟩ := (soundB_iff a l).1 hs
      obtain ⟨h4, h5, h6⟩ := (soundB_iff b m).1 ht
      have H := Lib.hid (endI_yes ht)
      by_cases hlt : b + m < a
      · rw [show betR a l b m = (0, 0, 3) by simp [betR, hs, ht, hlt]]
        go_enter Try.func20, Try.ntmps20
        go_wp2_with fail
        refine (sound_is _ _ _ ha hl hs).mono ?_
        rintro e w1 ⟨rfl, hb1⟩
        haveI hx1 := ExtC.mk hb1
        go_wp2_with fail
        refine (sound_is _ _ _ hb hm ht).mono ?_
        rintro e w2 ⟨rfl, hb2⟩
        replace hb2 := hb1.trans (hb2.mono hb1.size)
        haveI hx2 := ExtC.mk hb2
        go_wp2
        refine steady_from hb2 (by kernel_rfl) (by kernel_rfl) ?_
        repeat (first | go_big_quiet_skip | (go_big_quiet_want; go_big_quiet_op; first | go_big_quiet_on | (apply Exists.intro; refine ⟨fun _ => ?_, ?_⟩; (focus (((go_at_call 10; with_reducible exact Calls.steady (endIs _ _ _ hb hm H.out))))); go_big_quiet_on)))
        refine wpQuiet_nil ?_
        rintro w3 ⟨⟨_, hb3⟩, rfl⟩
        haveI hx3 := ExtC.mk hb3
        try dsimp only
        go_wp2
        exact bodyPost_ret (v := from3 (0, 0, 3)) (by simp (maxDischargeDepth := 6) [results, Try.results20, go_sem, from3]) rfl ⟨rfl, by (repeat' (first | (with_reducible exact Below.refl _ _) | (with_reducible refine Below.alloc ?_ ?_ _) | (with_reducible refine Below.setCell ?_ ?_ _) | (with_reducible refine Below.drew ?_) | (with_reducible refine below_step ?_ (by assumption) ?_) | (with_reducible exact leC) | go_size))⟩
      · rw [show betR a l b m = (a, b + m - a, 0) by simp [betR, hs, ht, hlt]]
        go_enter Try.func20, Try.ntmps20
        go_wp2_with fail
        refine (sound_is _ _ _ ha hl hs).mono ?_
        rintro e w1 ⟨rfl, hb1⟩
        haveI hx1 := ExtC.mk hb1
        go_wp2_with fail
        refine (sound_is _ _ _ hb hm ht).mono ?_
        rintro e w2 ⟨rfl, hb2⟩
        replace hb2 := hb1.trans (hb2.mono hb1.size)
        haveI hx2 := ExtC.mk hb2
        go_wp2
        refine steady_from hb2 (by kernel_rfl) (by kernel_rfl) ?_
        repeat (first | go_big_quiet_skip | (go_big_quiet_want; go_big_quiet_op; first | go_big_quiet_on | (apply Exists.intro; refine ⟨fun _ => ?_, ?_⟩; (focus (((go_at_call 10; with_reducible exact Calls.steady (endIs _ _ _ hb hm H.out))))); go_big_quiet_on)))
        refine wpQuiet_nil ?_
        rintro w3 ⟨⟨_, hb3⟩, rfl⟩
        haveI hx3 := ExtC.mk hb3
        try dsimp only
        go_wp2
        refine steady_tail_from hb3 8 (by kernel_rfl) (by kernel_rfl) ?_
        simp only [List.take_succ_cons, List.take_zero, List.drop_succ_cons, List.drop_zero]
        repeat (first | go_big_quiet_skip | (go_big_quiet_want; go_big_quiet_op; first | go_big_quiet_on | (apply Exists.intro; refine ⟨fun _ => ?_, ?_⟩; (focus (((go_at_call 10; with_reducible exact Calls.steady (endIs _ _ _ hb hm H.out))))); go_big_quiet_on)))
        refine wpQuiet_nil ?_
        rintro w4 ⟨⟨_, hb4⟩, rfl⟩
        haveI hx4 := ExtC.mk hb4
        try dsimp only
        go_wp2
        exact bodyPost_ret (v := from3 (a, b + m - a, 0)) (by simp (maxDischargeDepth := 6) [results, Try.results20, go_sem, from3]) rfl ⟨rfl, by (repeat' (first | (with_reducible exact Below.refl _ _) | (with_reducible refine Below.alloc ?_ ?_ _) | (with_reducible refine Below.setCell ?_ ?_ _) | (with_reducible refine Below.drew ?_) | (with_reducible refine below_step ?_ (by assumption) ?_) | (with_reducible exact leC) | go_size))⟩

end Go.Proofs.Ytbgcdoikcjjaeaa
