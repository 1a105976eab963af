/- Contracts of the reference's Sound, and of Number, the program's and the reference's. Conditions: the view's numbers are int's, the string takes at most 2^47 bytes. -/
import Derived.Test.YtaponjjdfcmbeaaDoorTree
namespace Go.Proofs.YtaponjjdfcmbeaaDoor
set_option linter.unusedVariables false
set_option linter.unusedSimpArgs false
open Go.RowKit
attribute [local go_sem] cellI frozenI cellOf_is frozenOf_is cellA frozenA setCellA
attribute [-go_sem] run_min_int2

set_option maxHeartbeats 1600000 in
theorem rsound_any (k a l : Int) (li : Bool) (b m : Int) (kv : Value) (s : ByteArray) (w : World) (ha : Sp.I64 a) (hl : Sp.I64 l) (hs : s.size ≤ 281474976706560) :
    Calls Tryd.prog 24 #[.agg #[.int .i64 k, .int .i64 a, .int .i64 l, .bool li, .int .i64 b, .int .i64 m, kv], .string s] w fun e w' => e = .returned (.bool (soundB k a l b m s.size)) ∧ Below w.heap.size w w' := by
  have hn : Sp.I64 s.size := ⟨by omega, by omega⟩
  obtain ⟨V, hV⟩ : ∃ V, soundB k a l b m s.size = V := ⟨_, rfl⟩
  rw [hV]
  unfold soundB at hV
  by_cases h1 : k < 0 ∨ 5 < k
  · rw [if_pos h1] at hV
    subst hV
    go_enter Tryd.func24, Tryd.ntmps24
    go_wp2_with (go_at_call 41; fail)
    refine (Sp.rgood_any a l _ _ ha hl hn).mono ?_
    rintro e w1 ⟨rfl, hb1⟩
    haveI hx1 := ExtC.mk hb1
    go_wp2
    all_goals first | (exfalso; omega) | skip
    all_goals exact bodyPost_ret (v := (.bool false)) (by simp (maxDischargeDepth := 6) [results, Tryd.results24, go_sem]) rfl ⟨rfl, by (repeat' (first | (with_reducible exact Below.refl _ _) | (with_reducible refine Below.alloc ?_ ?_ _) | (with_reducible refine Below.setCell ?_ ?_ _) | (with_reducible refine Below.drew ?_) | (with_reducible refine below_step ?_ (by assumption) ?_) | (with_reducible exact leC) | go_size))⟩
  · rw [if_neg h1] at hV
    have d1 : decide (k < 0) = false := decide_eq_false (by omega)
    have d2 : decide (5 < k) = false := decide_eq_false (by omega)
    cases hg : Sp.goodB a l s.size
    · rw [hg, if_pos rfl] at hV
      subst hV
      go_enter Tryd.func24, Tryd.ntmps24
      go_wp2_with (go_at_call 41; fail)
      refine (Sp.rgood_is _ _ _ _ ha hl hn hg).mono ?_
      rintro e w1 ⟨rfl, hb1⟩
      haveI hx1 := ExtC.mk hb1
      go_wp2
      exact bodyPost_ret (v := (.bool false)) (by simp (maxDischargeDepth := 6) [results, Tryd.results24, go_sem]) rfl ⟨rfl, by (repeat' (first | (with_reducible exact Below.refl _ _) | (with_reducible refine Below.alloc ?_ ?_ _) | (with_reducible refine Below.setCell ?_ ?_ _) | (with_reducible refine Below.drew ?_) | (with_reducible refine below_step ?_ (by assumption) ?_) | (with_reducible exact leC) | go_size))⟩
    · rw [hg, if_neg (by decide)] at hV
      by_cases h2 : k ≤ 1
      · have d3 : decide (k ≤ 1) = true := decide_eq_true h2
        cases hsz : En.goodB l
        · rw [if_pos ⟨h2, hsz⟩] at hV
          subst hV
          go_enter Tryd.func24, Tryd.ntmps24
          go_wp2_with (go_at_call 41; fail)
          refine (Sp.rgood_is _ _ _ _ ha hl hn hg).mono ?_
          rintro e w1 ⟨rfl, hb1⟩
          haveI hx1 := ExtC.mk hb1
          go_wp2_with (go_at_call 42; fail)
          refine (En.rgood_any _ _).mono ?_
          rintro e w3 ⟨rfl, hb3⟩
          haveI hx3 := ExtC.mk hb3
          rw [hsz]
          go_wp2
          exact bodyPost_ret (v := (.bool false)) (by simp (maxDischargeDepth := 6) [results, Tryd.results24, go_sem]) rfl ⟨rfl, by (repeat' (first | (with_reducible exact Below.refl _ _) | (with_reducible refine Below.alloc ?_ ?_ _) | (with_reducible refine Below.setCell ?_ ?_ _) | (with_reducible refine Below.drew ?_) | (with_reducible refine below_step ?_ (by assumption) ?_) | (with_reducible exact leC) | go_size))⟩
        · rw [if_neg (by rw [hsz]; simp)] at hV
          by_cases hk1 : k = 1
          · rw [if_pos hk1] at hV
            have d4 : (k == 1) = true := by simp [hk1]
            replace hk1 := Lib.hid hk1
            replace hV := Lib.hid hV
            go_enter Tryd.func24, Tryd.ntmps24
            go_wp2_with (go_at_call 41; fail)
            refine (Sp.rgood_is _ _ _ _ ha hl hn hg).mono ?_
            rintro e w1 ⟨rfl, hb1⟩
            haveI hx1 := ExtC.mk hb1
            go_wp2_with (go_at_call 42; fail)
            refine (En.rgood_any _ _).mono ?_
            rintro e w3 ⟨rfl, hb3⟩
            haveI hx3 := ExtC.mk hb3
            rw [hsz]
            go_wp2
            all_goals go_ret
            all_goals exact ⟨ret_bool (by rw [← hV.out, Bool.eq_iff_iff]; simp [*] <;> omega), by (repeat' (first | (with_reducible exact Below.refl _ _) | (with_reducible refine Below.alloc ?_ ?_ _) | (with_reducible refine Below.setCell ?_ ?_ _) | (with_reducible refine Below.drew ?_) | (with_reducible refine below_step ?_ (by assumption) ?_) | (with_reducible exact leC) | go_size))⟩
          · rw [if_neg hk1] at hV
            subst hV
            have d4 : (k == 1) = false := by simp [hk1]
            go_enter Tryd.func24, Tryd.ntmps24
            go_wp2_with (go_at_call 41; fail)
            refine (Sp.rgood_is _ _ _ _ ha hl hn hg).mono ?_
            rintro e w1 ⟨rfl, hb1⟩
            haveI hx1 := ExtC.mk hb1
            go_wp2_with (go_at_call 42; fail)
            refine (En.rgood_any _ _).mono ?_
            rintro e w3 ⟨rfl, hb3⟩
            haveI hx3 := ExtC.mk hb3
            rw [hsz]
            go_wp2
            exact bodyPost_ret (v := (.bool true)) (by simp (maxDischargeDepth := 6) [results, Tryd.results24, go_sem]) rfl ⟨rfl, by (repeat' (first | (with_reducible exact Below.refl _ _) | (with_reducible refine Below.alloc ?_ ?_ _) | (with_reducible refine Below.setCell ?_ ?_ _) | (with_reducible refine Below.drew ?_) | (with_reducible refine below_step ?_ (by assumption) ?_) | (with_reducible exact leC) | go_size))⟩
      · have d3 : decide (k ≤ 1) = false := decide_eq_false h2
        rw [if_neg (by omega), if_neg (by omega)] at hV
        subst hV
        have d4 : (k == 1) = false := by simp; omega
        go_enter Tryd.func24, Tryd.ntmps24
        go_wp2_with (go_at_call 41; fail)
        refine (Sp.rgood_is _ _ _ _ ha hl hn hg).mono ?_
        rintro e w1 ⟨rfl, hb1⟩
        haveI hx1 := ExtC.mk hb1
        go_wp2_with (go_at_call 42; fail)
        refine (En.rgood_any _ _).mono ?_
        rintro e w3 ⟨rfl, hb3⟩
        haveI hx3 := ExtC.mk hb3
        go_wp2
        exact bodyPost_ret (v := (.bool true)) (by simp (maxDischargeDepth := 6) [results, Tryd.results24, go_sem]) rfl ⟨rfl, by (repeat' (first | (with_reducible exact Below.refl _ _) | (with_reducible refine Below.alloc ?_ ?_ _) | (with_reducible refine Below.setCell ?_ ?_ _) | (with_reducible refine Below.drew ?_) | (with_reducible refine below_step ?_ (by assumption) ?_) | (with_reducible exact leC) | go_size))⟩

/-- What Number answers. -/
def numV (k a l : Int) (li : Bool) (b m : Int) (s : ByteArray) : Nat × Int :=
  if ¬ (k = 0 ∨ k = 1) then (0, 24) else if soundB k a l b m s.size = false then (0, 3) else (if k = 1 then Bi.partV (En.getV s a l li).1 b m else (En.getV s a l li).1, 0)
theorem sound_parts {k a l b m n : Int} (h : soundB k a l b m n = true) : Sp.goodB a l n = true ∧ (k ≤ 1 → En.goodB l = true) := by
  unfold soundB at h
  split at h
  · cases h
  · split at h
    · cases h
    · split at h
      · cases h
      · rename_i _ h2 h3
        refine ⟨by simpa using h2, fun hk => ?_⟩
        cases hg : En.goodB l with
        | true => rfl
        | false => exact absurd ⟨hk, hg⟩ h3
theorem get_text (s : ByteArray) (a l : Int) (li : Bool) (hg : Sp.goodB a l s.size = true) (hz : En.goodB l = true) : En.getV (Sp.textV a l s) 0 l li = En.getV s a l li ∧ (Sp.textV a l s).size = l.toNat ∧ (En.getV s a l li).1 < 18446744073709551616 := by
  obtain ⟨h1, h2, h3, h4⟩ := (Sp.goodB_iff _ _ _).1 hg
  obtain ⟨a, rfl⟩ := Int.eq_ofNat_of_zero_le h1
  obtain ⟨m, rfl, hm1, hm8⟩ := En.good_nat hz
  have hT : Sp.textV a m s = s.extract a (a + m) := by
    rw [Sp.textV, hg, if_pos rfl, Int.toNat_natCast, show ((a : Int) + (m : Int)).toNat = a + m by omega]
  have hsz : (s.extract a (a + m)).size = m := by rw [ByteArray.size_extract]; omega
  have hx : ((s.extract a (a + m)).data.toList.drop 0).take m = (s.data.toList.drop a).take m := by
    rw [List.drop_zero, En.extractL, List.take_take]
    congr 1
    omega
  have hl : (En.getL s a m li).length ≤ 8 := by unfold En.getL; split <;> simp <;> omega
  have hgl : En.getL (s.extract a (a + m)) 0 m li = En.getL s a m li := by unfold En.getL; rw [hx]
  rw [hT]
  have e1 : ¬ ((0 : Int) < 0 ∨ ((s.extract a (a + m)).size : Int) - (m : Int) < 0) := by rw [hsz]; omega
  have e2 : ¬ ((a : Int) < 0 ∨ (s.size : Int) - (m : Int) < (a : Int)) := by omega
  refine ⟨?_, by rw [hsz]; rfl, ?_⟩
  · unfold En.getV
    rw [hz, if_neg (by decide : ¬ true = false), if_neg e1, if_neg e2, if_neg (by decide : ¬ true = false)]
    simp only [Int.toNat_natCast, Int.toNat_zero, hgl]
  · unfold En.getV
    rw [hz, if_neg (by decide : ¬ true = false), if_neg e2]
    exact En.beVal_64 _ hl

set_option maxHeartbeats 1600000 in
theorem number_any (k a l : Int) (li : Bool) (b m : Int) (kv : Value) (s : ByteArray) (w : World) (ha : Sp.I64 a) (hl : Sp.I64 l) (hb : Sp.I64 b) (hm : Sp.I64 m) (hs : s.size ≤ 281474976706560) :
    Calls Tryd.prog 15 #[.agg #[.int .i64 k, .int .i64 a, .int .i64 l, .bool li, .int .i64 b, .int .i64 m, kv], .string s] w fun e w' => e = .returned (.tuple #[.int .u64 ((numV k a l li b m s).1 : Nat), .int .i64 (numV k a l li b m s).2]) ∧ Below w.heap.size w w' := by
  cases hnum : decide (k = 0 ∨ k = 1)
  · have hv : numV k a l li b m s = (0, 24) := by rw [numV, if_pos (of_decide_eq_false hnum)]
    rw [hv]
    go_enter Tryd.func15, Tryd.ntmps15
    go_wp2_with (go_at_call 27; fail)
    refine (numeric_is _ _ _ _ _ _ _ _ hnum).mono ?_
    rintro e w1 ⟨rfl, hb1⟩
    haveI hx1 := ExtC.mk hb1
    go_wp2
    exact bodyPost_ret (v := (.tuple #[.int .u64 0, .int .i64 24])) (by simp (maxDischargeDepth := 6) [results, Tryd.results15, go_sem]) rfl ⟨rfl, by (repeat' (first | (with_reducible exact Below.refl _ _) | (with_reducible refine Below.alloc ?_ ?_ _) | (with_reducible refine Below.setCell ?_ ?_ _) | (with_reducible refine Below.drew ?_) | (with_reducible refine below_step ?_ (by assumption) ?_) | (with_reducible exact leC) | go_size))⟩
  · have hn1 := of_decide_eq_true hnum
    have hsd := fun w => sound_any k a l li b m kv s w ha hl hs
    cases hso : soundB k a l b m s.size
    · have hv : numV k a l li b m s = (0, 3) := by rw [numV, if_neg (fun h => h hn1), if_pos hso]
      rw [hv]
      rw [hso] at hsd
      go_enter Tryd.func15, Tryd.ntmps15
      go_wp2_with (go_at_call 27; fail)
      refine (numeric_is _ _ _ _ _ _ _ _ hnum).mono ?_
      rintro e w1 ⟨rfl, hb1⟩
      haveI hx1 := ExtC.mk hb1
      go_wp2_with (go_at_call 22; fail)
      refine (hsd _).mono ?_
      rintro e w2 ⟨rfl, hb2⟩
      haveI hx2 := ExtC.mk hb2
      go_wp2
      exact bodyPost_ret (v := (.tuple #[.int .u64 0, .int .i64 3])) (by simp (maxDischargeDepth := 6) [results, Tryd.results15, go_sem]) rfl ⟨rfl, by (repeat' (first | (with_reducible exact Below.refl _ _) | (with_reducible refine Below.alloc ?_ ?_ _) | (with_reducible refine Below.setCell ?_ ?_ _) | (with_reducible refine Below.drew ?_) | (with_reducible refine below_step ?_ (by assumption) ?_) | (with_reducible exact leC) | go_size))⟩
    · obtain ⟨hg, hz⟩ := sound_parts hso
      obtain ⟨ht, hts, hlt⟩ := get_text s a l li hg (hz (by omega))
      have hv : numV k a l li b m s = (if k = 1 then Bi.partV (En.getV s a l li).1 b m else (En.getV s a l li).1, 0) := by rw [numV, if_neg (fun h => h hn1), if_neg (by rw [hso]; decide)]
      rw [hv]
      rw [hso] at hsd
      have hls : l.toNat ≤ 281474976706560 := by
        obtain ⟨_, _, _, h4⟩ := (Sp.goodB_iff _ _ _).1 hg
        omega
      obtain ⟨T, hT⟩ : ∃ T, Sp.textV a l s = T := ⟨_, rfl⟩
      rw [hT] at ht hts
      have htx := fun w => Sp.text_any a l s w ha hl (by omega)
      rw [hT] at htx
      have hge := fun w => En.get_any T 0 l li w (by omega) ⟨by omega, by omega⟩
      rw [ht] at hge
      obtain ⟨G, E, hGE⟩ : ∃ G E, En.getV s a l li = (G, E) := ⟨_, _, rfl⟩
      rw [hGE] at hge hlt ⊢
      simp only at hge hlt ⊢
      clear ht hT hGE hv
      replace hts := Lib.hid hts
      by_cases hk1 : k = 1
      · rw [if_pos hk1]
        have d4 : (k == 1) = true := by simp [hk1]
        replace hk1 := Lib.hid hk1
        clear hn1
        go_enter Tryd.func15, Tryd.ntmps15
        go_wp2_with (go_at_call 27; fail)
        refine (numeric_is _ _ _ _ _ _ _ _ hnum).mono ?_
        rintro e w1 ⟨rfl, hb1⟩
        haveI hx1 := ExtC.mk hb1
        go_wp2_with (go_at_call 22; fail)
        refine (hsd _).mono ?_
        rintro e w2 ⟨rfl, hb2⟩
        haveI hx2 := ExtC.mk hb2
        go_wp2
        refine steady_region (by kernel_rfl) (by kernel_rfl) ?_
        repeat (first | go_big_quiet_skip | (go_big_quiet_want; go_big_quiet_op; first | go_big_quiet_on | (apply Exists.intro; refine ⟨fun _ => ?_, ?_⟩; (focus ((first | (go_at_call 29; (first | with_reducible exact Calls.steady (htx _))) | (go_at_call 28; (first | with_reducible exact Calls.steady (hge _)))))); go_big_quiet_on)))
        refine wpQuiet_nil ?_
        rintro w3 ⟨⟨_, hb3⟩, rfl⟩
        haveI hx3 := ExtC.mk hb3
        try dsimp only
        go_wp2_with (go_at_call 30; fail)
        refine (Bi.get_any b m G _ hlt hb hm).mono ?_
        rintro e w4 ⟨rfl, hb4⟩
        haveI hx4 := ExtC.mk hb4
        go_wp2
        exact bodyPost_ret (v := (.tuple #[.int .u64 (Bi.partV G b m : Nat), .int .i64 0])) (by simp (maxDischargeDepth := 6) [results, Tryd.results15, go_sem]) rfl ⟨rfl, by (repeat' (first | (with_reducible exact Below.refl _ _) | (with_reducible refine Below.alloc ?_ ?_ _) | (with_reducible refine Below.setCell ?_ ?_ _) | (with_reducible refine Below.drew ?_) | (with_reducible refine below_step ?_ (by assumption) ?_) | (with_reducible exact leC) | go_size))⟩
      · rw [if_neg hk1]
        have d4 : (k == 1) = false := by simp [hk1]
        clear hn1
        go_enter Tryd.func15, Tryd.ntmps15
        go_wp2_with (go_at_call 27; fail)
        refine (numeric_is _ _ _ _ _ _ _ _ hnum).mono ?_
        rintro e w1 ⟨rfl, hb1⟩
        haveI hx1 := ExtC.mk hb1
        go_wp2_with (go_at_call 22; fail)
        refine (hsd _).mono ?_
        rintro e w2 ⟨rfl, hb2⟩
        haveI hx2 := ExtC.mk hb2
        go_wp2
        refine steady_region (by kernel_rfl) (by kernel_rfl) ?_
        repeat (first | go_big_quiet_skip | (go_big_quiet_want; go_big_quiet_op; first | go_big_quiet_on | (apply Exists.intro; refine ⟨fun _ => ?_, ?_⟩; (focus ((first | (go_at_call 29; (first | with_reducible exact Calls.steady (htx _))) | (go_at_call 28; (first | with_reducible exact Calls.steady (hge _)))))); go_big_quiet_on)))
        refine wpQuiet_nil ?_
        rintro w3 ⟨⟨_, hb3⟩, rfl⟩
        haveI hx3 := ExtC.mk hb3
        try dsimp only
        go_wp2
        exact bodyPost_ret (v := (.tuple #[.int .u64 G, .int .i64 0])) (by simp (maxDischargeDepth := 6) [results, Tryd.results15, go_sem]) rfl ⟨rfl, by (repeat' (first | (with_reducible exact Below.refl _ _) | (with_reducible refine Below.alloc ?_ ?_ _) | (with_reducible refine Below.setCell ?_ ?_ _) | (with_reducible refine Below.drew ?_) | (with_reducible refine below_step ?_ (by assumption) ?_) | (with_reducible exact leC) | go_size))⟩
end Go.Proofs.YtaponjjdfcmbeaaDoor
