/- The law SpanTexts walked (under way). -/
import Derived.Test.YtbgcdoikcjjaeaaSpanB
import Derived.Test.YtbgcdoikcjjaeaaTail
namespace Go.Proofs.Ytbgcdoikcjjaeaa
open Go.RowKit
attribute [local go_sem] cellI frozenI cellOf_is frozenOf_is cellA frozenA setCellA

attribute [-go_sem] run_max_int2
theorem cell_mono' {w w' : World} {a : Addr} {v : Value} (h : w.cell? a = some v) (hb : Below w.heap.size w w') : w'.cell? a = some v := (hb.cell (p := a) (Go.block_lt_of_cell h)).trans h
theorem max_zero (P : Program) (x : Int) : ∃ M : Int, M = max 0 x ∧ 0 ≤ M ∧ ∀ (w : World) (ts : Array TypeId) (t : TypeId), (Builtin.max_ ts t #[.int .i64 0, .int .i64 x]).run P w = .ok (.int .i64 M) w := by
  refine ⟨_, rfl, by omega, fun w ts t => ?_⟩
  rw [run_max_int2]
  split
  · rw [show max 0 x = x by omega]
  · rw [show max 0 x = 0 by omega]
set_option maxHeartbeats 1000000 in
set_option maxRecDepth 100000 in
theorem SpanTexts_any (s : ByteArray) (x0 x1 n : Int) (w : World) (hs : s.size ≤ 140737488351232) (h0 : I64 x0) (h1 : I64 x1) (hn0 : 0 ≤ n) (hn1 : n ≤ 18446744073709551615) :
    Calls Try.prog 4 #[.string s, .agg #[.int .i64 x0, .int .i64 x1], .int .u64 n] w fun e w' => e = .returned (.bool true) ∧ Below w.heap.size w w' := by
  obtain ⟨h01, h02⟩ := h0
  obtain ⟨h11, h12⟩ := h1
  have hN : I64 s.size := I64_of (by omega) (by omega)
  have hof := Lib.hid (show ofI s.size = s.size by unfold ofI; rw [if_neg (by omega)])
  obtain ⟨M0, hM0, hM00, hmx0⟩ := max_zero Try.prog x0
  obtain ⟨M1, hM1, hM10, hmx1⟩ := max_zero Try.prog x1
  have hM09 : M0 ≤ 9223372036854775807 := by omega
  have hM19 : M1 ≤ 9223372036854775807 := by omega
  clear hM0 hM1
  obtain ⟨m, hm, hm0, hm1⟩ : ∃ m : Int, M0 % ((s.size : Int) + 1) = m ∧ 0 ≤ m ∧ m ≤ s.size :=
    ⟨_, rfl, Int.emod_nonneg _ (by omega), by have := Int.emod_lt_of_pos M0 (show (0 : Int) < (s.size : Int) + 1 by omega); omega⟩
  have hfr := Lib.hid (show fromR 0 s.size (M0 % ((s.size : Int) + 1)) = (m, s.size - m, 0) by
    rw [hm]
    have : soundB 0 s.size = true := (soundB_iff _ _).2 ⟨by omega, by omega, by omega⟩
    simp only [fromR, this, if_true]
    rw [if_neg (by omega)]
    simp)
  have hmI : I64 (M0 % ((s.size : Int) + 1)) := by rw [hm]; exact I64_of (by omega) (by omega)
  replace hm := Lib.hid hm
  go_enter Try.func4, Try.ntmps4
  go_wp2
  refine region_mem_ex 85 (by kernel_rfl) rfl (by kernel_rfl) ?_
  apply Exists.intro
  apply Exists.intro
  refine ⟨?hls, ?hH, ?hok, ?hQ⟩
  case hls =>
    simp only [List.map_cons, List.map_nil, strip, memB, if_true, if_false, Bool.false_eq_true]
    rfl
  case hH =>
    intro W' hW'
    haveI hxW := ExtC.mk hW'
    repeat (first | go_big_quiet_skip | (go_big_quiet_want; go_big_quiet_op; first | go_big_quiet_on | (apply Exists.intro; refine ⟨fun _ => ?_, ?_⟩; (focus ((first | (go_at_call 14; with_reducible exact Calls.steady (of_is _ _ hof.out)) | (go_at_call 16; with_reducible exact Calls.steady (from_is _ _ _ _ (I64_of (by omega) (by omega)) hN hmI hfr.out))))); go_big_quiet_on)))
    exact wpQuiet_nil rfl
  case hok =>
    simp only [storesOK, true_and, and_true]
    repeat' apply And.intro
    all_goals kernel_rfl
  case hQ =>
    intro ptr w1 hb1 hge hst hnp
    have hA14 := hge 14 _ _ rfl rfl
    have hS14 := hst 14 15 _ _ _ _ _ _ rfl rfl rfl rfl rfl
    clear hge hst hnp
    simp only [putPtrs, Act.put, List.setIfInBounds_toArray, List.set_cons_zero, List.set_cons_succ, Nat.zero_add, Nat.reduceAdd]
    haveI hx1 := ExtC.mk hb1
    generalize ptr 14 = g1_14 at *
    haveI hl1_14 : LtC g1_14 w1.heap.size := ⟨hA14.2⟩
    have hc1_14 := fun o => cell_of_row w1 g1_14 o _ _ _ hS14
    have hf1_14 := fun o => frozen_of_row w1 g1_14 o _ _ hS14
    simp [go_sem, Value.cells] at hc1_14
    clear hS14

    obtain ⟨L, hL⟩ := Int.eq_ofNat_of_zero_le (show 0 ≤ (s.size : Int) - m by omega)
    rw [hL] at hc1_14
    have hc0 := hc1_14 0
    have hc1 := hc1_14 1
    simp only [List.getElem?_cons_zero, List.getElem?_cons_succ] at hc0 hc1
    have hX1 : w1.cell? ⟨w.heap.size, 1, none⟩ = some (.int .i64 x1) := (hb1.cell (p := ⟨w.heap.size, 1, none⟩) (by simp)).trans (by rw [Go.cell_of_row _ _ _ _ _ _ (Go.heap_alloc_new _ _)]; rfl)
    have hL2 : L ≤ s.size := by omega
    have hmL : m + L ≤ s.size := by omega
    replace hL := Lib.hid hL
    clear hc1_14
    go_wp2_with (go_at_call 15; fail)
    refine (wakes_any _).mono ?_
    rintro e w2 ⟨rfl, hb2⟩
    haveI hx2 := ExtC.mk hb2
    have hb01 : Below w.heap.size w w1 := by (repeat' (first | (with_reducible exact Below.refl _ _) | (with_reducible refine Below.alloc ?_ ?_ _) | (with_reducible refine Below.setCell ?_ ?_ _) | (with_reducible refine Below.drew ?_) | (with_reducible refine below_step ?_ (by assumption) ?_) | (with_reducible exact leC) | go_size))
    have hs2 := hb2.size
    have hg1 := hA14.2
    have d0 := (hb2.cell (p := ⟨g1_14, 0, none⟩) hg1).trans hc0
    have d1 := (hb2.cell (p := ⟨g1_14, 1, none⟩) hg1).trans hc1
    have dX := (hb2.cell (p := ⟨w.heap.size, 1, none⟩) (Go.block_lt_of_cell hX1)).trans hX1
    have f0 : w2.frozen? ⟨g1_14, 0, none⟩ = false := (hb2.frozen (p := ⟨g1_14, 0, none⟩) hg1).trans (hf1_14 0)
    have f1 : w2.frozen? ⟨g1_14, 1, none⟩ = false := (hb2.frozen (p := ⟨g1_14, 1, none⟩) hg1).trans (hf1_14 1)
    obtain ⟨k, hk, hk0, hkL⟩ : ∃ k : Int, M1 % ((L : Int) + 1) = k ∧ 0 ≤ k ∧ k ≤ L := ⟨_, rfl, Int.emod_nonneg _ (by omega), by have := Int.emod_lt_of_pos M1 (show (0 : Int) < (L : Int) + 1 by omega); omega⟩
    have e1 : IntKind.i64.wrap ((L : Int) + 1) = L + 1 := IntWalk.i64_in _ (by omega)
    have z1 : (((L : Int) + 1) == 0) = false := by simp; omega
    have z2 : ¬ ((L : Int) + 1 = 0) := by omega
    have e2 : IntKind.u64.wrap ((L : Int) + 1) = L + 1 := by rw [IntKind.wrap_u64]; omega
    have e3 : IntKind.u64.wrap M1 = M1 := by rw [IntKind.wrap_u64]; omega
    have e4 : M1.tmod ((L : Int) + 1) = M1 % ((L : Int) + 1) := Int.tmod_eq_emod_of_nonneg hM10
    have htk := Lib.hid (show takeR m L k = (m, k, m + k, L - k, 0) from takeR_ok ((soundB_iff _ _).2 ⟨by omega, by omega, by omega⟩) hkL)
    have hg2 : g1_14 < w2.heap.size := Nat.lt_of_lt_of_le hg1 hs2
    have hmI2 : I64 m := I64_of (by omega) (by omega)
    have hLI : I64 (L : Int) := I64_of (by omega) (by omega)
    have hb02 : Below w.heap.size w w2 := hb01.trans (hb2.mono hb01.size)
    clear e2 e3 e4 z2
    haveI l1 : LtC g1_14 w2.heap.size := ⟨hg2⟩
    haveI l2 : LtC w.heap.size w2.heap.size := ⟨Go.block_lt_of_cell dX⟩
    go_wp2
    refine steady_tailF 15 (by kernel_rfl) (by kernel_rfl) ?_ ?_
    · exact fun _ d _ _ _ h => by cases d <;> exact h
    simp only [List.take_succ_cons, List.take_zero, List.drop_succ_cons, List.drop_zero]
    repeat (first | go_big_quiet_skip | (go_big_quiet_want; go_big_quiet_op; first | go_big_quiet_on | (apply Exists.intro; refine ⟨fun _ => ?_, ?_⟩; (focus (((go_at_call 17; (first | with_reducible exact Calls.steady (take_is m L _ _ hmI2 hLI (by omega) (by omega) htk.out)))))); go_big_quiet_on)))
    refine wpQuiet_nil ?_
    rintro w3 ⟨⟨_, hb3⟩, rfl⟩
    haveI hx3 := ExtC.mk hb3
    try dsimp only
    go_wp2
    have q0 := cell_mono' d0 hb3
    have q1 := cell_mono' d1 hb3
    have hc4_1 : ((w3.setCell ⟨g1_14, 0, none⟩ (.int .i64 m)).setCell ⟨g1_14, 1, none⟩ (.int .i64 k)).cell? ⟨g1_14, 1, none⟩ = some (.int .i64 k) := by
      apply World.cell?_setCell_same (u := .int .i64 L)
      rw [World.cell?_setCell_other _ _ _ _ (by simp)]
      exact q1
    have hc4_0 : ((w3.setCell ⟨g1_14, 0, none⟩ (.int .i64 m)).setCell ⟨g1_14, 1, none⟩ (.int .i64 k)).cell? ⟨g1_14, 0, none⟩ = some (.int .i64 m) := by
      rw [World.cell?_setCell_other _ _ _ _ (by simp)]
      apply World.cell?_setCell_same (u := .int .i64 m)
      exact q0
    have hgw : w.heap.size ≤ g1_14 := by have := hA14.1; simp at this; omega
    have hb04 : Below w.heap.size w ((w3.setCell ⟨g1_14, 0, none⟩ (.int .i64 m)).setCell ⟨g1_14, 1, none⟩ (.int .i64 k)) := Below.setCell (Below.setCell (hb02.trans (hb3.mono hb02.size)) hgw _) hgw _
    generalize (w3.setCell ⟨g1_14, 0, none⟩ (.int .i64 m)).setCell ⟨g1_14, 1, none⟩ (.int .i64 k) = W4 at *
    clear hb01 hb02 hb3 hb2 hb1 hx1 hx2 hx3 hl1_14 hf1_14 hA14 d0 d1 dX f0 f1 q0 q1 hX1 hc0 hc1 l1 l2 hg1 hg2 hs2
    obtain ⟨k, rfl⟩ := Int.eq_ofNat_of_zero_le hk0
    obtain ⟨m, rfl⟩ := Int.eq_ofNat_of_zero_le hm0
    have hmk : m + k ≤ s.size := by omega
    haveI l4 : LtC g1_14 W4.heap.size := ⟨Go.block_lt_of_cell hc4_0⟩
    haveI l5 : LeC w.heap.size W4.heap.size := ⟨hb04.size⟩
    have hkI : I64 (k : Int) := I64_of (by omega) (by omega)
    have hT : textV m k s = s.extract m (m + k) := by
      have : goodB m k s.size = true := (goodB_iff _ _ _).2 ⟨by omega, by omega, by omega, by omega⟩
      rw [textV, this, if_pos rfl, Int.toNat_natCast, show ((m : Int) + (k : Int)).toNat = m + k by omega]
    have hTs : (s.extract m (m + k)).size = k := by rw [ByteArray.size_extract]; omega
    obtain ⟨j, hj, hjk⟩ : ∃ j : Nat, n % ((k : Int) + 1) = j ∧ j ≤ k := by
      have h1 := Int.emod_nonneg n (show (k : Int) + 1 ≠ 0 by omega)
      have h2 := Int.emod_lt_of_pos n (show (0 : Int) < (k : Int) + 1 by omega)
      exact ⟨(n % ((k : Int) + 1)).toNat, by omega, by omega⟩
    have hT1 : textV m j s = s.extract m (m + j) := by
      have : goodB m j s.size = true := (goodB_iff _ _ _).2 ⟨by omega, by omega, by omega, by omega⟩
      rw [textV, this, if_pos rfl, Int.toNat_natCast, show ((m : Int) + (j : Int)).toNat = m + j by omega]
    have hT2 : textV ((m : Int) + j) ((k : Int) - j) s = s.extract (m + j) (m + k) := by
      have : goodB ((m : Int) + j) ((k : Int) - j) s.size = true := (goodB_iff _ _ _).2 ⟨by omega, by omega, by omega, by omega⟩
      rw [textV, this, if_pos rfl, show ((m : Int) + (j : Int)).toNat = m + j by omega, show ((m : Int) + (j : Int) + ((k : Int) - (j : Int))).toNat = m + k by omega]
    have hcat : s.extract m (m + j) ++ s.extract (m + j) (m + k) = s.extract m (m + k) := by
      apply ByteArray.ext
      apply Array.ext'
      simp [ByteArray.data_append, ByteArray.data_extract, Array.toList_extract, List.extract]
      omega
    have hTAs : (s.extract m (m + j)).size ≤ 140737488351232 := by rw [ByteArray.size_extract]; omega
    have hTBs : (s.extract (m + j) (m + k)).size ≤ 140737488351232 := by rw [ByteArray.size_extract]; omega
    generalize s.extract m (m + k) = TT at *
    generalize s.extract m (m + j) = TA at *
    generalize s.extract (m + j) (m + k) = TB at *
    have hmI2 : I64 (m : Int) := I64_of (by omega) (by omega)
    replace hT := Lib.hid hT
    have hne : ((k : Int) != ((TT.size : Nat) : Int)) = false := by simp [hTs]
    have ek : IntKind.i64.wrap ((k : Int) + 1) = k + 1 := IntWalk.i64_in _ (by omega)
    have zk : (((k : Int) + 1) == 0) = false := by simp; omega
    have htk2 := Lib.hid (show takeR m k j = ((m : Int), (j : Int), (m : Int) + j, (k : Int) - j, 0) from takeR_ok ((soundB_iff _ _).2 ⟨by omega, by omega, by omega⟩) (by omega))
    replace hTs := Lib.hid hTs
    refine steady_region (by kernel_rfl) (by kernel_rfl) ?_
    repeat (first | go_big_quiet_skip | (go_big_quiet_want; go_big_quiet_op; first | go_big_quiet_on | (apply Exists.intro; refine ⟨fun _ => ?_, ?_⟩; (focus (((go_at_call 12; (first | with_reducible exact Calls.steady (text_is _ _ _ _ hmI2 hkI (by omega) hT.out)))))); go_big_quiet_on)))
    refine wpQuiet_nil ?_
    rintro w5 ⟨⟨_, hb5⟩, rfl⟩
    haveI hx5 := ExtC.mk hb5
    try dsimp only
    go_wp2
    haveI l6 : LeC w.heap.size w5.heap.size := ⟨Nat.le_trans hb04.size hb5.size⟩
    have hd0 := cell_mono' hc4_0 hb5
    have hd1 := cell_mono' hc4_1 hb5
    haveI l7 : LtC g1_14 w5.heap.size := ⟨Go.block_lt_of_cell hd0⟩
    refine region_mem_ex 85 (by kernel_rfl) rfl (by kernel_rfl) ?_
    apply Exists.intro
    apply Exists.intro
    refine ⟨?hls, ?hH, ?hok, ?hQ⟩
    case hls =>
      simp only [List.map_cons, List.map_nil, strip, memB, if_true, if_false, Bool.false_eq_true]
      rfl
    case hH =>
      intro W' hW'
      haveI hxW := ExtC.mk hW'
      repeat (first | go_big_quiet_skip | (go_big_quiet_want; go_big_quiet_op; first | go_big_quiet_on | (apply Exists.intro; refine ⟨fun _ => ?_, ?_⟩; (focus ((go_at_call 17; (first | with_reducible exact Calls.steady (take_is _ _ _ _ hmI2 hkI (by omega) (by omega) htk2.out))))); go_big_quiet_on)))
      exact wpQuiet_nil rfl
    case hok =>
      simp only [storesOK, true_and, and_true]
      repeat' apply And.intro
      all_goals kernel_rfl
    case hQ =>
      intro ptr w7 hb7 hge hst hnp
      have hA12 := hge 12 _ _ rfl rfl
      have hS12 := hst 12 14 _ _ _ _ _ _ rfl rfl rfl rfl rfl
      have hA13 := hge 13 _ _ rfl rfl
      have hS13 := hst 13 15 _ _ _ _ _ _ rfl rfl rfl rfl rfl
      have hN1213 := hnp 12 13 _ _ _ _ (by decide) rfl rfl rfl rfl
      clear hge hst hnp
      simp only [putPtrs, Act.put, List.setIfInBounds_toArray, List.set_cons_zero, List.set_cons_succ, Nat.zero_add, Nat.reduceAdd]
      haveI hx7 := ExtC.mk hb7
      generalize ptr 12 = g7_12 at *
      haveI hl7_12 : LtC g7_12 w7.heap.size := ⟨hA12.2⟩
      have hc7_12 := fun o => cell_of_row w7 g7_12 o _ _ _ hS12
      have hf7_12 := fun o => frozen_of_row w7 g7_12 o _ _ hS12
      simp [go_sem, Value.cells] at hc7_12
      clear hS12
      generalize ptr 13 = g7_13 at *
      haveI hl7_13 : LtC g7_13 w7.heap.size := ⟨hA13.2⟩
      have hc7_13 := fun o => cell_of_row w7 g7_13 o _ _ _ hS13
      have hf7_13 := fun o => frozen_of_row w7 g7_13 o _ _ hS13
      simp [go_sem, Value.cells] at hc7_13
      clear hS13

      have hjI : I64 (j : Int) := I64_of (by omega) (by omega)
      have hmjI : I64 ((m : Int) + j) := I64_of (by omega) (by omega)
      have hkjI : I64 ((k : Int) - j) := I64_of (by omega) (by omega)
      have k0 := hc7_12 0
      have k1 := hc7_12 1
      have k2 := hc7_13 0
      have k3 := hc7_13 1
      simp only [List.getElem?_cons_zero, List.getElem?_cons_succ] at k0 k1 k2 k3
      have hd2 := cell_mono' hd0 hb7
      have hd3 := cell_mono' hd1 hb7
      haveI l8 : LtC g1_14 w7.heap.size := ⟨Go.block_lt_of_cell hd2⟩
      clear hc7_12 hc7_13 hd0 hd1 hc4_0 hc4_1
      replace hT1 := Lib.hid hT1
      replace hT2 := Lib.hid hT2
      go_wp2
      refine steady_region (by kernel_rfl) (by kernel_rfl) ?_
      repeat (first | go_big_quiet_skip | (go_big_quiet_want; go_big_quiet_op; first | go_big_quiet_on | (apply Exists.intro; refine ⟨fun _ => ?_, ?_⟩; (focus ((first | (go_at_call 12; (first | with_reducible exact Calls.steady (text_is (m : Int) (j : Int) _ _ hmI2 hjI (by omega) hT1.out))) | (go_at_call 12; (first | with_reducible exact Calls.steady (text_is ((m : Int) + j) ((k : Int) - j) _ _ hmjI hkjI (by omega) hT2.out))) | (go_at_call 12; (first | with_reducible exact Calls.steady (text_is (m : Int) (k : Int) _ _ hmI2 hkI (by omega) hT.out)))))); go_big_quiet_on)))
      refine wpQuiet_nil ?_
      rintro w9 ⟨⟨_, hb9⟩, rfl⟩
      haveI hx9 := ExtC.mk hb9
      try dsimp only
      go_wp2
      exact bodyPost_ret (v := (.bool true)) (by simp (maxDischargeDepth := 6) [results, Try.results4, go_sem, hcat]) rfl ⟨rfl, by (repeat' (first | (with_reducible exact Below.refl _ _) | (with_reducible refine Below.alloc ?_ ?_ _) | (with_reducible refine Below.setCell ?_ ?_ _) | (with_reducible refine Below.drew ?_) | (with_reducible refine below_step ?_ (by assumption) ?_) | (with_reducible exact leC) | go_size))⟩
end Go.Proofs.Ytbgcdoikcjjaeaa
