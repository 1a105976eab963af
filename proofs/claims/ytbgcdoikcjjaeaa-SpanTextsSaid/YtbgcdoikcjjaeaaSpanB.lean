/- The laws SpanTexts and SpanWithin walked: every call returns true and makes memory only. Conditions: the numbers are int's and uint64's; the string takes at most 2^47 - 4096 bytes. -/
import Derived.Test.YtbgcdoikcjjaeaaSpanA
import Derived.Test.YtbgcdoikcjjaeaaMem
namespace Go.Proofs.Ytbgcdoikcjjaeaa
open Go.RowKit
attribute [local go_sem] cellI frozenI cellOf_is frozenOf_is cellA frozenA setCellA

theorem from_is {x y z : Int} (a l n : Int) (w : World) (ha : I64 a) (hl : I64 l) (hn : I64 n) (h : fromR a l n = (x, y, z)) :
    Calls Try.prog 16 #[.agg #[.int .i64 a, .int .i64 l], .int .i64 n] w fun e w' => e = .returned (.tuple #[.agg #[.int .i64 x, .int .i64 y], .int .i64 z]) ∧ Below w.heap.size w w' := by
  have := from_any a l n w ha hl hn
  rw [h] at this; exact this
theorem take_is {x y u v z : Int} (a l n : Int) (w : World) (ha : I64 a) (hl : I64 l) (hn0 : 0 ≤ n) (hn1 : n ≤ 18446744073709551615) (h : takeR a l n = (x, y, u, v, z)) :
    Calls Try.prog 17 #[.agg #[.int .i64 a, .int .i64 l], .int .u64 n] w fun e w' => e = .returned (.tuple #[.agg #[.int .i64 x, .int .i64 y], .agg #[.int .i64 u, .int .i64 v], .int .i64 z]) ∧ Below w.heap.size w w' := by
  have := take_any a l n w ha hl hn0 hn1
  rw [h] at this; exact this
theorem bet_is {x y z : Int} (a l b m : Int) (w : World) (ha : I64 a) (hl : I64 l) (hb : I64 b) (hm : I64 m) (h : betR a l b m = (x, y, z)) :
    Calls Try.prog 20 #[.agg #[.int .i64 a, .int .i64 l], .agg #[.int .i64 b, .int .i64 m]] w fun e w' => e = .returned (.tuple #[.agg #[.int .i64 x, .int .i64 y], .int .i64 z]) ∧ Below w.heap.size w w' := by
  have := between_any a l b m w ha hl hb hm
  rw [h] at this; exact this
theorem text_is {v : ByteArray} (a l : Int) (s : ByteArray) (w : World) (ha : I64 a) (hl : I64 l) (hs : s.size ≤ 4611686018427387904) (h : textV a l s = v) :
    Calls Try.prog 12 #[.agg #[.int .i64 a, .int .i64 l], .string s] w fun e w' => e = .returned (.string v) ∧ Below w.heap.size w w' := by
  subst h; exact text_any a l s w ha hl hs
theorem has_is {v : Bool} (a l b m : Int) (w : World) (ha : I64 a) (hl : I64 l) (hb : I64 b) (hm : I64 m) (h : hasB a l b m = v) :
    Calls Try.prog 22 #[.agg #[.int .i64 a, .int .i64 l], .agg #[.int .i64 b, .int .i64 m]] w fun e w' => e = .returned (.bool v) ∧ Below w.heap.size w w' := by
  subst h; exact has_any a l b m w ha hl hb hm

theorem I64_of {x : Int} (h0 : 0 ≤ x) (h1 : x ≤ 4611686018427387904) : I64 x := ⟨by omega, by omega⟩


theorem and31 (n : Int) : ∃ q : Int, bits .and .u64 n 31 = q ∧ 0 ≤ q ∧ q ≤ 31 := by
  refine ⟨_, rfl, ?_⟩
  show 0 ≤ IntKind.u64.wrap ((BitVec.ofInt 64 n &&& BitVec.ofInt 64 31).toNat : Int) ∧ _ ≤ _
  have h : (BitVec.ofInt 64 n &&& BitVec.ofInt 64 31).toNat ≤ 31 := by
    rw [BitVec.toNat_and]
    exact Nat.le_trans Nat.and_le_right (by decide)
  rw [IntKind.wrap_u64]
  show 0 ≤ _ ∧ IntKind.u64.wrap ((BitVec.ofInt 64 n &&& BitVec.ofInt 64 31).toNat : Int) ≤ _
  rw [IntKind.wrap_u64]
  omega

set_option maxHeartbeats 2000000 in
set_option maxRecDepth 100000 in
theorem SpanWithin_any (x0 x1 x2 x3 n : Int) (w : World) (h0 : I64 x0) (h1 : I64 x1) (h2 : I64 x2) (h3 : I64 x3) :
    Calls Try.prog 6 #[.agg #[.int .i64 x0, .int .i64 x1, .int .i64 x2, .int .i64 x3], .int .u64 n] w fun e w' => e = .returned (.bool true) ∧ Below w.heap.size w w' := by
  obtain ⟨q, hq, hq0, hq1⟩ := and31 n
  go_enter Try.func6, Try.ntmps6
  go_wp2_with fail
  refine (some_any x0 x1 x2 x3 _).mono ?_
  rintro e w1 ⟨g, rfl, hg1, hg2, hb1, hg⟩
  haveI hx1 := ExtC.mk hb1
  go_wp2
  go_loopw [19] (fun i wr => ∃ k : Nat, k ≤ 2 ∧ i = .int .i64 k ∧ Below w1.heap.size w1 wr) (fun i _ => 2 - (intOf i).toNat)
  case atStart => exact ⟨0, by omega, rfl, Below.refl _ _⟩
  case round =>
    obtain ⟨k, hk, rfl, hb2⟩ := hrel
    haveI hx2 := ExtC.mk hb2
    have hcell : ∀ j, wr.cell? ⟨g, j, none⟩ = w1.cell? ⟨g, j, none⟩ := fun j => hb2.cell (p := ⟨g, j, none⟩) hg2
    have hcell2 : ∀ j, w1.cell? ⟨g, j, none⟩ = #[Value.int .i64 x0, .int .i64 x1, .int .i64 x2, .int .i64 x3, .int .i64 (low4 x0), .int .i64 (low4 x1), .int .i64 (low4 x2), .int .i64 (low4 x3)][j]? := fun j => cell_of_row w1 g j _ _ _ hg
    by_cases hk2 : k = 2
    · subst hk2
      go_wp2_with fail
      refine (wakes_any _).mono ?_
      rintro e w3 ⟨rfl, hb3⟩
      haveI hx3 := ExtC.mk hb3
      go_wp2
      go_ret
      exact ⟨rfl, by (repeat' (first | (with_reducible exact Below.refl _ _) | (with_reducible refine Below.alloc ?_ ?_ _) | (with_reducible refine Below.setCell ?_ ?_ _) | (with_reducible refine Below.drew ?_) | (with_reducible refine below_step ?_ (by assumption) ?_) | (with_reducible exact leC) | go_size))⟩
    · obtain ⟨y0, y1, y2, y3, hy0, hy1, hy2, hy3, hc0, hc1, hc2, hc3⟩ : ∃ y0 y1 y2 y3 : Int, I64 y0 ∧ I64 y1 ∧ I64 y2 ∧ I64 y3 ∧ wr.cell? ⟨g, k * 4, none⟩ = some (.int .i64 y0) ∧ wr.cell? ⟨g, k * 4 + 1, none⟩ = some (.int .i64 y1) ∧ wr.cell? ⟨g, k * 4 + 2, none⟩ = some (.int .i64 y2) ∧ wr.cell? ⟨g, k * 4 + 3, none⟩ = some (.int .i64 y3) := by
        rcases (by omega : k = 0 ∨ k = 1) with rfl | rfl
        · exact ⟨x0, x1, x2, x3, h0, h1, h2, h3, by rw [hcell, hcell2]; rfl, by rw [hcell, hcell2]; rfl, by rw [hcell, hcell2]; rfl, by rw [hcell, hcell2]; rfl⟩
        · exact ⟨low4 x0, low4 x1, low4 x2, low4 x3, low4_in _, low4_in _, low4_in _, low4_in _, by rw [hcell, hcell2]; rfl, by rw [hcell, hcell2]; rfl, by rw [hcell, hcell2]; rfl, by rw [hcell, hcell2]; rfl⟩
      clear hcell hcell2
      have hlt : k < 2 := by omega
      go_wp2
      refine region_mem_ex 112 (by kernel_rfl) rfl (by kernel_rfl) ?_
      apply Exists.intro
      apply Exists.intro
      refine ⟨?hls, ?hH, ?hok, ?hQ⟩
      case hls =>
        simp only [List.map_cons, List.map_nil, strip, memB, if_true, if_false, Bool.false_eq_true]
        rfl
      case hH =>
        intro W' hW'
        haveI hxW := ExtC.mk hW'
        repeat (first | go_big_quiet_skip | (go_big_quiet_want; go_big_quiet_op; first | go_big_quiet_on | (apply Exists.intro; refine ⟨fun _ => ?_, ?_⟩; (focus (fail)); go_big_quiet_on)))
        exact wpQuiet_nil rfl
      case hok =>
        simp only [storesOK, true_and, and_true]
        repeat' apply And.intro
        all_goals kernel_rfl
      case hQ =>
        intro ptr w3 hb3 hge hst hnp
        have hA10 := hge 10 _ _ rfl rfl
        have hS10 := hst 10 12 _ _ _ _ _ _ rfl rfl rfl rfl rfl
        have hA11 := hge 11 _ _ rfl rfl
        have hS11 := hst 11 13 _ _ _ _ _ _ rfl rfl rfl rfl rfl
        have hN1011 := hnp 10 11 _ _ _ _ (by decide) rfl rfl rfl rfl
        clear hge hst hnp
        simp only [putPtrs, Act.put, List.setIfInBounds_toArray, List.set_cons_zero, List.set_cons_succ, Nat.zero_add, Nat.reduceAdd]
        haveI hx3 := ExtC.mk hb3
        generalize ptr 10 = g3_10 at *
        haveI hl3_10 : LtC g3_10 w3.heap.size := ⟨hA10.2⟩
        have hc3_10 := fun o => cell_of_row w3 g3_10 o _ _ _ hS10
        have hf3_10 := fun o => frozen_of_row w3 g3_10 o _ _ hS10
        simp [go_sem, Value.cells] at hc3_10
        clear hS10
        generalize ptr 11 = g3_11 at *
        haveI hl3_11 : LtC g3_11 w3.heap.size := ⟨hA11.2⟩
        have hc3_11 := fun o => cell_of_row w3 g3_11 o _ _ _ hS11
        have hf3_11 := fun o => frozen_of_row w3 g3_11 o _ _ hS11
        simp [go_sem, Value.cells] at hc3_11
        clear hS11

        have H0 := Lib.hid hc3_10
        cases hs : soundB y0 y1
        · have hs' := Lib.hid hs
          clear hs
          go_wp2_with fail
          refine (take_is _ _ _ _ hy0 hy1 hq0 (by omega) (takeR_no hs'.out)).mono ?_
          rintro e w4 ⟨rfl, hb4⟩
          haveI hx4 := ExtC.mk hb4
          go_wp2
          go_roundw
          case rel => exact ⟨k + 1, by omega, by go_num, by (repeat' (first | (with_reducible exact Below.refl _ _) | (with_reducible refine Below.alloc ?_ ?_ _) | (with_reducible refine Below.setCell ?_ ?_ _) | (with_reducible refine Below.drew ?_) | (with_reducible refine below_step ?_ (by assumption) ?_) | (with_reducible exact leC) | go_size))⟩
          case measure => simp [intOf]; omega
        · obtain ⟨z1, z2, z3⟩ := (soundB_iff y0 y1).1 hs
          by_cases hlq : y1 < q
          · have ht := Lib.hid (takeR_far hs hlq)
            clear hs
            go_wp2_with fail
            refine (take_is _ _ _ _ hy0 hy1 hq0 (by omega) ht.out).mono ?_
            rintro e w4 ⟨rfl, hb4⟩
            haveI hx4 := ExtC.mk hb4
            go_wp2
            go_roundw
            case rel => exact ⟨k + 1, by omega, by go_num, by (repeat' (first | (with_reducible exact Below.refl _ _) | (with_reducible refine Below.alloc ?_ ?_ _) | (with_reducible refine Below.setCell ?_ ?_ _) | (with_reducible refine Below.drew ?_) | (with_reducible refine below_step ?_ (by assumption) ?_) | (with_reducible exact leC) | go_size))⟩
            case measure => simp [intOf]; omega
          · have hlq' : q ≤ y1 := by omega
            have ht := Lib.hid (takeR_ok hs hlq')
            have s1 : soundB y0 q = true := (soundB_iff _ _).2 ⟨by omega, by omega, by omega⟩
            have s2 : soundB (y0 + q) (y1 - q) = true := (soundB_iff _ _).2 ⟨by omega, by omega, by omega⟩
            have hbt := Lib.hid (show betR y0 q (y0 + q) (y1 - q) = (y0, y1, 0) by
              simp only [betR, s1, s2, Bool.and_self, if_true]
              rw [if_neg (by omega)]
              simp only [Prod.mk.injEq, and_true, true_and]; omega)
            have hh1 := Lib.hid (show hasB y0 y1 y0 q = true by simp only [hasB, hs, s1, Bool.and_self, Bool.true_and, Bool.and_eq_true, decide_eq_true_eq]; omega)
            have hh2 := Lib.hid (show hasB y0 y1 (y0 + q) (y1 - q) = true by simp only [hasB, hs, s2, Bool.and_self, Bool.true_and, Bool.and_eq_true, decide_eq_true_eq]; omega)
            have hE := Lib.hid (endI_yes hs)
            have hgd1 := Lib.hid ((goodB_iff y0 q (y0 + y1)).2 ⟨by omega, by omega, by omega, by omega⟩)
            have hgd2 := Lib.hid ((goodB_iff (y0 + q) (y1 - q) (y0 + y1)).2 ⟨by omega, by omega, by omega, by omega⟩)
            have hfr := Lib.hid (show fromR y0 y1 (y0 + q) = (y0 + q, y1 - q, 0) by
              simp only [fromR, hs, if_true]
              rw [if_neg (by omega)]
              simp only [Prod.mk.injEq, and_true, true_and]; omega)
            have hsub : hasB y0 q y2 y3 = true ∨ hasB (y0 + q) (y1 - q) y2 y3 = true → hasB y0 y1 y2 y3 = true := by
              simp only [hasB, hs, s1, s2, Bool.true_and, Bool.and_eq_true, decide_eq_true_eq]
              intro h
              rcases h with ⟨⟨h1, h2⟩, h3⟩ | ⟨⟨h1, h2⟩, h3⟩ <;> exact ⟨⟨h1, by omega⟩, by omega⟩
            have iq : I64 q := I64_of (by omega) (by omega)
            have i1 : I64 (y0 + q) := I64_of (by omega) (by omega)
            have i2 : I64 (y1 - q) := I64_of (by omega) (by omega)
            have i3 : I64 (y0 + y1) := I64_of (by omega) (by omega)
            clear hs s1 s2
            go_wp2_with fail
            refine (take_is _ _ _ _ hy0 hy1 hq0 (by omega) ht.out).mono ?_
            rintro e w4 ⟨rfl, hb4⟩
            haveI hx4 := ExtC.mk hb4
            go_wp2_with fail
            refine (bet_is _ _ _ _ _ hy0 iq i1 i2 hbt.out).mono ?_
            rintro e w5 ⟨rfl, hb5⟩
            haveI hx5 := ExtC.mk hb5
            have H0 := Lib.hid hsub
            clear hsub
            go_wp2
            refine steady_region (by kernel_rfl) (by kernel_rfl) ?_
            repeat (first | go_big_quiet_skip | (go_big_quiet_want; go_big_quiet_op; first | go_big_quiet_on | (apply Exists.intro; refine ⟨fun _ => ?_, ?_⟩; (focus ((first | (go_at_call 22; first | with_reducible exact Calls.steady (has_is _ _ _ _ _ hy0 hy1 hy0 iq hh1.out) | with_reducible exact Calls.steady (has_is _ _ _ _ _ hy0 hy1 i1 i2 hh2.out)) | (go_at_call 10; with_reducible exact Calls.steady (endIs _ _ _ hy0 hy1 hE.out)) | (go_at_call 8; first | with_reducible exact Calls.steady (good_is _ _ _ _ hy0 iq i3 hgd1.out) | with_reducible exact Calls.steady (good_is _ _ _ _ i1 i2 i3 hgd2.out))))); go_big_quiet_on)))
            refine wpQuiet_nil ?_
            rintro w6 ⟨⟨_, hb6⟩, rfl⟩
            haveI hx6 := ExtC.mk hb6
            try dsimp only
            have hsub' : hasB y0 q y2 y3 = true ∨ hasB (y0 + q) (y1 - q) y2 y3 = true → hasB y0 y1 y2 y3 = true := H0.out
            clear H0
            cases hA : hasB y0 q y2 y3 <;> cases hB : hasB (y0 + q) (y1 - q) y2 y3 <;> cases hC : hasB y0 y1 y2 y3
            all_goals try (exfalso; rw [hA, hB, hC] at hsub'; simp at hsub'; done)
            all_goals
              clear hsub'
              have KA := Lib.hid hA
              have KB := Lib.hid hB
              have KC := Lib.hid hC
              clear hA hB hC
              go_wp2_with (go_at_call 22; (first | (with_reducible refine (has_is _ _ _ _ _ hy0 iq hy2 hy3 KA.out).mono ?_) | (with_reducible refine (has_is _ _ _ _ _ i1 i2 hy2 hy3 KB.out).mono ?_) | (with_reducible refine (has_is _ _ _ _ _ hy0 hy1 hy2 hy3 KC.out).mono ?_)); rintro e w9 ⟨rfl, hb9⟩; haveI hx9 := ExtC.mk hb9)
              refine (from_is _ _ _ _ hy0 hy1 i1 hfr.out).mono ?_
              rintro e w10 ⟨rfl, hb10⟩
              haveI hx10 := ExtC.mk hb10
              go_wp2
              go_roundw
              case rel => exact ⟨k + 1, by omega, by go_num, by (repeat' (first | (with_reducible exact Below.refl _ _) | (with_reducible refine Below.alloc ?_ ?_ _) | (with_reducible refine Below.setCell ?_ ?_ _) | (with_reducible refine Below.drew ?_) | (with_reducible refine below_step ?_ (by assumption) ?_) | (with_reducible exact leC) | go_size))⟩
              case measure => simp [intOf]; omega
end Go.Proofs.Ytbgcdoikcjjaeaa
