/- The law SpanParts walked: every call returns true and makes memory only. Conditions: the numbers are int's and uint64's. -/
import Derived.Test.YtbgcdoikcjjaeaaSpanB
namespace Go.Proofs.Ytbgcdoikcjjaeaa
open Go.RowKit
attribute [local go_sem] cellI frozenI cellOf_is frozenOf_is cellA frozenA setCellA

theorem rtake_is {x y u v z : Int} (a l n : Int) (w : World) (ha : I64 a) (hl : I64 l) (hn0 : 0 ≤ n) (hn1 : n ≤ 18446744073709551615) (h : takeR a l n = (x, y, u, v, z)) :
    Calls Try.prog 18 #[.int .i64 a, .int .i64 l, .int .u64 n] w fun e w' => e = .returned (.tuple #[.agg #[.int .i64 x, .int .i64 y, .int .i64 u, .int .i64 v], .int .i64 z]) ∧ Below w.heap.size w w' := by
  have := rtake_any a l n w ha hl hn0 hn1
  rw [h] at this; exact this
theorem rfrom_is {x y z : Int} (a l n : Int) (w : World) (ha : I64 a) (hl : I64 l) (hn : I64 n) (h : fromR a l n = (x, y, z)) :
    Calls Try.prog 19 #[.int .i64 a, .int .i64 l, .int .i64 n] w fun e w' => e = .returned (.tuple #[.agg #[.int .i64 x, .int .i64 y], .int .i64 z]) ∧ Below w.heap.size w w' := by
  have := rfrom_any a l n w ha hl hn
  rw [h] at this; exact this
theorem rbet_is {x y z : Int} (a l b m : Int) (w : World) (ha : I64 a) (hl : I64 l) (hb : I64 b) (hm : I64 m) (h : betR a l b m = (x, y, z)) :
    Calls Try.prog 21 #[.agg #[.int .i64 a, .int .i64 l, .int .i64 b, .int .i64 m]] w fun e w' => e = .returned (.tuple #[.agg #[.int .i64 x, .int .i64 y], .int .i64 z]) ∧ Below w.heap.size w w' := by
  have := rbetween_any a l b m w ha hl hb hm
  rw [h] at this; exact this
theorem rhas_is {v : Bool} (a l b m : Int) (w : World) (ha : I64 a) (hl : I64 l) (hb : I64 b) (hm : I64 m) (h : hasB a l b m = v) :
    Calls Try.prog 23 #[.int .i64 a, .int .i64 l, .int .i64 b, .int .i64 m] w fun e w' => e = .returned (.bool v) ∧ Below w.heap.size w w' := by
  subst h; exact rhas_any a l b m w ha hl hb hm

theorem and15 (n : Int) : ∃ q : Int, bits .and .u64 n 15 = q ∧ 0 ≤ q ∧ q ≤ 15 := by
  refine ⟨_, rfl, ?_⟩
  have h : (BitVec.ofInt 64 n &&& BitVec.ofInt 64 15).toNat ≤ 15 := by
    rw [BitVec.toNat_and]
    exact Nat.le_trans Nat.and_le_right (by decide)
  show 0 ≤ IntKind.u64.wrap ((BitVec.ofInt 64 n &&& BitVec.ofInt 64 15).toNat : Int) ∧ IntKind.u64.wrap ((BitVec.ofInt 64 n &&& BitVec.ofInt 64 15).toNat : Int) ≤ _
  rw [IntKind.wrap_u64]
  omega

set_option maxHeartbeats 4000000 in
set_option maxRecDepth 100000 in
theorem SpanParts_any (x0 x1 x2 x3 n : Int) (w : World) (h0 : I64 x0) (h1 : I64 x1) (h2 : I64 x2) (h3 : I64 x3) (hn0 : 0 ≤ n) (hn1 : n ≤ 18446744073709551615) :
    Calls Try.prog 5 #[.agg #[.int .i64 x0, .int .i64 x1, .int .i64 x2, .int .i64 x3], .int .u64 n] w fun e w' => e = .returned (.bool true) ∧ Below w.heap.size w w' := by
  obtain ⟨q, hq, hq0, hq1⟩ := and15 n
  go_enter Try.func5, Try.ntmps5
  go_wp2_with fail
  refine (some_any x0 x1 x2 x3 _).mono ?_
  rintro e w1 ⟨g, rfl, hg1, hg2, hb1, hg⟩
  haveI hx1 := ExtC.mk hb1
  go_wp2
  go_loopw [27] (fun i wr => ∃ k : Nat, k ≤ 2 ∧ i = .int .i64 k ∧ Below w1.heap.size w1 wr) (fun i _ => 2 - (intOf i).toNat)
  case atStart => exact ⟨0, by omega, rfl, Below.refl _ _⟩
  case round =>
    obtain ⟨k, hk, rfl, hb2⟩ := hrel
    obtain ⟨wo, hwo⟩ : ∃ wo : World, wo = wr := ⟨_, rfl⟩
    subst hwo
    haveI hx2 := ExtC.mk hb2
    have hcell : ∀ j, wo.cell? ⟨g, j, none⟩ = w1.cell? ⟨g, j, none⟩ := fun j => hb2.cell (p := ⟨g, j, none⟩) hg2
    have hcell2 : ∀ j, w1.cell? ⟨g, j, none⟩ = #[Value.int .i64 x0, .int .i64 x1, .int .i64 x2, .int .i64 x3, .int .i64 (low4 x0), .int .i64 (low4 x1), .int .i64 (low4 x2), .int .i64 (low4 x3)][j]? := fun j => cell_of_row w1 g j _ _ _ hg
    by_cases hk2 : k = 2
    · subst hk2
      go_wp2_with fail
      refine (wakes_any _).mono ?_
      rintro e w3 ⟨rfl, hb3⟩
      haveI hx3 := ExtC.mk hb3
      go_wp2
      go_ret
      exact ⟨rfl, by (repeat' (first | (with_reducible exact Below.refl _ _) | (with_reducible refine Below.alloc ?_ ?_ _) | (with_reducible refine Below.setCell ?_ ?_ _) | (with_reducible refine Below.drew ?_) | (with_reducible refine below_step ?_ (by assumption) ?_) | (with_reducible exact leC) | go_size))⟩
    · obtain ⟨y0, y1, y2, y3, hy0, hy1, hy2, hy3, hc0, hc1, hc2, hc3⟩ : ∃ y0 y1 y2 y3 : Int, I64 y0 ∧ I64 y1 ∧ I64 y2 ∧ I64 y3 ∧ wo.cell? ⟨g, k * 4, none⟩ = some (.int .i64 y0) ∧ wo.cell? ⟨g, k * 4 + 1, none⟩ = some (.int .i64 y1) ∧ wo.cell? ⟨g, k * 4 + 2, none⟩ = some (.int .i64 y2) ∧ wo.cell? ⟨g, k * 4 + 3, none⟩ = some (.int .i64 y3) := by
        rcases (by omega : k = 0 ∨ k = 1) with rfl | rfl
        · exact ⟨x0, x1, x2, x3, h0, h1, h2, h3, by rw [hcell, hcell2]; rfl, by rw [hcell, hcell2]; rfl, by rw [hcell, hcell2]; rfl, by rw [hcell, hcell2]; rfl⟩
        · exact ⟨low4 x0, low4 x1, low4 x2, low4 x3, low4_in _, low4_in _, low4_in _, low4_in _, by rw [hcell, hcell2]; rfl, by rw [hcell, hcell2]; rfl, by rw [hcell, hcell2]; rfl, by rw [hcell, hcell2]; rfl⟩
      clear hcell hcell2
      have hlt : k < 2 := by omega
      have hdk : decide ((k : Int) < 2) = true := by simp; omega
      obtain ⟨p1, p2, p3, hp⟩ : ∃ p1 p2 p3, fromR y0 y1 y2 = (p1, p2, p3) := ⟨_, _, _, rfl⟩
      obtain ⟨b1, b2, b3, hbt⟩ : ∃ b1 b2 b3, betR y0 y1 y2 y3 = (b1, b2, b3) := ⟨_, _, _, rfl⟩
      obtain ⟨hv, hh⟩ : ∃ hv, hasB y0 y1 y2 y3 = hv := ⟨_, rfl⟩
      have Hp := Lib.hid hp
      have Hbt := Lib.hid hbt
      have Hh := Lib.hid hh
      clear hp hbt hh
      go_wp2
      refine region_mem_ex 159 (by kernel_rfl) rfl (by kernel_rfl) ?_
      apply Exists.intro
      apply Exists.intro
      refine ⟨?hls, ?hH, ?hok, ?hQ⟩
      case hls =>
        simp only [List.map_cons, List.map_nil, strip, memB, if_true, if_false, Bool.false_eq_true]
        rfl
      case hH =>
        intro W' hW'
        haveI hxW := ExtC.mk hW'
        repeat (first | go_big_quiet_skip | (go_big_quiet_want; go_big_quiet_op; first | go_big_quiet_on | (apply Exists.intro; refine ⟨fun _ => ?_, ?_⟩; (focus (fail)); go_big_quiet_on)))
        exact wpQuiet_nil rfl
      case hok =>
        simp only [storesOK, true_and, and_true]
        repeat' apply And.intro
        all_goals kernel_rfl
      case hQ =>
        intro ptr w3 hb3 hge hst hnp
        have hA10 := hge 10 _ _ rfl rfl
        have hS10 := hst 10 12 _ _ _ _ _ _ rfl rfl rfl rfl rfl
        have hA11 := hge 11 _ _ rfl rfl
        have hS11 := hst 11 13 _ _ _ _ _ _ rfl rfl rfl rfl rfl
        have hN1011 := hnp 10 11 _ _ _ _ (by decide) rfl rfl rfl rfl
        clear hge hst hnp
        simp only [putPtrs, Act.put, List.setIfInBounds_toArray, List.set_cons_zero, List.set_cons_succ, Nat.zero_add, Nat.reduceAdd]
        haveI hx3 := ExtC.mk hb3
        generalize ptr 10 = g3_10 at *
        haveI hl3_10 : LtC g3_10 w3.heap.size := ⟨hA10.2⟩
        have hc3_10 := fun o => cell_of_row w3 g3_10 o _ _ _ hS10
        have hf3_10 := fun o => frozen_of_row w3 g3_10 o _ _ hS10
        simp [go_sem, Value.cells] at hc3_10
        clear hS10
        generalize ptr 11 = g3_11 at *
        haveI hl3_11 : LtC g3_11 w3.heap.size := ⟨hA11.2⟩
        have hc3_11 := fun o => cell_of_row w3 g3_11 o _ _ _ hS11
        have hf3_11 := fun o => frozen_of_row w3 g3_11 o _ _ hS11
        simp [go_sem, Value.cells] at hc3_11
        clear hS11

        go_wp2
        go_loopw [46] (fun i wr => ∃ j : Nat, j ≤ 2 ∧ i = .int .i64 j ∧ Below (w3.heap.size + 1) (w3.alloc (.cells #[.int .u64 n, .int .u64 q] 37)) wr) (fun i _ => 2 - (intOf i).toNat)
        case atStart => exact ⟨0, by omega, rfl, Below.refl _ _⟩
        case round =>
          obtain ⟨j, hj, rfl, hb4⟩ := hrel
          have hb4' : Below (w3.alloc (.cells #[.int .u64 n, .int .u64 q] 37)).heap.size (w3.alloc (.cells #[.int .u64 n, .int .u64 q] 37)) wr := by rw [World.size_alloc]; exact hb4
          haveI hx4 := ExtC.mk hb4'
          by_cases hj2 : j = 2
          · subst hj2
            go_wp2_with fail
            refine (from_is _ _ _ _ hy0 hy1 hy2 Hp.out).mono ?_
            rintro e w5 ⟨rfl, hb5⟩
            haveI hx5 := ExtC.mk hb5
            go_wp2_with fail
            refine (rfrom_is _ _ _ _ hy0 hy1 hy2 Hp.out).mono ?_
            rintro e w6 ⟨rfl, hb6⟩
            haveI hx6 := ExtC.mk hb6
            go_wp2_with fail
            refine (bet_is _ _ _ _ _ hy0 hy1 hy2 hy3 Hbt.out).mono ?_
            rintro e w7 ⟨rfl, hb7⟩
            haveI hx7 := ExtC.mk hb7
            go_wp2_with fail
            refine (rbet_is _ _ _ _ _ hy0 hy1 hy2 hy3 Hbt.out).mono ?_
            rintro e w8 ⟨rfl, hb8⟩
            haveI hx8 := ExtC.mk hb8
            go_wp2
            refine steady_region (by kernel_rfl) (by kernel_rfl) ?_
            repeat (first | go_big_quiet_skip | (go_big_quiet_want; go_big_quiet_op; first | go_big_quiet_on | (apply Exists.intro; refine ⟨fun _ => ?_, ?_⟩; (focus ((first | (go_at_call 22; (first | with_reducible exact Calls.steady (has_is _ _ _ _ _ hy0 hy1 hy2 hy3 Hh.out))) | (go_at_call 23; (first | with_reducible exact Calls.steady (rhas_is _ _ _ _ _ hy0 hy1 hy2 hy3 Hh.out)))))); go_big_quiet_on)))
            refine wpQuiet_nil ?_
            rintro w9 ⟨⟨_, hb9⟩, rfl⟩
            haveI hx9 := ExtC.mk hb9
            try dsimp only
            go_wp2
            go_roundw
            case rel => exact ⟨k + 1, by omega, by go_num, by (repeat' (first | (with_reducible exact Below.refl _ _) | (with_reducible refine Below.alloc ?_ ?_ _) | (with_reducible refine Below.setCell ?_ ?_ _) | (with_reducible refine Below.drew ?_) | (with_reducible refine below_step ?_ (by assumption) ?_) | (with_reducible exact leC) | go_size))⟩
            case measure => simp [intOf]; omega
          · obtain ⟨m, hm, hm0, hm1⟩ : ∃ m : Int, wr.cell? ⟨w3.heap.size, j, none⟩ = some (.int .u64 m) ∧ 0 ≤ m ∧ m ≤ 18446744073709551615 := by
              have hcl : ∀ o, wr.cell? ⟨w3.heap.size, o, none⟩ = #[Value.int .u64 n, .int .u64 q][o]? := fun o => by
                rw [hb4'.cell (p := ⟨w3.heap.size, o, none⟩) (by simp)]
                exact World.cell?_alloc_at _ _ _ _ rfl
              rcases (by omega : j = 0 ∨ j = 1) with rfl | rfl
              · exact ⟨n, hcl 0, hn0, hn1⟩
              · exact ⟨q, hcl 1, hq0, by omega⟩
            have hjlt : j < 2 := by omega
            obtain ⟨t1, t2, t3, t4, t5, ht⟩ : ∃ t1 t2 t3 t4 t5, takeR y0 y1 m = (t1, t2, t3, t4, t5) := ⟨_, _, _, _, _, rfl⟩
            have Ht := Lib.hid ht
            clear ht
            go_wp2_with fail
            refine (take_is _ _ _ _ hy0 hy1 hm0 hm1 Ht.out).mono ?_
            rintro e w5 ⟨rfl, hb5⟩
            haveI hx5 := ExtC.mk hb5
            go_wp2_with fail
            refine (rtake_is _ _ _ _ hy0 hy1 hm0 hm1 Ht.out).mono ?_
            rintro e w6 ⟨rfl, hb6⟩
            haveI hx6 := ExtC.mk hb6
            go_wp2
            go_roundw
            case rel =>
              exact ⟨j + 1, by omega, by go_num, hb4.trans (Below.mono (B := wr.heap.size) (by (repeat' (first | (with_reducible exact Below.refl _ _) | (with_reducible refine Below.alloc ?_ ?_ _) | (with_reducible refine Below.setCell ?_ ?_ _) | (with_reducible refine Below.drew ?_) | (with_reducible refine below_step ?_ (by assumption) ?_) | (with_reducible exact leC) | go_size))) (by have := hb4'.size; rw [World.size_alloc] at this; exact this))⟩
            case measure => simp [intOf]; omega
end Go.Proofs.Ytbgcdoikcjjaeaa
