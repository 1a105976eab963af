/- Contracts of the law's helpers equal and wakes, and of the reference's Mask. No condition. -/
import Derived.Test.YtmfohpfecpgbpaaBits12
namespace Go.Proofs.Ytmfohpfecpgbpaa
open Go.RowKit
attribute [local go_sem] cellI frozenI cellOf_is frozenOf_is cellA frozenA setCellA
attribute [-go_sem] run_min_int2 run_max_int2

set_option maxHeartbeats 400000 in
theorem equal_any (a b : Value) (xs ys : List Nat) (w : World) (ha : RowIs w a xs.length (ucells xs)) (hb : RowIs w b ys.length (ucells ys)) :
    Calls Try.prog 18 #[a, b] w fun e w' => e = .returned (.bool (decide (xs = ys))) ∧ Below w.heap.size w w' := by
  obtain ⟨o1, cap1, rfl, h1, h2, ho1, hc1⟩ := ha
  obtain ⟨o2, cap2, rfl, h3, h4, ho2, hc2⟩ := hb
  by_cases hl : xs.length = ys.length
  · obtain ⟨D, hD⟩ : ∃ D, decide (xs = ys) = D := ⟨_, rfl⟩
    rw [hD]
    have hD0 : decide (xs.drop 0 = ys.drop 0) = D := hD
    replace hD0 := Lib.hid hD0
    have hne : ((xs.length : Int) != (ys.length : Int)) = false := by simp [hl]
    replace hl := Lib.hid hl
    clear hD
    go_enter Try.func18, Try.ntmps18
    go_wp2
    go_loopw [13] (fun i wr => ∃ k : Nat, k ≤ xs.length ∧ i = .int .i64 k ∧ Hid (decide (xs.drop k = ys.drop k) = D) ∧ Below w.heap.size w wr) (fun i _ => xs.length - (intOf i).toNat)
    case atStart => exact ⟨0, by omega, rfl, hD0, by (repeat' (first | (with_reducible exact Below.refl _ _) | (with_reducible refine Below.alloc ?_ ?_ _) | (with_reducible refine Below.setCell ?_ ?_ _) | (with_reducible refine Below.drew ?_) | (with_reducible refine below_step ?_ (by assumption) ?_) | (with_reducible exact leC) | go_size))⟩
    case round =>
      obtain ⟨k, hk, rfl, hDk, hbr⟩ := hrel
      have hsr := hbr.size
      by_cases hlt : k < xs.length
      · have hlt2 : k < ys.length := by rw [← hl.out]; exact hlt
        obtain ⟨g1, f1, rfl⟩ := RowIs.addr ho1 k hlt
        obtain ⟨g2, f2, rfl⟩ := RowIs.addr ho2 k hlt2
        have e1 := hc1 g1 f1 rfl _ _ (ucells_get xs k hlt)
        have e2 := hc2 g2 f2 rfl _ _ (ucells_get ys k hlt2)
        have d1 := (hbr.cell (Go.block_lt_of_cell e1)).trans e1
        have d2 := (hbr.cell (Go.block_lt_of_cell e2)).trans e2
        haveI l1 : LtC g1 wr.heap.size := ⟨Go.block_lt_of_cell d1⟩
        haveI l2 : LtC g2 wr.heap.size := ⟨Go.block_lt_of_cell d2⟩
        have hdr1 := List.drop_eq_getElem_cons hlt
        have hdr2 := List.drop_eq_getElem_cons hlt2
        have hDo := hDk.out
        rw [hdr1, hdr2] at hDo
        generalize xs[k] = x at *
        generalize ys[k] = y at *
        clear hc1 hc2 e1 e2 hdr1 hdr2 hDk hD0
        by_cases hxy : x = y
        · have hn : ((x : Int) != (y : Int)) = false := by simp [hxy]
          rw [hxy] at hDo
          simp only [List.cons.injEq, true_and] at hDo
          replace hxy := Lib.hid hxy
          replace hDo := Lib.hid hDo
          go_wp2
          refine steady_region (by kernel_rfl) (by kernel_rfl) ?_
          repeat (first | go_big_quiet_skip | (go_big_quiet_want; go_big_quiet_op; first | go_big_quiet_on | (apply Exists.intro; refine ⟨fun _ => ?_, ?_⟩; (focus ((fail))); go_big_quiet_on)))
          refine wpQuiet_nil ?_
          rintro w3 ⟨⟨_, hb3⟩, rfl⟩
          haveI hx3 := ExtC.mk hb3
          try dsimp only
          go_wp2
          go_roundw
          case rel => exact ⟨k + 1, by omega, by go_num, hDo, hbr.trans (hb3.mono hbr.size)⟩
          case measure => simp [intOf] <;> omega
        · have hn : ((x : Int) != (y : Int)) = true := by simp; omega
          simp only [List.cons.injEq, hxy, false_and, decide_false] at hDo
          subst hDo
          go_wp2
          refine steady_region (by kernel_rfl) (by kernel_rfl) ?_
          repeat (first | go_big_quiet_skip | (go_big_quiet_want; go_big_quiet_op; first | go_big_quiet_on | (apply Exists.intro; refine ⟨fun _ => ?_, ?_⟩; (focus ((fail))); go_big_quiet_on)))
          refine wpQuiet_nil ?_
          rintro w3 ⟨⟨_, hb3⟩, rfl⟩
          haveI hx3 := ExtC.mk hb3
          try dsimp only
          go_wp2
          exact bodyPost_ret (v := (.bool false)) (by simp (maxDischargeDepth := 6) [results, Try.results18, go_sem]) rfl ⟨rfl, by (repeat' (first | (with_reducible exact Below.refl _ _) | (with_reducible refine Below.alloc ?_ ?_ _) | (with_reducible refine Below.setCell ?_ ?_ _) | (with_reducible refine Below.drew ?_) | (with_reducible refine below_step ?_ (by assumption) ?_) | (with_reducible exact leC) | go_size))⟩
      · obtain rfl : k = xs.length := by omega
        have hDo := hDk.out
        have e : ys.drop xs.length = [] := by rw [hl.out, List.drop_length]
        rw [List.drop_length, e] at hDo
        simp only [decide_true] at hDo
        subst hDo
        clear hc1 hc2 e hD0
        go_wp2
        exact bodyPost_ret (v := (.bool true)) (by simp (maxDischargeDepth := 6) [results, Try.results18, go_sem]) rfl ⟨rfl, by (repeat' (first | (with_reducible exact Below.refl _ _) | (with_reducible refine Below.alloc ?_ ?_ _) | (with_reducible refine Below.setCell ?_ ?_ _) | (with_reducible refine Below.drew ?_) | (with_reducible refine below_step ?_ (by assumption) ?_) | (with_reducible exact leC) | go_size))⟩
  · have hD : decide (xs = ys) = false := decide_eq_false (fun h => hl (by rw [h]))
    rw [hD]
    have hne : ((xs.length : Int) != (ys.length : Int)) = true := by simp; omega
    go_enter Try.func18, Try.ntmps18
    go_wp2
    exact bodyPost_ret (v := (.bool false)) (by simp (maxDischargeDepth := 6) [results, Try.results18, go_sem]) rfl ⟨rfl, by (repeat' (first | (with_reducible exact Below.refl _ _) | (with_reducible refine Below.alloc ?_ ?_ _) | (with_reducible refine Below.setCell ?_ ?_ _) | (with_reducible refine Below.drew ?_) | (with_reducible refine below_step ?_ (by assumption) ?_) | (with_reducible exact leC) | go_size))⟩

theorem mask_step (k : Nat) : 2 ^ (k + 1) - 1 = (2 ^ k - 1) + (2 ^ k - 1) + 1 := by
  have : 0 < 2 ^ k := Nat.pow_pos (by omega)
  rw [Nat.pow_succ]; omega
theorem rmask_any (m : Nat) (w : World) (h : m ≤ 64) :
    Calls Try.prog 19 #[.int .i64 m] w fun e w' => e = .returned (.int .u64 ((2 ^ m - 1 : Nat) : Int)) ∧ Below w.heap.size w w' := by
  obtain ⟨V, hV⟩ : ∃ V, 2 ^ m - 1 = V := ⟨_, rfl⟩
  rw [hV]
  replace hV := Lib.hid hV
  go_enter Try.func19, Try.ntmps19
  go_wp2
  go_loop [3, 4] (fun n i => ∃ k N : Nat, k ≤ m ∧ Hid (2 ^ k - 1 = N) ∧ n = .int .u64 N ∧ i = .int .i64 k) (fun _ i => m - (intOf i).toNat)
  case atStart => exact ⟨0, 0, by omega, rfl, rfl, rfl⟩
  case round =>
    obtain ⟨k, N, hk, hN, rfl, rfl⟩ := hrel
    by_cases hlt : k < m
    · have hst := mask_step k
      rw [hN.out] at hst
      have hp := pow_64 (show k + 1 ≤ 64 by omega)
      have hNb : N + N + 1 < 18446744073709551616 := by omega
      have hk64 : decide ((k : Int) < 64) = true := decide_eq_true (by omega)
      have hkm : decide (k < m) = true := decide_eq_true hlt
      replace hst := Lib.hid hst
      clear hp
      go_wp2
      go_round
      case rel => exact ⟨k + 1, N + N + 1, by omega, hst.out, by go_num, by go_num⟩
      case measure => simp [intOf] <;> omega
    · obtain rfl : k = m := by omega
      obtain rfl : V = N := hV.out.symm.trans hN.out
      go_wp2
      exact bodyPost_ret (v := (.int .u64 V)) (by simp (maxDischargeDepth := 6) [results, Try.results19, go_sem]) rfl ⟨rfl, by (repeat' (first | (with_reducible exact Below.refl _ _) | (with_reducible refine Below.alloc ?_ ?_ _) | (with_reducible refine Below.setCell ?_ ?_ _) | (with_reducible refine Below.drew ?_) | (with_reducible refine below_step ?_ (by assumption) ?_) | (with_reducible exact leC) | go_size))⟩

theorem wakes_any (w : World) : Calls Try.prog 12 #[] w fun e w' => e = .returned (.bool true) ∧ Below w.heap.size w w' := by
  have hsp := fun (v : Value) (w : World) h => split_any 165 8 v [3, 5] w (by omega) h
  have hjo := fun (u v : Value) (w : World) hu h => join_any [5, 5] u 8 v [3, 5] w (by simp) hu h
  go_enter Try.func12, Try.ntmps12
  go_wp2_with (go_at_call 14; fail)
  refine ((hsp _ _ (ints_of_block (Go.heap_alloc_new _ _) (by simp [Lit.wf]; decide) (by simp)))).mono ?_
  rintro e w1 ⟨v1, rfl, hb1, hr⟩
  haveI hx1 := ExtC.mk hb1
  obtain ⟨r, ⟨h1, _⟩ | ⟨_, h1, _⟩ | ⟨_, _, rfl, hown⟩⟩ := hr
  · exact absurd h1 (by decide)
  · exact absurd h1 (by decide)
  have hbn : Below w.heap.size w w1 := by (repeat' (first | (with_reducible exact Below.refl _ _) | (with_reducible refine Below.alloc ?_ ?_ _) | (with_reducible refine Below.setCell ?_ ?_ _) | (with_reducible refine Below.drew ?_) | (with_reducible refine below_step ?_ (by assumption) ?_) | (with_reducible exact leC) | go_size))
  obtain ⟨o, cap, rfl, hl1, hl2, ho, hcell⟩ := RowIs.of_owns hown
  obtain ⟨g, f, rfl⟩ := RowIs.addr ho 0 (by decide)
  have hpl : partsL 165 (layL 8 [3, 5]) = [5, 5] := by decide +kernel
  rw [hpl] at hcell
  have c0 : w1.cell? ⟨g, f, none⟩ = some (.int .u64 5) := hcell g f rfl 0 (.int .u64 5) rfl
  have c1 : w1.cell? ⟨g, f + 1, none⟩ = some (.int .u64 5) := hcell g f rfl 1 (.int .u64 5) rfl
  clear hpl
  clear hcell hown ho
  clear hb1 hx1
  go_wp2_with (go_at_call 16; fail)
  refine ((hjo _ _ _ (RowIs.of_block (cs := ucells [5, 5]) (by decide) (Go.heap_alloc2_old _ _ _)) (ints_of_block (Go.heap_alloc2_new _ _ _) (by simp [Lit.wf]; decide) (by simp)))).mono ?_
  rintro e w2 ⟨rfl, hb2⟩
  haveI hx2 := ExtC.mk hb2
  have hjv : joinV [5, 5] 8 [3, 5] = (165, 0) := by decide +kernel
  rw [hjv]
  haveI lg : LtC g w1.heap.size := ⟨Go.block_lt_of_cell c0⟩
  have hs1 := hbn.size
  go_wp2
  exact bodyPost_ret (v := (.bool true)) (by simp (maxDischargeDepth := 6) [results, Try.results12, go_sem]) rfl ⟨rfl, by (repeat' (first | (with_reducible exact Below.refl _ _) | (with_reducible refine Below.alloc ?_ ?_ _) | (with_reducible refine Below.setCell ?_ ?_ _) | (with_reducible refine Below.drew ?_) | (with_reducible refine below_step ?_ (by assumption) ?_) | (with_reducible exact leC) | go_size))⟩
end Go.Proofs.Ytmfohpfecpgbpaa
