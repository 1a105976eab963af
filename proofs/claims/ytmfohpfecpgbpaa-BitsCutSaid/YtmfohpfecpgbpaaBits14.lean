/- The law BitsLay walked. No condition. -/
import Derived.Test.YtmfohpfecpgbpaaBits13
namespace Go.Proofs.Ytmfohpfecpgbpaa
open Go.RowKit
attribute [local go_sem] cellI frozenI cellOf_is frozenOf_is cellA frozenA setCellA
attribute [-go_sem] run_min_int2 run_max_int2

theorem ints_take {k : IntKind} {w : World} {o : Option Addr} {cap m : Nat} {xs : List Int} (h : IntsArg k w (.slice o xs.length cap) xs) (hm : m ≤ xs.length) : IntsArg k w (.slice o m cap) (xs.take m) := by
  rcases h with ⟨h1, rfl⟩ | ⟨a, cap', h1, h2, h3, hc, hwf⟩
  · simp only [Value.slice.injEq] at h1
    obtain ⟨rfl, _, rfl⟩ := h1
    obtain rfl : m = 0 := by simpa using hm
    exact Or.inl ⟨rfl, rfl⟩
  · simp only [Value.slice.injEq] at h1
    obtain ⟨rfl, _, rfl⟩ := h1
    have hl : (xs.take m).length = m := by rw [List.length_take]; omega
    refine Or.inr ⟨a, cap, by rw [hl], by omega, h3, fun i hi => ?_, fun n hn => hwf n (List.mem_of_mem_take hn)⟩
    rw [hc i (by omega)]
    rw [hl] at hi
    simp [List.getD, List.getElem?_take, hi]
set_option maxHeartbeats 1600000 in
theorem bitsLay_any (total : Int) (v : Value) (xs : List Int) (n : Nat) (w : World) (ht : -9223372036854775808 ≤ total ∧ total ≤ 9223372036854775807) (hn : n < 18446744073709551616) (h : IntsArg .i64 w v xs) :
    Calls Try.prog 3 #[.int .i64 total, v, .int .u64 n] w fun e w' => e = .returned (.bool true) ∧ Below w.heap.size w w' := by
  obtain ⟨o, cap, rfl, hl1, hl2, _, _⟩ := RowIs.of_ints h
  obtain ⟨m, hm, hmn⟩ := min_len Try.prog xs.length 70 70 rfl
  replace h := ints_take h (show m ≤ xs.length by omega)
  have hmc : m ≤ cap := by omega
  have hlen : (xs.take m).length = m := by rw [List.length_take]; omega
  generalize xs.take m = ys at *
  subst hlen
  have hy70 : ys.length ≤ 70 := by omega
  replace hm := Lib.hid hm
  obtain ⟨_, _, hvv, _, _, ho, hcell⟩ := RowIs.of_ints h
  simp only [Value.slice.injEq] at hvv
  obtain ⟨rfl, _, rfl⟩ := hvv
  cases hg : goesV total ys
  ·
    go_enter Try.func3, Try.ntmps3
    go_wp2_with (go_at_call 8; fail)
    refine ((lay_any total _ ys w h)).mono ?_
    rintro e w1 ⟨v1, rfl, hb1, hr⟩
    haveI hx1 := ExtC.mk hb1
    obtain ⟨r, ⟨_, rfl⟩ | ⟨h1, _⟩⟩ := hr
    · go_wp2_with (go_at_call 9; fail)
      refine (rgoes_any total _ ys w1 (ints_mono h hb1)).mono ?_
      rintro e w2 ⟨rfl, hb2⟩
      replace hb2 := hb1.trans (hb2.mono hb1.size)
      haveI hx2 := ExtC.mk hb2
      rw [hg]
      go_wp2
      go_loop [53] (fun i => i = .int .i64 0) (fun _ => 0)
      case atStart => rfl
      case round =>
        obtain rfl := hrel
        go_wp2_with (go_at_call 12; fail)
        refine (wakes_any _).mono ?_
        rintro e w5 ⟨rfl, hb5⟩
        haveI hx5 := ExtC.mk hb5
        go_wp2_with (go_at_call 10; fail)
        refine (get_any total ys.length n _ hn ht ⟨by omega, by omega⟩).mono ?_
        rintro e w6 ⟨rfl, hb6⟩
        haveI hx6 := ExtC.mk hb6
        go_wp2_with (go_at_call 11; fail)
        refine (rpart_any total ys.length n _ hn).mono ?_
        rintro e w7 ⟨rfl, hb7⟩
        haveI hx7 := ExtC.mk hb7
        go_wp2
        exact bodyPost_ret (v := (.bool true)) (by simp (maxDischargeDepth := 6) [results, Try.results3, go_sem]) rfl ⟨rfl, by (repeat' (first | (with_reducible exact Below.refl _ _) | (with_reducible refine Below.alloc ?_ ?_ _) | (with_reducible refine Below.setCell ?_ ?_ _) | (with_reducible refine Below.drew ?_) | (with_reducible refine below_step ?_ (by assumption) ?_) | (with_reducible exact leC) | go_size))⟩
    · rw [hg] at h1; cases h1
  · obtain ⟨ht0, ht1, hgl⟩ := goesV_split hg
    go_enter Try.func3, Try.ntmps3
    go_wp2_with (go_at_call 8; fail)
    refine ((lay_any total _ ys w h)).mono ?_
    rintro e w1 ⟨v1, rfl, hb1, hr⟩
    haveI hx1 := ExtC.mk hb1
    obtain ⟨r, ⟨h1, _⟩ | ⟨_, rfl, hown⟩⟩ := hr
    · rw [hg] at h1; cases h1
    · go_wp2_with (go_at_call 9; fail)
      refine (rgoes_any total _ ys w1 (ints_mono h hb1)).mono ?_
      rintro e w2 ⟨rfl, hb2⟩
      haveI hx2 := ExtC.mk hb2
      rw [hg]
      obtain ⟨ol, capl, rfl, hll1, hll2, hol, hcl⟩ := RowIs.of_owns hown
      replace hg := Lib.hid hg
      replace hgl := Lib.hid hgl
      clear hown
      go_wp2
      go_loopw [10, 53] (fun a i wr => ∃ (k : Nat) (A : Int), k ≤ ys.length ∧ 0 ≤ A ∧ A ≤ 64 ∧ a = .int .i64 A ∧ i = .int .i64 k ∧ Hid (goesL A (ys.drop k) = true) ∧ Hid ((layL total ys).drop k = layL A (ys.drop k)) ∧ Below w1.heap.size w1 wr) (fun _ i _ => ys.length - (intOf i).toNat)
      case atStart => exact ⟨0, total, by omega, ht0, ht1, rfl, rfl, hgl, rfl, hb2⟩
      case round =>
        obtain ⟨k, A, hk, hA0, hA1, rfl, rfl, hgk, hlk, hbr⟩ := hrel
        have hs1 := hb1.size
        have hsr := hbr.size
        by_cases hlt : k < ys.length
        · obtain ⟨g, f, rfl⟩ := RowIs.addr ho k hlt
          obtain ⟨gl, fl, rfl⟩ := RowIs.addr hol k hlt
          have hlk2 : k < (layL total ys).length := by rw [layL_len]; exact hlt
          obtain ⟨hf1, hf2⟩ := fcells_get _ k hlk2
          have hdx := List.drop_eq_getElem_cons hlt
          have hdl := List.drop_eq_getElem_cons hlk2
          rw [hdx, hdl] at hlk
          rw [hdx] at hgk
          have hlc := hlk.out
          have hc := ints_cell (hcell g f rfl) k hlt
          generalize ys[k] = x at *
          generalize (layL total ys)[k] = lk at *
          obtain ⟨hx1, hx2, hgn⟩ := goesL_cons hgk.out
          simp only [layL, List.cons.injEq] at hlc
          obtain ⟨rfl, hlc⟩ := hlc
          have hc1 := hcl gl fl rfl _ _ hf1
          have hc2 := hcl gl fl rfl _ _ hf2
          rw [← Nat.add_assoc] at hc2
          have hd1 := (hbr.cell (Go.block_lt_of_cell hc1)).trans hc1
          have hd2 := (hbr.cell (Go.block_lt_of_cell hc2)).trans hc2
          have hd := (hbr.cell (Nat.lt_of_lt_of_le (Go.block_lt_of_cell hc) hs1)).trans ((hb1.cell (Go.block_lt_of_cell hc)).trans hc)
          haveI hlg : LtC gl wr.heap.size := ⟨Go.block_lt_of_cell hd1⟩
          haveI hlgp : LtC g wr.heap.size := ⟨Go.block_lt_of_cell hd⟩
          clear hcl hcell hdx hdl hc hc1 hc2 hf1 hf2 hlk hgk hlk2
          replace hgn := Lib.hid hgn
          replace hlc := Lib.hid hlc
          obtain ⟨B, hB⟩ : ∃ B, A - x = B := ⟨_, rfl⟩
          rw [hB] at hgn hlc hd1
          have hB2 : 0 ≤ B ∧ B ≤ 64 := by omega
          obtain ⟨hB20, hB21⟩ := hB2
          have hx64 : x ≤ 64 := by omega
          go_wp2
          refine steady_region (by kernel_rfl) (by kernel_rfl) ?_
          repeat (first | go_big_quiet_skip | (go_big_quiet_want; go_big_quiet_op; first | go_big_quiet_on | (apply Exists.intro; refine ⟨fun _ => ?_, ?_⟩; (focus ((first | (go_at_call 10; (first | with_reducible exact Calls.steady (get_any B x n _ hn ⟨by omega, by omega⟩ ⟨by omega, by omega⟩))) | (go_at_call 11; (first | with_reducible exact Calls.steady (rpart_any B x n _ hn)))))); go_big_quiet_on)))
          refine wpQuiet_nil ?_
          rintro w3 ⟨⟨_, hb3⟩, rfl⟩
          haveI hx3 := ExtC.mk hb3
          try dsimp only
          go_wp2
          have hbn : Below w1.heap.size w1 w3 := hbr.trans ((((Below.refl _ wr).alloc (Nat.le_refl _) _).trans (hb3.mono (by simp))).mono hsr)
          go_roundw
          case rel => exact ⟨k + 1, B, by omega, hB20, hB21, rfl, by go_num, hgn, hlc.out, hbn⟩
          case measure => simp [intOf] <;> omega
        · obtain rfl : k = ys.length := by omega
          have hbn := hb1.trans (hbr.mono hs1)
          clear hbr hb1 hb2 hcl hcell
          haveI hle : LeC w.heap.size wr.heap.size := ⟨hbn.size⟩
          go_wp2_with (go_at_call 12; fail)
          refine (wakes_any _).mono ?_
          rintro e w5 ⟨rfl, hb5⟩
          haveI hx5 := ExtC.mk hb5
          go_wp2_with (go_at_call 10; fail)
          refine (get_any total ys.length n _ hn ht ⟨by omega, by omega⟩).mono ?_
          rintro e w6 ⟨rfl, hb6⟩
          haveI hx6 := ExtC.mk hb6
          go_wp2_with (go_at_call 11; fail)
          refine (rpart_any total ys.length n _ hn).mono ?_
          rintro e w7 ⟨rfl, hb7⟩
          haveI hx7 := ExtC.mk hb7
          go_wp2
          exact bodyPost_ret (v := (.bool true)) (by simp (maxDischargeDepth := 6) [results, Try.results3, go_sem]) rfl ⟨rfl, by (repeat' (first | (with_reducible exact Below.refl _ _) | (with_reducible refine Below.alloc ?_ ?_ _) | (with_reducible refine Below.setCell ?_ ?_ _) | (with_reducible refine Below.drew ?_) | (with_reducible refine below_step ?_ (by assumption) ?_) | (with_reducible exact leC) | go_size))⟩
end Go.Proofs.Ytmfohpfecpgbpaa
