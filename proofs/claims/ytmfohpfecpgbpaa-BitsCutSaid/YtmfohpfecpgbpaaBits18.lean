/- The law BitsCut walked. No condition. -/
import Derived.Test.YtmfohpfecpgbpaaBits17
import Derived.Test.YtmfohpfecpgbpaaBitsM
import Derived.Test.YtmfohpfecpgbpaaHoist
import Derived.Deep.DeepCutAuto
namespace Go.Proofs.Ytmfohpfecpgbpaa
open Go.RowKit
attribute [local go_sem] cellI frozenI cellOf_is frozenOf_is cellA frozenA setCellA
attribute [-go_sem] run_min_int2 run_max_int2 sliced

set_option maxRecDepth 100000 in
set_option maxHeartbeats 3200000 in
theorem bitsCut_any (n : Nat) (v : Value) (xs : List Int) (x0 x1 x2 : Nat) (w : World) (hn : n < 18446744073709551616) (h0 : x0 < 256) (h1 : x1 < 256) (h2 : x2 < 256) (h : IntsArg .i64 w v xs) :
    Calls Try.prog 7 #[.int .u64 n, v, .agg #[.int .u8 x0, .int .u8 x1, .int .u8 x2]] w fun e w' => e = .returned (.bool true) ∧ Below w.heap.size w w' := by
  go_enter Try.func7, Try.ntmps7
  go_wp2_with (go_at_call 13; fail)
  have hX1 : (w.alloc (.cells #[.int .u8 x0, .int .u8 x1, .int .u8 x2] 51)).cell? ⟨w.heap.size, 1, none⟩ = some (.int .u8 x1) := by rw [Go.cell_of_row _ _ _ _ _ _ (Go.heap_alloc_new _ _)]; rfl
  have hX2 : (w.alloc (.cells #[.int .u8 x0, .int .u8 x1, .int .u8 x2] 51)).cell? ⟨w.heap.size, 2, none⟩ = some (.int .u8 x2) := by rw [Go.cell_of_row _ _ _ _ _ _ (Go.heap_alloc_new _ _)]; rfl
  have hb0 : Below w.heap.size w (w.alloc (.cells #[.int .u8 x0, .int .u8 x1, .int .u8 x2] 51)) := by (repeat' (first | (with_reducible exact Below.refl _ _) | (with_reducible refine Below.alloc ?_ ?_ _) | (with_reducible refine Below.setCell ?_ ?_ _) | (with_reducible refine Below.drew ?_) | (with_reducible refine below_step ?_ (by assumption) ?_) | (with_reducible exact leC) | go_size))
  have hs0 : w.heap.size < (w.alloc (.cells #[.int .u8 x0, .int .u8 x1, .int .u8 x2] 51)).heap.size := by simp
  generalize w.alloc (.cells #[.int .u8 x0, .int .u8 x1, .int .u8 x2] 51) = W0 at *
  replace h := ints_mono h hb0
  haveI lw0 : LeC w.heap.size W0.heap.size := ⟨by omega⟩
  refine ((whole_any x0 0 _ xs W0 (by omega) h)).mono ?_
  rintro e w1 ⟨v1, rfl, hb1, ⟨s, rfl, hown⟩⟩
  haveI hx1 := ExtC.mk hb1
  first | (replace hX1 := cell_mono hX1 hb1) | (replace hX1 := RowIs.mono hX1 hb1) | (replace hX1 := ints_mono hX1 hb1) | (replace hX1 := ownsRow_below hX1 hb1) | (replace hX1 := block_mono hX1 hb1)
  first | (replace hX2 := cell_mono hX2 hb1) | (replace hX2 := RowIs.mono hX2 hb1) | (replace hX2 := ints_mono hX2 hb1) | (replace hX2 := ownsRow_below hX2 hb1) | (replace hX2 := block_mono hX2 hb1)
  clear h
  have hT := totalAt_in ((x0 : Int) % 5).toNat
  have hgood := ints_of_owns hown (wholeL_wf _ _ (by omega) hT.2)
  have hgo := totalAt_goes (q := ((x0 : Int) % 5).toNat) (xs := xs.take 70)
  generalize wholeL (totalAt ((x0 : Int) % 5).toNat) (xs.take 70) = gs at *
  generalize totalAt ((x0 : Int) % 5).toNat = T at *
  obtain ⟨T, rfl⟩ := Int.eq_ofNat_of_zero_le (show 0 ≤ T by omega)
  obtain ⟨hT1, hT2⟩ := hT
  obtain ⟨_, _, hgl⟩ := goesV_split hgo
  have hgn : gs.length ≠ 0 := fun h0 => by
    have := List.eq_nil_of_length_eq_zero h0
    rw [this] at hgl
    simp [goesL] at hgl
    omega
  obtain ⟨gg, capg, curg, rfl, hgg1, hgg2, hgg3, hgg4, hgg5, hgg6, hgg7⟩ := owns_open hown hgn
  clear hgg5 hgg6 hgg7 hown
  go_wp2_with (go_at_call 19; fail)
  refine (rmask_any T w1 (by omega)).mono ?_
  rintro e w2 ⟨rfl, hb2⟩
  haveI hx2 := ExtC.mk hb2
  first | (replace hX1 := cell_mono hX1 hb2) | (replace hX1 := RowIs.mono hX1 hb2) | (replace hX1 := ints_mono hX1 hb2) | (replace hX1 := ownsRow_below hX1 hb2) | (replace hX1 := block_mono hX1 hb2)
  first | (replace hX2 := cell_mono hX2 hb2) | (replace hX2 := RowIs.mono hX2 hb2) | (replace hX2 := ints_mono hX2 hb2) | (replace hX2 := ownsRow_below hX2 hb2) | (replace hX2 := block_mono hX2 hb2)
  first | (replace hgood := cell_mono hgood hb2) | (replace hgood := RowIs.mono hgood hb2) | (replace hgood := ints_mono hgood hb2) | (replace hgood := ownsRow_below hgood hb2) | (replace hgood := block_mono hgood hb2)
  have hmk := u64_and_full n T hn (by omega)
  have hlt : n % 2 ^ T < 2 ^ T := Nat.mod_lt _ (Nat.pow_pos (by omega))
  have hp := pow_64 (show T ≤ 64 by omega)
  obtain ⟨N, hN⟩ : ∃ N, n % 2 ^ T = N := ⟨_, rfl⟩
  rw [hN] at hmk hlt
  have hN64 : N < 18446744073709551616 := by omega
  have hsv := splitV_ok hgo hlt
  have hpu := partsL_u64 hN64 (layL T gs)
  have hpl := partsL_len N T gs
  replace hN := Lib.hid hN
  obtain ⟨k, hk, hkl⟩ : ∃ k : Nat, (x1 : Int) % (gs.length : Int) = (k : Int) ∧ k < gs.length := ⟨x1 % gs.length, by omega, Nat.mod_lt _ (by omega)⟩
  have hgn0 : ((gs.length : Int) == 0) = false := by simpa using hgn
  go_wp2_with (go_at_call 14; fail)
  refine ((split_any N T _ gs _ hN64 hgood)).mono ?_
  rintro e w3 ⟨v3, rfl, hb3, hr⟩
  haveI hx3 := ExtC.mk hb3
  obtain ⟨a, rfl, hoa⟩ := split_is hr
  rw [hsv] at hoa ⊢
  simp only at hoa ⊢
  rw [hpl] at hoa
  clear hr hsv
  replace hoa := RowIs.of_owns hoa
  obtain ⟨oa, capa, rfl, _, _, _, _⟩ := id hoa
  first | (replace hX1 := cell_mono hX1 hb3) | (replace hX1 := RowIs.mono hX1 hb3) | (replace hX1 := ints_mono hX1 hb3) | (replace hX1 := ownsRow_below hX1 hb3) | (replace hX1 := block_mono hX1 hb3)
  first | (replace hX2 := cell_mono hX2 hb3) | (replace hX2 := RowIs.mono hX2 hb3) | (replace hX2 := ints_mono hX2 hb3) | (replace hX2 := ownsRow_below hX2 hb3) | (replace hX2 := block_mono hX2 hb3)
  first | (replace hgood := cell_mono hgood hb3) | (replace hgood := RowIs.mono hgood hb3) | (replace hgood := ints_mono hgood hb3) | (replace hgood := ownsRow_below hgood hb3) | (replace hgood := block_mono hgood hb3)
  go_wp2_with (go_at_call 12; fail)
  refine (wakes_any _).mono ?_
  rintro e w5 ⟨rfl, hb5⟩
  haveI hx5 := ExtC.mk hb5
  first | (replace hX1 := cell_mono hX1 hb5) | (replace hX1 := RowIs.mono hX1 hb5) | (replace hX1 := ints_mono hX1 hb5) | (replace hX1 := ownsRow_below hX1 hb5) | (replace hX1 := block_mono hX1 hb5)
  first | (replace hX2 := cell_mono hX2 hb5) | (replace hX2 := RowIs.mono hX2 hb5) | (replace hX2 := ints_mono hX2 hb5) | (replace hX2 := ownsRow_below hX2 hb5) | (replace hX2 := block_mono hX2 hb5)
  first | (replace hgood := cell_mono hgood hb5) | (replace hgood := RowIs.mono hgood hb5) | (replace hgood := ints_mono hgood hb5) | (replace hgood := ownsRow_below hgood hb5) | (replace hgood := block_mono hgood hb5)
  first | (replace hoa := cell_mono hoa hb5) | (replace hoa := RowIs.mono hoa hb5) | (replace hoa := ints_mono hoa hb5) | (replace hoa := ownsRow_below hoa hb5) | (replace hoa := block_mono hoa hb5)
  have hcg := RowIs.at_ (RowIs.of_ints hgood)
  obtain ⟨X, hX⟩ : ∃ X : Nat, gs[k] = (X : Int) := by
    have : ∀ (ys : List Int) (t : Int), goesL t ys = true → ∀ x ∈ ys, 1 ≤ x := by
      intro ys
      induction ys with
      | nil => intro t _ x hx; cases hx
      | cons y ys ih =>
        intro t ht x hx
        obtain ⟨a, b, c⟩ := goesL_cons ht
        rcases List.mem_cons.1 hx with rfl | hx
        · exact a
        · exact ih _ c x hx
    have := this gs T hgl _ (List.getElem_mem hkl)
    exact ⟨gs[k].toNat, by omega⟩
  have hck : w5.cell? ⟨gg, k, none⟩ = some (.int .i64 X) := by
    have := hcg k (.int .i64 gs[k]) (by simp [hkl])
    rwa [Nat.zero_add, hX] at this
  have hgx : gs[k]? = some (X : Int) := by rw [List.getElem?_eq_getElem hkl, hX]
  have hx64 : X ≤ 64 := by
    have h1 := (goesL_pos gs T hgl)
    have h2 : ∀ (ys : List Int) (t : Int), goesL t ys = true → ∀ x ∈ ys, x ≤ t := by
      intro ys
      induction ys with
      | nil => intro t _ x hx; cases hx
      | cons y ys ih =>
        intro t ht x hx
        obtain ⟨a, b, c⟩ := goesL_cons ht
        rcases List.mem_cons.1 hx with rfl | hx
        · exact b
        · have := ih _ c x hx; omega
    have := h2 gs T hgl _ (List.getElem_mem hkl)
    omega
  replace hX := Lib.hid hX
  replace hgl := Lib.hid hgl
  replace hpl := Lib.hid hpl
  replace hpu := Lib.hid hpu
  replace hcg := Lib.hid hcg
  haveI l2 : LtC gg w5.heap.size := ⟨Go.block_lt_of_cell hck⟩
  haveI l3 : LtC w.heap.size w5.heap.size := ⟨Go.block_lt_of_cell hX2⟩
  clear hmk
  by_cases h2X : X < 2
  · go_wp2
    exact bodyPost_ret (v := (.bool true)) (by simp (maxDischargeDepth := 6) [results, Try.results7, go_sem]) rfl ⟨rfl, by (repeat' (first | (with_reducible exact Below.refl _ _) | (with_reducible refine Below.alloc ?_ ?_ _) | (with_reducible refine Below.setCell ?_ ?_ _) | (with_reducible refine Below.drew ?_) | (with_reducible refine below_step ?_ (by assumption) ?_) | (with_reducible exact leC) | go_size))⟩
  · obtain ⟨l, hl, hl1, hlX⟩ : ∃ l : Nat, 1 + (x2 : Int) % ((X : Int) - 1) = l ∧ 1 ≤ l ∧ l < X := by
      have h1 := Int.emod_nonneg (x2 : Int) (show (X : Int) - 1 ≠ 0 by omega)
      have h2 := Int.emod_lt_of_pos (x2 : Int) (show (0 : Int) < (X : Int) - 1 by omega)
      exact ⟨(1 + (x2 : Int) % ((X : Int) - 1)).toNat, by omega, by omega, by omega⟩
    have hz : (((X : Int) - 1) == 0) = false := by simp; omega
    have e1 : IntKind.i64.wrap ((X : Int) - 1) = X - 1 := IntWalk.i64_in _ (by omega)
    have hd2 : decide ((X : Int) < 2) = false := decide_eq_false (by omega)
    go_wp2
    refine steady_region (by kernel_rfl) (by kernel_rfl) ?_
    repeat (first | go_big_quiet_skip | (go_big_quiet_want; go_big_quiet_op; first | go_big_quiet_on | (apply Exists.intro; refine ⟨fun _ => ?_, ?_⟩; (focus ((fail))); go_big_quiet_on)))
    refine wpQuiet_nil ?_
    rintro w6 ⟨⟨_, hb6⟩, rfl⟩
    haveI hx6 := ExtC.mk hb6
    try dsimp only
    go_wp2
    obtain ⟨i0, hi, hz0, hz1, hz2⟩ := infoInt
    first | (replace hgood := cell_mono hgood hb6) | (replace hgood := RowIs.mono hgood hb6) | (replace hgood := ints_mono hgood hb6) | (replace hgood := ownsRow_below hgood hb6) | (replace hgood := block_mono hgood hb6)
    first | (replace hoa := cell_mono hoa hb6) | (replace hoa := RowIs.mono hoa hb6) | (replace hoa := ints_mono hoa hb6) | (replace hoa := ownsRow_below hoa hb6) | (replace hoa := block_mono hoa hb6)
    first | (replace hck := cell_mono hck hb6) | (replace hck := RowIs.mono hck hb6) | (replace hck := ints_mono hck hb6) | (replace hck := ownsRow_below hck hb6) | (replace hck := block_mono hck hb6)
    have hl1 := Lib.hid hl
    clear hl
    have hcgs : ∀ j u, (gs.map (Value.int .i64))[j]? = some u → w6.cell? ⟨gg, 0 + j, none⟩ = some u := RowIs.at_ (RowIs.of_ints hgood)
    have hlen64 : gs.length ≤ 64 := by have := goesL_pos gs T hgl.out; omega
    obtain ⟨g', f', hsr, hge, hf'⟩ := sliced_rest gg 0 (k + 1) gs.length capg (by omega) hgg3
    rw [hge] at hsr
    clear hge
    have hkc : k ≤ capg := by omega
    have hk1 : k + 1 ≤ gs.length := by omega
    have hk1' : (k : Int) + 1 ≤ (gs.length : Int) := by omega
    have hsl := sliced_low (a := some ⟨gg, 0, none⟩) (n := k) (cap := capg)
    have ek1 : IntKind.i64.wrap ((k : Int) + 1) = k + 1 := IntWalk.i64_in _ (by omega)
    have ek2 : ((k : Int) + 1).toNat = k + 1 := by omega
    have ek3 : (0 : Int) ≤ (k : Int) + 1 := by omega
    have bel1 : Below w6.heap.size w6 w6.drew := (Below.refl _ _).drew
    have bel2 : ∀ O, Below w6.heap.size w6 (w6.drew.alloc O) := fun O => ((Below.refl _ _).drew).alloc (Nat.le_refl _) O
    have exl : IntKind.i64.wrap ((X : Int) - l) = X - l := IntWalk.i64_in _ (by omega)
    have hcA : ∀ j u, ((gs.take k).map (Value.int .i64))[j]? = some u → w6.cell? ⟨gg, 0 + j, none⟩ = some u := fun j u hj => hcgs j u (by
      rw [List.getElem?_map, List.getElem?_take] at hj
      rw [List.getElem?_map]
      split at hj
      · exact hj
      · simp at hj)
    have hcB : ∀ j u, ((gs.drop (k + 1)).map (Value.int .i64))[j]? = some u → w6.cell? ⟨gg, f' + j, none⟩ = some u := fun j u hj => by
      have hj2 : (gs.map (Value.int .i64))[k + 1 + j]? = some u := by
        rw [List.getElem?_map, List.getElem?_drop] at hj
        rw [List.getElem?_map]
        exact hj
      have hlt : k + 1 < gs.length := by
        have := (List.getElem?_eq_some_iff.1 hj2).1
        simp at this
        omega
      have := hcgs _ _ hj2
      rw [hf' hlt, show 0 + (k + 1) + j = 0 + (k + 1 + j) by omega]
      exact this
    have hlA : ((gs.take k).map (Value.int .i64)).length = k * 1 := by simp; omega
    have hlB : ((gs.drop (k + 1)).map (Value.int .i64)).length = (gs.length - (k + 1)) * 1 := by simp
    have hoA : ∀ u ∈ (gs.take k).map (Value.int .i64), u.oneCell' = true := fun u hu => by
      obtain ⟨_, _, rfl⟩ := List.mem_map.1 hu; simp [Value.oneCell']
    have hoB : ∀ u ∈ (gs.drop (k + 1)).map (Value.int .i64), u.oneCell' = true := fun u hu => by
      obtain ⟨_, _, rfl⟩ := List.mem_map.1 hu; simp [Value.oneCell']
    replace hf' := Lib.hid hf'
    go_cut [13] (fun v wx => wx.ownsRow w6.heap.size 3 1 v (gs.length + 1) ((cutL gs k X l).map (Value.int .i64)) ∧ Below w6.heap.size w6 wx)
    case first =>
      refine hoist_ext (Below.refl _ _) [0, 1, 2, 4, 5, 6, 7, 8, 9, 10, 13, 14, 15, 16] 5 (by kernel_rfl) (by kernel_rfl) ?_ ?_
      · exact fun _ d _ _ _ h => by cases d <;> exact h
      simp only [pickL, List.filterMap_cons, List.filterMap_nil, List.getElem?_cons_succ, List.getElem?_cons_zero]
      refine wpQuiet_as (l' := [_, _, _, _, _, _, _, _, _, _, _, _, _, _]) rfl ?_
      repeat (first | go_big_quiet_skip | (go_big_quiet_want; go_big_quiet_op; go_big_quiet_on))
      refine wpQuiet_nil ?_
      rintro w7 ⟨⟨_, hb7⟩, rfl⟩
      haveI hx7 := ExtC.mk hb7
      try dsimp only
      haveI hle7 : LeC w6.heap.size w7.heap.size := ⟨hb7.size⟩
      refine wpAnyC_next (rs := [3, 11]) (by kernel_rfl) (by simp) (in_ext hb7) ?_
      intro i hi
      simp only [List.mem_cons, List.not_mem_nil, or_false] at hi
      rcases hi with rfl | rfl
      · refine wpOp_at rfl rfl ?_
        refine wp_append_own _ (.const (.slice none 0 0)) (.tmp 71) 22 rfl (w6.heap.size) 3 i0 _ 1 8 Try.underlying22 hi hz0 hz1 hz2 rfl (by decide) (.slice none 0 0) (0) ([]) rfl (World.ownsRow_nil _ _ _ _) (⟨gg, 0, none⟩) (k) (capg) _ rfl hlA (news_at hcA hb7) (hoA) (by unfold maxLen; omega) (by omega) leC ?_; intro v71 w71 hown71 hg71 _
        have hb71 := hb7.trans ((grown_nil hg71).mono hb7.size)
        haveI hle71 : LeC w6.heap.size w71.heap.size := ⟨hb71.size⟩
        refine wpAnyC_next (rs := [11]) (by kernel_rfl) (by simp) (in_ext hb71) ?_
        intro i hi
        simp only [List.mem_cons, List.not_mem_nil, or_false] at hi
        subst hi
        refine wpOp_at rfl rfl ?_
        unfold Oper.wp
        go_simp
        refine wpAnyC_next (rs := [12]) (by kernel_rfl) (by simp) (in_ext (hb71.alloc leC _)) ?_
        intro i hi
        simp only [List.mem_cons, List.not_mem_nil, or_false] at hi
        subst hi
        refine wpOp_at rfl rfl ?_
        refine wp_append_own _ (.tmp 72) (.tmp 80) 22 rfl (w6.heap.size) 3 i0 _ 1 8 Try.underlying22 hi hz0 hz1 hz2 rfl (by decide) (v71) (0 + k) (_) rfl (hown71.alloc _) (⟨w71.heap.size, 0, none⟩) (2) (2) _ rfl rfl (new2 (Go.heap_alloc_new _ _)) (by simp [Value.oneCell']) (by unfold maxLen; omega) (by omega) leC ?_; intro v72 w72 hown72 hg72 _
        have hb72 : Below w6.heap.size w6 w72 := (hb71.alloc leC _).trans (grown_below hg72 (hown71.alloc _) leC)
        haveI hle72 : LeC w6.heap.size w72.heap.size := ⟨hb72.size⟩
        refine wpAnyC_next (rs := [17]) (by kernel_rfl) (by simp) (in_ext hb72) ?_
        intro i hi
        simp only [List.mem_cons, List.not_mem_nil, or_false] at hi
        subst hi
        refine wpOp_at rfl rfl ?_
        refine wp_append_own _ (.tmp 81) (.tmp 85) 22 rfl (w6.heap.size) 3 i0 _ 1 8 Try.underlying22 hi hz0 hz1 hz2 rfl (by decide) (v72) (0 + k + 2) (_) rfl (hown72) (⟨gg, f', none⟩) (gs.length - (k + 1)) (capg - (k + 1)) _ rfl hlB (news_at hcB hb72) (hoB) (by unfold maxLen; omega) (by omega) leC ?_; intro v73 w73 hown73 hg73 _
        have hb73 : Below w6.heap.size w6 w73 := hb72.trans (grown_below hg73 hown72 leC)
        haveI hle73 : LeC w6.heap.size w73.heap.size := ⟨hb73.size⟩
        refine wpAnyC_next (rs := [18]) (by kernel_rfl) (by simp) (in_ext hb73) ?_
        intro i hi
        simp only [List.mem_cons, List.not_mem_nil, or_false] at hi
        subst hi
        refine wpOp_at rfl rfl ?_
        unfold Oper.wp
        go_simp
        refine wpAnyC_done (by kernel_rfl) (in_ext hb73) ?_
        have hf1 : 0 + k + 2 + (gs.length - (k + 1)) = gs.length + 1 := by omega
        rw [hf1] at hown73
        have hf2 : [] ++ (gs.take k).map (Value.int .i64) ++ [.int .i64 ((X : Int) - l), .int .i64 l] ++ (gs.drop (k + 1)).map (Value.int .i64) = (cutL gs k X l).map (Value.int .i64) := by simp [cutL]
        rw [hf2] at hown73
        replace hf1 := Lib.hid hf1
        replace hf2 := Lib.hid hf2
        go_wp2_with fail
        go_meet
        exact ⟨hown73, hb73⟩
      · refine wpOp_at rfl rfl ?_
        unfold Oper.wp
        go_simp
        refine wpAnyC_next (rs := [3]) (by kernel_rfl) (by simp) (in_ext (hb7.alloc leC _)) ?_
        intro i hi
        simp only [List.mem_cons, List.not_mem_nil, or_false] at hi
        subst hi
        refine wpOp_at rfl rfl ?_
        refine wp_append_own _ (.const (.slice none 0 0)) (.tmp 71) 22 rfl (w6.heap.size) 3 i0 _ 1 8 Try.underlying22 hi hz0 hz1 hz2 rfl (by decide) (.slice none 0 0) (0) ([]) rfl (World.ownsRow_nil _ _ _ _) (⟨gg, 0, none⟩) (k) (capg) _ rfl hlA (news_at hcA (hb7.alloc leC _)) (hoA) (by unfold maxLen; omega) (by omega) leC ?_; intro v71 w71 hown71 hg71 _
        have hq71 := grown_nil hg71
        have hb71 : Below w6.heap.size w6 w71 := (hb7.alloc leC _).trans (hq71.mono leC)
        haveI hle71 : LeC w6.heap.size w71.heap.size := ⟨hb71.size⟩
        refine wpAnyC_next (rs := [12]) (by kernel_rfl) (by simp) (in_ext hb71) ?_
        intro i hi
        simp only [List.mem_cons, List.not_mem_nil, or_false] at hi
        subst hi
        refine wpOp_at rfl rfl ?_
        refine wp_append_own _ (.tmp 72) (.tmp 80) 22 rfl (w6.heap.size) 3 i0 _ 1 8 Try.underlying22 hi hz0 hz1 hz2 rfl (by decide) (v71) (0 + k) (_) rfl (hown71) (⟨w7.heap.size, 0, none⟩) (2) (2) _ rfl rfl (new2 ((hq71.block w7.heap.size (by simp)).trans (Go.heap_alloc_new _ _))) (by simp [Value.oneCell']) (by unfold maxLen; omega) (by omega) leC ?_; intro v72 w72 hown72 hg72 _
        have hb72 : Below w6.heap.size w6 w72 := hb71.trans (grown_below hg72 hown71 leC)
        haveI hle72 : LeC w6.heap.size w72.heap.size := ⟨hb72.size⟩
        refine wpAnyC_next (rs := [17]) (by kernel_rfl) (by simp) (in_ext hb72) ?_
        intro i hi
        simp only [List.mem_cons, List.not_mem_nil, or_false] at hi
        subst hi
        refine wpOp_at rfl rfl ?_
        refine wp_append_own _ (.tmp 81) (.tmp 85) 22 rfl (w6.heap.size) 3 i0 _ 1 8 Try.underlying22 hi hz0 hz1 hz2 rfl (by decide) (v72) (0 + k + 2) (_) rfl (hown72) (⟨gg, f', none⟩) (gs.length - (k + 1)) (capg - (k + 1)) _ rfl hlB (news_at hcB hb72) (hoB) (by unfold maxLen; omega) (by omega) leC ?_; intro v73 w73 hown73 hg73 _
        have hb73 : Below w6.heap.size w6 w73 := hb72.trans (grown_below hg73 hown72 leC)
        haveI hle73 : LeC w6.heap.size w73.heap.size := ⟨hb73.size⟩
        refine wpAnyC_next (rs := [18]) (by kernel_rfl) (by simp) (in_ext hb73) ?_
        intro i hi
        simp only [List.mem_cons, List.not_mem_nil, or_false] at hi
        subst hi
        refine wpOp_at rfl rfl ?_
        unfold Oper.wp
        go_simp
        refine wpAnyC_done (by kernel_rfl) (in_ext hb73) ?_
        have hf1 : 0 + k + 2 + (gs.length - (k + 1)) = gs.length + 1 := by omega
        rw [hf1] at hown73
        have hf2 : [] ++ (gs.take k).map (Value.int .i64) ++ [.int .i64 ((X : Int) - l), .int .i64 l] ++ (gs.drop (k + 1)).map (Value.int .i64) = (cutL gs k X l).map (Value.int .i64) := by simp [cutL]
        rw [hf2] at hown73
        replace hf1 := Lib.hid hf1
        replace hf2 := Lib.hid hf2
        go_wp2_with fail
        go_meet
        exact ⟨hown73, hb73⟩
    case rest =>
      obtain ⟨hownc, hbc⟩ := hcut
      have hgc : goesV T (cutL gs k X l) = true := by
        have h1 := cut_goes gs T k X l hgl.out hgx (by omega) (by omega)
        have h2 := hgo
        simp only [goesV, Bool.and_eq_true] at h2 ⊢
        exact ⟨h2.1, h1⟩
      have hIc : IntsArg .i64 wc u13 (cutL gs k X l) := by
        refine ints_of_owns hownc fun x hx => ?_
        have hgw := ints_wf hgood
        simp only [cutL, List.mem_append, List.mem_cons, List.not_mem_nil, or_false] at hx
        rcases hx with (hx | rfl | rfl) | hx
        · exact hgw x (List.mem_of_mem_take hx)
        · exact wf_small (by omega) (by omega)
        · exact wf_small (by omega) (by omega)
        · exact hgw x (List.mem_of_mem_drop hx)
      have hsc := splitV_ok hgc hlt
      obtain ⟨ps, hps⟩ : ∃ ps, partsL N (layL T gs) = ps := ⟨_, rfl⟩
      rw [hps] at hoa hpl
      have hkp : k < ps.length := by rw [hpl.out]; exact hkl
      obtain ⟨p, hpk⟩ : ∃ p, ps[k]? = some p := ⟨ps[k], List.getElem?_eq_getElem hkp⟩
      have hcp := cut_parts N gs T k X l p (by omega) hgl.out hgx (by omega) (by omega) (by rw [hps]; exact hpk)
      have hba := cut_back (h := p / 2 ^ l) (l := p % 2 ^ l) hpk
      rw [hps] at hcp
      rw [hcp] at hsc
      obtain ⟨bl, hbl⟩ : ∃ bl, ps.take k ++ [p / 2 ^ l, p % 2 ^ l] ++ ps.drop (k + 1) = bl := ⟨_, rfl⟩
      have hpl2 := hpl.out
      have hbll : bl.length = gs.length + 1 := by rw [← hbl]; simp; omega
      clear hpl2
      have hbk : bl[k]? = some (p / 2 ^ l) := by
        rw [← hbl, List.append_assoc, List.getElem?_append_right (by simp; omega)]
        have : k - (ps.take k).length = 0 := by simp; omega
        rw [this]; rfl
      have hbk1 : bl[k + 1]? = some (p % 2 ^ l) := by
        rw [← hbl, List.append_assoc, List.getElem?_append_right (by simp; omega)]
        have : k + 1 - (ps.take k).length = 1 := by simp; omega
        rw [this]; rfl
      rw [hbl] at hba hsc
      have hpp : p < 18446744073709551616 := by
        have : p ∈ ps := List.mem_of_getElem? hpk
        exact hpu.out p (by rw [hps]; exact this)
      have hor := or_join (join_two p l) (Nat.mod_lt _ (Nat.pow_pos (by omega))) hpp
      obtain ⟨h, hh⟩ : ∃ h, p / 2 ^ l = h := ⟨_, rfl⟩
      obtain ⟨o, ho⟩ : ∃ o, p % 2 ^ l = o := ⟨_, rfl⟩
      rw [hh, ho] at hor
      rw [hh] at hbk
      rw [ho] at hbk1
      have hback := Lib.hid hba
      clear hba hcp hbl hh ho
      replace hps := Lib.hid hps
      replace hpk := Lib.hid hpk
      replace hgx := Lib.hid hgx
      have hlc : (cutL gs k X l).length = gs.length + 1 := cut_len _ _ _ _ hkl
      replace hlc := Lib.hid hlc
      have hmin : min l 64 = l := by omega
      first | (replace hgood := cell_mono hgood hbc) | (replace hgood := RowIs.mono hgood hbc) | (replace hgood := ints_mono hgood hbc) | (replace hgood := ownsRow_below hgood hbc) | (replace hgood := block_mono hgood hbc)
      first | (replace hoa := cell_mono hoa hbc) | (replace hoa := RowIs.mono hoa hbc) | (replace hoa := ints_mono hoa hbc) | (replace hoa := ownsRow_below hoa hbc) | (replace hoa := block_mono hoa hbc)
      have hb06 : Below w.heap.size w wc := by (repeat' (first | (with_reducible exact Below.refl _ _) | (with_reducible refine Below.alloc ?_ ?_ _) | (with_reducible refine Below.setCell ?_ ?_ _) | (with_reducible refine Below.drew ?_) | (with_reducible refine below_step ?_ (by assumption) ?_) | (with_reducible exact leC) | go_size))
      clear hb6 hb5 hb3 hb2 hb1 hb0 hck hcgs hcA hcB hlA hlB hoA hoB hsr hsl ek2 exl e1 hi hz0 hz1 hz2 hX1 hX2 hl1 hf'
      obtain ⟨_, _, hu13, _, _, _, _⟩ := RowIs.of_ints hIc
      rw [hlc.out] at hu13
      subst hu13
      go_wp2_with (go_at_call 14; fail)
      refine ((split_any N T _ _ _ hN64 hIc)).mono ?_
      rintro e w9 ⟨v9, rfl, hb9, hr⟩
      haveI hx9 := ExtC.mk hb9
      obtain ⟨b, rfl, hob⟩ := split_is hr
      rw [hsc] at hob ⊢
      simp only at hob ⊢
      rw [hbll] at hob
      clear hr hsc
      first | (replace hoa := cell_mono hoa hb9) | (replace hoa := RowIs.mono hoa hb9) | (replace hoa := ints_mono hoa hb9) | (replace hoa := ownsRow_below hoa hb9) | (replace hoa := block_mono hoa hb9)
      obtain ⟨gb, capb, curb, rfl, hgb1, hgb2, hgb3, hgb4, hgb5, hgb6, hgb7⟩ := owns_open hob (by omega)
      have hrb := RowIs.of_owns hob
      have hcb := RowIs.at_ hrb
      have hck : w9.cell? ⟨gb, k, none⟩ = some (.int .u64 h) := by
        have := hcb k (.int .u64 (h : Int)) (by simp [ucells, hbk])
        rwa [Nat.zero_add] at this
      have hck1 : w9.cell? ⟨gb, k + 1, none⟩ = some (.int .u64 o) := by
        have := hcb (k + 1) (.int .u64 (o : Int)) (by simp [ucells, hbk1])
        rwa [Nat.zero_add] at this
      clear hgb5 hgb6 hgb7 hob
      obtain ⟨i0, hi, hz0, hz1, hz2⟩ := infoU64
      obtain ⟨g2, f2, hsr, hge, hf2⟩ := sliced_rest gb 0 (k + 2) (gs.length + 1) capb (by omega) hgb3
      rw [hge] at hsr
      clear hge
      obtain ⟨r, hrr⟩ : ∃ r, gs.length + 1 - (k + 2) = r := ⟨_, rfl⟩
      have hr64 : r ≤ 64 := by omega
      obtain ⟨rc, hrc⟩ : ∃ rc, capb - (k + 2) = rc := ⟨_, rfl⟩
      rw [hrr, hrc] at hsr
      clear hrc
      have hkc : k ≤ capb := by omega
      have hk2 : k + 2 ≤ gs.length + 1 := by omega
      have hk2' : (k : Int) + 2 ≤ (gs.length : Int) + 1 := by omega
      have hk3 : k < gs.length + 1 := by omega
      have hk4 : k + 1 < gs.length + 1 := by omega
      have hsl := sliced_low (a := some ⟨gb, 0, none⟩) (n := k) (cap := capb)
      have ek2 : ((k : Int) + 2).toNat = k + 2 := by omega
      have ek3 : (0 : Int) ≤ (k : Int) + 2 := by omega
      have hne : (((gs.length + 1 : Nat) : Int) != (gs.length : Int) + 1) = false := by simp
      have hcA : ∀ j u, (ucells (bl.take k))[j]? = some u → w9.cell? ⟨gb, 0 + j, none⟩ = some u := fun j u hj => hcb j u (by
        simp only [ucells, List.getElem?_map, List.getElem?_take] at hj ⊢
        split at hj
        · exact hj
        · simp at hj)
      have hcB : ∀ j u, (ucells (bl.drop (k + 2)))[j]? = some u → w9.cell? ⟨gb, f2 + j, none⟩ = some u := fun j u hj => by
        have hj2 : (ucells bl)[k + 2 + j]? = some u := by
          simp only [ucells, List.getElem?_map, List.getElem?_drop] at hj ⊢
          exact hj
        have hlt : k + 2 < gs.length + 1 := by
          have := (List.getElem?_eq_some_iff.1 hj2).1
          simp [ucells] at this
          omega
        have := hcb _ _ hj2
        rw [hf2 hlt, show 0 + (k + 2) + j = 0 + (k + 2 + j) by omega]
        exact this
      have hlA : (ucells (bl.take k)).length = k * 1 := by simp [ucells]; omega
      have hlB : (ucells (bl.drop (k + 2))).length = r * 1 := by simp [ucells]; omega
      have hoA : ∀ u ∈ ucells (bl.take k), u.oneCell' = true := fun u hu => by
        obtain ⟨_, _, rfl⟩ := List.mem_map.1 hu; simp [Value.oneCell']
      have hoB : ∀ u ∈ ucells (bl.drop (k + 2)), u.oneCell' = true := fun u hu => by
        obtain ⟨_, _, rfl⟩ := List.mem_map.1 hu; simp [Value.oneCell']
      replace hf2 := Lib.hid hf2
      replace hcb := Lib.hid hcb
      replace hrr := Lib.hid hrr
      replace hbll := Lib.hid hbll
      replace hbk := Lib.hid hbk
      replace hbk1 := Lib.hid hbk1
      haveI l4 : LtC gb w9.heap.size := ⟨hgb2⟩
      have hs9 := hb9.size
      haveI l5 : LeC w.heap.size w9.heap.size := ⟨Nat.le_trans hb06.size hs9⟩
      go_wp2
      go_cut [16] (fun v wx => wx.ownsRow w9.heap.size 23 1 v gs.length (ucells ps) ∧ Below w9.heap.size w9 wx)
      case first =>
        refine hoist_ext (Below.refl _ _) [0, 1, 2, 4, 5, 6, 7, 8, 9, 10, 11, 12, 13, 14, 15, 18, 19, 20, 21] 5 (by kernel_rfl) (by kernel_rfl) ?_ ?_
        · exact fun _ d _ _ _ h => by cases d <;> exact h
        simp only [pickL, List.filterMap_cons, List.filterMap_nil, List.getElem?_cons_succ, List.getElem?_cons_zero]
        refine wpQuiet_as (l' := [_, _, _, _, _, _, _, _, _, _, _, _, _, _, _, _, _, _, _]) rfl ?_
        repeat (first | go_big_quiet_skip | (go_big_quiet_want; go_big_quiet_op; go_big_quiet_on))
        refine wpQuiet_nil ?_
        rintro w7 ⟨⟨_, hb7⟩, rfl⟩
        haveI hx7 := ExtC.mk hb7
        try dsimp only
        haveI hle7 : LeC w9.heap.size w7.heap.size := ⟨hb7.size⟩
        refine wpAnyC_next (rs := [3, 16]) (by kernel_rfl) (by simp) (in_ext hb7) ?_
        intro i hi
        simp only [List.mem_cons, List.not_mem_nil, or_false] at hi
        rcases hi with rfl | rfl
        · refine wpOp_at rfl rfl ?_
          refine wp_append_own _ (.const (.slice none 0 0)) (.tmp 106) 35 rfl (w9.heap.size) 23 i0 _ 1 8 Try.underlying35 hi hz0 hz1 hz2 rfl (by decide) (.slice none 0 0) (0) ([]) rfl (World.ownsRow_nil _ _ _ _) (⟨gb, 0, none⟩) (k) (capb) _ rfl hlA (news_at hcA hb7) (hoA) (by unfold maxLen; omega) (by omega) leC ?_; intro v71 w71 hown71 hg71 _
          have hb71 := hb7.trans ((grown_nil hg71).mono hb7.size)
          haveI hle71 : LeC w9.heap.size w71.heap.size := ⟨hb71.size⟩
          refine wpAnyC_next (rs := [16]) (by kernel_rfl) (by simp) (in_ext hb71) ?_
          intro i hi
          simp only [List.mem_cons, List.not_mem_nil, or_false] at hi
          subst hi
          refine wpOp_at rfl rfl ?_
          unfold Oper.wp
          go_simp
          refine wpAnyC_next (rs := [17]) (by kernel_rfl) (by simp) (in_ext (hb71.alloc leC _)) ?_
          intro i hi
          simp only [List.mem_cons, List.not_mem_nil, or_false] at hi
          subst hi
          refine wpOp_at rfl rfl ?_
          refine wp_append_own _ (.tmp 107) (.tmp 120) 35 rfl (w9.heap.size) 23 i0 _ 1 8 Try.underlying35 hi hz0 hz1 hz2 rfl (by decide) (v71) (0 + k) (_) rfl (hown71.alloc _) (⟨w71.heap.size, 0, none⟩) (1) (1) _ rfl rfl (new1 (Go.heap_alloc_new _ _)) (by simp [Value.oneCell']) (by unfold maxLen; omega) (by omega) leC ?_; intro v72 w72 hown72 hg72 _
          have hb72 : Below w9.heap.size w9 w72 := (hb71.alloc leC _).trans (grown_below hg72 (hown71.alloc _) leC)
          haveI hle72 : LeC w9.heap.size w72.heap.size := ⟨hb72.size⟩
          refine wpAnyC_next (rs := [22]) (by kernel_rfl) (by simp) (in_ext hb72) ?_
          intro i hi
          simp only [List.mem_cons, List.not_mem_nil, or_false] at hi
          subst hi
          refine wpOp_at rfl rfl ?_
          refine wp_append_own _ (.tmp 121) (.tmp 125) 35 rfl (w9.heap.size) 23 i0 _ 1 8 Try.underlying35 hi hz0 hz1 hz2 rfl (by decide) (v72) (0 + k + 1) (_) rfl (hown72) (⟨gb, f2, none⟩) (r) (rc) _ rfl hlB (news_at hcB hb72) (hoB) (by unfold maxLen; omega) (by omega) leC ?_; intro v73 w73 hown73 hg73 _
          have hb73 : Below w9.heap.size w9 w73 := hb72.trans (grown_below hg73 hown72 leC)
          haveI hle73 : LeC w9.heap.size w73.heap.size := ⟨hb73.size⟩
          refine wpAnyC_next (rs := [23]) (by kernel_rfl) (by simp) (in_ext hb73) ?_
          intro i hi
          simp only [List.mem_cons, List.not_mem_nil, or_false] at hi
          subst hi
          refine wpOp_at rfl rfl ?_
          unfold Oper.wp
          go_simp
          refine wpAnyC_done (by kernel_rfl) (in_ext hb73) ?_
          have hf1 : 0 + k + 1 + r = gs.length := by have := hrr.out; omega
          rw [hf1] at hown73
          have hf2 : [] ++ ucells (bl.take k) ++ [.int .u64 (p : Int)] ++ ucells (bl.drop (k + 2)) = ucells ps := by
            rw [← hback.out]
            simp [ucells]
          rw [hf2] at hown73
          replace hf1 := Lib.hid hf1
          replace hf2 := Lib.hid hf2
          go_wp2_with fail
          go_meet
          exact ⟨hown73, hb73⟩
        · refine wpOp_at rfl rfl ?_
          unfold Oper.wp
          go_simp
          refine wpAnyC_next (rs := [3]) (by kernel_rfl) (by simp) (in_ext (hb7.alloc leC _)) ?_
          intro i hi
          simp only [List.mem_cons, List.not_mem_nil, or_false] at hi
          subst hi
          refine wpOp_at rfl rfl ?_
          refine wp_append_own _ (.const (.slice none 0 0)) (.tmp 106) 35 rfl (w9.heap.size) 23 i0 _ 1 8 Try.underlying35 hi hz0 hz1 hz2 rfl (by decide) (.slice none 0 0) (0) ([]) rfl (World.ownsRow_nil _ _ _ _) (⟨gb, 0, none⟩) (k) (capb) _ rfl hlA (news_at hcA (hb7.alloc leC _)) (hoA) (by unfold maxLen; omega) (by omega) leC ?_; intro v71 w71 hown71 hg71 _
          have hq71 := grown_nil hg71
          have hb71 : Below w9.heap.size w9 w71 := (hb7.alloc leC _).trans (hq71.mono leC)
          haveI hle71 : LeC w9.heap.size w71.heap.size := ⟨hb71.size⟩
          refine wpAnyC_next (rs := [17]) (by kernel_rfl) (by simp) (in_ext hb71) ?_
          intro i hi
          simp only [List.mem_cons, List.not_mem_nil, or_false] at hi
          subst hi
          refine wpOp_at rfl rfl ?_
          refine wp_append_own _ (.tmp 107) (.tmp 120) 35 rfl (w9.heap.size) 23 i0 _ 1 8 Try.underlying35 hi hz0 hz1 hz2 rfl (by decide) (v71) (0 + k) (_) rfl (hown71) (⟨w7.heap.size, 0, none⟩) (1) (1) _ rfl rfl (new1 ((hq71.block w7.heap.size (by simp)).trans (Go.heap_alloc_new _ _))) (by simp [Value.oneCell']) (by unfold maxLen; omega) (by omega) leC ?_; intro v72 w72 hown72 hg72 _
          have hb72 : Below w9.heap.size w9 w72 := hb71.trans (grown_below hg72 hown71 leC)
          haveI hle72 : LeC w9.heap.size w72.heap.size := ⟨hb72.size⟩
          refine wpAnyC_next (rs := [22]) (by kernel_rfl) (by simp) (in_ext hb72) ?_
          intro i hi
          simp only [List.mem_cons, List.not_mem_nil, or_false] at hi
          subst hi
          refine wpOp_at rfl rfl ?_
          refine wp_append_own _ (.tmp 121) (.tmp 125) 35 rfl (w9.heap.size) 23 i0 _ 1 8 Try.underlying35 hi hz0 hz1 hz2 rfl (by decide) (v72) (0 + k + 1) (_) rfl (hown72) (⟨gb, f2, none⟩) (r) (rc) _ rfl hlB (news_at hcB hb72) (hoB) (by unfold maxLen; omega) (by omega) leC ?_; intro v73 w73 hown73 hg73 _
          have hb73 : Below w9.heap.size w9 w73 := hb72.trans (grown_below hg73 hown72 leC)
          haveI hle73 : LeC w9.heap.size w73.heap.size := ⟨hb73.size⟩
          refine wpAnyC_next (rs := [23]) (by kernel_rfl) (by simp) (in_ext hb73) ?_
          intro i hi
          simp only [List.mem_cons, List.not_mem_nil, or_false] at hi
          subst hi
          refine wpOp_at rfl rfl ?_
          unfold Oper.wp
          go_simp
          refine wpAnyC_done (by kernel_rfl) (in_ext hb73) ?_
          have hf1 : 0 + k + 1 + r = gs.length := by have := hrr.out; omega
          rw [hf1] at hown73
          have hf2 : [] ++ ucells (bl.take k) ++ [.int .u64 (p : Int)] ++ ucells (bl.drop (k + 2)) = ucells ps := by
            rw [← hback.out]
            simp [ucells]
          rw [hf2] at hown73
          replace hf1 := Lib.hid hf1
          replace hf2 := Lib.hid hf2
          go_wp2_with fail
          go_meet
          exact ⟨hown73, hb73⟩
      case rest =>
        obtain ⟨howne, hbe⟩ := hcut
        have hre := RowIs.of_owns howne
        first | (replace hoa := cell_mono hoa hbe) | (replace hoa := RowIs.mono hoa hbe) | (replace hoa := ints_mono hoa hbe) | (replace hoa := ownsRow_below hoa hbe) | (replace hoa := block_mono hoa hbe)
        have hpl3 := hpl.out
        have hre2 : RowIs wc u16 ps.length (ucells ps) := by rw [hpl3]; exact hre
        have hoa2 : RowIs wc (.slice oa gs.length capa) ps.length (ucells ps) := by rw [hpl3]; exact hoa
        replace hpl3 := Lib.hid hpl3
        have hb10 := hb06.trans ((hb9.trans (hbe.mono hs9)).mono hb06.size)
        clear hbe hb9 hb06
        haveI l6 : LeC w.heap.size wc.heap.size := ⟨hb10.size⟩
        go_wp2_with (go_at_call 18; fail)
        refine (equal_any _ _ _ _ _ hre2 hoa2).mono ?_
        rintro e w11 ⟨rfl, hb11⟩
        haveI hx11 := ExtC.mk hb11
        rw [decide_eq_true (rfl : ps = ps)]
        go_wp2
        exact bodyPost_ret (v := (.bool true)) (by simp (maxDischargeDepth := 6) [results, Try.results7, go_sem]) rfl ⟨rfl, by (repeat' (first | (with_reducible exact Below.refl _ _) | (with_reducible refine Below.alloc ?_ ?_ _) | (with_reducible refine Below.setCell ?_ ?_ _) | (with_reducible refine Below.drew ?_) | (with_reducible refine below_step ?_ (by assumption) ?_) | (with_reducible exact leC) | go_size))⟩
end Go.Proofs.Ytmfohpfecpgbpaa
