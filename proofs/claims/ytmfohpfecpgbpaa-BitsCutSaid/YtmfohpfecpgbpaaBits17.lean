/- The law BitsOne walked. No condition. -/
import Derived.Test.YtmfohpfecpgbpaaBits16
namespace Go.Proofs.Ytmfohpfecpgbpaa
open Go.RowKit
attribute [local go_sem] cellI frozenI cellOf_is frozenOf_is cellA frozenA setCellA
attribute [-go_sem] run_min_int2 run_max_int2

/-- A slice of the call's own, opened: its block. -/
theorem owns_open {w : World} {base : Nat} {e : TypeId} {v : Value} {n : Nat} {xs : List Value} (h : w.ownsRow base e 1 v n xs) (hn : n ≠ 0) :
    ∃ g cap cur, v = .slice (some ⟨g, 0, none⟩) n cap ∧ base ≤ g ∧ g < w.heap.size ∧ n ≤ cap ∧ cap ≤ 9223372036854775807 ∧ w.heap[g]? = some (.cells cur e (0, 0)) ∧ n ≤ cur.size ∧ cur.toList.take n = xs := by
  have hlt := h.lt
  rcases h.2 with ⟨_, h0⟩ | ⟨g, cap, cur, rfl, h3, hg, h4, h5, h6, h7⟩
  · exact absurd h0 hn
  · exact ⟨g, cap, cur, rfl, h3, (hlt g rfl).2, h4, by unfold maxLen at h5; omega, hg, by rw [h6]; omega, by simpa using h7⟩
theorem RowIs.of_cur {w : World} {g n cap : Nat} {cur : Array Value} {e : TypeId} {fr : Nat × Nat} {cs : List Value} (h : w.heap[g]? = some (.cells cur e fr)) (hn : n ≤ cap) (hc : cap ≤ 9223372036854775807) (ht : cur.toList.take n = cs) : RowIs w (.slice (some ⟨g, 0, none⟩) n cap) n cs :=
  ⟨_, cap, rfl, hn, hc, fun _ => ⟨g, 0, rfl⟩, fun g' f' ha j u hj => by
    have := Option.some.inj ha
    simp only [Addr.mk.injEq] at this
    obtain ⟨rfl, rfl, _⟩ := this
    rw [Nat.zero_add, Go.cell_of_row _ _ _ _ _ _ h]
    rw [← ht, List.getElem?_take] at hj
    split at hj
    · simpa using hj
    · cases hj⟩
theorem RowIs.at_ {w : World} {g f n cap m : Nat} {cs : List Value} (h : RowIs w (.slice (some ⟨g, f, none⟩) n cap) m cs) : ∀ j u, cs[j]? = some u → w.cell? ⟨g, f + j, none⟩ = some u := by
  obtain ⟨o, cap', h1, _, _, _, h2⟩ := h
  simp only [Value.slice.injEq] at h1
  exact h2 g f h1.1.symm
theorem cell_other {w : World} {a b : Addr} {v u : Value} (h : w.cell? a = some v) (hne : a.block ≠ b.block) : (w.setCell b u).cell? a = some v :=
  (World.cell?_of_block (Go.heap_setCell_other w b a.block u hne)).trans h
theorem RowIs.other {w : World} {g f n cap m : Nat} {cs : List Value} {b : Addr} {u : Value} (h : RowIs w (.slice (some ⟨g, f, none⟩) n cap) m cs) (hne : g ≠ b.block) : RowIs (w.setCell b u) (.slice (some ⟨g, f, none⟩) n cap) m cs := by
  obtain ⟨o, cap', h1, h2, h3, h4, h5⟩ := h
  simp only [Value.slice.injEq] at h1
  obtain ⟨rfl, rfl, rfl⟩ := h1
  refine ⟨_, _, rfl, h2, h3, h4, fun g' f' ha j v hj => cell_other (h5 g' f' ha j v hj) ?_⟩
  have := Option.some.inj ha
  simp only [Addr.mk.injEq] at this
  rw [← this.1]
  exact hne
theorem ints_other {k : IntKind} {w : World} {g f n cap : Nat} {xs : List Int} {b : Addr} {u : Value} (h : IntsArg k w (.slice (some ⟨g, f, none⟩) n cap) xs) (hne : g ≠ b.block) : IntsArg k (w.setCell b u) (.slice (some ⟨g, f, none⟩) n cap) xs := by
  rcases h with ⟨h1, _⟩ | ⟨a, cap', h1, h2, h3, hc, hwf⟩
  · simp at h1
  · simp only [Value.slice.injEq, Option.some.injEq] at h1
    obtain ⟨rfl, rfl, rfl⟩ := h1
    exact Or.inr ⟨_, _, rfl, h2, h3, fun i hi => cell_other (hc i hi) (by rw [Addr.add_lit]; exact hne), hwf⟩
theorem take_set {α : Type} (l : List α) (n i : Nat) (u : α) : (l.set i u).take n = (l.take n).set i u := by
  apply List.ext_getElem
  · simp
  · intro k h1 h2
    simp [List.getElem_set]
set_option maxRecDepth 100000 in
set_option maxHeartbeats 3200000 in
theorem bitsOne_any (n : Nat) (v : Value) (xs : List Int) (x0 x1 x2 : Nat) (w : World) (hn : n < 18446744073709551616) (h0 : x0 < 256) (h1 : x1 < 256) (h2 : x2 < 256) (h : IntsArg .i64 w v xs) :
    Calls Try.prog 6 #[.int .u64 n, v, .agg #[.int .u8 x0, .int .u8 x1, .int .u8 x2]] w fun e w' => e = .returned (.bool true) ∧ Below w.heap.size w w' := by
  go_enter Try.func6, Try.ntmps6
  go_wp2_with (go_at_call 13; fail)
  have hX1 : (w.alloc (.cells #[.int .u8 x0, .int .u8 x1, .int .u8 x2] 51)).cell? ⟨w.heap.size, 1, none⟩ = some (.int .u8 x1) := by rw [Go.cell_of_row _ _ _ _ _ _ (Go.heap_alloc_new _ _)]; rfl
  have hX2 : (w.alloc (.cells #[.int .u8 x0, .int .u8 x1, .int .u8 x2] 51)).cell? ⟨w.heap.size, 2, none⟩ = some (.int .u8 x2) := by rw [Go.cell_of_row _ _ _ _ _ _ (Go.heap_alloc_new _ _)]; rfl
  have hb0 : Below w.heap.size w (w.alloc (.cells #[.int .u8 x0, .int .u8 x1, .int .u8 x2] 51)) := by (repeat' (first | (with_reducible exact Below.refl _ _) | (with_reducible refine Below.alloc ?_ ?_ _) | (with_reducible refine Below.setCell ?_ ?_ _) | (with_reducible refine Below.drew ?_) | (with_reducible refine below_step ?_ (by assumption) ?_) | (with_reducible exact leC) | go_size))
  have hs0 : w.heap.size < (w.alloc (.cells #[.int .u8 x0, .int .u8 x1, .int .u8 x2] 51)).heap.size := by simp
  generalize w.alloc (.cells #[.int .u8 x0, .int .u8 x1, .int .u8 x2] 51) = W0 at *
  replace h := ints_mono h hb0
  refine ((whole_any x0 0 _ xs W0 (by omega) h)).mono ?_
  rintro e w1 ⟨v1, rfl, hb1, ⟨s, rfl, hown⟩⟩
  haveI hx1 := ExtC.mk hb1
  first | (replace hX1 := cell_mono hX1 hb1) | (replace hX1 := RowIs.mono hX1 hb1) | (replace hX1 := ints_mono hX1 hb1) | (replace hX1 := ownsRow_below hX1 hb1) | (replace hX1 := block_mono hX1 hb1)
  first | (replace hX2 := cell_mono hX2 hb1) | (replace hX2 := RowIs.mono hX2 hb1) | (replace hX2 := ints_mono hX2 hb1) | (replace hX2 := ownsRow_below hX2 hb1) | (replace hX2 := block_mono hX2 hb1)
  clear h
  have hT := totalAt_in ((x0 : Int) % 5).toNat
  have hgood := ints_of_owns hown (wholeL_wf _ _ (by omega) hT.2)
  have hgo := totalAt_goes (q := ((x0 : Int) % 5).toNat) (xs := xs.take 70)
  generalize wholeL (totalAt ((x0 : Int) % 5).toNat) (xs.take 70) = gs at *
  generalize totalAt ((x0 : Int) % 5).toNat = T at *
  obtain ⟨T, rfl⟩ := Int.eq_ofNat_of_zero_le (show 0 ≤ T by omega)
  obtain ⟨hT1, hT2⟩ := hT
  obtain ⟨_, _, hgl⟩ := goesV_split hgo
  have hgn : gs.length ≠ 0 := fun h0 => by
    have := List.eq_nil_of_length_eq_zero h0
    rw [this] at hgl
    simp [goesL] at hgl
    omega
  obtain ⟨gg, capg, curg, rfl, hgg1, hgg2, hgg3, hgg4, hgg5, hgg6, hgg7⟩ := owns_open hown hgn
  clear hgg5 hgg6 hgg7 hown
  go_wp2_with (go_at_call 19; fail)
  refine (rmask_any T w1 (by omega)).mono ?_
  rintro e w2 ⟨rfl, hb2⟩
  haveI hx2 := ExtC.mk hb2
  first | (replace hX1 := cell_mono hX1 hb2) | (replace hX1 := RowIs.mono hX1 hb2) | (replace hX1 := ints_mono hX1 hb2) | (replace hX1 := ownsRow_below hX1 hb2) | (replace hX1 := block_mono hX1 hb2)
  first | (replace hX2 := cell_mono hX2 hb2) | (replace hX2 := RowIs.mono hX2 hb2) | (replace hX2 := ints_mono hX2 hb2) | (replace hX2 := ownsRow_below hX2 hb2) | (replace hX2 := block_mono hX2 hb2)
  first | (replace hgood := cell_mono hgood hb2) | (replace hgood := RowIs.mono hgood hb2) | (replace hgood := ints_mono hgood hb2) | (replace hgood := ownsRow_below hgood hb2) | (replace hgood := block_mono hgood hb2)
  have hmk := u64_and_full n T hn (by omega)
  have hlt : n % 2 ^ T < 2 ^ T := Nat.mod_lt _ (Nat.pow_pos (by omega))
  have hp := pow_64 (show T ≤ 64 by omega)
  obtain ⟨N, hN⟩ : ∃ N, n % 2 ^ T = N := ⟨_, rfl⟩
  rw [hN] at hmk hlt
  have hN64 : N < 18446744073709551616 := by omega
  have hsv := splitV_ok hgo hlt
  have hpu := partsL_u64 hN64 (layL T gs)
  have hpl := partsL_len N T gs
  replace hN := Lib.hid hN
  go_wp2_with (go_at_call 14; fail)
  refine ((split_any N T _ gs _ hN64 hgood)).mono ?_
  rintro e w3 ⟨v3, rfl, hb3, hr⟩
  haveI hx3 := ExtC.mk hb3
  obtain ⟨a, rfl, hoa⟩ := split_is hr
  rw [hsv] at hoa ⊢
  simp only at hoa ⊢
  rw [hpl] at hoa
  clear hr hsv
  obtain ⟨ga, capa, cura, rfl, hga1, hga2, hga3, hga4, hga5, hga6, hga7⟩ := owns_open hoa hgn
  first | (replace hX1 := cell_mono hX1 hb3) | (replace hX1 := RowIs.mono hX1 hb3) | (replace hX1 := ints_mono hX1 hb3) | (replace hX1 := ownsRow_below hX1 hb3) | (replace hX1 := block_mono hX1 hb3)
  first | (replace hX2 := cell_mono hX2 hb3) | (replace hX2 := RowIs.mono hX2 hb3) | (replace hX2 := ints_mono hX2 hb3) | (replace hX2 := ownsRow_below hX2 hb3) | (replace hX2 := block_mono hX2 hb3)
  first | (replace hgood := cell_mono hgood hb3) | (replace hgood := RowIs.mono hgood hb3) | (replace hgood := ints_mono hgood hb3) | (replace hgood := ownsRow_below hgood hb3) | (replace hgood := block_mono hgood hb3)
  go_wp2_with (go_at_call 8; fail)
  refine ((lay_any T _ gs _ hgood)).mono ?_
  rintro e w4 ⟨v4, rfl, hb4, hr⟩
  haveI hx4 := ExtC.mk hb4
  obtain ⟨r, ⟨hr1, _⟩ | ⟨_, rfl, hof⟩⟩ := hr
  · rw [hgo] at hr1; cases hr1
  have hlf := hof.lt
  have hrf := RowIs.of_owns hof
  obtain ⟨of_, capf, rfl, hf1, hf2, hf3, hf4⟩ := id hrf
  obtain ⟨gf, ff, rfl⟩ := RowIs.addr hf3 0 (by omega)
  have hgf := hlf gf rfl
  clear hf4 hlf
  first | (replace hX1 := cell_mono hX1 hb4) | (replace hX1 := RowIs.mono hX1 hb4) | (replace hX1 := ints_mono hX1 hb4) | (replace hX1 := ownsRow_below hX1 hb4) | (replace hX1 := block_mono hX1 hb4)
  first | (replace hX2 := cell_mono hX2 hb4) | (replace hX2 := RowIs.mono hX2 hb4) | (replace hX2 := ints_mono hX2 hb4) | (replace hX2 := ownsRow_below hX2 hb4) | (replace hX2 := block_mono hX2 hb4)
  first | (replace hgood := cell_mono hgood hb4) | (replace hgood := RowIs.mono hgood hb4) | (replace hgood := ints_mono hgood hb4) | (replace hgood := ownsRow_below hgood hb4) | (replace hgood := block_mono hgood hb4)
  first | (replace hga5 := cell_mono hga5 hb4) | (replace hga5 := RowIs.mono hga5 hb4) | (replace hga5 := ints_mono hga5 hb4) | (replace hga5 := ownsRow_below hga5 hb4) | (replace hga5 := block_mono hga5 hb4)
  go_wp2_with (go_at_call 12; fail)
  refine (wakes_any _).mono ?_
  rintro e w5 ⟨rfl, hb5⟩
  haveI hx5 := ExtC.mk hb5
  first | (replace hX1 := cell_mono hX1 hb5) | (replace hX1 := RowIs.mono hX1 hb5) | (replace hX1 := ints_mono hX1 hb5) | (replace hX1 := ownsRow_below hX1 hb5) | (replace hX1 := block_mono hX1 hb5)
  first | (replace hX2 := cell_mono hX2 hb5) | (replace hX2 := RowIs.mono hX2 hb5) | (replace hX2 := ints_mono hX2 hb5) | (replace hX2 := ownsRow_below hX2 hb5) | (replace hX2 := block_mono hX2 hb5)
  first | (replace hgood := cell_mono hgood hb5) | (replace hgood := RowIs.mono hgood hb5) | (replace hgood := ints_mono hgood hb5) | (replace hgood := ownsRow_below hgood hb5) | (replace hgood := block_mono hgood hb5)
  first | (replace hga5 := cell_mono hga5 hb5) | (replace hga5 := RowIs.mono hga5 hb5) | (replace hga5 := ints_mono hga5 hb5) | (replace hga5 := ownsRow_below hga5 hb5) | (replace hga5 := block_mono hga5 hb5)
  first | (replace hrf := cell_mono hrf hb5) | (replace hrf := RowIs.mono hrf hb5) | (replace hrf := ints_mono hrf hb5) | (replace hrf := ownsRow_below hrf hb5) | (replace hrf := block_mono hrf hb5)
  obtain ⟨i, hi, hil⟩ : ∃ i : Nat, (x1 : Int) % (gs.length : Int) = (i : Int) ∧ i < gs.length := ⟨x1 % gs.length, by omega, Nat.mod_lt _ (by omega)⟩
  have hlk : i < (layL T gs).length := by rw [layL_len]; exact hil
  have hcg : w5.cell? ⟨gg, i, none⟩ = some (.int .i64 gs[i]) := by
    have := RowIs.at_ (RowIs.of_ints hgood) i (.int .i64 gs[i]) (by simp [hil])
    rwa [Nat.zero_add] at this
  have hcf := RowIs.at_ hrf
  obtain ⟨hcf1, hcf2⟩ := fcells_get _ i hlk
  have hcfi := hcf _ _ hcf1
  have hxg : (layL T gs)[i].2 = gs[i] := by
    have : ∀ (xs : List Int) (t : Int) (k : Nat) (h1 : k < (layL t xs).length) (h2 : k < xs.length), (layL t xs)[k].2 = xs[k] := by
      intro xs
      induction xs with
      | nil => intro t k h1 h2; simp at h2
      | cons y ys ih =>
        intro t k h1 h2
        cases k with
        | zero => rfl
        | succ k => simpa [layL] using ih (t - y) k (by simpa [layL] using h1) (by simpa using h2)
    exact this _ _ _ _ _
  have hin := lay_in gs T hgl _ (List.getElem_mem hlk)
  obtain ⟨B, W, hBW⟩ : ∃ B W : Nat, (layL T gs)[i] = ((B : Int), (W : Int)) := ⟨(layL T gs)[i].1.toNat, (layL T gs)[i].2.toNat, by rw [Int.toNat_of_nonneg (by omega), Int.toNat_of_nonneg (by omega)]⟩
  rw [← hxg] at hcg
  rw [hBW] at hcg hcfi hin
  simp only at hcg hcfi hin
  obtain ⟨_, hin2, hin3⟩ := hin
  have hBWb : B ≤ 63 ∧ 1 ≤ W ∧ W ≤ 64 ∧ B + W ≤ T := by omega
  obtain ⟨hB63, hW1, hW64, hBWT⟩ := hBWb
  obtain ⟨z, hz, hzW⟩ : ∃ z, x2 % 2 ^ W = z ∧ z < 2 ^ W := ⟨_, rfl, Nat.mod_lt _ (Nat.pow_pos (by omega))⟩
  have hzk := u64_and_full x2 W (by omega) hW64
  rw [hz] at hzk
  have hz64 : z < 18446744073709551616 := by have := pow_64 hW64; omega
  have hset := parts_set (n := N) (T := T) hgl (by omega) hlk hBW hzW
  have hoth := fun k hk hne => part_other (n := N) (T := T) (k := k) hgl (by omega) hlk hBW hzW hk hne
  have hN2 := xor_lt hlt hzW hBWT
  have hzB : z * 2 ^ B < 18446744073709551616 := by
    have e1 : z * 2 ^ B < 2 ^ W * 2 ^ B := Nat.mul_lt_mul_of_pos_right hzW (Nat.pow_pos (by omega))
    rw [← Nat.pow_add] at e1
    have e2 := pow_64 (show W + B ≤ 64 by omega)
    omega
  have hshl := u64_shl z B hzB
  have hback := xor_back N (z * 2 ^ B)
  obtain ⟨M, hM⟩ : ∃ M, N ^^^ z * 2 ^ B = M := ⟨_, rfl⟩
  rw [hM] at hset hoth hN2 hback
  replace hM := Lib.hid hM
  have hM64 : M < 18446744073709551616 := by have := pow_64 (show T ≤ 64 by omega); omega
  have hMN := u64_xor M N hM64 hN64
  rw [hback] at hMN
  obtain ⟨Q, hQ⟩ : ∃ Q, z * 2 ^ B = Q := ⟨_, rfl⟩
  rw [hQ] at hMN hshl
  replace hQ := Lib.hid hQ
  have hjv := joinV_split hgo hN2
  have hpu2 := partsL_u64 hM64 (layL T gs)
  have hpl2 := partsL_len M T gs
  -- the part's own cell
  have hpi : i < (partsL N (layL T gs)).length := by rw [hpl]; exact hil
  have hpv : (partsL N (layL T gs))[i] = partV N B W := by simp [partsL, hBW]
  have hpb := hpu _ (List.getElem_mem hpi)
  rw [hpv] at hpb
  have hca : w5.cell? ⟨ga, i, none⟩ = some (.int .u64 (partV N B W : Nat)) := by
    rw [Go.cell_of_row _ _ _ _ _ _ hga5]
    have := ucells_get _ i hpi
    rw [← hga7, List.getElem?_take, if_pos hil, hpv] at this
    simpa using this
  have hfa := Go.frozen_of_row w5 ga i _ _ hga5
  have hxz := u64_xor (partV N B W) z hpb hz64
  obtain ⟨pv, hpvv⟩ : ∃ pv, partV N B W = pv := ⟨_, rfl⟩
  rw [hpvv] at hca hxz hset hpb
  replace hpvv := Lib.hid hpvv
  haveI l1 : LtC ga w5.heap.size := ⟨lt_of_block hga5⟩
  haveI l2 : LtC gg w5.heap.size := ⟨Go.block_lt_of_cell hcg⟩
  haveI l3 : LtC w.heap.size w5.heap.size := ⟨Go.block_lt_of_cell hX2⟩
  have hgn0 : ((gs.length : Int) == 0) = false := by simpa using hgn
  have hgne : ((gs.length : Int) != (gs.length : Int)) = false := by simp
  replace hgl := Lib.hid hgl
  replace hset := Lib.hid hset
  replace hoth := Lib.hid hoth
  replace hcf := Lib.hid hcf
  replace hpl := Lib.hid hpl
  replace hpl2 := Lib.hid hpl2
  replace hga7 := Lib.hid hga7
  replace hpu := Lib.hid hpu
  replace hpu2 := Lib.hid hpu2
  replace hBW := Lib.hid hBW
  replace hz := Lib.hid hz
  replace hpv := Lib.hid hpv
  replace hjv := Lib.hid hjv
  replace hxg := Lib.hid hxg
  clear hmk hback hcf1 hcf2 hf1
  go_wp2
  refine steady_tail 15 (by kernel_rfl) (by kernel_rfl) ?_
  simp only [List.take_succ_cons, List.take_zero, List.drop_succ_cons, List.drop_zero]
  repeat (first | go_big_quiet_skip | (go_big_quiet_want; go_big_quiet_op; first | go_big_quiet_on | (apply Exists.intro; refine ⟨fun _ => ?_, ?_⟩; (focus (((go_at_call 19; (first | with_reducible exact Calls.steady (rmask_any W _ hW64)))))); go_big_quiet_on)))
  refine wpQuiet_nil ?_
  rintro w6 ⟨⟨_, hb6⟩, rfl⟩
  haveI hx6 := ExtC.mk hb6
  try dsimp only
  go_wp2_with (go_at_call 16; fail)
  have hs12 := hb2.size
  have hs23 := hb3.size
  have hs34 := hb4.size
  have hs01 := hb1.size
  have hs45 := hb5.size
  have hs56 := hb6.size
  have n1 : gg ≠ ga := by omega
  have n2 : gf ≠ ga := by omega
  have n3 : w.heap.size ≠ ga := by omega
  first | (replace hX1 := cell_mono hX1 hb6) | (replace hX1 := RowIs.mono hX1 hb6) | (replace hX1 := ints_mono hX1 hb6) | (replace hX1 := ownsRow_below hX1 hb6) | (replace hX1 := block_mono hX1 hb6)
  first | (replace hX2 := cell_mono hX2 hb6) | (replace hX2 := RowIs.mono hX2 hb6) | (replace hX2 := ints_mono hX2 hb6) | (replace hX2 := ownsRow_below hX2 hb6) | (replace hX2 := block_mono hX2 hb6)
  first | (replace hgood := cell_mono hgood hb6) | (replace hgood := RowIs.mono hgood hb6) | (replace hgood := ints_mono hgood hb6) | (replace hgood := ownsRow_below hgood hb6) | (replace hgood := block_mono hgood hb6)
  first | (replace hga5 := cell_mono hga5 hb6) | (replace hga5 := RowIs.mono hga5 hb6) | (replace hga5 := ints_mono hga5 hb6) | (replace hga5 := ownsRow_below hga5 hb6) | (replace hga5 := block_mono hga5 hb6)
  first | (replace hrf := cell_mono hrf hb6) | (replace hrf := RowIs.mono hrf hb6) | (replace hrf := ints_mono hrf hb6) | (replace hrf := ownsRow_below hrf hb6) | (replace hrf := block_mono hrf hb6)
  have hra9 : RowIs (w6.setCell ⟨ga, i, none⟩ (.int .u64 ((pv ^^^ z : Nat) : Int))) (.slice (some ⟨ga, 0, none⟩) gs.length capa) (partsL M (layL T gs)).length (ucells (partsL M (layL T gs))) := by
    rw [hpl2.out]
    refine RowIs.of_cur (Go.heap_setCell_same w6 ga i _ _ _ hga5) hga3 hga4 ?_
    rw [Array.toList_setIfInBounds, take_set, hga7.out, hset.out]
    simp [ucells, List.map_set]
  have hX2b := cell_other (b := ⟨ga, i, none⟩) (u := .int .u64 ((pv ^^^ z : Nat) : Int)) hX2 n3
  have hgoodb := ints_other (b := ⟨ga, i, none⟩) (u := .int .u64 ((pv ^^^ z : Nat) : Int)) hgood n1
  have hrfb := RowIs.other (b := ⟨ga, i, none⟩) (u := .int .u64 ((pv ^^^ z : Nat) : Int)) hrf n2
  have hb9 : Below w.heap.size w (w6.setCell ⟨ga, i, none⟩ (.int .u64 ((pv ^^^ z : Nat) : Int))) := by
    refine Below.setCell ?_ (by show w.heap.size ≤ ga; omega) _
    (repeat' (first | (with_reducible exact Below.refl _ _) | (with_reducible refine Below.alloc ?_ ?_ _) | (with_reducible refine Below.setCell ?_ ?_ _) | (with_reducible refine Below.drew ?_) | (with_reducible refine below_step ?_ (by assumption) ?_) | (with_reducible exact leC) | go_size))
  clear hX1 hX2 hgood hrf hga5 hb0 hb1 hb2 hb3 hb4 hb5 hb6 hx1 hx2 hx3 hx4 hx5 hx6 hca hcg hcfi hfa l1 l2 l3 hs45 hs56 hs0 hs01 hs12 hs23 hs34 hga1 hga2 hgg1 hgg2
  generalize w6.setCell ⟨ga, i, none⟩ (.int .u64 ((pv ^^^ z : Nat) : Int)) = W9 at *
  refine (join_any (partsL M (layL T gs)) _ T _ gs W9 hpu2.out hra9 hgoodb).mono ?_
  rintro e w10 ⟨rfl, hb10⟩
  haveI hx10 := ExtC.mk hb10
  rw [hjv.out]
  simp only
  first | (replace hX2b := cell_mono hX2b hb10) | (replace hX2b := RowIs.mono hX2b hb10) | (replace hX2b := ints_mono hX2b hb10) | (replace hX2b := ownsRow_below hX2b hb10) | (replace hX2b := block_mono hX2b hb10)
  first | (replace hgoodb := cell_mono hgoodb hb10) | (replace hgoodb := RowIs.mono hgoodb hb10) | (replace hgoodb := ints_mono hgoodb hb10) | (replace hgoodb := ownsRow_below hgoodb hb10) | (replace hgoodb := block_mono hgoodb hb10)
  first | (replace hrfb := cell_mono hrfb hb10) | (replace hrfb := RowIs.mono hrfb hb10) | (replace hrfb := ints_mono hrfb hb10) | (replace hrfb := ownsRow_below hrfb hb10) | (replace hrfb := block_mono hrfb hb10)
  have hs9 := hb9.size
  have hs10 := hb10.size
  have hcg : w10.cell? ⟨gg, i, none⟩ = some (.int .i64 W) := by
    have := RowIs.at_ (RowIs.of_ints hgoodb) i (.int .i64 gs[i]) (by simp [hil])
    rw [Nat.zero_add, ← hxg.out, hBW.out] at this
    exact this
  have hcf := RowIs.at_ hrfb
  have hcfi : w10.cell? ⟨gf, ff + i * 2, none⟩ = some (.int .i64 B) := by
    have := hcf _ _ (fcells_get _ i hlk).1
    rw [hBW.out] at this
    exact this
  haveI l2 : LtC gg w10.heap.size := ⟨Go.block_lt_of_cell hcg⟩
  haveI l3 : LtC w.heap.size w10.heap.size := ⟨Go.block_lt_of_cell hX2b⟩
  haveI l4 : LtC gf w10.heap.size := ⟨Go.block_lt_of_cell hcfi⟩
  haveI l5 : LeC w.heap.size w10.heap.size := ⟨by omega⟩
  have hminB : min B 64 = B := by omega
  have hQQ : ((Q : Int) != (Q : Int)) = false := by simp
  go_wp2
  refine steady_region (by kernel_rfl) (by kernel_rfl) ?_
  repeat (first | go_big_quiet_skip | (go_big_quiet_want; go_big_quiet_op; first | go_big_quiet_on | (apply Exists.intro; refine ⟨fun _ => ?_, ?_⟩; (focus (((go_at_call 19; (first | with_reducible exact Calls.steady (rmask_any W _ hW64)))))); go_big_quiet_on)))
  refine wpQuiet_nil ?_
  rintro w11 ⟨⟨_, hb11⟩, rfl⟩
  haveI hx11 := ExtC.mk hb11
  try dsimp only
  go_wp2
  have hll := layL_len T gs
  replace hll := Lib.hid hll
  go_loopw [119] (fun i wr => ∃ k : Nat, k ≤ gs.length ∧ i = .int .i64 k ∧ Below w10.heap.size w10 wr) (fun i _ => gs.length - (intOf i).toNat)
  case atStart => exact ⟨0, by omega, rfl, hb11⟩
  case round =>
    obtain ⟨k, hk, rfl, hbr⟩ := hrel
    have hsr := hbr.size
    haveI l6 : LeC w.heap.size wr.heap.size := ⟨by omega⟩
    by_cases hkl : k < gs.length
    · have hkll : k < (layL T gs).length := by rw [hll.out]; exact hkl
      obtain ⟨hg1, hg2⟩ := fcells_get _ k hkll
      have hd1 := hcf _ _ hg1
      have hd2 := hcf _ _ hg2
      rw [← Nat.add_assoc] at hd2
      have hin4 := lay_in gs T hgl.out _ (List.getElem_mem hkll)
      have hoo := fun hne => hoth.out k hkll hne
      generalize (layL T gs)[k] = p at *
      obtain ⟨b, c⟩ := p
      simp only at hd1 hd2 hin4 hoo
      obtain ⟨hin5, hin6, hin7⟩ := hin4
      first | (replace hd1 := cell_mono hd1 hbr) | (replace hd1 := RowIs.mono hd1 hbr) | (replace hd1 := ints_mono hd1 hbr) | (replace hd1 := ownsRow_below hd1 hbr) | (replace hd1 := block_mono hd1 hbr)
      first | (replace hd2 := cell_mono hd2 hbr) | (replace hd2 := RowIs.mono hd2 hbr) | (replace hd2 := ints_mono hd2 hbr) | (replace hd2 := ownsRow_below hd2 hbr) | (replace hd2 := block_mono hd2 hbr)
      haveI l7 : LtC gf wr.heap.size := ⟨Go.block_lt_of_cell hd1⟩
      clear hcf hg1 hg2 hcfi hcg hX2b hrfb hgoodb hra9
      by_cases hki : k = i
      · subst hki
        go_wp2
        refine steady_region (by kernel_rfl) (by kernel_rfl) ?_
        repeat (first | go_big_quiet_skip | (go_big_quiet_want; go_big_quiet_op; first | go_big_quiet_on | (apply Exists.intro; refine ⟨fun _ => ?_, ?_⟩; (focus ((fail))); go_big_quiet_on)))
        refine wpQuiet_nil ?_
        rintro w12 ⟨⟨_, hb12⟩, rfl⟩
        haveI hx12 := ExtC.mk hb12
        try dsimp only
        go_wp2
        have hbn : Below w10.heap.size w10 w12 := hbr.trans ((((Below.refl _ wr).alloc (Nat.le_refl _) _).trans (hb12.mono (by simp))).mono hsr)
        go_roundw
        case rel => exact ⟨k + 1, by omega, by go_num, hbn⟩
        case measure => simp [intOf] <;> omega
      · have hne : ((k : Int) != (i : Int)) = true := by simp; omega
        have hoo2 := hoo hki
        clear hoo
        have kM := fun w => get_any b c M w hM64 ⟨by omega, by omega⟩ ⟨by omega, by omega⟩
        have kN := fun w => get_any b c N w hN64 ⟨by omega, by omega⟩ ⟨by omega, by omega⟩
        rw [hoo2] at kM
        generalize partV N b c = P at *
        clear hki hoo2
        go_wp2
        refine steady_region (by kernel_rfl) (by kernel_rfl) ?_
        repeat (first | go_big_quiet_skip | (go_big_quiet_want; go_big_quiet_op; first | go_big_quiet_on | (apply Exists.intro; refine ⟨fun _ => ?_, ?_⟩; (focus (((go_at_call 10; (first | with_reducible exact Calls.steady (kM _) | with_reducible exact Calls.steady (kN _)))))); go_big_quiet_on)))
        refine wpQuiet_nil ?_
        rintro w12 ⟨⟨_, hb12⟩, rfl⟩
        haveI hx12 := ExtC.mk hb12
        try dsimp only
        go_wp2
        have hbn : Below w10.heap.size w10 w12 := hbr.trans ((((Below.refl _ wr).alloc (Nat.le_refl _) _).trans (hb12.mono (by simp))).mono hsr)
        go_roundw
        case rel => exact ⟨k + 1, by omega, by go_num, hbn⟩
        case measure => simp [intOf] <;> omega
    · obtain rfl : k = gs.length := by omega
      have hbn : Below w.heap.size w wr := (hb9.trans (hb10.mono hs9)).trans (hbr.mono (Nat.le_trans hs9 hs10))
      clear hbr hb9 hb10 hcf hcfi hcg hX2b hrfb hgoodb hra9
      go_wp2
      exact bodyPost_ret (v := (.bool true)) (by simp (maxDischargeDepth := 6) [results, Try.results6, go_sem]) rfl ⟨rfl, by (repeat' (first | (with_reducible exact Below.refl _ _) | (with_reducible refine Below.alloc ?_ ?_ _) | (with_reducible refine Below.setCell ?_ ?_ _) | (with_reducible refine Below.drew ?_) | (with_reducible refine below_step ?_ (by assumption) ?_) | (with_reducible exact leC) | go_size))⟩
end Go.Proofs.Ytmfohpfecpgbpaa
