/- The law BitsSplit walked. No condition. -/
import Derived.Test.YtmfohpfecpgbpaaBits14
namespace Go.Proofs.Ytmfohpfecpgbpaa
open Go.RowKit
attribute [local go_sem] cellI frozenI cellOf_is frozenOf_is cellA frozenA setCellA
attribute [-go_sem] run_min_int2 run_max_int2

def splitV (n : Nat) (total : Int) (xs : List Int) : List Nat × Int :=
  if goesV total xs = false then ([], 2) else if n < 2 ^ total.toNat then (partsL n (layL total xs), 0) else ([], 5)
theorem partsL_len (n : Nat) (t : Int) (xs : List Int) : (partsL n (layL t xs)).length = xs.length := by simp [partsL, layL_len]
theorem split_is {W w : World} {n : Nat} {total : Int} {xs : List Int} {v : Value} (h : SplitIs W n total xs v w) :
    ∃ a, v = .tuple #[a, .int .i64 (splitV n total xs).2] ∧ w.ownsRow W.heap.size 23 1 a (splitV n total xs).1.length (ucells (splitV n total xs).1) := by
  obtain ⟨r, ⟨h1, rfl⟩ | ⟨h1, h2, rfl⟩ | ⟨h1, h2, rfl, h3⟩⟩ := h
  · exact ⟨.slice none 0 0, by simp [splitV, h1], by simpa [splitV, h1, ucells] using World.ownsRow_nil _ _ _ _⟩
  · exact ⟨.slice none 0 0, by simp [splitV, h1, h2], by simpa [splitV, h1, h2, ucells] using World.ownsRow_nil _ _ _ _⟩
  · exact ⟨r, by simp [splitV, h1, h2], by simpa [splitV, h1, h2, partsL_len] using h3⟩
/-- A slice of uint64's that came in, as numbers. -/
theorem row_of_u64 {w : World} {v : Value} {us : List Int} (h : IntsArg .u64 w v us) : ∃ ps : List Nat, (∀ p ∈ ps, p < 18446744073709551616) ∧ ps.length = us.length ∧ RowIs w v ps.length (ucells ps) := by
  have hwf := ints_wf h
  refine ⟨us.map Int.toNat, fun p hp => ?_, by simp, ?_⟩
  · obtain ⟨x, hx, rfl⟩ := List.mem_map.1 hp
    have := wf_u64 (hwf x hx)
    omega
  · have e : ucells (us.map Int.toNat) = us.map (Value.int .u64) := by
      rw [ucells, List.map_map]
      refine List.map_congr_left fun x hx => ?_
      have := wf_u64 (hwf x hx)
      simp only [Function.comp]
      congr 1
      omega
    rw [e, List.length_map]
    exact RowIs.of_ints h
theorem goesL_whole : ∀ (xs : List Int) (L : Int), 0 ≤ L → goesL L (wholeL L xs) = true
  | [], L, h => by
    unfold wholeL
    split
    · simp [goesL]; omega
    · simp [goesL]; omega
  | x :: xs, L, h => by
    unfold wholeL
    split
    · simp [goesL]; omega
    · have h1 : 0 ≤ max 0 x % L ∧ max 0 x % L < L := ⟨Int.emod_nonneg _ (by omega), Int.emod_lt_of_pos _ (by omega)⟩
      generalize max 0 x % L = R at *
      unfold goesL
      rw [if_neg (by omega)]
      exact goesL_whole xs _ (by omega)
theorem wholeL_wf (xs : List Int) (L : Int) (h : 0 ≤ L) (h1 : L ≤ 64) : ∀ x ∈ wholeL L xs, (Lit.int .i64 x).wf = true := by
  have key : ∀ (ys : List Int) (t : Int), goesL t ys = true → t ≤ 64 → ∀ x ∈ ys, 1 ≤ x ∧ x ≤ 64 := by
    intro ys
    induction ys with
    | nil => intro t _ _ x hx; cases hx
    | cons y ys ih =>
      intro t ht h64 x hx
      obtain ⟨a, b, c⟩ := goesL_cons ht
      rcases List.mem_cons.1 hx with rfl | hx
      · omega
      · exact ih _ c (by omega) x hx
  intro x hx
  have := key _ L (goesL_whole xs L h) h1 x hx
  exact wf_small (by omega) (by omega)
theorem totalAt_in (q : Nat) : 1 ≤ totalAt q ∧ totalAt q ≤ 64 := by
  match q with
  | 0 => decide
  | 1 => decide
  | 2 => decide
  | 3 => decide
  | q + 4 => simp [totalAt]
set_option maxRecDepth 100000 in
set_option maxHeartbeats 1600000 in
theorem bitsSplit_any (n : Nat) (v u : Value) (xs us : List Int) (w : World) (hn : n < 18446744073709551616) (h : IntsArg .i64 w v xs) (hu : IntsArg .u64 w u us) :
    Calls Try.prog 4 #[.int .u64 n, v, u] w fun e w' => e = .returned (.bool true) ∧ Below w.heap.size w w' := by
  obtain ⟨ou, capu, rfl, hu1, hu2, _, _⟩ := RowIs.of_ints hu
  obtain ⟨mu, hmu, hmun⟩ := min_len Try.prog us.length 70 70 rfl
  replace hu := ints_take hu (show mu ≤ us.length by omega)
  have hmuc : mu ≤ capu := by omega
  obtain ⟨ps, hps, hpl, hpr⟩ := row_of_u64 hu
  rw [List.length_take] at hpl
  have hpm : ps.length = mu := by omega
  subst hpm
  obtain ⟨o, cap, rfl, hl1, hl2, _, _⟩ := RowIs.of_ints h
  obtain ⟨m, hm, hmn⟩ := min_len Try.prog xs.length 70 70 rfl
  have ht := ints_take h (show m ≤ xs.length by omega)
  have hmc : m ≤ cap := by omega
  have hlen : (xs.take m).length = m := by rw [List.length_take]; omega
  generalize xs.take m = ys at *
  subst hlen
  replace hm := Lib.hid hm
  replace hmu := Lib.hid hmu
  replace hpl := Lib.hid hpl
  clear hu
  go_enter Try.func4, Try.ntmps4
  go_wp2
  go_loopw [25] (fun i wr => ∃ k : Nat, k ≤ 5 ∧ i = .int .u8 k ∧ Below w.heap.size w wr) (fun i _ => 5 - (intOf i).toNat)
  case atStart => exact ⟨0, by omega, rfl, Below.refl _ _⟩
  case round =>
    obtain ⟨k, hk, rfl, hbr⟩ := hrel
    have hsr := hbr.size
    by_cases hlt : k < 5
    · have hik := ints_mono h hbr
      go_wp2_with (go_at_call 13; fail)
      refine ((whole_any k 0 _ xs wr (by omega) hik)).mono ?_
      rintro e w1 ⟨v1, rfl, hb1, ⟨s, rfl, hown⟩⟩
      haveI hx1 := ExtC.mk hb1
      have hT := totalAt_in ((k : Int) % 5).toNat
      have hgood := ints_of_owns hown (wholeL_wf _ _ (by omega) hT.2)
      generalize wholeL (totalAt ((k : Int) % 5).toNat) (xs.take 70) = gs at *
      generalize totalAt ((k : Int) % 5).toNat = T at *
      clear hown hik
      obtain ⟨os, cs, rfl, _, _, _, _⟩ := RowIs.of_ints hgood
      have hb1r := hbr.trans (hb1.mono hsr)
      have hIy := ints_mono ht hb1r
      have hpr1 := hpr.mono hb1r
      go_wp2
      have hba : Below w1.heap.size w1 (w1.alloc (.cells #[.slice os gs.length cs, .slice o ys.length cap] 22)) := by (repeat' (first | (with_reducible exact Below.refl _ _) | (with_reducible refine Below.alloc ?_ ?_ _) | (with_reducible refine Below.setCell ?_ ?_ _) | (with_reducible refine Below.drew ?_) | (with_reducible refine below_step ?_ (by assumption) ?_) | (with_reducible exact leC) | go_size))
      have hg0 : (w1.alloc (.cells #[.slice os gs.length cs, .slice o ys.length cap] 22)).heap[w1.heap.size]? = some (.cells #[.slice os gs.length cs, .slice o ys.length cap] 22) := Go.heap_alloc_new _ _
      have hG := w1.heap.size
      obtain ⟨G, hGd⟩ : ∃ G, w1.heap.size = G := ⟨_, rfl⟩
      rw [hGd] at hg0
      simp only [hGd]
      replace hGd := Lib.hid hGd
      generalize w1.alloc (.cells #[.slice os gs.length cs, .slice o ys.length cap] 22) = W at *
      replace hIy := ints_mono hIy hba
      replace hgood := ints_mono hgood hba
      replace hpr1 := hpr1.mono hba
      replace hb1r := hb1r.trans (hba.mono (Nat.le_trans hsr hb1.size))
      have hcells : ∀ j, j < 2 → ∃ V zs, W.cell? ⟨G, j, none⟩ = some V ∧ IntsArg .i64 W V zs := fun j hj => by
        rw [Go.cell_of_row _ _ _ _ _ _ hg0]
        match j, hj with
        | 0, _ => exact ⟨_, _, rfl, hgood⟩
        | 1, _ => exact ⟨_, _, rfl, hIy⟩
      have hsW := hb1r.size
      clear hgood hIy hg0 hba hb1 hx1
      go_loopw [42] (fun i wr => ∃ j : Nat, j ≤ 2 ∧ i = .int .i64 j ∧ Below W.heap.size W wr) (fun i _ => 2 - (intOf i).toNat)
      case atStart => exact ⟨0, by omega, rfl, Below.refl _ _⟩
      case round =>
        obtain ⟨j, hj, rfl, hbj⟩ := hrel
        rename_i w2
        have hsj := hbj.size
        haveI hlej : LeC W.heap.size _ := ⟨hsj⟩
        by_cases hlj : j < 2
        · obtain ⟨V, zs, hcV, hIV⟩ := hcells j hlj
          have hcj := (hbj.cell (Go.block_lt_of_cell hcV)).trans hcV
          have hIj := ints_mono hIV hbj
          have hprj := hpr1.mono hbj
          clear hcells hcV hIV hpr1
          go_wp2_with (go_at_call 14; fail)
          refine ((split_any n T V zs _ hn hIj)).mono ?_
          rintro e w3 ⟨v3, rfl, hb3, hr⟩
          haveI hx3 := ExtC.mk hb3
          obtain ⟨a, rfl, hoa⟩ := split_is hr
          clear hr
          replace hoa := RowIs.of_owns hoa
          replace hIj := ints_mono hIj hb3
          replace hprj := hprj.mono hb3
          go_wp2_with (go_at_call 15; fail)
          refine ((rsplit_any n T V zs _ hn hIj)).mono ?_
          rintro e w4 ⟨v4, rfl, hb4, hr⟩
          haveI hx4 := ExtC.mk hb4
          obtain ⟨b, rfl, hob⟩ := split_is hr
          clear hr
          replace hob := RowIs.of_owns hob
          replace hoa := hoa.mono hb4
          replace hIj := ints_mono hIj hb4
          replace hprj := hprj.mono hb4
          go_wp2_with (go_at_call 16; fail)
          refine (join_any ps _ T V zs _ hps hprj hIj).mono ?_
          rintro e w5 ⟨rfl, hb5⟩
          haveI hx5 := ExtC.mk hb5
          replace hob := hob.mono hb5
          replace hoa := hoa.mono hb5
          replace hIj := ints_mono hIj hb5
          replace hprj := hprj.mono hb5
          go_wp2_with (go_at_call 17; fail)
          refine (rjoin_any ps _ T V zs _ hps hprj hIj).mono ?_
          rintro e w6 ⟨rfl, hb6⟩
          haveI hx6 := ExtC.mk hb6
          replace hob := hob.mono hb6
          replace hoa := hoa.mono hb6
          generalize splitV n T zs = sv at *
          generalize joinV ps T zs = jv at *
          obtain ⟨sl, se⟩ := sv
          obtain ⟨jn, je⟩ := jv
          go_wp2_with (go_at_call 18; fail)
          refine (equal_any _ _ _ _ _ hoa hob).mono ?_
          rintro e w7 ⟨rfl, hb7⟩
          haveI hx7 := ExtC.mk hb7
          rw [decide_eq_true (rfl : sl = sl)]
          go_wp2
          go_roundw
          case rel => exact ⟨j + 1, by omega, by go_num, by (repeat' (first | (with_reducible exact Below.refl _ _) | (with_reducible refine Below.alloc ?_ ?_ _) | (with_reducible refine Below.setCell ?_ ?_ _) | (with_reducible refine Below.drew ?_) | (with_reducible refine below_step ?_ (by assumption) ?_) | (with_reducible exact leC) | go_size))⟩
          case measure => simp [intOf] <;> omega
        · obtain rfl : j = 2 := by omega
          clear hcells hpr1
          go_wp2
          go_roundw
          case rel => exact ⟨k + 1, by omega, by go_num, hb1r.trans (hbj.mono hsW)⟩
          case measure => simp [intOf] <;> omega
    · obtain rfl : k = 5 := by omega
      go_wp2_with (go_at_call 12; fail)
      refine (wakes_any _).mono ?_
      rintro e w5 ⟨rfl, hb5⟩
      haveI hx5 := ExtC.mk hb5
      go_wp2
      exact bodyPost_ret (v := (.bool true)) (by simp (maxDischargeDepth := 6) [results, Try.results4, go_sem]) rfl ⟨rfl, by (repeat' (first | (with_reducible exact Below.refl _ _) | (with_reducible refine Below.alloc ?_ ?_ _) | (with_reducible refine Below.setCell ?_ ?_ _) | (with_reducible refine Below.drew ?_) | (with_reducible refine below_step ?_ (by assumption) ?_) | (with_reducible exact leC) | go_size))⟩
end Go.Proofs.Ytmfohpfecpgbpaa
