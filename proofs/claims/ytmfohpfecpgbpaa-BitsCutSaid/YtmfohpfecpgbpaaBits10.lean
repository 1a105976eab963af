/- The contracts of Join, the program's and the reference's. Condition: the parts are uint64's. -/
import Derived.Test.YtmfohpfecpgbpaaBits9
namespace Go.Proofs.Ytmfohpfecpgbpaa
open Go.RowKit
attribute [local go_sem] cellI frozenI cellOf_is frozenOf_is cellA frozenA setCellA

/-- The number of parts, joined onto a number. -/
def joinT : Nat → List Nat → List Int → Nat × Int
  | H, p :: ps, x :: xs => if p < 2 ^ x.toNat then joinT (H * 2 ^ x.toNat + p) ps xs else (0, 5)
  | H, _, _ => (H, 0)
def joinV (ps : List Nat) (total : Int) (xs : List Int) : Nat × Int := if goesV total xs = false ∨ ps.length ≠ xs.length then (0, 2) else joinT 0 ps xs

theorem u64_or_shl (N p s : Nat) (h0 : N % 2 ^ s = 0) (h1 : p < 2 ^ s) (hN : N + p < 18446744073709551616) : N ||| p = N + p := by
  obtain ⟨q, rfl⟩ : ∃ q, N = 2 ^ s * q := ⟨N / 2 ^ s, by have := Nat.div_add_mod N (2 ^ s); omega⟩
  rw [Nat.two_pow_add_eq_or_of_lt h1]
theorem u64_shl (p b : Nat) (h : p * 2 ^ b < 18446744073709551616) : IntKind.u64.wrap ((p : Int) * 2 ^ b) = ((p * 2 ^ b : Nat) : Int) := by
  have e : (p : Int) * 2 ^ b = ((p * 2 ^ b : Nat) : Int) := by rw [Int.natCast_mul, Int.natCast_pow]; rfl
  rw [e]
  exact wrap_u64_nat _ h
theorem ucells_get (l : List Nat) (k : Nat) (h : k < l.length) : (ucells l)[k]? = some (.int .u64 (l[k] : Int)) := by simp [ucells, h]

theorem join_step {H p X B T m : Nat} (hT : T = X + B) (hp : p < 2 ^ X) (hH : (H + 1) * 2 ^ T ≤ 2 ^ m) :
    (H * 2 ^ X + p + 1) * 2 ^ B ≤ 2 ^ m ∧ H * 2 ^ T + p * 2 ^ B = (H * 2 ^ X + p) * 2 ^ B ∧ p * 2 ^ B < 2 ^ T ∧ H * 2 ^ T + p * 2 ^ B < 2 ^ m := by
  subst hT
  have hB : 0 < 2 ^ B := Nat.pow_pos (by omega)
  have e : 2 ^ (X + B) = 2 ^ X * 2 ^ B := Nat.pow_add _ _ _
  rw [e] at hH ⊢
  have h1 : (H * 2 ^ X + p + 1) * 2 ^ B ≤ (H + 1) * (2 ^ X * 2 ^ B) := by
    rw [← Nat.mul_assoc]
    exact Nat.mul_le_mul_right _ (by rw [Nat.add_mul]; omega)
  have h2 : H * (2 ^ X * 2 ^ B) + p * 2 ^ B = (H * 2 ^ X + p) * 2 ^ B := by rw [← Nat.mul_assoc, ← Nat.add_mul]
  refine ⟨Nat.le_trans h1 hH, h2, Nat.mul_lt_mul_of_pos_right hp hB, ?_⟩
  rw [h2]
  refine Nat.lt_of_lt_of_le ?_ (Nat.le_trans h1 hH)
  exact Nat.mul_lt_mul_of_pos_right (by omega) hB
theorem u64_join {N p B T : Nat} (hN : N % 2 ^ T = 0) (hp : p * 2 ^ B < 2 ^ T) (h : N + p * 2 ^ B < 18446744073709551616) :
    bits .or .u64 (N : Int) (IntKind.u64.wrap ((p : Int) * 2 ^ B)) = ((N + p * 2 ^ B : Nat) : Int) := by
  rw [u64_shl _ _ (by omega)]
  show IntKind.u64.wrap ((BitVec.ofInt 64 (N : Int) ||| BitVec.ofInt 64 ((p * 2 ^ B : Nat) : Int)).toNat : Int) = _
  rw [BitVec.toNat_or, bv64 _ (by omega), bv64 _ (by omega), u64_or_shl _ _ _ hN hp h]
  exact wrap_u64_nat _ h

set_option maxHeartbeats 800000 in
theorem join_any (ps : List Nat) (u : Value) (total : Int) (v : Value) (xs : List Int) (w : World) (hps : ∀ p ∈ ps, p < 18446744073709551616) (hu : RowIs w u ps.length (ucells ps)) (h : IntsArg .i64 w v xs) :
    Calls Try.prog 16 #[u, .int .i64 total, v] w fun e w' => e = .returned (.tuple #[.int .u64 ((joinV ps total xs).1 : Nat), .int .i64 (joinV ps total xs).2]) ∧ Below w.heap.size w w' := by
  obtain ⟨op, capp, rfl, hp1, hp2, hop, hcp⟩ := hu
  obtain ⟨o', cap', rfl, hq1, hq2, _, _⟩ := RowIs.of_ints h
  cases hg : goesV total xs
  · have hv : joinV ps total xs = (0, 2) := by simp [joinV, hg]
    rw [hv]
    go_enter Try.func16, Try.ntmps16
    go_wp2_with (go_at_call 8; fail)
    refine ((lay_any total _ xs w h)).mono ?_
    rintro e w1 ⟨v1, rfl, hb1, hr⟩
    haveI hx1 := ExtC.mk hb1
    rcases hr with ⟨r, ⟨_, rfl⟩ | ⟨h1, _⟩⟩
    · go_wp2
      exact bodyPost_ret (v := (.tuple #[.int .u64 0, .int .i64 2])) (by simp (maxDischargeDepth := 6) [results, Try.results16, go_sem]) rfl ⟨rfl, by (repeat' (first | (with_reducible exact Below.refl _ _) | (with_reducible refine Below.alloc ?_ ?_ _) | (with_reducible refine Below.setCell ?_ ?_ _) | (with_reducible refine Below.drew ?_) | (with_reducible refine below_step ?_ (by assumption) ?_) | (with_reducible exact leC) | go_size))⟩
    · rw [hg] at h1; cases h1
  · by_cases hpl : ps.length = xs.length
    · have hv : joinV ps total xs = joinT 0 ps xs := by simp [joinV, hg, hpl]
      rw [hv]
      clear hv
      obtain ⟨ht0, ht1, hgl⟩ := goesV_split hg
      obtain ⟨m, rfl⟩ := Int.eq_ofNat_of_zero_le ht0
      obtain ⟨N0, E0, hNE⟩ : ∃ N0 E0, joinT 0 ps xs = (N0, E0) := ⟨_, _, rfl⟩
      rw [hNE]
      replace hNE := Lib.hid hNE
      have hpe : ((ps.length : Int) != (xs.length : Int)) = false := by simp [hpl]
      replace hpl := Lib.hid hpl
      go_enter Try.func16, Try.ntmps16
      go_wp2_with (go_at_call 8; fail)
      refine ((lay_any m _ xs w h)).mono ?_
      rintro e w1 ⟨v1, rfl, hb1, hr⟩
      haveI hx1 := ExtC.mk hb1
      rcases hr with ⟨r, ⟨h1, _⟩ | ⟨_, rfl, hown⟩⟩
      · rw [hg] at h1; cases h1
      obtain ⟨o, cap, rfl, hl1, hl2, ho, hcell⟩ := RowIs.of_owns hown
      replace hg := Lib.hid hg
      replace hgl := Lib.hid hgl
      clear hown h
      have hs1 := hb1.size
      go_wp2
      go_loopw [10, 30] (fun n i wr => ∃ (k N H T : Nat), k ≤ xs.length ∧ T ≤ m ∧ n = .int .u64 N ∧ i = .int .i64 k ∧ Hid (N = H * 2 ^ T) ∧ (H + 1) * 2 ^ T ≤ 2 ^ m ∧ Hid (joinT H (ps.drop k) (xs.drop k) = (N0, E0)) ∧ Hid (goesL T (xs.drop k) = true) ∧ Hid ((layL m xs).drop k = layL T (xs.drop k)) ∧ Below w1.heap.size w1 wr) (fun _ i _ => xs.length - (intOf i).toNat)
      case atStart => exact ⟨0, 0, 0, m, by omega, by omega, rfl, rfl, (Nat.zero_mul _).symm, by rw [Nat.zero_add, Nat.one_mul]; exact Nat.le_refl _, hNE, hgl, rfl, Below.refl _ _⟩
      case round =>
        obtain ⟨k, N, H, T, hk, hTm, rfl, rfl, hN, hHT, hJ, hgk, hlk, hbr⟩ := hrel
        by_cases hlt : k < xs.length
        · obtain ⟨g, f, rfl⟩ := RowIs.addr ho k hlt
          obtain ⟨gp, fp, rfl⟩ := RowIs.addr hop k (by rw [hpl.out]; exact hlt)
          have hlk2 : k < (layL m xs).length := by rw [layL_len]; exact hlt
          obtain ⟨hf1, hf2⟩ := fcells_get _ k hlk2
          have hkp : k < ps.length := by rw [hpl.out]; exact hlt
          have hpk := hps _ (List.getElem_mem hkp)
          have hdx := List.drop_eq_getElem_cons hlt
          have hdl := List.drop_eq_getElem_cons hlk2
          have hdp := List.drop_eq_getElem_cons hkp
          rw [hdx, hdl] at hlk
          rw [hdx] at hgk
          rw [hdx, hdp] at hJ
          have hlc := hlk.out
          have hcu := hcp gp fp rfl _ _ (ucells_get ps k hkp)
          generalize xs[k] = x at *
          generalize (layL m xs)[k] = lk at *
          generalize ps[k] = p at *
          obtain ⟨hx1, hx2, hgn⟩ := goesL_cons hgk.out
          simp only [layL, List.cons.injEq] at hlc
          obtain ⟨rfl, hlc⟩ := hlc
          obtain ⟨X, rfl⟩ := Int.eq_ofNat_of_zero_le (show 0 ≤ x by omega)
          obtain ⟨B, hB, hTB⟩ : ∃ B : Nat, (T : Int) - X = B ∧ T = X + B := ⟨T - X, by omega, by omega⟩
          rw [hB] at hlc hgn hf1 hf2
          have hc1 := hcell g f rfl _ _ hf1
          have hc2 := hcell g f rfl _ _ hf2
          rw [← Nat.add_assoc] at hc2
          have hd1 := (hbr.cell (Go.block_lt_of_cell hc1)).trans hc1
          have hd2 := (hbr.cell (Go.block_lt_of_cell hc2)).trans hc2
          have hcu1 := (hbr.cell (Nat.lt_of_lt_of_le (Go.block_lt_of_cell hcu) hs1)).trans ((hb1.cell (Go.block_lt_of_cell hcu)).trans hcu)
          haveI hlg : LtC g wr.heap.size := ⟨Go.block_lt_of_cell hd1⟩
          haveI hlgp : LtC gp wr.heap.size := ⟨Go.block_lt_of_cell hcu1⟩
          clear hcp hcell hdx hdl hdp hc1 hc2 hcu hf1 hf2 hlk hgk hlk2
          replace hgn := Lib.hid hgn
          replace hlc := Lib.hid hlc
          replace hB := Lib.hid hB
          replace hTB := Lib.hid hTB
          have hX : 1 ≤ X ∧ X ≤ 64 := by omega
          have hft := fun w => fits_any p X w hX.1 hX.2
          by_cases hpx : p < 2 ^ X
          · rw [decide_eq_true hpx] at hft
            obtain ⟨hj1, hj2, hj3, hj4⟩ := join_step hTB.out hpx hHT
            have hm64 := pow_64 (show m ≤ 64 by omega)
            have hbit := u64_join (N := N) (p := p) (B := B) (T := T) (by rw [hN.out]; exact Nat.mul_mod_left _ _) hj3 (by rw [hN.out]; omega)
            have hJ2 := hJ.out
            simp only [joinT, Int.toNat_natCast, if_pos hpx] at hJ2
            replace hJ2 := Lib.hid hJ2
            replace hj2 := Lib.hid hj2
            clear hJ
            obtain ⟨N2, hN2⟩ : ∃ N2, N + p * 2 ^ B = N2 := ⟨_, rfl⟩
            rw [hN2] at hbit
            replace hN2 := Lib.hid hN2
            go_wp2
            refine steady_region (by kernel_rfl) (by kernel_rfl) ?_
            repeat (first | go_big_quiet_skip | (go_big_quiet_want; go_big_quiet_op; first | go_big_quiet_on | (apply Exists.intro; refine ⟨fun _ => ?_, ?_⟩; (focus (((go_at_call 23; (first | with_reducible exact Calls.steady (hft _)))))); go_big_quiet_on)))
            refine wpQuiet_nil ?_
            rintro w3 ⟨⟨_, hb3⟩, rfl⟩
            haveI hx3 := ExtC.mk hb3
            try dsimp only
            go_wp2
            refine steady_from hb3 (by kernel_rfl) (by kernel_rfl) ?_
            repeat (first | go_big_quiet_skip | (go_big_quiet_want; go_big_quiet_op; first | go_big_quiet_on | (apply Exists.intro; refine ⟨fun _ => ?_, ?_⟩; (focus ((fail))); go_big_quiet_on)))
            refine wpQuiet_nil ?_
            rintro w4 ⟨⟨_, hb4⟩, rfl⟩
            haveI hx4 := ExtC.mk hb4
            try dsimp only
            go_wp2
            have hbn : Below w1.heap.size w1 w4 := hbr.trans ((((Below.refl _ wr).alloc (Nat.le_refl _) _).trans (hb4.mono (by simp))).mono hbr.size)
            go_roundw
            case rel => exact ⟨k + 1, N2, H * 2 ^ X + p, B, by omega, by have := hTB.out; omega, by rw [show min B 64 = B by have := hTB.out; omega, hbit], by go_num, by rw [← hN2.out, hN.out]; exact hj2.out, hj1, hJ2, hgn, hlc.out, hbn⟩
            case measure => simp [intOf] <;> omega
          · rw [decide_eq_false hpx] at hft
            have hJ2 := hJ.out
            simp only [joinT, Int.toNat_natCast, if_neg hpx, Prod.mk.injEq] at hJ2
            obtain ⟨rfl, rfl⟩ := hJ2
            clear hJ
            go_wp2
            refine steady_region (by kernel_rfl) (by kernel_rfl) ?_
            repeat (first | go_big_quiet_skip | (go_big_quiet_want; go_big_quiet_op; first | go_big_quiet_on | (apply Exists.intro; refine ⟨fun _ => ?_, ?_⟩; (focus (((go_at_call 23; (first | with_reducible exact Calls.steady (hft _)))))); go_big_quiet_on)))
            refine wpQuiet_nil ?_
            rintro w3 ⟨⟨_, hb3⟩, rfl⟩
            haveI hx3 := ExtC.mk hb3
            try dsimp only
            go_wp2
            have hbn : Below w.heap.size w w3 := hb1.trans ((hbr.trans ((((Below.refl _ wr).alloc (Nat.le_refl _) _).trans (hb3.mono (by simp))).mono hbr.size)).mono hs1)
            clear hb3 hb1 hbr
            exact bodyPost_ret (v := (.tuple #[.int .u64 0, .int .i64 5])) (by simp (maxDischargeDepth := 6) [results, Try.results16, go_sem]) rfl ⟨rfl, by (repeat' (first | (with_reducible exact Below.refl _ _) | (with_reducible refine Below.alloc ?_ ?_ _) | (with_reducible refine Below.setCell ?_ ?_ _) | (with_reducible refine Below.drew ?_) | (with_reducible refine below_step ?_ (by assumption) ?_) | (with_reducible exact leC) | go_size))⟩
        · obtain rfl : k = xs.length := by omega
          have hJ2 := hJ.out
          have hgk2 := hgk.out
          rw [List.drop_length] at hJ2 hgk2
          simp only [goesL] at hgk2
          have hT0 : T = 0 := by simpa using hgk2
          rw [hT0, Nat.pow_zero, Nat.mul_one] at hN
          have e : joinT H (ps.drop xs.length) [] = (H, 0) := by cases ps.drop xs.length <;> rfl
          rw [e] at hJ2
          simp only [Prod.mk.injEq] at hJ2
          obtain ⟨rfl, rfl⟩ := hJ2
          obtain rfl := hN.out
          clear hcp hcell hgk2 hJ hgk hlk e hT0
          have hbn := hb1.trans (hbr.mono hs1)
          clear hbr hb1
          go_wp2
          exact bodyPost_ret (v := (.tuple #[.int .u64 N, .int .i64 0])) (by simp (maxDischargeDepth := 6) [results, Try.results16, go_sem]) rfl ⟨rfl, by (repeat' (first | (with_reducible exact Below.refl _ _) | (with_reducible refine Below.alloc ?_ ?_ _) | (with_reducible refine Below.setCell ?_ ?_ _) | (with_reducible refine Below.drew ?_) | (with_reducible refine below_step ?_ (by assumption) ?_) | (with_reducible exact leC) | go_size))⟩
    · have hv : joinV ps total xs = (0, 2) := by simp [joinV, hpl]
      rw [hv]
      have hpe : ((ps.length : Int) != (xs.length : Int)) = true := by simp; omega
      go_enter Try.func16, Try.ntmps16
      go_wp2_with (go_at_call 8; fail)
      refine ((lay_any total _ xs w h)).mono ?_
      rintro e w1 ⟨v1, rfl, hb1, hr⟩
      haveI hx1 := ExtC.mk hb1
      rcases hr with ⟨r, ⟨h1, _⟩ | ⟨_, rfl, _⟩⟩
      · rw [hg] at h1; cases h1
      · go_wp2
        exact bodyPost_ret (v := (.tuple #[.int .u64 0, .int .i64 2])) (by simp (maxDischargeDepth := 6) [results, Try.results16, go_sem]) rfl ⟨rfl, by (repeat' (first | (with_reducible exact Below.refl _ _) | (with_reducible refine Below.alloc ?_ ?_ _) | (with_reducible refine Below.setCell ?_ ?_ _) | (with_reducible refine Below.drew ?_) | (with_reducible refine below_step ?_ (by assumption) ?_) | (with_reducible exact leC) | go_size))⟩
end Go.Proofs.Ytmfohpfecpgbpaa
