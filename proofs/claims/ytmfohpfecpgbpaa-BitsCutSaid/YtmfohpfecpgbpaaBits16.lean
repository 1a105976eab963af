/- The law BitsBack walked. No condition. -/
import Derived.Test.YtmfohpfecpgbpaaBitsL
namespace Go.Proofs.Ytmfohpfecpgbpaa
open Go.RowKit
attribute [local go_sem] cellI frozenI cellOf_is frozenOf_is cellA frozenA setCellA
attribute [-go_sem] run_min_int2 run_max_int2

theorem u64_and_full (n m : Nat) (hn : n < 18446744073709551616) (hm : m ≤ 64) : bits .and .u64 (n : Int) ((2 ^ m - 1 : Nat) : Int) = ((n % 2 ^ m : Nat) : Int) := by
  have := u64_and_mask n 0 m hn hm
  simpa using this
set_option maxRecDepth 100000 in
set_option maxHeartbeats 1600000 in
theorem bitsBack_any (n : Nat) (v : Value) (xs : List Int) (t : Int) (w : World) (hn : n < 18446744073709551616) (ht : 0 ≤ t ∧ t ≤ 255) (h : IntsArg .i64 w v xs) :
    Calls Try.prog 5 #[.int .u64 n, v, .int .u8 t] w fun e w' => e = .returned (.bool true) ∧ Below w.heap.size w w' := by
  go_enter Try.func5, Try.ntmps5
  go_wp2_with (go_at_call 13; fail)
  refine ((whole_any t 0 _ xs w ht h)).mono ?_
  rintro e w1 ⟨v1, rfl, hb1, ⟨s, rfl, hown⟩⟩
  haveI hx1 := ExtC.mk hb1
  have hT := totalAt_in (t % 5).toNat
  have hgood := ints_of_owns hown (wholeL_wf _ _ (by omega) hT.2)
  have hgo := totalAt_goes (q := (t % 5).toNat) (xs := xs.take 70)
  generalize wholeL (totalAt (t % 5).toNat) (xs.take 70) = gs at *
  generalize totalAt (t % 5).toNat = T at *
  obtain ⟨T, rfl⟩ := Int.eq_ofNat_of_zero_le (show 0 ≤ T by omega)
  obtain ⟨hT1, hT2⟩ := hT
  clear hown
  obtain ⟨os, cs, rfl, _, _, _, _⟩ := RowIs.of_ints hgood
  go_wp2_with (go_at_call 19; fail)
  refine (rmask_any T w1 (by omega)).mono ?_
  rintro e w2 ⟨rfl, hb2⟩
  haveI hx2 := ExtC.mk hb2
  have hmk := u64_and_full n T hn (by omega)
  have hlt : n % 2 ^ T < 2 ^ T := Nat.mod_lt _ (Nat.pow_pos (by omega))
  have hp := pow_64 (show T ≤ 64 by omega)
  obtain ⟨N, hN⟩ : ∃ N, n % 2 ^ T = N := ⟨_, rfl⟩
  rw [hN] at hmk hlt
  have hN64 : N < 18446744073709551616 := by omega
  have hsv := splitV_ok hgo hlt
  have hjv := joinV_split hgo hlt
  have hpu := partsL_u64 hN64 (layL T gs)
  generalize partsL N (layL T gs) = ps at *
  replace hN := Lib.hid hN
  replace hgo := Lib.hid hgo
  replace hgood := ints_mono hgood hb2
  clear hp
  go_wp2_with (go_at_call 14; fail)
  refine ((split_any N T _ gs _ hN64 hgood)).mono ?_
  rintro e w3 ⟨v3, rfl, hb3, hr⟩
  haveI hx3 := ExtC.mk hb3
  obtain ⟨a, rfl, hoa⟩ := split_is hr
  rw [hsv] at hoa ⊢
  simp only at hoa ⊢
  clear hr
  replace hoa := RowIs.of_owns hoa
  replace hgood := ints_mono hgood hb3
  obtain ⟨oa, ca, rfl, _, _, _, _⟩ := id hoa
  go_wp2_with (go_at_call 16; fail)
  refine (join_any ps _ T _ gs _ hpu hoa hgood).mono ?_
  rintro e w4 ⟨rfl, hb4⟩
  haveI hx4 := ExtC.mk hb4
  rw [hjv]
  simp only
  replace hoa := hoa.mono hb4
  replace hgood := ints_mono hgood hb4
  go_wp2_with (go_at_call 14; fail)
  refine ((split_any N T _ gs _ hN64 hgood)).mono ?_
  rintro e w5 ⟨v5, rfl, hb5, hr⟩
  haveI hx5 := ExtC.mk hb5
  obtain ⟨b, rfl, hob⟩ := split_is hr
  rw [hsv] at hob ⊢
  simp only at hob ⊢
  clear hr hsv hjv
  replace hob := RowIs.of_owns hob
  replace hoa := hoa.mono hb5
  obtain ⟨ob, cb, rfl, _, _, _, _⟩ := id hob
  go_wp2_with (go_at_call 12; fail)
  refine (wakes_any _).mono ?_
  rintro e w6 ⟨rfl, hb6⟩
  haveI hx6 := ExtC.mk hb6
  replace hob := hob.mono hb6
  replace hoa := hoa.mono hb6
  go_wp2_with (go_at_call 18; fail)
  refine (equal_any _ _ _ _ _ hob hoa).mono ?_
  rintro e w7 ⟨rfl, hb7⟩
  haveI hx7 := ExtC.mk hb7
  rw [decide_eq_true (rfl : ps = ps)]
  go_wp2
  exact bodyPost_ret (v := (.bool true)) (by simp (maxDischargeDepth := 6) [results, Try.results5, go_sem]) rfl ⟨rfl, by (repeat' (first | (with_reducible exact Below.refl _ _) | (with_reducible refine Below.alloc ?_ ?_ _) | (with_reducible refine Below.setCell ?_ ?_ _) | (with_reducible refine Below.drew ?_) | (with_reducible refine below_step ?_ (by assumption) ?_) | (with_reducible exact leC) | go_size))⟩
end Go.Proofs.Ytmfohpfecpgbpaa
