/- The contract of the reference's Join. Condition: the parts are uint64's. -/
import Derived.Test.YtmfohpfecpgbpaaBits10
namespace Go.Proofs.Ytmfohpfecpgbpaa
open Go.RowKit
attribute [local go_sem] cellI frozenI cellOf_is frozenOf_is cellA frozenA setCellA

theorem horner_step (N p X r : Nat) (h0 : 1 ≤ r) (h1 : r ≤ X) : N * 2 ^ (X - (r - 1)) + p / 2 ^ (r - 1) = (N * 2 ^ (X - r) + p / 2 ^ r) + (N * 2 ^ (X - r) + p / 2 ^ r) + p / 2 ^ (r - 1) % 2 := by
  obtain ⟨s, rfl⟩ : ∃ s, r = s + 1 := ⟨r - 1, by omega⟩
  obtain ⟨k, rfl⟩ : ∃ k, X = s + 1 + k := ⟨X - (s + 1), by omega⟩
  have e1 : s + 1 - 1 = s := by omega
  have e2 : s + 1 + k - s = k + 1 := by omega
  have e3 : s + 1 + k - (s + 1) = k := by omega
  have e4 : p / 2 ^ (s + 1) = p / 2 ^ s / 2 := by rw [Nat.pow_succ, Nat.div_div_eq_div_mul]
  rw [e1, e2, e3, e4, Nat.pow_succ, ← Nat.mul_assoc]
  generalize N * 2 ^ k = A
  generalize p / 2 ^ s = q
  omega
theorem horner_le (N p X r : Nat) (h1 : r ≤ X) : N * 2 ^ (X - r) + p / 2 ^ r ≤ N * 2 ^ X + p :=
  Nat.add_le_add (Nat.mul_le_mul_left _ (Nat.pow_le_pow_right (by omega) (by omega))) (Nat.div_le_self _ _)
set_option maxHeartbeats 1600000 in
theorem rjoin_any (ps : List Nat) (u : Value) (total : Int) (v : Value) (xs : List Int) (w : World) (hps : ∀ p ∈ ps, p < 18446744073709551616) (hu : RowIs w u ps.length (ucells ps)) (h : IntsArg .i64 w v xs) :
    Calls Try.prog 17 #[u, .int .i64 total, v] w fun e w' => e = .returned (.tuple #[.int .u64 ((joinV ps total xs).1 : Nat), .int .i64 (joinV ps total xs).2]) ∧ Below w.heap.size w w' := by
  obtain ⟨op, capp, rfl, hp1, hp2, hop, hcp⟩ := hu
  obtain ⟨o, cap, rfl, hl1, hl2, ho, hcell⟩ := RowIs.of_ints h
  cases hg : goesV total xs
  · have hv : joinV ps total xs = (0, 2) := by simp [joinV, hg]
    rw [hv]
    go_enter Try.func17, Try.ntmps17
    go_wp2_with (go_at_call 9; fail)
    refine (rgoes_any total _ xs w h).mono ?_
    rintro e w1 ⟨rfl, hb1⟩
    haveI hx1 := ExtC.mk hb1
    rw [hg]
    go_wp2
    exact bodyPost_ret (v := (.tuple #[.int .u64 0, .int .i64 2])) (by simp (maxDischargeDepth := 6) [results, Try.results17, go_sem]) rfl ⟨rfl, by (repeat' (first | (with_reducible exact Below.refl _ _) | (with_reducible refine Below.alloc ?_ ?_ _) | (with_reducible refine Below.setCell ?_ ?_ _) | (with_reducible refine Below.drew ?_) | (with_reducible refine below_step ?_ (by assumption) ?_) | (with_reducible exact leC) | go_size))⟩
  · by_cases hpl : ps.length = xs.length
    · have hv : joinV ps total xs = joinT 0 ps xs := by simp [joinV, hg, hpl]
      rw [hv]
      clear hv
      obtain ⟨ht0, ht1, hgl⟩ := goesV_split hg
      obtain ⟨m, rfl⟩ := Int.eq_ofNat_of_zero_le ht0
      obtain ⟨N0, E0, hNE⟩ : ∃ N0 E0, joinT 0 ps xs = (N0, E0) := ⟨_, _, rfl⟩
      rw [hNE]
      replace hNE := Lib.hid hNE
      have hpe : ((ps.length : Int) != (xs.length : Int)) = false := by simp [hpl]
      replace hpl := Lib.hid hpl
      go_enter Try.func17, Try.ntmps17
      go_wp2_with (go_at_call 9; fail)
      refine (rgoes_any m _ xs w h).mono ?_
      rintro e w1 ⟨rfl, hb1⟩
      haveI hx1 := ExtC.mk hb1
      rw [hg]
      replace hg := Lib.hid hg
      replace hgl := Lib.hid hgl
      clear h
      go_wp2
      go_loopw [9, 10] (fun n i wr => ∃ (k H T : Nat), k ≤ xs.length ∧ T ≤ m ∧ n = .int .u64 H ∧ i = .int .i64 k ∧ (H + 1) * 2 ^ T ≤ 2 ^ m ∧ Hid (joinT H (ps.drop k) (xs.drop k) = (N0, E0)) ∧ Hid (goesL T (xs.drop k) = true) ∧ Below w.heap.size w wr) (fun _ i _ => xs.length - (intOf i).toNat)
      case atStart => exact ⟨0, 0, m, by omega, by omega, rfl, rfl, by rw [Nat.zero_add, Nat.one_mul]; exact Nat.le_refl _, hNE, hgl, hb1⟩
      case round =>
        obtain ⟨k, H, T, hk, hTm, rfl, rfl, hHT, hJ, hgk, hbr⟩ := hrel
        by_cases hlt : k < xs.length
        · obtain ⟨g, f, rfl⟩ := RowIs.addr ho k hlt
          obtain ⟨gp, fp, rfl⟩ := RowIs.addr hop k (by rw [hpl.out]; exact hlt)
          have hkp : k < ps.length := by rw [hpl.out]; exact hlt
          have hpk := hps _ (List.getElem_mem hkp)
          have hdx := List.drop_eq_getElem_cons hlt
          have hdp := List.drop_eq_getElem_cons hkp
          rw [hdx] at hgk
          rw [hdx, hdp] at hJ
          have hc := ints_cell (hcell g f rfl) k hlt
          have hcu := hcp gp fp rfl _ _ (ucells_get ps k hkp)
          generalize xs[k] = x at *
          generalize ps[k] = p at *
          obtain ⟨hx1, hx2, hgn⟩ := goesL_cons hgk.out
          obtain ⟨X, rfl⟩ := Int.eq_ofNat_of_zero_le (show 0 ≤ x by omega)
          obtain ⟨B, hB, hTB⟩ : ∃ B : Nat, (T : Int) - X = B ∧ T = X + B := ⟨T - X, by omega, by omega⟩
          rw [hB] at hgn
          have hd := (hbr.cell (Go.block_lt_of_cell hc)).trans hc
          have hdu := (hbr.cell (Go.block_lt_of_cell hcu)).trans hcu
          have hlg := Go.block_lt_of_cell hd
          clear hcp hcell hdx hdp hc hcu hgk
          replace hgn := Lib.hid hgn
          replace hB := Lib.hid hB
          replace hTB := Lib.hid hTB
          have hX : 1 ≤ X ∧ X ≤ 64 := by omega
          go_wp2_with (go_at_call 22; fail)
          refine ((rbits_any p wr hpk)).mono ?_
          rintro e w2 ⟨v2, rfl, hb2, ⟨ob, capb, rfl, hlb1, hlb2, hob, hcb⟩⟩
          haveI hx2 := ExtC.mk hb2
          obtain ⟨gb, fb, rfl⟩ := RowIs.addr hob 0 (by omega)
          replace hcb := hcb gb fb rfl
          have hd2 := (hb2.cell (Go.block_lt_of_cell hd)).trans hd
          have hbn : Below w.heap.size w w2 := hbr.trans (hb2.mono hbr.size)
          obtain ⟨w3, hw3⟩ : ∃ w3, w3 = w2 := ⟨_, rfl⟩
          rw [← hw3] at hbn hd2 hcb ⊢
          clear hw3 hx2 hb2 hd hdu hbr hb1 hlg hob ho hop
          go_wp2
          go_loop [12] (fun i => ∃ j : Nat, X ≤ j ∧ j ≤ 64 ∧ i = .int .i64 j ∧ Hid (∀ t, X ≤ t → t < j → p / 2 ^ t % 2 = 0)) (fun i => 64 - (intOf i).toNat)
          case atStart => exact ⟨X, by omega, by omega, rfl, fun t h1 h2 => by omega⟩
          case round =>
            obtain ⟨j, hj0, hj, rfl, hz⟩ := hrel
            by_cases hlj : j < 64
            · have hc := hcb j _ (bitCells_get p _ hlj)
              clear hcb
              obtain ⟨B1, hB1⟩ : ∃ B1, p / 2 ^ j % 2 = B1 := ⟨_, rfl⟩
              rw [hB1] at hc
              by_cases h11 : B1 = 1
              · subst h11
                have hge := bit_one_ge hB1 hj0
                replace hB1 := Lib.hid hB1
                have hJ2 := hJ.out
                simp only [joinT, Int.toNat_natCast, if_neg hge, Prod.mk.injEq] at hJ2
                obtain ⟨rfl, rfl⟩ := hJ2
                go_wp2
                exact bodyPost_ret (v := (.tuple #[.int .u64 0, .int .i64 5])) (by simp (maxDischargeDepth := 6) [results, Try.results17, go_sem]) rfl ⟨rfl, by (repeat' (first | (with_reducible exact Below.refl _ _) | (with_reducible refine Below.alloc ?_ ?_ _) | (with_reducible refine Below.setCell ?_ ?_ _) | (with_reducible refine Below.drew ?_) | (with_reducible refine below_step ?_ (by assumption) ?_) | (with_reducible exact leC) | go_size))⟩
              · have hd : ((B1 : Int) == 1) = false := by simp; omega
                have hB0 : p / 2 ^ j % 2 = 0 := by omega
                replace hB1 := Lib.hid hB1
                replace hB0 := Lib.hid hB0
                clear h11
                go_wp2
                go_round
                case rel => exact ⟨j + 1, by omega, by omega, by go_num, fun t h1 h2 => by
                  by_cases htj : t = j
                  · rw [htj]; exact hB0.out
                  · exact hz.out t h1 (by omega)⟩
                case measure => simp [intOf] <;> omega
            · obtain rfl : j = 64 := by omega
              have hpx : p < 2 ^ X := bits_lt (64 - X) (fun t h1 h2 => hz.out t h1 (by omega)) (by rw [show X + (64 - X) = 64 by omega]; exact hpk)
              clear hz
              obtain ⟨hj1, hj2, hj3, hj4⟩ := join_step hTB.out hpx hHT
              have hm64 := pow_64 (show m ≤ 64 by omega)
              have hJ2 := hJ.out
              simp only [joinT, Int.toNat_natCast, if_pos hpx] at hJ2
              replace hJ2 := Lib.hid hJ2
              have hNb : H * 2 ^ X + p < 18446744073709551616 := by
                have : (H * 2 ^ X + p + 1) ≤ (H * 2 ^ X + p + 1) * 2 ^ B := Nat.le_mul_of_pos_right _ (Nat.pow_pos (by omega))
                omega
              have hp0 : p / 2 ^ X = 0 := Nat.div_eq_of_lt hpx
              replace hp0 := Lib.hid hp0
              clear hJ hj2 hj3 hj4 hpx
              go_wp2
              go_loop [9, 13] (fun n i => ∃ r P : Nat, r ≤ X ∧ Hid (H * 2 ^ (X - r) + p / 2 ^ r = P) ∧ n = .int .u64 P ∧ i = .int .i64 ((r : Int) - 1)) (fun _ i => (intOf i + 1).toNat)
              case atStart => exact ⟨X, H, by omega, by show _ = _; rw [Nat.sub_self, Nat.pow_zero, Nat.mul_one, hp0.out, Nat.add_zero], rfl, rfl⟩
              case round =>
                obtain ⟨r, P, hr, hP, rfl, rfl⟩ := hrel
                by_cases hr1 : 1 ≤ r
                · have hst := horner_step H p X r hr1 hr
                  have hle := horner_le H p X (r - 1) (by omega)
                  rw [hP.out] at hst
                  obtain ⟨P2, hP2⟩ : ∃ P2, H * 2 ^ (X - (r - 1)) + p / 2 ^ (r - 1) = P2 := ⟨_, rfl⟩
                  rw [hP2] at hst hle
                  replace hP2 := Lib.hid hP2
                  have hc := hcb (r - 1) _ (bitCells_get p _ (by omega))
                  clear hcb
                  obtain ⟨B1, hB1⟩ : ∃ B1, p / 2 ^ (r - 1) % 2 = B1 := ⟨_, rfl⟩
                  rw [hB1] at hst hc
                  clear hB1
                  obtain ⟨j, hj, hjj⟩ : ∃ j : Nat, ((r : Nat) : Int) - 1 = j ∧ j = r - 1 := ⟨r - 1, by omega, rfl⟩
                  rw [← hjj] at hc
                  rw [hj]
                  have hjl : j < 64 := by omega
                  replace hj := Lib.hid hj
                  replace hjj := Lib.hid hjj
                  have hs2 : P + P + B1 < 18446744073709551616 := by omega
                  replace hst := Lib.hid hst
                  go_wp2
                  go_round
                  case rel => exact ⟨r - 1, P2, by omega, hP2, by rw [hst.out]; go_num, by have := hjj.out; congr 1; omega⟩
                  case measure => simp [intOf] <;> omega
                · obtain rfl : r = 0 := by omega
                  have hP2 := hP.out
                  rw [Nat.sub_zero, Nat.pow_zero, Nat.div_one] at hP2
                  have hd1 : decide ((0 : Int) ≤ ((0 : Nat) : Int) - 1) = false := decide_eq_false (by omega)
                  rw [hP2] at hj1 hJ2
                  replace hP2 := Lib.hid hP2
                  clear hcb
                  go_wp2
                  go_roundw
                  case rel => exact ⟨k + 1, P, B, by omega, by have := hTB.out; omega, rfl, by go_num, hj1, hJ2, hgn, hbn⟩
                  case measure => simp [intOf] <;> omega
        · obtain rfl : k = xs.length := by omega
          have hJ2 := hJ.out
          rw [List.drop_length] at hJ2
          have e : joinT H (ps.drop xs.length) [] = (H, 0) := by cases ps.drop xs.length <;> rfl
          rw [e] at hJ2
          simp only [Prod.mk.injEq] at hJ2
          obtain ⟨rfl, rfl⟩ := hJ2
          clear hcp hcell hJ hgk e hb1
          go_wp2
          exact bodyPost_ret (v := (.tuple #[.int .u64 H, .int .i64 0])) (by simp (maxDischargeDepth := 6) [results, Try.results17, go_sem]) rfl ⟨rfl, by (repeat' (first | (with_reducible exact Below.refl _ _) | (with_reducible refine Below.alloc ?_ ?_ _) | (with_reducible refine Below.setCell ?_ ?_ _) | (with_reducible refine Below.drew ?_) | (with_reducible refine below_step ?_ (by assumption) ?_) | (with_reducible exact leC) | go_size))⟩
    · have hv : joinV ps total xs = (0, 2) := by simp [joinV, hpl]
      rw [hv]
      have hpe : ((ps.length : Int) != (xs.length : Int)) = true := by simp; omega
      go_enter Try.func17, Try.ntmps17
      go_wp2_with (go_at_call 9; fail)
      refine (rgoes_any total _ xs w h).mono ?_
      rintro e w1 ⟨rfl, hb1⟩
      haveI hx1 := ExtC.mk hb1
      rw [hg]
      go_wp2
      exact bodyPost_ret (v := (.tuple #[.int .u64 0, .int .i64 2])) (by simp (maxDischargeDepth := 6) [results, Try.results17, go_sem]) rfl ⟨rfl, by (repeat' (first | (with_reducible exact Below.refl _ _) | (with_reducible refine Below.alloc ?_ ?_ _) | (with_reducible refine Below.setCell ?_ ?_ _) | (with_reducible refine Below.drew ?_) | (with_reducible refine below_step ?_ (by assumption) ?_) | (with_reducible exact leC) | go_size))⟩
end Go.Proofs.Ytmfohpfecpgbpaa
