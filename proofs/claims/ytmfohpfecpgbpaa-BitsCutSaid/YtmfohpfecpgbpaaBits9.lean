/- The contract of the reference's Split. Condition: the number is a uint64. -/
import Derived.Test.YtmfohpfecpgbpaaBits8
namespace Go.Proofs.Ytmfohpfecpgbpaa
open Go.RowKit
attribute [local go_sem] cellI frozenI cellOf_is frozenOf_is cellA frozenA setCellA

theorem bit_one_ge {n j m : Nat} (h : n / 2 ^ j % 2 = 1) (hm : m ≤ j) : ¬ n < 2 ^ m := fun hlt => by
  have h1 : n < 2 ^ j := Nat.lt_of_lt_of_le hlt (Nat.pow_le_pow_right (by omega) hm)
  rw [Nat.div_eq_of_lt h1] at h
  omega
theorem bits_lt {n m : Nat} : ∀ d : Nat, (∀ j, m ≤ j → j < m + d → n / 2 ^ j % 2 = 0) → n < 2 ^ (m + d) → n < 2 ^ m
  | 0, _, h => by simpa using h
  | d + 1, hz, h => by
    refine bits_lt d (fun j h1 h2 => hz j h1 (by omega)) ?_
    have h0 := hz (m + d) (by omega) (by omega)
    have h1 : n / 2 ^ (m + d) < 2 := by
      rw [Nat.div_lt_iff_lt_mul (Nat.pow_pos (by omega)), Nat.mul_comm, ← Nat.pow_succ]
      exact h
    have h2 : n / 2 ^ (m + d) = 0 := by generalize n / 2 ^ (m + d) = q at h0 h1; omega
    exact (Nat.div_eq_zero_iff_lt (Nat.pow_pos (by omega))).1 h2
set_option maxHeartbeats 800000 in
theorem rsplit_any (n : Nat) (total : Int) (v : Value) (xs : List Int) (w : World) (hn : n < 18446744073709551616) (h : IntsArg .i64 w v xs) :
    Calls Try.prog 15 #[.int .u64 n, .int .i64 total, v] w (Ret (SplitIs w n total xs) w) := by
  cases hg : goesV total xs
  ·
    go_enter Try.func15, Try.ntmps15
    go_wp2_with (go_at_call 9; fail)
    refine (rgoes_any total v xs w h).mono ?_
    rintro e w1 ⟨rfl, hb1⟩
    haveI hx1 := ExtC.mk hb1
    rw [hg]
    go_wp2
    refine bodyPost_ret (v := (.tuple #[.slice none 0 0, .int .i64 2])) (by simp (maxDischargeDepth := 6) [results, Try.results15, go_sem]) rfl ⟨_, rfl, by (repeat' (first | (with_reducible exact Below.refl _ _) | (with_reducible refine Below.alloc ?_ ?_ _) | (with_reducible refine Below.setCell ?_ ?_ _) | (with_reducible refine Below.drew ?_) | (with_reducible refine below_step ?_ (by assumption) ?_) | (with_reducible exact leC) | go_size)), ?_⟩
    exact ⟨.slice none 0 0, Or.inl ⟨hg, rfl⟩⟩
  · obtain ⟨ht0, ht1, hgl⟩ := goesV_split hg
    obtain ⟨m, rfl⟩ := Int.eq_ofNat_of_zero_le ht0
    obtain ⟨i0, hi, hz0, hz1, hz2⟩ := infoU64
    have hxl : xs.length ≤ 64 := by have := goesL_pos xs m hgl; omega
    obtain ⟨o, cap, rfl, hl1, hl2, ho, hcell⟩ := RowIs.of_ints h
    have hg2 := Lib.hid hg
    go_enter Try.func15, Try.ntmps15
    go_wp2_with (go_at_call 9; fail)
    refine (rgoes_any m _ xs w h).mono ?_
    rintro e w1 ⟨rfl, hb1⟩
    haveI hx1 := ExtC.mk hb1
    rw [hg]
    clear hg
    go_wp2_with (go_at_call 22; fail)
    refine ((rbits_any n w1 hn)).mono ?_
    rintro e w2 ⟨v2, rfl, hb2, ⟨ob, capb, rfl, hlb1, hlb2, hob, hcb⟩⟩
    replace hb2 := hb1.trans (hb2.mono hb1.size)
    haveI hx2 := ExtC.mk hb2
    obtain ⟨gb, fb, rfl⟩ := RowIs.addr hob 0 (by omega)
    replace hcb := hcb gb fb rfl
    replace hgl := Lib.hid hgl
    go_wp2
    go_loop [10] (fun i => ∃ k : Nat, m ≤ k ∧ k ≤ 64 ∧ i = .int .i64 k ∧ Hid (∀ j, m ≤ j → j < k → n / 2 ^ j % 2 = 0)) (fun i => 64 - (intOf i).toNat)
    case atStart => exact ⟨m, by omega, by omega, rfl, fun j h1 h2 => by omega⟩
    case round =>
      obtain ⟨k, hk0, hk, rfl, hz⟩ := hrel
      by_cases hlt : k < 64
      · have hc := hcb k _ (bitCells_get n _ hlt)
        clear hcb hcell
        obtain ⟨B, hB⟩ : ∃ B, n / 2 ^ k % 2 = B := ⟨_, rfl⟩
        rw [hB] at hc
        by_cases hB1 : B = 1
        · subst hB1
          have hge := bit_one_ge hB hk0
          replace hB := Lib.hid hB
          go_wp2
          refine bodyPost_ret (v := (.tuple #[.slice none 0 0, .int .i64 5])) (by simp (maxDischargeDepth := 6) [results, Try.results15, go_sem]) rfl ⟨_, rfl, by (repeat' (first | (with_reducible exact Below.refl _ _) | (with_reducible refine Below.alloc ?_ ?_ _) | (with_reducible refine Below.setCell ?_ ?_ _) | (with_reducible refine Below.drew ?_) | (with_reducible refine below_step ?_ (by assumption) ?_) | (with_reducible exact leC) | go_size)), ?_⟩
          exact ⟨.slice none 0 0, Or.inr (Or.inl ⟨hg2.out, by simpa using hge, rfl⟩)⟩
        · have hd : ((B : Int) == 1) = false := by simp; omega
          have hB0 : n / 2 ^ k % 2 = 0 := by omega
          replace hB := Lib.hid hB
          replace hB0 := Lib.hid hB0
          clear hB1
          go_wp2
          go_round
          case rel => exact ⟨k + 1, by omega, by omega, by go_num, fun j h1 h2 => by
            by_cases hjk : j = k
            · rw [hjk]; exact hB0.out
            · exact hz.out j h1 (by omega)⟩
          case measure => simp [intOf] <;> omega
      · obtain rfl : k = 64 := by omega
        have hnm : n < 2 ^ m := bits_lt (64 - m) (fun j h1 h2 => hz.out j h1 (by omega)) (by rw [show m + (64 - m) = 64 by omega]; exact hn)
        clear hcb hz
        have hs2 := hb2.size
        obtain ⟨w3, hw3⟩ : ∃ w3, w3 = w2 := ⟨_, rfl⟩
        rw [← hw3] at hb2 hs2 ⊢
        clear hw3 hx2
        go_wp2
        go_loopw [11, 12, 13] (fun r t i wr => ∃ (k : Nat) (T : Int) (L : List (Int × Int)), k ≤ xs.length ∧ 0 ≤ T ∧ T ≤ 64 ∧ L.length = k ∧ t = .int .i64 T ∧ i = .int .i64 k ∧ Hid (goesL T (xs.drop k) = true) ∧ Hid (layL m xs = L ++ layL T (xs.drop k)) ∧
          wr.ownsRow w.heap.size 23 1 r k (ucells (partsL n L)) ∧ Below w.heap.size w wr) (fun _ _ i _ => xs.length - (intOf i).toNat)
        case atStart => exact ⟨0, m, [], by omega, by omega, by omega, rfl, rfl, rfl, hgl, rfl, by simpa [ucells, partsL] using World.ownsRow_nil _ _ _ _, hb2⟩
        case round =>
          obtain ⟨k, T, L, hk, hT0, hT1, hLk, rfl, rfl, hgk, hlk, hown, hbr⟩ := hrel
          have hsr := hbr.size
          by_cases hlt : k < xs.length
          · obtain ⟨g, f, rfl⟩ := RowIs.addr ho k hlt
            have hc := hbr.cell (Go.block_lt_of_cell (ints_cell (hcell g f rfl) k hlt)) |>.trans (ints_cell (hcell g f rfl) k hlt)
            have hdr := List.drop_eq_getElem_cons hlt
            rw [hdr] at hgk hlk
            generalize xs[k] = x at *
            obtain ⟨hx1, hx2, hgn⟩ := goesL_cons hgk.out
            replace hgn := Lib.hid hgn
            replace hLk := Lib.hid hLk
            clear hcell hdr hgk
            go_wp2_with (go_at_call 11; fail)
            refine (rpart_any (T - x) x n _ hn).mono ?_
            rintro e w4 ⟨rfl, hb4⟩
            haveI hx4 := ExtC.mk hb4
            have hown4 := ownsRow_below hown hb4
            have hs4 := hb4.size
            have hb40 : Below w.heap.size w w4 := hbr.trans (hb4.mono hsr)
            go_wp2_with (at_builtin; refine wpList_append1 rfl _ _ 35 rfl (w.heap.size) 23 i0 _ 1 8 Try.underlying35 hi hz0 hz1 hz2 rfl (by decide) _ (k) _ rfl (hown4) [.int .u64 (partV n (T - x) x : Nat)] rfl rfl (by simp [Value.oneCell']) (by unfold maxLen; omega) (by omega) (by omega) ?_; intro v5 w5 hown5 hg5 hb5)
            go_roundw
            case rel => exact ⟨k + 1, T - x, L ++ [(T - x, x)], by omega, by omega, by omega, by simp [hLk.out], rfl, by go_num, hgn, hlk.out.trans (by simp [layL]), by simpa [partsL, ucells] using hown5, hb40.trans hb5⟩
            case measure => simp [intOf] <;> omega
          · obtain rfl : k = xs.length := by omega
            have hL := hlk.out
            rw [List.drop_length] at hL
            simp only [layL, List.append_nil] at hL
            replace hL := Lib.hid hL
            replace hLk := Lib.hid hLk
            go_wp2
            refine bodyPost_ret (v := (.tuple #[u11, .int .i64 0])) (by simp (maxDischargeDepth := 6) [results, Try.results15, go_sem]) rfl ⟨_, rfl, by (repeat' (first | (with_reducible exact Below.refl _ _) | (with_reducible refine Below.alloc ?_ ?_ _) | (with_reducible refine Below.setCell ?_ ?_ _) | (with_reducible refine Below.drew ?_) | (with_reducible refine below_step ?_ (by assumption) ?_) | (with_reducible exact leC) | go_size)), ?_⟩
            exact ⟨u11, Or.inr (Or.inr ⟨hg2.out, by simpa using hnm, rfl, by rw [hL.out]; exact hown⟩)⟩
end Go.Proofs.Ytmfohpfecpgbpaa
