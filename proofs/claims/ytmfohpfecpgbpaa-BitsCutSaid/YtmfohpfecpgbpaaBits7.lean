/- Contracts of the reference's Goes, and of Split. No condition. -/
import Derived.Test.YtmfohpfecpgbpaaBits6
import Derived.Test.YtmfohpfecpgbpaaRow
namespace Go.Proofs.Ytmfohpfecpgbpaa
open Go.RowKit
attribute [local go_sem] cellI frozenI cellOf_is frozenOf_is cellA frozenA setCellA

set_option maxHeartbeats 400000 in
theorem rgoes_any (total : Int) (v : Value) (xs : List Int) (w : World) (h : IntsArg .i64 w v xs) :
    Calls Try.prog 9 #[.int .i64 total, v] w fun e w' => e = .returned (.bool (goesV total xs)) ∧ Below w.heap.size w w' := by
  cases ht : hasB totalAt total
  · have hv : goesV total xs = false := by simp [goesV, ht]
    rw [hv]
    exact rgoes_no total v w ht
  · have hv : goesV total xs = goesL total xs := by simp [goesV, ht]
    obtain ⟨ht0, ht1⟩ : 0 ≤ total ∧ total ≤ 64 := by rcases (total_iff total).1 ht with rfl | rfl | rfl | rfl | rfl <;> omega
    rw [hv]
    clear hv
    obtain ⟨G, hG⟩ : ∃ G, goesL total xs = G := ⟨_, rfl⟩
    rw [hG]
    replace hG := Lib.hid hG
    obtain ⟨o, cap, rfl, hl1, hl2, ho, hcell⟩ := RowIs.of_ints h
    have hwf := fun i hi => wf_i64 (ints_wf h (xs[i]'hi) (List.getElem_mem hi))
    clear h
    have htt := (total_iff total).1 ht
    obtain ⟨T, hT⟩ : ∃ T, T = total := ⟨_, rfl⟩
    rw [← hT] at hG
    replace hT := Lib.hid hT
    rcases htt with rfl | rfl | rfl | rfl | rfl
    all_goals
      clear ht ht0 ht1
      go_enter Try.func9, Try.ntmps9
      go_wp2
      go_loop [5, 6] (fun s i => ∃ (k : Nat) (S : Int), k ≤ xs.length ∧ 0 ≤ S ∧ S ≤ 64 ∧ s = .int .i64 S ∧ i = .int .i64 k ∧ Hid (goesL (T - S) (xs.drop k) = G)) (fun _ i => xs.length - (intOf i).toNat)
      case atStart => exact ⟨0, 0, by omega, by omega, by omega, rfl, rfl, by rw [Int.sub_zero]; exact hG⟩
      case round =>
        obtain ⟨k, S, hk, hS0, hS1, rfl, rfl, hGk⟩ := hrel
        by_cases hlt : k < xs.length
        · obtain ⟨g, f, rfl⟩ := RowIs.addr ho k hlt
          have hck := ints_cell (hcell g f rfl) k hlt
          have hwk := hwf k hlt
          have hdr := List.drop_eq_getElem_cons hlt
          have hGs := hGk.out
          rw [hdr] at hGs
          generalize xs[k] = x at *
          simp only [goesL] at hGs
          clear hdr hcell hwf
          have hTo := hT.out
          split at hGs
          · rename_i h1
            subst hGs
            have h1' := h1
            rw [hTo] at h1'
            clear hTo
            by_cases h2 : x < 1
            · go_wp2
              exact bodyPost_ret (v := (.bool false)) (by simp (maxDischargeDepth := 6) [results, Try.results9, go_sem]) rfl ⟨rfl, by (repeat' (first | (with_reducible exact Below.refl _ _) | (with_reducible refine Below.alloc ?_ ?_ _) | (with_reducible refine Below.setCell ?_ ?_ _) | (with_reducible refine Below.drew ?_) | (with_reducible refine below_step ?_ (by assumption) ?_) | (with_reducible exact leC) | go_size))⟩
            · by_cases h3 : 64 < x
              · go_wp2
                exact bodyPost_ret (v := (.bool false)) (by simp (maxDischargeDepth := 6) [results, Try.results9, go_sem]) rfl ⟨rfl, by (repeat' (first | (with_reducible exact Below.refl _ _) | (with_reducible refine Below.alloc ?_ ?_ _) | (with_reducible refine Below.setCell ?_ ?_ _) | (with_reducible refine Below.drew ?_) | (with_reducible refine below_step ?_ (by assumption) ?_) | (with_reducible exact leC) | go_size))⟩
              · go_wp2
                exact bodyPost_ret (v := (.bool false)) (by simp (maxDischargeDepth := 6) [results, Try.results9, go_sem]) rfl ⟨rfl, by (repeat' (first | (with_reducible exact Below.refl _ _) | (with_reducible refine Below.alloc ?_ ?_ _) | (with_reducible refine Below.setCell ?_ ?_ _) | (with_reducible refine Below.drew ?_) | (with_reducible refine below_step ?_ (by assumption) ?_) | (with_reducible exact leC) | go_size))⟩
          · rename_i h1
            have h2 : ¬ x < 1 := by omega
            have h3 : ¬ 64 < x := by omega
            rw [hTo] at h1
            clear hTo
            replace hGs := Lib.hid hGs
            go_wp2
            go_round
            case rel => exact ⟨k + 1, S + x, by omega, by omega, by omega, rfl, by go_num, by rw [← Int.sub_sub]; exact hGs⟩
            case measure => simp [intOf] <;> omega
        · obtain rfl : k = xs.length := by omega
          have hGs := hGk.out
          rw [List.drop_length] at hGs
          simp only [goesL] at hGs
          rw [hT.out] at hGs
          have hGe : ∀ N : Int, (S == N) = (N - S == 0) := fun N => by rw [Bool.eq_iff_iff]; simp; omega
          have hGe2 := (hGe _).trans hGs
          clear hGe hGs
          clear hcell
          go_wp2
          exact bodyPost_ret (v := (.bool G)) (by simp (maxDischargeDepth := 6) [results, Try.results9, go_sem, hGe2]) rfl ⟨rfl, by (repeat' (first | (with_reducible exact Below.refl _ _) | (with_reducible refine Below.alloc ?_ ?_ _) | (with_reducible refine Below.setCell ?_ ?_ _) | (with_reducible refine Below.drew ?_) | (with_reducible refine below_step ?_ (by assumption) ?_) | (with_reducible exact leC) | go_size))⟩
end Go.Proofs.Ytmfohpfecpgbpaa
