/- Contracts of Good (and slices.Contains, slices.Index under it) and of the reference's. No condition. -/
import Derived.Test.YtnpbhdphbbdefaaBase
namespace Go.Proofs.Ytnpbhdphbbdefaa
open Go.RowKit
attribute [local go_sem] cellI frozenI cellOf_is frozenOf_is cellA frozenA setCellA

/-- The sizes that a number may have. -/
def goodB (k : Int) : Bool := decide (k = 1 ∨ k = 2 ∨ k = 3 ∨ k = 4 ∨ k = 8)
def sizeAt : Nat → Int
  | 0 => 1 | 1 => 2 | 2 => 3 | 3 => 4 | _ => 8
theorem good_at (v : Int) : goodB v = true ↔ ∃ k, k < 5 ∧ v = sizeAt k := by
  unfold goodB
  rw [decide_eq_true_iff]
  constructor
  · rintro (h | h | h | h | h)
    · exact ⟨0, by omega, h⟩
    · exact ⟨1, by omega, h⟩
    · exact ⟨2, by omega, h⟩
    · exact ⟨3, by omega, h⟩
    · exact ⟨4, by omega, h⟩
  · rintro ⟨k, hk, rfl⟩
    match k, hk with
    | 0, _ => exact Or.inl rfl
    | 1, _ => exact Or.inr (Or.inl rfl)
    | 2, _ => exact Or.inr (Or.inr (Or.inl rfl))
    | 3, _ => exact Or.inr (Or.inr (Or.inr (Or.inl rfl)))
    | 4, _ => exact Or.inr (Or.inr (Or.inr (Or.inr rfl)))

set_option maxHeartbeats 800000 in
theorem index_any (g cap : Nat) (v : Int) (w : World) (hc : ∀ k, k < 5 → w.cell? ⟨g, k, none⟩ = some (.int .i64 (sizeAt k))) :
    Calls Try.prog 21 #[.slice (some ⟨g, 0, none⟩) 5 cap, .int .i64 v] w fun e w' => ∃ r : Int, e = .returned (.int .i64 r) ∧ (decide (0 ≤ r) = goodB v) ∧ w' = w := by
  have hg := Lib.hid (good_at v)
  go_enter Try.func21, Try.ntmps21
  go_wp2
  go_loop [8] (fun i => ∃ k : Nat, k ≤ 5 ∧ i = .int .i64 k ∧ Hid (∀ j, j < k → v ≠ sizeAt j)) (fun i => 5 - (intOf i).toNat)
  case atStart => exact ⟨0, by omega, rfl, fun j h => absurd h (Nat.not_lt_zero _)⟩
  case round =>
    obtain ⟨k, hk, rfl, hne⟩ := hrel
    by_cases hlt : k < 5
    · obtain ⟨z, hze, hcz⟩ : ∃ z, sizeAt k = z ∧ w.cell? ⟨g, k, none⟩ = some (.int .i64 z) := ⟨_, rfl, hc k hlt⟩
      have hd : decide ((k : Int) < 5) = true := decide_eq_true (by omega)
      by_cases hz : v = z
      · have hgt : goodB v = true := hg.out.2 ⟨k, hlt, by rw [hz, hze]⟩
        have hk0 : decide ((0 : Int) ≤ (k : Int)) = true := decide_eq_true (by omega)
        replace hgt := Lib.hid hgt
        replace hk0 := Lib.hid hk0
        replace hze := Lib.hid hze
        clear hc
        subst hz
        go_wp2
        exact bodyPost_ret (v := .int .i64 k) (by simp (maxDischargeDepth := 6) [results, Try.results21, go_sem]) rfl ⟨k, rfl, hk0.out.trans hgt.out.symm, rfl⟩
      · have hvz : (v == z) = false := by simpa using hz
        have hvz2 : decide (v = z) = false := decide_eq_false hz
        replace hze := Lib.hid hze
        clear hc
        go_wp2
        go_round
        case rel =>
          refine ⟨k + 1, by omega, by go_num, fun j hj => ?_⟩
          by_cases hjk : j = k
          · rw [hjk, hze.out]; exact hz
          · exact hne.out j (by omega)
        case measure => simp [intOf]; omega
    · obtain rfl : k = 5 := by omega
      have hgf : goodB v = false := by
        cases h : goodB v with
        | false => rfl
        | true =>
          obtain ⟨j, hj, he⟩ := hg.out.1 h
          exact absurd he (hne.out j hj)
      replace hgf := Lib.hid hgf
      clear hc
      go_wp2
      exact bodyPost_ret (v := .int .i64 (-1)) (by simp (maxDischargeDepth := 6) [results, Try.results21, go_sem]) rfl ⟨-1, rfl, by rw [hgf.out]; rfl, rfl⟩
theorem contains_any (g cap : Nat) (v : Int) (w : World) (hc : ∀ k, k < 5 → w.cell? ⟨g, k, none⟩ = some (.int .i64 (sizeAt k))) :
    Calls Try.prog 19 #[.slice (some ⟨g, 0, none⟩) 5 cap, .int .i64 v] w fun e w' => e = .returned (.bool (goodB v)) ∧ w' = w := by
  go_enter Try.func19, Try.ntmps19
  go_wp2_with (go_at_call 21; fail)
  refine (index_any g cap v w hc).mono ?_
  rintro e _ ⟨r, rfl, hr, rfl⟩
  go_wp2
  exact bodyPost_ret (v := .bool (goodB v)) (by simp (maxDischargeDepth := 6) [results, Try.results19, go_sem, hr]) rfl ⟨rfl, rfl⟩
theorem good_any (k : Int) (w : World) :
    Calls Try.prog 10 #[.int .i64 k] w fun e w' => e = .returned (.bool (goodB k)) ∧ Below w.heap.size w w' := by
  go_enter Try.func10, Try.ntmps10
  go_wp2_with (go_at_call 19; fail)
  refine (contains_any w.heap.size 5 k _ (fun j hj => ?_)).mono ?_
  · rw [Go.cell_of_row _ _ _ _ _ _ (Go.heap_alloc_new _ _)]
    match j, hj with
    | 0, _ => rfl
    | 1, _ => rfl
    | 2, _ => rfl
    | 3, _ => rfl
    | 4, _ => rfl
  rintro e _ ⟨rfl, rfl⟩
  go_wp2
  exact bodyPost_ret (v := (.bool (goodB k))) (by simp (maxDischargeDepth := 6) [results, Try.results10, go_sem]) rfl ⟨rfl, by (repeat' (first | (with_reducible exact Below.refl _ _) | (with_reducible refine Below.alloc ?_ ?_ _) | (with_reducible refine Below.setCell ?_ ?_ _) | (with_reducible refine Below.drew ?_) | (with_reducible refine below_step ?_ (by assumption) ?_) | (with_reducible exact leC) | go_size))⟩
theorem rgood_any (k : Int) (w : World) :
    Calls Try.prog 11 #[.int .i64 k] w fun e w' => e = .returned (.bool (goodB k)) ∧ Below w.heap.size w w' := by
  have hg : goodB k = (k == 1 || k == 2 || k == 3 || k == 4 || k == 8) := by
    unfold goodB
    rw [Bool.eq_iff_iff]
    simp [or_assoc]
  rw [hg]
  clear hg
  go_enter Try.func11, Try.ntmps11
  go_wp2
  all_goals (try subst_vars)
  all_goals exact bodyPost_ret (v := (.bool _)) (by simp (maxDischargeDepth := 6) [results, Try.results11, go_sem]) rfl ⟨rfl, by (repeat' (first | (with_reducible exact Below.refl _ _) | (with_reducible refine Below.alloc ?_ ?_ _) | (with_reducible refine Below.setCell ?_ ?_ _) | (with_reducible refine Below.drew ?_) | (with_reducible refine below_step ?_ (by assumption) ?_) | (with_reducible exact leC) | go_size))⟩
end Go.Proofs.Ytnpbhdphbbdefaa
