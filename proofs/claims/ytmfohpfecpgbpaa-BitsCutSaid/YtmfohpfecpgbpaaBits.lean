/- Contracts of slices.Index and Contains at five integers of the caller's own, and of word.Mask. No condition. -/
import Derived.Test.YtmfohpfecpgbpaaBase
namespace Go.Proofs.Ytmfohpfecpgbpaa
open Go.RowKit
attribute [local go_sem] cellI frozenI cellOf_is frozenOf_is cellA frozenA setCellA
attribute [-go_sem] run_min_int2

/-- Does a list of five hold a number? -/
def hasB (f : Nat → Int) (v : Int) : Bool := (List.range 5).any fun j => decide (v = f j)
theorem has_iff (f : Nat → Int) (v : Int) : hasB f v = true ↔ ∃ k, k < 5 ∧ v = f k := by
  simp [hasB, List.any_eq_true]
set_option maxHeartbeats 800000 in
theorem index_any (f : Nat → Int) (g cap : Nat) (v : Int) (w : World) (hc : ∀ k, k < 5 → w.cell? ⟨g, k, none⟩ = some (.int .i64 (f k))) :
    Calls Try.prog 25 #[.slice (some ⟨g, 0, none⟩) 5 cap, .int .i64 v] w fun e w' => ∃ r : Int, e = .returned (.int .i64 r) ∧ (decide (0 ≤ r) = hasB f v) ∧ w' = w := by
  have hg := Lib.hid (has_iff f v)
  go_enter Try.func25, Try.ntmps25
  go_wp2
  go_loop [8] (fun i => ∃ k : Nat, k ≤ 5 ∧ i = .int .i64 k ∧ Hid (∀ j, j < k → v ≠ f j)) (fun i => 5 - (intOf i).toNat)
  case atStart => exact ⟨0, by omega, rfl, fun j h => absurd h (Nat.not_lt_zero _)⟩
  case round =>
    obtain ⟨k, hk, rfl, hne⟩ := hrel
    by_cases hlt : k < 5
    · obtain ⟨z, hze, hcz⟩ : ∃ z, f k = z ∧ w.cell? ⟨g, k, none⟩ = some (.int .i64 z) := ⟨_, rfl, hc k hlt⟩
      have hd : decide ((k : Int) < 5) = true := decide_eq_true (by omega)
      by_cases hz : v = z
      · have hgt : hasB f v = true := hg.out.2 ⟨k, hlt, by rw [hz, hze]⟩
        have hk0 : decide ((0 : Int) ≤ (k : Int)) = true := decide_eq_true (by omega)
        replace hgt := Lib.hid hgt
        replace hk0 := Lib.hid hk0
        replace hze := Lib.hid hze
        clear hc
        subst hz
        go_wp2
        exact bodyPost_ret (v := .int .i64 k) (by simp (maxDischargeDepth := 6) [results, Try.results25, go_sem]) rfl ⟨k, rfl, hk0.out.trans hgt.out.symm, rfl⟩
      · have hvz : (v == z) = false := by simpa using hz
        have hvz2 : decide (v = z) = false := decide_eq_false hz
        replace hze := Lib.hid hze
        clear hc
        go_wp2
        go_round
        case rel =>
          refine ⟨k + 1, by omega, by go_num, fun j hj => ?_⟩
          by_cases hjk : j = k
          · rw [hjk, hze.out]; exact hz
          · exact hne.out j (by omega)
        case measure => simp [intOf]; omega
    · obtain rfl : k = 5 := by omega
      have hgf : hasB f v = false := by
        cases h : hasB f v with
        | false => rfl
        | true =>
          obtain ⟨j, hj, he⟩ := hg.out.1 h
          exact absurd he (hne.out j hj)
      replace hgf := Lib.hid hgf
      clear hc
      go_wp2
      exact bodyPost_ret (v := .int .i64 (-1)) (by simp (maxDischargeDepth := 6) [results, Try.results25, go_sem]) rfl ⟨-1, rfl, by rw [hgf.out]; rfl, rfl⟩
theorem contains_any (f : Nat → Int) (g cap : Nat) (v : Int) (w : World) (hc : ∀ k, k < 5 → w.cell? ⟨g, k, none⟩ = some (.int .i64 (f k))) :
    Calls Try.prog 24 #[.slice (some ⟨g, 0, none⟩) 5 cap, .int .i64 v] w fun e w' => e = .returned (.bool (hasB f v)) ∧ w' = w := by
  go_enter Try.func24, Try.ntmps24
  go_wp2_with (go_at_call 25; fail)
  refine (index_any f g cap v w hc).mono ?_
  rintro e _ ⟨r, rfl, hr, rfl⟩
  go_wp2
  exact bodyPost_ret (v := .bool (hasB f v)) (by simp (maxDischargeDepth := 6) [results, Try.results24, go_sem, hr]) rfl ⟨rfl, rfl⟩

theorem mask_num : ∀ m : Nat, m ≤ 64 → 18446744073709551615 / 2 ^ (64 - m) = 2 ^ m - 1 := by decide +kernel
/-- The number of so many ones, at most 64. -/
theorem mask_any (m : Nat) (w : World) (h1 : 1 ≤ m) (h : m ≤ 64) :
    Calls Try.prog 21 #[.int .i64 m] w fun e w' => e = .returned (.int .u64 ((2 ^ m - 1 : Nat) : Int)) ∧ Below w.heap.size w w' := by
  have hmn : ∀ (w : World) (ts : Array TypeId) (t : TypeId), (Builtin.min_ ts t #[.int .i64 m, .int .i64 64]).run Try.prog w = .ok (.int .i64 m) w := fun w ts t => by rw [run_min_int2, if_neg (by omega)]
  obtain ⟨q, hq, hqm⟩ : ∃ q : Nat, (64 : Int) - m = q ∧ q = 64 - m := ⟨64 - m, by omega, rfl⟩
  have hv : (18446744073709551615 : Int) / 2 ^ q = ((2 ^ m - 1 : Nat) : Int) := by
    rw [← mask_num m h, ← hqm, Int.natCast_ediv, Int.natCast_pow]
    rfl
  obtain ⟨V, hV⟩ : ∃ V : Nat, 2 ^ m - 1 = V := ⟨_, rfl⟩
  rw [hV] at hv ⊢
  replace hqm := Lib.hid hqm
  clear hV
  go_enter Try.func21, Try.ntmps21
  go_wp2
  exact bodyPost_ret (v := (.int .u64 V)) (by simp (maxDischargeDepth := 6) [results, Try.results21, go_sem, hq, hv]) rfl ⟨rfl, by (repeat' (first | (with_reducible exact Below.refl _ _) | (with_reducible refine Below.alloc ?_ ?_ _) | (with_reducible refine Below.setCell ?_ ?_ _) | (with_reducible refine Below.drew ?_) | (with_reducible refine below_step ?_ (by assumption) ?_) | (with_reducible exact leC) | go_size))⟩
end Go.Proofs.Ytmfohpfecpgbpaa
