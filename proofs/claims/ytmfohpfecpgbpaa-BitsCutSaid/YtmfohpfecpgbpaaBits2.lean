/- The contract of goes. No condition. -/
import Derived.Test.YtmfohpfecpgbpaaBits
import Derived.Test.YtmfohpfecpgbpaaInts
namespace Go.Proofs.Ytmfohpfecpgbpaa
open Go.RowKit
attribute [local go_sem] cellI frozenI cellOf_is frozenOf_is cellA frozenA setCellA

def totalAt : Nat → Int
  | 0 => 8 | 1 => 16 | 2 => 24 | 3 => 32 | _ => 64
/-- Do widths use up what is left? -/
def goesL : Int → List Int → Bool
  | left, [] => left == 0
  | left, x :: xs => if x < 1 ∨ left < x then false else goesL (left - x) xs
def goesV (total : Int) (xs : List Int) : Bool := hasB totalAt total && goesL total xs

set_option maxHeartbeats 800000 in
theorem goes_any (total : Int) (v : Value) (xs : List Int) (w : World) (h : IntsArg .i64 w v xs) :
    Calls Try.prog 20 #[.int .i64 total, v] w fun e w' => e = .returned (.bool (goesV total xs)) ∧ Below w.heap.size w w' := by
  cases ht : hasB totalAt total
  · have hv : goesV total xs = false := by simp [goesV, ht]
    rw [hv]
    clear hv
    go_enter Try.func20, Try.ntmps20
    go_wp2_with (go_at_call 24; fail)
    refine (contains_any totalAt w.heap.size 5 total _ (fun j hj => ?_)).mono ?_
    · rw [Go.cell_of_row _ _ _ _ _ _ (Go.heap_alloc_new _ _)]
      match j, hj with
      | 0, _ => rfl
      | 1, _ => rfl
      | 2, _ => rfl
      | 3, _ => rfl
      | 4, _ => rfl
    rintro e _ ⟨rfl, rfl⟩
    rw [ht]
    go_wp2
    exact bodyPost_ret (v := (.bool false)) (by simp (maxDischargeDepth := 6) [results, Try.results20, go_sem]) rfl ⟨rfl, by (repeat' (first | (with_reducible exact Below.refl _ _) | (with_reducible refine Below.alloc ?_ ?_ _) | (with_reducible refine Below.setCell ?_ ?_ _) | (with_reducible refine Below.drew ?_) | (with_reducible refine below_step ?_ (by assumption) ?_) | (with_reducible exact leC) | go_size))⟩
  · have hv : goesV total xs = goesL total xs := by simp [goesV, ht]
    have htr : total = 8 ∨ total = 16 ∨ total = 24 ∨ total = 32 ∨ total = 64 := by
      obtain ⟨k, hk, rfl⟩ := (has_iff _ _).1 ht
      match k, hk with
      | 0, _ => exact Or.inl rfl
      | 1, _ => exact Or.inr (Or.inl rfl)
      | 2, _ => exact Or.inr (Or.inr (Or.inl rfl))
      | 3, _ => exact Or.inr (Or.inr (Or.inr (Or.inl rfl)))
      | 4, _ => exact Or.inr (Or.inr (Or.inr (Or.inr rfl)))
    obtain ⟨ht0, ht1⟩ : 0 ≤ total ∧ total ≤ 64 := by omega
    rw [hv]
    clear hv htr
    obtain ⟨G, hG⟩ : ∃ G, goesL total xs = G := ⟨_, rfl⟩
    rw [hG]
    replace hG := Lib.hid hG
    rcases h with ⟨rfl, rfl⟩ | ⟨a, cap, rfl, hcap, hm, hcell, hwf⟩
    · have hGs := hG.out
      simp only [goesL] at hGs
      go_enter Try.func20, Try.ntmps20
      go_wp2_with (go_at_call 24; fail)
      refine (contains_any totalAt w.heap.size 5 total _ (fun j hj => ?_)).mono ?_
      · rw [Go.cell_of_row _ _ _ _ _ _ (Go.heap_alloc_new _ _)]
        match j, hj with
        | 0, _ => rfl
        | 1, _ => rfl
        | 2, _ => rfl
        | 3, _ => rfl
        | 4, _ => rfl
      rintro e _ ⟨rfl, rfl⟩
      rw [ht]
      replace hGs := Lib.hid hGs
      go_wp2
      go_loop [5, 15] (fun lv i => lv = .int .i64 total ∧ i = .int .i64 0) (fun _ _ => 0)
      case atStart => exact ⟨rfl, rfl⟩
      case round =>
        obtain ⟨rfl, rfl⟩ := hrel
        go_wp2
        exact bodyPost_ret (v := (.bool G)) (by simp (maxDischargeDepth := 6) [results, Try.results20, go_sem, ← hGs.out]) rfl ⟨rfl, by (repeat' (first | (with_reducible exact Below.refl _ _) | (with_reducible refine Below.alloc ?_ ?_ _) | (with_reducible refine Below.setCell ?_ ?_ _) | (with_reducible refine Below.drew ?_) | (with_reducible refine below_step ?_ (by assumption) ?_) | (with_reducible exact leC) | go_size))⟩
    ·
      go_enter Try.func20, Try.ntmps20
      go_wp2_with (go_at_call 24; fail)
      refine (contains_any totalAt w.heap.size 5 total _ (fun j hj => ?_)).mono ?_
      · rw [Go.cell_of_row _ _ _ _ _ _ (Go.heap_alloc_new _ _)]
        match j, hj with
        | 0, _ => rfl
        | 1, _ => rfl
        | 2, _ => rfl
        | 3, _ => rfl
        | 4, _ => rfl
      rintro e _ ⟨rfl, rfl⟩
      rw [ht]
      have hbw : Below w.heap.size w (w.alloc (.cells #[.int .i64 8, .int .i64 16, .int .i64 24, .int .i64 32, .int .i64 64] 3)) := by (repeat' (first | (with_reducible exact Below.refl _ _) | (with_reducible refine Below.alloc ?_ ?_ _) | (with_reducible refine Below.setCell ?_ ?_ _) | (with_reducible refine Below.drew ?_) | (with_reducible refine below_step ?_ (by assumption) ?_) | (with_reducible exact leC) | go_size))
      have hcw : ∀ i, i < xs.length → (w.alloc (.cells #[.int .i64 8, .int .i64 16, .int .i64 24, .int .i64 32, .int .i64 64] 3)).cell? (a.add i) = some (.int .i64 (xs.getD i 0)) := fun i hi => (hbw.cell (p := a.add i) (Go.block_lt_of_cell (hcell i hi))).trans (hcell i hi)
      clear hcell
      generalize w.alloc (.cells #[.int .i64 8, .int .i64 16, .int .i64 24, .int .i64 32, .int .i64 64] 3) = W at *
      replace hwf := Lib.hid hwf
      go_wp2
      go_loop [5, 15] (fun lv i => ∃ (k : Nat) (L : Int), k ≤ xs.length ∧ 0 ≤ L ∧ L ≤ 64 ∧ lv = .int .i64 L ∧ i = .int .i64 k ∧ Hid (goesL L (xs.drop k) = G)) (fun _ i => xs.length - (intOf i).toNat)
      case atStart => exact ⟨0, total, by omega, ht0, ht1, rfl, rfl, hG⟩
      case round =>
        obtain ⟨k, L, hk, hL0, hL1, rfl, rfl, hGk⟩ := hrel
        by_cases hlt : k < xs.length
        · have hck := hcw k hlt
          have hdr := List.drop_eq_getElem_cons hlt
          have hgd : xs.getD k 0 = xs[k] := by rw [List.getD, List.getElem?_eq_getElem hlt]; rfl
          rw [hgd] at hck
          have hGs := hGk.out
          rw [hdr] at hGs
          generalize xs[k] = x at *
          simp only [goesL] at hGs
          clear hdr hgd hcw
          by_cases h1 : x < 1
          · rw [if_pos (Or.inl h1)] at hGs
            subst hGs
            have hd1 : decide (x < 1) = true := decide_eq_true h1
            go_wp2
            exact bodyPost_ret (v := (.bool false)) (by simp (maxDischargeDepth := 6) [results, Try.results20, go_sem]) rfl ⟨rfl, by (repeat' (first | (with_reducible exact Below.refl _ _) | (with_reducible refine Below.alloc ?_ ?_ _) | (with_reducible refine Below.setCell ?_ ?_ _) | (with_reducible refine Below.drew ?_) | (with_reducible refine below_step ?_ (by assumption) ?_) | (with_reducible exact leC) | go_size))⟩
          · by_cases h2 : L < x
            · rw [if_pos (Or.inr h2)] at hGs
              subst hGs
              have hd1 : decide (x < 1) = false := decide_eq_false h1
              have hd2 : decide (L < x) = true := decide_eq_true h2
              go_wp2
              exact bodyPost_ret (v := (.bool false)) (by simp (maxDischargeDepth := 6) [results, Try.results20, go_sem]) rfl ⟨rfl, by (repeat' (first | (with_reducible exact Below.refl _ _) | (with_reducible refine Below.alloc ?_ ?_ _) | (with_reducible refine Below.setCell ?_ ?_ _) | (with_reducible refine Below.drew ?_) | (with_reducible refine below_step ?_ (by assumption) ?_) | (with_reducible exact leC) | go_size))⟩
            · rw [if_neg (by omega)] at hGs
              have hd1 : decide (x < 1) = false := decide_eq_false h1
              have hd2 : decide (L < x) = false := decide_eq_false h2
              replace hGs := Lib.hid hGs
              go_wp2
              go_round
              case rel => exact ⟨k + 1, L - x, by omega, by omega, by omega, rfl, by go_num, hGs⟩
              case measure => simp [intOf]; omega
        · obtain rfl : k = xs.length := by omega
          have hGs := hGk.out
          rw [List.drop_length] at hGs
          simp only [goesL] at hGs
          clear hcw
          go_wp2
          exact bodyPost_ret (v := (.bool G)) (by simp (maxDischargeDepth := 6) [results, Try.results20, go_sem, ← hGs]) rfl ⟨rfl, by (repeat' (first | (with_reducible exact Below.refl _ _) | (with_reducible refine Below.alloc ?_ ?_ _) | (with_reducible refine Below.setCell ?_ ?_ _) | (with_reducible refine Below.drew ?_) | (with_reducible refine below_step ?_ (by assumption) ?_) | (with_reducible exact leC) | go_size))⟩
end Go.Proofs.Ytmfohpfecpgbpaa
