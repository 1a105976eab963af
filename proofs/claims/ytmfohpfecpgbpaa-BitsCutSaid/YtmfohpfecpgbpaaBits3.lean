/- The reference's Goes at a total that may not be. No condition. -/
import Derived.Test.YtmfohpfecpgbpaaBits2
namespace Go.Proofs.Ytmfohpfecpgbpaa
open Go.RowKit
attribute [local go_sem] cellI frozenI cellOf_is frozenOf_is cellA frozenA setCellA

theorem total_iff (t : Int) : hasB totalAt t = true ↔ t = 8 ∨ t = 16 ∨ t = 24 ∨ t = 32 ∨ t = 64 := by
  rw [has_iff]
  constructor
  · rintro ⟨k, hk, rfl⟩
    match k, hk with
    | 0, _ => exact Or.inl rfl
    | 1, _ => exact Or.inr (Or.inl rfl)
    | 2, _ => exact Or.inr (Or.inr (Or.inl rfl))
    | 3, _ => exact Or.inr (Or.inr (Or.inr (Or.inl rfl)))
    | 4, _ => exact Or.inr (Or.inr (Or.inr (Or.inr rfl)))
  · rintro (rfl | rfl | rfl | rfl | rfl)
    · exact ⟨0, by omega, rfl⟩
    · exact ⟨1, by omega, rfl⟩
    · exact ⟨2, by omega, rfl⟩
    · exact ⟨3, by omega, rfl⟩
    · exact ⟨4, by omega, rfl⟩
set_option maxHeartbeats 800000 in
theorem rgoes_no (total : Int) (v : Value) (w : World) (ht : hasB totalAt total = false) :
    Calls Try.prog 9 #[.int .i64 total, v] w fun e w' => e = .returned (.bool false) ∧ Below w.heap.size w w' := by
  have hn : ¬ (total = 8 ∨ total = 16 ∨ total = 24 ∨ total = 32 ∨ total = 64) := fun h => by rw [(total_iff total).2 h] at ht; cases ht
  have h1 : (total == 8) = false := by simp; omega
  have g1 : (total != 8) = true := by simp; omega
  have h2 : (total == 16) = false := by simp; omega
  have g2 : (total != 16) = true := by simp; omega
  have h3 : (total == 24) = false := by simp; omega
  have g3 : (total != 24) = true := by simp; omega
  have h4 : (total == 32) = false := by simp; omega
  have g4 : (total != 32) = true := by simp; omega
  have h5 : (total == 64) = false := by simp; omega
  have g5 : (total != 64) = true := by simp; omega
  clear hn ht
  go_enter Try.func9, Try.ntmps9
  go_wp2
  exact bodyPost_ret (v := (.bool false)) (by simp (maxDischargeDepth := 6) [results, Try.results9, go_sem]) rfl ⟨rfl, by (repeat' (first | (with_reducible exact Below.refl _ _) | (with_reducible refine Below.alloc ?_ ?_ _) | (with_reducible refine Below.setCell ?_ ?_ _) | (with_reducible refine Below.drew ?_) | (with_reducible refine below_step ?_ (by assumption) ?_) | (with_reducible exact leC) | go_size))⟩
end Go.Proofs.Ytmfohpfecpgbpaa
