/- The contract of slices.Reverse on bytes of the caller's own, and of Turn (and the reference's). Condition: the string takes at most 2^48 bytes. -/
import Derived.Test.YtnpbhdphbbdefaaEnds
import Derived.Deep.LoopGhost
import Derived.Sort.WalkB12
import Derived.Lib.SlicesMore
import Derived.RegionTactic
namespace Go.Proofs.Ytnpbhdphbbdefaa
open Go.RowKit Go.Lib Go.Sort
attribute [local go_sem] cellI frozenI cellOf_is frozenOf_is cellA frozenA setCellA

set_option maxHeartbeats 1600000 in
set_option maxRecDepth 1000000 in
theorem reverse_any (blk off cap : Nat) (d : Array Int) (w : World) (hH : Holds (Value.int .u8) w blk off d) (hsz : d.size ≤ 281474976710656) :
    Calls Try.prog 18 #[.slice (some ⟨blk, off, none⟩) d.size cap] w fun e w' => e = .returned (.tuple #[]) ∧ ∃ n, w' = putRow (Value.int .u8) (Sort.ahead w n) blk off d.reverse := by
  go_enter Try.func18, Try.ntmps18
  go_wp2
  go_loopg [2, 3] d.size (fun k s2 s3 wr => ∃ (i jn : Nat) (jz : Int) (dk : Array Int) (n : Nat), s2 = .int .i64 i ∧ s3 = .int .i64 jz ∧ ((i : Int) < jz → jz = jn ∧ jn < d.size) ∧ (¬ (i : Int) < jz → ¬ i < jn) ∧ jn - i ≤ k ∧
    dk.size = d.size ∧ wr = putRow (Value.int .u8) (Sort.ahead w n) blk off dk ∧ reverseLoop i jn dk = reverseLoop 0 (d.size - 1) d)
  case atStart => exact ⟨0, d.size - 1, (d.size : Int) - 1, d, 0, rfl, rfl, fun h => ⟨by omega, by omega⟩, fun h => by omega, by omega, rfl, (putRow_self (Value.int .u8) w blk off d hH).symm, rfl⟩
  case round =>
    obtain ⟨i, jn, jz, dk, n, rfl, rfl, h1, h2, hk, hds, hwr, heq⟩ := hrel
    by_cases hlt : (i : Int) < jz
    · obtain ⟨rfl, hjn⟩ := h1 hlt
      have hij : i < jn := by omega
      have hHk : Holds (Value.int .u8) wr blk off dk := by rw [hwr]; exact holds_putRow (Value.int .u8) _ blk off d dk (holds_ahead (Value.int .u8) w n blk off d hH) hds
      obtain ⟨ci, fi⟩ := hHk i (by omega)
      obtain ⟨cj, fj⟩ := hHk jn (by omega)
      have A := Lib.hid hwr
      clear hwr hHk hH h1 h2
      go_wp2
      go_region
      go_wp2
      go_roundg (jn - 1 - (i + 1))
      case measure => omega
      case rel =>
        rw [reverseLoop, if_pos hij] at heq
        exact ⟨i + 1, jn - 1, (jn : Int) - 1, swp dk i jn, n + 1, by simp, rfl, fun h => ⟨by omega, by omega⟩, fun h => by omega, Nat.le_refl _, by rw [size_swp]; exact hds,
          swap_world (Value.int .u8) (by omega) (by omega) A.out (by first | rfl | simp [getElem!_pos, show jn < dk.size by omega]) (by first | rfl | simp [getElem!_pos, show i < dk.size by omega]), heq⟩
    · have hnot := h2 hlt
      go_wp2
      exact bodyPost_end (v := .tuple #[]) (by simp (maxDischargeDepth := 6) [results, Try.results18, go_sem]) rfl ⟨rfl, n, by
        rw [reverseLoop, if_neg hnot] at heq
        rw [← Lib.reverseLoop_reverse, ← heq]⟩
end Go.Proofs.Ytnpbhdphbbdefaa
