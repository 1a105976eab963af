/- The contract of the reference's Turn. Condition: the string takes at most 2^47 - 4096 bytes. -/
import Derived.Test.YtnpbhdphbbdefaaEndsT
namespace Go.Proofs.Ytnpbhdphbbdefaa
open Go.RowKit
attribute [local go_sem] cellI frozenI cellOf_is frozenOf_is cellA frozenA setCellA

theorem infoU8 : ∃ i : TypeInfo, Try.prog.info? 5 = some i ∧ i.zero = some (.int .u8 0) ∧ i.size = 1 ∧ i.bytes = 1 := by
  have h : ((Try.prog.info? 5).map fun i => (i.zero, i.size, i.bytes)) = some (some (.int .u8 0), 1, 1) := by kernel_rfl
  cases hi : Try.prog.info? 5 with
  | none => rw [hi] at h; cases h
  | some i =>
    rw [hi] at h
    simp only [Option.map_some, Option.some.injEq, Prod.mk.injEq] at h
    exact ⟨i, rfl, h.1, h.2.1, h.2.2⟩
theorem takeSnoc (l : List UInt8) (k : Nat) (h : k < l.length) : l.take (k + 1) = l.take k ++ [l.getD k 0] := by
  rw [List.take_add_one, List.getElem?_eq_getElem h]
  simp [h]

set_option maxHeartbeats 800000 in
theorem rturn_any (s : ByteArray) (w : World) (hs : s.size ≤ 140737488351232) :
    Calls Try.prog 13 #[.string s] w fun e w' => e = .returned (.string (turnB s)) ∧ Below w.heap.size w w' := by
  obtain ⟨i0, hi, hz0, hz1, hz2⟩ := infoU8
  have hrl : s.data.toList.reverse.length = s.size := by simp
  go_enter Try.func13, Try.ntmps13
  go_wp2
  go_loopw [3, 4] (fun b i wr => ∃ k : Nat, k ≤ s.size ∧ i = .int .i64 ((s.size : Int) - 1 - k) ∧ wr.ownsRow w.heap.size 5 1 b k (bcells (s.data.toList.reverse.take k)) ∧ Below w.heap.size w wr) (fun _ i _ => (intOf i + 1).toNat)
  case atStart => exact ⟨0, by omega, by simp, World.ownsRow_nil _ _ _ _, Below.refl _ _⟩
  case round =>
    obtain ⟨k, hk, rfl, hown, hb2⟩ := hrel
    have hs2 := hb2.size
    by_cases hlt : k < s.size
    · obtain ⟨j, hj, hjs⟩ : ∃ j : Nat, (s.size : Int) - 1 - k = (j : Int) ∧ j < s.size := ⟨s.size - 1 - k, by omega, by omega⟩
      have hsn := Lib.hid (takeSnoc s.data.toList.reverse k (by omega))
      have hx : s[j] = s.data.toList.reverse.getD k 0 := by
        have hkr : k < s.data.toList.reverse.length := by omega
        rw [List.getD, List.getElem?_eq_getElem hkr]
        simp only [List.getElem_reverse, Option.getD_some]
        have : s.data.toList.length - 1 - k = j := by rw [show s.data.toList.length = s.size by simp]; omega
        simp only [this]
        rfl
      obtain ⟨x, hx1, hx2⟩ : ∃ x : UInt8, s[j] = x ∧ Hid (x = s.data.toList.reverse.getD k 0) := ⟨_, rfl, hx⟩
      have hx3 := x.toNat_lt
      clear hx
      rw [hj]
      go_wp2_with (at_builtin; refine wpList_append1 rfl _ _ 43 rfl w.heap.size 5 i0 (.int .u8 0) 1 1 Try.underlying43 hi hz0 hz1 hz2 rfl (by decide) _ k _ rfl hown [.int .u8 (x.toNat : Int)] rfl rfl (by simp [Value.oneCell']) (by unfold maxLen; omega) (by omega) hs2 ?_; intro v' w3 hown3 hg3 hb3)
      go_roundw
      case rel => exact ⟨k + 1, by omega, congrArg (Value.int .i64) (by omega), by rw [hsn.out, ← hx2.out]; simpa [bcells] using hown3, hb2.trans (hb3.mono (by omega))⟩
      case measure => simp [intOf]
    · obtain rfl : k = s.size := by omega
      have hcv := run_string_own (P := Try.prog) hown Try.underlying43 Try.underlying5 Try.underlying9
      rw [List.take_of_length_le (by omega)] at hcv
      go_wp2
      exact bodyPost_ret (v := (.string (turnB s))) (by simp (maxDischargeDepth := 6) [results, Try.results13, go_sem, turnB]) rfl ⟨rfl, by (repeat' (first | (with_reducible exact Below.refl _ _) | (with_reducible refine Below.alloc ?_ ?_ _) | (with_reducible refine Below.setCell ?_ ?_ _) | (with_reducible refine Below.drew ?_) | (with_reducible refine below_step ?_ (by assumption) ?_) | (with_reducible exact leC) | go_size))⟩
end Go.Proofs.Ytnpbhdphbbdefaa
