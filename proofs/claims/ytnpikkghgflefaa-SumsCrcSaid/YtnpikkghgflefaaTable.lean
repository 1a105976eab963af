/- The contract of the table of the CRC-32: entry i is i stepped eight times. No condition. -/
import Derived.Test.YtnpikkghgflefaaCrcW
import Derived.Laws.CopyOwn
namespace Go.Proofs.Ytnpikkghgflefaa
open Go.RowKit
attribute [local go_sem] cellI frozenI cellOf_is frozenOf_is cellA frozenA setCellA

def tabL (k : Nat) : Array Value := ((List.range 256).map fun i => if i < k then .int .u32 (entry i : Nat) else .int .u32 0).toArray
def tab : Array Value := ((List.range 256).map fun i => .int .u32 (entry i : Nat)).toArray
theorem tabL_size (k : Nat) : (tabL k).size = 256 := by simp [tabL]
theorem tab_size : tab.size = 256 := by simp [tab]
theorem tabL_zero : tabL 0 = Array.replicate 256 (.int .u32 0) := by
  apply Array.ext
  · simp [tabL]
  · intro i h1 h2
    simp [tabL]
theorem tabL_full : tabL 256 = tab := by
  apply Array.ext
  · simp [tabL, tab]
  · intro i h1 h2
    have : i < 256 := by simpa [tabL] using h1
    simp [tabL, tab, this]
theorem tabL_step (k : Nat) : (tabL k).setIfInBounds k (.int .u32 (entry k : Nat)) = tabL (k + 1) := by
  apply Array.ext
  · simp [tabL]
  · intro i h1 h2
    have : i < 256 := by simpa [tabL] using h2
    rw [Array.getElem_setIfInBounds (by simpa [tabL] using h2)]
    simp only [tabL, List.getElem_toArray, List.getElem_map, List.getElem_range]
    split
    · subst_vars; rw [if_pos (by omega)]
    · congr 1
      apply propext
      omega
theorem tab_one : tab.all (·.oneCell') = true := by
  simp [tab, Value.oneCell']
theorem tab_at (i : Nat) (h : i < 256) : tab[i]? = some (.int .u32 (entry i : Nat)) := by simp [tab, h]

theorem zero_table (w : World) : (zeroValue 38).run Try.prog w = .ok (.agg (Array.replicate 256 (.int .u32 0))) w := by kernel_rfl
set_option maxHeartbeats 800000 in
theorem made_any (w : World) :
    Calls Try.prog 16 #[] w fun e w' => e = .returned (.agg tab) ∧ Below w.heap.size w w' := by
  obtain ⟨zs, hzs, hzs2, hz⟩ : ∃ zs, Hid (zs = tabL 0) ∧ zs.size = 256 ∧ ∀ w, (zeroValue 38).run Try.prog w = .ok (.agg zs) w := ⟨_, rfl, tabL_size 0, fun w => (zero_table w).trans (by rw [← tabL_zero])⟩
  have hw0 : ((w.alloc (.cells zs 38)).alloc (.cells zs 38)).heap[w.heap.size]? = some (.cells zs 38) := Go.heap_alloc2_old _ _ _
  have hw1 : ((w.alloc (.cells zs 38)).alloc (.cells zs 38)).heap[w.heap.size + 1]? = some (.cells zs 38) := Go.heap_alloc2_new _ _ _
  go_enter Try.func16, Try.ntmps16
  go_wp2
  go_loopw [4] (fun i wr => ∃ k : Nat, k ≤ 256 ∧ i = .int .i64 k ∧ wr.heap[w.heap.size]? = some (.cells zs 38) ∧ wr.heap[w.heap.size + 1]? = some (.cells (tabL k) 38) ∧ Below w.heap.size w wr) (fun i _ => 256 - (intOf i).toNat)
  case atStart => exact ⟨0, by omega, rfl, hw0, by rw [hw1, hzs.out], by (repeat' (first | (with_reducible exact Below.refl _ _) | (with_reducible refine Below.alloc ?_ ?_ _) | (with_reducible refine Below.setCell ?_ ?_ _) | (with_reducible refine Below.drew ?_) | (with_reducible refine below_step ?_ (by assumption) ?_) | (with_reducible exact leC) | go_size))⟩
  case round =>
    obtain ⟨k, hk, rfl, hr0, hr1, hbr⟩ := hrel
    by_cases hlt : k < 256
    · have hd : decide ((k : Int) < 256) = true := decide_eq_true (by omega)
      have hk32 : IntKind.u32.wrap (k : Int) = k := by rw [IntKind.wrap_u32]; omega
      have hkl : k < (tabL k).size := by rw [tabL_size]; omega
      have hcell : wr.cell? ⟨w.heap.size + 1, k, none⟩ = some ((tabL k)[k]) := by rw [Go.cell_of_row wr _ _ _ _ _ hr1]; exact Array.getElem?_eq_getElem hkl
      have hfro := Go.frozen_of_row wr (w.heap.size + 1) k _ _ hr1
      have hnew := Go.heap_setCell_same wr (w.heap.size + 1) k _ _ (.int .u32 (entry k : Nat)) hr1
      rw [tabL_step] at hnew
      have hold := (Go.heap_setCell_other wr ⟨w.heap.size + 1, k, none⟩ w.heap.size (.int .u32 (entry k : Nat)) (by simp)).trans hr0
      go_wp2
      go_loopw [3, 9] (fun r j wq => ∃ n C : Nat, n ≤ 8 ∧ Hid (cstepN n k = C) ∧ C < 2 ^ 32 ∧ j = .int .i64 n ∧ r = .int .u32 C ∧ wq = wr) (fun _ j _ => 8 - (intOf j).toNat)
      case atStart => exact ⟨0, k, by omega, rfl, by omega, rfl, rfl, rfl⟩
      case round =>
        obtain ⟨n, C, hn, hC, hClt, rfl, rfl, rfl⟩ := hrel
        by_cases hlt8 : n < 8
        · have hd8 : decide ((n : Int) < 8) = true := decide_eq_true (by omega)
          have hcs : Hid (cstep C = if C % 2 = 1 then (C / 2) ^^^ poly else C / 2) := rfl
          have hcl := cstep_lt hClt
          have hxp : bits .xor .u32 ((C : Int) / 2) 3988292384 = ((C / 2 ^^^ poly : Nat) : Int) := u32_xorp (C / 2) (by omega)
          have hand := u32_and1 C hClt
          rcases Nat.mod_two_eq_zero_or_one C with hp | hp
          · rw [hp] at hand
            go_wp2
            go_round
            case rel =>
              refine ⟨n + 1, cstep C, by omega, ?_, hcl, by go_num, ?_, trivial⟩
              · show cstep (cstepN n _) = _
                rw [hC.out]
              · rw [hcs.out, if_neg (by omega)]
                first | rfl | (congr 1; done) | (congr 1; omega)
            case measure => simp [intOf]; omega
          · rw [hp] at hand
            go_wp2
            go_round
            case rel =>
              refine ⟨n + 1, cstep C, by omega, ?_, hcl, by go_num, ?_, trivial⟩
              · show cstep (cstepN n _) = _
                rw [hC.out]
              · rw [hcs.out, if_pos hp]
            case measure => simp [intOf]; omega
        · obtain rfl : n = 8 := by omega
          obtain rfl : entry k = C := hC
          go_wp2
          go_round
          case rel => exact ⟨k + 1, by omega, by go_num, hold, hnew, by (repeat' (first | (with_reducible exact Below.refl _ _) | (with_reducible refine Below.alloc ?_ ?_ _) | (with_reducible refine Below.setCell ?_ ?_ _) | (with_reducible refine Below.drew ?_) | (with_reducible refine below_step ?_ (by assumption) ?_) | (with_reducible exact leC) | go_size))⟩
          case measure => simp [intOf]; omega
    · obtain rfl : k = 256 := by omega
      rw [tabL_full] at hr1
      repeat (first | refine Go.wpList_load_row (g := w.heap.size + 1) rfl _ _ rfl rfl _ tab _ _ hr1 Try.underlying38 rfl (by rw [tab_size]; kernel_rfl) ?_ | refine Go.wpList_store_row rfl _ _ _ rfl w.heap.size tab rfl rfl _ zs hr0 (by rw [tab_size]; kernel_rfl) (by rw [tab_size, hzs2]) tab_one ?_ | go_skip | go_guarded | go_step)
      exact bodyPost_ret (v := .agg tab) (Go.results_cell_row Try.results16 _ _ w.heap.size _ tab _ _ rfl (Go.setRow_heap wr _ zs tab _ _ hr0) Try.underlying38 rfl (by rw [tab_size]; kernel_rfl)) rfl ⟨rfl, below_setRow hbr (Nat.le_refl _) _⟩

def crcRow (c : Nat) : Array Value := tab.push (.int .u32 c)
theorem crcRow_size (c : Nat) : (crcRow c).size = 257 := by simp [crcRow, tab_size]
theorem crcRow_at (c i : Nat) (h : i < 256) : (crcRow c)[i]? = some (.int .u32 (entry i : Nat)) := by
  rw [crcRow, Array.getElem?_push_lt (by rw [tab_size]; exact h)]
  rw [← tab_at i h, Array.getElem?_eq_getElem]
theorem crcRow_last (c : Nat) : (crcRow c)[256]? = some (.int .u32 (c : Nat)) := by
  rw [crcRow, Array.getElem?_push, if_pos (by rw [tab_size])]
theorem crcRow_set (c c' : Nat) : (crcRow c).setIfInBounds 256 (.int .u32 (c' : Nat)) = crcRow c' := by
  apply Array.ext
  · simp [crcRow]
  · intro i h1 h2
    have : tab.size = 256 := tab_size
    have h3 : i < (crcRow c).size := by simpa using h1
    have h4 : i < 257 := by rw [crcRow_size] at h3; exact h3
    rw [Array.getElem_setIfInBounds h3]
    simp only [crcRow, Array.getElem_push]
    split <;> split <;> first | rfl | omega

theorem built_crc : Try.prog.built 41 [(0, .agg tab)] = some (crcRow 0) := by kernel_rfl
theorem new_any (w : World) :
    Calls Try.prog 7 #[] w fun e w' => ∃ g, e = .returned (.pointer (some ⟨g, 0, none⟩)) ∧ w'.heap[g]? = some (.cells (crcRow 0) 41) ∧ w.heap.size ≤ g ∧ Below w.heap.size w w' := by
  obtain ⟨T, C, hma, hbu, hC⟩ : ∃ T C, (∀ w, Calls Try.prog 16 #[] w fun e w' => e = .returned (.agg T) ∧ Below w.heap.size w w') ∧ Try.prog.built 41 [(0, .agg T)] = some C ∧ Hid (C = crcRow 0) := ⟨_, _, made_any, built_crc, rfl⟩
  go_enter Try.func7, Try.ntmps7
  go_wp2_with (go_at_call 16; fail)
  refine (hma w).mono ?_
  rintro e w1 ⟨rfl, hb1⟩
  haveI hx1 := ExtC.mk hb1
  rename_i hK
  refine hK _ _ ?_
  have hpe : (Array.map (fun x : Nat × Operand => match x with | (i, x) => (i, ({ tmps := #[.pointer none, .agg T, undef, undef], defers := [] } : Act).eval x)) #[(0, .tmp 1)]).toList = [(0, .agg T)] := by simp [Act.eval]
  refine Go.wpList_build rfl _ _ rfl (by rw [hpe, hbu]; rfl) ?_
  rw [hpe, hbu]
  simp only [Option.getD_some, Act.put]
  repeat (first | go_skip | go_guarded | go_step)
  exact bodyPost_ret (v := .pointer (some ⟨w1.heap.size, 0, none⟩)) (by simp (maxDischargeDepth := 6) [results, Try.results7, go_sem]) rfl ⟨_, rfl, by rw [Go.heap_alloc_new, hC.out], hb1.size, by (repeat' (first | (with_reducible exact Below.refl _ _) | (with_reducible refine Below.alloc ?_ ?_ _) | (with_reducible refine Below.setCell ?_ ?_ _) | (with_reducible refine Below.drew ?_) | (with_reducible refine below_step ?_ (by assumption) ?_) | (with_reducible exact leC) | go_size))⟩
end Go.Proofs.Ytnpikkghgflefaa
