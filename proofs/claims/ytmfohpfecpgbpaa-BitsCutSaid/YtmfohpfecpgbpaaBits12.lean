/- Contracts of the law's helpers: whole, equal, wakes, and of the reference's Mask. No condition. -/
import Derived.Test.YtmfohpfecpgbpaaBits11
namespace Go.Proofs.Ytmfohpfecpgbpaa
open Go.RowKit
attribute [local go_sem] cellI frozenI cellOf_is frozenOf_is cellA frozenA setCellA
attribute [-go_sem] run_min_int2

theorem ints_of_owns {k : IntKind} {w : World} {base : Nat} {e : TypeId} {v : Value} {n : Nat} {xs : List Int} (h : w.ownsRow base e 1 v n (xs.map (Value.int k))) (hwf : ∀ x ∈ xs, (Lit.int k x).wf = true) : IntsArg k w v xs := by
  have hn : xs.length = n := by simpa using h.1
  have hc := fun g hg => h.cells (g := g) hg
  rcases h.2 with ⟨rfl, rfl⟩ | ⟨g, cap, cur, rfl, _, hg, h1, h2, _, _⟩
  · exact Or.inl ⟨rfl, List.eq_nil_of_length_eq_zero hn⟩
  · subst hn
    refine Or.inr ⟨⟨g, 0, none⟩, cap, rfl, h1, by unfold maxLen at h2; omega, fun i hi => ?_, hwf⟩
    refine hc g rfl i _ ?_
    rw [List.getElem?_map, List.getElem?_eq_getElem hi]
    simp [List.getD, List.getElem?_eq_getElem hi]
theorem ints_of_block {k : IntKind} {w : World} {g : Nat} {xs : List Int} {e : TypeId} {fr : Nat × Nat} (h : w.heap[g]? = some (.cells (xs.map (Value.int k)).toArray e fr)) (hwf : ∀ x ∈ xs, (Lit.int k x).wf = true) (hn : xs.length ≤ 9223372036854775807) :
    IntsArg k w (.slice (some ⟨g, 0, none⟩) xs.length xs.length) xs := by
  refine Or.inr ⟨_, _, rfl, Nat.le_refl _, hn, fun i hi => ?_, hwf⟩
  rw [show (⟨g, 0, none⟩ : Addr).add i = ⟨g, i, none⟩ by simp [Addr.add_lit], Go.cell_of_row _ _ _ _ _ _ h]
  simp [List.getD, hi]
theorem wf_small {x : Int} (h0 : -9223372036854775808 ≤ x) (h1 : x ≤ 9223372036854775807) : (Lit.int .i64 x).wf = true := by
  have e1 : IntKind.i64.min = -9223372036854775808 := rfl
  have e2 : IntKind.i64.max = 9223372036854775807 := rfl
  simp [Lit.wf, e1, e2]
  omega
def wholeL : Int → List Int → List Int
  | left, [] => if 0 < left then [left] else []
  | left, x :: xs => if left = 0 then [] else (1 + max 0 x % left) :: wholeL (left - (1 + max 0 x % left)) xs
theorem infoInt : ∃ i, Try.prog.info? 3 = some i ∧ i.zero = some (.int .i64 0) ∧ i.size = 1 ∧ i.bytes = 8 := info_parts (by kernel_rfl)
theorem min_len (P : Program) (n c : Nat) (C : Int) (hC : C = c) : ∃ m : Nat, m = min n c ∧ ∀ (w : World) (ts : Array TypeId) (t : TypeId), (Builtin.min_ ts t #[.int .i64 n, .int .i64 C]).run P w = .ok (.int .i64 m) w := by
  subst hC
  refine ⟨_, rfl, fun w ts t => ?_⟩
  rw [run_min_int2]
  split
  · rw [show min n c = c by omega]
  · rw [show min n c = n by omega]
theorem max_zero (P : Program) (x : Int) : ∃ M : Int, M = max 0 x ∧ 0 ≤ M ∧ ∀ (w : World) (ts : Array TypeId) (t : TypeId), (Builtin.max_ ts t #[.int .i64 0, .int .i64 x]).run P w = .ok (.int .i64 M) w := by
  refine ⟨_, rfl, by omega, fun w ts t => ?_⟩
  rw [run_max_int2]
  split
  · rw [show max 0 x = x by omega]
  · rw [show max 0 x = 0 by omega]
attribute [-go_sem] run_max_int2
set_option maxHeartbeats 1600000 in
theorem whole_any (t k : Int) (v : Value) (xs : List Int) (w : World) (ht : 0 ≤ t ∧ t ≤ 255) (h : IntsArg .i64 w v xs) :
    Calls Try.prog 13 #[.int .u8 t, .int .u8 k, v] w (Ret (fun r w' => ∃ s, r = .tuple #[.int .i64 (totalAt (t % 5).toNat), s] ∧ w'.ownsRow w.heap.size 3 1 s (wholeL (totalAt (t % 5).toNat) (xs.take 70)).length ((wholeL (totalAt (t % 5).toNat) (xs.take 70)).map (Value.int .i64))) w) := by
  obtain ⟨o, cap, rfl, hl1, hl2, ho, hcell⟩ := RowIs.of_ints h
  obtain ⟨i0, hi, hz0, hz1, hz2⟩ := infoInt
  have hwf := fun i hi => wf_i64 (ints_wf h (xs[i]'hi) (List.getElem_mem hi))
  clear h
  obtain ⟨m, hm, hmn⟩ := min_len Try.prog xs.length 70 70 rfl
  obtain ⟨ys, hys⟩ : ∃ ys, xs.take 70 = ys := ⟨_, rfl⟩
  have hyd : ys.drop m = [] := by rw [← hys]; apply List.drop_eq_nil_of_le; rw [List.length_take]; omega
  have hyx : ∀ i (_ : i < m), ∃ h2 : i < xs.length, ys.drop i = xs[i] :: ys.drop (i + 1) := fun i hi => ⟨by omega, by
    subst hys
    rw [List.drop_eq_getElem_cons (by rw [List.length_take]; omega), List.getElem_take]⟩
  rw [hys]
  have hmc : m ≤ cap ∧ m ≤ 70 := by omega
  obtain ⟨hmc, hm70⟩ := hmc
  replace hm := Lib.hid hm
  replace hys := Lib.hid hys
  replace hyd := Lib.hid hyd
  obtain ⟨ht0, ht1⟩ := ht
  obtain ⟨q, hq⟩ := Int.eq_ofNat_of_zero_le (show 0 ≤ t % 5 by omega)
  have hq5 : q < 5 := by omega
  rw [hq, Int.toNat_natCast]
  obtain ⟨T, hT⟩ : ∃ T, totalAt q = T := ⟨_, rfl⟩
  rw [hT]
  have hlit : ∀ h, ([.int .i64 8, .int .i64 16, .int .i64 24, .int .i64 32, .int .i64 64] : List Value)[q]'h = .int .i64 T := by
    intro h
    rw [← hT]
    match q, hq5 with
    | 0, _ => rfl
    | 1, _ => rfl
    | 2, _ => rfl
    | 3, _ => rfl
    | 4, _ => rfl
  have hTs : 0 ≤ T ∧ T ≤ 64 := by
    rw [← hT]
    match q, hq5 with
    | 0, _ => decide
    | 1, _ => decide
    | 2, _ => decide
    | 3, _ => decide
    | 4, _ => decide
  obtain ⟨hT0, hT1⟩ := hTs
  replace hT := Lib.hid hT
  go_enter Try.func13, Try.ntmps13
  go_wp2
  have hba : Below w.heap.size w (w.alloc (.cells #[.int .i64 8, .int .i64 16, .int .i64 24, .int .i64 32, .int .i64 64] 3)) := by (repeat' (first | (with_reducible exact Below.refl _ _) | (with_reducible refine Below.alloc ?_ ?_ _) | (with_reducible refine Below.setCell ?_ ?_ _) | (with_reducible refine Below.drew ?_) | (with_reducible refine below_step ?_ (by assumption) ?_) | (with_reducible exact leC) | go_size))
  generalize w.alloc (.cells #[.int .i64 8, .int .i64 16, .int .i64 24, .int .i64 32, .int .i64 64] 3) = W at *
  replace hq := Lib.hid hq
  go_loopw [9, 10, 26] (fun l out i wr => ∃ (k : Nat) (L : Int) (P : List Int), k ≤ m ∧ 0 ≤ L ∧ L ≤ 64 ∧ P.length ≤ k ∧ l = .int .i64 L ∧ i = .int .i64 k ∧ Hid (wholeL T ys = P ++ wholeL L (ys.drop k)) ∧ wr.ownsRow w.heap.size 3 1 out P.length (P.map (Value.int .i64)) ∧ Below w.heap.size w wr) (fun _ _ i _ => m - (intOf i).toNat)
  case atStart => exact ⟨0, T, [], by omega, hT0, hT1, by simp, rfl, rfl, rfl, World.ownsRow_nil _ _ _ _, hba⟩
  case round =>
    obtain ⟨k, L, P, hk, hL0, hL1, hPk, rfl, rfl, hw, hown, hbr⟩ := hrel
    have hsr := hbr.size
    by_cases hlt : k < m
    · obtain ⟨hkx, hdr⟩ := hyx k hlt
      have hwo := hw.out
      rw [hdr] at hwo
      obtain ⟨g, f, rfl⟩ := RowIs.addr ho k hkx
      have hc := ints_cell (hcell g f rfl) k hkx
      have hwk := hwf k hkx
      have hd := (hbr.cell (Go.block_lt_of_cell hc)).trans hc
      clear hcell hwf hyx hdr hc
      generalize xs[k] = x at *
      by_cases hL : L = 0
      · subst hL
        simp only [wholeL, if_pos, List.append_nil] at hwo
        replace hwo := Lib.hid hwo
        go_wp2
        refine bodyPost_ret (v := (.tuple #[.int .i64 T, u10])) (by simp (maxDischargeDepth := 6) [results, Try.results13, go_sem]) rfl ⟨_, rfl, by (repeat' (first | (with_reducible exact Below.refl _ _) | (with_reducible refine Below.alloc ?_ ?_ _) | (with_reducible refine Below.setCell ?_ ?_ _) | (with_reducible refine Below.drew ?_) | (with_reducible refine below_step ?_ (by assumption) ?_) | (with_reducible exact leC) | go_size)), ?_⟩
        exact ⟨u10, rfl, by rw [hwo.out]; exact hown⟩
      · obtain ⟨M, hM, hM0, hMx⟩ := max_zero Try.prog x
        have hLp : 0 < L := by omega
        have hLe : (L == 0) = false := by simpa using hL
        simp only [wholeL, if_neg hL] at hwo
        have hme : max 0 x % L = M % L := by rw [hM]
        have hmb : 0 ≤ M % L ∧ M % L < L := ⟨Int.emod_nonneg _ hL, Int.emod_lt_of_pos _ hLp⟩
        have hM9 : M ≤ 9223372036854775807 := by omega
        rw [hme] at hwo
        have hmd : M.tmod L = M % L := Int.tmod_eq_emod_of_nonneg hM0
        replace hM := Lib.hid hM
        replace hme := Lib.hid hme
        obtain ⟨R, hR⟩ : ∃ R, M % L = R := ⟨_, rfl⟩
        rw [hR] at hmb hmd hwo
        replace hwo := Lib.hid hwo
        obtain ⟨hmb0, hmb1⟩ := hmb
        clear hL hw hmd
        go_wp2_with (at_builtin; refine wpList_append1 rfl _ _ 22 rfl (w.heap.size) 3 i0 _ 1 8 Try.underlying22 hi hz0 hz1 hz2 rfl (by decide) _ (P.length) _ rfl (hown) [.int .i64 (1 + R)] rfl rfl (by simp [Value.oneCell']) (by unfold maxLen; omega) (by omega) (hsr) ?_; intro v5 w5 hown5 hg5 hb5)
        go_roundw
        case rel => exact ⟨k + 1, L - (1 + R), P ++ [1 + R], by omega, by omega, by omega, by simp; omega, rfl, by go_num, by rw [List.append_assoc]; exact hwo, by simpa using hown5, hbr.trans hb5⟩
        case measure => simp [intOf] <;> omega
    · obtain rfl : k = m := by omega
      have hwo := hw.out
      rw [hyd.out] at hwo
      clear hcell hwf hyx hw
      by_cases hL : 0 < L
      · simp only [wholeL, if_pos hL] at hwo
        replace hwo := Lib.hid hwo
        go_wp2_with (at_builtin; refine wpList_append1 rfl _ _ 22 rfl (w.heap.size) 3 i0 _ 1 8 Try.underlying22 hi hz0 hz1 hz2 rfl (by decide) _ (P.length) _ rfl (hown) [.int .i64 L] rfl rfl (by simp [Value.oneCell']) (by unfold maxLen; omega) (by omega) (hsr) ?_; intro v5 w5 hown5 hg5 hb5)
        have hbn := hbr.trans hb5
        clear hb5 hbr hba
        refine bodyPost_ret (v := (.tuple #[.int .i64 T, v5])) (by simp (maxDischargeDepth := 6) [results, Try.results13, go_sem]) rfl ⟨_, rfl, by (repeat' (first | (with_reducible exact Below.refl _ _) | (with_reducible refine Below.alloc ?_ ?_ _) | (with_reducible refine Below.setCell ?_ ?_ _) | (with_reducible refine Below.drew ?_) | (with_reducible refine below_step ?_ (by assumption) ?_) | (with_reducible exact leC) | go_size)), ?_⟩
        exact ⟨v5, rfl, by rw [hwo.out]; simpa using hown5⟩
      · simp only [wholeL, if_neg hL, List.append_nil] at hwo
        replace hwo := Lib.hid hwo
        go_wp2
        clear hba
        refine bodyPost_ret (v := (.tuple #[.int .i64 T, u10])) (by simp (maxDischargeDepth := 6) [results, Try.results13, go_sem]) rfl ⟨_, rfl, by (repeat' (first | (with_reducible exact Below.refl _ _) | (with_reducible refine Below.alloc ?_ ?_ _) | (with_reducible refine Below.setCell ?_ ?_ _) | (with_reducible refine Below.drew ?_) | (with_reducible refine below_step ?_ (by assumption) ?_) | (with_reducible exact leC) | go_size)), ?_⟩
        exact ⟨u10, rfl, by rw [hwo.out]; exact hown⟩
end Go.Proofs.Ytmfohpfecpgbpaa
