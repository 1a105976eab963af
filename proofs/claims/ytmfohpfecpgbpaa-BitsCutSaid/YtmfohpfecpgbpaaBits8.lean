/- Contracts of Split, the program's and the reference's. Condition: the number is a uint64. -/
import Derived.Test.YtmfohpfecpgbpaaBits7
namespace Go.Proofs.Ytmfohpfecpgbpaa
open Go.RowKit
attribute [local go_sem] cellI frozenI cellOf_is frozenOf_is cellA frozenA setCellA

/-- The parts of a number by fields. -/
def partsL (n : Nat) (l : List (Int × Int)) : List Nat := l.map fun p => partV n p.1 p.2
def ucells (l : List Nat) : List Value := l.map fun n : Nat => Value.int .u64 (n : Int)
theorem ucells_snoc (l : List Nat) (x : Nat) : ucells (l ++ [x]) = ucells l ++ [.int .u64 (x : Int)] := by simp [ucells]
/-- What Split answers. -/
def SplitIs (W : World) (n : Nat) (total : Int) (xs : List Int) (v : Value) (w : World) : Prop := ∃ r,
  (goesV total xs = false ∧ v = .tuple #[.slice none 0 0, .int .i64 2]) ∨
  (goesV total xs = true ∧ ¬ n < 2 ^ total.toNat ∧ v = .tuple #[.slice none 0 0, .int .i64 5]) ∨
  (goesV total xs = true ∧ n < 2 ^ total.toNat ∧ v = .tuple #[r, .int .i64 0] ∧ w.ownsRow W.heap.size 23 1 r xs.length (ucells (partsL n (layL total xs))))
theorem infoU64 : ∃ i, Try.prog.info? 23 = some i ∧ i.zero = some (.int .u64 0) ∧ i.size = 1 ∧ i.bytes = 8 := info_parts (by kernel_rfl)
theorem layL_len : ∀ (t : Int) (xs : List Int), (layL t xs).length = xs.length
  | _, [] => rfl
  | t, x :: xs => by simp [layL, layL_len]
theorem goesL_pos : ∀ (xs : List Int) (t : Int), goesL t xs = true → (xs.length : Int) ≤ t
  | [], t, h => by simp [goesL] at h; simp [h]
  | x :: xs, t, h => by
    obtain ⟨h1, h2, h3⟩ := goesL_cons h
    have := goesL_pos xs _ h3
    simp only [List.length_cons]; omega
theorem lay_in : ∀ (xs : List Int) (t : Int), goesL t xs = true → ∀ p ∈ layL t xs, 0 ≤ p.1 ∧ 1 ≤ p.2 ∧ p.1 + p.2 ≤ t
  | [], t, h, p, hp => by cases hp
  | x :: xs, t, h, p, hp => by
    obtain ⟨h1, h2, h3⟩ := goesL_cons h
    rcases List.mem_cons.1 hp with rfl | hp
    · exact ⟨by show 0 ≤ t - x; omega, h1, by show t - x + x ≤ t; omega⟩
    · have := lay_in xs _ h3 p hp
      omega
theorem fcells_get (l : List (Int × Int)) (k : Nat) (h : k < l.length) : (fcells l)[k * 2]? = some (.int .i64 l[k].1) ∧ (fcells l)[k * 2 + 1]? = some (.int .i64 l[k].2) := by
  induction l generalizing k with
  | nil => simp at h
  | cons p l ih =>
    cases k with
    | zero => simp [fcells]
    | succ k =>
      have := ih k (by simpa using h)
      have e : fcells (p :: l) = .int .i64 p.1 :: .int .i64 p.2 :: fcells l := by simp [fcells]
      rw [e, show (k + 1) * 2 = k * 2 + 1 + 1 by omega]
      simpa using this
set_option maxHeartbeats 800000 in
theorem split_any (n : Nat) (total : Int) (v : Value) (xs : List Int) (w : World) (hn : n < 18446744073709551616) (h : IntsArg .i64 w v xs) :
    Calls Try.prog 14 #[.int .u64 n, .int .i64 total, v] w (Ret (SplitIs w n total xs) w) := by
  cases hg : goesV total xs
  ·
    go_enter Try.func14, Try.ntmps14
    go_wp2_with (go_at_call 8; fail)
    refine ((lay_any total v xs w h)).mono ?_
    rintro e w1 ⟨v1, rfl, hb1, hr⟩
    haveI hx1 := ExtC.mk hb1
    rcases hr with ⟨r, ⟨_, rfl⟩ | ⟨h1, _⟩⟩
    · go_wp2
      refine bodyPost_ret (v := (.tuple #[.slice none 0 0, .int .i64 2])) (by simp (maxDischargeDepth := 6) [results, Try.results14, go_sem]) rfl ⟨_, rfl, by (repeat' (first | (with_reducible exact Below.refl _ _) | (with_reducible refine Below.alloc ?_ ?_ _) | (with_reducible refine Below.setCell ?_ ?_ _) | (with_reducible refine Below.drew ?_) | (with_reducible refine below_step ?_ (by assumption) ?_) | (with_reducible exact leC) | go_size)), ?_⟩
      exact ⟨.slice none 0 0, Or.inl ⟨hg, rfl⟩⟩
    · rw [hg] at h1; cases h1
  · obtain ⟨ht0, ht1, hgl⟩ := goesV_split hg
    have ht64 : 1 ≤ total.toNat ∧ total.toNat ≤ 64 := by
      simp only [goesV, Bool.and_eq_true] at hg
      rcases (total_iff total).1 hg.1 with rfl | rfl | rfl | rfl | rfl <;> decide
    obtain ⟨m, rfl⟩ := Int.eq_ofNat_of_zero_le ht0
    have hft := fun w => fits_any n m w ht64.1 ht64.2
    cases hf : decide (n < 2 ^ m)
    · rw [hf] at hft
      go_enter Try.func14, Try.ntmps14
      go_wp2_with (go_at_call 8; fail)
      refine ((lay_any m v xs w h)).mono ?_
      rintro e w1 ⟨v1, rfl, hb1, hr⟩
      haveI hx1 := ExtC.mk hb1
      rcases hr with ⟨r, ⟨h1, _⟩ | ⟨_, rfl, hown⟩⟩
      · rw [hg] at h1; cases h1
      go_wp2_with (go_at_call 23; fail)
      refine (hft w1).mono ?_
      rintro e w2 ⟨rfl, hb2⟩
      replace hb2 := hb1.trans (hb2.mono hb1.size)
      haveI hx2 := ExtC.mk hb2
      go_wp2
      refine bodyPost_ret (v := (.tuple #[.slice none 0 0, .int .i64 5])) (by simp (maxDischargeDepth := 6) [results, Try.results14, go_sem]) rfl ⟨_, rfl, by (repeat' (first | (with_reducible exact Below.refl _ _) | (with_reducible refine Below.alloc ?_ ?_ _) | (with_reducible refine Below.setCell ?_ ?_ _) | (with_reducible refine Below.drew ?_) | (with_reducible refine below_step ?_ (by assumption) ?_) | (with_reducible exact leC) | go_size)), ?_⟩
      exact ⟨.slice none 0 0, Or.inr (Or.inl ⟨hg, by simpa using hf, rfl⟩)⟩
    · rw [hf] at hft
      obtain ⟨i0, hi, hz0, hz1, hz2⟩ := infoU64
      have hxl : xs.length ≤ 64 := by have := goesL_pos xs m hgl; omega
      go_enter Try.func14, Try.ntmps14
      go_wp2_with (go_at_call 8; fail)
      refine ((lay_any m v xs w h)).mono ?_
      rintro e w1 ⟨v1, rfl, hb1, hr⟩
      haveI hx1 := ExtC.mk hb1
      rcases hr with ⟨r, ⟨h1, _⟩ | ⟨_, rfl, hown⟩⟩
      · rw [hg] at h1; cases h1
      obtain ⟨o, cap, rfl, hl1, hl2, ho, hcell⟩ := RowIs.of_owns hown
      go_wp2_with (go_at_call 23; fail)
      refine (hft w1).mono ?_
      rintro e w2 ⟨rfl, hb2⟩
      haveI hx2 := ExtC.mk hb2
      have hs1 := hb1.size
      go_wp2
      go_loopw [10, 30] (fun r i wr => ∃ k : Nat, k ≤ xs.length ∧ i = .int .i64 k ∧ wr.ownsRow w1.heap.size 23 1 r k (ucells (partsL n ((layL m xs).take k))) ∧ Below w1.heap.size w1 wr) (fun _ i _ => xs.length - (intOf i).toNat)
      case atStart => exact ⟨0, by omega, rfl, by simpa [ucells, partsL] using World.ownsRow_nil _ _ _ _, hb2⟩
      case round =>
        obtain ⟨k, hk, rfl, hownr, hbr1⟩ := hrel
        by_cases hlt : k < xs.length
        · obtain ⟨g, f, rfl⟩ := RowIs.addr ho k hlt
          have hlk : k < (layL m xs).length := by rw [layL_len]; exact hlt
          obtain ⟨hf1, hf2⟩ := fcells_get _ k hlk
          have hc1 := hcell g f rfl _ _ hf1
          have hc2 := hcell g f rfl _ _ hf2
          have hd1 := (hbr1.cell (Go.block_lt_of_cell hc1)).trans hc1
          have hd2 := (hbr1.cell (Go.block_lt_of_cell hc2)).trans hc2
          clear hcell hc1 hc2 hf1 hf2
          rw [← Nat.add_assoc] at hd2
          have hin := lay_in xs m hgl _ (List.getElem_mem hlk)
          have htk : (layL m xs).take (k + 1) = (layL m xs).take k ++ [(layL m xs)[k]] := by rw [List.take_add_one, List.getElem?_eq_getElem hlk]; rfl
          obtain ⟨B, W, hBW⟩ : ∃ B W, (layL m xs)[k] = (B, W) := ⟨_, _, rfl⟩
          rw [hBW] at hd1 hd2 hin htk
          simp only at hd1 hd2 hin
          obtain ⟨hi1, hi2, hi3⟩ := hin
          replace htk := Lib.hid htk
          clear hBW
          go_wp2_with (go_at_call 10; fail)
          refine (get_any B W n _ hn ⟨by omega, by omega⟩ ⟨by omega, by omega⟩).mono ?_
          rintro e w4 ⟨rfl, hb4⟩
          haveI hx4 := ExtC.mk hb4
          have hown4 := ownsRow_below (hownr.alloc _) hb4
          have hs4 := hb4.size
          simp only [World.size_alloc] at hs4
          have hsr := hbr1.size
          have hb41 : Below w1.heap.size w1 w4 := by (repeat' (first | (with_reducible exact Below.refl _ _) | (with_reducible refine Below.alloc ?_ ?_ _) | (with_reducible refine Below.setCell ?_ ?_ _) | (with_reducible refine Below.drew ?_) | (with_reducible refine below_step ?_ (by assumption) ?_) | (with_reducible exact leC) | go_size))
          go_wp2_with (at_builtin; refine wpList_append1 rfl _ _ 35 rfl (w1.heap.size) 23 i0 _ 1 8 Try.underlying35 hi hz0 hz1 hz2 rfl (by decide) _ (k) _ rfl (hown4) [.int .u64 (partV n B W : Nat)] rfl rfl (by simp [Value.oneCell']) (by unfold maxLen; omega) (by omega) (by omega) ?_; intro v5 w5 hown5 hg5 hb5)
          go_roundw
          case rel => exact ⟨k + 1, by omega, by go_num, by rw [htk.out]; simpa [partsL, ucells] using hown5, hb41.trans hb5⟩
          case measure => simp [intOf] <;> omega
        · obtain rfl : k = xs.length := by omega
          have htk : (layL m xs).take xs.length = layL m xs := by rw [← layL_len m xs, List.take_length]
          rw [htk] at hownr
          clear htk
          go_wp2
          have hbr := hb1.trans (hbr1.mono hs1)
          clear hbr1 hb2
          refine bodyPost_ret (v := (.tuple #[u10, .int .i64 0])) (by simp (maxDischargeDepth := 6) [results, Try.results14, go_sem]) rfl ⟨_, rfl, by (repeat' (first | (with_reducible exact Below.refl _ _) | (with_reducible refine Below.alloc ?_ ?_ _) | (with_reducible refine Below.setCell ?_ ?_ _) | (with_reducible refine Below.drew ?_) | (with_reducible refine below_step ?_ (by assumption) ?_) | (with_reducible exact leC) | go_size)), ?_⟩
          exact ⟨u10, Or.inr (Or.inr ⟨hg, by simpa using hf, rfl, ownsRow_base hownr hs1⟩)⟩
end Go.Proofs.Ytmfohpfecpgbpaa
