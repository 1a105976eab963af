/- Contracts of word.Mask, word.Fits at the sizes that may be, and of Put. No condition. -/
import Derived.Test.YtnpbhdphbbdefaaEndsU
import Derived.Deep.OwnRows
namespace Go.Proofs.Ytnpbhdphbbdefaa
open Go.RowKit Go.Lib Go.Sort
attribute [local go_sem] cellI frozenI cellOf_is frozenOf_is cellA frozenA setCellA

theorem good_cases {k : Int} (h : goodB k = true) : k = 1 ∨ k = 2 ∨ k = 3 ∨ k = 4 ∨ k = 8 := by
  unfold goodB at h
  exact of_decide_eq_true h
theorem good_nat {k : Int} (h : goodB k = true) : ∃ m : Nat, k = m ∧ 1 ≤ m ∧ m ≤ 8 := by
  rcases good_cases h with rfl | rfl | rfl | rfl | rfl
  · exact ⟨1, rfl, by omega, by omega⟩
  · exact ⟨2, rfl, by omega, by omega⟩
  · exact ⟨3, rfl, by omega, by omega⟩
  · exact ⟨4, rfl, by omega, by omega⟩
  · exact ⟨8, rfl, by omega, by omega⟩
theorem mask_at (m M : Int) (w : World) (h : (m = 8 ∧ M = 255) ∨ (m = 16 ∧ M = 65535) ∨ (m = 24 ∧ M = 16777215) ∨ (m = 32 ∧ M = 4294967295) ∨ (m = 64 ∧ M = 18446744073709551615)) :
    Calls Try.prog 20 #[.int .i64 m] w fun e w' => e = .returned (.int .u64 M) ∧ Below w.heap.size w w' := by
  rcases h with ⟨rfl, rfl⟩ | ⟨rfl, rfl⟩ | ⟨rfl, rfl⟩ | ⟨rfl, rfl⟩ | ⟨rfl, rfl⟩
  all_goals go_enter Try.func20, Try.ntmps20
  all_goals go_wp2
  all_goals exact bodyPost_ret (v := .int .u64 _) (by first | (simp (maxDischargeDepth := 6) [results, Try.results20, go_sem]; done) | (simp (maxDischargeDepth := 6) [results, Try.results20, go_sem]; decide)) rfl ⟨rfl, Below.refl _ _⟩
theorem mask_any (k : Int) (w : World) (h : goodB k = true) :
    Calls Try.prog 20 #[.int .i64 (8 * k)] w fun e w' => e = .returned (.int .u64 ((256 ^ k.toNat - 1 : Nat) : Int)) ∧ Below w.heap.size w w' := by
  refine mask_at _ _ w ?_
  rcases good_cases h with rfl | rfl | rfl | rfl | rfl
  · exact Or.inl ⟨rfl, rfl⟩
  · exact Or.inr (Or.inl ⟨rfl, rfl⟩)
  · exact Or.inr (Or.inr (Or.inl ⟨rfl, rfl⟩))
  · exact Or.inr (Or.inr (Or.inr (Or.inl ⟨rfl, rfl⟩)))
  · exact Or.inr (Or.inr (Or.inr (Or.inr ⟨rfl, rfl⟩)))
theorem fits_any (n : Nat) (k : Int) (w : World) (h : goodB k = true) (hn : n < 18446744073709551616) :
    Calls Try.prog 17 #[.int .u64 n, .int .i64 (8 * k)] w fun e w' => e = .returned (.bool (decide (n < 256 ^ k.toNat))) ∧ Below w.heap.size w w' := by
  have hd : (decide ((n : Int) ≤ ((256 ^ k.toNat - 1 : Nat) : Int))) = decide (n < 256 ^ k.toNat) := by
    have : 0 < 256 ^ k.toNat := Nat.pow_pos (by omega)
    rw [decide_eq_decide]
    omega
  have hm := fun w => mask_any k w h
  generalize 256 ^ k.toNat = M at *
  rw [← hd]
  go_enter Try.func17, Try.ntmps17
  go_wp2_with (go_at_call 20; fail)
  refine (hm w).mono ?_
  rintro e w1 ⟨rfl, hb1⟩
  haveI hx1 := ExtC.mk hb1
  go_wp2
  exact bodyPost_ret (v := (.bool (decide ((n : Int) ≤ ((M - 1 : Nat) : Int))))) (by simp (maxDischargeDepth := 6) [results, Try.results17, go_sem]) rfl ⟨rfl, by (repeat' (first | (with_reducible exact Below.refl _ _) | (with_reducible refine Below.alloc ?_ ?_ _) | (with_reducible refine Below.setCell ?_ ?_ _) | (with_reducible refine Below.drew ?_) | (with_reducible refine below_step ?_ (by assumption) ?_) | (with_reducible exact leC) | go_size))⟩
/-- The bytes of a number, the lowest one first. -/
def leBytes (n k : Nat) : List UInt8 := (List.range k).map fun i => UInt8.ofNat (n / 256 ^ i)
/-- What Put answers. -/
def putV (n : Nat) (k : Int) (little : Bool) : ByteArray × Int :=
  if goodB k = false then (⟨#[]⟩, 2) else if n < 256 ^ k.toNat then (⟨(if little then leBytes n k.toNat else (leBytes n k.toNat).reverse).toArray⟩, 0) else (⟨#[]⟩, 5)
/-- The row that Put fills, behind i rounds. -/
def rowI (n m i : Nat) : Array Value := ((List.range m).map fun j => Value.int .u8 (if m - 1 - j < i then ((n / 256 ^ (m - 1 - j) % 256 : Nat) : Int) else 0)).toArray
theorem rowI_size (n m i : Nat) : (rowI n m i).size = m := by simp [rowI]
theorem rowI_zero (n m : Nat) : madeCells #[Value.int .u8 0] m = rowI n m 0 := by
  apply Array.ext'
  simp [madeCells, rowI, Nat.mod_one]
theorem rowI_step (n m i : Nat) (hi : i < m) : (rowI n m i).setIfInBounds (m - 1 - i) (.int .u8 ((n / 256 ^ i % 256 : Nat) : Int)) = rowI n m (i + 1) := by
  apply Array.ext
  · simp [rowI]
  · intro j h1 h2
    have hj : j < m := by simpa [rowI] using h2
    rw [Array.getElem_setIfInBounds (by rw [rowI_size]; exact hj)]
    simp only [rowI, List.getElem_toArray, List.getElem_map, List.getElem_range]
    split
    · rename_i h
      have e : m - 1 - j = i := by omega
      rw [e, if_pos (by omega)]
    · rename_i h
      by_cases h3 : m - 1 - j < i
      · rw [if_pos h3, if_pos (by omega)]
      · rw [if_neg h3, if_neg (by omega)]
theorem leBytes_len (n k : Nat) : (leBytes n k).length = k := by simp [leBytes]
theorem rowI_full (n m j : Nat) (hj : j < m) : (rowI n m m)[j]? = some (.int .u8 ((ints (leBytes n m).reverse)[j]!)) := by
  have hl : j < (leBytes n m).reverse.length := by rw [List.length_reverse, leBytes_len]; exact hj
  rw [ints_at _ j hl, Array.getElem?_eq_getElem (by rw [rowI_size]; exact hj)]
  simp only [rowI, List.getElem_toArray, List.getElem_map, List.getElem_range, List.getElem_reverse, leBytes, List.length_map, List.length_range]
  rw [if_pos (by omega)]
  simp
theorem rowI_holds (w : World) (g n m : Nat) (e : TypeId) (h : w.heap[g]? = some (.cells (rowI n m m) e)) : Holds (Value.int .u8) w g 0 (ints (leBytes n m).reverse) := by
  intro j hj
  have hjm : j < m := by simpa [ints_size, leBytes_len] using hj
  rw [Nat.zero_add]
  exact ⟨(Go.cell_of_row w g j _ _ _ h).trans (rowI_full n m j hjm), Go.frozen_of_row w g j _ _ h⟩
theorem byte_shr (n k : Nat) : ((n / 256 ^ k % 256 : Nat) : Int) = (n : Int) / 2 ^ (8 * k) % 256 := by
  rw [Int.natCast_emod, Int.natCast_ediv, Int.natCast_pow, Int.pow_mul]
  rfl
theorem put_any (n : Nat) (k : Int) (little : Bool) (w : World) (hn : n < 18446744073709551616) :
    Calls Try.prog 8 #[.int .u64 n, .int .i64 k, .bool little] w fun e w' => e = .returned (.tuple #[.string (putV n k little).1, .int .i64 (putV n k little).2]) ∧ Below w.heap.size w w' := by
  cases hg : goodB k
  · have hv : putV n k little = (⟨#[]⟩, 2) := by simp [putV, hg]
    rw [hv]
    go_enter Try.func8, Try.ntmps8
    go_wp2_with (go_at_call 10; fail)
    refine (good_any k w).mono ?_
    rintro e w1 ⟨rfl, hb1⟩
    haveI hx1 := ExtC.mk hb1
    rw [hg]
    go_wp2
    exact bodyPost_ret (v := (.tuple #[.string ⟨#[]⟩, .int .i64 2])) (by simp (maxDischargeDepth := 6) [results, Try.results8, go_sem]) rfl ⟨rfl, by (repeat' (first | (with_reducible exact Below.refl _ _) | (with_reducible refine Below.alloc ?_ ?_ _) | (with_reducible refine Below.setCell ?_ ?_ _) | (with_reducible refine Below.drew ?_) | (with_reducible refine below_step ?_ (by assumption) ?_) | (with_reducible exact leC) | go_size))⟩
  obtain ⟨m, rfl, hm1, hm8⟩ := good_nat hg
  have hft := fun w => fits_any n m w hg hn
  cases hf : decide (n < 256 ^ (m : Int).toNat)
  · have hv : putV n m little = (⟨#[]⟩, 5) := by simp [putV, hg]; simpa using hf
    rw [hv]
    rw [hf] at hft
    go_enter Try.func8, Try.ntmps8
    go_wp2_with (go_at_call 10; fail)
    refine (good_any m w).mono ?_
    rintro e w1 ⟨rfl, hb1⟩
    haveI hx1 := ExtC.mk hb1
    rw [hg]
    go_wp2_with (go_at_call 17; fail)
    refine (hft w1).mono ?_
    rintro e w2 ⟨rfl, hb2⟩
    haveI hx2 := ExtC.mk hb2
    go_wp2
    exact bodyPost_ret (v := (.tuple #[.string ⟨#[]⟩, .int .i64 5])) (by simp (maxDischargeDepth := 6) [results, Try.results8, go_sem]) rfl ⟨rfl, by (repeat' (first | (with_reducible exact Below.refl _ _) | (with_reducible refine Below.alloc ?_ ?_ _) | (with_reducible refine Below.setCell ?_ ?_ _) | (with_reducible refine Below.drew ?_) | (with_reducible refine below_step ?_ (by assumption) ?_) | (with_reducible exact leC) | go_size))⟩
  · have hv : putV n m little = (⟨(if little then leBytes n m else (leBytes n m).reverse).toArray⟩, 0) := by simp [putV, hg]; simpa using hf
    rw [hv]
    rw [hf] at hft
    go_enter Try.func8, Try.ntmps8
    go_wp2_with (go_at_call 10; fail)
    refine (good_any m w).mono ?_
    rintro e w1 ⟨rfl, hb1⟩
    haveI hx1 := ExtC.mk hb1
    rw [hg]
    go_wp2_with (go_at_call 17; fail)
    refine (hft w1).mono ?_
    rintro e w2 ⟨rfl, hb2⟩
    haveI hx2 := ExtC.mk hb2
    have hmk := run_make_row' (P := Try.prog) 43 5 (.int .u8 0) 1 Try.underlying43 (by kernel_rfl) rfl .i64 .i64 m (by omega) (by omega) w2
    have hrow0 : (w2.alloc (.cells (madeCells #[Value.int .u8 0] m) 5)).heap[w2.heap.size]? = some (.cells (rowI n m 0) 5) := by rw [Go.heap_alloc_new, rowI_zero n m]
    have hba : Below w.heap.size w (w2.alloc (.cells (madeCells #[Value.int .u8 0] m) 5)) := by (repeat' (first | (with_reducible exact Below.refl _ _) | (with_reducible refine Below.alloc ?_ ?_ _) | (with_reducible refine Below.setCell ?_ ?_ _) | (with_reducible refine Below.drew ?_) | (with_reducible refine below_step ?_ (by assumption) ?_) | (with_reducible exact leC) | go_size))
    have hle : w.heap.size ≤ w2.heap.size := Nat.le_trans hb1.size hb2.size
    generalize w2.alloc (.cells (madeCells #[Value.int .u8 0] m) 5) = W at *
    go_wp2
    go_loopw [23] (fun i wr => ∃ k : Nat, k ≤ m ∧ i = .int .i64 k ∧ wr.heap[w2.heap.size]? = some (.cells (rowI n m k) 5) ∧ Below w.heap.size w wr) (fun i _ => m - (RowKit.intOf i).toNat)
    case atStart => exact ⟨0, by omega, rfl, hrow0, hba⟩
    case round =>
      obtain ⟨k, hk, rfl, hrk, hbk⟩ := hrel
      clear hrow0 hba hmk
      by_cases hlt : k < m
      · obtain ⟨j, hj, hjm, hje⟩ : ∃ j : Nat, (m : Int) - 1 - k = (j : Int) ∧ j < m ∧ j = m - 1 - k := ⟨m - 1 - k, by omega, by omega, rfl⟩
        have hjs : j < (rowI n m k).size := by rw [rowI_size]; exact hjm
        have hcell : wr.cell? ⟨w2.heap.size, j, none⟩ = some ((rowI n m k)[j]) := by rw [Go.cell_of_row wr _ _ _ _ _ hrk]; exact Array.getElem?_eq_getElem hjs
        have hfro := Go.frozen_of_row wr w2.heap.size j _ _ hrk
        have hnew := Go.heap_setCell_same wr w2.heap.size j _ _ (.int .u8 ((n / 256 ^ k % 256 : Nat) : Int)) hrk
        rw [hje, rowI_step n m k hlt, ← hje] at hnew
        rw [byte_shr] at hnew
        replace hje := Lib.hid hje
        have h64 : decide ((8 : Int) * (k : Int) < 0) = false := decide_eq_false (by omega)
        go_wp2
        go_roundw
        case rel => exact ⟨k + 1, by omega, by go_num, hnew, Below.setCell hbk hle _⟩
        case measure => simp [RowKit.intOf]; omega
      · obtain rfl : k = m := by omega
        have hH := rowI_holds wr w2.heap.size n k _ hrk
        cases little
        · have hst := string_holds wr w2.heap.size k k (leBytes n k).reverse (by simp [leBytes_len]) hH
          go_wp2
          exact bodyPost_ret (v := (.tuple #[.string ⟨(leBytes n k).reverse.toArray⟩, .int .i64 0])) (by simp (maxDischargeDepth := 6) [results, Try.results8, go_sem]) rfl ⟨rfl, by (repeat' (first | (with_reducible exact Below.refl _ _) | (with_reducible refine Below.alloc ?_ ?_ _) | (with_reducible refine Below.setCell ?_ ?_ _) | (with_reducible refine Below.drew ?_) | (with_reducible refine below_step ?_ (by assumption) ?_) | (with_reducible exact leC) | go_size))⟩
        · go_wp2_with (go_at_call 18; fail)
          refine (reverse_n w2.heap.size 0 k k _ wr (by simp [ints_size, leBytes_len]) hH (by omega)).mono ?_
          rintro e w4 ⟨rfl, z, hw4⟩
          have hH4 : Holds (Value.int .u8) w4 w2.heap.size 0 (ints (leBytes n k)) := by
            rw [hw4, ints_rev, List.reverse_reverse]
            exact holds_putRow _ _ _ _ (ints (leBytes n k).reverse) _ (holds_ahead _ _ _ _ _ _ hH) (by simp [ints_size])
          have hb4 : Below w.heap.size w w4 := by rw [hw4]; exact below_putRow _ hbk hle
          have hst := string_holds w4 w2.heap.size k k (leBytes n k) (by simp [leBytes_len]) hH4
          clear hw4 hH hH4
          go_wp2
          exact bodyPost_ret (v := (.tuple #[.string ⟨(leBytes n k).toArray⟩, .int .i64 0])) (by simp (maxDischargeDepth := 6) [results, Try.results8, go_sem]) rfl ⟨rfl, by (repeat' (first | (with_reducible exact Below.refl _ _) | (with_reducible refine Below.alloc ?_ ?_ _) | (with_reducible refine Below.setCell ?_ ?_ _) | (with_reducible refine Below.drew ?_) | (with_reducible refine below_step ?_ (by assumption) ?_) | (with_reducible exact leC) | go_size))⟩
end Go.Proofs.Ytnpbhdphbbdefaa
