/- The walk of SumsCrc. Condition: every piece takes at most 2^47 bytes. -/
import Derived.Test.YtnpikkghgflefaaSumsA
import Derived.Test.YtnpikkghgflefaaStrs
namespace Go.Proofs.Ytnpikkghgflefaa
open Go.RowKit
attribute [local go_sem] cellI frozenI cellOf_is frozenOf_is cellA frozenA setCellA
attribute [-go_sem] run_min_int2

theorem min_run (n : Nat) (c : Int) (hc : 0 ≤ c) : ∃ m : Nat, m ≤ n ∧ (m : Int) ≤ c ∧ ∀ (w : World) (ts : Array TypeId) (t : TypeId), (Builtin.min_ ts t #[.int .i64 n, .int .i64 c]).run Try.prog w = .ok (.int .i64 m) w := by
  by_cases h : (n : Int) ≤ c
  · exact ⟨n, by omega, h, fun w ts t => by rw [run_min_int2, if_neg (by omega)]⟩
  · obtain ⟨k, rfl⟩ := Int.eq_ofNat_of_zero_le hc
    exact ⟨k, by omega, by omega, fun w ts t => by rw [run_min_int2, if_pos (by omega)]⟩

set_option maxRecDepth 100000 in
theorem crcW_any (a : Addr) (len cap : Nat) (Sx : Nat → ByteArray) (w : World) (hl : len ≤ 9223372036854775807) (hcap : len ≤ cap)
    (hcell : ∀ i, i < len → w.cell? (a.add i) = some (.string (Sx i)) ∧ (Sx i).size ≤ 9223372036854775807) :
    Calls Try.prog 3 #[.slice (some a) len cap] w fun e w' => e = .returned (.bool true) ∧ Below w.heap.size w w' := by
  obtain ⟨m, l1, l2, hm⟩ := min_run len 20 (by omega)
  replace hcell := Lib.hid hcell
  go_enter Try.func3, Try.ntmps3
  go_wp2_with (go_at_call 7; refine (new_any w).mono ?_; rintro e w1 ⟨g, rfl, hrow, hge, hb1⟩)
  go_wp2
  go_loopw [4, 15] (fun al i wr => ∃ (k : Nat) (A : ByteArray), k ≤ m ∧ A.size ≤ 300 * k ∧ al = .string A ∧ i = .int .i64 k ∧ wr.heap[g]? = some (.cells (crcRow (crc32 A.data.toList)) 41) ∧ Below w.heap.size w wr) (fun _ i _ => m - (intOf i).toNat)
  case atStart => exact ⟨0, ⟨#[]⟩, by omega, by decide, rfl, rfl, hrow, hb1⟩
  case round =>
    obtain ⟨k, A, hk, hAs, rfl, rfl, hrk, hbk⟩ := hrel
    clear hm hrow hb1
    by_cases hlt : k < m
    · obtain ⟨hck, hPs⟩ := hcell.out k (by omega)
      have hcw := (hbk.cell (p := a.add k) (Go.block_lt_of_cell hck)).trans hck
      generalize Sx k = P at *
      obtain ⟨m2, l3, l4, hm2⟩ := min_run P.size 300 (by omega)
      have e1 : (P.extract 0 m2).size = m2 := by rw [ByteArray.size_extract]; omega
      have hgw : g < wr.heap.size := (Array.getElem?_eq_some_iff.1 hrk).1
      have hd : decide ((k : Int) < (m : Int)) = true := decide_eq_true (by omega)
      go_wp2_with (go_at_call 8; fail)
      generalize P.extract 0 m2 = S at *
      refine (add_any S wr g _ (by omega) (crc32_lt _) hrk).mono ?_
      rintro e _ ⟨rfl, w2, hb2, rfl⟩
      have hrow2 := (hb2.block g hgw).trans hrk
      have hrow3 := Go.heap_setCell_same w2 g 256 _ _ (.int .u32 (crcAdd (crc32 A.data.toList) S.data.toList : Nat)) hrow2
      rw [crcRow_set] at hrow3
      have hb3 : Below w.heap.size w (w2.setCell ⟨g, 256, none⟩ (.int .u32 (crcAdd (crc32 A.data.toList) S.data.toList : Nat))) := Below.setCell (hbk.trans (hb2.mono hbk.size)) hge _
      have hap : crcAdd (crc32 A.data.toList) S.data.toList = crc32 (A ++ S).data.toList := by
        rw [← crcAdd_zero, crcAdd_append 0 (by omega), crcAdd_zero]
        simp
      have hsz : (A ++ S).size ≤ 300 * (k + 1) := by rw [ByteArray.size_append]; omega
      rw [hap] at hrow3 hb3 ⊢
      generalize w2.setCell ⟨g, 256, none⟩ (.int .u32 (crc32 (A ++ S).data.toList : Nat)) = w3 at *
      have hs3 := hb3.size
      go_wp2_with (go_at_call 9; fail)
      refine (sum_any w3 g _ hrow3).mono ?_
      rintro e _ ⟨rfl, rfl⟩
      go_wp2_with (go_at_call 10; fail)
      refine (rcrc_any (A ++ S) _ (by omega)).mono ?_
      rintro e w4 ⟨rfl, hb4⟩
      have hrow4 := (hb4.block g (Array.getElem?_eq_some_iff.1 hrow3).1).trans hrow3
      go_wp2
      go_roundw
      case rel => exact ⟨k + 1, A ++ S, by omega, hsz, rfl, by go_num, hrow4, hb3.trans (hb4.mono hs3)⟩
      case measure => simp [intOf]; omega
    · obtain rfl : k = m := by omega
      go_wp2_with (go_at_call 8; fail)
      haveI hxr := ExtC.mk hbk
      refine (add_nil _ wr).mono ?_
      rintro e w5 ⟨rfl, hb5⟩
      haveI hx5 := ExtC.mk hb5
      go_wp2_with (first | (go_at_call 11; (first | (with_reducible refine (wakes_any _).mono ?_)); rintro e w9 ⟨rfl, hb9⟩; haveI hx9 := ExtC.mk hb9) | (go_at_call 12; (first | (with_reducible refine (crc_any A _ (by omega)).mono ?_)); rintro e w9 ⟨rfl, hb9⟩; haveI hx9 := ExtC.mk hb9) | (go_at_call 10; (first | (with_reducible refine (rcrc_any A _ (by omega)).mono ?_)); rintro e w9 ⟨rfl, hb9⟩; haveI hx9 := ExtC.mk hb9) | (go_at_call 9; (first | (with_reducible refine (sum_nil _).mono ?_)); rintro e w9 ⟨rfl, hb9⟩; haveI hx9 := ExtC.mk hb9))
      exact bodyPost_ret (v := (.bool true)) (by simp (maxDischargeDepth := 6) [results, Try.results3, go_sem]) rfl ⟨rfl, by (repeat' (first | (with_reducible exact Below.refl _ _) | (with_reducible refine Below.alloc ?_ ?_ _) | (with_reducible refine Below.setCell ?_ ?_ _) | (with_reducible refine Below.drew ?_) | (with_reducible refine below_step ?_ (by assumption) ?_) | (with_reducible exact leC) | go_size))⟩
set_option maxRecDepth 100000 in
theorem crcW_nil (w : World) :
    Calls Try.prog 3 #[.slice none 0 0] w fun e w' => e = .returned (.bool true) ∧ Below w.heap.size w w' := by
  have hm : ∀ (w : World) (ts : Array TypeId) (t : TypeId), (Builtin.min_ ts t #[.int .i64 0, .int .i64 20]).run Try.prog w = .ok (.int .i64 0) w := fun w ts t => by rw [run_min_int2, if_neg (by omega)]
  go_enter Try.func3, Try.ntmps3
  go_wp2_with (go_at_call 7; refine (new_any w).mono ?_; rintro e w1 ⟨g, rfl, hrow, hge, hb1⟩)
  go_wp2
  go_loopw [4, 15] (fun al i wr => al = .string ⟨#[]⟩ ∧ i = .int .i64 0 ∧ Below w.heap.size w wr) (fun _ _ _ => 0)
  case atStart => exact ⟨rfl, rfl, hb1⟩
  case round =>
    obtain ⟨rfl, rfl, hbk⟩ := hrel
    clear hrow hb1
    go_wp2_with (go_at_call 8; fail)
    haveI hxr := ExtC.mk hbk
    refine (add_nil _ wr).mono ?_
    rintro e w5 ⟨rfl, hb5⟩
    haveI hx5 := ExtC.mk hb5
    go_wp2_with (first | (go_at_call 11; (first | (with_reducible refine (wakes_any _).mono ?_)); rintro e w9 ⟨rfl, hb9⟩; haveI hx9 := ExtC.mk hb9) | (go_at_call 12; (first | (with_reducible refine (crc_any ⟨#[]⟩ _ (by decide)).mono ?_)); rintro e w9 ⟨rfl, hb9⟩; haveI hx9 := ExtC.mk hb9) | (go_at_call 10; (first | (with_reducible refine (rcrc_any ⟨#[]⟩ _ (by decide)).mono ?_)); rintro e w9 ⟨rfl, hb9⟩; haveI hx9 := ExtC.mk hb9) | (go_at_call 9; (first | (with_reducible refine (sum_nil _).mono ?_)); rintro e w9 ⟨rfl, hb9⟩; haveI hx9 := ExtC.mk hb9))
    exact bodyPost_ret (v := (.bool true)) (by simp (maxDischargeDepth := 6) [results, Try.results3, go_sem]) rfl ⟨rfl, by (repeat' (first | (with_reducible exact Below.refl _ _) | (with_reducible refine Below.alloc ?_ ?_ _) | (with_reducible refine Below.setCell ?_ ?_ _) | (with_reducible refine Below.drew ?_) | (with_reducible refine below_step ?_ (by assumption) ?_) | (with_reducible exact leC) | go_size))⟩
theorem crcW_arg (v : Value) (w : World) (h : StrsArg w v) : Calls Try.prog 3 #[v] w fun e w' => e = .returned (.bool true) ∧ Below w.heap.size w w' := by
  rcases h with rfl | ⟨a, len, cap, Sx, rfl, h1, h2, h3⟩
  · exact crcW_nil w
  · exact crcW_any a len cap Sx w (by omega) h1 h3
end Go.Proofs.Ytnpikkghgflefaa
