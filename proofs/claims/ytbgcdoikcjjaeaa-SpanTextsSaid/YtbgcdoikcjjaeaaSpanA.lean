/- The law SpanGood walked: every call returns true and makes memory only. Conditions: the numbers are int's; the string takes at most 2^47 - 4096 bytes. -/
import Derived.Test.YtbgcdoikcjjaeaaSpan3
namespace Go.Proofs.Ytbgcdoikcjjaeaa
open Go.RowKit
attribute [local go_sem] cellI frozenI cellOf_is frozenOf_is cellA frozenA setCellA

theorem of_is {v : Int} (n : Int) (w : World) (h : ofI n = v) : Calls Try.prog 14 #[.int .i64 n] w fun e w' => e = .returned (.agg #[.int .i64 0, .int .i64 v]) ∧ Below w.heap.size w w' := by
  subst h; exact of_any n w

/-- A number's lowest four bits. -/
def low4 (x : Int) : Int := bits .and .i64 x 15
theorem low4_in (x : Int) : I64 (low4 x) := by
  unfold low4 I64
  show -9223372036854775808 ≤ IntKind.i64.wrap _ ∧ IntKind.i64.wrap _ ≤ _
  rw [IntKind.wrap_i64]
  omega

/-- Where the list of 'some' lies. -/
def SomeAt (B : Nat) (x0 x1 x2 x3 : Int) (w : World) (e : Ending) (w' : World) : Prop :=
  ∃ g, e = .returned (.slice (some ⟨g, 0, none⟩) 2 2) ∧ B ≤ g ∧ g < w'.heap.size ∧ Below B w w' ∧
    w'.heap[g]? = some (.cells #[.int .i64 x0, .int .i64 x1, .int .i64 x2, .int .i64 x3, .int .i64 (low4 x0), .int .i64 (low4 x1), .int .i64 (low4 x2), .int .i64 (low4 x3)] 22 (0, 0))

theorem some_any (x0 x1 x2 x3 : Int) (w : World) :
    Calls Try.prog 7 #[.agg #[.int .i64 x0, .int .i64 x1, .int .i64 x2, .int .i64 x3]] w (SomeAt w.heap.size x0 x1 x2 x3 w) := by
  go_enter Try.func7, Try.ntmps7
  go_wp2
  go_ret
  refine ⟨w.heap.size + 1, rfl, by omega, by simp, by (repeat' (first | (with_reducible exact Below.refl _ _) | (with_reducible refine Below.alloc ?_ ?_ _) | (with_reducible refine Below.setCell ?_ ?_ _) | (with_reducible refine Below.drew ?_) | (with_reducible refine below_step ?_ (by assumption) ?_) | (with_reducible exact leC) | go_size)), ?_⟩
  have := heap_alloc_new (w.alloc (.cells #[.int .i64 x0, .int .i64 x1, .int .i64 x2, .int .i64 x3] 22)) (.cells #[.int .i64 x0, .int .i64 x1, .int .i64 x2, .int .i64 x3, .int .i64 (low4 x0), .int .i64 (low4 x1), .int .i64 (low4 x2), .int .i64 (low4 x3)] 22)
  rwa [World.size_alloc] at this

theorem wakes_any (w : World) : Calls Try.prog 15 #[] w fun e w' => e = .returned (.bool true) ∧ Below w.heap.size w w' := by
  have H2 := fun w => take_any 0 5 2 w ⟨by omega, by omega⟩ ⟨by omega, by omega⟩ (by omega) (by omega)
  have h2 : take5 (takeR 0 5 2) = .tuple #[.agg #[.int .i64 0, .int .i64 2], .agg #[.int .i64 2, .int .i64 3], .int .i64 0] := rfl
  rw [h2] at H2
  have H3 := fun w => between_any 2 3 7 1 w ⟨by omega, by omega⟩ ⟨by omega, by omega⟩ ⟨by omega, by omega⟩ ⟨by omega, by omega⟩
  have h3 : from3 (betR 2 3 7 1) = .tuple #[.agg #[.int .i64 2, .int .i64 6], .int .i64 0] := rfl
  rw [h3] at H3
  have H4 := fun w => text_any 2 3 ⟨#[97, 98, 99, 100, 101]⟩ w ⟨by omega, by omega⟩ ⟨by omega, by omega⟩ (by decide)
  have h4 : textV 2 3 ⟨#[97, 98, 99, 100, 101]⟩ = ⟨#[99, 100, 101]⟩ := by decide
  rw [h4] at H4
  have K2 := Lib.hid H2
  have K3 := Lib.hid H3
  have K4 := Lib.hid H4
  clear H2 H3 H4 h2 h3 h4
  go_enter Try.func15, Try.ntmps15
  go_wp2_with fail
  refine (of_any 5 _).mono ?_
  rintro e w1 ⟨rfl, hb1⟩
  haveI hx1 := ExtC.mk hb1
  go_wp2_with fail
  refine (K2.out _).mono ?_
  rintro e w2 ⟨rfl, hb2⟩
  haveI hx2 := ExtC.mk hb2
  go_wp2_with fail
  refine (K3.out _).mono ?_
  rintro e w3 ⟨rfl, hb3⟩
  haveI hx3 := ExtC.mk hb3
  go_wp2_with fail
  refine (K4.out _).mono ?_
  rintro e w4 ⟨rfl, hb4⟩
  haveI hx4 := ExtC.mk hb4
  go_wp2
  go_ret
  exact ⟨rfl, by (repeat' (first | (with_reducible exact Below.refl _ _) | (with_reducible refine Below.alloc ?_ ?_ _) | (with_reducible refine Below.setCell ?_ ?_ _) | (with_reducible refine Below.drew ?_) | (with_reducible refine below_step ?_ (by assumption) ?_) | (with_reducible exact leC) | go_size))⟩

/-- Block g of the world holds the two lists of 'some'. -/
def Lists (g : Nat) (x0 x1 x2 x3 : Int) (w : World) : Prop :=
  w.heap[g]? = some (.cells #[.int .i64 x0, .int .i64 x1, .int .i64 x2, .int .i64 x3, .int .i64 (low4 x0), .int .i64 (low4 x1), .int .i64 (low4 x2), .int .i64 (low4 x3)] 22 (0, 0))

set_option maxHeartbeats 1000000 in
set_option maxRecDepth 100000 in
theorem SpanGood_any (x0 x1 x2 x3 : Int) (s : ByteArray) (w : World) (h0 : I64 x0) (h1 : I64 x1) (h2 : I64 x2) (h3 : I64 x3) (hs : s.size ≤ 140737488351232) :
    Calls Try.prog 3 #[.agg #[.int .i64 x0, .int .i64 x1, .int .i64 x2, .int .i64 x3], .string s] w fun e w' => e = .returned (.bool true) ∧ Below w.heap.size w w' := by
  go_enter Try.func3, Try.ntmps3
  go_wp2_with fail
  refine (some_any x0 x1 x2 x3 _).mono ?_
  rintro e w1 ⟨g, rfl, hg1, hg2, hb1, hg⟩
  haveI hx1 := ExtC.mk hb1
  go_wp2
  go_loopw [13] (fun i wr => ∃ k : Nat, k ≤ 2 ∧ i = .int .i64 k ∧ Below w1.heap.size w1 wr) (fun i _ => 2 - (intOf i).toNat)
  case atStart => exact ⟨0, by omega, rfl, Below.refl _ _⟩
  case round =>
    obtain ⟨k, hk, rfl, hb2⟩ := hrel
    haveI hx2 := ExtC.mk hb2
    have hcell : ∀ j, wr.cell? ⟨g, j, none⟩ = w1.cell? ⟨g, j, none⟩ := fun j => hb2.cell (p := ⟨g, j, none⟩) hg2
    have hcell2 : ∀ j, w1.cell? ⟨g, j, none⟩ = #[Value.int .i64 x0, .int .i64 x1, .int .i64 x2, .int .i64 x3, .int .i64 (low4 x0), .int .i64 (low4 x1), .int .i64 (low4 x2), .int .i64 (low4 x3)][j]? := fun j => cell_of_row w1 g j _ _ _ hg
    by_cases hk2 : k = 2
    · subst hk2
      go_wp2_with fail
      refine (wakes_any _).mono ?_
      rintro e w3 ⟨rfl, hb3⟩
      haveI hx3 := ExtC.mk hb3
      go_wp2
      go_ret
      exact ⟨rfl, by (repeat' (first | (with_reducible exact Below.refl _ _) | (with_reducible refine Below.alloc ?_ ?_ _) | (with_reducible refine Below.setCell ?_ ?_ _) | (with_reducible refine Below.drew ?_) | (with_reducible refine below_step ?_ (by assumption) ?_) | (with_reducible exact leC) | go_size))⟩
    · obtain ⟨y0, y1, y2, y3, hy0, hy1, hy2, hy3, hc0, hc1, hc2, hc3⟩ : ∃ y0 y1 y2 y3 : Int, I64 y0 ∧ I64 y1 ∧ I64 y2 ∧ I64 y3 ∧ wr.cell? ⟨g, k * 4, none⟩ = some (.int .i64 y0) ∧ wr.cell? ⟨g, k * 4 + 1, none⟩ = some (.int .i64 y1) ∧ wr.cell? ⟨g, k * 4 + 2, none⟩ = some (.int .i64 y2) ∧ wr.cell? ⟨g, k * 4 + 3, none⟩ = some (.int .i64 y3) := by
        rcases (by omega : k = 0 ∨ k = 1) with rfl | rfl
        · exact ⟨x0, x1, x2, x3, h0, h1, h2, h3, by rw [hcell, hcell2]; rfl, by rw [hcell, hcell2]; rfl, by rw [hcell, hcell2]; rfl, by rw [hcell, hcell2]; rfl⟩
        · exact ⟨low4 x0, low4 x1, low4 x2, low4 x3, low4_in _, low4_in _, low4_in _, low4_in _, by rw [hcell, hcell2]; rfl, by rw [hcell, hcell2]; rfl, by rw [hcell, hcell2]; rfl, by rw [hcell, hcell2]; rfl⟩
      clear hcell hcell2
      have hlt : k < 2 := by omega
      have hs1 : I64 s.size := ⟨by omega, by omega⟩
      go_wp2
      refine steady_region (by kernel_rfl) (by kernel_rfl) ?_
      repeat (first | go_big_quiet_skip | (go_big_quiet_want; go_big_quiet_op; first | go_big_quiet_on | (apply Exists.intro; refine ⟨fun _ => ?_, ?_⟩; (focus ((first | (go_at_call 8; with_reducible exact Calls.steady (good_any _ _ _ _ hy0 hy1 hy2)) | (go_at_call 9; with_reducible exact Calls.steady (rgood_any _ _ _ _ hy0 hy1 hy2)) | (go_at_call 10; with_reducible exact Calls.steady (end_any _ _ _ hy0 hy1)) | (go_at_call 11; with_reducible exact Calls.steady (rend_any _ _ _ hy0 hy1)) | (go_at_call 12; with_reducible exact Calls.steady (text_any _ _ _ _ hy0 hy1 (Nat.le_trans hs (by decide)))) | (go_at_call 13; with_reducible exact Calls.steady (rtext_any _ _ _ _ hy0 hy1 hs))))); go_big_quiet_on)))
      refine wpQuiet_nil ?_
      rintro w3 ⟨⟨_, hb3⟩, rfl⟩
      haveI hx3 := ExtC.mk hb3
      try dsimp only
      have ho : (0 ≤ y3 ∧ y3 ≤ 4611686018427387904 ∧ ofI y3 = y3) ∨ (y3 < 0 ∧ ofI y3 = 0) ∨ (4611686018427387904 < y3 ∧ ofI y3 = 0) := by
        unfold ofI
        split <;> omega
      rcases ho with ⟨ha, hb, ho⟩ | ⟨ha, ho⟩ | ⟨ha, ho⟩
      all_goals
        have ho' := Lib.hid ho
        clear ho
        go_wp2_with fail
        refine (of_is y3 _ ho'.out).mono ?_
        rintro e w4 ⟨rfl, hb4⟩
        haveI hx4 := ExtC.mk hb4
        go_wp2
        go_roundw
        case rel => exact ⟨k + 1, by omega, by go_num, by (repeat' (first | (with_reducible exact Below.refl _ _) | (with_reducible refine Below.alloc ?_ ?_ _) | (with_reducible refine Below.setCell ?_ ?_ _) | (with_reducible refine Below.drew ?_) | (with_reducible refine below_step ?_ (by assumption) ?_) | (with_reducible exact leC) | go_size))⟩
        case measure => simp [intOf]; omega
end Go.Proofs.Ytbgcdoikcjjaeaa
