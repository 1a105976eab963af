/- Contracts of the functions of package span and of its reference: each computes a plain function of its arguments and only makes memory. Conditions: the numbers are int's. -/
import Derived.Test.YtbgcdoikcjjaeaaBase
namespace Go.Proofs.Ytbgcdoikcjjaeaa
open Go.RowKit
attribute [local go_sem] cellI frozenI cellOf_is frozenOf_is cellA frozenA setCellA

/-- The range of int. -/
def I64 (x : Int) : Prop := -9223372036854775808 ≤ x ∧ x ≤ 9223372036854775807

def goodB (a l n : Int) : Bool := decide (0 ≤ a) && decide (0 ≤ l) && decide (a ≤ n) && decide (l ≤ n - a)
theorem goodB_iff (a l n : Int) : goodB a l n = true ↔ 0 ≤ a ∧ 0 ≤ l ∧ a ≤ n ∧ l ≤ n - a := by simp [goodB, and_assoc]
def soundB (a l : Int) : Bool := goodB a l 4611686018427387904
theorem soundB_iff (a l : Int) : soundB a l = true ↔ 0 ≤ a ∧ 0 ≤ l ∧ a + l ≤ 4611686018427387904 := by unfold soundB; rw [goodB_iff]; omega
def endI (a l : Int) : Int := if soundB a l then a + l else 0
theorem endI_yes {a l : Int} (h : soundB a l = true) : endI a l = a + l := by simp [endI, h]
theorem endI_no {a l : Int} (h : soundB a l = false) : endI a l = 0 := by simp [endI, h]
theorem endI_bd (a l : Int) : 0 ≤ endI a l ∧ endI a l ≤ 4611686018427387904 := by
  unfold endI
  split
  · rename_i h; rw [soundB_iff] at h; omega
  · omega

def hasB (a l b m : Int) : Bool := soundB a l && soundB b m && decide (a ≤ b) && decide (b + m ≤ a + l)

set_option maxHeartbeats 400000 in
theorem good_any (a l n : Int) (w : World) (ha : I64 a) (hl : I64 l) (hn : I64 n) :
    Calls Try.prog 8 #[.agg #[.int .i64 a, .int .i64 l], .int .i64 n] w fun e w' => e = .returned (.bool (goodB a l n)) ∧ Below w.heap.size w w' := by
  obtain ⟨ha1, ha2⟩ := ha
  obtain ⟨hl1, hl2⟩ := hl
  obtain ⟨hn1, hn2⟩ := hn
  go_enter Try.func8, Try.ntmps8
  go_wp2
  all_goals go_ret
  all_goals
    refine ⟨ret_bool ?_, (Below.refl _ _).alloc (Nat.le_refl _) _⟩
    simp [goodB]
    try omega

theorem sound_any (a l : Int) (w : World) (ha : I64 a) (hl : I64 l) :
    Calls Try.prog 24 #[.agg #[.int .i64 a, .int .i64 l]] w fun e w' => e = .returned (.bool (soundB a l)) ∧ Below w.heap.size w w' := by
  go_enter Try.func24, Try.ntmps24
  go_wp2_with (go_at_call 8; refine (good_any _ _ _ _ ha hl ⟨by omega, by omega⟩).mono ?_; rintro e w' ⟨rfl, hb⟩)
  go_ret
  refine ⟨rfl, ((Below.refl _ _).alloc (Nat.le_refl _) _).trans (hb.mono (by simp))⟩

theorem end_any (a l : Int) (w : World) (ha : I64 a) (hl : I64 l) :
    Calls Try.prog 10 #[.agg #[.int .i64 a, .int .i64 l]] w fun e w' => e = .returned (.int .i64 (endI a l)) ∧ Below w.heap.size w w' := by
  go_enter Try.func10, Try.ntmps10
  go_wp2_with fail
  refine (sound_any _ _ _ ha hl).mono ?_
  rintro e w1 ⟨rfl, hb1⟩
  haveI hx1 := ExtC.mk hb1
  cases hs : soundB a l
  · have he := endI_no hs
    go_wp2
    go_ret
    exact ⟨ret_int (by rw [endI_no hs]), by (repeat' (first | (with_reducible exact Below.refl _ _) | (with_reducible refine Below.alloc ?_ ?_ _) | (with_reducible refine Below.setCell ?_ ?_ _) | (with_reducible refine Below.drew ?_) | (with_reducible refine below_step ?_ (by assumption) ?_) | (with_reducible exact leC) | go_size))⟩
  · have hs' := (soundB_iff a l).1 hs
    obtain ⟨h1, h2, h3⟩ := hs'
    go_wp2
    go_ret
    exact ⟨ret_int (by rw [endI_yes hs]), by (repeat' (first | (with_reducible exact Below.refl _ _) | (with_reducible refine Below.alloc ?_ ?_ _) | (with_reducible refine Below.setCell ?_ ?_ _) | (with_reducible refine Below.drew ?_) | (with_reducible refine below_step ?_ (by assumption) ?_) | (with_reducible exact leC) | go_size))⟩

theorem sound_is {v : Bool} (a l : Int) (w : World) (ha : I64 a) (hl : I64 l) (h : soundB a l = v) :
    Calls Try.prog 24 #[.agg #[.int .i64 a, .int .i64 l]] w fun e w' => e = .returned (.bool v) ∧ Below w.heap.size w w' := by
  subst h; exact sound_any a l w ha hl

theorem has_any (a l b m : Int) (w : World) (ha : I64 a) (hl : I64 l) (hb : I64 b) (hm : I64 m) :
    Calls Try.prog 22 #[.agg #[.int .i64 a, .int .i64 l], .agg #[.int .i64 b, .int .i64 m]] w fun e w' => e = .returned (.bool (hasB a l b m)) ∧ Below w.heap.size w w' := by
  cases hs : soundB a l <;> cases ht : soundB b m <;> cases hab : decide (a ≤ b)
  all_goals
    have hs' := Lib.hid hs
    have ht' := Lib.hid ht
    clear hs ht
  all_goals
    go_enter Try.func22, Try.ntmps22
    go_wp2
    refine steady_region (by kernel_rfl) (by kernel_rfl) ?_
    repeat (first | go_big_quiet_skip | (go_big_quiet_want; go_big_quiet_op; first | go_big_quiet_on | (apply Exists.intro; refine ⟨fun _ => ?_, ?_⟩; (focus ((first | (go_at_call 24; first | with_reducible exact Calls.steady (sound_is _ _ _ ha hl hs'.out) | with_reducible exact Calls.steady (sound_is _ _ _ hb hm ht'.out)) | (go_at_call 10; first | with_reducible exact Calls.steady (end_any _ _ _ ha hl) | with_reducible exact Calls.steady (end_any _ _ _ hb hm))))); go_big_quiet_on)))
    refine wpQuiet_nil ?_
    rintro w1 ⟨⟨_, hb1⟩, rfl⟩
    haveI hx1 := ExtC.mk hb1
    try dsimp only
    have hs := hs'.out
    have ht := ht'.out
    go_wp2
    go_ret
    refine ⟨ret_bool ?_, by (repeat' (first | (with_reducible exact Below.refl _ _) | (with_reducible refine Below.alloc ?_ ?_ _) | (with_reducible refine Below.setCell ?_ ?_ _) | (with_reducible refine Below.drew ?_) | (with_reducible refine below_step ?_ (by assumption) ?_) | (with_reducible exact leC) | go_size))⟩
    simp [hasB, *, endI]

/-- What Take gives: both spans and the error. -/
def takeR (a l n : Int) : Int × Int × Int × Int × Int := if soundB a l then (if l < n then (0, 0, 0, 0, 3) else (a, n, a + n, l - n, 0)) else (0, 0, 0, 0, 2)
theorem takeR_no {a l n : Int} (h : soundB a l = false) : takeR a l n = (0, 0, 0, 0, 2) := by simp [takeR, h]
theorem takeR_far {a l n : Int} (h : soundB a l = true) (hn : l < n) : takeR a l n = (0, 0, 0, 0, 3) := by simp [takeR, h, hn]
theorem takeR_ok {a l n : Int} (h : soundB a l = true) (hn : n ≤ l) : takeR a l n = (a, n, a + n, l - n, 0) := by
  have : ¬ l < n := by omega
  simp [takeR, h, this]
def take5 (r : Int × Int × Int × Int × Int) : Value := .tuple #[.agg #[.int .i64 r.1, .int .i64 r.2.1], .agg #[.int .i64 r.2.2.1, .int .i64 r.2.2.2.1], .int .i64 r.2.2.2.2]
def take5' (r : Int × Int × Int × Int × Int) : Value := .tuple #[.agg #[.int .i64 r.1, .int .i64 r.2.1, .int .i64 r.2.2.1, .int .i64 r.2.2.2.1], .int .i64 r.2.2.2.2]

set_option maxHeartbeats 800000 in
theorem take_any (a l n : Int) (w : World) (ha : I64 a) (hl : I64 l) (hn0 : 0 ≤ n) (hn1 : n ≤ 18446744073709551615) :
    Calls Try.prog 17 #[.agg #[.int .i64 a, .int .i64 l], .int .u64 n] w fun e w' => e = .returned (take5 (takeR a l n)) ∧ Below w.heap.size w w' := by
  cases hs : soundB a l
  · rw [takeR_no hs]
    go_enter Try.func17, Try.ntmps17
    go_wp2_with fail
    refine (sound_is _ _ _ ha hl hs).mono ?_
    rintro e w1 ⟨rfl, hb1⟩
    haveI hx1 := ExtC.mk hb1
    go_wp2
    exact bodyPost_ret (v := take5 (0, 0, 0, 0, 2)) (by simp [take5, results, Try.results17, go_sem]) rfl ⟨rfl, by (repeat' (first | (with_reducible exact Below.refl _ _) | (with_reducible refine Below.alloc ?_ ?_ _) | (with_reducible refine Below.setCell ?_ ?_ _) | (with_reducible refine Below.drew ?_) | (with_reducible refine below_step ?_ (by assumption) ?_) | (with_reducible exact leC) | go_size))⟩
  · obtain ⟨h1, h2, h3⟩ := (soundB_iff a l).1 hs
    by_cases hn : l < n
    · rw [takeR_far hs hn]
      go_enter Try.func17, Try.ntmps17
      go_wp2_with fail
      refine (sound_is _ _ _ ha hl hs).mono ?_
      rintro e w1 ⟨rfl, hb1⟩
      haveI hx1 := ExtC.mk hb1
      go_wp2
      exact bodyPost_ret (v := take5 (0, 0, 0, 0, 3)) (by simp [take5, results, Try.results17, go_sem]) rfl ⟨rfl, by (repeat' (first | (with_reducible exact Below.refl _ _) | (with_reducible refine Below.alloc ?_ ?_ _) | (with_reducible refine Below.setCell ?_ ?_ _) | (with_reducible refine Below.drew ?_) | (with_reducible refine below_step ?_ (by assumption) ?_) | (with_reducible exact leC) | go_size))⟩
    · have hn' : n ≤ l := by omega
      rw [takeR_ok hs hn']
      go_enter Try.func17, Try.ntmps17
      go_wp2_with fail
      refine (sound_is _ _ _ ha hl hs).mono ?_
      rintro e w1 ⟨rfl, hb1⟩
      haveI hx1 := ExtC.mk hb1
      go_wp2
      go_region
      all_goals go_wp2
      all_goals exact bodyPost_ret (v := take5 (a, n, a + n, l - n, 0)) (by simp [take5, results, Try.results17, go_sem]) rfl ⟨rfl, by (repeat' (first | (with_reducible exact Below.refl _ _) | (with_reducible refine Below.alloc ?_ ?_ _) | (with_reducible refine Below.setCell ?_ ?_ _) | (with_reducible refine Below.drew ?_) | (with_reducible refine below_step ?_ (by assumption) ?_) | (with_reducible exact leC) | go_size))⟩

/-- What From gives. -/
def fromR (a l n : Int) : Int × Int × Int := if soundB a l then (if n < a ∨ a + l < n then (0, 0, 3) else (n, a + l - n, 0)) else (0, 0, 2)
def from3 (r : Int × Int × Int) : Value := .tuple #[.agg #[.int .i64 r.1, .int .i64 r.2.1], .int .i64 r.2.2]

set_option maxHeartbeats 800000 in
theorem from_any (a l n : Int) (w : World) (ha : I64 a) (hl : I64 l) (hn : I64 n) :
    Calls Try.prog 16 #[.agg #[.int .i64 a, .int .i64 l], .int .i64 n] w fun e w' => e = .returned (from3 (fromR a l n)) ∧ Below w.heap.size w w' := by
  obtain ⟨hn1, hn2⟩ := hn
  cases hs : soundB a l
  · rw [show fromR a l n = (0, 0, 2) by simp [fromR, hs]]
    go_enter Try.func16, Try.ntmps16
    go_wp2_with fail
    refine (sound_is _ _ _ ha hl hs).mono ?_
    rintro e w1 ⟨rfl, hb1⟩
    haveI hx1 := ExtC.mk hb1
    go_wp2
    exact bodyPost_ret (v := from3 (0, 0, 2)) (by simp (maxDischargeDepth := 6) [results, Try.results16, go_sem, from3]) rfl ⟨rfl, by (repeat' (first | (with_reducible exact Below.refl _ _) | (with_reducible refine Below.alloc ?_ ?_ _) | (with_reducible refine Below.setCell ?_ ?_ _) | (with_reducible refine Below.drew ?_) | (with_reducible refine below_step ?_ (by assumption) ?_) | (with_reducible exact leC) | go_size))⟩
  · obtain ⟨h1, h2, h3⟩ := (soundB_iff a l).1 hs
    have he := endI_yes hs
    have hE := end_any a l
    rw [he] at hE
    clear he
    have H := Lib.hid hE
    clear hE
    by_cases hna : n < a
    · rw [show fromR a l n = (0, 0, 3) by simp [fromR, hs, hna]]
      go_enter Try.func16, Try.ntmps16
      go_wp2_with fail
      refine (sound_is _ _ _ ha hl hs).mono ?_
      rintro e w1 ⟨rfl, hb1⟩
      haveI hx1 := ExtC.mk hb1
      go_wp2
      exact bodyPost_ret (v := from3 (0, 0, 3)) (by simp (maxDischargeDepth := 6) [results, Try.results16, go_sem, from3]) rfl ⟨rfl, by (repeat' (first | (with_reducible exact Below.refl _ _) | (with_reducible refine Below.alloc ?_ ?_ _) | (with_reducible refine Below.setCell ?_ ?_ _) | (with_reducible refine Below.drew ?_) | (with_reducible refine below_step ?_ (by assumption) ?_) | (with_reducible exact leC) | go_size))⟩
    · by_cases hnb : a + l < n
      · rw [show fromR a l n = (0, 0, 3) by simp [fromR, hs, hnb]]
        go_enter Try.func16, Try.ntmps16
        go_wp2_with fail
        refine (sound_is _ _ _ ha hl hs).mono ?_
        rintro e w1 ⟨rfl, hb1⟩
        haveI hx1 := ExtC.mk hb1
        go_wp2_with fail
        refine (H.out _ ha hl).mono ?_
        rintro e w2 ⟨rfl, hb2⟩
        replace hb2 := hb1.trans (hb2.mono hb1.size)
        haveI hx2 := ExtC.mk hb2
        go_wp2
        exact bodyPost_ret (v := from3 (0, 0, 3)) (by simp (maxDischargeDepth := 6) [results, Try.results16, go_sem, from3]) rfl ⟨rfl, by (repeat' (first | (with_reducible exact Below.refl _ _) | (with_reducible refine Below.alloc ?_ ?_ _) | (with_reducible refine Below.setCell ?_ ?_ _) | (with_reducible refine Below.drew ?_) | (with_reducible refine below_step ?_ (by assumption) ?_) | (with_reducible exact leC) | go_size))⟩
      · rw [show fromR a l n = (n, a + l - n, 0) by simp [fromR, hs, hna, hnb]]
        go_enter Try.func16, Try.ntmps16
        go_wp2_with fail
        refine (sound_is _ _ _ ha hl hs).mono ?_
        rintro e w1 ⟨rfl, hb1⟩
        haveI hx1 := ExtC.mk hb1
        go_wp2_with fail
        refine (H.out _ ha hl).mono ?_
        rintro e w2 ⟨rfl, hb2⟩
        replace hb2 := hb1.trans (hb2.mono hb1.size)
        haveI hx2 := ExtC.mk hb2
        go_wp2_with fail
        refine (H.out _ ha hl).mono ?_
        rintro e w3 ⟨rfl, hb3⟩
        replace hb3 := hb2.trans (hb3.mono hb2.size)
        haveI hx3 := ExtC.mk hb3
        go_wp2
        exact bodyPost_ret (v := from3 (n, a + l - n, 0)) (by simp (maxDischargeDepth := 6) [results, Try.results16, go_sem, from3]) rfl ⟨rfl, by (repeat' (first | (with_reducible exact Below.refl _ _) | (with_reducible refine Below.alloc ?_ ?_ _) | (with_reducible refine Below.setCell ?_ ?_ _) | (with_reducible refine Below.drew ?_) | (with_reducible refine below_step ?_ (by assumption) ?_) | (with_reducible exact leC) | go_size))⟩

end Go.Proofs.Ytbgcdoikcjjaeaa
