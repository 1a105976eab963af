/- Contracts of the functions of package span that later chapters call, and of the reference's. Conditions: the numbers are int's. -/
import Derived.Test.YtaponjjdfcmbeaaDoorRows1
namespace Go.Proofs.YtaponjjdfcmbeaaDoor
open Go.RowKit
attribute [local go_sem] cellI frozenI cellOf_is frozenOf_is cellA frozenA setCellA
namespace Sp

/-- The range of int. -/
def I64 (x : Int) : Prop := -9223372036854775808 ≤ x ∧ x ≤ 9223372036854775807

def goodB (a l n : Int) : Bool := decide (0 ≤ a) && decide (0 ≤ l) && decide (a ≤ n) && decide (l ≤ n - a)
theorem goodB_iff (a l n : Int) : goodB a l n = true ↔ 0 ≤ a ∧ 0 ≤ l ∧ a ≤ n ∧ l ≤ n - a := by simp [goodB, and_assoc]
def soundB (a l : Int) : Bool := goodB a l 4611686018427387904
theorem soundB_iff (a l : Int) : soundB a l = true ↔ 0 ≤ a ∧ 0 ≤ l ∧ a + l ≤ 4611686018427387904 := by unfold soundB; rw [goodB_iff]; omega
def endI (a l : Int) : Int := if soundB a l then a + l else 0
theorem endI_yes {a l : Int} (h : soundB a l = true) : endI a l = a + l := by simp [endI, h]
theorem endI_no {a l : Int} (h : soundB a l = false) : endI a l = 0 := by simp [endI, h]
theorem endI_bd (a l : Int) : 0 ≤ endI a l ∧ endI a l ≤ 4611686018427387904 := by
  unfold endI
  split
  · rename_i h; rw [soundB_iff] at h; omega
  · omega

set_option maxHeartbeats 400000 in
theorem good_any (a l n : Int) (w : World) (ha : I64 a) (hl : I64 l) (hn : I64 n) :
    Calls Tryd.prog 39 #[.agg #[.int .i64 a, .int .i64 l], .int .i64 n] w fun e w' => e = .returned (.bool (goodB a l n)) ∧ Below w.heap.size w w' := by
  obtain ⟨ha1, ha2⟩ := ha
  obtain ⟨hl1, hl2⟩ := hl
  obtain ⟨hn1, hn2⟩ := hn
  go_enter Tryd.func39, Tryd.ntmps39
  go_wp2
  all_goals go_ret
  all_goals
    refine ⟨ret_bool ?_, (Below.refl _ _).alloc (Nat.le_refl _) _⟩
    simp [goodB]
    try omega

theorem sound_any (a l : Int) (w : World) (ha : I64 a) (hl : I64 l) :
    Calls Tryd.prog 55 #[.agg #[.int .i64 a, .int .i64 l]] w fun e w' => e = .returned (.bool (soundB a l)) ∧ Below w.heap.size w w' := by
  go_enter Tryd.func55, Tryd.ntmps55
  go_wp2_with (go_at_call 39; refine (good_any _ _ _ _ ha hl ⟨by omega, by omega⟩).mono ?_; rintro e w' ⟨rfl, hb⟩)
  go_ret
  refine ⟨rfl, ((Below.refl _ _).alloc (Nat.le_refl _) _).trans (hb.mono (by simp))⟩

theorem end_any (a l : Int) (w : World) (ha : I64 a) (hl : I64 l) :
    Calls Tryd.prog 45 #[.agg #[.int .i64 a, .int .i64 l]] w fun e w' => e = .returned (.int .i64 (endI a l)) ∧ Below w.heap.size w w' := by
  go_enter Tryd.func45, Tryd.ntmps45
  go_wp2_with fail
  refine (sound_any _ _ _ ha hl).mono ?_
  rintro e w1 ⟨rfl, hb1⟩
  haveI hx1 := ExtC.mk hb1
  cases hs : soundB a l
  · have he := endI_no hs
    go_wp2
    go_ret
    exact ⟨ret_int (by rw [endI_no hs]), by (repeat' (first | (with_reducible exact Below.refl _ _) | (with_reducible refine Below.alloc ?_ ?_ _) | (with_reducible refine Below.setCell ?_ ?_ _) | (with_reducible refine Below.drew ?_) | (with_reducible refine below_step ?_ (by assumption) ?_) | (with_reducible exact leC) | go_size))⟩
  · have hs' := (soundB_iff a l).1 hs
    obtain ⟨h1, h2, h3⟩ := hs'
    go_wp2
    go_ret
    exact ⟨ret_int (by rw [endI_yes hs]), by (repeat' (first | (with_reducible exact Below.refl _ _) | (with_reducible refine Below.alloc ?_ ?_ _) | (with_reducible refine Below.setCell ?_ ?_ _) | (with_reducible refine Below.drew ?_) | (with_reducible refine below_step ?_ (by assumption) ?_) | (with_reducible exact leC) | go_size))⟩

theorem sound_is {v : Bool} (a l : Int) (w : World) (ha : I64 a) (hl : I64 l) (h : soundB a l = v) :
    Calls Tryd.prog 55 #[.agg #[.int .i64 a, .int .i64 l]] w fun e w' => e = .returned (.bool v) ∧ Below w.heap.size w w' := by
  subst h; exact sound_any a l w ha hl


theorem endIs {v : Int} (a l : Int) (w : World) (ha : I64 a) (hl : I64 l) (h : endI a l = v) :
    Calls Tryd.prog 45 #[.agg #[.int .i64 a, .int .i64 l]] w fun e w' => e = .returned (.int .i64 v) ∧ Below w.heap.size w w' := by
  subst h; exact end_any a l w ha hl
theorem good_is {v : Bool} (a l n : Int) (w : World) (ha : I64 a) (hl : I64 l) (hn : I64 n) (h : goodB a l n = v) :
    Calls Tryd.prog 39 #[.agg #[.int .i64 a, .int .i64 l], .int .i64 n] w fun e w' => e = .returned (.bool v) ∧ Below w.heap.size w w' := by
  subst h; exact good_any a l n w ha hl hn


theorem rgood_any (a l n : Int) (w : World) (ha : I64 a) (hl : I64 l) (hn : I64 n) :
    Calls Tryd.prog 41 #[.int .i64 a, .int .i64 l, .int .i64 n] w fun e w' => e = .returned (.bool (goodB a l n)) ∧ Below w.heap.size w w' := by
  obtain ⟨ha1, ha2⟩ := ha
  obtain ⟨hl1, hl2⟩ := hl
  obtain ⟨hn1, hn2⟩ := hn
  go_enter Tryd.func41, Tryd.ntmps41
  go_wp2
  all_goals go_ret
  all_goals
    refine ⟨ret_bool ?_, Below.refl _ _⟩
    rw [Bool.eq_iff_iff]
    simp [goodB]
    try omega
theorem rgood_is {v : Bool} (a l n : Int) (w : World) (ha : I64 a) (hl : I64 l) (hn : I64 n) (h : goodB a l n = v) :
    Calls Tryd.prog 41 #[.int .i64 a, .int .i64 l, .int .i64 n] w fun e w' => e = .returned (.bool v) ∧ Below w.heap.size w w' := by
  subst h; exact rgood_any a l n w ha hl hn
def textV (a l : Int) (s : ByteArray) : ByteArray := if goodB a l s.size then s.extract a.toNat (a + l).toNat else ByteArray.empty

theorem text_any (a l : Int) (s : ByteArray) (w : World) (ha : I64 a) (hl : I64 l) (hs : s.size ≤ 4611686018427387904) :
    Calls Tryd.prog 29 #[.agg #[.int .i64 a, .int .i64 l], .string s] w fun e w' => e = .returned (.string (textV a l s)) ∧ Below w.heap.size w w' := by
  cases hg : goodB a l s.size
  · have hv : textV a l s = ByteArray.empty := by simp [textV, hg]
    rw [hv]; clear hv
    go_enter Tryd.func29, Tryd.ntmps29
    go_wp2_with fail
    refine (good_is _ _ _ _ ha hl ⟨by omega, by omega⟩ hg).mono ?_
    rintro e w1 ⟨rfl, hb1⟩
    haveI hx1 := ExtC.mk hb1
    go_wp2
    go_ret
    exact ⟨rfl, by (repeat' (first | (with_reducible exact Below.refl _ _) | (with_reducible refine Below.alloc ?_ ?_ _) | (with_reducible refine Below.setCell ?_ ?_ _) | (with_reducible refine Below.drew ?_) | (with_reducible refine below_step ?_ (by assumption) ?_) | (with_reducible exact leC) | go_size))⟩
  · have hv : textV a l s = s.extract a.toNat (a + l).toNat := by simp [textV, hg]
    rw [hv]; clear hv
    obtain ⟨h1, h2, h3, h4⟩ := (goodB_iff _ _ _).1 hg
    obtain ⟨na, rfl⟩ : ∃ na : Nat, a = na := ⟨a.toNat, by omega⟩
    obtain ⟨nl, rfl⟩ : ∃ nl : Nat, l = nl := ⟨l.toNat, by omega⟩
    have hE := Lib.hid (endI_yes ((soundB_iff na nl).2 ⟨by omega, by omega, by omega⟩))
    go_enter Tryd.func29, Tryd.ntmps29
    go_wp2_with fail
    refine (good_is _ _ _ _ ha hl ⟨by omega, by omega⟩ hg).mono ?_
    rintro e w1 ⟨rfl, hb1⟩
    haveI hx1 := ExtC.mk hb1
    go_wp2
    refine steady_from hb1 (by kernel_rfl) (by kernel_rfl) ?_
    repeat (first | go_big_quiet_skip | (go_big_quiet_want; go_big_quiet_op; first | go_big_quiet_on | (apply Exists.intro; refine ⟨fun _ => ?_, ?_⟩; (focus (((go_at_call 45; with_reducible exact Calls.steady (endIs _ _ _ ha hl hE.out))))); go_big_quiet_on)))
    refine wpQuiet_nil ?_
    rintro w2 ⟨⟨_, hb2⟩, rfl⟩
    haveI hx2 := ExtC.mk hb2
    try dsimp only
    go_wp2
    go_ret
    exact ⟨by rw [show ((na : Int) + (nl : Int)).toNat = na + nl by omega]; simp, by (repeat' (first | (with_reducible exact Below.refl _ _) | (with_reducible refine Below.alloc ?_ ?_ _) | (with_reducible refine Below.setCell ?_ ?_ _) | (with_reducible refine Below.drew ?_) | (with_reducible refine below_step ?_ (by assumption) ?_) | (with_reducible exact leC) | go_size))⟩

end Sp
end Go.Proofs.YtaponjjdfcmbeaaDoor
