/- Contracts of sound and Number of package tree, and of the reference's. Conditions: the view's numbers are int's, the string takes at most 2^47 bytes. -/
import Derived.Test.YtaponjjdfcmbeaaDoorLSpan
import Derived.Test.YtaponjjdfcmbeaaDoorLEnds
import Derived.Test.YtaponjjdfcmbeaaDoorLBits
namespace Go.Proofs.YtaponjjdfcmbeaaDoor
set_option linter.unusedVariables false
set_option linter.unusedSimpArgs false
open Go.RowKit
attribute [local go_sem] cellI frozenI cellOf_is frozenOf_is cellA frozenA setCellA
attribute [-go_sem] run_min_int2

/-- A view. -/
structure GV where
  kind : Int
  at_ : Int
  len : Int
  little : Bool
  beh : Int
  wid : Int
  kids : List Int
def vcells (x : GV) (kv : Value) : List Value := [.int .i64 x.kind, .int .i64 x.at_, .int .i64 x.len, .bool x.little, .int .i64 x.beh, .int .i64 x.wid, kv]
/-- Its numbers are int's. -/
def GV.ok (x : GV) : Prop := Sp.I64 x.kind ∧ Sp.I64 x.at_ ∧ Sp.I64 x.len ∧ Sp.I64 x.beh ∧ Sp.I64 x.wid
/-- Is a view such as must be, but for its kids, for so many bytes? -/
def soundV (x : GV) (n : Int) : Bool := decide (0 ≤ x.kind ∧ x.kind ≤ 5) && Sp.goodB x.at_ x.len n && (decide (1 < x.kind) || En.goodB x.len) && (!decide (x.kind = 1) || decide (0 ≤ x.beh ∧ x.beh ≤ 63 ∧ 1 ≤ x.wid ∧ x.wid ≤ 64))
def vagg (k a l : Int) (li : Bool) (b m : Int) (kv : Value) : Value := .agg #[.int .i64 k, .int .i64 a, .int .i64 l, .bool li, .int .i64 b, .int .i64 m, kv]
theorem numeric_any (k a l : Int) (li : Bool) (b m : Int) (kv : Value) (w : World) :
    Calls Tryd.prog 27 #[.agg #[.int .i64 k, .int .i64 a, .int .i64 l, .bool li, .int .i64 b, .int .i64 m, kv]] w fun e w' => e = .returned (.bool (decide (k = 0 ∨ k = 1))) ∧ Below w.heap.size w w' := by
  go_enter Tryd.func27, Tryd.ntmps27
  go_wp2
  all_goals go_ret
  all_goals exact ⟨ret_bool (by rw [Bool.eq_iff_iff]; simp [*]), by (repeat' (first | (with_reducible exact Below.refl _ _) | (with_reducible refine Below.alloc ?_ ?_ _) | (with_reducible refine Below.setCell ?_ ?_ _) | (with_reducible refine Below.drew ?_) | (with_reducible refine below_step ?_ (by assumption) ?_) | (with_reducible exact leC) | go_size))⟩
theorem numeric_is {v : Bool} (k a l : Int) (li : Bool) (b m : Int) (kv : Value) (w : World) (h : decide (k = 0 ∨ k = 1) = v) :
    Calls Tryd.prog 27 #[.agg #[.int .i64 k, .int .i64 a, .int .i64 l, .bool li, .int .i64 b, .int .i64 m, kv]] w fun e w' => e = .returned (.bool v) ∧ Below w.heap.size w w' := by
  subst h; exact numeric_any k a l li b m kv w
/-- Is a view such as must be, but for its kids, for so many bytes? -/
def soundB (k a l b m n : Int) : Bool := if k < 0 ∨ 5 < k then false else if Sp.goodB a l n = false then false else if k ≤ 1 ∧ En.goodB l = false then false else if k = 1 then decide (0 ≤ b ∧ b ≤ 63 ∧ 1 ≤ m ∧ m ≤ 64) else true
set_option maxHeartbeats 1600000 in
theorem sound_any (k a l : Int) (li : Bool) (b m : Int) (kv : Value) (s : ByteArray) (w : World) (ha : Sp.I64 a) (hl : Sp.I64 l) (hs : s.size ≤ 281474976706560) :
    Calls Tryd.prog 22 #[.agg #[.int .i64 k, .int .i64 a, .int .i64 l, .bool li, .int .i64 b, .int .i64 m, kv], .string s] w fun e w' => e = .returned (.bool (soundB k a l b m s.size)) ∧ Below w.heap.size w w' := by
  have hn : Sp.I64 s.size := ⟨by omega, by omega⟩
  obtain ⟨V, hV⟩ : ∃ V, soundB k a l b m s.size = V := ⟨_, rfl⟩
  rw [hV]
  unfold soundB at hV
  by_cases h1 : k < 0 ∨ 5 < k
  · rw [if_pos h1] at hV
    subst hV
    go_enter Tryd.func22, Tryd.ntmps22
    go_wp2
    all_goals first | (exfalso; omega) | skip
    all_goals exact bodyPost_ret (v := (.bool false)) (by simp (maxDischargeDepth := 6) [results, Tryd.results22, go_sem]) rfl ⟨rfl, by (repeat' (first | (with_reducible exact Below.refl _ _) | (with_reducible refine Below.alloc ?_ ?_ _) | (with_reducible refine Below.setCell ?_ ?_ _) | (with_reducible refine Below.drew ?_) | (with_reducible refine below_step ?_ (by assumption) ?_) | (with_reducible exact leC) | go_size))⟩
  · rw [if_neg h1] at hV
    have d1 : decide (k < 0) = false := decide_eq_false (by omega)
    have d2 : decide (6 ≤ k) = false := decide_eq_false (by omega)
    cases hg : Sp.goodB a l s.size
    · rw [hg, if_pos rfl] at hV
      subst hV
      go_enter Tryd.func22, Tryd.ntmps22
      go_wp2_with (go_at_call 39; fail)
      refine (Sp.good_is _ _ _ _ ha hl hn hg).mono ?_
      rintro e w1 ⟨rfl, hb1⟩
      haveI hx1 := ExtC.mk hb1
      go_wp2
      exact bodyPost_ret (v := (.bool false)) (by simp (maxDischargeDepth := 6) [results, Tryd.results22, go_sem]) rfl ⟨rfl, by (repeat' (first | (with_reducible exact Below.refl _ _) | (with_reducible refine Below.alloc ?_ ?_ _) | (with_reducible refine Below.setCell ?_ ?_ _) | (with_reducible refine Below.drew ?_) | (with_reducible refine below_step ?_ (by assumption) ?_) | (with_reducible exact leC) | go_size))⟩
    · rw [hg, if_neg (by decide)] at hV
      cases hnum : decide (k = 0 ∨ k = 1)
      · have h2 : ¬ k ≤ 1 := by have := of_decide_eq_false hnum; omega
        rw [if_neg (by omega), if_neg (by omega)] at hV
        subst hV
        have d3 : (k == 1) = false := by simp; omega
        go_enter Tryd.func22, Tryd.ntmps22
        go_wp2_with (go_at_call 39; fail)
        refine (Sp.good_is _ _ _ _ ha hl hn hg).mono ?_
        rintro e w1 ⟨rfl, hb1⟩
        haveI hx1 := ExtC.mk hb1
        go_wp2_with (go_at_call 27; fail)
        refine (numeric_is _ _ _ _ _ _ _ _ hnum).mono ?_
        rintro e w2 ⟨rfl, hb2⟩
        haveI hx2 := ExtC.mk hb2
        go_wp2
        exact bodyPost_ret (v := (.bool true)) (by simp (maxDischargeDepth := 6) [results, Tryd.results22, go_sem]) rfl ⟨rfl, by (repeat' (first | (with_reducible exact Below.refl _ _) | (with_reducible refine Below.alloc ?_ ?_ _) | (with_reducible refine Below.setCell ?_ ?_ _) | (with_reducible refine Below.drew ?_) | (with_reducible refine below_step ?_ (by assumption) ?_) | (with_reducible exact leC) | go_size))⟩
      · have h2 : k ≤ 1 := by have := of_decide_eq_true hnum; omega
        cases hsz : En.goodB l
        · rw [if_pos ⟨h2, hsz⟩] at hV
          subst hV
          go_enter Tryd.func22, Tryd.ntmps22
          go_wp2_with (go_at_call 39; fail)
          refine (Sp.good_is _ _ _ _ ha hl hn hg).mono ?_
          rintro e w1 ⟨rfl, hb1⟩
          haveI hx1 := ExtC.mk hb1
          go_wp2_with (go_at_call 27; fail)
          refine (numeric_is _ _ _ _ _ _ _ _ hnum).mono ?_
          rintro e w2 ⟨rfl, hb2⟩
          haveI hx2 := ExtC.mk hb2
          go_wp2_with (go_at_call 40; fail)
          refine (En.good_any _ _).mono ?_
          rintro e w3 ⟨rfl, hb3⟩
          haveI hx3 := ExtC.mk hb3
          rw [hsz]
          go_wp2
          exact bodyPost_ret (v := (.bool false)) (by simp (maxDischargeDepth := 6) [results, Tryd.results22, go_sem]) rfl ⟨rfl, by (repeat' (first | (with_reducible exact Below.refl _ _) | (with_reducible refine Below.alloc ?_ ?_ _) | (with_reducible refine Below.setCell ?_ ?_ _) | (with_reducible refine Below.drew ?_) | (with_reducible refine below_step ?_ (by assumption) ?_) | (with_reducible exact leC) | go_size))⟩
        · rw [if_neg (by rw [hsz]; simp)] at hV
          by_cases hk1 : k = 1
          · rw [if_pos hk1] at hV
            have d3 : (k == 1) = true := by simp [hk1]
            replace hk1 := Lib.hid hk1
            go_enter Tryd.func22, Tryd.ntmps22
            go_wp2_with (go_at_call 39; fail)
            refine (Sp.good_is _ _ _ _ ha hl hn hg).mono ?_
            rintro e w1 ⟨rfl, hb1⟩
            haveI hx1 := ExtC.mk hb1
            go_wp2_with (go_at_call 27; fail)
            refine (numeric_is _ _ _ _ _ _ _ _ hnum).mono ?_
            rintro e w2 ⟨rfl, hb2⟩
            haveI hx2 := ExtC.mk hb2
            go_wp2_with (go_at_call 40; fail)
            refine (En.good_any _ _).mono ?_
            rintro e w3 ⟨rfl, hb3⟩
            haveI hx3 := ExtC.mk hb3
            rw [hsz]
            replace hV := Lib.hid hV
            go_wp2
            all_goals go_ret
            all_goals exact ⟨ret_bool (by rw [← hV.out, Bool.eq_iff_iff]; simp [*] <;> omega), by (repeat' (first | (with_reducible exact Below.refl _ _) | (with_reducible refine Below.alloc ?_ ?_ _) | (with_reducible refine Below.setCell ?_ ?_ _) | (with_reducible refine Below.drew ?_) | (with_reducible refine below_step ?_ (by assumption) ?_) | (with_reducible exact leC) | go_size))⟩
          · rw [if_neg hk1] at hV
            subst hV
            have d3 : (k == 1) = false := by simp [hk1]
            go_enter Tryd.func22, Tryd.ntmps22
            go_wp2_with (go_at_call 39; fail)
            refine (Sp.good_is _ _ _ _ ha hl hn hg).mono ?_
            rintro e w1 ⟨rfl, hb1⟩
            haveI hx1 := ExtC.mk hb1
            go_wp2_with (go_at_call 27; fail)
            refine (numeric_is _ _ _ _ _ _ _ _ hnum).mono ?_
            rintro e w2 ⟨rfl, hb2⟩
            haveI hx2 := ExtC.mk hb2
            go_wp2_with (go_at_call 40; fail)
            refine (En.good_any _ _).mono ?_
            rintro e w3 ⟨rfl, hb3⟩
            haveI hx3 := ExtC.mk hb3
            rw [hsz]
            go_wp2
            exact bodyPost_ret (v := (.bool true)) (by simp (maxDischargeDepth := 6) [results, Tryd.results22, go_sem]) rfl ⟨rfl, by (repeat' (first | (with_reducible exact Below.refl _ _) | (with_reducible refine Below.alloc ?_ ?_ _) | (with_reducible refine Below.setCell ?_ ?_ _) | (with_reducible refine Below.drew ?_) | (with_reducible refine below_step ?_ (by assumption) ?_) | (with_reducible exact leC) | go_size))⟩
end Go.Proofs.YtaponjjdfcmbeaaDoor
