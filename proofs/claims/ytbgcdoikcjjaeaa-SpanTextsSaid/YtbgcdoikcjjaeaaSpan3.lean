/- Contracts of the reference of package span, over the same plain functions. Conditions: the numbers are int's. -/
import Derived.Test.YtbgcdoikcjjaeaaSpan2
namespace Go.Proofs.Ytbgcdoikcjjaeaa
open Go.RowKit
attribute [local go_sem] cellI frozenI cellOf_is frozenOf_is cellA frozenA setCellA

theorem rgood_any (a l n : Int) (w : World) (ha : I64 a) (hl : I64 l) (hn : I64 n) :
    Calls Try.prog 9 #[.int .i64 a, .int .i64 l, .int .i64 n] w fun e w' => e = .returned (.bool (goodB a l n)) ∧ Below w.heap.size w w' := by
  obtain ⟨ha1, ha2⟩ := ha
  obtain ⟨hl1, hl2⟩ := hl
  obtain ⟨hn1, hn2⟩ := hn
  go_enter Try.func9, Try.ntmps9
  go_wp2
  all_goals go_ret
  all_goals
    refine ⟨ret_bool ?_, Below.refl _ _⟩
    rw [Bool.eq_iff_iff]
    simp [goodB]
    try omega
theorem rgood_is {v : Bool} (a l n : Int) (w : World) (ha : I64 a) (hl : I64 l) (hn : I64 n) (h : goodB a l n = v) :
    Calls Try.prog 9 #[.int .i64 a, .int .i64 l, .int .i64 n] w fun e w' => e = .returned (.bool v) ∧ Below w.heap.size w w' := by
  subst h; exact rgood_any a l n w ha hl hn
theorem rsound_is {v : Bool} (a l : Int) (w : World) (ha : I64 a) (hl : I64 l) (h : soundB a l = v) :
    Calls Try.prog 9 #[.int .i64 a, .int .i64 l, .int .i64 4611686018427387904] w fun e w' => e = .returned (.bool v) ∧ Below w.heap.size w w' := by
  subst h; exact rgood_any a l _ w ha hl ⟨by omega, by omega⟩

theorem rend_any (a l : Int) (w : World) (ha : I64 a) (hl : I64 l) :
    Calls Try.prog 11 #[.int .i64 a, .int .i64 l] w fun e w' => e = .returned (.int .i64 (endI a l)) ∧ Below w.heap.size w w' := by
  cases hs : soundB a l
  · have he := Lib.hid (endI_no hs)
    go_enter Try.func11, Try.ntmps11
    go_wp2_with fail
    refine (rsound_is _ _ _ ha hl hs).mono ?_
    rintro e w1 ⟨rfl, hb1⟩
    haveI hx1 := ExtC.mk hb1
    go_wp2
    go_ret
    exact ⟨ret_int he.out.symm, by (repeat' (first | (with_reducible exact Below.refl _ _) | (with_reducible refine Below.alloc ?_ ?_ _) | (with_reducible refine Below.setCell ?_ ?_ _) | (with_reducible refine Below.drew ?_) | (with_reducible refine below_step ?_ (by assumption) ?_) | (with_reducible exact leC) | go_size))⟩
  · obtain ⟨h1, h2, h3⟩ := (soundB_iff a l).1 hs
    have he := Lib.hid (endI_yes hs)
    go_enter Try.func11, Try.ntmps11
    go_wp2_with fail
    refine (rsound_is _ _ _ ha hl hs).mono ?_
    rintro e w1 ⟨rfl, hb1⟩
    haveI hx1 := ExtC.mk hb1
    go_wp2
    go_ret
    exact ⟨ret_int he.out.symm, by (repeat' (first | (with_reducible exact Below.refl _ _) | (with_reducible refine Below.alloc ?_ ?_ _) | (with_reducible refine Below.setCell ?_ ?_ _) | (with_reducible refine Below.drew ?_) | (with_reducible refine below_step ?_ (by assumption) ?_) | (with_reducible exact leC) | go_size))⟩

set_option maxHeartbeats 800000 in
theorem rtake_any (a l n : Int) (w : World) (ha : I64 a) (hl : I64 l) (hn0 : 0 ≤ n) (hn1 : n ≤ 18446744073709551615) :
    Calls Try.prog 18 #[.int .i64 a, .int .i64 l, .int .u64 n] w fun e w' => e = .returned (take5' (takeR a l n)) ∧ Below w.heap.size w w' := by
  cases hs : soundB a l
  · rw [takeR_no hs]
    go_enter Try.func18, Try.ntmps18
    go_wp2_with fail
    refine (rsound_is _ _ _ ha hl hs).mono ?_
    rintro e w1 ⟨rfl, hb1⟩
    haveI hx1 := ExtC.mk hb1
    go_wp2
    exact bodyPost_ret (v := take5' (0, 0, 0, 0, 2)) (by simp (maxDischargeDepth := 6) [results, Try.results18, go_sem, take5']) rfl ⟨rfl, by (repeat' (first | (with_reducible exact Below.refl _ _) | (with_reducible refine Below.alloc ?_ ?_ _) | (with_reducible refine Below.setCell ?_ ?_ _) | (with_reducible refine Below.drew ?_) | (with_reducible refine below_step ?_ (by assumption) ?_) | (with_reducible exact leC) | go_size))⟩
  · obtain ⟨h1, h2, h3⟩ := (soundB_iff a l).1 hs
    by_cases hn : l < n
    · rw [takeR_far hs hn]
      go_enter Try.func18, Try.ntmps18
      go_wp2_with fail
      refine (rsound_is _ _ _ ha hl hs).mono ?_
      rintro e w1 ⟨rfl, hb1⟩
      haveI hx1 := ExtC.mk hb1
      go_wp2
      exact bodyPost_ret (v := take5' (0, 0, 0, 0, 3)) (by simp (maxDischargeDepth := 6) [results, Try.results18, go_sem, take5']) rfl ⟨rfl, by (repeat' (first | (with_reducible exact Below.refl _ _) | (with_reducible refine Below.alloc ?_ ?_ _) | (with_reducible refine Below.setCell ?_ ?_ _) | (with_reducible refine Below.drew ?_) | (with_reducible refine below_step ?_ (by assumption) ?_) | (with_reducible exact leC) | go_size))⟩
    · have hn' : n ≤ l := by omega
      rw [takeR_ok hs hn']
      go_enter Try.func18, Try.ntmps18
      go_wp2_with fail
      refine (rsound_is _ _ _ ha hl hs).mono ?_
      rintro e w1 ⟨rfl, hb1⟩
      haveI hx1 := ExtC.mk hb1
      go_wp2
      exact bodyPost_ret (v := take5' (a, n, a + n, l - n, 0)) (by simp (maxDischargeDepth := 6) [results, Try.results18, go_sem, take5']) rfl ⟨rfl, by (repeat' (first | (with_reducible exact Below.refl _ _) | (with_reducible refine Below.alloc ?_ ?_ _) | (with_reducible refine Below.setCell ?_ ?_ _) | (with_reducible refine Below.drew ?_) | (with_reducible refine below_step ?_ (by assumption) ?_) | (with_reducible exact leC) | go_size))⟩

set_option maxHeartbeats 800000 in
theorem rfrom_any (a l n : Int) (w : World) (ha : I64 a) (hl : I64 l) (hn : I64 n) :
    Calls Try.prog 19 #[.int .i64 a, .int .i64 l, .int .i64 n] w fun e w' => e = .returned (from3 (fromR a l n)) ∧ Below w.heap.size w w' := by
  obtain ⟨hn1, hn2⟩ := hn
  cases hs : soundB a l
  · rw [show fromR a l n = (0, 0, 2) by simp [fromR, hs]]
    go_enter Try.func19, Try.ntmps19
    go_wp2_with fail
    refine (rsound_is _ _ _ ha hl hs).mono ?_
    rintro e w1 ⟨rfl, hb1⟩
    haveI hx1 := ExtC.mk hb1
    go_wp2
    exact bodyPost_ret (v := from3 (0, 0, 2)) (by simp (maxDischargeDepth := 6) [results, Try.results19, go_sem, from3]) rfl ⟨rfl, by (repeat' (first | (with_reducible exact Below.refl _ _) | (with_reducible refine Below.alloc ?_ ?_ _) | (with_reducible refine Below.setCell ?_ ?_ _) | (with_reducible refine Below.drew ?_) | (with_reducible refine below_step ?_ (by assumption) ?_) | (with_reducible exact leC) | go_size))⟩
  · obtain ⟨h1, h2, h3⟩ := (soundB_iff a l).1 hs
    by_cases hna : n < a
    · rw [show fromR a l n = (0, 0, 3) by simp [fromR, hs, hna]]
      go_enter Try.func19, Try.ntmps19
      go_wp2_with fail
      refine (rsound_is _ _ _ ha hl hs).mono ?_
      rintro e w1 ⟨rfl, hb1⟩
      haveI hx1 := ExtC.mk hb1
      go_wp2
      exact bodyPost_ret (v := from3 (0, 0, 3)) (by simp (maxDischargeDepth := 6) [results, Try.results19, go_sem, from3]) rfl ⟨rfl, by (repeat' (first | (with_reducible exact Below.refl _ _) | (with_reducible refine Below.alloc ?_ ?_ _) | (with_reducible refine Below.setCell ?_ ?_ _) | (with_reducible refine Below.drew ?_) | (with_reducible refine below_step ?_ (by assumption) ?_) | (with_reducible exact leC) | go_size))⟩
    · by_cases hnb : a + l < n
      · rw [show fromR a l n = (0, 0, 3) by simp [fromR, hs, hnb]]
        go_enter Try.func19, Try.ntmps19
        go_wp2_with fail
        refine (rsound_is _ _ _ ha hl hs).mono ?_
        rintro e w1 ⟨rfl, hb1⟩
        haveI hx1 := ExtC.mk hb1
        go_wp2
        exact bodyPost_ret (v := from3 (0, 0, 3)) (by simp (maxDischargeDepth := 6) [results, Try.results19, go_sem, from3]) rfl ⟨rfl, by (repeat' (first | (with_reducible exact Below.refl _ _) | (with_reducible refine Below.alloc ?_ ?_ _) | (with_reducible refine Below.setCell ?_ ?_ _) | (with_reducible refine Below.drew ?_) | (with_reducible refine below_step ?_ (by assumption) ?_) | (with_reducible exact leC) | go_size))⟩
      · rw [show fromR a l n = (n, a + l - n, 0) by simp [fromR, hs, hna, hnb]]
        go_enter Try.func19, Try.ntmps19
        go_wp2_with fail
        refine (rsound_is _ _ _ ha hl hs).mono ?_
        rintro e w1 ⟨rfl, hb1⟩
        haveI hx1 := ExtC.mk hb1
        go_wp2
        exact bodyPost_ret (v := from3 (n, a + l - n, 0)) (by simp (maxDischargeDepth := 6) [results, Try.results19, go_sem, from3]) rfl ⟨rfl, by (repeat' (first | (with_reducible exact Below.refl _ _) | (with_reducible refine Below.alloc ?_ ?_ _) | (with_reducible refine Below.setCell ?_ ?_ _) | (with_reducible refine Below.drew ?_) | (with_reducible refine below_step ?_ (by assumption) ?_) | (with_reducible exact leC) | go_size))⟩

set_option maxHeartbeats 800000 in
theorem rhas_any (a l b m : Int) (w : World) (ha : I64 a) (hl : I64 l) (hb : I64 b) (hm : I64 m) :
    Calls Try.prog 23 #[.int .i64 a, .int .i64 l, .int .i64 b, .int .i64 m] w fun e w' => e = .returned (.bool (hasB a l b m)) ∧ Below w.heap.size w w' := by
  cases hs : soundB a l <;> cases ht : soundB b m
  case true.true =>
    obtain ⟨h1, h2, h3⟩ := (soundB_iff a l).1 hs
    obtain ⟨h4, h5, h6⟩ := (soundB_iff b m).1 ht
    go_enter Try.func23, Try.ntmps23
    go_wp2_with fail
    refine (rsound_is _ _ _ ha hl hs).mono ?_
    rintro e w1 ⟨rfl, hb1⟩
    haveI hx1 := ExtC.mk hb1
    go_wp2_with fail
    refine (rsound_is _ _ _ hb hm ht).mono ?_
    rintro e w2 ⟨rfl, hb2⟩
    replace hb2 := hb1.trans (hb2.mono hb1.size)
    haveI hx2 := ExtC.mk hb2
    go_wp2
    all_goals go_ret
    all_goals exact ⟨ret_bool (by rw [Bool.eq_iff_iff]; simp [hasB, hs, ht]; try omega), by (repeat' (first | (with_reducible exact Below.refl _ _) | (with_reducible refine Below.alloc ?_ ?_ _) | (with_reducible refine Below.setCell ?_ ?_ _) | (with_reducible refine Below.drew ?_) | (with_reducible refine below_step ?_ (by assumption) ?_) | (with_reducible exact leC) | go_size))⟩
  all_goals
    go_enter Try.func23, Try.ntmps23
    go_wp2_with fail
    refine (rsound_is _ _ _ ha hl hs).mono ?_
    rintro e w1 ⟨rfl, hb1⟩
    haveI hx1 := ExtC.mk hb1
    go_wp2_with fail
    refine (rsound_is _ _ _ hb hm ht).mono ?_
    rintro e w2 ⟨rfl, hb2⟩
    replace hb2 := hb1.trans (hb2.mono hb1.size)
    haveI hx2 := ExtC.mk hb2
    go_wp2
    go_ret
    exact ⟨ret_bool (by simp [hasB, *]), by (repeat' (first | (with_reducible exact Below.refl _ _) | (with_reducible refine Below.alloc ?_ ?_ _) | (with_reducible refine Below.setCell ?_ ?_ _) | (with_reducible refine Below.drew ?_) | (with_reducible refine below_step ?_ (by assumption) ?_) | (with_reducible exact leC) | go_size))⟩

set_option maxHeartbeats 800000 in
theorem rbetween_any (a l b m : Int) (w : World) (ha : I64 a) (hl : I64 l) (hb : I64 b) (hm : I64 m) :
    Calls Try.prog 21 #[.agg #[.int .i64 a, .int .i64 l, .int .i64 b, .int .i64 m]] w fun e w' => e = .returned (from3 (betR a l b m)) ∧ Below w.heap.size w w' := by
  cases hs : soundB a l <;> cases ht : soundB b m
  case true.true =>
    obtain ⟨h1, h2, h3⟩ := (soundB_iff a l).1 hs
    obtain ⟨h4, h5, h6⟩ := (soundB_iff b m).1 ht
    by_cases hlt : b + m < a
    · rw [show betR a l b m = (0, 0, 3) by simp [betR, hs, ht, hlt]]
      go_enter Try.func21, Try.ntmps21
      go_wp2_with fail
      refine (rsound_is _ _ _ ha hl hs).mono ?_
      rintro e w1 ⟨rfl, hb1⟩
      haveI hx1 := ExtC.mk hb1
      go_wp2_with fail
      refine (rsound_is _ _ _ hb hm ht).mono ?_
      rintro e w2 ⟨rfl, hb2⟩
      replace hb2 := hb1.trans (hb2.mono hb1.size)
      haveI hx2 := ExtC.mk hb2
      go_wp2
      exact bodyPost_ret (v := from3 (0, 0, 3)) (by simp (maxDischargeDepth := 6) [results, Try.results21, go_sem, from3]) rfl ⟨rfl, by (repeat' (first | (with_reducible exact Below.refl _ _) | (with_reducible refine Below.alloc ?_ ?_ _) | (with_reducible refine Below.setCell ?_ ?_ _) | (with_reducible refine Below.drew ?_) | (with_reducible refine below_step ?_ (by assumption) ?_) | (with_reducible exact leC) | go_size))⟩
    · rw [show betR a l b m = (a, b + m - a, 0) by simp [betR, hs, ht, hlt]]
      go_enter Try.func21, Try.ntmps21
      go_wp2_with fail
      refine (rsound_is _ _ _ ha hl hs).mono ?_
      rintro e w1 ⟨rfl, hb1⟩
      haveI hx1 := ExtC.mk hb1
      go_wp2_with fail
      refine (rsound_is _ _ _ hb hm ht).mono ?_
      rintro e w2 ⟨rfl, hb2⟩
      replace hb2 := hb1.trans (hb2.mono hb1.size)
      haveI hx2 := ExtC.mk hb2
      go_wp2
      exact bodyPost_ret (v := from3 (a, b + m - a, 0)) (by simp (maxDischargeDepth := 6) [results, Try.results21, go_sem, from3]) rfl ⟨rfl, by (repeat' (first | (with_reducible exact Below.refl _ _) | (with_reducible refine Below.alloc ?_ ?_ _) | (with_reducible refine Below.setCell ?_ ?_ _) | (with_reducible refine Below.drew ?_) | (with_reducible refine below_step ?_ (by assumption) ?_) | (with_reducible exact leC) | go_size))⟩
  all_goals
    rw [show betR a l b m = (0, 0, 2) by simp [betR, hs, ht]]
    go_enter Try.func21, Try.ntmps21
    go_wp2_with fail
    refine (rsound_is _ _ _ ha hl hs).mono ?_
    rintro e w1 ⟨rfl, hb1⟩
    haveI hx1 := ExtC.mk hb1
    go_wp2_with fail
    refine (rsound_is _ _ _ hb hm ht).mono ?_
    rintro e w2 ⟨rfl, hb2⟩
    replace hb2 := hb1.trans (hb2.mono hb1.size)
    haveI hx2 := ExtC.mk hb2
    go_wp2
    exact bodyPost_ret (v := from3 (0, 0, 2)) (by simp (maxDischargeDepth := 6) [results, Try.results21, go_sem, from3]) rfl ⟨rfl, by (repeat' (first | (with_reducible exact Below.refl _ _) | (with_reducible refine Below.alloc ?_ ?_ _) | (with_reducible refine Below.setCell ?_ ?_ _) | (with_reducible refine Below.drew ?_) | (with_reducible refine below_step ?_ (by assumption) ?_) | (with_reducible exact leC) | go_size))⟩

/-! ### Text -/
def textV (a l : Int) (s : ByteArray) : ByteArray := if goodB a l s.size then s.extract a.toNat (a + l).toNat else ByteArray.empty

theorem text_any (a l : Int) (s : ByteArray) (w : World) (ha : I64 a) (hl : I64 l) (hs : s.size ≤ 4611686018427387904) :
    Calls Try.prog 12 #[.agg #[.int .i64 a, .int .i64 l], .string s] w fun e w' => e = .returned (.string (textV a l s)) ∧ Below w.heap.size w w' := by
  cases hg : goodB a l s.size
  · have hv : textV a l s = ByteArray.empty := by simp [textV, hg]
    rw [hv]; clear hv
    go_enter Try.func12, Try.ntmps12
    go_wp2_with fail
    refine (good_is _ _ _ _ ha hl ⟨by omega, by omega⟩ hg).mono ?_
    rintro e w1 ⟨rfl, hb1⟩
    haveI hx1 := ExtC.mk hb1
    go_wp2
    go_ret
    exact ⟨rfl, by (repeat' (first | (with_reducible exact Below.refl _ _) | (with_reducible refine Below.alloc ?_ ?_ _) | (with_reducible refine Below.setCell ?_ ?_ _) | (with_reducible refine Below.drew ?_) | (with_reducible refine below_step ?_ (by assumption) ?_) | (with_reducible exact leC) | go_size))⟩
  · have hv : textV a l s = s.extract a.toNat (a + l).toNat := by simp [textV, hg]
    rw [hv]; clear hv
    obtain ⟨h1, h2, h3, h4⟩ := (goodB_iff _ _ _).1 hg
    obtain ⟨na, rfl⟩ : ∃ na : Nat, a = na := ⟨a.toNat, by omega⟩
    obtain ⟨nl, rfl⟩ : ∃ nl : Nat, l = nl := ⟨l.toNat, by omega⟩
    have hE := Lib.hid (endI_yes ((soundB_iff na nl).2 ⟨by omega, by omega, by omega⟩))
    go_enter Try.func12, Try.ntmps12
    go_wp2_with fail
    refine (good_is _ _ _ _ ha hl ⟨by omega, by omega⟩ hg).mono ?_
    rintro e w1 ⟨rfl, hb1⟩
    haveI hx1 := ExtC.mk hb1
    go_wp2
    refine steady_from hb1 (by kernel_rfl) (by kernel_rfl) ?_
    repeat (first | go_big_quiet_skip | (go_big_quiet_want; go_big_quiet_op; first | go_big_quiet_on | (apply Exists.intro; refine ⟨fun _ => ?_, ?_⟩; (focus (((go_at_call 10; with_reducible exact Calls.steady (endIs _ _ _ ha hl hE.out))))); go_big_quiet_on)))
    refine wpQuiet_nil ?_
    rintro w2 ⟨⟨_, hb2⟩, rfl⟩
    haveI hx2 := ExtC.mk hb2
    try dsimp only
    go_wp2
    go_ret
    exact ⟨by rw [show ((na : Int) + (nl : Int)).toNat = na + nl by omega]; simp, by (repeat' (first | (with_reducible exact Below.refl _ _) | (with_reducible refine Below.alloc ?_ ?_ _) | (with_reducible refine Below.setCell ?_ ?_ _) | (with_reducible refine Below.drew ?_) | (with_reducible refine below_step ?_ (by assumption) ?_) | (with_reducible exact leC) | go_size))⟩

theorem sub_snoc (s : ByteArray) (a k : Nat) (h : a + k < s.size) : (s.data.toList.drop a).take (k + 1) = (s.data.toList.drop a).take k ++ [s[a + k]] := by
  rw [List.take_add_one, List.getElem?_drop, List.getElem?_eq_getElem (by simpa using h)]
  rfl
theorem extract_list (s : ByteArray) (a l : Nat) : (⟨((s.data.toList.drop a).take l).toArray⟩ : ByteArray) = s.extract a (a + l) := by
  apply ByteArray.ext
  simp only [ByteArray.data_extract]
  apply Array.ext'
  simp [Array.toList_extract]

theorem info_u8 : (Try.prog.info? 5).map (fun i => (i.zero, i.size, i.bytes)) = some (some (.int .u8 0), 1, 1) := by kernel_rfl

set_option maxHeartbeats 800000 in
theorem rtext_any (a l : Int) (s : ByteArray) (w : World) (ha : I64 a) (hl : I64 l) (hs : s.size ≤ 140737488351232) :
    Calls Try.prog 13 #[.int .i64 a, .int .i64 l, .string s] w fun e w' => e = .returned (.string (textV a l s)) ∧ Below w.heap.size w w' := by
  obtain ⟨i0, hi, hz0, hz1, hz2⟩ := info_parts info_u8
  cases hg : goodB a l s.size
  · have hv : textV a l s = ByteArray.empty := by simp [textV, hg]
    rw [hv]; clear hv
    go_enter Try.func13, Try.ntmps13
    go_wp2_with fail
    refine (rgood_is _ _ _ _ ha hl ⟨by omega, by omega⟩ hg).mono ?_
    rintro e w1 ⟨rfl, hb1⟩
    haveI hx1 := ExtC.mk hb1
    go_wp2
    go_ret
    exact ⟨rfl, by (repeat' (first | (with_reducible exact Below.refl _ _) | (with_reducible refine Below.alloc ?_ ?_ _) | (with_reducible refine Below.setCell ?_ ?_ _) | (with_reducible refine Below.drew ?_) | (with_reducible refine below_step ?_ (by assumption) ?_) | (with_reducible exact leC) | go_size))⟩
  · have hv : textV a l s = s.extract a.toNat (a + l).toNat := by simp [textV, hg]
    rw [hv]; clear hv
    obtain ⟨h1, h2, h3, h4⟩ := (goodB_iff _ _ _).1 hg
    obtain ⟨na, rfl⟩ : ∃ na : Nat, a = na := ⟨a.toNat, by omega⟩
    obtain ⟨nl, rfl⟩ : ∃ nl : Nat, l = nl := ⟨l.toNat, by omega⟩
    have hval : s.extract (na : Int).toNat ((na : Int) + (nl : Int)).toNat = ⟨((s.data.toList.drop na).take nl).toArray⟩ := by rw [extract_list]; rfl
    rw [hval]; clear hval
    go_enter Try.func13, Try.ntmps13
    go_wp2_with fail
    refine (rgood_is _ _ _ _ ha hl ⟨by omega, by omega⟩ hg).mono ?_
    rintro e w1 ⟨rfl, hb1⟩
    haveI hx1 := ExtC.mk hb1
    go_wp2
    go_loopw [8, 9] (fun b i wr => ∃ k : Nat, k ≤ nl ∧ i = .int .i64 (na + k : Nat) ∧ wr.ownsRow w.heap.size 5 1 b k (bcells ((s.data.toList.drop na).take k)) ∧ Below w.heap.size w wr) (fun _ i _ => (na + nl) - (intOf i).toNat)
    case atStart => exact ⟨0, by omega, by simp, World.ownsRow_nil _ _ _ _, hb1⟩
    case round =>
      obtain ⟨k, hk, rfl, hown, hb2⟩ := hrel
      have hs2 := hb2.size
      by_cases hlt : k < nl
      · have hsn := Lib.hid (sub_snoc s na k (by omega))
        go_wp2_with (at_builtin; refine wpList_append1 rfl _ _ 54 rfl w.heap.size 5 i0 (.int .u8 0) 1 1 Try.underlying54 hi hz0 hz1 hz2 rfl (by decide) _ k _ rfl hown [.int .u8 (s[na + k].toNat : Int)] rfl rfl (by simp [Value.oneCell']) (by unfold maxLen; omega) (by omega) hs2 ?_; intro v' w3 hown3 hg3 hb3)
        go_roundw
        case rel => exact ⟨k + 1, by omega, by go_num, by rw [hsn.out]; simpa [bcells] using hown3, hb2.trans (hb3.mono (by omega))⟩
        case measure => simp [intOf]; omega
      · obtain rfl : k = nl := by omega
        have hcv := run_string_own (P := Try.prog) hown Try.underlying54 Try.underlying5 Try.underlying9
        go_wp2
        go_ret
        exact ⟨rfl, hb2⟩

end Go.Proofs.Ytbgcdoikcjjaeaa
