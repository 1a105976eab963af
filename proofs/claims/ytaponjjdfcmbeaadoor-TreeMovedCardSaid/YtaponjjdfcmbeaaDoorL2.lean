/- TreeNumbers, TreeMoved, over data. Conditions: the views' numbers are int's; a string takes at most 2^47 bytes. -/
import Derived.Test.YtaponjjdfcmbeaaDoorL1
import Derived.Test.YtaponjjdfcmbeaaDoorG2
namespace Go.Proofs.YtaponjjdfcmbeaaDoor
set_option linter.unusedVariables false
set_option linter.unusedSimpArgs false
open Go.RowKit
set_option maxRecDepth 100000

theorem TreeNumbers_c (l : List GV) (s : ByteArray) (way : List Int) (hk : ∀ x ∈ l, x.ok) (hs : s.size ≤ 140737488351232) (hw : way.length ≤ 9223372036854775807) : CallsA Tryd.prog Γ0 5 [c1 (dviews l), c1 (ds s), c1 (dints way)] (.o (c1 (db true))) := by
  have hv := views_c l
  have hl := cut40_len l
  have ho := cut40_ok hk
  generalize cut40 l = m at *
  have h1 := find_c m way (by omega) hw
  have h2 := rfind_c m way (by omega) hw
  refine fn_rule (C := ⟨Tryd.prog, layF, Tryd.f5.ntmps, Γ0, 0, [], []⟩) layF_ok mixed Tryd.func5 rfl (by kernel_rfl) rfl rfl rfl ?_
  refine ex_call (hv) ?_
  refine ex_is (m.length) (by simp) ?_
  refine ex_loop (X := Nat) (fun q => ⟨[(1, .o (c1 (ds s))), (2, .o (c1 (dints way))), (7, .o (c1 (dviews m))), (8, .o (c1 (dviews m))), (24, Ti m.length), (25, Ti q)], [], 0⟩) (fun q => m.length - q)
    (fun q => q ≤ m.length) 0 (by omega) (SLe.of ⟨⟨rfl, rfl, rfl, rfl, rfl, rfl, trivial⟩, trivial⟩) ?_
  rintro q hq
  refine ex_dec (fun h3 => ?_) (fun h3 => ?_)
  · have hqm : q < m.length := by omega
    have hx := ho m[q] (List.getElem_mem hqm)
    have hxq : m[q]? = some m[q] := at_some hqm
    generalize m[q] = x at *
    have h4 := number_c (Γ := Γ0) x s (by omega) hx
    have h5 := rnumber_c (Γ := Γ0) x s (by omega) hx
    refine ex_row q x rfl hxq ?_
    refine ex_call (h4) ?_
    refine ex_row q x rfl hxq ?_
    refine ex_call (h5) ?_
    refine ex_false (by simp) ?_
    refine ex_false (by simp) ?_
    refine ex_i64 (((q + 1 : Nat) : Int)) (by first | rfl | omega | simp) (by omega) (by omega) ?_
    exact ex_round (q + 1) hqm (by show _ - _ < _ - _; omega) (SLe.of ⟨⟨rfl, rfl, rfl, rfl, rfl, rfl, trivial⟩, trivial⟩)
  ·
    refine ex_call (h1) ?_
    refine ex_call (h2) ?_
    refine ex_call (wakes_c) ?_
    refine ex_true rfl ?_
    refine ex_true rfl ?_
    exact TLe.rfl
theorem decE_ok {l : List GV} {s : ByteArray} (h : decE l s = 0) : goodV l s = true := by
  unfold decE at h
  split at h
  · assumption
  · cases h
theorem shift_one {l : List GV} {t i : Nat} (h : i < l.length) : ((l.take i).map (shiftG t) ++ l.drop i).set i (shiftG t l[i]) = (l.take (i + 1)).map (shiftG t) ++ l.drop (i + 1) := by
  rw [List.set_append_right _ _ (by simp; omega)]
  rw [List.drop_eq_getElem_cons h]
  have e : i - ((l.take i).map (shiftG t)).length = 0 := by simp; omega
  rw [e, List.set_cons_zero, List.take_succ_eq_append_getElem h, List.map_append]
  simp
theorem TreeMoved_c (l : List GV) (s p : ByteArray) (hk : ∀ x ∈ l, x.ok) (hs : s.size ≤ 140737488351232) (hp : p.size ≤ 140737488351232) : CallsA Tryd.prog Γ0 4 [c1 (dviews l), c1 (ds s), c1 (ds p)] (.o (c1 (db true))) := by
  have hv := views_c l
  have hl := cut40_len l
  have ho := cut40_ok hk
  have hkk := cut40_kids l
  generalize cut40 l = m at *
  have h1 := Decode_c m s (by omega) ho hkk (by omega)
  cases hg : goodV m s
  · have hE : decE m s = 4 := by rw [decE, if_neg (by simp [hg])]
    rw [hE] at h1
    refine fn_rule (C := ⟨Tryd.prog, layF, Tryd.f4.ntmps, Γ0, 0, [], []⟩) layF_ok mixed Tryd.func4 rfl (by kernel_rfl) rfl rfl rfl ?_
    refine ex_call (hv) ?_
    refine ex_call (h1) ?_
    refine ex_call (wakes_c) ?_
    refine ex_true (by decide) ?_
    refine ex_call (wakes_c) ?_
    exact TLe.rfl
  · have hE : decE m s = 0 := by rw [decE, if_pos hg]
    rw [hE] at h1
    have hN := goodV_Nice hg hkk
    have hsz : (p ++ s).size = p.size + s.size := ByteArray.size_append
    have ho2 : ∀ x ∈ m.map (shiftG p.size), x.ok := fun x hx => by
      obtain ⟨y, hy, rfl⟩ := List.mem_map.1 hx
      obtain ⟨i, hi, rfl⟩ := List.getElem_of_mem hy
      obtain ⟨q1, q2, q3, q4⟩ := ho _ hy
      have hg2 := sound_span (hN i hi).1
      rw [Sp.goodB_iff] at hg2
      exact ⟨q1, ⟨by show _ ≤ _ + _; omega, by show _ + _ ≤ _; omega⟩, q3, q4⟩
    have hk2 : ∀ x ∈ m.map (shiftG p.size), x.kids.length ≤ 100000 := fun x hx => by
      obtain ⟨y, hy, rfl⟩ := List.mem_map.1 hx
      exact hkk y hy
    have h2 := Decode_c (m.map (shiftG p.size)) (p ++ s) (by rw [List.length_map]; omega) ho2 hk2 (by omega)
    rw [(decV_shift hg hkk).1, (decV_shift hg hkk).2] at h2
    have hnum := decV_num m s (by omega)
    have h3 := Equal_c (decV m s) (decV m s) hnum hnum
    rw [decV_good hg hkk, sameP_rfl] at h3
    refine fn_rule (C := ⟨Tryd.prog, layF, Tryd.f4.ntmps, Γ0, 0, [], []⟩) layF_ok mixed Tryd.func4 rfl (by kernel_rfl) rfl rfl rfl ?_
    refine ex_call (hv) ?_
    refine ex_call (h1) ?_
    refine ex_call (wakes_c) ?_
    refine ex_false (by decide) ?_
    refine ex_app 0 m.length 1000 rfl (by simp) rfl (by omega) ?_
    refine ex_is (((m.take 0).map (shiftG p.size) ++ m.drop 0).map vrow) (by simp) ?_
    refine ex_is (m.length) (by simp) ?_
    refine ex_loop (X := Nat × List GV) (fun ⟨q, n⟩ => ⟨[(1, .o (c1 (ds s))), (2, .o (c1 (ds p))), (9, .o (.c (.ptr 0 0))), (11, .o (.c (.row 1))), (36, Ti m.length), (37, Ti q)], [(0, .obj ((drow (decV m s)).map .d)), (1, .row 7 50 (n.map vrow))], 2⟩) (fun x => m.length - x.1)
      (fun ⟨q, n⟩ => q ≤ m.length ∧ n = (m.take q).map (shiftG p.size) ++ m.drop q) (0, (m.take 0).map (shiftG p.size) ++ m.drop 0) ⟨by omega, rfl⟩ (SLe.of ⟨⟨rfl, rfl, rfl, rfl, rfl, rfl, trivial⟩, ⟨rfl, rfl, trivial⟩⟩) ?_
    rintro ⟨q, n⟩ ⟨hq, hn⟩
    refine ex_dec (fun h5 => ?_) (fun h5 => ?_)
    · have hqm : q < m.length := by omega
      have hnl : n.length = m.length := by rw [hn]; simp; omega
      have hxn : n[q]? = some m[q] := by
        rw [hn, List.getElem?_append_right (by simp; omega)]
        have e : q - ((m.take q).map (shiftG p.size)).length = 0 := by simp; omega
        rw [e, List.drop_eq_getElem_cons hqm]
        rfl
      have hset := shift_one (t := p.size) hqm
      rw [← hn] at hset
      have hg2 := sound_span (hN q hqm).1
      rw [Sp.goodB_iff] at hg2
      generalize m[q] = x at *
      refine ⟨by omega, by simp; omega, ?_⟩
      refine ex_at q x hxn ?_
      refine ex_i64 (x.at_ + (p.size : Nat)) (by first | rfl | omega | simp) (by omega) (by omega) ?_
      refine ⟨by omega, by simp; omega, ?_⟩
      refine ex_at q x hxn ?_
      refine ex_is ((n.set q (shiftG p.size x)).map vrow) (by rw [List.map_set]; rfl) ?_
      refine ex_i64 (((q + 1 : Nat) : Int)) (by first | rfl | omega | simp) (by omega) (by omega) ?_
      exact ex_round (q + 1, n.set q (shiftG p.size x)) ⟨hqm, hset⟩ (by show _ - _ < _ - _; omega) (SLe.of ⟨⟨rfl, rfl, rfl, rfl, rfl, rfl, trivial⟩, ⟨rfl, rfl, trivial⟩⟩)
    · obtain rfl : q = m.length := by omega
      rw [List.take_length, List.drop_length, List.append_nil] at hn
      subst hn
      refine ⟨by omega, ?_⟩
      refine ex_call (h2) ?_
      refine ex_true rfl ?_
      refine ex_call (h3) ?_
      exact TLe.rfl
end Go.Proofs.YtaponjjdfcmbeaaDoor
