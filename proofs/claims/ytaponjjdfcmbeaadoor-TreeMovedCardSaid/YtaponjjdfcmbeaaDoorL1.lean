/- TreeDecodes, TreeNumbers, over data. Conditions: the views' numbers are int's; the string takes at most 2^47 bytes. -/
import Derived.Test.YtaponjjdfcmbeaaDoorU7
namespace Go.Proofs.YtaponjjdfcmbeaaDoor
set_option linter.unusedVariables false
set_option linter.unusedSimpArgs false
open Go.RowKit
set_option maxRecDepth 100000

theorem cut40_len (l : List GV) : (cut40 l).length ≤ 40 := by simp [cut40]; omega
theorem cut40_mem {l : List GV} {p : GV → Prop} (h : ∀ x ∈ l, p (cutG x)) : ∀ x ∈ cut40 l, p x := by
  intro x hx
  obtain ⟨y, hy, rfl⟩ := List.mem_map.1 hx
  exact h y (List.mem_of_mem_take hy)
theorem cut40_ok {l : List GV} (h : ∀ x ∈ l, x.ok) : ∀ x ∈ cut40 l, x.ok := cut40_mem h
theorem cut40_kids (l : List GV) : ∀ x ∈ cut40 l, x.kids.length ≤ 100000 := cut40_mem fun x _ => by simp [cutG]; omega
theorem TreeDecodes_c (l : List GV) (s : ByteArray) (hk : ∀ x ∈ l, x.ok) (hs : s.size ≤ 281474976706560) : CallsA Tryd.prog Γ0 3 [c1 (dviews l), c1 (ds s)] (.o (c1 (db true))) := by
  have hv := views_c l
  have hl := cut40_len l
  have ho := cut40_ok hk
  have hkk := cut40_kids l
  generalize cut40 l = m at *
  have h1 := Decode_c m s (by omega) ho hkk hs
  have h2 := rDecode_c m s (by omega) ho hkk hs
  have h3 := good_c m s (by omega) ho hkk hs
  have h4 := rgood_c m s (by omega) ho hkk hs
  rw [good_same] at h4
  have h5 := lsame_c (decV m s) (decV m s) (decV_num m s (by omega))
  rw [sameP_rfl] at h5
  refine fn_rule (C := ⟨Tryd.prog, layF, Tryd.f3.ntmps, Γ0, 0, [], []⟩) layF_ok mixed Tryd.func3 rfl (by kernel_rfl) rfl rfl rfl ?_
  refine ex_call (hv) ?_
  refine ex_call (h1) ?_
  refine ex_call (h2) ?_
  refine ex_call (wakes_c) ?_
  refine ex_call (h3) ?_
  refine ex_call (h4) ?_
  refine ex_true rfl ?_
  refine ex_call (h5) ?_
  refine ex_true rfl ?_
  exact TLe.rfl
end Go.Proofs.YtaponjjdfcmbeaaDoor
