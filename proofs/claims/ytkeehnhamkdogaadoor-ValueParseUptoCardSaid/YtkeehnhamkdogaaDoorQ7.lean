/- The reference's Parse. Conditions: at most 2^24 bytes. -/
import Derived.Test.YtkeehnhamkdogaaDoorQ6
namespace Go.Proofs.YtkeehnhamkdogaaDoor
set_option linter.unusedVariables false
set_option linter.unusedSimpArgs false
open Go.RowKit
set_option maxRecDepth 100000

theorem rParse_c (s : ByteArray) (hs : s.size ≤ 16777216) : CallsA Tryd.prog ΓS 18 [c1 (ds s)] (.tup [gD (drow (parseV s).1), c1 (di (parseV s).2.1), c1 (di (parseV s).2.2)]) := by
  have hv := rread_c s hs 1200 (by omega) 0 (by omega) 0 (by omega)
  have hr := valQ_r s 1200 0
  have he := valQ_e s 1200 0
  have hle := valQ_le s 1200 0 (by omega)
  obtain ⟨T, hT⟩ : ∃ T, parseV s = T := ⟨_, rfl⟩
  rw [hT]
  unfold parseV at hT
  rw [← hr] at hT
  cases hq : valQ s 1200 0 with
  | err p e g b =>
    rw [hq] at hv hT hle
    have hle : b ≤ s.size + 1 + 1200 := hle
    have he := he _ _ _ _ (by omega) hq
    simp only [Q.r] at hT
    subst hT
    refine fn_rule (C := ⟨Tryd.prog, layF, Tryd.f18.ntmps, ΓS, 0, [], []⟩) layF_ok mixed Tryd.func18 rfl (by kernel_rfl) rfl rfl rfl ?_
    refine ex_callM (CallsM.ren (hv) [1] 2 rfl rfl rfl rfl) ?_
    refine ex_false he ?_
    refine ex_true he ?_
    refine ⟨by kernel_rfl, ?_⟩
    show TLe _ (.tup [gD (drow _), _, _])
    rw [drow_mk]
    exact TLe.tup1
  | ok v a =>
    rw [hq] at hv hT
    have hvo := valQ_ok s 1200 _ _ _ (by omega) hq
    simp only [Q.r] at hT
    have hn := rnext_c s a 0 0 (by omega) hs
    have hpl := passV_le s hvo.2
    refine fn_rule (C := ⟨Tryd.prog, layF, Tryd.f18.ntmps, ΓS, 0, [], []⟩) layF_ok mixed Tryd.func18 rfl (by kernel_rfl) rfl rfl rfl ?_
    refine ex_callM (CallsM.ren (hv) [1] 2 rfl rfl rfl rfl) ?_
    refine ex_true rfl ?_
    refine ex_callM (CallsM.ren (hn) [1] 3 rfl rfl rfl rfl) ?_
    refine ex_dec (fun h1 => ?_) (fun h1 => ?_)
    · rw [if_pos (by omega)] at hT
      subst hT
      refine ex_callM (CallsM.ren ((rfail_c s (passV s a) 0 (passV s a) 4)) [1] 3 rfl rfl rfl rfl) ?_
      refine ex_true (show (4 : Int) ≠ 0 by decide) ?_
      refine ⟨by kernel_rfl, ?_⟩
      show TLe _ (.tup [gD (drow _), _, _])
      rw [drow_mk]
      exact TLe.tup1
    · rw [if_neg (by omega)] at hT
      subst hT
      refine ex_false (show ¬ ((0 : Int) ≠ 0) by decide) ?_
      exact TLe.rfl
end Go.Proofs.YtkeehnhamkdogaaDoor
