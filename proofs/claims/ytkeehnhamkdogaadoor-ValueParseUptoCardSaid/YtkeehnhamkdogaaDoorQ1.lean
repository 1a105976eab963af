/- The reference's parser: small functions over its state. Conditions: at most 2^24 bytes. -/
import Derived.Test.YtkeehnhamkdogaaDoorP6
namespace Go.Proofs.YtkeehnhamkdogaaDoor
set_option linter.unusedVariables false
set_option linter.unusedSimpArgs false
open Go.RowKit
set_option maxRecDepth 100000

/-- The reference's state. -/
abbrev Sta (s : ByteArray) (a : Nat) (e : Int) (t : Nat) : Blk := .obj [.d (ds s), .d (di a), .d (di e), .d (di t)]
theorem rfail_c (s : ByteArray) (a : Nat) (t : Nat) (p : Nat) (e : Int) :
    CallsM Tryd.prog ΓS 40 [(0, Sta s a 0 t)] 1 [.c (.ptr 0 0), c1 (di p), c1 (di e)] (.tup []) [(0, Sta s a e p)] [] := by
  refine fn_ruleM (C := ⟨Tryd.prog, layF, Tryd.f40.ntmps, ΓS, 1, [], []⟩) layF_ok mixed Tryd.func40 rfl (by kernel_rfl) rfl rfl rfl ?_
  refine ex_true rfl ?_
  exact ⟨rfl, TLe.rfl, rfl, rfl⟩
theorem rraw_c (s : ByteArray) (a : Nat) (e : Int) (t : Nat) (hs : s.size ≤ 16777216) :
    CallsM Tryd.prog ΓS 73 [(0, Sta s a e t)] 1 [.c (.ptr 0 0)] (.o (c1 (.v (.int .u8 (nextV s a).toNat)))) [(0, Sta s a e t)] [] := by
  refine fn_ruleM (C := ⟨Tryd.prog, layF, Tryd.f73.ntmps, ΓS, 1, [], []⟩) layF_ok mixed Tryd.func73 rfl (by kernel_rfl) rfl rfl rfl ?_
  refine ex_dec (fun h => ?_) (fun h => ?_)
  ·
    refine ⟨by kernel_rfl, ?_⟩
    rw [show nextV s a = 0 by unfold nextV; rw [s_none (by omega)]; rfl]
    exact ⟨rfl, TLe.rfl, rfl, rfl⟩
  ·
    refine ⟨by kernel_rfl, ?_⟩
    refine ex_chr a _ rfl (s_at (by omega)) ?_
    refine ⟨by kernel_rfl, ?_⟩
    rw [show nextV s a = s.data.toList[a]'(by simp; omega) by unfold nextV; rw [s_at (by omega)]; rfl]
    exact ⟨rfl, TLe.rfl, rfl, rfl⟩
theorem rnext_c (s : ByteArray) (a : Nat) (e : Int) (t : Nat) (ha : a ≤ 33554432) (hs : s.size ≤ 16777216) :
    CallsM Tryd.prog ΓS 39 [(0, Sta s a e t)] 1 [.c (.ptr 0 0)] (.o (c1 (.v (.int .u8 (nextV s (passV s a)).toNat)))) [(0, Sta s (passV s a) e t)] [] := by
  obtain ⟨R, hR⟩ : ∃ R, passV s a = R := ⟨_, rfl⟩
  rw [hR]
  refine fn_ruleM (C := ⟨Tryd.prog, layF, Tryd.f39.ntmps, ΓS, 1, [], []⟩) layF_ok mixed Tryd.func39 rfl (by kernel_rfl) rfl rfl rfl ?_
  refine ex_loop (X := Nat) (fun q => ⟨[(0, .o (.c (.ptr 0 0)))], [(0, Sta s q e t)], 1⟩) (fun q => s.size - q) (fun q => q ≤ 33554432 ∧ passV s q = R) a ⟨ha, hR⟩ (SLe.of ⟨⟨rfl, trivial⟩, ⟨rfl, trivial⟩⟩) ?_
  rintro q ⟨hq, hg⟩
  refine ex_dec (fun h => ?_) (fun h => ?_)
  · refine ex_chr q _ rfl (s_at (by omega)) ?_
    refine ex_dec (fun h2 => ?_) (fun h2 => ?_)
    · have hc : s.data.toList[q]? = some 32 := by rw [s_at (by omega)]; exact congrArg some (u8_eq.1 h2)
      refine ⟨by kernel_rfl, ?_⟩
      refine ex_i64 (((q + 1 : Nat) : Int)) (by first | rfl | omega | simp) (by omega) (by omega) ?_
      exact ex_round (q + 1) ⟨by omega, by rw [passV_blank hc, hg]⟩ (by show _ - _ < _ - _; omega) (SLe.of ⟨⟨rfl, trivial⟩, ⟨rfl, trivial⟩⟩)
    · have hc : s.data.toList[q]? ≠ some 32 := by rw [s_at (by omega)]; exact fun hc => h2 (u8_eq.2 (Option.some.inj hc))
      rw [passV_stop hc] at hg
      subst hg
      refine ⟨by kernel_rfl, ?_⟩
      refine ex_dec (fun h3 => ?_) (fun h3 => ?_)
      ·
        refine ⟨by kernel_rfl, ?_⟩
        rw [show nextV s q = 0 by unfold nextV; rw [s_none (by omega)]; rfl]
        exact ⟨rfl, TLe.rfl, rfl, rfl⟩
      ·
        refine ⟨by kernel_rfl, ?_⟩
        refine ex_chr q _ rfl (s_at (by omega)) ?_
        refine ⟨by kernel_rfl, ?_⟩
        rw [show nextV s q = s.data.toList[q]'(by simp; omega) by unfold nextV; rw [s_at (by omega)]; rfl]
        exact ⟨rfl, TLe.rfl, rfl, rfl⟩
  · rw [passV_stop (by rw [s_none (by omega)]; simp)] at hg
    subst hg
    refine ⟨by kernel_rfl, ?_⟩
    refine ex_dec (fun h3 => ?_) (fun h3 => ?_)
    ·
      refine ⟨by kernel_rfl, ?_⟩
      rw [show nextV s q = 0 by unfold nextV; rw [s_none (by omega)]; rfl]
      exact ⟨rfl, TLe.rfl, rfl, rfl⟩
    ·
      refine ⟨by kernel_rfl, ?_⟩
      refine ex_chr q _ rfl (s_at (by omega)) ?_
      refine ⟨by kernel_rfl, ?_⟩
      rw [show nextV s q = s.data.toList[q]'(by simp; omega) by unfold nextV; rw [s_at (by omega)]; rfl]
      exact ⟨rfl, TLe.rfl, rfl, rfl⟩
end Go.Proofs.YtkeehnhamkdogaaDoor
