/- strings.Builder: WriteByte, String; value.write and Text over data. Conditions: at most 2^47 bytes; of each number in it, what FormatUint gives. -/
import Derived.Test.YtkeehnhamkdogaaDoorB1
import Derived.Lib.ItoaNum
namespace Go.Proofs.YtkeehnhamkdogaaDoor
set_option linter.unusedVariables false
set_option linter.unusedSimpArgs false
open Go.RowKit
set_option maxRecDepth 100000

theorem WriteByte_c (a : CV) (ha : a = .d (.v (.pointer none)) ∨ a = .ptr 0 0) (l : List UInt8) (c : UInt8) (h : l.length + 1 ≤ 70368744177664) :
    CallsM Tryd.prog Γ0 50 [(0, .obj [a, .row 1] Tbld), (1, Brow l)] 2 [.c (.ptr 0 0), c1 (.v (.int .u8 c.toNat))] (.o (c1 (.v .nilIface))) [(0, .obj [.ptr 0 0, .row 2] Tbld), (1, .dead)] [Brow (l ++ [c])] := by
  have hcc := cc_row a ha l
  have e : byteRows l ++ [[D.v (.int .u8 c.toNat)]] = byteRows (l ++ [c]) := byteRows_app l [c]
  have hl : (byteRows l).length = l.length := byteRows_len l
  rcases ha with rfl | rfl
  all_goals
    refine fn_ruleM (C := ⟨Tryd.prog, layF, Tryd.f50.ntmps, Γ0, 2, [], []⟩) layF_ok mixed Tryd.func50 rfl (by kernel_rfl) rfl rfl rfl ?_
    refine ex_callM hcc ?_
    refine ex_app l.length 1 2 hl rfl rfl (by omega) ?_
    refine ex_is _ e ?_
    exact ⟨rfl, TLe.rfl, rfl, rfl⟩
theorem byteRows_ne {l : List UInt8} (h : l ≠ []) : 0 < (byteRows l).length := by rw [byteRows_len]; exact List.length_pos_iff.2 h
theorem String_c (l : List UInt8) (hn : l ≠ []) :
    CallsM Tryd.prog Γ0 32 [(0, .obj [.ptr 0 0, .row 1] Tbld), (1, Brow l)] 2 [.c (.ptr 0 0)] (.o (c1 (ds ⟨l.toArray⟩))) [(0, .obj [.ptr 0 0, .row 1] Tbld), (1, .dead)] [] := by
  have h0 := byteRows_ne hn
  have hl : (byteRows l).length = l.length := byteRows_len l
  refine fn_ruleM (C := ⟨Tryd.prog, layF, Tryd.f32.ntmps, Γ0, 2, [], []⟩) layF_ok mixed Tryd.func32 rfl (by kernel_rfl) rfl rfl rfl ?_
  refine ⟨h0, ?_⟩
  refine ex_is l.length hl ?_
  refine ⟨⟨by kernel_rfl, by kernel_rfl⟩, rfl, rfl, rfl, rfl, l, rfl, hn, rfl, ?_⟩
  refine ⟨by kernel_rfl, ?_⟩
  exact ⟨rfl, TLe.rfl, rfl, rfl⟩
end Go.Proofs.YtkeehnhamkdogaaDoor
