/- The row of BitsCut. No condition. -/
import Derived.Test.YtmfohpfecpgbpaaBits18
import Derived.Test.YtmfohpfecpgbpaaRow
import Derived.Test.YtmfohpfecpgbpaaRows
namespace Go.Proofs.Ytmfohpfecpgbpaa
open Go.ChangeShapes Go.WideShapes Go.ChangeAt Go.RowKit Go.ChangeMaps
theorem bitsCut_int (n x0 x1 x2 : Int) (v : Value) (xs : List Int) (w : World) (h : 0 ≤ n ∧ n ≤ 18446744073709551615) (h0 : 0 ≤ x0 ∧ x0 ≤ 255) (h1 : 0 ≤ x1 ∧ x1 ≤ 255) (h2 : 0 ≤ x2 ∧ x2 ≤ 255) (hx : IntsArg .i64 w v xs) :
    Calls Try.prog 7 #[.int .u64 n, v, .agg #[.int .u8 x0, .int .u8 x1, .int .u8 x2]] w fun e w' => e = .returned (.bool true) ∧ Below w.heap.size w w' := by
  obtain ⟨m, rfl⟩ := Int.eq_ofNat_of_zero_le h.1
  obtain ⟨x0, rfl⟩ := Int.eq_ofNat_of_zero_le h0.1
  obtain ⟨x1, rfl⟩ := Int.eq_ofNat_of_zero_le h1.1
  obtain ⟨x2, rfl⟩ := Int.eq_ofNat_of_zero_le h2.1
  exact bitsCut_any m v xs x0 x1 x2 w (by omega) (by omega) (by omega) (by omega) hx
namespace bitsCut
set_option maxRecDepth 100000 in
theorem lifted (os : Os) (started : os.Started) (H : Type) (enc : TypeId × Value → H) :
    ReturnsInHanded {} Try.checked os 7 .any (Rows.bitsCutSpec.pre6 enc Try.prog Try.f7 Rows.bitsCutRow.domain false) (Rows.bitsCutSpec.post enc Try.prog Try.f7 false true false false) := by
  refine returnsInHanded_of_change_sized (C := Try.checked) own started (by kernel_rfl) Try.func7
    (ChangeSpec.witness6 (enc := enc) (C := Try.checked) false ⟨#[], #[.int .u64 0, .slice none 0 0, .agg #[.int .u8 0, .int .u8 0, .int .u8 0]], []⟩ 8 (by kernel_rfl) (by kernel_rfl) (by kernel_rfl) (by kernel_rfl)) ?_
  intro W base args ds gs before hval0 hW _ hsz0 _
  have hsz : (DataW.weightsEach Try.prog (Try.f7.params.toList ++ Rows.bitsCutSpec.plain.varTypes Try.prog) (ds ++ gs)).all (· ≤ reachBytes) = true := hsz0
  have hval : ∀ (j : Nat) t v, Try.f7.params[j]? = some t → args[j]? = some v → Value.okWide Try.prog W .any base t v := hval0
  clear hsz0 hval0
  have hW' := hW
  obtain ⟨p, q, hA0, hV, rfl, hfz, hnd⟩ := hW
  have hA : DataW.TrodAll enc Try.prog W 0 (fun _ => true) true Try.f7.params.toList args.toList ds p := hA0
  clear hA0
  rw [Try.params7] at hA hval hsz
  obtain ⟨v0, vs0, d0, ds0, p0, q0, hargs, rfl, rfl, h0, r0⟩ := trodAll_cons hA
  obtain ⟨v1, vs1, d1, ds1, p1, q1, rfl, rfl, rfl, h1, r1⟩ := trodAll_cons r0
  obtain ⟨v2, vs2, d2, ds2, p2, q2, rfl, rfl, rfl, h2, r2⟩ := trodAll_cons r1
  obtain ⟨rfl, rfl, rfl⟩ := trodAll_nil r2
  obtain rfl : args = #[v0, v1, v2] := by cases args; simp_all
  obtain ⟨rfl, rfl⟩ := trodVars_none hV
  obtain ⟨n, rfl, rfl, rfl, hw0⟩ := open_int Try.underlying23 (hval 0 23 v0 rfl rfl) h0
  have w_n := wf_u64 hw0
  obtain ⟨widths, widths_⟩ := open_ints_arg (k := .i64) Try.underlying22 Try.underlying3 (by kernel_rfl) (hval 1 22 v1 rfl rfl) h1
  obtain ⟨zs2, hl2, rfl, hw2⟩ := open_int_array Try.underlying51 Try.underlying5 (by kernel_rfl) (by kernel_rfl) (hval 2 51 v2 rfl rfl) h2
  obtain ⟨x0, x1, x2, rfl⟩ := len3 hl2
  have w_x0 := wf_u8 (hw2 x0 (by simp))
  have w_x1 := wf_u8 (hw2 x1 (by simp))
  have w_x2 := wf_u8 (hw2 x2 (by simp))
  refine (bitsCut_int n x0 x1 x2 v1 widths W w_n w_x0 w_x1 w_x2 widths_).mono fun e W' ⟨he, hb⟩ => ?_
  subst he
  exact ⟨_, rfl, law_post (ds := [_, _, _]) laidOut hW' rfl (by kernel_rfl) rfl Try.underlying4 rfl rfl rfl hb⟩

theorem proved : Rows.BitsCutSaid :=
  OpenClaim.holds_of_wide 7 Try.f7 rfl rfl rfl rfl rfl rfl rfl ⟨rfl, rfl, rfl, rfl, rfl⟩ rfl rfl rfl rfl rfl (by kernel_rfl) Try.func7 (by kernel_rfl)
    (of_decide_eq_true (by kernel_rfl)) (by unfold Func.isWrapper; first | (rw [if_pos (by decide +kernel)]; kernel_rfl) | (rw [if_neg (by decide +kernel)]; exact ⟨rfl, rfl⟩))
    (fun os started H enc _ => lifted os started H enc)
end bitsCut
end Go.Proofs.Ytmfohpfecpgbpaa
