/- The row of SumsTurn. No condition. -/
import Derived.Test.YtnpikkghgflefaaTurn
import Derived.Test.YtnpikkghgflefaaRows
namespace Go.Proofs.Ytnpikkghgflefaa
open Go.ChangeShapes Go.WideShapes Go.ChangeAt Go.RowKit Go.ChangeMaps
theorem turnW_int (s t : ByteArray) (x0 x1 : Int) (w : World) (hs : s.size ≤ 140737488355328) (ht : t.size ≤ 140737488355328) (h0 : 0 ≤ x0 ∧ x0 ≤ 255) (h1 : 0 ≤ x1 ∧ x1 ≤ 255) :
    Calls Try.prog 5 #[.string s, .string t, .agg #[.int .u8 x0, .int .u8 x1]] w fun e w' => e = .returned (.bool true) ∧ Below w.heap.size w w' := by
  obtain ⟨n0, rfl⟩ := Int.eq_ofNat_of_zero_le h0.1
  obtain ⟨n1, rfl⟩ := Int.eq_ofNat_of_zero_le h1.1
  exact turnW_any s t n0 n1 w hs ht (by omega) (by omega)
namespace sumsTurn
set_option maxRecDepth 100000 in
theorem lifted (os : Os) (started : os.Started) (H : Type) (enc : TypeId × Value → H) :
    ReturnsInHanded {} Try.checked os 5 .any (Rows.sumsTurnSpec.pre6 enc Try.prog Try.f5 Rows.sumsTurnRow.domain false) (Rows.sumsTurnSpec.post enc Try.prog Try.f5 false true false false) := by
  refine returnsInHanded_of_change_sized (C := Try.checked) own started (by kernel_rfl) Try.func5
    (ChangeSpec.witness6 (enc := enc) (C := Try.checked) false ⟨#[], #[.string ByteArray.empty, .string ByteArray.empty, .agg #[.int .u8 0, .int .u8 0]], []⟩ 8 (by kernel_rfl) (by kernel_rfl) (by kernel_rfl) (by kernel_rfl)) ?_
  intro W base args ds gs before hval0 hW _ hsz0 _
  have hsz : (DataW.weightsEach Try.prog (Try.f5.params.toList ++ Rows.sumsTurnSpec.plain.varTypes Try.prog) (ds ++ gs)).all (· ≤ reachBytes) = true := hsz0
  have hval : ∀ (j : Nat) t v, Try.f5.params[j]? = some t → args[j]? = some v → Value.okWide Try.prog W .any base t v := hval0
  clear hsz0 hval0
  have hW' := hW
  obtain ⟨p, q, hA0, hV, rfl, hfz, hnd⟩ := hW
  have hA : DataW.TrodAll enc Try.prog W 0 (fun _ => true) true Try.f5.params.toList args.toList ds p := hA0
  clear hA0
  rw [Try.params5] at hA hval hsz
  obtain ⟨v0, vs0, d0, ds0, p0, q0, hargs, rfl, rfl, h0, r0⟩ := trodAll_cons hA
  obtain ⟨v1, vs1, d1, ds1, p1, q1, rfl, rfl, rfl, h1, r1⟩ := trodAll_cons r0
  obtain ⟨v2, vs2, d2, ds2, p2, q2, rfl, rfl, rfl, h2, r2⟩ := trodAll_cons r1
  obtain ⟨rfl, rfl, rfl⟩ := trodAll_nil r2
  obtain rfl : args = #[v0, v1, v2] := by cases args; simp_all
  obtain ⟨rfl, rfl⟩ := trodVars_none hV
  obtain ⟨s, rfl, rfl, rfl, hm0⟩ := open_string Try.underlying9 (hval 0 9 v0 rfl rfl) h0
  have w_s : s.size ≤ 140737488351232 := by simpa [reachBytes] using sized_string hsz (j := 0) rfl rfl
  obtain ⟨t, rfl, rfl, rfl, hm1⟩ := open_string Try.underlying9 (hval 1 9 v1 rfl rfl) h1
  have w_t : t.size ≤ 140737488351232 := by simpa [reachBytes] using sized_string hsz (j := 1) rfl rfl
  obtain ⟨zs2, hl2, rfl, hw2⟩ := open_int_array Try.underlying32 Try.underlying5 (by kernel_rfl) (by kernel_rfl) (hval 2 32 v2 rfl rfl) h2
  obtain ⟨x0, x1, rfl⟩ := len2 hl2
  have w_x0 := wf_u8 (hw2 x0 (by simp))
  have w_x1 := wf_u8 (hw2 x1 (by simp))
  refine (turnW_int s t x0 x1 W (by omega) (by omega) w_x0 w_x1).mono fun e W' ⟨he, hb⟩ => ?_
  subst he
  exact ⟨_, rfl, law_post (ds := [_, _, _]) laidOut hW' rfl (by kernel_rfl) rfl Try.underlying4 rfl rfl rfl hb⟩

theorem proved : Rows.SumsTurnSaid :=
  OpenClaim.holds_of_wide 5 Try.f5 rfl rfl rfl rfl rfl rfl rfl ⟨rfl, rfl, rfl, rfl, rfl⟩ rfl rfl rfl rfl rfl (by kernel_rfl) Try.func5 (by kernel_rfl)
    (of_decide_eq_true (by kernel_rfl)) (by unfold Func.isWrapper; first | (rw [if_pos (by decide +kernel)]; kernel_rfl) | (rw [if_neg (by decide +kernel)]; exact ⟨rfl, rfl⟩))
    (fun os started H enc _ => lifted os started H enc)
end sumsTurn
end Go.Proofs.Ytnpikkghgflefaa
