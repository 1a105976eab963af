/- The row of EndsBack. No condition. -/
import Derived.Test.YtnpbhdphbbdefaaEndsBL
import Derived.Test.YtnpbhdphbbdefaaRow
import Derived.Test.YtnpbhdphbbdefaaRows
namespace Go.Proofs.Ytnpbhdphbbdefaa
open Go.ChangeShapes Go.WideShapes Go.ChangeAt Go.RowKit Go.ChangeMaps
theorem endsBack_int (n : Int) (X Y : ByteArray) (w : World) (h : 0 ≤ n ∧ n ≤ 18446744073709551615) (hX : X.size ≤ 140737488351232) (hY : Y.size ≤ 140737488351232) :
    Calls Try.prog 5 #[.int .u64 n, .string X, .string Y] w fun e w' => e = .returned (.bool true) ∧ Below w.heap.size w w' := by
  obtain ⟨m, rfl⟩ := Int.eq_ofNat_of_zero_le h.1
  exact endsBack_any m X Y w (by omega) hX hY
namespace endsBack
set_option maxRecDepth 100000 in
theorem lifted (os : Os) (started : os.Started) (H : Type) (enc : TypeId × Value → H) :
    ReturnsInHanded {} Try.checked os 5 .any (Rows.endsBackSpec.pre6 enc Try.prog Try.f5 Rows.endsBackRow.domain false) (Rows.endsBackSpec.post enc Try.prog Try.f5 false true false false) := by
  refine returnsInHanded_of_change_sized (C := Try.checked) own started (by kernel_rfl) Try.func5
    (ChangeSpec.witness6 (enc := enc) (C := Try.checked) false ⟨#[], #[.int .u64 0, .string ByteArray.empty, .string ByteArray.empty], []⟩ 8 (by kernel_rfl) (by kernel_rfl) (by kernel_rfl) (by kernel_rfl)) ?_
  intro W base args ds gs before hval0 hW _ hsz0 _
  have hsz : (DataW.weightsEach Try.prog (Try.f5.params.toList ++ Rows.endsBackSpec.plain.varTypes Try.prog) (ds ++ gs)).all (· ≤ reachBytes) = true := hsz0
  have hval : ∀ (j : Nat) t v, Try.f5.params[j]? = some t → args[j]? = some v → Value.okWide Try.prog W .any base t v := hval0
  clear hsz0 hval0
  have hW' := hW
  obtain ⟨p, q, hA0, hV, rfl, hfz, hnd⟩ := hW
  have hA : DataW.TrodAll enc Try.prog W 0 (fun _ => true) true Try.f5.params.toList args.toList ds p := hA0
  clear hA0
  rw [Try.params5] at hA hval hsz
  obtain ⟨v0, vs0, d0, ds0, p0, q0, hargs, rfl, rfl, h0, r0⟩ := trodAll_cons hA
  obtain ⟨v1, vs1, d1, ds1, p1, q1, rfl, rfl, rfl, h1, r1⟩ := trodAll_cons r0
  obtain ⟨v2, vs2, d2, ds2, p2, q2, rfl, rfl, rfl, h2, r2⟩ := trodAll_cons r1
  obtain ⟨rfl, rfl, rfl⟩ := trodAll_nil r2
  obtain rfl : args = #[v0, v1, v2] := by cases args; simp_all
  obtain ⟨rfl, rfl⟩ := trodVars_none hV
  obtain ⟨n, rfl, rfl, rfl, hw0⟩ := open_int Try.underlying22 (hval 0 22 v0 rfl rfl) h0
  have w_n := wf_u64 hw0
  obtain ⟨x, rfl, rfl, rfl, hm1⟩ := open_string Try.underlying9 (hval 1 9 v1 rfl rfl) h1
  have w_x : x.size ≤ 140737488351232 := by simpa [reachBytes] using sized_string hsz (j := 1) rfl rfl
  obtain ⟨y, rfl, rfl, rfl, hm2⟩ := open_string Try.underlying9 (hval 2 9 v2 rfl rfl) h2
  have w_y : y.size ≤ 140737488351232 := by simpa [reachBytes] using sized_string hsz (j := 2) rfl rfl
  refine (endsBack_int n x y W w_n w_x w_y).mono fun e W' ⟨he, hb⟩ => ?_
  subst he
  exact ⟨_, rfl, law_post (ds := [_, _, _]) laidOut hW' rfl (by kernel_rfl) rfl Try.underlying4 rfl rfl rfl hb⟩

theorem proved : Rows.EndsBackSaid :=
  OpenClaim.holds_of_wide 5 Try.f5 rfl rfl rfl rfl rfl rfl rfl ⟨rfl, rfl, rfl, rfl, rfl⟩ rfl rfl rfl rfl rfl (by kernel_rfl) Try.func5 (by kernel_rfl)
    (of_decide_eq_true (by kernel_rfl)) (by unfold Func.isWrapper; first | (rw [if_pos (by decide +kernel)]; kernel_rfl) | (rw [if_neg (by decide +kernel)]; exact ⟨rfl, rfl⟩))
    (fun os started H enc _ => lifted os started H enc)
end endsBack
end Go.Proofs.Ytnpbhdphbbdefaa
