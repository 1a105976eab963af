/- The row of BitsSplit. No condition. -/
import Derived.Test.YtmfohpfecpgbpaaBits15
import Derived.Test.YtmfohpfecpgbpaaRow
import Derived.Test.YtmfohpfecpgbpaaRows
namespace Go.Proofs.Ytmfohpfecpgbpaa
open Go.ChangeShapes Go.WideShapes Go.ChangeAt Go.RowKit Go.ChangeMaps
theorem bitsSplit_int (n : Int) (v u : Value) (xs us : List Int) (w : World) (h : 0 ≤ n ∧ n ≤ 18446744073709551615) (hx : IntsArg .i64 w v xs) (hu : IntsArg .u64 w u us) :
    Calls Try.prog 4 #[.int .u64 n, v, u] w fun e w' => e = .returned (.bool true) ∧ Below w.heap.size w w' := by
  obtain ⟨m, rfl⟩ := Int.eq_ofNat_of_zero_le h.1
  exact bitsSplit_any m v u xs us w (by omega) hx hu
namespace bitsSplit
set_option maxRecDepth 100000 in
theorem lifted (os : Os) (started : os.Started) (H : Type) (enc : TypeId × Value → H) :
    ReturnsInHanded {} Try.checked os 4 .any (Rows.bitsSplitSpec.pre6 enc Try.prog Try.f4 Rows.bitsSplitRow.domain false) (Rows.bitsSplitSpec.post enc Try.prog Try.f4 false true false false) := by
  refine returnsInHanded_of_change_sized (C := Try.checked) own started (by kernel_rfl) Try.func4
    (ChangeSpec.witness6 (enc := enc) (C := Try.checked) false ⟨#[], #[.int .u64 0, .slice none 0 0, .slice none 0 0], []⟩ 8 (by kernel_rfl) (by kernel_rfl) (by kernel_rfl) (by kernel_rfl)) ?_
  intro W base args ds gs before hval0 hW _ hsz0 _
  have hsz : (DataW.weightsEach Try.prog (Try.f4.params.toList ++ Rows.bitsSplitSpec.plain.varTypes Try.prog) (ds ++ gs)).all (· ≤ reachBytes) = true := hsz0
  have hval : ∀ (j : Nat) t v, Try.f4.params[j]? = some t → args[j]? = some v → Value.okWide Try.prog W .any base t v := hval0
  clear hsz0 hval0
  have hW' := hW
  obtain ⟨p, q, hA0, hV, rfl, hfz, hnd⟩ := hW
  have hA : DataW.TrodAll enc Try.prog W 0 (fun _ => true) true Try.f4.params.toList args.toList ds p := hA0
  clear hA0
  rw [Try.params4] at hA hval hsz
  obtain ⟨v0, vs0, d0, ds0, p0, q0, hargs, rfl, rfl, h0, r0⟩ := trodAll_cons hA
  obtain ⟨v1, vs1, d1, ds1, p1, q1, rfl, rfl, rfl, h1, r1⟩ := trodAll_cons r0
  obtain ⟨v2, vs2, d2, ds2, p2, q2, rfl, rfl, rfl, h2, r2⟩ := trodAll_cons r1
  obtain ⟨rfl, rfl, rfl⟩ := trodAll_nil r2
  obtain rfl : args = #[v0, v1, v2] := by cases args; simp_all
  obtain ⟨rfl, rfl⟩ := trodVars_none hV
  obtain ⟨n, rfl, rfl, rfl, hw0⟩ := open_int Try.underlying23 (hval 0 23 v0 rfl rfl) h0
  have w_n := wf_u64 hw0
  obtain ⟨widths, widths_⟩ := open_ints_arg (k := .i64) Try.underlying22 Try.underlying3 (by kernel_rfl) (hval 1 22 v1 rfl rfl) h1
  obtain ⟨parts, parts_⟩ := open_ints_arg (k := .u64) Try.underlying35 Try.underlying23 (by kernel_rfl) (hval 2 35 v2 rfl rfl) h2
  refine (bitsSplit_int n v1 v2 widths parts W w_n widths_ parts_).mono fun e W' ⟨he, hb⟩ => ?_
  subst he
  exact ⟨_, rfl, law_post (ds := [_, _, _]) laidOut hW' rfl (by kernel_rfl) rfl Try.underlying4 rfl rfl rfl hb⟩

theorem proved : Rows.BitsSplitSaid :=
  OpenClaim.holds_of_wide 4 Try.f4 rfl rfl rfl rfl rfl rfl rfl ⟨rfl, rfl, rfl, rfl, rfl⟩ rfl rfl rfl rfl rfl (by kernel_rfl) Try.func4 (by kernel_rfl)
    (of_decide_eq_true (by kernel_rfl)) (by unfold Func.isWrapper; first | (rw [if_pos (by decide +kernel)]; kernel_rfl) | (rw [if_neg (by decide +kernel)]; exact ⟨rfl, rfl⟩))
    (fun os started H enc _ => lifted os started H enc)
end bitsSplit
end Go.Proofs.Ytmfohpfecpgbpaa
