/- ValueParse, where what it reads is of bulk at most 1048576: the value of every signs, or the place at which they fail and the error, is the document's answer. Condition: the listed package variables hold what the program's text lays. -/
import Derived.Test.YtkeehnhamkdogaaDoorW1
import Derived.Test.YtkeehnhamkdogaaDoorGl
import Derived.Test.YtkeehnhamkdogaaDoorRows
import Derived.Test.YtkeehnhamkdogaaDoorCards
import Derived.Test.YtkeehnhamkdogaaDoorTie
import Derived.Lay
import Derived.SevenTiedAt
import Derived.MakeChecks
import Derived.Deep.DeepHandedRow
namespace Go.Proofs.YtkeehnhamkdogaaDoor
set_option linter.unusedVariables false
set_option linter.unusedSimpArgs false
open Go.ChangeShapes Go.WideShapes Go.ChangeAt Go.RowKit Go.ChangeMaps
set_option maxRecDepth 100000

namespace valueParse
set_option maxRecDepth 100000 in
theorem lifted (os : Os) (started : os.Started) (H : Type) (enc : TypeId × Value → H) (F0 : Stop.Interp) :
    ReturnsInHanded {} Tryd.checked os 4 .any ((Rows.OpenSpec.upto Rows.valueParseSpec).preRow enc Tryd.prog Tryd.f4 Rows.valueParseUptoRow.domain false Rows.valueParseUptoRow.laid) (((Rows.OpenSpec.upto Rows.valueParseSpec).at F0).post enc Tryd.prog Tryd.f4 false true false false) := by
  refine returnsInHanded_of_row (C := Tryd.checked) own started (by kernel_rfl) Tryd.func4 ?hwit ?_
  case hwit =>
    refine ⟨World.laidAll Tryd.prog os Rows.valueParseUptoRow.laid, fun _ _ => 0, ⟨#[], #[.string ByteArray.empty], []⟩, World.laidAll_os _ _ _, World.shaped_of_ZipB (by kernel_rfl) (by kernel_rfl), rfl, (Input.okWide_of_okWideB (by kernel_rfl)).2, ⟨⟨⟨[.lit (.string [])], [], [], DataW.Whole_of_whole (x := ([.lit (.string [])], [], [])) (fuel := 8) (by kernel_rfl), by kernel_rfl, by kernel_rfl⟩, by rw [MakeChecks.laidMetH_plain _ _ _ (by kernel_rfl)]; exact laidMet_laidAll _ (by kernel_rfl) (by kernel_rfl)⟩, sizedMet_of_sizedB (s := Rows.valueParseSpec) (fuel := 8) (by kernel_rfl)⟩, ?_⟩
    simp only [Assume.holds]
    exact ⟨by simp, by simp, by simp⟩
  intro W base args ds gs before hval0 hW _ hk0 hsz0 hLaid _ _
  have hbulk : Rows.uptoBulkAll (ds ++ gs) ≤ 1048576 := of_decide_eq_true (hk0 _ rfl)
  clear hk0
  have hsz : (DataW.weightsEach Tryd.prog (Tryd.f4.params.toList ++ Rows.valueParseSpec.plain.varTypes Tryd.prog) (ds ++ gs)).all (· ≤ reachBytes) = true := hsz0
  have hval : ∀ (j : Nat) t v, Tryd.f4.params[j]? = some t → args[j]? = some v → Value.okWide Tryd.prog W .any base t v := hval0
  clear hsz0 hval0
  have hW' := hW
  obtain ⟨p, q, hA0, hV, rfl, hfz, hnd⟩ := hW
  have hA : DataW.TrodAll enc Tryd.prog W 0 (fun _ => true) true Tryd.f4.params.toList args.toList ds p := hA0
  clear hA0
  rw [Tryd.params4] at hA hval hsz
  obtain ⟨v0, vs0, d0, ds0, p0, q0, hargs, rfl, rfl, h0, r0⟩ := trodAll_cons hA
  obtain ⟨rfl, rfl, rfl⟩ := trodAll_nil r0
  obtain rfl : args = #[v0] := by cases args; simp_all
  obtain ⟨rfl, rfl⟩ := trodVars_none hV
  obtain ⟨s, rfl, rfl, rfl, hm0⟩ := open_string Tryd.underlying9 (hval 0 9 v0 rfl rfl) h0
  have w_s : s.size ≤ 1048576 := by simp [Rows.uptoBulkAll, Rows.uptoBulk] at hbulk; first | omega | (have := hbulk; simp at this; omega)
  refine ((valueParse_c s w_s).2 (Sall W) W [.string s] (fun _ h => h) (glob_of rfl hLaid) (.cons (Imm.v rfl) .nil)).mono fun e W' ⟨xr, _, he, hb, _, _, _, hv⟩ => ?_
  obtain rfl := V_v hv
  subst he
  exact ⟨_, rfl, law_post (ds := [_]) laidOut hW' rfl (by kernel_rfl) rfl Tryd.underlying4 rfl rfl rfl hb⟩

theorem proved : Rows.ValueParseUptoSaid :=
  OpenClaim.holds_of_cond 4 Tryd.f4 rfl rfl rfl rfl rfl rfl rfl ⟨rfl, rfl, rfl, rfl, rfl⟩ rfl rfl rfl rfl rfl (by kernel_rfl) Tryd.func4 (by kernel_rfl)
    (of_decide_eq_true (by kernel_rfl)) (by unfold Func.isWrapper; first | (rw [if_pos (by decide +kernel)]; kernel_rfl) | (rw [if_neg (by decide +kernel)]; exact ⟨rfl, rfl⟩))
    (fun os started H enc _ F0 => by rw [OpenClaim.pre_eq_preRow]; exact lifted os started H enc F0)
theorem card : Rows.ValueParseUptoCardSaid :=
  Claim7.holds_tied_plain_at .later [] [.data, .data, .data, .sentinel, .sentinel] true (true, "6bf5c362cd481fe3d751572f1504a6a0b0d69aeef9018b1fcd6deae6dbd4dcf7") true proved (fun _ h => by cases h) (by kernel_rfl) (fun _ h => by cases h) valueParseUpto_row_tie rfl ⟨rfl, rfl⟩ (by kernel_rfl) rfl
    (fun f fn hf hfn => by
      obtain rfl : f = 4 := Option.some.inj ((show Tryd.prog.funcNamed "calliper/calliperlaw18.ValueParse" = some 4 by kernel_rfl).symm.trans hf) |>.symm
      obtain rfl : fn = Tryd.f4 := (Option.some.inj (Tryd.func4.symm.trans hfn)).symm
      exact ⟨by kernel_rfl, fun j t ht => by
        rw [Tryd.params4] at ht
        have hm : t ∈ [9] := by simpa using Array.mem_of_getElem? ht
        have hall : ([9].all fun u => !Tryd.prog.wantsStandIn u) = true := by kernel_rfl
        exact (show Tryd.prog.wantsStandIn t = false by simpa using List.all_eq_true.1 hall t hm)⟩)
    (by kernel_rfl)
end valueParse
end Go.Proofs.YtkeehnhamkdogaaDoor
