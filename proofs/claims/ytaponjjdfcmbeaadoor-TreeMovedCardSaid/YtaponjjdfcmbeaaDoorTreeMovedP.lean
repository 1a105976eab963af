/- TreeMoved: views of which each Span begins so many bytes farther show of an input with as many bytes ahead what they showed of it. Condition: the listed package variables hold what the program's text lays. -/
import Derived.Test.YtaponjjdfcmbeaaDoorArgV
import Derived.Test.YtaponjjdfcmbeaaDoorL2
import Derived.Test.YtaponjjdfcmbeaaDoorRows
import Derived.Test.YtaponjjdfcmbeaaDoorCards
import Derived.Test.YtaponjjdfcmbeaaDoorTie
import Derived.Lay
import Derived.SevenTiedAt
import Derived.MakeChecks
namespace Go.Proofs.YtaponjjdfcmbeaaDoor
set_option linter.unusedVariables false
set_option linter.unusedSimpArgs false
open Go.ChangeShapes Go.WideShapes Go.ChangeAt Go.RowKit Go.ChangeMaps
set_option maxRecDepth 100000

theorem TreeMoved_a (x : D) (hx : DT Tryd.prog 8 22 [x]) (s : ByteArray) (hs : s.size ≤ 140737488351232) (p : ByteArray) (hp : p.size ≤ 140737488351232) : CallsA Tryd.prog Γ0 4 [c1 x, c1 (ds s), c1 (ds p)] (.o (c1 (db true))) := by
  obtain ⟨l, rfl, _, hl⟩ := dt_views hx
  exact TreeMoved_c l s p (fun v hv => (hl v hv).1) hs hp
namespace treeMoved
set_option maxRecDepth 100000 in
theorem lifted (os : Os) (started : os.Started) (H : Type) (enc : TypeId × Value → H) :
    ReturnsInHanded {} Tryd.checked os 4 .any (fun w args => (Rows.treeMovedSpec.pre enc Tryd.prog Tryd.f4 Rows.treeMovedRow.domain false w args ∧ laidMetH Tryd.prog Rows.treeMovedRow.laid w) ∧ sizedMet enc Tryd.prog Tryd.f4 (OpenSpec.ofChange Rows.treeMovedSpec) false w args) (Rows.treeMovedSpec.post enc Tryd.prog Tryd.f4 false true false false) := by
  refine returnsInHanded_of_change_and (C := Tryd.checked) (X := fun w _ => laidMetH Tryd.prog Rows.treeMovedRow.laid w) (fun _ _ _ hh h => h.of_heap hh) own started (by kernel_rfl) Tryd.func4
    (ChangeSpec.witness_shaped (enc := enc) (C := Tryd.checked) (os := os) (X := fun w _ => laidMetH Tryd.prog Rows.treeMovedRow.laid w) false (World.laidAll Tryd.prog os Rows.treeMovedRow.laid) #[.slice none 0 0, .string ByteArray.empty, .string ByteArray.empty] 8 (World.laidAll_os _ _ _) (World.shaped_of_ZipB (by kernel_rfl) (by kernel_rfl)) (by kernel_rfl) (by kernel_rfl) (by kernel_rfl)
      (by rw [MakeChecks.laidMetH_plain _ _ _ (by kernel_rfl)]; exact laidMet_laidAll _ (by kernel_rfl) (by kernel_rfl))) ?_
  intro W base args ds gs before hval0 hW _ hsz0 hLaid _
  have hsz : (DataW.weightsEach Tryd.prog (Tryd.f4.params.toList ++ Rows.treeMovedSpec.plain.varTypes Tryd.prog) (ds ++ gs)).all (· ≤ reachBytes) = true := hsz0
  have hval : ∀ (j : Nat) t v, Tryd.f4.params[j]? = some t → args[j]? = some v → Value.okWide Tryd.prog W .any base t v := hval0
  clear hsz0 hval0
  have hW' := hW
  obtain ⟨p, q, hA0, hV, rfl, hfz, hnd⟩ := hW
  have hA : DataW.TrodAll enc Tryd.prog W 0 (fun _ => true) true Tryd.f4.params.toList args.toList ds p := hA0
  clear hA0
  rw [Tryd.params4] at hA hval hsz
  obtain ⟨v0, vs0, d0, ds0, p0, q0, hargs, rfl, rfl, h0, r0⟩ := trodAll_cons hA
  obtain ⟨v1, vs1, d1, ds1, p1, q1, rfl, rfl, rfl, h1, r1⟩ := trodAll_cons r0
  obtain ⟨v2, vs2, d2, ds2, p2, q2, rfl, rfl, rfl, h2, r2⟩ := trodAll_cons r1
  obtain ⟨rfl, rfl, rfl⟩ := trodAll_nil r2
  obtain rfl : args = #[v0, v1, v2] := by cases args; simp_all
  obtain ⟨rfl, rfl⟩ := trodVars_none hV
  obtain ⟨l, l_, m0⟩ := open_dt (d := 8) (by kernel_rfl) (by kernel_rfl) (hval 0 22 v0 rfl rfl) h0
  obtain ⟨in_, rfl, rfl, rfl, hm1⟩ := open_string Tryd.underlying9 (hval 1 9 v1 rfl rfl) h1
  have w_in_ : in_.size ≤ 140737488351232 := by simpa [reachBytes] using sized_string hsz (j := 1) rfl rfl
  obtain ⟨ahead, rfl, rfl, rfl, hm2⟩ := open_string Tryd.underlying9 (hval 2 9 v2 rfl rfl) h2
  have w_ahead : ahead.size ≤ 140737488351232 := by simpa [reachBytes] using sized_string hsz (j := 2) rfl rfl
  refine ((TreeMoved_a l l_ in_ w_in_ ahead w_ahead).2 (Sall W) W [v0, .string in_, .string ahead] (fun _ h => h) trivial (.cons m0 (.cons (Imm.v rfl) (.cons (Imm.v rfl) .nil)))).mono fun e W' ⟨xr, _, he, hb, _, _, _, hv⟩ => ?_
  obtain rfl := V_v hv
  subst he
  exact ⟨_, rfl, law_post (ds := [_, _, _]) laidOut hW' rfl (by kernel_rfl) rfl Tryd.underlying4 rfl rfl rfl hb⟩

theorem proved : Rows.TreeMovedSaid :=
  OpenClaim.holds_of_wide 4 Tryd.f4 rfl rfl rfl rfl rfl rfl rfl ⟨rfl, rfl, rfl, rfl, rfl⟩ rfl rfl rfl rfl rfl (by kernel_rfl) Tryd.func4 (by kernel_rfl)
    (of_decide_eq_true (by kernel_rfl)) (by unfold Func.isWrapper; first | (rw [if_pos (by decide +kernel)]; kernel_rfl) | (rw [if_neg (by decide +kernel)]; exact ⟨rfl, rfl⟩))
    (fun os started H enc _ => lifted os started H enc)
theorem card : Rows.TreeMovedCardSaid :=
  Claim7.holds_tied_plain_at .later [] [.data, .data, .data] true (true, "0902daea356e995049bef7410df837927544ff2b82cca37895064edd0d290199") false proved (fun _ h => by cases h) (by kernel_rfl) (fun _ h => by cases h) treeMoved_row_tie rfl ⟨rfl, rfl⟩ (by kernel_rfl) rfl
    (fun f fn hf hfn => by
      obtain rfl : f = 4 := Option.some.inj ((show Tryd.prog.funcNamed "calliper/calliperlaw19.TreeMoved" = some 4 by kernel_rfl).symm.trans hf) |>.symm
      obtain rfl : fn = Tryd.f4 := (Option.some.inj (Tryd.func4.symm.trans hfn)).symm
      exact ⟨by kernel_rfl, fun j t ht => by
        rw [Tryd.params4] at ht
        have hm : t ∈ [22, 9, 9] := by simpa using Array.mem_of_getElem? ht
        have hall : ([22, 9, 9].all fun u => !Tryd.prog.wantsStandIn u) = true := by kernel_rfl
        exact (show Tryd.prog.wantsStandIn t = false by simpa using List.all_eq_true.1 hall t hm)⟩)
    (by kernel_rfl)
end treeMoved
end Go.Proofs.YtaponjjdfcmbeaaDoor
