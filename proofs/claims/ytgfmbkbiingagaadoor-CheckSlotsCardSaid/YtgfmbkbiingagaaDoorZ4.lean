/- Texts that the last one leans on: The checker's numbers, fits, next. Conditions: what the frames say. The checker's fits, next. Conditions: what the frames say. The checker's next. Conditions: what the frames say. The checker's step. Conditions: what the frames say. The checker's function. Conditions: what the frames say. The program's frames, Check, Deepest. Conditions: at most 8192 instructions and 64 functions. The program's Check, Deepest. Conditions: at most 8192 instructions and 64 functions. The program's reading of instructions: number, numbers, find, instr. Conditions: at most 2^20 bytes; the listed variables. The program's reading of lines: put, Parse. Conditions: at most 2^20 bytes; the listed variables. The program's Parse. Conditions: at most 2^20 bytes; the listed variables. The law's programs, and what the document fixes. Condition: the listed variables. Plain law: instructions behind a last End change nothing; more slots change nothing. No condition. CheckDead from the walks. Conditions: bounds of what is handed in; the listed variables. CheckSlots from the walks. Conditions: bounds of what is handed in; the listed variables. -/
import Derived.Test.YtgfmbkbiingagaaDoorZ1
import Derived.Test.YtgfmbkbiingagaaDoorZ2
import Derived.Test.YtgfmbkbiingagaaDoorZ3
namespace Go.Proofs.YtgfmbkbiingagaaDoor
set_option linter.unusedVariables false
set_option linter.unusedSimpArgs false
open Go.RowKit
set_option maxRecDepth 100000

theorem name_ne (o : Int) : (bs (opF o).1 = ByteArray.empty) = ¬ (0 ≤ o ∧ o < 36) := by
  by_cases h : 0 ≤ o ∧ o < 36
  · have h1 : (opF o).1 ≠ [] := by
      unfold opF
      rw [if_pos h]
      have hk : o.toNat < 36 := by omega
      generalize o.toNat = k at *
      have : ∀ k : Fin 36, (opsL.getD k.1 noneR).1 ≠ [] := by decide
      exact this ⟨k, hk⟩
    simp only [h, and_self, not_true, eq_iff_iff, iff_false]
    intro e
    have := congrArg (fun b => b.data.toList) e
    exact h1 (by simpa using this)
  · unfold opF
    rw [if_neg h]
    simp only [h, not_false_eq_true, eq_iff_iff, iff_true]
    rfl
section
variable (fs : List FN) (cs : List IN) (fn : Nat) (fr tt : Int) (g : SG)
set_option maxHeartbeats 4000000 in
theorem numbers_c' {f : FN} (hf : fs[fn]? = some f) (x : IN) : CallsM Tryd.prog ΓC 31 (ckM fs cs fn fr tt g) 3 [.c (.ptr 0 0), gD (inD x)] (Tb (numbersV f fn fr tt x)) (ckM fs cs fn fr tt g) [] := by
  obtain ⟨o, a, b, n⟩ := x
  change CallsM _ _ _ _ _ [_, gD [di o, di a, di b, du n]] _ _ _
  have ha : CallsM Tryd.prog ΓC 45 (ckM fs cs fn fr tt g) 4 [.c (.ptr 0 0), c1 (di a)] (Tb (slotV f a)) (ckM fs cs fn fr tt g) [] := ((slot_c fs cs fn fr tt g hf a).of0 (Γ := ΓC)).ren [0, 1, 2] 4 rfl rfl rfl rfl
  have hb : CallsM Tryd.prog ΓC 45 (ckM fs cs fn fr tt g) 4 [.c (.ptr 0 0), c1 (di b)] (Tb (slotV f b)) (ckM fs cs fn fr tt g) [] := ((slot_c fs cs fn fr tt g hf b).of0 (Γ := ΓC)).ren [0, 1, 2] 4 rfl rfl rfl rfl
  have hpa : CallsM Tryd.prog ΓC 26 (ckM fs cs fn fr tt g) 4 [.c (.ptr 0 0), c1 (di a)] (Tb (placeV fr tt a)) (ckM fs cs fn fr tt g) [] := ((place_c fs cs fn fr tt g a).of0 (Γ := ΓC)).ren [0, 1, 2] 4 rfl rfl rfl rfl
  have hpb : CallsM Tryd.prog ΓC 26 (ckM fs cs fn fr tt g) 4 [.c (.ptr 0 0), c1 (di b)] (Tb (placeV fr tt b)) (ckM fs cs fn fr tt g) [] := ((place_c fs cs fn fr tt g b).of0 (Γ := ΓC)).ren [0, 1, 2] 4 rfl rfl rfl rfl
  have hea := (err_c a).of0 (Γ := ΓC)
  have heb := (err_c b).of0 (Γ := ΓC)
  have hg := (good_c a).of0 (Γ := ΓC)
  have hal := alus_c
  have hn := name_c o
  have hne := name_ne o
  have h17 : alusL.length = 17 := rfl
  unfold numbersV
  dsimp only at *
  generalize slotV f a = sa at *
  generalize slotV f b = sb at *
  generalize placeV fr tt a = qa at *
  generalize placeV fr tt b = qb at *
  generalize errV a = ea at *
  generalize errV b = eb at *
  generalize sizeV a = za at *
  by_cases g0 : o = 1 ∨ o = 2 ∨ o = 23 ∨ o = 24 ∨ o = 26
  · rw [if_pos g0]
    rcases g0 with rfl | rfl | rfl | rfl | rfl
    all_goals (
      refine fn_ruleM (C := ⟨Tryd.prog, layF, Tryd.f31.ntmps, ΓC, 3, [], []⟩) layF_ok mixed Tryd.func31 rfl (by kernel_rfl) rfl rfl rfl ?_
      repeat' (first | refine ex_callMB ha (fun _ => ?_) (fun _ => ?_) | refine ex_true (by first | decide | omega | assumption | (with_reducible exact rfl)) ?_ | refine ex_false (by first | decide | omega | assumption | exact (fun h => h rfl)) ?_ | refine ex_dec (fun _ => ?_) (fun _ => ?_) | refine ex_u8 _ rfl (by omega) (by omega) ?_ | refine ex_i64 _ rfl (by omega) (by omega) ?_ | refine ex_u64 _ rfl (by omega) (by omega) ?_ | refine and_mk (by first | omega | (with_reducible rfl) | (show drawOk _ _ _ = true; kernel_rfl)) ?_ | refine and_mk ⟨_, rfl⟩ ?_ | refine ex_is _ (List.length_map _) ?_ | refine ex_is _ List.length_nil ?_ | fail "no step")
      )
    all_goals first | exact ⟨rfl, TLe.eq (by rw [decide_eq_true (by omega)]; first | rfl | (simp [*]; rfl)), rfl, rfl⟩ | exact ⟨rfl, TLe.eq (by rw [decide_eq_false (by omega)]; first | rfl | (simp [*]; rfl)), rfl, rfl⟩ | exact ⟨rfl, TLe.eq (by simp [*] <;> rfl), rfl, rfl⟩
  rw [if_neg g0]
  by_cases g1 : o = 32 ∨ o = 33 ∨ o = 34
  · rw [if_pos g1]
    rcases g1 with rfl | rfl | rfl
    all_goals (
      refine fn_ruleM (C := ⟨Tryd.prog, layF, Tryd.f31.ntmps, ΓC, 3, [], []⟩) layF_ok mixed Tryd.func31 rfl (by kernel_rfl) rfl rfl rfl ?_
      repeat' (first | refine ex_callMB hb (fun _ => ?_) (fun _ => ?_) | refine ex_callMB ha (fun _ => ?_) (fun _ => ?_) | refine ex_true (by first | decide | omega | assumption | (with_reducible exact rfl)) ?_ | refine ex_false (by first | decide | omega | assumption | exact (fun h => h rfl)) ?_ | refine ex_dec (fun _ => ?_) (fun _ => ?_) | refine ex_u8 _ rfl (by omega) (by omega) ?_ | refine ex_i64 _ rfl (by omega) (by omega) ?_ | refine ex_u64 _ rfl (by omega) (by omega) ?_ | refine and_mk (by first | omega | (with_reducible rfl) | (show drawOk _ _ _ = true; kernel_rfl)) ?_ | refine and_mk ⟨_, rfl⟩ ?_ | refine ex_is _ (List.length_map _) ?_ | refine ex_is _ List.length_nil ?_ | fail "no step")
      )
    all_goals first | exact ⟨rfl, TLe.eq (by rw [decide_eq_true (by omega)]; first | rfl | (simp [*]; rfl)), rfl, rfl⟩ | exact ⟨rfl, TLe.eq (by rw [decide_eq_false (by omega)]; first | rfl | (simp [*]; rfl)), rfl, rfl⟩ | exact ⟨rfl, TLe.eq (by simp [*] <;> rfl), rfl, rfl⟩
  rw [if_neg g1]
  by_cases g2 : o = 4
  · rw [if_pos g2]
    subst g2
    all_goals (
      refine fn_ruleM (C := ⟨Tryd.prog, layF, Tryd.f31.ntmps, ΓC, 3, [], []⟩) layF_ok mixed Tryd.func31 rfl (by kernel_rfl) rfl rfl rfl ?_
      repeat' (first | refine ex_call hal ?_ | refine ex_true (by first | decide | omega | assumption | (with_reducible exact rfl)) ?_ | refine ex_false (by first | decide | omega | assumption | exact (fun h => h rfl)) ?_ | refine ex_dec (fun _ => ?_) (fun _ => ?_) | refine ex_u8 _ rfl (by omega) (by omega) ?_ | refine ex_i64 _ rfl (by omega) (by omega) ?_ | refine ex_u64 _ rfl (by omega) (by omega) ?_ | refine and_mk (by first | omega | (with_reducible rfl) | (show drawOk _ _ _ = true; kernel_rfl)) ?_ | refine and_mk ⟨_, rfl⟩ ?_ | refine ex_is _ (List.length_map _) ?_ | refine ex_is _ List.length_nil ?_ | fail "no step")
      )
    all_goals first | exact ⟨rfl, TLe.eq (by rw [decide_eq_true (by omega)]; first | rfl | (simp [*]; rfl)), rfl, rfl⟩ | exact ⟨rfl, TLe.eq (by rw [decide_eq_false (by omega)]; first | rfl | (simp [*]; rfl)), rfl, rfl⟩ | exact ⟨rfl, TLe.eq (by simp [*] <;> rfl), rfl, rfl⟩
  rw [if_neg g2]
  by_cases g3 : o = 6 ∨ o = 7
  · rw [if_pos g3]
    rcases g3 with rfl | rfl
    all_goals (
      refine fn_ruleM (C := ⟨Tryd.prog, layF, Tryd.f31.ntmps, ΓC, 3, [], []⟩) layF_ok mixed Tryd.func31 rfl (by kernel_rfl) rfl rfl rfl ?_
      repeat' (first | refine ex_callB hg (fun _ => ?_) (fun _ => ?_) | refine ex_true (by first | decide | omega | assumption | (with_reducible exact rfl)) ?_ | refine ex_false (by first | decide | omega | assumption | exact (fun h => h rfl)) ?_ | refine ex_dec (fun _ => ?_) (fun _ => ?_) | refine ex_u8 _ rfl (by omega) (by omega) ?_ | refine ex_i64 _ rfl (by omega) (by omega) ?_ | refine ex_u64 _ rfl (by omega) (by omega) ?_ | refine and_mk (by first | omega | (with_reducible rfl) | (show drawOk _ _ _ = true; kernel_rfl)) ?_ | refine and_mk ⟨_, rfl⟩ ?_ | refine ex_is _ (List.length_map _) ?_ | refine ex_is _ List.length_nil ?_ | fail "no step")
      )
    all_goals first | exact ⟨rfl, TLe.eq (by rw [decide_eq_true (by omega)]; first | rfl | (simp [*]; rfl)), rfl, rfl⟩ | exact ⟨rfl, TLe.eq (by rw [decide_eq_false (by omega)]; first | rfl | (simp [*]; rfl)), rfl, rfl⟩ | exact ⟨rfl, TLe.eq (by simp [*] <;> rfl), rfl, rfl⟩
  rw [if_neg g3]
  by_cases g4 : o = 8
  · rw [if_pos g4]
    subst g4
    all_goals (
      refine fn_ruleM (C := ⟨Tryd.prog, layF, Tryd.f31.ntmps, ΓC, 3, [], []⟩) layF_ok mixed Tryd.func31 rfl (by kernel_rfl) rfl rfl rfl ?_
      repeat' (first | refine ex_true (by first | decide | omega | assumption | (with_reducible exact rfl)) ?_ | refine ex_false (by first | decide | omega | assumption | exact (fun h => h rfl)) ?_ | refine ex_dec (fun _ => ?_) (fun _ => ?_) | refine ex_u8 _ rfl (by omega) (by omega) ?_ | refine ex_i64 _ rfl (by omega) (by omega) ?_ | refine ex_u64 _ rfl (by omega) (by omega) ?_ | refine and_mk (by first | omega | (with_reducible rfl) | (show drawOk _ _ _ = true; kernel_rfl)) ?_ | refine and_mk ⟨_, rfl⟩ ?_ | refine ex_is _ (List.length_map _) ?_ | refine ex_is _ List.length_nil ?_ | fail "no step")
      )
    all_goals first | exact ⟨rfl, TLe.eq (by rw [decide_eq_true (by omega)]; first | rfl | (simp [*]; rfl)), rfl, rfl⟩ | exact ⟨rfl, TLe.eq (by rw [decide_eq_false (by omega)]; first | rfl | (simp [*]; rfl)), rfl, rfl⟩ | exact ⟨rfl, TLe.eq (by simp [*] <;> rfl), rfl, rfl⟩
  rw [if_neg g4]
  by_cases g5 : o = 20 ∨ o = 21 ∨ o = 22
  · rw [if_pos g5]
    rcases g5 with rfl | rfl | rfl
    all_goals (
      refine fn_ruleM (C := ⟨Tryd.prog, layF, Tryd.f31.ntmps, ΓC, 3, [], []⟩) layF_ok mixed Tryd.func31 rfl (by kernel_rfl) rfl rfl rfl ?_
      repeat' (first | refine ex_callMB hpa (fun _ => ?_) (fun _ => ?_) | refine ex_true (by first | decide | omega | assumption | (with_reducible exact rfl)) ?_ | refine ex_false (by first | decide | omega | assumption | exact (fun h => h rfl)) ?_ | refine ex_dec (fun _ => ?_) (fun _ => ?_) | refine ex_u8 _ rfl (by omega) (by omega) ?_ | refine ex_i64 _ rfl (by omega) (by omega) ?_ | refine ex_u64 _ rfl (by omega) (by omega) ?_ | refine and_mk (by first | omega | (with_reducible rfl) | (show drawOk _ _ _ = true; kernel_rfl)) ?_ | refine and_mk ⟨_, rfl⟩ ?_ | refine ex_is _ (List.length_map _) ?_ | refine ex_is _ List.length_nil ?_ | fail "no step")
      )
    all_goals first | exact ⟨rfl, TLe.eq (by rw [decide_eq_true (by omega)]; first | rfl | (simp [*]; rfl)), rfl, rfl⟩ | exact ⟨rfl, TLe.eq (by rw [decide_eq_false (by omega)]; first | rfl | (simp [*]; rfl)), rfl, rfl⟩ | exact ⟨rfl, TLe.eq (by simp [*] <;> rfl), rfl, rfl⟩
  rw [if_neg g5]
  by_cases g6 : o = 25
  · rw [if_pos g6]
    subst g6
    all_goals (
      refine fn_ruleM (C := ⟨Tryd.prog, layF, Tryd.f31.ntmps, ΓC, 3, [], []⟩) layF_ok mixed Tryd.func31 rfl (by kernel_rfl) rfl rfl rfl ?_
      repeat' (first | refine ex_callMB hpb (fun _ => ?_) (fun _ => ?_) | refine ex_callMB ha (fun _ => ?_) (fun _ => ?_) | refine ex_true (by first | decide | omega | assumption | (with_reducible exact rfl)) ?_ | refine ex_false (by first | decide | omega | assumption | exact (fun h => h rfl)) ?_ | refine ex_dec (fun _ => ?_) (fun _ => ?_) | refine ex_u8 _ rfl (by omega) (by omega) ?_ | refine ex_i64 _ rfl (by omega) (by omega) ?_ | refine ex_u64 _ rfl (by omega) (by omega) ?_ | refine and_mk (by first | omega | (with_reducible rfl) | (show drawOk _ _ _ = true; kernel_rfl)) ?_ | refine and_mk ⟨_, rfl⟩ ?_ | refine ex_is _ (List.length_map _) ?_ | refine ex_is _ List.length_nil ?_ | fail "no step")
      )
    all_goals first | exact ⟨rfl, TLe.eq (by rw [decide_eq_true (by omega)]; first | rfl | (simp [*]; rfl)), rfl, rfl⟩ | exact ⟨rfl, TLe.eq (by rw [decide_eq_false (by omega)]; first | rfl | (simp [*]; rfl)), rfl, rfl⟩ | exact ⟨rfl, TLe.eq (by simp [*] <;> rfl), rfl, rfl⟩
  rw [if_neg g6]
  by_cases g7 : o = 28
  · rw [if_pos g7]
    subst g7
    all_goals (
      refine fn_ruleM (C := ⟨Tryd.prog, layF, Tryd.f31.ntmps, ΓC, 3, [], []⟩) layF_ok mixed Tryd.func31 rfl (by kernel_rfl) rfl rfl rfl ?_
      repeat' (first | refine ex_true (by first | decide | omega | assumption | (with_reducible exact rfl)) ?_ | refine ex_false (by first | decide | omega | assumption | exact (fun h => h rfl)) ?_ | refine ex_dec (fun _ => ?_) (fun _ => ?_) | refine ex_u8 _ rfl (by omega) (by omega) ?_ | refine ex_i64 _ rfl (by omega) (by omega) ?_ | refine ex_u64 _ rfl (by omega) (by omega) ?_ | refine and_mk (by first | omega | (with_reducible rfl) | (show drawOk _ _ _ = true; kernel_rfl)) ?_ | refine and_mk ⟨_, rfl⟩ ?_ | refine ex_is _ (List.length_map _) ?_ | refine ex_is _ List.length_nil ?_ | fail "no step")
      )
    all_goals first | exact ⟨rfl, TLe.eq (by rw [decide_eq_true (by omega)]; first | rfl | (simp [*]; rfl)), rfl, rfl⟩ | exact ⟨rfl, TLe.eq (by rw [decide_eq_false (by omega)]; first | rfl | (simp [*]; rfl)), rfl, rfl⟩ | exact ⟨rfl, TLe.eq (by simp [*] <;> rfl), rfl, rfl⟩
  rw [if_neg g7]
  by_cases g8 : o = 14
  · rw [if_pos g8]
    subst g8
    all_goals (
      refine fn_ruleM (C := ⟨Tryd.prog, layF, Tryd.f31.ntmps, ΓC, 3, [], []⟩) layF_ok mixed Tryd.func31 rfl (by kernel_rfl) rfl rfl rfl ?_
      repeat' (first | refine ex_true (by first | decide | omega | assumption | (with_reducible exact rfl)) ?_ | refine ex_false (by first | decide | omega | assumption | exact (fun h => h rfl)) ?_ | refine ex_dec (fun _ => ?_) (fun _ => ?_) | refine ex_u8 _ rfl (by omega) (by omega) ?_ | refine ex_i64 _ rfl (by omega) (by omega) ?_ | refine ex_u64 _ rfl (by omega) (by omega) ?_ | refine and_mk (by first | omega | (with_reducible rfl) | (show drawOk _ _ _ = true; kernel_rfl)) ?_ | refine and_mk ⟨_, rfl⟩ ?_ | refine ex_is _ (List.length_map _) ?_ | refine ex_is _ List.length_nil ?_ | fail "no step")
      )
    all_goals first | exact ⟨rfl, TLe.eq (by rw [decide_eq_true (by omega)]; first | rfl | (simp [*]; rfl)), rfl, rfl⟩ | exact ⟨rfl, TLe.eq (by rw [decide_eq_false (by omega)]; first | rfl | (simp [*]; rfl)), rfl, rfl⟩ | exact ⟨rfl, TLe.eq (by simp [*] <;> rfl), rfl, rfl⟩
  rw [if_neg g8]
  by_cases g9 : o = 30
  · rw [if_pos g9]
    subst g9
    all_goals (
      refine fn_ruleM (C := ⟨Tryd.prog, layF, Tryd.f31.ntmps, ΓC, 3, [], []⟩) layF_ok mixed Tryd.func31 rfl (by kernel_rfl) rfl rfl rfl ?_
      repeat' (first | refine ex_callB heb (fun _ => ?_) (fun _ => ?_) | refine ex_callMB ha (fun _ => ?_) (fun _ => ?_) | refine ex_true (by first | decide | omega | assumption | (with_reducible exact rfl)) ?_ | refine ex_false (by first | decide | omega | assumption | exact (fun h => h rfl)) ?_ | refine ex_dec (fun _ => ?_) (fun _ => ?_) | refine ex_u8 _ rfl (by omega) (by omega) ?_ | refine ex_i64 _ rfl (by omega) (by omega) ?_ | refine ex_u64 _ rfl (by omega) (by omega) ?_ | refine and_mk (by first | omega | (with_reducible rfl) | (show drawOk _ _ _ = true; kernel_rfl)) ?_ | refine and_mk ⟨_, rfl⟩ ?_ | refine ex_is _ (List.length_map _) ?_ | refine ex_is _ List.length_nil ?_ | fail "no step")
      )
    all_goals first | exact ⟨rfl, TLe.eq (by rw [decide_eq_true (by omega)]; first | rfl | (simp [*]; rfl)), rfl, rfl⟩ | exact ⟨rfl, TLe.eq (by rw [decide_eq_false (by omega)]; first | rfl | (simp [*]; rfl)), rfl, rfl⟩ | exact ⟨rfl, TLe.eq (by simp [*] <;> rfl), rfl, rfl⟩
  rw [if_neg g9]
  by_cases g10 : o = 31
  · rw [if_pos g10]
    subst g10
    all_goals (
      refine fn_ruleM (C := ⟨Tryd.prog, layF, Tryd.f31.ntmps, ΓC, 3, [], []⟩) layF_ok mixed Tryd.func31 rfl (by kernel_rfl) rfl rfl rfl ?_
      repeat' (first | refine ex_callB hea (fun _ => ?_) (fun _ => ?_) | refine ex_true (by first | decide | omega | assumption | (with_reducible exact rfl)) ?_ | refine ex_false (by first | decide | omega | assumption | exact (fun h => h rfl)) ?_ | refine ex_dec (fun _ => ?_) (fun _ => ?_) | refine ex_u8 _ rfl (by omega) (by omega) ?_ | refine ex_i64 _ rfl (by omega) (by omega) ?_ | refine ex_u64 _ rfl (by omega) (by omega) ?_ | refine and_mk (by first | omega | (with_reducible rfl) | (show drawOk _ _ _ = true; kernel_rfl)) ?_ | refine and_mk ⟨_, rfl⟩ ?_ | refine ex_is _ (List.length_map _) ?_ | refine ex_is _ List.length_nil ?_ | fail "no step")
      )
    all_goals first | exact ⟨rfl, TLe.eq (by rw [decide_eq_true (by omega)]; first | rfl | (simp [*]; rfl)), rfl, rfl⟩ | exact ⟨rfl, TLe.eq (by rw [decide_eq_false (by omega)]; first | rfl | (simp [*]; rfl)), rfl, rfl⟩ | exact ⟨rfl, TLe.eq (by simp [*] <;> rfl), rfl, rfl⟩
  rw [if_neg g10]
  generalize bs (opF o).1 = nm at *
  by_cases hr : 0 ≤ o ∧ o < 36
  · have hnn : ¬ nm = ByteArray.empty := by rw [hne]; exact fun q => q hr
    rw [decide_eq_true hr]
    refine fn_ruleM (C := ⟨Tryd.prog, layF, Tryd.f31.ntmps, ΓC, 3, [], []⟩) layF_ok mixed Tryd.func31 rfl (by kernel_rfl) rfl rfl rfl ?_
    repeat' (first | refine ex_call hn ?_ | refine ex_true (by first | decide | omega | assumption | (with_reducible exact rfl)) ?_ | refine ex_false (by first | decide | omega | assumption | exact (fun h => h rfl)) ?_ | refine ex_dec (fun _ => ?_) (fun _ => ?_) | refine ex_u8 _ rfl (by omega) (by omega) ?_ | refine ex_i64 _ rfl (by omega) (by omega) ?_ | refine ex_u64 _ rfl (by omega) (by omega) ?_ | refine and_mk (by first | omega | (with_reducible rfl) | (show drawOk _ _ _ = true; kernel_rfl)) ?_ | refine and_mk ⟨_, rfl⟩ ?_ | refine ex_is _ (List.length_map _) ?_ | refine ex_is _ List.length_nil ?_ | fail "no step")
    exact ⟨rfl, TLe.rfl, rfl, rfl⟩
  · have hnn : nm = ByteArray.empty := by rw [hne]; exact hr
    subst hnn
    rw [decide_eq_false hr]
    refine fn_ruleM (C := ⟨Tryd.prog, layF, Tryd.f31.ntmps, ΓC, 3, [], []⟩) layF_ok mixed Tryd.func31 rfl (by kernel_rfl) rfl rfl rfl ?_
    repeat' (first | refine ex_call hn ?_ | refine ex_true (by first | decide | omega | assumption | (with_reducible exact rfl)) ?_ | refine ex_false (by first | decide | omega | assumption | exact (fun h => h rfl)) ?_ | refine ex_dec (fun _ => ?_) (fun _ => ?_) | refine ex_u8 _ rfl (by omega) (by omega) ?_ | refine ex_i64 _ rfl (by omega) (by omega) ?_ | refine ex_u64 _ rfl (by omega) (by omega) ?_ | refine and_mk (by first | omega | (with_reducible rfl) | (show drawOk _ _ _ = true; kernel_rfl)) ?_ | refine and_mk ⟨_, rfl⟩ ?_ | refine ex_is _ (List.length_map _) ?_ | refine ex_is _ List.length_nil ?_ | fail "no step")
    exact ⟨rfl, TLe.rfl, rfl, rfl⟩
end
end Go.Proofs.YtgfmbkbiingagaaDoor

namespace Go.Proofs.YtgfmbkbiingagaaDoor
set_option linter.unusedVariables false
set_option linter.unusedSimpArgs false
open Go.RowKit
set_option maxRecDepth 100000

theorem ext_drop (r : List UInt8) (n : Nat) (h : n ≤ r.length) : (bs r).extract (n : Int).toNat ((bs r).size : Int).toNat = bs (r.drop n) := by
  apply ByteArray.ext
  rw [ByteArray.data_extract, Int.toNat_natCast, Int.toNat_natCast, bs_size]
  apply Array.ext'
  simp only [List.extract_toArray, List.extract_eq_take_drop]
  exact List.take_of_length_le (by simp)
theorem ext_take (r : List UInt8) (n : Nat) : (bs r).extract (0 : Int).toNat (n : Int).toNat = bs (r.take n) := by
  apply ByteArray.ext
  rw [ByteArray.data_extract, Int.toNat_natCast]
  apply Array.ext'
  simp [List.extract_eq_take_drop]
theorem opens_two (o : Int) : ((opensV o).2 = [] ∨ ∃ c, (opensV o).2 = [c]) ∧ ((opensV o).1 = [] ∨ ∃ c, (opensV o).1 = [c]) := by
  unfold opensV
  repeat' split
  all_goals simp
theorem bs_nil {l : List UInt8} : bs l = ByteArray.empty ↔ l = [] := ⟨fun h => by
  have := congrArg (fun b => b.data.toList) h
  simpa using this, fun h => by rw [h]; rfl⟩
theorem numbers_call {f : FN} {fn : Nat} {fr tt : Int} {x : IN} (h : numbersV f fn fr tt x = true) (h28 : x.o = 28) : 0 ≤ x.a ∧ x.a < fn := by
  unfold numbersV at h
  rw [h28] at h
  simpa using h
section
variable (fs : List FN) (cs : List IN) (fn : Nat) (fr tt : Int) (g : SG)
set_option maxHeartbeats 4000000 in
theorem fits_c {f : FN} (hf : fs[fn]? = some f) (hfl : fs.length ≤ 1000000) (x : IN) (s : SS) (hs : s.o.length ≤ 1000000) : CallsM Tryd.prog ΓC 23 (ckM fs cs fn fr tt g) 3 [.c (.ptr 0 0), gD (inD x), gD (ssD s)] (Tb (fitsV fs fn fr tt x s)) (ckM fs cs fn fr tt g) [] := by
  have hN := (numbers_c' fs cs fn fr tt g hf x).ren [0, 1, 2] 5 rfl rfl rfl rfl
  have hlt : fn < fs.length := (List.getElem?_eq_some_iff.1 hf).1
  have hT : numbersV f fn fr tt x = true → CallsM Tryd.prog ΓC 32 (ckM fs cs fn fr tt g) 5 [.c (.ptr 0 0), gD (inD x)] (Ti (takesV fs x)) (ckM fs cs fn fr tt g) [] := fun h => by
    by_cases h28 : x.o = 28
    · obtain ⟨h1, h2⟩ := numbers_call h h28
      have hx : fs[x.a.toNat]? = some (fs[x.a.toNat]'(by omega)) := at_some (by omega)
      exact (ctakes_c fs cs fn fr tt g (x := x) (f := fs[x.a.toNat]'(by omega)) (fun _ => ⟨x.a.toNat, by omega, hx⟩)).ren [0, 1, 2] 5 rfl rfl rfl rfl
    · exact (ctakes_c fs cs fn fr tt g (x := x) (f := zF) (fun h => absurd h h28)).ren [0, 1, 2] 5 rfl rfl rfl rfl
  have hO := (opens_c x.o).of0 (Γ := ΓC)
  have hM := (makes_c x.o).of0 (Γ := ΓC)
  have hI := (inside_c s hs).of0 (Γ := ΓC)
  unfold fitsV
  rw [show fs.getD fn zF = f by rw [List.getD, hf]; rfl]
  obtain ⟨o, a, b, n⟩ := x
  obtain ⟨k, so, m, w⟩ := s
  dsimp only at *
  change CallsM _ _ _ _ _ [_, gD [di o, di a, di b, du n], gD [di k, ds (bs so), db m, db w]] _ _ _
  have hM' : CallsA Tryd.prog ΓC 34 [c1 (di o)] (Tb (makesV o)) := hM
  cases hnv : numbersV f fn fr tt ⟨o, a, b, n⟩ with
  | false =>
    rw [hnv] at hN
    refine fn_ruleM (C := ⟨Tryd.prog, layF, Tryd.f23.ntmps, ΓC, 3, [], []⟩) layF_ok mixed Tryd.func23 rfl (by kernel_rfl) rfl rfl rfl ?_
    repeat' (first | refine (ex_callM hN) ?_ | refine ex_true (by first | decide | omega | assumption | (with_reducible exact rfl)) ?_ | refine ex_false (by first | decide | omega | assumption | exact (fun h => h rfl)) ?_ | refine ex_dec (fun _ => ?_) (fun _ => ?_) | refine ex_u8 _ rfl (by omega) (by omega) ?_ | refine ex_i64 _ rfl (by omega) (by omega) ?_ | refine ex_u64 _ rfl (by omega) (by omega) ?_ | refine and_mk (by first | omega | (with_reducible rfl) | (show drawOk _ _ _ = true; kernel_rfl)) ?_ | refine and_mk ⟨_, rfl⟩ ?_ | refine ex_is _ (List.length_map _) ?_ | refine ex_is _ List.length_nil ?_ | fail "no step")
    exact ⟨rfl, TLe.eq (by rw [if_pos (.inl rfl)]; rfl), rfl, rfl⟩
  | true =>
    replace hT := hT hnv
    rw [hnv] at hN
    generalize htk : takesV fs ⟨o, a, b, n⟩ = tk at *
    obtain ⟨hcl, hop⟩ := opens_two o
    generalize (opensV o).2 = cl at *
    generalize (opensV o).1 = ol at *
    generalize makesV o = mk at *
    generalize hin : insideV ⟨k, so, m, w⟩ = ins at *
    have hsz := bs_size so
    have hss : so ≠ [] → (bs so).extract (((bs so).size : Int) - 1).toNat ((bs so).size : Int).toNat = bs (so.drop (so.length - 1)) := fun h => by
      have h0 : 0 < so.length := List.length_pos_iff.2 h
      have := ext_drop so (so.length - 1) (by omega)
      rw [← this]
      congr 2
      rw [hsz]; omega
    have hne0 : bs so = ByteArray.empty ↔ so = [] := bs_nil
    have hnec : bs cl = ByteArray.empty ↔ cl = [] := bs_nil
    by_cases hk : k < tk
    ·
      refine fn_ruleM (C := ⟨Tryd.prog, layF, Tryd.f23.ntmps, ΓC, 3, [], []⟩) layF_ok mixed Tryd.func23 rfl (by kernel_rfl) rfl rfl rfl ?_
      repeat' (first | refine (ex_callM hT) ?_ | refine (ex_callM hN) ?_ | refine ex_true (by first | decide | omega | assumption | (with_reducible exact rfl)) ?_ | refine ex_false (by first | decide | omega | assumption | exact (fun h => h rfl)) ?_ | refine ex_dec (fun _ => ?_) (fun _ => ?_) | refine ex_u8 _ rfl (by omega) (by omega) ?_ | refine ex_i64 _ rfl (by omega) (by omega) ?_ | refine ex_u64 _ rfl (by omega) (by omega) ?_ | refine and_mk (by first | omega | (with_reducible rfl) | (show drawOk _ _ _ = true; kernel_rfl)) ?_ | refine and_mk ⟨_, rfl⟩ ?_ | refine ex_is _ (List.length_map _) ?_ | refine ex_is _ List.length_nil ?_ | fail "no step")
      exact ⟨rfl, TLe.eq (by rw [if_pos (.inr hk)]; rfl), rfl, rfl⟩
    · rw [if_neg (by simp [hk])]
      refine fn_ruleM (C := ⟨Tryd.prog, layF, Tryd.f23.ntmps, ΓC, 3, [4,6,8,10], []⟩) layF_ok mixed Tryd.func23 rfl (by kernel_rfl) rfl rfl rfl ?_
      repeat' (first | refine ex_call hO ?_ | refine (ex_callM hT) ?_ | refine (ex_callM hN) ?_ | refine ex_true (by first | decide | omega | assumption | (with_reducible exact rfl)) ?_ | refine ex_false (by first | decide | omega | assumption | exact (fun h => h rfl)) ?_ | refine ex_dec (fun _ => ?_) (fun _ => ?_) | refine ex_u8 _ rfl (by omega) (by omega) ?_ | refine ex_i64 _ rfl (by omega) (by omega) ?_ | refine ex_u64 _ rfl (by omega) (by omega) ?_ | refine and_mk (by first | omega | (with_reducible rfl) | (show drawOk _ _ _ = true; kernel_rfl)) ?_ | refine and_mk ⟨_, rfl⟩ ?_ | refine ex_is _ (List.length_map _) ?_ | refine ex_is _ List.length_nil ?_ | fail "no step")
      refine ex_join (X := Bool) (fun v => ⟨[(0, .o (.c (.ptr 0 0))), (4, .o (.c (.ptr 3 0))), (5, .o (.c (.ptr 4 0))), (27, Tb v)], (3, .obj [.d (di o), .d (di a), .d (di b), .d (du n)]) :: (4, .obj [.d (di k), .d (ds (bs so)), .d (db m), .d (db w)]) :: ckM fs cs fn fr tt g, 5⟩) (fun v => (v = true ↔ (cl ≠ [] ∧ lastIs so cl = false))) ?_ ?_
      · have hla : lastIs so cl = false ↔ ¬ (so ≠ [] ∧ so.drop (so.length - 1) = cl) := by simp [lastIs]
        by_cases hc : cl = []
        · subst hc
          repeat' (first | refine ex_true (by first | decide | omega | assumption | (with_reducible exact rfl)) ?_ | refine ex_false (by first | decide | omega | assumption | exact (fun h => h rfl)) ?_ | refine ex_dec (fun _ => ?_) (fun _ => ?_) | refine ex_u8 _ rfl (by omega) (by omega) ?_ | refine ex_i64 _ rfl (by omega) (by omega) ?_ | refine ex_u64 _ rfl (by omega) (by omega) ?_ | refine and_mk (by first | omega | (with_reducible rfl) | (show drawOk _ _ _ = true; kernel_rfl)) ?_ | refine and_mk ⟨_, rfl⟩ ?_ | refine ex_is _ (List.length_map _) ?_ | refine ex_is _ List.length_nil ?_ | fail "no step")
          exact ex_meet false (by simp) (SLe.of ⟨⟨rfl, rfl, rfl, rfl, trivial⟩, ⟨rfl, rfl, rfl, rfl, rfl, trivial⟩⟩)
        · have e1 : ¬ bs cl = ByteArray.empty := fun h => hc (hnec.1 h)
          by_cases hso : so = []
          · subst hso
            repeat' (first | refine ex_true (by first | decide | omega | assumption | (with_reducible exact rfl)) ?_ | refine ex_false (by first | decide | omega | assumption | exact (fun h => h rfl)) ?_ | refine ex_dec (fun _ => ?_) (fun _ => ?_) | refine ex_u8 _ rfl (by omega) (by omega) ?_ | refine ex_i64 _ rfl (by omega) (by omega) ?_ | refine ex_u64 _ rfl (by omega) (by omega) ?_ | refine and_mk (by first | omega | (with_reducible rfl) | (show drawOk _ _ _ = true; kernel_rfl)) ?_ | refine and_mk ⟨_, rfl⟩ ?_ | refine ex_is _ (List.length_map _) ?_ | refine ex_is _ List.length_nil ?_ | fail "no step")
            exact ex_meet true ⟨fun _ => ⟨hc, hla.2 (fun h => h.1 rfl)⟩, fun _ => rfl⟩ (SLe.of ⟨⟨rfl, rfl, rfl, rfl, trivial⟩, ⟨rfl, rfl, rfl, rfl, rfl, trivial⟩⟩)
          · have e2 : ¬ bs so = ByteArray.empty := fun h => hso (hne0.1 h)
            have h1 : 0 < so.length := List.length_pos_iff.2 hso
            have h2 := hss hso
            have h3 : bs (so.drop (so.length - 1)) = bs cl ↔ so.drop (so.length - 1) = cl := ⟨fun h => by have := congrArg (fun b => b.data.toList) h; simpa using this, fun h => by rw [h]⟩
            repeat' (first | refine ex_true (by first | decide | omega | assumption | (with_reducible exact rfl)) ?_ | refine ex_false (by first | decide | omega | assumption | exact (fun h => h rfl)) ?_ | refine ex_dec (fun _ => ?_) (fun _ => ?_) | refine ex_u8 _ rfl (by omega) (by omega) ?_ | refine ex_i64 _ rfl (by omega) (by omega) ?_ | refine ex_u64 _ rfl (by omega) (by omega) ?_ | refine and_mk (by first | omega | (with_reducible rfl) | (show drawOk _ _ _ = true; kernel_rfl)) ?_ | refine and_mk ⟨_, rfl⟩ ?_ | refine ex_is _ (List.length_map _) ?_ | refine ex_is _ List.length_nil ?_ | fail "no step")
            · rename_i x
              simp only [ne_eq, h2, h3] at x
              exact ex_meet true ⟨fun _ => ⟨hc, hla.2 (fun h => x h.2)⟩, fun _ => rfl⟩ (SLe.of ⟨⟨rfl, rfl, rfl, rfl, trivial⟩, ⟨rfl, rfl, rfl, rfl, rfl, trivial⟩⟩)
            · rename_i x
              simp only [ne_eq, h2, h3] at x
              exact ex_meet false ⟨fun h => (by cases h), fun h => absurd ⟨hso, Classical.not_not.1 x⟩ (hla.1 h.2)⟩ (SLe.of ⟨⟨rfl, rfl, rfl, rfl, trivial⟩, ⟨rfl, rfl, rfl, rfl, rfl, trivial⟩⟩)
      · intro v hj
        cases v with
        | true =>
          rw [if_pos (hj.1 rfl)]
          repeat' (first | refine ex_true (by first | decide | omega | assumption | (with_reducible exact rfl)) ?_ | refine ex_false (by first | decide | omega | assumption | exact (fun h => h rfl)) ?_ | refine ex_dec (fun _ => ?_) (fun _ => ?_) | refine ex_u8 _ rfl (by omega) (by omega) ?_ | refine ex_i64 _ rfl (by omega) (by omega) ?_ | refine ex_u64 _ rfl (by omega) (by omega) ?_ | refine and_mk (by first | omega | (with_reducible rfl) | (show drawOk _ _ _ = true; kernel_rfl)) ?_ | refine and_mk ⟨_, rfl⟩ ?_ | refine ex_is _ (List.length_map _) ?_ | refine ex_is _ List.length_nil ?_ | fail "no step")
          exact ⟨rfl, TLe.rfl, rfl, rfl⟩
        | false =>
          rw [if_neg (fun h => by have := hj.2 h; cases this)]
          repeat' (first | refine ex_true (by first | decide | omega | assumption | (with_reducible exact rfl)) ?_ | refine ex_false (by first | decide | omega | assumption | exact (fun h => h rfl)) ?_ | refine ex_dec (fun _ => ?_) (fun _ => ?_) | refine ex_u8 _ rfl (by omega) (by omega) ?_ | refine ex_i64 _ rfl (by omega) (by omega) ?_ | refine ex_u64 _ rfl (by omega) (by omega) ?_ | refine and_mk (by first | omega | (with_reducible rfl) | (show drawOk _ _ _ = true; kernel_rfl)) ?_ | refine and_mk ⟨_, rfl⟩ ?_ | refine ex_is _ (List.length_map _) ?_ | refine ex_is _ List.length_nil ?_ | fail "no step")
          refine ex_join (X := Bool) (fun v => ⟨[(0, .o (.c (.ptr 0 0))), (4, .o (.c (.ptr 3 0))), (5, .o (.c (.ptr 4 0))), (46, Tb v)], (3, .obj [.d (di o), .d (di a), .d (di b), .d (du n)]) :: (4, .obj [.d (di k), .d (ds (bs so)), .d (db m), .d (db w)]) :: ckM fs cs fn fr tt g, 5⟩) (fun v => (v = true ↔ (mk = true ∧ m = true ∧ ins = false))) ?_ ?_
          · cases m
            all_goals (
              repeat' (first | refine ex_callB hI (fun _ => ?_) (fun _ => ?_) | refine ex_callB hM' (fun _ => ?_) (fun _ => ?_) | refine ex_true (by first | decide | omega | assumption | (with_reducible exact rfl)) ?_ | refine ex_false (by first | decide | omega | assumption | exact (fun h => h rfl)) ?_ | refine ex_dec (fun _ => ?_) (fun _ => ?_) | refine ex_u8 _ rfl (by omega) (by omega) ?_ | refine ex_i64 _ rfl (by omega) (by omega) ?_ | refine ex_u64 _ rfl (by omega) (by omega) ?_ | refine and_mk (by first | omega | (with_reducible rfl) | (show drawOk _ _ _ = true; kernel_rfl)) ?_ | refine and_mk ⟨_, rfl⟩ ?_ | refine ex_is _ (List.length_map _) ?_ | refine ex_is _ List.length_nil ?_ | fail "no step")
              )
            all_goals first | exact ex_meet true (by clear hN hT hO hM hM' hI hf; grind) (SLe.of ⟨⟨rfl, rfl, rfl, rfl, trivial⟩, ⟨rfl, rfl, rfl, rfl, rfl, trivial⟩⟩) | exact ex_meet false (by clear hN hT hO hM hM' hI hf; grind) (SLe.of ⟨⟨rfl, rfl, rfl, rfl, trivial⟩, ⟨rfl, rfl, rfl, rfl, rfl, trivial⟩⟩)
          intro v hv
          cases v with
          | true =>
            rw [if_pos (hv.1 rfl)]
            repeat' (first | refine ex_true (by first | decide | omega | assumption | (with_reducible exact rfl)) ?_ | refine ex_false (by first | decide | omega | assumption | exact (fun h => h rfl)) ?_ | refine ex_dec (fun _ => ?_) (fun _ => ?_) | refine ex_u8 _ rfl (by omega) (by omega) ?_ | refine ex_i64 _ rfl (by omega) (by omega) ?_ | refine ex_u64 _ rfl (by omega) (by omega) ?_ | refine and_mk (by first | omega | (with_reducible rfl) | (show drawOk _ _ _ = true; kernel_rfl)) ?_ | refine and_mk ⟨_, rfl⟩ ?_ | refine ex_is _ (List.length_map _) ?_ | refine ex_is _ List.length_nil ?_ | fail "no step")
            exact ⟨rfl, TLe.rfl, rfl, rfl⟩
          | false =>
            rw [if_neg (fun h => by have := hv.2 h; cases this)]
            repeat' (first | refine ex_true (by first | decide | omega | assumption | (with_reducible exact rfl)) ?_ | refine ex_false (by first | decide | omega | assumption | exact (fun h => h rfl)) ?_ | refine ex_dec (fun _ => ?_) (fun _ => ?_) | refine ex_u8 _ rfl (by omega) (by omega) ?_ | refine ex_i64 _ rfl (by omega) (by omega) ?_ | refine ex_u64 _ rfl (by omega) (by omega) ?_ | refine and_mk (by first | omega | (with_reducible rfl) | (show drawOk _ _ _ = true; kernel_rfl)) ?_ | refine and_mk ⟨_, rfl⟩ ?_ | refine ex_is _ (List.length_map _) ?_ | refine ex_is _ List.length_nil ?_ | fail "no step")
            refine ex_join (X := Bool) (fun v => ⟨[(0, .o (.c (.ptr 0 0))), (4, .o (.c (.ptr 3 0))), (5, .o (.c (.ptr 4 0))), (59, Tb v)], (3, .obj [.d (di o), .d (di a), .d (di b), .d (du n)]) :: (4, .obj [.d (di k), .d (ds (bs so)), .d (db m), .d (db w)]) :: ckM fs cs fn fr tt g, 5⟩) (fun v => (v = true ↔ (o = 8 ∧ w = false))) ?_ ?_
            · cases w
              all_goals (
                repeat' (first | refine ex_true (by first | decide | omega | assumption | (with_reducible exact rfl)) ?_ | refine ex_false (by first | decide | omega | assumption | exact (fun h => h rfl)) ?_ | refine ex_dec (fun _ => ?_) (fun _ => ?_) | refine ex_u8 _ rfl (by omega) (by omega) ?_ | refine ex_i64 _ rfl (by omega) (by omega) ?_ | refine ex_u64 _ rfl (by omega) (by omega) ?_ | refine and_mk (by first | omega | (with_reducible rfl) | (show drawOk _ _ _ = true; kernel_rfl)) ?_ | refine and_mk ⟨_, rfl⟩ ?_ | refine ex_is _ (List.length_map _) ?_ | refine ex_is _ List.length_nil ?_ | fail "no step")
                )
              all_goals first | exact ex_meet true (by clear hN hT hO hM hM' hI hf; grind) (SLe.of ⟨⟨rfl, rfl, rfl, rfl, trivial⟩, ⟨rfl, rfl, rfl, rfl, rfl, trivial⟩⟩) | exact ex_meet false (by clear hN hT hO hM hM' hI hf; grind) (SLe.of ⟨⟨rfl, rfl, rfl, rfl, trivial⟩, ⟨rfl, rfl, rfl, rfl, rfl, trivial⟩⟩)
            intro v hv
            cases v with
            | true =>
              rw [if_pos (hv.1 rfl)]
              repeat' (first | refine ex_true (by first | decide | omega | assumption | (with_reducible exact rfl)) ?_ | refine ex_false (by first | decide | omega | assumption | exact (fun h => h rfl)) ?_ | refine ex_dec (fun _ => ?_) (fun _ => ?_) | refine ex_u8 _ rfl (by omega) (by omega) ?_ | refine ex_i64 _ rfl (by omega) (by omega) ?_ | refine ex_u64 _ rfl (by omega) (by omega) ?_ | refine and_mk (by first | omega | (with_reducible rfl) | (show drawOk _ _ _ = true; kernel_rfl)) ?_ | refine and_mk ⟨_, rfl⟩ ?_ | refine ex_is _ (List.length_map _) ?_ | refine ex_is _ List.length_nil ?_ | fail "no step")
              exact ⟨rfl, TLe.rfl, rfl, rfl⟩
            | false =>
              rw [if_neg (fun h => by have := hv.2 h; cases this)]
              repeat' (first | refine ex_true (by first | decide | omega | assumption | (with_reducible exact rfl)) ?_ | refine ex_false (by first | decide | omega | assumption | exact (fun h => h rfl)) ?_ | refine ex_dec (fun _ => ?_) (fun _ => ?_) | refine ex_u8 _ rfl (by omega) (by omega) ?_ | refine ex_i64 _ rfl (by omega) (by omega) ?_ | refine ex_u64 _ rfl (by omega) (by omega) ?_ | refine and_mk (by first | omega | (with_reducible rfl) | (show drawOk _ _ _ = true; kernel_rfl)) ?_ | refine and_mk ⟨_, rfl⟩ ?_ | refine ex_is _ (List.length_map _) ?_ | refine ex_is _ List.length_nil ?_ | fail "no step")
              refine ex_join (X := Bool) (fun v => ⟨[(0, .o (.c (.ptr 0 0))), (4, .o (.c (.ptr 3 0))), (5, .o (.c (.ptr 4 0))), (68, Tb v)], (3, .obj [.d (di o), .d (di a), .d (di b), .d (du n)]) :: (4, .obj [.d (di k), .d (ds (bs so)), .d (db m), .d (db w)]) :: ckM fs cs fn fr tt g, 5⟩) (fun v => (v = true ↔ (o = 29 ∨ o = 35))) ?_ ?_
              · repeat' (first | refine ex_true (by first | decide | omega | assumption | (with_reducible exact rfl)) ?_ | refine ex_false (by first | decide | omega | assumption | exact (fun h => h rfl)) ?_ | refine ex_dec (fun _ => ?_) (fun _ => ?_) | refine ex_u8 _ rfl (by omega) (by omega) ?_ | refine ex_i64 _ rfl (by omega) (by omega) ?_ | refine ex_u64 _ rfl (by omega) (by omega) ?_ | refine and_mk (by first | omega | (with_reducible rfl) | (show drawOk _ _ _ = true; kernel_rfl)) ?_ | refine and_mk ⟨_, rfl⟩ ?_ | refine ex_is _ (List.length_map _) ?_ | refine ex_is _ List.length_nil ?_ | fail "no step")
                all_goals first | exact ex_meet true (by clear hN hT hO hM hM' hI hf; grind) (SLe.of ⟨⟨rfl, rfl, rfl, rfl, trivial⟩, ⟨rfl, rfl, rfl, rfl, rfl, trivial⟩⟩) | exact ex_meet false (by clear hN hT hO hM hM' hI hf; grind) (SLe.of ⟨⟨rfl, rfl, rfl, rfl, trivial⟩, ⟨rfl, rfl, rfl, rfl, rfl, trivial⟩⟩)
              intro v hv
              cases v with
              | false =>
                rw [if_neg (fun h => by have := hv.2 h; cases this)]
                repeat' (first | refine ex_true (by first | decide | omega | assumption | (with_reducible exact rfl)) ?_ | refine ex_false (by first | decide | omega | assumption | exact (fun h => h rfl)) ?_ | refine ex_dec (fun _ => ?_) (fun _ => ?_) | refine ex_u8 _ rfl (by omega) (by omega) ?_ | refine ex_i64 _ rfl (by omega) (by omega) ?_ | refine ex_u64 _ rfl (by omega) (by omega) ?_ | refine and_mk (by first | omega | (with_reducible rfl) | (show drawOk _ _ _ = true; kernel_rfl)) ?_ | refine and_mk ⟨_, rfl⟩ ?_ | refine ex_is _ (List.length_map _) ?_ | refine ex_is _ List.length_nil ?_ | fail "no step")
                exact ⟨rfl, TLe.rfl, rfl, rfl⟩
              | true =>
                rw [if_pos (hv.1 rfl)]
                clear hN hT hO hM hM' hI hf htk hnv hin hss hv hj
                repeat' (first | refine ex_true (by first | decide | omega | assumption | (with_reducible exact rfl)) ?_ | refine ex_false (by first | decide | omega | assumption | exact (fun h => h rfl)) ?_ | refine ex_dec (fun _ => ?_) (fun _ => ?_) | refine ex_u8 _ rfl (by omega) (by omega) ?_ | refine ex_i64 _ rfl (by omega) (by omega) ?_ | refine ex_u64 _ rfl (by omega) (by omega) ?_ | refine and_mk (by first | omega | (with_reducible rfl) | (show drawOk _ _ _ = true; kernel_rfl)) ?_ | refine and_mk ⟨_, rfl⟩ ?_ | refine ex_is _ (List.length_map _) ?_ | refine ex_is _ List.length_nil ?_ | fail "no step")
                all_goals refine ⟨rfl, TLe.eq (show Tb _ = Tb _ from congrArg (fun b => Tb b) ?_), rfl, rfl⟩
                all_goals (cases m <;> grind)
end
end Go.Proofs.YtgfmbkbiingagaaDoor

namespace Go.Proofs.YtgfmbkbiingagaaDoor
set_option linter.unusedVariables false
set_option linter.unusedSimpArgs false
open Go.RowKit
set_option maxRecDepth 100000

section
variable (fs : List FN) (cs : List IN) (fn : Nat) (fr tt : Int) (g : SG)
theorem puts_le (o : Int) : (opF o).2.2.2 ≤ 1 := by
  unfold opF
  split
  · have hk : o.toNat < 36 := by omega
    generalize o.toNat = k at *
    have : ∀ k : Fin 36, (opsL.getD k.1 noneR).2.2.2 ≤ 1 := by decide
    exact this ⟨k, hk⟩
  · decide
set_option maxHeartbeats 4000000 in
theorem next_c {f : FN} (x : IN) (s : SS) (hx : x.o = 28 → ∃ k : Nat, x.a = k ∧ fs[k]? = some f) (hk : 0 ≤ s.k ∧ s.k ≤ 1000000) (ht : 0 ≤ takesV fs x ∧ takesV fs x ≤ s.k) (hs : s.o.length ≤ 1000000) (hc : (opensV x.o).2.length ≤ s.o.length) :
    CallsM Tryd.prog ΓC 24 (ckM fs cs fn fr tt g) 3 [.c (.ptr 0 0), gD (inD x), gD (ssD s)] (.o (gD (ssD (nextV fs x s)))) (ckM fs cs fn fr tt g) [] := by
  have hT := (ctakes_c fs cs fn fr tt g (x := x) (f := f) hx).ren [0, 1, 2] 6 rfl rfl rfl rfl
  have hO := (opens_c x.o).of0 (Γ := ΓC)
  have hP := takes_c x.o
  have hpl := puts_le x.o
  have hM : CallsA Tryd.prog ΓC 34 [c1 (di x.o)] (Tb (makesV x.o)) := (makes_c x.o).of0 (Γ := ΓC)
  have hsz := bs_size s.o
  obtain ⟨hcl, hop⟩ := opens_two x.o
  unfold nextV
  obtain ⟨o, a, b, n⟩ := x
  obtain ⟨k, so, m, w⟩ := s
  dsimp only at *
  change CallsM _ _ _ _ _ [_, gD [di o, di a, di b, du n], gD [di k, ds (bs so), db m, db w]] _ _ _
  generalize takesV fs ⟨o, a, b, n⟩ = tk at *
  generalize (opensV o).2 = cl at *
  generalize (opensV o).1 = ol at *
  generalize makesV o = mk at *
  generalize hpt : (opF o).2.2.2 = pt at *
  have hclz := bs_size cl
  have holz := bs_size ol
  have hol : ol.length ≤ 1 := by rcases hop with rfl | ⟨c, rfl⟩ <;> simp
  have hext : (bs so).extract (0 : Int).toNat (((bs so).size : Int) - (bs cl).size).toNat = bs (so.take (so.length - cl.length)) := by
    have := ext_take so (so.length - cl.length)
    rw [← this]
    congr 2
    rw [hsz, hclz]; omega
  have hI : ∀ (k' : Int), CallsA Tryd.prog ΓC 35 [gD [di k', ds (bs so), db m, db w]] (Tb (so.contains 111)) := fun k' => (inside_c ⟨k', so, m, w⟩ hs).of0 (Γ := ΓC)
  show CallsM _ _ _ _ _ _ (.o (gD [di (k + (pt - tk)), ds (bs (so.take (so.length - cl.length) ++ ol)), db (m || mk && !so.contains 111), db (w || decide (o = 7))])) _ _
  generalize so.contains 111 = ins at *
  refine fn_ruleM (C := ⟨Tryd.prog, layF, Tryd.f24.ntmps, ΓC, 3, [3,4], []⟩) layF_ok mixed Tryd.func24 rfl (by kernel_rfl) rfl rfl rfl ?_
  repeat' (first | refine ex_call hP ?_ | refine ex_call hO ?_ | refine ex_i64 (k + ((pt : Int) - tk)) (by omega) (by omega) (by omega) ?_ | refine ex_u64 (k + ((pt : Int) - tk)) (by omega) (by omega) (by omega) ?_ | refine ex_u8 (k + ((pt : Int) - tk)) (by omega) (by omega) (by omega) ?_ | refine ex_i64 ((pt : Int) - tk) (by omega) (by omega) (by omega) ?_ | refine ex_u64 ((pt : Int) - tk) (by omega) (by omega) (by omega) ?_ | refine ex_u8 ((pt : Int) - tk) (by omega) (by omega) (by omega) ?_ | refine (ex_callM hT) ?_ | refine ex_true (by first | decide | omega | assumption | (with_reducible exact rfl)) ?_ | refine ex_false (by first | decide | omega | assumption | exact (fun h => h rfl)) ?_ | refine ex_dec (fun _ => ?_) (fun _ => ?_) | refine ex_u8 _ rfl (by omega) (by omega) ?_ | refine ex_i64 _ rfl (by omega) (by omega) ?_ | refine ex_u64 _ rfl (by omega) (by omega) ?_ | refine and_mk (by first | omega | (with_reducible rfl) | (show drawOk _ _ _ = true; kernel_rfl)) ?_ | refine and_mk ⟨_, rfl⟩ ?_ | refine ex_is _ (List.length_map _) ?_ | refine ex_is _ List.length_nil ?_ | fail "no step")
  refine ex_join (X := Bool) (fun v => ⟨[(0, .o (.c (.ptr 0 0))), (4, .o (.c (.ptr 3 0))), (5, .o (.c (.ptr 4 0))), (6, .o (.c (.ptr 5 0)))], (3, .obj [.d (di o), .d (di a), .d (di b), .d (du n)]) :: (4, .obj [.d (di (k + (pt - tk))), .d (ds (bs so)), .d (db v), .d (db w)]) :: (5, .obj [.d (di 0), .d (ds ⟨#[]⟩), .d (db false), .d (db false)]) :: ckM fs cs fn fr tt g, 6⟩) (fun v => v = (m || mk && !ins)) ?_ ?_
  · cases m
    all_goals (
      repeat' (first | refine ex_callB (hI _) (fun _ => ?_) (fun _ => ?_) | refine ex_callB hM (fun _ => ?_) (fun _ => ?_) | refine ex_true (by first | decide | omega | assumption | (with_reducible exact rfl)) ?_ | refine ex_false (by first | decide | omega | assumption | exact (fun h => h rfl)) ?_ | refine ex_dec (fun _ => ?_) (fun _ => ?_) | refine ex_u8 _ rfl (by omega) (by omega) ?_ | refine ex_i64 _ rfl (by omega) (by omega) ?_ | refine ex_u64 _ rfl (by omega) (by omega) ?_ | refine and_mk (by first | omega | (with_reducible rfl) | (show drawOk _ _ _ = true; kernel_rfl)) ?_ | refine and_mk ⟨_, rfl⟩ ?_ | refine ex_is _ (List.length_map _) ?_ | refine ex_is _ List.length_nil ?_ | fail "no step")
      )
    all_goals first | exact ex_meet true (by simp [*]) (SLe.of ⟨⟨rfl, rfl, rfl, rfl, trivial⟩, ⟨rfl, rfl, rfl, rfl, rfl, rfl, trivial⟩⟩) | exact ex_meet false (by simp [*]) (SLe.of ⟨⟨rfl, rfl, rfl, rfl, trivial⟩, ⟨rfl, rfl, rfl, rfl, rfl, rfl, trivial⟩⟩)
  intro m' hm'
  repeat' (first | refine ex_true (by first | decide | omega | assumption | (with_reducible exact rfl)) ?_ | refine ex_false (by first | decide | omega | assumption | exact (fun h => h rfl)) ?_ | refine ex_dec (fun _ => ?_) (fun _ => ?_) | refine ex_u8 _ rfl (by omega) (by omega) ?_ | refine ex_i64 _ rfl (by omega) (by omega) ?_ | refine ex_u64 _ rfl (by omega) (by omega) ?_ | refine and_mk (by first | omega | (with_reducible rfl) | (show drawOk _ _ _ = true; kernel_rfl)) ?_ | refine and_mk ⟨_, rfl⟩ ?_ | refine ex_is _ (List.length_map _) ?_ | refine ex_is _ List.length_nil ?_ | fail "no step")
  refine ex_join (X := Bool) (fun v => ⟨[(0, .o (.c (.ptr 0 0))), (4, .o (.c (.ptr 3 0))), (5, .o (.c (.ptr 4 0))), (6, .o (.c (.ptr 5 0)))], (3, .obj [.d (di o), .d (di a), .d (di b), .d (du n)]) :: (4, .obj [.d (di (k + (pt - tk))), .d (ds (bs so)), .d (db m'), .d (db v)]) :: (5, .obj [.d (di 0), .d (ds ⟨#[]⟩), .d (db false), .d (db false)]) :: ckM fs cs fn fr tt g, 6⟩) (fun v => v = (w || decide (o = 7))) ?_ ?_
  · cases w
    all_goals (
      repeat' (first | refine ex_true (by first | decide | omega | assumption | (with_reducible exact rfl)) ?_ | refine ex_false (by first | decide | omega | assumption | exact (fun h => h rfl)) ?_ | refine ex_dec (fun _ => ?_) (fun _ => ?_) | refine ex_u8 _ rfl (by omega) (by omega) ?_ | refine ex_i64 _ rfl (by omega) (by omega) ?_ | refine ex_u64 _ rfl (by omega) (by omega) ?_ | refine and_mk (by first | omega | (with_reducible rfl) | (show drawOk _ _ _ = true; kernel_rfl)) ?_ | refine and_mk ⟨_, rfl⟩ ?_ | refine ex_is _ (List.length_map _) ?_ | refine ex_is _ List.length_nil ?_ | fail "no step")
      )
    all_goals first | exact ex_meet true (by simp [*]) (SLe.of ⟨⟨rfl, rfl, rfl, rfl, trivial⟩, ⟨rfl, rfl, rfl, rfl, rfl, rfl, trivial⟩⟩) | exact ex_meet false (by simp [*]) (SLe.of ⟨⟨rfl, rfl, rfl, rfl, trivial⟩, ⟨rfl, rfl, rfl, rfl, rfl, rfl, trivial⟩⟩)
  intro w' hw'
  repeat' (first | refine ex_call hO ?_ | refine ex_i64 (((bs so).size : Int) - (bs cl).size) (by omega) (by omega) (by omega) ?_ | refine ex_u64 (((bs so).size : Int) - (bs cl).size) (by omega) (by omega) (by omega) ?_ | refine ex_u8 (((bs so).size : Int) - (bs cl).size) (by omega) (by omega) (by omega) ?_ | refine ex_true (by first | decide | omega | assumption | (with_reducible exact rfl)) ?_ | refine ex_false (by first | decide | omega | assumption | exact (fun h => h rfl)) ?_ | refine ex_dec (fun _ => ?_) (fun _ => ?_) | refine ex_u8 _ rfl (by omega) (by omega) ?_ | refine ex_i64 _ rfl (by omega) (by omega) ?_ | refine ex_u64 _ rfl (by omega) (by omega) ?_ | refine and_mk (by first | omega | (with_reducible rfl) | (show drawOk _ _ _ = true; kernel_rfl)) ?_ | refine and_mk ⟨_, rfl⟩ ?_ | refine ex_is _ (List.length_map _) ?_ | refine ex_is _ List.length_nil ?_ | fail "no step")
  rw [hext]
  have hz1 := bs_size (so.take (so.length - cl.length))
  rw [List.length_take] at hz1
  repeat' (first | refine ex_true (by first | decide | omega | assumption | (with_reducible exact rfl)) ?_ | refine ex_false (by first | decide | omega | assumption | exact (fun h => h rfl)) ?_ | refine ex_dec (fun _ => ?_) (fun _ => ?_) | refine ex_u8 _ rfl (by omega) (by omega) ?_ | refine ex_i64 _ rfl (by omega) (by omega) ?_ | refine ex_u64 _ rfl (by omega) (by omega) ?_ | refine and_mk (by first | omega | (with_reducible rfl) | (show drawOk _ _ _ = true; kernel_rfl)) ?_ | refine and_mk ⟨_, rfl⟩ ?_ | refine ex_is _ (List.length_map _) ?_ | refine ex_is _ List.length_nil ?_ | fail "no step")
  rw [bs_app]
  repeat' (first | refine ex_true (by first | decide | omega | assumption | (with_reducible exact rfl)) ?_ | refine ex_false (by first | decide | omega | assumption | exact (fun h => h rfl)) ?_ | refine ex_dec (fun _ => ?_) (fun _ => ?_) | refine ex_u8 _ rfl (by omega) (by omega) ?_ | refine ex_i64 _ rfl (by omega) (by omega) ?_ | refine ex_u64 _ rfl (by omega) (by omega) ?_ | refine and_mk (by first | omega | (with_reducible rfl) | (show drawOk _ _ _ = true; kernel_rfl)) ?_ | refine and_mk ⟨_, rfl⟩ ?_ | refine ex_is _ (List.length_map _) ?_ | refine ex_is _ List.length_nil ?_ | fail "no step")
  exact ⟨rfl, TLe.eq (by rw [hm', hw']; rfl), rfl, rfl⟩
end
end Go.Proofs.YtgfmbkbiingagaaDoor

namespace Go.Proofs.YtgfmbkbiingagaaDoor
set_option linter.unusedVariables false
set_option linter.unusedSimpArgs false
open Go.RowKit
set_option maxRecDepth 100000

/-- What the functions are like: their numbers of slots and parameters. -/
def FsOk (fs : List FN) : Prop := fs.length ≤ 64 ∧ ∀ f ∈ fs, 0 ≤ f.p ∧ f.p ≤ 4096
def KnOk (n : Nat) (g : SG) : Prop := g.Ok n ∧ g.rest n ≤ 2 * n + 1 ∧ ∀ p ∈ g.kn, 0 ≤ p.2.k ∧ p.2.k ≤ 512 ∧ p.2.o.length + 1 ≤ g.kn.length
theorem KnOk.lf {n : Nat} {g : SG} (h : KnOk n g) : g.lf.length ≤ 2 * n + 1 := by
  have := h.2.1
  unfold SG.rest at this
  omega
theorem KnOk.kn {n : Nat} {g : SG} (h : KnOk n g) : g.kn.length ≤ n := by
  have := nodup_len (l := g.kn.map (·.1)) (fun i hi => by
    obtain ⟨p, hp, rfl⟩ := List.mem_map.1 hi
    exact h.1.1 p hp) h.1.2.1
  simpa using this
theorem KnOk.come {n : Nat} {g : SG} (h : KnOk n g) {i : Int} (hi : 0 ≤ i ∧ i < n) {s : SS} (hs : 0 ≤ s.k ∧ s.k ≤ 512 ∧ s.o.length ≤ g.kn.length) : KnOk n (g.come i s) := by
  obtain ⟨h1, h2, h3⟩ := h
  obtain ⟨q1, q2⟩ := SG.come_ok h1 hi s
  refine ⟨q1, Nat.le_trans q2 h2, ?_⟩
  unfold SG.come
  split
  · split
    · exact h3
    · exact h3
  · intro p hp
    simp only [List.length_append, List.length_cons, List.length_nil]
    rcases List.mem_append.1 hp with hp | hp
    · have := h3 p hp
      exact ⟨this.1, this.2.1, by omega⟩
    · obtain rfl : p = (i, s) := by simpa using hp
      exact ⟨hs.1, hs.2.1, by show s.o.length + 1 ≤ _; omega⟩
theorem come_len (g : SG) (i : Int) (s : SS) : g.kn.length ≤ (g.come i s).kn.length := by
  unfold SG.come
  split
  · split <;> exact Nat.le_refl _
  · simp
theorem KnOk.go {n : Nat} {g : SG} (h : KnOk n g) {fr tt : Int} (hf : 0 ≤ fr) (ht : tt ≤ n) (i : Int) {s : SS} (hs : 0 ≤ s.k ∧ s.o.length ≤ g.kn.length) (j : Int) : KnOk n (SG.go fr tt i s g j) ∧ g.kn.length ≤ (SG.go fr tt i s g j).kn.length := by
  unfold SG.go
  split
  · exact ⟨h, Nat.le_refl _⟩
  · rename_i hp
    have : placeV fr tt j = true := by
      cases hv : placeV fr tt j with
      | true => rfl
      | false => exact absurd (.inl hv) hp
    have := of_decide_eq_true this
    exact ⟨h.come ⟨by omega, by omega⟩ ⟨hs.1, by omega, hs.2⟩, come_len _ _ _⟩
theorem KnOk.gos {n : Nat} {fr tt : Int} (hf : 0 ≤ fr) (ht : tt ≤ n) (i : Int) {s : SS} (hk : 0 ≤ s.k) : ∀ (l : List Int) {g : SG}, KnOk n g → s.o.length ≤ g.kn.length → KnOk n (l.foldl (SG.go fr tt i s) g) ∧ g.kn.length ≤ (l.foldl (SG.go fr tt i s) g).kn.length
  | [], g, h, _ => ⟨h, Nat.le_refl _⟩
  | j :: l, g, h, hs => by
    obtain ⟨h1, h2⟩ := h.go hf ht i ⟨hk, hs⟩ j
    obtain ⟨h3, h4⟩ := KnOk.gos hf ht i hk l h1 (Nat.le_trans hs h2)
    exact ⟨h3, Nat.le_trans h2 h4⟩
theorem goes_len (x : IN) (i : Int) : (goesV x i).length ≤ 2 := by
  unfold goesV
  repeat' split
  all_goals simp
theorem fits_takes {fs : List FN} {fn : Nat} {fr tt : Int} {x : IN} {s : SS} (h : fitsV fs fn fr tt x s = true) : numbersV (fs.getD fn zF) fn fr tt x = true ∧ takesV fs x ≤ s.k ∧ (opensV x.o).2.length ≤ s.o.length := by
  unfold fitsV at h
  split at h
  · cases h
  · rename_i h1
    split at h
    · cases h
    · rename_i h2
      refine ⟨by cases hv : numbersV (fs.getD fn zF) fn fr tt x with | true => rfl | false => exact absurd (.inl hv) h1, by omega, ?_⟩
      rcases (opens_two x.o).1 with e | ⟨c, e⟩
      · rw [e]; exact Nat.zero_le _
      · rw [e] at h2 ⊢
        have h3 : lastIs s.o [c] = true := by
          cases hv : lastIs s.o [c] with
          | true => rfl
          | false => exact absurd ⟨by simp, hv⟩ h2
        have := (of_decide_eq_true h3).1
        exact List.length_pos_iff.2 this
theorem takes_ok {fs : List FN} (hF : FsOk fs) (x : IN) : 0 ≤ takesV fs x := by
  unfold takesV
  split
  · rw [List.getD]
    cases h : fs[x.a.toNat]? with
    | none => decide
    | some f => exact (hF.2 f (List.mem_of_getElem? h)).1
  · omega
theorem next_ok {fs : List FN} (hF : FsOk fs) {fn : Nat} {fr tt : Int} {x : IN} {s : SS} (h : fitsV fs fn fr tt x s = true) : 0 ≤ (nextV fs x s).k ∧ (nextV fs x s).o.length ≤ s.o.length + 1 := by
  obtain ⟨-, h2, -⟩ := fits_takes h
  have := takes_ok hF x
  refine ⟨by show 0 ≤ s.k + (((opF x.o).2.2.2 : Int) - takesV fs x); omega, ?_⟩
  show (s.o.take _ ++ (opensV x.o).1).length ≤ _
  rw [List.length_append, List.length_take]
  rcases (opens_two x.o).2 with e | ⟨c, e⟩ <;> rw [e] <;> simp <;> omega
section
variable (fs : List FN) (cs : List IN) (fn : Nat) (fr tt : Int) (g : SG)
set_option maxHeartbeats 4000000 in
theorem step_c (hF : FsOk fs) {f : FN} (hf : fs[fn]? = some f) (hc : cs.length ≤ 8192) (hg : KnOk cs.length g) (hfr : 0 ≤ fr) (htt : tt ≤ cs.length) {i : Nat} {x : IN} (hi : cs[i]? = some x) {s : SS} (hs : g.at i = some s) :
    CallsM Tryd.prog ΓC 17 (ckM fs cs fn fr tt g) 3 [.c (.ptr 0 0), c1 (di i)] (.tup []) (ckN fs cs fn fr tt (SG.step fs cs fn fr tt g i)) [.row 1 3 (dis (SG.step fs cs fn fr tt g i).lf)] := by
  have hil : i < cs.length := (List.getElem?_eq_some_iff.1 hi).1
  have hpb := hg.2.2 _ (SG.at_mem hs)
  dsimp only at hpb
  have hkn := hg.kn
  obtain ⟨j, hj⟩ := find_some hs
  have hlen : (cs.map inD).length = cs.length := List.length_map _
  have hmx : max g.d s.k = (if g.d < s.k then s.k else g.d) := by split <;> omega
  obtain ⟨g1, hg1⟩ : ∃ g1 : SG, g1 = { g with d := max g.d s.k } := ⟨_, rfl⟩
  have hF1 := (fits_c fs cs fn fr tt g1 hf (by have := hF.1; omega) x s (by omega)).ren [0, 1, 2] 5 rfl rfl rfl rfl
  have hst : SG.step fs cs fn fr tt g i = if fitsV fs fn fr tt x s = false then g1.fault i else (goesV x i).foldl (SG.go fr tt i (nextV fs x s)) g1 := by
    unfold SG.step
    rw [Int.toNat_natCast, List.getD, hi, hs, hg1]; rfl
  rw [hst]
  have hg1o : KnOk cs.length g1 := by rw [hg1]; exact hg
  obtain ⟨k, so, m, w⟩ := s
  obtain ⟨o, a, b, n⟩ := x
  cases hfit : fitsV fs fn fr tt ⟨o, a, b, n⟩ ⟨k, so, m, w⟩ with
  | false =>
    rw [if_pos rfl]
    rw [hfit] at hF1
    have hfa := ((fault_c fs cs fn fr tt g1 i).of0 (Γ := ΓC)).ren [0, 1, 2] 5 rfl rfl rfl rfl
    have main : CallsM Tryd.prog ΓC 17 (ckM fs cs fn fr tt g) 3 [.c (.ptr 0 0), c1 (di i)] (.tup []) (ckM fs cs fn fr tt (g1.fault i)) [] := by
      subst hg1
      refine fn_ruleM (C := ⟨Tryd.prog, layF, Tryd.f17.ntmps, ΓC, 3, [], []⟩) layF_ok mixed Tryd.func17 rfl (by kernel_rfl) rfl rfl rfl ?_
      repeat' (first | refine (ex_callM hfa) ?_ | refine (ex_callM hF1) ?_ | refine (ex_is _ hmx.symm) ?_ | refine (ex_find hj) ?_ | refine (ex_row i (⟨o, a, b, n⟩ : IN) rfl hi) ?_ | refine ex_true (by first | decide | omega | assumption | (with_reducible exact rfl)) ?_ | refine ex_false (by first | decide | omega | assumption | exact (fun h => h rfl)) ?_ | refine ex_dec (fun _ => ?_) (fun _ => ?_) | refine ex_u8 _ rfl (by omega) (by omega) ?_ | refine ex_i64 _ rfl (by omega) (by omega) ?_ | refine ex_u64 _ rfl (by omega) (by omega) ?_ | refine and_mk (by first | omega | (with_reducible rfl) | (show drawOk _ _ _ = true; kernel_rfl)) ?_ | refine and_mk ⟨_, rfl⟩ ?_ | refine ex_is _ (List.length_map _) ?_ | refine ex_is _ List.length_nil ?_ | fail "no step")
      exact ⟨rfl, TLe.rfl, rfl, rfl⟩
    exact main.fork 2 (by decide) (b := .row 1 3 (dis (g1.fault i).lf)) (b0 := .row 1 3 (dis g.lf)) (by simp) rfl (by simp) rfl (fun _ => rfl) (fun _ => rfl) (fun _ _ => rfl) (by simp [Blk.men, CV.men]) (by simp)
  | true =>
    rw [if_neg (by simp)]
    rw [hfit] at hF1
    obtain ⟨hn1, hn2, hn3⟩ := fits_takes hfit
    obtain ⟨hz1, hz2⟩ := next_ok hF hfit
    have hto := takes_ok hF ⟨o, a, b, n⟩
    have hN := (next_c fs cs fn fr tt g1 (f := fs.getD a.toNat zF) ⟨o, a, b, n⟩ ⟨k, so, m, w⟩ (fun h28 => by
      obtain ⟨h1, h2⟩ := numbers_call hn1 h28
      have hlt : fn < fs.length := (List.getElem?_eq_some_iff.1 hf).1
      dsimp only at h1 h2
      refine ⟨a.toNat, by show a = _; omega, ?_⟩
      rw [List.getD, List.getElem?_eq_getElem (by omega)]; rfl) ⟨hpb.1, by omega⟩ ⟨hto, hn2⟩ (by omega) hn3).ren [0, 1, 2] 5 rfl rfl rfl rfl
    have hG := (goes_c ⟨o, a, b, n⟩ i ⟨by omega, by omega⟩).of0 (Γ := ΓC)
    have hgl := goes_len ⟨o, a, b, n⟩ i
    have hgos := fun q => KnOk.gos hfr htt i hz1 ((goesV ⟨o, a, b, n⟩ i).take q) hg1o (by rw [hg1]; exact Nat.le_trans hz2 hpb.2.2)
    generalize nextV fs ⟨o, a, b, n⟩ ⟨k, so, m, w⟩ = t at *
    obtain ⟨tk, to_, tm, tw⟩ := t
    generalize goesV ⟨o, a, b, n⟩ i = L at *
    have hLl : (dis L).length = L.length := List.length_map _
    subst hg1
    refine fn_ruleM (C := ⟨Tryd.prog, layF, Tryd.f17.ntmps, ΓC, 3, [], []⟩) layF_ok mixed Tryd.func17 rfl (by kernel_rfl) rfl rfl rfl ?_
    repeat' (first | refine ex_call hG ?_ | refine (ex_is _ hLl) ?_ | refine (ex_callM hN) ?_ | refine (ex_callM hF1) ?_ | refine (ex_is _ hmx.symm) ?_ | refine (ex_find hj) ?_ | refine (ex_row i (⟨o, a, b, n⟩ : IN) rfl hi) ?_ | refine ex_true (by first | decide | omega | assumption | (with_reducible exact rfl)) ?_ | refine ex_false (by first | decide | omega | assumption | exact (fun h => h rfl)) ?_ | refine ex_dec (fun _ => ?_) (fun _ => ?_) | refine ex_u8 _ rfl (by omega) (by omega) ?_ | refine ex_i64 _ rfl (by omega) (by omega) ?_ | refine ex_u64 _ rfl (by omega) (by omega) ?_ | refine and_mk (by first | omega | (with_reducible rfl) | (show drawOk _ _ _ = true; kernel_rfl)) ?_ | refine and_mk ⟨_, rfl⟩ ?_ | refine ex_is _ (List.length_map _) ?_ | refine ex_is _ List.length_nil ?_ | fail "no step")
    refine ex_loop (X := Nat × SG) (fun ⟨q, h⟩ => ⟨[(0, .o (.c (.ptr 0 0))), (1, Ti i), (5, .o (.c (.ptr 4 0))), (46, .o (c1 (.sl 1 (dis L)))), (47, Ti L.length), (48, Ti q)], [(2, .dead), (0, .obj (ckC fs cs fn fr tt 5 h.d h.w)), (1, .map (kvs h.kn)), (4, .obj [.d (di tk), .d (ds (bs to_)), .d (db tm), .d (db tw)]), (5, .row 1 3 (dis h.lf))], 6⟩) (fun x => L.length - x.1) (fun ⟨q, h⟩ => q ≤ L.length ∧ h = (L.take q).foldl (SG.go fr tt i ⟨tk, to_, tm, tw⟩) { g with d := max g.d k }) (0, { g with d := max g.d k }) ⟨Nat.zero_le _, rfl⟩ (SLe.kill (nx := 6) 2 (SLe.ren [(0, 0), (1, 1), (4, 4), (2, 5)] ⟨⟨rfl, rfl⟩, ⟨rfl, rfl⟩, ⟨rfl, rfl⟩, ⟨rfl, rfl⟩, ⟨rfl, rfl⟩, ⟨rfl, rfl⟩, trivial⟩ ⟨⟨rfl, rfl⟩, ⟨rfl, rfl⟩, ⟨rfl, rfl⟩, ⟨rfl, rfl⟩, trivial⟩ rfl)) ?_
    rintro ⟨q, h⟩ ⟨hq, hh⟩
    obtain ⟨hk1, hk2⟩ := hgos q
    rw [← hh] at hk1 hk2
    by_cases hqL : q < L.length
    · have hx : L[q]? = some L[q] := at_some hqL
      have htk : L.take (q + 1) = L.take q ++ [L[q]] := by rw [List.take_add_one, hx]; rfl
      generalize L[q] = y at *
      have hnx : (L.take (q + 1)).foldl (SG.go fr tt i ⟨tk, to_, tm, tw⟩) { g with d := max g.d k } = SG.go fr tt i ⟨tk, to_, tm, tw⟩ h y := by rw [htk, List.foldl_append, ← hh]; rfl
      have hP := ((place_c fs cs fn fr tt h y).of0 (Γ := ΓC)).ren [0, 1, 5] 6 rfl rfl rfl rfl
      have hFa := ((fault_c fs cs fn fr tt h i).of0 (Γ := ΓC)).ren [0, 1, 5] 6 rfl rfl rfl rfl
      have hC := ((come_c fs cs fn fr tt h y ⟨tk, to_, tm, tw⟩ (by have := hk1.lf; omega)).of0 (Γ := ΓC)).ren [0, 1, 5] 6 rfl rfl rfl rfl
      by_cases hno : placeV fr tt y = false ∨ 512 < tk
      · have hgo : SG.go fr tt i ⟨tk, to_, tm, tw⟩ h y = h.fault i := by unfold SG.go; rw [if_pos hno]
        rw [hgo] at hnx
        cases hpv : placeV fr tt y with
        | false =>
          rw [hpv] at hP
          repeat' (first | refine (ex_callM hFa) ?_ | refine (ex_callM hP) ?_ | refine (ex_row q y rfl hx) ?_ | refine ex_true (by first | decide | omega | assumption | (with_reducible exact rfl)) ?_ | refine ex_false (by first | decide | omega | assumption | exact (fun h => h rfl)) ?_ | refine ex_dec (fun _ => ?_) (fun _ => ?_) | refine ex_u8 _ rfl (by omega) (by omega) ?_ | refine ex_i64 _ rfl (by omega) (by omega) ?_ | refine ex_u64 _ rfl (by omega) (by omega) ?_ | refine and_mk (by first | omega | (with_reducible rfl) | (show drawOk _ _ _ = true; kernel_rfl)) ?_ | refine and_mk ⟨_, rfl⟩ ?_ | refine ex_is _ (List.length_map _) ?_ | refine ex_is _ List.length_nil ?_ | fail "no step")
          exact ex_round (q + 1, h.fault i) ⟨by omega, hnx.symm⟩ (by show _ - _ < _ - _; omega) (SLe.kill (nx := 6) 2 (SLe.ren [(0, 0), (1, 1), (4, 4), (5, 5)] ⟨⟨rfl, rfl⟩, ⟨rfl, rfl⟩, ⟨rfl, rfl⟩, ⟨rfl, rfl⟩, ⟨rfl, rfl⟩, ⟨rfl, rfl⟩, trivial⟩ ⟨⟨rfl, rfl⟩, ⟨rfl, rfl⟩, ⟨rfl, rfl⟩, ⟨rfl, rfl⟩, trivial⟩ rfl))
        | true =>
          rw [hpv] at hP
          have h512 : 512 < tk := by rcases hno with h | h; rw [hpv] at h; cases h; exact h
          repeat' (first | refine (ex_callM hFa) ?_ | refine (ex_callM hP) ?_ | refine (ex_row q y rfl hx) ?_ | refine ex_true (by first | decide | omega | assumption | (with_reducible exact rfl)) ?_ | refine ex_false (by first | decide | omega | assumption | exact (fun h => h rfl)) ?_ | refine ex_dec (fun _ => ?_) (fun _ => ?_) | refine ex_u8 _ rfl (by omega) (by omega) ?_ | refine ex_i64 _ rfl (by omega) (by omega) ?_ | refine ex_u64 _ rfl (by omega) (by omega) ?_ | refine and_mk (by first | omega | (with_reducible rfl) | (show drawOk _ _ _ = true; kernel_rfl)) ?_ | refine and_mk ⟨_, rfl⟩ ?_ | refine ex_is _ (List.length_map _) ?_ | refine ex_is _ List.length_nil ?_ | fail "no step")
          exact ex_round (q + 1, h.fault i) ⟨by omega, hnx.symm⟩ (by show _ - _ < _ - _; omega) (SLe.kill (nx := 6) 2 (SLe.ren [(0, 0), (1, 1), (4, 4), (5, 5)] ⟨⟨rfl, rfl⟩, ⟨rfl, rfl⟩, ⟨rfl, rfl⟩, ⟨rfl, rfl⟩, ⟨rfl, rfl⟩, ⟨rfl, rfl⟩, trivial⟩ ⟨⟨rfl, rfl⟩, ⟨rfl, rfl⟩, ⟨rfl, rfl⟩, ⟨rfl, rfl⟩, trivial⟩ rfl))
      · have hgo : SG.go fr tt i ⟨tk, to_, tm, tw⟩ h y = h.come y ⟨tk, to_, tm, tw⟩ := by unfold SG.go; rw [if_neg hno]
        rw [hgo] at hnx
        have hpv : placeV fr tt y = true := by cases hv : placeV fr tt y with | true => rfl | false => exact absurd (.inl hv) hno
        rw [hpv] at hP
        have h512 : ¬ 512 < tk := fun h => hno (.inr h)
        repeat' (first | refine (ex_callM hC) ?_ | refine (ex_callM hP) ?_ | refine (ex_row q y rfl hx) ?_ | refine ex_true (by first | decide | omega | assumption | (with_reducible exact rfl)) ?_ | refine ex_false (by first | decide | omega | assumption | exact (fun h => h rfl)) ?_ | refine ex_dec (fun _ => ?_) (fun _ => ?_) | refine ex_u8 _ rfl (by omega) (by omega) ?_ | refine ex_i64 _ rfl (by omega) (by omega) ?_ | refine ex_u64 _ rfl (by omega) (by omega) ?_ | refine and_mk (by first | omega | (with_reducible rfl) | (show drawOk _ _ _ = true; kernel_rfl)) ?_ | refine and_mk ⟨_, rfl⟩ ?_ | refine ex_is _ (List.length_map _) ?_ | refine ex_is _ List.length_nil ?_ | fail "no step")
        exact ex_round (q + 1, h.come y ⟨tk, to_, tm, tw⟩) ⟨by omega, hnx.symm⟩ (by show _ - _ < _ - _; omega) (SLe.kill (nx := 6) 2 (SLe.ren [(0, 0), (1, 1), (4, 4), (6, 5)] ⟨⟨rfl, rfl⟩, ⟨rfl, rfl⟩, ⟨rfl, rfl⟩, ⟨rfl, rfl⟩, ⟨rfl, rfl⟩, ⟨rfl, rfl⟩, trivial⟩ ⟨⟨rfl, rfl⟩, ⟨rfl, rfl⟩, ⟨rfl, rfl⟩, ⟨rfl, rfl⟩, trivial⟩ rfl))
    · obtain rfl : q = L.length := by omega
      rw [List.take_length] at hh
      rw [← hh]
      repeat' (first | refine ex_true (by first | decide | omega | assumption | (with_reducible exact rfl)) ?_ | refine ex_false (by first | decide | omega | assumption | exact (fun h => h rfl)) ?_ | refine ex_dec (fun _ => ?_) (fun _ => ?_) | refine ex_u8 _ rfl (by omega) (by omega) ?_ | refine ex_i64 _ rfl (by omega) (by omega) ?_ | refine ex_u64 _ rfl (by omega) (by omega) ?_ | refine and_mk (by first | omega | (with_reducible rfl) | (show drawOk _ _ _ = true; kernel_rfl)) ?_ | refine and_mk ⟨_, rfl⟩ ?_ | refine ex_is _ (List.length_map _) ?_ | refine ex_is _ List.length_nil ?_ | fail "no step")
      exact ⟨rfl, TLe.rfl, rfl, rfl⟩
end
end Go.Proofs.YtgfmbkbiingagaaDoor

namespace Go.Proofs.YtgfmbkbiingagaaDoor
set_option linter.unusedVariables false
set_option linter.unusedSimpArgs false
open Go.RowKit
set_option maxRecDepth 100000

def ΓH : Glob := { ΓC with kr := [15, 22, 14] }
theorem CallsA.gH {f : FuncId} {xs : List T1} {r : TV} (h : CallsA Tryd.prog ΓC f xs r) : CallsA Tryd.prog ΓH f xs r := ⟨h.1, h.2⟩
theorem CallsM.gH {f : FuncId} {m : List (Nat × Blk)} {nx : Nat} {xs : List T1} {r : TV} {upd : List (Nat × Blk)} {new : List Blk} (h : CallsM Tryd.prog ΓC f m nx xs r upd new) : CallsM Tryd.prog ΓH f m nx xs r upd new := ⟨h.1, h.2⟩
theorem CallsA.ofH {f : FuncId} {xs : List T1} {r : TV} (h : CallsA Tryd.prog ΓH f xs r) : CallsA Tryd.prog ΓC f xs r := ⟨h.1, h.2⟩
theorem come_start (fr : Int) : SG.come ⟨[], [], 0, -1⟩ fr ⟨0, [], false, false⟩ = SG.start fr := rfl
theorem KnOk.step {n : Nat} {g : SG} (h : KnOk n g) {fr tt : Int} (hf : 0 ≤ fr) (ht : tt ≤ n) {fs : List FN} (hF : FsOk fs) (cs : List IN) (fn : Nat) {i : Int} {s : SS} (hs : g.at i = some s) : KnOk n (SG.step fs cs fn fr tt g i) := by
  unfold SG.step
  rw [hs]
  dsimp only [Option.getD_some]
  have hp := h.2.2 _ (SG.at_mem hs)
  have hg1 : KnOk n { g with d := max g.d s.k } := h
  split
  · exact h
  · rename_i hfit
    have hfit : fitsV fs fn fr tt (cs.getD i.toNat zI) s = true := by
      cases hv : fitsV fs fn fr tt (cs.getD i.toNat zI) s with
      | true => rfl
      | false => exact absurd hv hfit
    obtain ⟨h1, h2⟩ := next_ok hF hfit
    exact (KnOk.gos hf ht i h1 _ hg1 (Nat.le_trans h2 hp.2.2)).1
/-- What the frames say of a function. -/
structure FrOk (fs : List FN) (cs : List IN) (fn : Nat) (f : FN) : Prop where
  fsk : FsOk fs
  csk : cs.length ≤ 8192
  at_ : fs[fn]? = some f
  lo : 0 ≤ f.e
  hi : f.e < cs.length
  to_ : toV fs cs fn ≤ cs.length
set_option maxHeartbeats 4000000 in
theorem function_c {fs : List FN} {cs : List IN} {fn : Nat} {f : FN} (h : FrOk fs cs fn f) : CallsA Tryd.prog ΓH 11 [gD [.sl 3 (fs.map fnD), .sl 4 (cs.map inD)], c1 (di fn)] (.tup [c1 (di (functionV fs cs fn).1), c1 (di (functionV fs cs fn).2)]) := by
  obtain ⟨hF, hc, hf, hlo, hhi, hto⟩ := h
  have hlt : fn < fs.length := (List.getElem?_eq_some_iff.1 hf).1
  have hfl : fs.length ≤ 64 := hF.1
  have hfm : (fs.map fnD).length = fs.length := List.length_map _
  have hcm : (cs.map inD).length = cs.length := List.length_map _
  have hfe : fs.getD fn zF = f := by rw [List.getD, hf]; rfl
  obtain ⟨e, sl, pa⟩ := f
  dsimp only at *
  obtain ⟨R, hR⟩ : ∃ R, R = SG.run fs cs fn e (toV fs cs fn) (2 * cs.length + 2) (SG.start e) := ⟨_, rfl⟩
  have hfv : functionV fs cs fn = (R.w, R.d) := by unfold functionV; rw [hfe, hR]
  rw [hfv]
  obtain ⟨hs1, hs2⟩ := SG.start_ok (n := cs.length) ⟨hlo, hhi⟩
  have hC := (((come_c fs cs fn e (toV fs cs fn) ⟨[], [], 0, -1⟩ e ⟨0, [], false, false⟩ (by decide)).of0 (Γ := ΓH))).ren [2, 1, 3] 4 rfl rfl rfl rfl
  rw [come_start] at hC
  refine fn_rule (C := ⟨Tryd.prog, layF, Tryd.f11.ntmps, ΓH, 0, [], [4]⟩) layF_ok mixed Tryd.func11 rfl (by kernel_rfl) rfl rfl rfl ?_
  repeat' (first | refine (ex_is _ hcm) ?_ | refine (ex_is _ hfm) ?_ | refine (ex_row fn (⟨e, sl, pa⟩ : FN) rfl hf) ?_ | refine ex_true (by first | decide | omega | assumption | (with_reducible exact rfl)) ?_ | refine ex_false (by first | decide | omega | assumption | exact (fun h => h rfl)) ?_ | refine ex_dec (fun _ => ?_) (fun _ => ?_) | refine ex_u8 _ rfl (by omega) (by omega) ?_ | refine ex_i64 _ rfl (by omega) (by omega) ?_ | refine ex_u64 _ rfl (by omega) (by omega) ?_ | refine and_mk (by first | omega | (with_reducible rfl) | (show drawOk _ _ _ = true; kernel_rfl)) ?_ | refine and_mk ⟨_, rfl⟩ ?_ | refine ex_is _ (List.length_map _) ?_ | refine ex_is _ List.length_nil ?_ | fail "no step")
  refine ex_join (X := Unit) (fun _ => ⟨[(1, Ti fn), (2, .o (.c (.ptr 0 0))), (4, Ti 0), (5, Ti 0), (6, .o (.c (.ptr 2 0)))], [(0, .obj [.d (.sl 3 (fs.map fnD)), .d (.sl 4 (cs.map inD))]), (2, .obj [.d (.sl 3 (fs.map fnD)), .d (.sl 4 (cs.map inD)), .d (di fn), .d (di e), .d (di (toV fs cs fn)), .mp 1, .row 3, .d (di 0), .d (di (-1))]), (1, .map []), (3, .row 1 3 [])], 4⟩) (fun _ => True) ?_ ?_
  · by_cases h2 : fn + 1 < fs.length
    · have hx : fs[fn + 1]? = some (fs[fn + 1]'h2) := at_some h2
      have htv : toV fs cs fn = (fs[fn + 1]'h2).e := by unfold toV; rw [if_pos h2, List.getD, hx]; rfl
      rw [htv]
      generalize fs[fn + 1]'h2 = f2 at *
      obtain ⟨e2, s2, p2⟩ := f2
      repeat' (first | refine ex_i64 ((fn + 1 : Nat) : Int) (by omega) (by omega) (by omega) ?_ | refine ex_u64 ((fn + 1 : Nat) : Int) (by omega) (by omega) (by omega) ?_ | refine ex_u8 ((fn + 1 : Nat) : Int) (by omega) (by omega) (by omega) ?_ | refine (ex_is _ hfm) ?_ | refine (ex_row (fn + 1) (⟨e2, s2, p2⟩ : FN) rfl hx) ?_ | refine ex_true (by first | decide | omega | assumption | (with_reducible exact rfl)) ?_ | refine ex_false (by first | decide | omega | assumption | exact (fun h => h rfl)) ?_ | refine ex_dec (fun _ => ?_) (fun _ => ?_) | refine ex_u8 _ rfl (by omega) (by omega) ?_ | refine ex_i64 _ rfl (by omega) (by omega) ?_ | refine ex_u64 _ rfl (by omega) (by omega) ?_ | refine and_mk (by first | omega | (with_reducible rfl) | (show drawOk _ _ _ = true; kernel_rfl)) ?_ | refine and_mk ⟨_, rfl⟩ ?_ | refine ex_is _ (List.length_map _) ?_ | refine ex_is _ List.length_nil ?_ | fail "no step")
      exact ex_meet () trivial (SLe.trans (SLe.of ⟨⟨rfl, rfl, rfl, rfl, rfl, trivial⟩, ⟨rfl, rfl, rfl, rfl, trivial⟩⟩) (SLe.ownCell 2 6 3 1 3 rfl rfl rfl rfl rfl rfl))
    · have htv : toV fs cs fn = cs.length := by unfold toV; rw [if_neg h2]
      rw [htv]
      repeat' (first | refine ex_i64 ((fn + 1 : Nat) : Int) (by omega) (by omega) (by omega) ?_ | refine ex_u64 ((fn + 1 : Nat) : Int) (by omega) (by omega) (by omega) ?_ | refine ex_u8 ((fn + 1 : Nat) : Int) (by omega) (by omega) (by omega) ?_ | refine (ex_is _ hfm) ?_ | refine ex_true (by first | decide | omega | assumption | (with_reducible exact rfl)) ?_ | refine ex_false (by first | decide | omega | assumption | exact (fun h => h rfl)) ?_ | refine ex_dec (fun _ => ?_) (fun _ => ?_) | refine ex_u8 _ rfl (by omega) (by omega) ?_ | refine ex_i64 _ rfl (by omega) (by omega) ?_ | refine ex_u64 _ rfl (by omega) (by omega) ?_ | refine and_mk (by first | omega | (with_reducible rfl) | (show drawOk _ _ _ = true; kernel_rfl)) ?_ | refine and_mk ⟨_, rfl⟩ ?_ | refine ex_is _ (List.length_map _) ?_ | refine ex_is _ List.length_nil ?_ | fail "no step")
      exact ex_meet () trivial (SLe.trans (SLe.of ⟨⟨rfl, rfl, rfl, rfl, rfl, trivial⟩, ⟨rfl, rfl, rfl, rfl, trivial⟩⟩) (SLe.ownCell 2 6 3 1 3 rfl rfl rfl rfl rfl rfl))
  rintro ⟨⟩ -
  repeat' (first | refine (ex_callM hC) ?_ | refine ex_true (by first | decide | omega | assumption | (with_reducible exact rfl)) ?_ | refine ex_false (by first | decide | omega | assumption | exact (fun h => h rfl)) ?_ | refine ex_dec (fun _ => ?_) (fun _ => ?_) | refine ex_u8 _ rfl (by omega) (by omega) ?_ | refine ex_i64 _ rfl (by omega) (by omega) ?_ | refine ex_u64 _ rfl (by omega) (by omega) ?_ | refine and_mk (by first | omega | (with_reducible rfl) | (show drawOk _ _ _ = true; kernel_rfl)) ?_ | refine and_mk ⟨_, rfl⟩ ?_ | refine ex_is _ (List.length_map _) ?_ | refine ex_is _ List.length_nil ?_ | fail "no step")
  refine ex_loop (X := SG) (fun g => ⟨[(1, Ti fn), (2, .o (.c (.ptr 0 0))), (6, .o (.c (.ptr 2 0)))], [(0, .obj [.d (.sl 3 (fs.map fnD)), .d (.sl 4 (cs.map inD))]), (2, .obj (ckC fs cs fn e (toV fs cs fn) 4 g.d g.w)), (1, .map (kvs g.kn)), (4, .row 1 3 (dis g.lf))], 5⟩) (fun g => g.rest cs.length) (fun g => KnOk cs.length g ∧ ∀ N, g.rest cs.length < N → SG.run fs cs fn e (toV fs cs fn) N g = R) (SG.start e) ⟨⟨hs1, by omega, fun p hp => ?_⟩, fun N hN => ?_⟩ (SLe.of ⟨⟨rfl, rfl, rfl, trivial⟩, ⟨rfl, rfl, rfl, rfl, trivial⟩⟩) ?_
  · obtain rfl : p = (e, ⟨0, [], false, false⟩) := by simpa [SG.start] using hp
    exact ⟨Int.le_refl 0, by show (0 : Int) ≤ 512; decide, by show 0 + 1 ≤ 1; decide⟩
  · rw [hR]
    exact SG.run_end hlo hto fs fn N _ hs1 hN hs2
  rintro g ⟨hg, hrun⟩
  have hdl : (dis g.lf).length = g.lf.length := List.length_map _
  have hlf := hg.lf
  by_cases hl : g.lf = []
  · have hl0 : g.lf.length = 0 := by rw [hl]; rfl
    have hr := hrun (g.rest cs.length + 1) (by omega)
    rw [SG.run, if_pos hl] at hr
    rw [← hr]
    repeat' (first | refine (ex_is _ hdl) ?_ | refine ex_true (by first | decide | omega | assumption | (with_reducible exact rfl)) ?_ | refine ex_false (by first | decide | omega | assumption | exact (fun h => h rfl)) ?_ | refine ex_dec (fun _ => ?_) (fun _ => ?_) | refine ex_u8 _ rfl (by omega) (by omega) ?_ | refine ex_i64 _ rfl (by omega) (by omega) ?_ | refine ex_u64 _ rfl (by omega) (by omega) ?_ | refine and_mk (by first | omega | (with_reducible rfl) | (show drawOk _ _ _ = true; kernel_rfl)) ?_ | refine and_mk ⟨_, rfl⟩ ?_ | refine ex_is _ (List.length_map _) ?_ | refine ex_is _ List.length_nil ?_ | fail "no step")
    exact TLe.rfl
  · have hl0 : 0 < g.lf.length := List.length_pos_iff.2 hl
    have hmm := minL_mem hl
    obtain ⟨h1, h2⟩ := SG.pull_ok hg.1 hl hlo hto fs cs fn
    obtain ⟨s, hs⟩ := Option.isSome_iff_exists.1 (hg.1.2.2 _ hmm)
    have hat := hg.1.1 _ (SG.at_mem hs)
    have hmin := (((min_c g.lf hl (by omega)).of0 (Γ := ΓH)).lend rfl [(4, .row 1 3 (dis g.lf))] 5 (fun p hp => by rw [List.mem_singleton.1 hp]; rfl) (xs' := [.c (.row 4)]) rfl)
    obtain ⟨p, r, hpr, hp⟩ := List.eq_append_cons_of_mem hmm
    obtain ⟨i, hi⟩ : ∃ i : Nat, minL g.lf = i := ⟨(minL g.lf).toNat, by dsimp only at hat; omega⟩
    have hpull : SG.pull fs cs fn e (toV fs cs fn) g = SG.step fs cs fn e (toV fs cs fn) { g with lf := g.lf.filter fun k => !decide (k = minL g.lf) } (minL g.lf) := rfl
    obtain ⟨g', hg'⟩ : ∃ g' : SG, g' = { g with lf := g.lf.filter fun k => !decide (k = minL g.lf) } := ⟨_, rfl⟩
    have hgo : KnOk cs.length g' := by
      rw [hg']
      obtain ⟨q1, q2⟩ := SG.less_ok hg.1 hl
      exact ⟨q1, by have := hg.2.1; omega, hg.2.2⟩
    have hdel := (deleteFunc_c p r (minL g.lf) hp (by rw [← hpr]; omega)).ofK (Γ := ΓH)
    rw [← hpr, show (g.lf.filter fun k => !decide (k = minL g.lf)) = g'.lf by rw [hg']] at hdel
    have hdel := hdel.ren [4, 5] 6 rfl rfl rfl rfl
    rw [← hg'] at hpull
    rw [hi] at hpull hmin hdel
    dsimp only at hat
    have hci : cs[i]? = some (cs[i]'(by omega)) := at_some (by omega)
    have hs' : g'.at i = some s := by rw [hg', ← hi]; exact hs
    have hstep := ((step_c fs cs fn e (toV fs cs fn) g' hF hf hc hgo hlo hto hci hs').gH).ren [2, 1, 6] 7 rfl rfl rfl rfl
    rw [← hpull] at hstep
    have hpo : KnOk cs.length (SG.pull fs cs fn e (toV fs cs fn) g) := by
      rw [hpull]
      exact hgo.step hlo hto hF cs fn hs'
    have hrn : ∀ N, (SG.pull fs cs fn e (toV fs cs fn) g).rest cs.length < N → SG.run fs cs fn e (toV fs cs fn) N (SG.pull fs cs fn e (toV fs cs fn) g) = R := fun N hN => by
      have := hrun (g.rest cs.length + 1) (by omega)
      rw [SG.run, if_neg hl] at this
      rw [← this]
      exact SG.run_end hlo hto fs fn N _ h1 hN h2
    generalize SG.pull fs cs fn e (toV fs cs fn) g = g2 at *
    have e1 : g'.kn = g.kn := by rw [hg']
    have e2 : g'.d = g.d := by rw [hg']
    have e3 : g'.w = g.w := by rw [hg']
    rw [ckM, ckN, e1, e2, e3] at hstep
    repeat' (first | refine (ex_callM hstep) ?_ | refine (ex_callM hdel) ?_ | refine (ex_callM hmin) ?_ | refine (ex_is _ hdl) ?_ | refine ex_true (by first | decide | omega | assumption | (with_reducible exact rfl)) ?_ | refine ex_false (by first | decide | omega | assumption | exact (fun h => h rfl)) ?_ | refine ex_dec (fun _ => ?_) (fun _ => ?_) | refine ex_u8 _ rfl (by omega) (by omega) ?_ | refine ex_i64 _ rfl (by omega) (by omega) ?_ | refine ex_u64 _ rfl (by omega) (by omega) ?_ | refine and_mk (by first | omega | (with_reducible rfl) | (show drawOk _ _ _ = true; kernel_rfl)) ?_ | refine and_mk ⟨_, rfl⟩ ?_ | refine ex_is _ (List.length_map _) ?_ | refine ex_is _ List.length_nil ?_ | fail "no step")
    exact ex_round g2 ⟨hpo, hrn⟩ h2 (SLe.ren [(0, 0), (1, 1), (2, 2), (7, 4)] ⟨⟨rfl, rfl⟩, ⟨rfl, rfl⟩, ⟨rfl, rfl⟩, trivial⟩ ⟨⟨rfl, rfl⟩, ⟨rfl, rfl⟩, ⟨rfl, rfl⟩, ⟨rfl, rfl⟩, trivial⟩ rfl)
end Go.Proofs.YtgfmbkbiingagaaDoor

namespace Go.Proofs.YtgfmbkbiingagaaDoor
set_option linter.unusedVariables false
set_option linter.unusedSimpArgs false
open Go.RowKit
set_option maxRecDepth 100000

theorem ok_fr {fs : List FN} {cs : List IN} (h : okFrames fs cs = true) (hf : fs.length ≤ 64) (hc : cs.length ≤ 8192) {fn : Nat} {f : FN} (hx : fs[fn]? = some f) : FrOk fs cs fn f := by
  unfold okFrames at h
  rw [Bool.and_eq_true] at h
  have hs := framesV_spec h.1 (Int.le_refl _) (Int.le_refl _) (by decide)
  refine ⟨⟨hf, fun f hm => ?_⟩, hc, hx, by have := hs fn f hx; omega, (hs fn f hx).2.1, ?_⟩
  · obtain ⟨i, hi⟩ := List.getElem?_of_mem hm
    have := hs i f hi
    omega
  · unfold toV
    split
    · rename_i hl
      have hx2 : fs[fn + 1]? = some fs[fn + 1] := at_some hl
      rw [List.getD, hx2]
      have := (hs _ _ hx2).2.1
      show fs[fn + 1].e ≤ _
      omega
    · exact Int.le_refl _
set_option maxHeartbeats 4000000 in
theorem frames_c {fs : List FN} {cs : List IN} (hf : fs.length ≤ 64) (hc : cs.length ≤ 8192) : CallsA Tryd.prog Γ0 10 [gD [.sl 3 (fs.map fnD), .sl 4 (cs.map inD)]] (Tb (okFrames fs cs)) := by
  have hfm : (fs.map fnD).length = fs.length := List.length_map _
  have hcm : (cs.map inD).length = cs.length := List.length_map _
  refine fn_rule (C := ⟨Tryd.prog, layF, Tryd.f10.ntmps, Γ0, 0, [], []⟩) layF_ok mixed Tryd.func10 rfl (by kernel_rfl) rfl rfl rfl ?_
  repeat' (first | refine (ex_is _ hfm) ?_ | refine ex_true (by first | decide | omega | assumption | (with_reducible exact rfl)) ?_ | refine ex_false (by first | decide | omega | assumption | exact (fun h => h rfl)) ?_ | refine ex_dec (fun _ => ?_) (fun _ => ?_) | refine ex_u8 _ rfl (by omega) (by omega) ?_ | refine ex_i64 _ rfl (by omega) (by omega) ?_ | refine ex_u64 _ rfl (by omega) (by omega) ?_ | refine and_mk (by first | omega | (with_reducible rfl) | (show drawOk _ _ _ = true; kernel_rfl)) ?_ | refine and_mk ⟨_, rfl⟩ ?_ | refine ex_is _ (List.length_map _) ?_ | refine ex_is _ List.length_nil ?_ | fail "no step")
  refine ex_loop (X := Nat × Int × Int) (fun ⟨q, sl, la⟩ => ⟨[(1, .o (.c (.ptr 0 0))), (3, Ti sl), (4, Ti la), (8, .o (c1 (.sl 3 (fs.map fnD)))), (9, Ti fs.length), (10, Ti q)], [(0, .obj [.d (.sl 3 (fs.map fnD)), .d (.sl 4 (cs.map inD))])], 1⟩) (fun x => fs.length - x.1) (fun ⟨q, sl, la⟩ => q ≤ fs.length ∧ 0 ≤ sl ∧ sl ≤ 4096 ∧ -1 ≤ la ∧ framesV fs cs.length 0 (-1) true = framesV (fs.drop q) cs.length sl la (decide (q = 0))) (0, 0, -1) ⟨Nat.zero_le _, by decide, by decide, by decide, rfl⟩ (SLe.of ⟨⟨rfl, rfl, rfl, rfl, rfl, rfl, trivial⟩, ⟨rfl, trivial⟩⟩) ?_
  rintro ⟨q, sl, la⟩ ⟨hq, hs1, hs2, hla, hfr⟩
  by_cases hql : q < fs.length
  · have hx : fs[q]? = some fs[q] := at_some hql
    have hd : fs.drop q = fs[q] :: fs.drop (q + 1) := List.drop_eq_getElem_cons hql
    rw [hd] at hfr
    generalize fs[q] = x at *
    rw [framesV] at hfr
    by_cases hbad : (decide (q = 0) = true ∧ x.e ≠ 0) ∨ x.e ≤ la ∨ (cs.length : Int) ≤ x.e ∨ x.p < 0 ∨ x.s < x.p ∨ 4096 - sl < x.s
    · rw [if_pos hbad] at hfr
      rw [decide_eq_true_eq] at hbad
      have hok : okFrames fs cs = false := by unfold okFrames; rw [hfr]; rfl
      rw [hok]
      repeat' (first | refine (ex_is _ hcm) ?_ | refine (ex_row q x rfl hx) ?_ | refine ex_true (by first | decide | omega | assumption | (with_reducible exact rfl)) ?_ | refine ex_false (by first | decide | omega | assumption | exact (fun h => h rfl)) ?_ | refine ex_dec (fun _ => ?_) (fun _ => ?_) | refine ex_u8 _ rfl (by omega) (by omega) ?_ | refine ex_i64 _ rfl (by omega) (by omega) ?_ | refine ex_u64 _ rfl (by omega) (by omega) ?_ | refine and_mk (by first | omega | (with_reducible rfl) | (show drawOk _ _ _ = true; kernel_rfl)) ?_ | refine and_mk ⟨_, rfl⟩ ?_ | refine ex_is _ (List.length_map _) ?_ | refine ex_is _ List.length_nil ?_ | fail "no step")
      all_goals exact TLe.rfl
    · rw [if_neg hbad] at hfr
      rw [decide_eq_true_eq] at hbad
      repeat' (first | refine ex_i64 ((q + 1 : Nat) : Int) (by omega) (by omega) (by omega) ?_ | refine ex_u64 ((q + 1 : Nat) : Int) (by omega) (by omega) (by omega) ?_ | refine ex_u8 ((q + 1 : Nat) : Int) (by omega) (by omega) (by omega) ?_ | refine (ex_is _ hcm) ?_ | refine (ex_row q x rfl hx) ?_ | refine ex_true (by first | decide | omega | assumption | (with_reducible exact rfl)) ?_ | refine ex_false (by first | decide | omega | assumption | exact (fun h => h rfl)) ?_ | refine ex_dec (fun _ => ?_) (fun _ => ?_) | refine ex_u8 _ rfl (by omega) (by omega) ?_ | refine ex_i64 _ rfl (by omega) (by omega) ?_ | refine ex_u64 _ rfl (by omega) (by omega) ?_ | refine and_mk (by first | omega | (with_reducible rfl) | (show drawOk _ _ _ = true; kernel_rfl)) ?_ | refine and_mk ⟨_, rfl⟩ ?_ | refine ex_is _ (List.length_map _) ?_ | refine ex_is _ List.length_nil ?_ | fail "no step")
      all_goals exact ex_round (q + 1, sl + x.s, x.e) ⟨by omega, by omega, by omega, by omega, by rw [hfr]; simp⟩ (by show _ - _ < _ - _; omega) (SLe.of ⟨⟨rfl, rfl, rfl, rfl, rfl, rfl, trivial⟩, ⟨rfl, trivial⟩⟩)
  · obtain rfl : q = fs.length := by omega
    rw [List.drop_length] at hfr
    have hok : okFrames fs cs = decide (0 < fs.length) := by
      unfold okFrames
      rw [hfr]
      cases fs <;> simp [framesV]
    rw [hok]
    repeat' (first | refine (ex_is _ hfm) ?_ | refine ex_true (by first | decide | omega | assumption | (with_reducible exact rfl)) ?_ | refine ex_false (by first | decide | omega | assumption | exact (fun h => h rfl)) ?_ | refine ex_dec (fun _ => ?_) (fun _ => ?_) | refine ex_u8 _ rfl (by omega) (by omega) ?_ | refine ex_i64 _ rfl (by omega) (by omega) ?_ | refine ex_u64 _ rfl (by omega) (by omega) ?_ | refine and_mk (by first | omega | (with_reducible rfl) | (show drawOk _ _ _ = true; kernel_rfl)) ?_ | refine and_mk ⟨_, rfl⟩ ?_ | refine ex_is _ (List.length_map _) ?_ | refine ex_is _ List.length_nil ?_ | fail "no step")
    all_goals first | exact TLe.eq (by rw [decide_eq_true (by omega)]; rfl) | exact TLe.eq (by rw [decide_eq_false (by omega)]; rfl)
end Go.Proofs.YtgfmbkbiingagaaDoor

namespace Go.Proofs.YtgfmbkbiingagaaDoor
set_option linter.unusedVariables false
set_option linter.unusedSimpArgs false
open Go.RowKit
set_option maxRecDepth 100000

theorem check_c {fs : List FN} {cs : List IN} (hf : fs.length ≤ 64) (hc : cs.length ≤ 8192) : CallsA Tryd.prog ΓH 7 [gD [.sl 3 (fs.map fnD), .sl 4 (cs.map inD)]] (.tup [c1 (di (checkV fs cs).1), c1 (di (checkV fs cs).2)]) := by
  have hfm : (fs.map fnD).length = fs.length := List.length_map _
  have hcm : (cs.map inD).length = cs.length := List.length_map _
  have hfr := (frames_c hf hc).of0 (Γ := ΓH)
  unfold checkV
  cases hok : okFrames fs cs with
  | false =>
    rw [hok] at hfr
    rw [if_pos rfl]
    refine fn_rule (C := ⟨Tryd.prog, layF, Tryd.f7.ntmps, ΓH, 0, [], []⟩) layF_ok mixed Tryd.func7 rfl (by kernel_rfl) rfl rfl rfl ?_
    repeat' (first | refine ex_call hfr ?_ | refine (ex_is _ hcm) ?_ | refine (ex_is _ hfm) ?_ | refine ex_true (by first | decide | omega | assumption | (with_reducible exact rfl)) ?_ | refine ex_false (by first | decide | omega | assumption | exact (fun h => h rfl)) ?_ | refine ex_dec (fun _ => ?_) (fun _ => ?_) | refine ex_u8 _ rfl (by omega) (by omega) ?_ | refine ex_i64 _ rfl (by omega) (by omega) ?_ | refine ex_u64 _ rfl (by omega) (by omega) ?_ | refine and_mk (by first | omega | (with_reducible rfl) | (show drawOk _ _ _ = true; kernel_rfl)) ?_ | refine and_mk ⟨_, rfl⟩ ?_ | refine ex_is _ (List.length_map _) ?_ | refine ex_is _ List.length_nil ?_ | fail "no step")
    exact TLe.rfl
  | true =>
    rw [hok] at hfr
    rw [if_neg (by simp)]
    refine fn_rule (C := ⟨Tryd.prog, layF, Tryd.f7.ntmps, ΓH, 0, [], []⟩) layF_ok mixed Tryd.func7 rfl (by kernel_rfl) rfl rfl rfl ?_
    repeat' (first | refine ex_call hfr ?_ | refine (ex_is _ hcm) ?_ | refine (ex_is _ hfm) ?_ | refine ex_true (by first | decide | omega | assumption | (with_reducible exact rfl)) ?_ | refine ex_false (by first | decide | omega | assumption | exact (fun h => h rfl)) ?_ | refine ex_dec (fun _ => ?_) (fun _ => ?_) | refine ex_u8 _ rfl (by omega) (by omega) ?_ | refine ex_i64 _ rfl (by omega) (by omega) ?_ | refine ex_u64 _ rfl (by omega) (by omega) ?_ | refine and_mk (by first | omega | (with_reducible rfl) | (show drawOk _ _ _ = true; kernel_rfl)) ?_ | refine and_mk ⟨_, rfl⟩ ?_ | refine ex_is _ (List.length_map _) ?_ | refine ex_is _ List.length_nil ?_ | fail "no step")
    refine ex_loop (X := Nat) (fun q => ⟨[(1, .o (.c (.ptr 0 0))), (24, Ti fs.length), (25, Ti q)], [(0, .obj [.d (.sl 3 (fs.map fnD)), .d (.sl 4 (cs.map inD))])], 1⟩) (fun q => fs.length - q) (fun q => q ≤ fs.length ∧ badV fs cs fs.length 0 = badV fs cs (fs.length - q) q) 0 ⟨Nat.zero_le _, rfl⟩ (SLe.of ⟨⟨rfl, rfl, rfl, trivial⟩, ⟨rfl, trivial⟩⟩) ?_
    rintro q ⟨hq, hbd⟩
    by_cases hql : q < fs.length
    · have hx : fs[q]? = some fs[q] := at_some hql
      have hfn := function_c (ok_fr hok hf hc hx)
      rw [show fs.length - q = (fs.length - (q + 1)) + 1 by omega, badV] at hbd
      generalize functionV fs cs q = r at *
      obtain ⟨r1, r2⟩ := r
      dsimp only at hbd hfn
      by_cases h0 : 0 ≤ r1
      · rw [if_pos h0] at hbd
        rw [hbd]
        repeat' (first | refine ex_call hfn ?_ | refine ex_true (by first | decide | omega | assumption | (with_reducible exact rfl)) ?_ | refine ex_false (by first | decide | omega | assumption | exact (fun h => h rfl)) ?_ | refine ex_dec (fun _ => ?_) (fun _ => ?_) | refine ex_u8 _ rfl (by omega) (by omega) ?_ | refine ex_i64 _ rfl (by omega) (by omega) ?_ | refine ex_u64 _ rfl (by omega) (by omega) ?_ | refine and_mk (by first | omega | (with_reducible rfl) | (show drawOk _ _ _ = true; kernel_rfl)) ?_ | refine and_mk ⟨_, rfl⟩ ?_ | refine ex_is _ (List.length_map _) ?_ | refine ex_is _ List.length_nil ?_ | fail "no step")
        exact TLe.rfl
      · rw [if_neg h0] at hbd
        repeat' (first | refine ex_call hfn ?_ | refine ex_i64 ((q + 1 : Nat) : Int) (by omega) (by omega) (by omega) ?_ | refine ex_u64 ((q + 1 : Nat) : Int) (by omega) (by omega) (by omega) ?_ | refine ex_u8 ((q + 1 : Nat) : Int) (by omega) (by omega) (by omega) ?_ | refine ex_true (by first | decide | omega | assumption | (with_reducible exact rfl)) ?_ | refine ex_false (by first | decide | omega | assumption | exact (fun h => h rfl)) ?_ | refine ex_dec (fun _ => ?_) (fun _ => ?_) | refine ex_u8 _ rfl (by omega) (by omega) ?_ | refine ex_i64 _ rfl (by omega) (by omega) ?_ | refine ex_u64 _ rfl (by omega) (by omega) ?_ | refine and_mk (by first | omega | (with_reducible rfl) | (show drawOk _ _ _ = true; kernel_rfl)) ?_ | refine and_mk ⟨_, rfl⟩ ?_ | refine ex_is _ (List.length_map _) ?_ | refine ex_is _ List.length_nil ?_ | fail "no step")
        exact ex_round (q + 1) ⟨by omega, hbd⟩ (by show _ - _ < _ - _; omega) (SLe.of ⟨⟨rfl, rfl, rfl, trivial⟩, ⟨rfl, trivial⟩⟩)
    · obtain rfl : q = fs.length := by omega
      rw [Nat.sub_self, badV] at hbd
      rw [hbd]
      repeat' (first | refine ex_true (by first | decide | omega | assumption | (with_reducible exact rfl)) ?_ | refine ex_false (by first | decide | omega | assumption | exact (fun h => h rfl)) ?_ | refine ex_dec (fun _ => ?_) (fun _ => ?_) | refine ex_u8 _ rfl (by omega) (by omega) ?_ | refine ex_i64 _ rfl (by omega) (by omega) ?_ | refine ex_u64 _ rfl (by omega) (by omega) ?_ | refine and_mk (by first | omega | (with_reducible rfl) | (show drawOk _ _ _ = true; kernel_rfl)) ?_ | refine and_mk ⟨_, rfl⟩ ?_ | refine ex_is _ (List.length_map _) ?_ | refine ex_is _ List.length_nil ?_ | fail "no step")
      exact TLe.rfl
theorem deepest_c {fs : List FN} {cs : List IN} (hf : fs.length ≤ 64) (hc : cs.length ≤ 8192) (fn : Int) : CallsA Tryd.prog ΓH 8 [gD [.sl 3 (fs.map fnD), .sl 4 (cs.map inD)], c1 (di fn)] (Ti (deepestV fs cs fn)) := by
  have hfm : (fs.map fnD).length = fs.length := List.length_map _
  have hck := check_c hf hc
  unfold deepestV
  by_cases h : (checkV fs cs).2 ≠ 0 ∨ fn < 0 ∨ (fs.length : Int) ≤ fn
  · rw [if_pos h]
    generalize checkV fs cs = r at *
    obtain ⟨r1, r2⟩ := r
    dsimp only at h hck
    refine fn_rule (C := ⟨Tryd.prog, layF, Tryd.f8.ntmps, ΓH, 0, [], []⟩) layF_ok mixed Tryd.func8 rfl (by kernel_rfl) rfl rfl rfl ?_
    repeat' (first | refine ex_call hck ?_ | refine (ex_is _ hfm) ?_ | refine ex_true (by first | decide | omega | assumption | (with_reducible exact rfl)) ?_ | refine ex_false (by first | decide | omega | assumption | exact (fun h => h rfl)) ?_ | refine ex_dec (fun _ => ?_) (fun _ => ?_) | refine ex_u8 _ rfl (by omega) (by omega) ?_ | refine ex_i64 _ rfl (by omega) (by omega) ?_ | refine ex_u64 _ rfl (by omega) (by omega) ?_ | refine and_mk (by first | omega | (with_reducible rfl) | (show drawOk _ _ _ = true; kernel_rfl)) ?_ | refine and_mk ⟨_, rfl⟩ ?_ | refine ex_is _ (List.length_map _) ?_ | refine ex_is _ List.length_nil ?_ | fail "no step")
    all_goals exact TLe.rfl
  · rw [if_neg h]
    have hok : okFrames fs cs = true := by
      cases hv : okFrames fs cs with
      | true => rfl
      | false => exact absurd (.inl (by unfold checkV; rw [hv, if_pos rfl]; exact (by decide : (2 : Nat) ≠ 0))) h
    obtain ⟨k, rfl⟩ : ∃ k : Nat, fn = k := ⟨fn.toNat, by omega⟩
    have hx : fs[k]? = some (fs[k]'(by omega)) := at_some (by omega)
    have hfn := function_c (ok_fr hok hf hc hx)
    clear hx
    rw [Int.toNat_natCast]
    generalize checkV fs cs = r at *
    obtain ⟨r1, r2⟩ := r
    dsimp only at h hck
    refine fn_rule (C := ⟨Tryd.prog, layF, Tryd.f8.ntmps, ΓH, 0, [], []⟩) layF_ok mixed Tryd.func8 rfl (by kernel_rfl) rfl rfl rfl ?_
    repeat' (first | refine ex_call hfn ?_ | refine ex_call hck ?_ | refine (ex_is _ hfm) ?_ | refine ex_true (by first | decide | omega | assumption | (with_reducible exact rfl)) ?_ | refine ex_false (by first | decide | omega | assumption | exact (fun h => h rfl)) ?_ | refine ex_dec (fun _ => ?_) (fun _ => ?_) | refine ex_u8 _ rfl (by omega) (by omega) ?_ | refine ex_i64 _ rfl (by omega) (by omega) ?_ | refine ex_u64 _ rfl (by omega) (by omega) ?_ | refine and_mk (by first | omega | (with_reducible rfl) | (show drawOk _ _ _ = true; kernel_rfl)) ?_ | refine and_mk ⟨_, rfl⟩ ?_ | refine ex_is _ (List.length_map _) ?_ | refine ex_is _ List.length_nil ?_ | fail "no step")
    exact TLe.rfl
end Go.Proofs.YtgfmbkbiingagaaDoor

namespace Go.Proofs.YtgfmbkbiingagaaDoor
set_option linter.unusedVariables false
set_option linter.unusedSimpArgs false
open Go.RowKit
set_option maxRecDepth 100000

theorem TLe.nilc {s : Nat} {l : List T1} : TLe (.tup (c1 (.v (.slice none 0 0)) :: l)) (.tup (c1 (.sl s []) :: l)) := fun ι S w v ⟨us, hu, h⟩ => by
  have h : All2 (V1 ι S w) (c1 (.v (.slice none 0 0)) :: l) us := h
  obtain ⟨u, us, rfl, e, h⟩ := h.cons_left
  exact ⟨u :: us, hu, .cons (TLe.nil ι S w u e) h⟩
theorem bs_inj {a b : List UInt8} : bs a = bs b ↔ a = b := ⟨fun h => by have := congrArg (fun x : ByteArray => x.data.toList) h; simpa using this, fun h => by rw [h]⟩
/-- The number that Atoi tells. -/
def numZ (s : List UInt8) : Int := match Lib.atoiAll s with
  | .ok u => u
  | .range => Lib.atoiSat s
  | _ => 0
theorem numZ_of {s : List UInt8} {z : Int} (h : intF s = some z) : numZ s = z := by
  obtain ⟨⟨h1, h2⟩, h3⟩ := intF_iff.1 h
  unfold numZ
  rw [← h3, atoi_itoa z h1 h2]
theorem number_c (s : List UInt8) (hs : s.length ≤ 1048576) : CallsA Tryd.prog ΓC 44 [c1 (ds (bs s))] (.tup [c1 (di (numZ s)), c1 (db (intF s).isSome)]) := by
  have ha := atoi_c (bs s) (by rw [bs_size]; exact hs)
  rw [show (bs s).data.toList = s by simp] at ha
  unfold atT at ha
  unfold numZ intF
  cases hp : Lib.atoiAll s with
  | ok u =>
    rw [hp] at ha
    have hb := Lib.atoiAll_bounds hp
    have hi := itoa_c u hb.1 hb.2
    dsimp only
    by_cases he : Lib.itoa u = s
    · rw [if_pos he]
      have he2 : bs (Lib.itoa u) = bs s := bs_inj.2 he
      refine fn_rule (C := ⟨Tryd.prog, layF, Tryd.f44.ntmps, ΓC, 0, [], []⟩) layF_ok mixed Tryd.func44 rfl (by kernel_rfl) rfl rfl rfl ?_
      repeat' (first | refine ex_call hi ?_ | refine ex_call ha ?_ | refine ex_true (by first | decide | omega | assumption | (with_reducible exact rfl)) ?_ | refine ex_false (by first | decide | omega | assumption | exact (fun h => h rfl)) ?_ | refine ex_dec (fun _ => ?_) (fun _ => ?_) | refine ex_u8 _ rfl (by omega) (by omega) ?_ | refine ex_i64 _ rfl (by omega) (by omega) ?_ | refine ex_u64 _ rfl (by omega) (by omega) ?_ | refine and_mk (by first | omega | (with_reducible rfl) | (show drawOk _ _ _ = true; kernel_rfl)) ?_ | refine and_mk ⟨_, rfl⟩ ?_ | refine ex_is _ (List.length_map _) ?_ | refine ex_is _ List.length_nil ?_ | fail "no step")
      exact TLe.rfl
    · rw [if_neg he]
      have he2 : ¬ bs (Lib.itoa u) = bs s := fun e => he (bs_inj.1 e)
      refine fn_rule (C := ⟨Tryd.prog, layF, Tryd.f44.ntmps, ΓC, 0, [], []⟩) layF_ok mixed Tryd.func44 rfl (by kernel_rfl) rfl rfl rfl ?_
      repeat' (first | refine ex_call hi ?_ | refine ex_call ha ?_ | refine ex_true (by first | decide | omega | assumption | (with_reducible exact rfl)) ?_ | refine ex_false (by first | decide | omega | assumption | exact (fun h => h rfl)) ?_ | refine ex_dec (fun _ => ?_) (fun _ => ?_) | refine ex_u8 _ rfl (by omega) (by omega) ?_ | refine ex_i64 _ rfl (by omega) (by omega) ?_ | refine ex_u64 _ rfl (by omega) (by omega) ?_ | refine and_mk (by first | omega | (with_reducible rfl) | (show drawOk _ _ _ = true; kernel_rfl)) ?_ | refine and_mk ⟨_, rfl⟩ ?_ | refine ex_is _ (List.length_map _) ?_ | refine ex_is _ List.length_nil ?_ | fail "no step")
      exact TLe.rfl
  | range =>
    rw [hp] at ha
    dsimp only at ha ⊢
    generalize Lib.atoiSat s = z at *
    refine fn_rule (C := ⟨Tryd.prog, layF, Tryd.f44.ntmps, ΓC, 0, [], []⟩) layF_ok mixed Tryd.func44 rfl (by kernel_rfl) rfl rfl rfl ?_
    repeat' (first | refine ex_call ha ?_ | refine ex_true (by first | decide | omega | assumption | (with_reducible exact rfl)) ?_ | refine ex_false (by first | decide | omega | assumption | exact (fun h => h rfl)) ?_ | refine ex_dec (fun _ => ?_) (fun _ => ?_) | refine ex_u8 _ rfl (by omega) (by omega) ?_ | refine ex_i64 _ rfl (by omega) (by omega) ?_ | refine ex_u64 _ rfl (by omega) (by omega) ?_ | refine and_mk (by first | omega | (with_reducible rfl) | (show drawOk _ _ _ = true; kernel_rfl)) ?_ | refine and_mk ⟨_, rfl⟩ ?_ | refine ex_is _ (List.length_map _) ?_ | refine ex_is _ List.length_nil ?_ | fail "no step")
    exact TLe.rfl
  | _ =>
    rw [hp] at ha
    dsimp only at ha ⊢
    refine fn_rule (C := ⟨Tryd.prog, layF, Tryd.f44.ntmps, ΓC, 0, [], []⟩) layF_ok mixed Tryd.func44 rfl (by kernel_rfl) rfl rfl rfl ?_
    repeat' (first | refine ex_call ha ?_ | refine ex_true (by first | decide | omega | assumption | (with_reducible exact rfl)) ?_ | refine ex_false (by first | decide | omega | assumption | exact (fun h => h rfl)) ?_ | refine ex_dec (fun _ => ?_) (fun _ => ?_) | refine ex_u8 _ rfl (by omega) (by omega) ?_ | refine ex_i64 _ rfl (by omega) (by omega) ?_ | refine ex_u64 _ rfl (by omega) (by omega) ?_ | refine and_mk (by first | omega | (with_reducible rfl) | (show drawOk _ _ _ = true; kernel_rfl)) ?_ | refine and_mk ⟨_, rfl⟩ ?_ | refine ex_is _ (List.length_map _) ?_ | refine ex_is _ List.length_nil ?_ | fail "no step")
    exact TLe.rfl
theorem numbers_c (l : List (List UInt8)) (hl : l.length ≤ 1048577) (hb : ∀ s ∈ l, s.length ≤ 1048576) : CallsA Tryd.prog ΓC 30 [c1 (dss l)] (.tup [c1 (dint ((intsF l).getD [])), c1 (db (intsF l).isSome)]) := by
  obtain ⟨R, hR⟩ : ∃ R, intsF l = R := ⟨_, rfl⟩
  rw [hR]
  refine fn_rule (C := ⟨Tryd.prog, layF, Tryd.f30.ntmps, ΓC, 0, [], []⟩) layF_ok mixed Tryd.func30 rfl (by kernel_rfl) rfl rfl rfl ?_
  repeat' (first | refine ex_true (by first | decide | omega | assumption | (with_reducible exact rfl)) ?_ | refine ex_false (by first | decide | omega | assumption | exact (fun h => h rfl)) ?_ | refine ex_dec (fun _ => ?_) (fun _ => ?_) | refine ex_u8 _ rfl (by omega) (by omega) ?_ | refine ex_i64 _ rfl (by omega) (by omega) ?_ | refine ex_u64 _ rfl (by omega) (by omega) ?_ | refine and_mk (by first | omega | (with_reducible rfl) | (show drawOk _ _ _ = true; kernel_rfl)) ?_ | refine and_mk ⟨_, rfl⟩ ?_ | refine ex_is _ (List.length_map _) ?_ | refine ex_is _ List.length_nil ?_ | fail "no step")
  refine ex_loop (X := Nat × List Int) (fun ⟨q, a⟩ => ⟨[(4, .o (.c (.row 0))), (9, .o (c1 (dss l))), (10, Ti l.length), (11, Ti q)], [(0, .row 1 3 (a.map fun z => [di z]))], 1⟩) (fun x => l.length - x.1) (fun ⟨q, a⟩ => q ≤ l.length ∧ a.length = q ∧ (intsF (l.drop q)).map (a ++ ·) = R) (0, []) ⟨Nat.zero_le _, rfl, by rw [List.drop_zero, hR]; cases R <;> rfl⟩ (SLe.trans (SLe.of ⟨⟨rfl, rfl, rfl, rfl, trivial⟩, ⟨rfl, trivial⟩⟩) (SLe.own 4 0 1 3 rfl rfl rfl rfl rfl)) ?_
  rintro ⟨q, a⟩ ⟨hq, ha, hs⟩
  refine ex_dec (fun h => ?_) (fun h => ?_)
  · have hql : q < l.length := by omega
    have hc : l[q]? = some l[q] := at_some hql
    have hbs := hb l[q] (List.getElem_mem hql)
    rw [List.drop_eq_getElem_cons hql, intsF] at hs
    generalize l[q] = s at *
    have hn := number_c s hbs
    cases hz : intF s with
    | none =>
      rw [hz] at hs hn
      dsimp only at hs
      subst hs
      repeat' (first | refine ex_call hn ?_ | refine (ex_row q s rfl hc) ?_ | refine ex_true (by first | decide | omega | assumption | (with_reducible exact rfl)) ?_ | refine ex_false (by first | decide | omega | assumption | exact (fun h => h rfl)) ?_ | refine ex_dec (fun _ => ?_) (fun _ => ?_) | refine ex_u8 _ rfl (by omega) (by omega) ?_ | refine ex_i64 _ rfl (by omega) (by omega) ?_ | refine ex_u64 _ rfl (by omega) (by omega) ?_ | refine and_mk (by first | omega | (with_reducible rfl) | (show drawOk _ _ _ = true; kernel_rfl)) ?_ | refine and_mk ⟨_, rfl⟩ ?_ | refine ex_is _ (List.length_map _) ?_ | refine ex_is _ List.length_nil ?_ | fail "no step")
      exact TLe.nilc
    | some z =>
      rw [hz] at hs hn
      rw [numZ_of hz] at hn
      dsimp only at hs
      repeat' (first | refine ex_call hn ?_ | refine (ex_row q s rfl hc) ?_ | refine ex_true (by first | decide | omega | assumption | (with_reducible exact rfl)) ?_ | refine ex_false (by first | decide | omega | assumption | exact (fun h => h rfl)) ?_ | refine ex_dec (fun _ => ?_) (fun _ => ?_) | refine ex_u8 _ rfl (by omega) (by omega) ?_ | refine ex_i64 _ rfl (by omega) (by omega) ?_ | refine ex_u64 _ rfl (by omega) (by omega) ?_ | refine and_mk (by first | omega | (with_reducible rfl) | (show drawOk _ _ _ = true; kernel_rfl)) ?_ | refine and_mk ⟨_, rfl⟩ ?_ | refine ex_is _ (List.length_map _) ?_ | refine ex_is _ List.length_nil ?_ | fail "no step")
      refine ex_app (q) (1) 1000 (by first | rfl | (simp; done) | (simp; omega)) (by first | rfl | (simp; done) | (simp; omega)) rfl (by omega) ?_
      refine ex_is (List.map (fun z => [di z]) (a ++ [z])) (by rw [List.map_append]; rfl) ?_
      repeat' (first | refine ex_i64 ((q + 1 : Nat) : Int) (by omega) (by omega) (by omega) ?_ | refine ex_u64 ((q + 1 : Nat) : Int) (by omega) (by omega) (by omega) ?_ | refine ex_u8 ((q + 1 : Nat) : Int) (by omega) (by omega) (by omega) ?_ | refine ex_true (by first | decide | omega | assumption | (with_reducible exact rfl)) ?_ | refine ex_false (by first | decide | omega | assumption | exact (fun h => h rfl)) ?_ | refine ex_dec (fun _ => ?_) (fun _ => ?_) | refine ex_u8 _ rfl (by omega) (by omega) ?_ | refine ex_i64 _ rfl (by omega) (by omega) ?_ | refine ex_u64 _ rfl (by omega) (by omega) ?_ | refine and_mk (by first | omega | (with_reducible rfl) | (show drawOk _ _ _ = true; kernel_rfl)) ?_ | refine and_mk ⟨_, rfl⟩ ?_ | refine ex_is _ (List.length_map _) ?_ | refine ex_is _ List.length_nil ?_ | fail "no step")
      exact ex_round (q + 1, a ++ [z]) ⟨by omega, by simp [ha], by rw [← hs]; cases intsF (l.drop (q + 1)) <;> simp⟩ (by show _ - _ < _ - _; omega) (SLe.ren [(2, 0)] ⟨⟨rfl, rfl⟩, ⟨rfl, rfl⟩, ⟨rfl, rfl⟩, ⟨rfl, rfl⟩, trivial⟩ ⟨⟨rfl, rfl⟩, trivial⟩ rfl)
  · have hq9 : q = l.length := by omega
    subst hq9
    rw [List.drop_length, intsF, Option.map_some, List.append_nil] at hs
    subst hs
    repeat' (first | refine ex_true (by first | decide | omega | assumption | (with_reducible exact rfl)) ?_ | refine ex_false (by first | decide | omega | assumption | exact (fun h => h rfl)) ?_ | refine ex_dec (fun _ => ?_) (fun _ => ?_) | refine ex_u8 _ rfl (by omega) (by omega) ?_ | refine ex_i64 _ rfl (by omega) (by omega) ?_ | refine ex_u64 _ rfl (by omega) (by omega) ?_ | refine and_mk (by first | omega | (with_reducible rfl) | (show drawOk _ _ _ = true; kernel_rfl)) ?_ | refine and_mk ⟨_, rfl⟩ ?_ | refine ex_is _ (List.length_map _) ?_ | refine ex_is _ List.length_nil ?_ | fail "no step")
    exact TLe.rfl
theorem findO_none {w : List UInt8} (h : ∀ j, j < 36 → (opsL.getD j noneR).1 ≠ w) : findO w = none := by
  unfold findO
  rw [List.findIdx?_eq_none_iff]
  intro r hr
  obtain ⟨j, hj⟩ := List.getElem?_of_mem hr
  have hlt := (List.getElem?_eq_some_iff.1 hj).1
  have := h j hlt
  rw [List.getD, hj] at this
  simpa using this
theorem findO_hit {w : List UInt8} {q : Nat} (hq : q < 36) (h : ∀ j, j < q → (opsL.getD j noneR).1 ≠ w) (he : (opsL.getD q noneR).1 = w) : findO w = some q := by
  have := (ops_facts ⟨q, hq⟩).2.2.2.2.1
  rw [← he]
  exact this
theorem find_c (w : List UInt8) : CallsA Tryd.prog ΓC 41 [c1 (ds (bs w))] (.tup [c1 (di ((findO w).getD 0 : Nat)), c1 (db (findO w).isSome)]) := by
  obtain ⟨R, hR⟩ : ∃ R, findO w = R := ⟨_, rfl⟩
  rw [hR]
  refine fn_rule (C := ⟨Tryd.prog, layF, Tryd.f41.ntmps, ΓC, 0, [], []⟩) layF_ok mixed Tryd.func41 rfl (by kernel_rfl) rfl rfl rfl ?_
  repeat' (first | refine ex_true (by first | decide | omega | assumption | (with_reducible exact rfl)) ?_ | refine ex_false (by first | decide | omega | assumption | exact (fun h => h rfl)) ?_ | refine ex_dec (fun _ => ?_) (fun _ => ?_) | refine ex_u8 _ rfl (by omega) (by omega) ?_ | refine ex_i64 _ rfl (by omega) (by omega) ?_ | refine ex_u64 _ rfl (by omega) (by omega) ?_ | refine and_mk (by first | omega | (with_reducible rfl) | (show drawOk _ _ _ = true; kernel_rfl)) ?_ | refine and_mk ⟨_, rfl⟩ ?_ | refine ex_is _ (List.length_map _) ?_ | refine ex_is _ List.length_nil ?_ | fail "no step")
  refine ex_loop (X := Nat) (fun q => ⟨[(0, Tstr (bs w)), (5, Ti q)], [], 0⟩) (fun q => 36 - q) (fun q => q ≤ 36 ∧ ∀ j, j < q → (opsL.getD j noneR).1 ≠ w) 0 ⟨Nat.zero_le _, fun j h => by omega⟩ (SLe.of ⟨⟨rfl, rfl, trivial⟩, trivial⟩) ?_
  rintro q ⟨hq, hs⟩
  refine ex_dec (fun h => ?_) (fun h => ?_)
  · have hq36 : q < 36 := by omega
    have h1 := shapes_at hq36
    have hne := (ops_facts ⟨q, hq36⟩).2.2.1
    dsimp only at hne
    have hhit := findO_hit hq36 hs
    generalize hr : opsL.getD q noneR = r at hne hhit h1
    by_cases hw : r.1 = w
    · have hw2 : bs r.1 = bs w := bs_inj.2 hw
      have hwe : ¬ bs w = ByteArray.empty := fun e => hne (by rw [hw]; exact bs_inj.1 e)
      rw [hhit hw] at hR
      subst hR
      repeat' (first | refine ex_true (by first | decide | omega | assumption | (with_reducible exact rfl)) ?_ | refine ex_false (by first | decide | omega | assumption | exact (fun h => h rfl)) ?_ | refine ex_dec (fun _ => ?_) (fun _ => ?_) | refine ex_u8 _ rfl (by omega) (by omega) ?_ | refine ex_i64 _ rfl (by omega) (by omega) ?_ | refine ex_u64 _ rfl (by omega) (by omega) ?_ | refine and_mk (by first | omega | (with_reducible rfl) | (show drawOk _ _ _ = true; kernel_rfl)) ?_ | refine and_mk ⟨_, rfl⟩ ?_ | refine ex_is _ (List.length_map _) ?_ | refine ex_is _ List.length_nil ?_ | fail "no step")
      refine ex_is _ h1 ?_
      repeat' (first | refine ex_true (by first | decide | omega | assumption | (with_reducible exact rfl)) ?_ | refine ex_false (by first | decide | omega | assumption | exact (fun h => h rfl)) ?_ | refine ex_dec (fun _ => ?_) (fun _ => ?_) | refine ex_u8 _ rfl (by omega) (by omega) ?_ | refine ex_i64 _ rfl (by omega) (by omega) ?_ | refine ex_u64 _ rfl (by omega) (by omega) ?_ | refine and_mk (by first | omega | (with_reducible rfl) | (show drawOk _ _ _ = true; kernel_rfl)) ?_ | refine and_mk ⟨_, rfl⟩ ?_ | refine ex_is _ (List.length_map _) ?_ | refine ex_is _ List.length_nil ?_ | fail "no step")
      exact TLe.rfl
    · have hw2 : ¬ bs r.1 = bs w := fun e => hw (bs_inj.1 e)
      have hnx : ∀ j, j < q + 1 → (opsL.getD j noneR).1 ≠ w := fun j hj => by
        by_cases hjq : j = q
        · subst hjq; rw [hr]; exact hw
        · exact hs j (by omega)
      by_cases hwe : w = []
      · subst hwe
        repeat' (first | refine ex_i64 ((q + 1 : Nat) : Int) (by omega) (by omega) (by omega) ?_ | refine ex_u64 ((q + 1 : Nat) : Int) (by omega) (by omega) (by omega) ?_ | refine ex_u8 ((q + 1 : Nat) : Int) (by omega) (by omega) (by omega) ?_ | refine ex_true (by first | decide | omega | assumption | (with_reducible exact rfl)) ?_ | refine ex_false (by first | decide | omega | assumption | exact (fun h => h rfl)) ?_ | refine ex_dec (fun _ => ?_) (fun _ => ?_) | refine ex_u8 _ rfl (by omega) (by omega) ?_ | refine ex_i64 _ rfl (by omega) (by omega) ?_ | refine ex_u64 _ rfl (by omega) (by omega) ?_ | refine and_mk (by first | omega | (with_reducible rfl) | (show drawOk _ _ _ = true; kernel_rfl)) ?_ | refine and_mk ⟨_, rfl⟩ ?_ | refine ex_is _ (List.length_map _) ?_ | refine ex_is _ List.length_nil ?_ | fail "no step")
        exact ex_round (q + 1) ⟨by omega, hnx⟩ (by show _ - _ < _ - _; omega) (SLe.of ⟨⟨rfl, rfl, trivial⟩, trivial⟩)
      · have hwe2 : ¬ bs w = ByteArray.empty := fun e => hwe (bs_inj.1 e)
        repeat' (first | refine ex_true (by first | decide | omega | assumption | (with_reducible exact rfl)) ?_ | refine ex_false (by first | decide | omega | assumption | exact (fun h => h rfl)) ?_ | refine ex_dec (fun _ => ?_) (fun _ => ?_) | refine ex_u8 _ rfl (by omega) (by omega) ?_ | refine ex_i64 _ rfl (by omega) (by omega) ?_ | refine ex_u64 _ rfl (by omega) (by omega) ?_ | refine and_mk (by first | omega | (with_reducible rfl) | (show drawOk _ _ _ = true; kernel_rfl)) ?_ | refine and_mk ⟨_, rfl⟩ ?_ | refine ex_is _ (List.length_map _) ?_ | refine ex_is _ List.length_nil ?_ | fail "no step")
        refine ex_is _ h1 ?_
        repeat' (first | refine ex_i64 ((q + 1 : Nat) : Int) (by omega) (by omega) (by omega) ?_ | refine ex_u64 ((q + 1 : Nat) : Int) (by omega) (by omega) (by omega) ?_ | refine ex_u8 ((q + 1 : Nat) : Int) (by omega) (by omega) (by omega) ?_ | refine ex_true (by first | decide | omega | assumption | (with_reducible exact rfl)) ?_ | refine ex_false (by first | decide | omega | assumption | exact (fun h => h rfl)) ?_ | refine ex_dec (fun _ => ?_) (fun _ => ?_) | refine ex_u8 _ rfl (by omega) (by omega) ?_ | refine ex_i64 _ rfl (by omega) (by omega) ?_ | refine ex_u64 _ rfl (by omega) (by omega) ?_ | refine and_mk (by first | omega | (with_reducible rfl) | (show drawOk _ _ _ = true; kernel_rfl)) ?_ | refine and_mk ⟨_, rfl⟩ ?_ | refine ex_is _ (List.length_map _) ?_ | refine ex_is _ List.length_nil ?_ | fail "no step")
        exact ex_round (q + 1) ⟨by omega, hnx⟩ (by show _ - _ < _ - _; omega) (SLe.of ⟨⟨rfl, rfl, trivial⟩, trivial⟩)
  · have hq9 : q = 36 := by omega
    subst hq9
    rw [findO_none hs] at hR
    subst hR
    repeat' (first | refine ex_true (by first | decide | omega | assumption | (with_reducible exact rfl)) ?_ | refine ex_false (by first | decide | omega | assumption | exact (fun h => h rfl)) ?_ | refine ex_dec (fun _ => ?_) (fun _ => ?_) | refine ex_u8 _ rfl (by omega) (by omega) ?_ | refine ex_i64 _ rfl (by omega) (by omega) ?_ | refine ex_u64 _ rfl (by omega) (by omega) ?_ | refine and_mk (by first | omega | (with_reducible rfl) | (show drawOk _ _ _ = true; kernel_rfl)) ?_ | refine and_mk ⟨_, rfl⟩ ?_ | refine ex_is _ (List.length_map _) ?_ | refine ex_is _ List.length_nil ?_ | fail "no step")
    exact TLe.rfl
theorem mem_cut {c : UInt8} : ∀ {s : List UInt8}, (cutL c s).length ≤ s.length + 1 ∧ ∀ l ∈ cutL c s, l.length ≤ s.length
  | [] => ⟨by simp [cutL], by simp [cutL]⟩
  | a :: r => by
    obtain ⟨h1, h2⟩ := mem_cut (c := c) (s := r)
    rw [cutL]
    split
    · exact ⟨by rw [List.length_cons, List.length_cons]; omega, fun l hl => by
        rcases List.mem_cons.1 hl with rfl | hl
        · simp
        · have := h2 l hl; rw [List.length_cons]; omega⟩
    · cases hc : cutL c r with
      | nil => exact absurd hc (cutL_ne c r)
      | cons x t =>
        rw [hc] at h1 h2
        refine ⟨by show (_ :: t).length ≤ _; rw [List.length_cons] at h1 ⊢; rw [List.length_cons]; omega, fun l hl => ?_⟩
        rcases List.mem_cons.1 hl with rfl | hl
        · have := h2 x (by simp); show (a :: x).length ≤ _; rw [List.length_cons, List.length_cons]; omega
        · have := h2 l (by simp [hl]); rw [List.length_cons]; omega
theorem findO_lt {w : List UInt8} {o : Nat} (h : findO w = some o) : o < 36 := by
  unfold findO at h
  exact (List.findIdx?_eq_some_iff_getElem.1 h).1
theorem parseM_lt : ∀ (l : List UInt8) (acc u : Nat), acc < 18446744073709551616 → Lib.parseUintM 18446744073709551615 acc l = .ok u → u < 18446744073709551616
  | [], acc, u, h, e => by simp only [Lib.parseUintM] at e; injection e with e; omega
  | c :: r, acc, u, h, e => by
    rw [Lib.parseUintM] at e
    split at e
    · split at e
      · cases e
      · split at e
        · cases e
        · exact parseM_lt r _ u (by omega) e
    · cases e
theorem parseB_lt {s : List UInt8} {u : Nat} (h : Lib.parseUintB 64 s = .ok u) : u < 18446744073709551616 := by
  unfold Lib.parseUintB at h
  split at h
  · cases h
  · exact parseM_lt _ _ _ (by omega) h
set_option maxHeartbeats 4000000 in
theorem instr_c (l : List (List UInt8)) (h0 : l ≠ []) (hl : l.length ≤ 1048577) (hb : ∀ s ∈ l, s.length ≤ 1048576) :
    ∃ x, (∀ y, instrF l = some y → x = y) ∧ CallsA Tryd.prog ΓC 29 [c1 (dss l)] (.tup [gD (inD x), c1 (db (instrF l).isSome)]) := by
  obtain ⟨w, t, rfl⟩ : ∃ w t, l = w :: t := by rcases l with _ | ⟨w, t⟩; exact absurd rfl h0; exact ⟨w, t, rfl⟩
  have hf := find_c w
  unfold instrF
  rw [List.headD_cons]
  cases ho : findO w with
  | none =>
    rw [ho] at hf
    refine ⟨⟨0, 0, 0, 0⟩, (fun y h => by cases h), ?_⟩
    refine fn_rule (C := ⟨Tryd.prog, layF, Tryd.f29.ntmps, ΓC, 0, [], []⟩) layF_ok mixed Tryd.func29 rfl (by kernel_rfl) rfl rfl rfl ?_
    repeat' (first | refine ex_call hf ?_ | refine (ex_row 0 w rfl rfl) ?_ | refine ex_true (by first | decide | omega | assumption | (with_reducible exact rfl)) ?_ | refine ex_false (by first | decide | omega | assumption | exact (fun h => h rfl)) ?_ | refine ex_dec (fun _ => ?_) (fun _ => ?_) | refine ex_u8 _ rfl (by omega) (by omega) ?_ | refine ex_i64 _ rfl (by omega) (by omega) ?_ | refine ex_u64 _ rfl (by omega) (by omega) ?_ | refine and_mk (by first | omega | (with_reducible rfl) | (show drawOk _ _ _ = true; kernel_rfl)) ?_ | refine and_mk ⟨_, rfl⟩ ?_ | refine ex_is _ (List.length_map _) ?_ | refine ex_is _ List.length_nil ?_ | fail "no step")
    exact TLe.rfl
  | some o =>
    have ho36 := findO_lt ho
    rw [ho] at hf
    have hf : CallsA Tryd.prog ΓC 41 [c1 (ds (bs w))] (.tup [c1 (di (o : Nat)), c1 (db true)]) := hf
    have h1 := shapes_at ho36
    have hop := opF_at ⟨o, ho36⟩
    have hfa := (ops_facts ⟨o, ho36⟩).2.2.2.2.2
    have h0a := (ops_facts ⟨0, by decide⟩).2.2.2.2.2.2.2
    dsimp only at hop hfa
    dsimp only
    rw [hop]
    have hr0 : o = 0 → (opsL.getD o noneR).2.1 = 1 := fun e => by rw [e]; exact h0a
    generalize opsL.getD o noneR = r at *
    obtain ⟨rw_, rh, rt, rp⟩ := r
    have h1 : (shapesV.map D.v).drop (o * 4) = ds (bs rw_) :: di (rh : Nat) :: di (rt : Nat) :: di (rp : Nat) :: (shapesV.map D.v).drop ((o + 1) * 4) := h1
    dsimp only at *
    have hlen : (w :: t).length = t.length + 1 := List.length_cons
    by_cases hn : (w :: t).length = 1 + rh
    · rw [if_pos hn]
      by_cases h0 : o = 0
      · subst h0
        rw [if_pos rfl]
        have hr1 := hr0 rfl
        obtain ⟨s, rfl⟩ : ∃ s, t = [s] := by
          rcases t with _ | ⟨s, _ | ⟨u, v⟩⟩
          · simp at hn; omega
          · exact ⟨s, rfl⟩
          · simp at hn; omega
        have hs := hb s (by simp)
        have hp : CallsA Tryd.prog ΓC 42 _ _ := (pu_c (bs s) (by rw [bs_size]; omega)).gC
        unfold puT at hp
        rw [show (bs s).data.toList = s by simp] at hp
        rw [show ([w, s] : List (List UInt8)).getD 1 [] = s from rfl]
        unfold natF
        cases hpu : Lib.parseUintB 64 s with
        | ok u =>
          rw [hpu] at hp
          dsimp only at hp ⊢
          have hu := parseB_lt hpu
          have hfm : CallsA Tryd.prog ΓC 43 [c1 (du u), c1 (di 10)] (Tstr (bs (Lib.decDigits u))) := (fmt_c u hu).gC
          by_cases he : Lib.decDigits u = s
          · rw [if_pos he]
            have he2 : bs (Lib.decDigits u) = bs s := bs_inj.2 he
            refine ⟨⟨0, 0, 0, u⟩, (fun y h => by injection h), ?_⟩
            refine fn_rule (C := ⟨Tryd.prog, layF, Tryd.f29.ntmps, ΓC, 0, [], []⟩) layF_ok mixed Tryd.func29 rfl (by kernel_rfl) rfl rfl rfl ?_
            repeat' (first | refine ex_call hfm ?_ | refine ex_call hp ?_ | refine ex_call hf ?_ | refine (ex_is _ h1) ?_ | refine (ex_row 1 s rfl rfl) ?_ | refine (ex_row 0 w rfl rfl) ?_ | refine ex_true (by first | decide | omega | assumption | (with_reducible exact rfl)) ?_ | refine ex_false (by first | decide | omega | assumption | exact (fun h => h rfl)) ?_ | refine ex_dec (fun _ => ?_) (fun _ => ?_) | refine ex_u8 _ rfl (by omega) (by omega) ?_ | refine ex_i64 _ rfl (by omega) (by omega) ?_ | refine ex_u64 _ rfl (by omega) (by omega) ?_ | refine and_mk (by first | omega | (with_reducible rfl) | (show drawOk _ _ _ = true; kernel_rfl)) ?_ | refine and_mk ⟨_, rfl⟩ ?_ | refine ex_is _ (List.length_map _) ?_ | refine ex_is _ List.length_nil ?_ | fail "no step")
            exact TLe.rfl
          · rw [if_neg he]
            have he2 : ¬ bs (Lib.decDigits u) = bs s := fun e => he (bs_inj.1 e)
            refine ⟨⟨0, 0, 0, u⟩, (fun y h => by cases h), ?_⟩
            refine fn_rule (C := ⟨Tryd.prog, layF, Tryd.f29.ntmps, ΓC, 0, [], []⟩) layF_ok mixed Tryd.func29 rfl (by kernel_rfl) rfl rfl rfl ?_
            repeat' (first | refine ex_call hfm ?_ | refine ex_call hp ?_ | refine ex_call hf ?_ | refine (ex_is _ h1) ?_ | refine (ex_row 1 s rfl rfl) ?_ | refine (ex_row 0 w rfl rfl) ?_ | refine ex_true (by first | decide | omega | assumption | (with_reducible exact rfl)) ?_ | refine ex_false (by first | decide | omega | assumption | exact (fun h => h rfl)) ?_ | refine ex_dec (fun _ => ?_) (fun _ => ?_) | refine ex_u8 _ rfl (by omega) (by omega) ?_ | refine ex_i64 _ rfl (by omega) (by omega) ?_ | refine ex_u64 _ rfl (by omega) (by omega) ?_ | refine and_mk (by first | omega | (with_reducible rfl) | (show drawOk _ _ _ = true; kernel_rfl)) ?_ | refine and_mk ⟨_, rfl⟩ ?_ | refine ex_is _ (List.length_map _) ?_ | refine ex_is _ List.length_nil ?_ | fail "no step")
            exact TLe.rfl
        | range =>
          rw [hpu] at hp
          dsimp only at hp ⊢
          refine ⟨⟨0, 0, 0, 18446744073709551615⟩, (fun y h => by cases h), ?_⟩
          refine fn_rule (C := ⟨Tryd.prog, layF, Tryd.f29.ntmps, ΓC, 0, [], []⟩) layF_ok mixed Tryd.func29 rfl (by kernel_rfl) rfl rfl rfl ?_
          repeat' (first | refine ex_call hp ?_ | refine ex_call hf ?_ | refine (ex_is _ h1) ?_ | refine (ex_row 1 s rfl rfl) ?_ | refine (ex_row 0 w rfl rfl) ?_ | refine ex_true (by first | decide | omega | assumption | (with_reducible exact rfl)) ?_ | refine ex_false (by first | decide | omega | assumption | exact (fun h => h rfl)) ?_ | refine ex_dec (fun _ => ?_) (fun _ => ?_) | refine ex_u8 _ rfl (by omega) (by omega) ?_ | refine ex_i64 _ rfl (by omega) (by omega) ?_ | refine ex_u64 _ rfl (by omega) (by omega) ?_ | refine and_mk (by first | omega | (with_reducible rfl) | (show drawOk _ _ _ = true; kernel_rfl)) ?_ | refine and_mk ⟨_, rfl⟩ ?_ | refine ex_is _ (List.length_map _) ?_ | refine ex_is _ List.length_nil ?_ | fail "no step")
          exact TLe.rfl
        | _ =>
          rw [hpu] at hp
          dsimp only at hp ⊢
          refine ⟨⟨0, 0, 0, 0⟩, (fun y h => by cases h), ?_⟩
          refine fn_rule (C := ⟨Tryd.prog, layF, Tryd.f29.ntmps, ΓC, 0, [], []⟩) layF_ok mixed Tryd.func29 rfl (by kernel_rfl) rfl rfl rfl ?_
          repeat' (first | refine ex_call hp ?_ | refine ex_call hf ?_ | refine (ex_is _ h1) ?_ | refine (ex_row 1 s rfl rfl) ?_ | refine (ex_row 0 w rfl rfl) ?_ | refine ex_true (by first | decide | omega | assumption | (with_reducible exact rfl)) ?_ | refine ex_false (by first | decide | omega | assumption | exact (fun h => h rfl)) ?_ | refine ex_dec (fun _ => ?_) (fun _ => ?_) | refine ex_u8 _ rfl (by omega) (by omega) ?_ | refine ex_i64 _ rfl (by omega) (by omega) ?_ | refine ex_u64 _ rfl (by omega) (by omega) ?_ | refine and_mk (by first | omega | (with_reducible rfl) | (show drawOk _ _ _ = true; kernel_rfl)) ?_ | refine and_mk ⟨_, rfl⟩ ?_ | refine ex_is _ (List.length_map _) ?_ | refine ex_is _ List.length_nil ?_ | fail "no step")
          exact TLe.rfl
      · rw [if_neg h0]
        have hnum := numbers_c t (by omega) (fun s hs => hb s (by simp [hs]))
        have hdr : (((w :: t).map fun x => [ds (bs x)]).take (((((w :: t).map fun x => [ds (bs x)]).length : Nat) : Int)).toNat).drop (1 : Int).toNat = t.map fun x => [ds (bs x)] := by
          rw [Int.toNat_natCast, List.take_length]; rfl
        have hlm : ((w :: t).map fun x => [ds (bs x)]).length = t.length + 1 := by rw [List.length_map, List.length_cons]
        rw [List.tail_cons]
        cases hk : intsF t with
        | none =>
          rw [hk] at hnum
          refine ⟨⟨o, 0, 0, 0⟩, (fun y h => by cases h), ?_⟩
          refine fn_rule (C := ⟨Tryd.prog, layF, Tryd.f29.ntmps, ΓC, 0, [], []⟩) layF_ok mixed Tryd.func29 rfl (by kernel_rfl) rfl rfl rfl ?_
          repeat' (first | refine ex_call hnum ?_ | refine ex_call hf ?_ | refine (ex_is _ hdr) ?_ | refine (ex_is _ h1) ?_ | refine (ex_row 0 w rfl rfl) ?_ | refine ex_true (by first | decide | omega | assumption | (with_reducible exact rfl)) ?_ | refine ex_false (by first | decide | omega | assumption | exact (fun h => h rfl)) ?_ | refine ex_dec (fun _ => ?_) (fun _ => ?_) | refine ex_u8 _ rfl (by omega) (by omega) ?_ | refine ex_i64 _ rfl (by omega) (by omega) ?_ | refine ex_u64 _ rfl (by omega) (by omega) ?_ | refine and_mk (by first | omega | (with_reducible rfl) | (show drawOk _ _ _ = true; kernel_rfl)) ?_ | refine and_mk ⟨_, rfl⟩ ?_ | refine ex_is _ (List.length_map _) ?_ | refine ex_is _ List.length_nil ?_ | fail "no step")
          exact TLe.rfl
        | some k =>
          have hkl := intsF_len hk
          rw [hk] at hnum
          refine ⟨⟨o, k.getD 0 0, k.getD 1 0, 0⟩, (fun y h => by injection h), ?_⟩
          have hk2 : k.length ≤ 2 := by omega
          rcases k with _ | ⟨a, _ | ⟨b, _ | ⟨c, d⟩⟩⟩
          · have hnum : CallsA Tryd.prog ΓC 30 [c1 (dss t)] (.tup [c1 (dint []), c1 (db true)]) := hnum
            refine fn_rule (C := ⟨Tryd.prog, layF, Tryd.f29.ntmps, ΓC, 0, [], []⟩) layF_ok mixed Tryd.func29 rfl (by kernel_rfl) rfl rfl rfl ?_
            repeat' (first | refine ex_call hnum ?_ | refine ex_call hf ?_ | refine (ex_false (show ¬ (1 : Int) < 0 by decide)) ?_ | refine (ex_false (show ¬ (0 : Int) < 0 by decide)) ?_ | refine (ex_is _ hdr) ?_ | refine (ex_is _ h1) ?_ | refine (ex_row 0 w rfl rfl) ?_ | refine ex_true (by first | decide | omega | assumption | (with_reducible exact rfl)) ?_ | refine ex_false (by first | decide | omega | assumption | exact (fun h => h rfl)) ?_ | refine ex_dec (fun _ => ?_) (fun _ => ?_) | refine ex_u8 _ rfl (by omega) (by omega) ?_ | refine ex_i64 _ rfl (by omega) (by omega) ?_ | refine ex_u64 _ rfl (by omega) (by omega) ?_ | refine and_mk (by first | omega | (with_reducible rfl) | (show drawOk _ _ _ = true; kernel_rfl)) ?_ | refine and_mk ⟨_, rfl⟩ ?_ | refine ex_is _ (List.length_map _) ?_ | refine ex_is _ List.length_nil ?_ | fail "no step")
            exact TLe.rfl
          · have hnum : CallsA Tryd.prog ΓC 30 [c1 (dss t)] (.tup [c1 (dint [a]), c1 (db true)]) := hnum
            refine fn_rule (C := ⟨Tryd.prog, layF, Tryd.f29.ntmps, ΓC, 0, [], []⟩) layF_ok mixed Tryd.func29 rfl (by kernel_rfl) rfl rfl rfl ?_
            repeat' (first | refine ex_call hnum ?_ | refine ex_call hf ?_ | refine (ex_false (show ¬ (1 : Int) < 1 by decide)) ?_ | refine (ex_true (show (0 : Int) < 1 by decide)) ?_ | refine (ex_row 0 a rfl rfl) ?_ | refine (ex_is _ hdr) ?_ | refine (ex_is _ h1) ?_ | refine (ex_row 0 w rfl rfl) ?_ | refine ex_true (by first | decide | omega | assumption | (with_reducible exact rfl)) ?_ | refine ex_false (by first | decide | omega | assumption | exact (fun h => h rfl)) ?_ | refine ex_dec (fun _ => ?_) (fun _ => ?_) | refine ex_u8 _ rfl (by omega) (by omega) ?_ | refine ex_i64 _ rfl (by omega) (by omega) ?_ | refine ex_u64 _ rfl (by omega) (by omega) ?_ | refine and_mk (by first | omega | (with_reducible rfl) | (show drawOk _ _ _ = true; kernel_rfl)) ?_ | refine and_mk ⟨_, rfl⟩ ?_ | refine ex_is _ (List.length_map _) ?_ | refine ex_is _ List.length_nil ?_ | fail "no step")
            exact TLe.rfl
          · have hnum : CallsA Tryd.prog ΓC 30 [c1 (dss t)] (.tup [c1 (dint [a, b]), c1 (db true)]) := hnum
            refine fn_rule (C := ⟨Tryd.prog, layF, Tryd.f29.ntmps, ΓC, 0, [], []⟩) layF_ok mixed Tryd.func29 rfl (by kernel_rfl) rfl rfl rfl ?_
            repeat' (first | refine ex_call hnum ?_ | refine ex_call hf ?_ | refine (ex_true (show (1 : Int) < 2 by decide)) ?_ | refine (ex_true (show (0 : Int) < 2 by decide)) ?_ | refine (ex_row 1 b rfl rfl) ?_ | refine (ex_row 0 a rfl rfl) ?_ | refine (ex_is _ hdr) ?_ | refine (ex_is _ h1) ?_ | refine (ex_row 0 w rfl rfl) ?_ | refine ex_true (by first | decide | omega | assumption | (with_reducible exact rfl)) ?_ | refine ex_false (by first | decide | omega | assumption | exact (fun h => h rfl)) ?_ | refine ex_dec (fun _ => ?_) (fun _ => ?_) | refine ex_u8 _ rfl (by omega) (by omega) ?_ | refine ex_i64 _ rfl (by omega) (by omega) ?_ | refine ex_u64 _ rfl (by omega) (by omega) ?_ | refine and_mk (by first | omega | (with_reducible rfl) | (show drawOk _ _ _ = true; kernel_rfl)) ?_ | refine and_mk ⟨_, rfl⟩ ?_ | refine ex_is _ (List.length_map _) ?_ | refine ex_is _ List.length_nil ?_ | fail "no step")
            exact TLe.rfl
          · simp at hk2
    · rw [if_neg hn]
      refine ⟨⟨0, 0, 0, 0⟩, (fun y h => by cases h), ?_⟩
      refine fn_rule (C := ⟨Tryd.prog, layF, Tryd.f29.ntmps, ΓC, 0, [], []⟩) layF_ok mixed Tryd.func29 rfl (by kernel_rfl) rfl rfl rfl ?_
      repeat' (first | refine ex_call hf ?_ | refine (ex_is _ h1) ?_ | refine (ex_row 0 w rfl rfl) ?_ | refine ex_true (by first | decide | omega | assumption | (with_reducible exact rfl)) ?_ | refine ex_false (by first | decide | omega | assumption | exact (fun h => h rfl)) ?_ | refine ex_dec (fun _ => ?_) (fun _ => ?_) | refine ex_u8 _ rfl (by omega) (by omega) ?_ | refine ex_i64 _ rfl (by omega) (by omega) ?_ | refine ex_u64 _ rfl (by omega) (by omega) ?_ | refine and_mk (by first | omega | (with_reducible rfl) | (show drawOk _ _ _ = true; kernel_rfl)) ?_ | refine and_mk ⟨_, rfl⟩ ?_ | refine ex_is _ (List.length_map _) ?_ | refine ex_is _ List.length_nil ?_ | fail "no step")
      exact TLe.rfl
end Go.Proofs.YtgfmbkbiingagaaDoor

namespace Go.Proofs.YtgfmbkbiingagaaDoor
set_option linter.unusedVariables false
set_option linter.unusedSimpArgs false
open Go.RowKit
set_option maxRecDepth 100000

abbrev TFn : TypeId := 41
abbrev TIn : TypeId := 36
abbrev Fr (fs : List FN) : Blk := .row 3 TFn (fs.map fnD)
abbrev Ir (cs : List IN) : Blk := .row 4 TIn (cs.map inD)
theorem put_code (s : List UInt8) (hs : s.length ≤ 1048576) (h : (cutL 32 s).headD [] ≠ funcS) (fs : List FN) (cs : List IN) (hcs : cs.length ≤ 8192) :
    ∃ x, (∀ y, instrF (cutL 32 s) = some y → x = y) ∧ CallsM Tryd.prog ΓC 20 [(0, .obj [.row 1, .row 2]), (1, Fr fs), (2, Ir cs)] 3 [.c (.ptr 0 0), c1 (ds (bs s))] (Tb (instrF (cutL 32 s)).isSome) [(0, .obj [.row 1, .row 3]), (1, Fr fs), (2, .dead)] [Ir (cs ++ [x])] := by
  obtain ⟨hm1, hm2⟩ := mem_cut (c := 32) (s := s)
  obtain ⟨x, hx, hi⟩ := instr_c (cutL 32 s) (cutL_ne 32 s) (by omega) (fun l hl => by have := hm2 l hl; omega)
  refine ⟨x, hx, ?_⟩
  have hsp := split_c s 32 hs
  generalize instrF (cutL 32 s) = R at *
  obtain ⟨w, t, hwt⟩ : ∃ w t, cutL 32 s = w :: t := by
    cases hc : cutL 32 s with
    | nil => exact absurd hc (cutL_ne 32 s)
    | cons w t => exact ⟨w, t, rfl⟩
  rw [hwt] at hsp hi h
  have hne : ¬ bs w = bs funcS := fun e => h (bs_inj.1 e)
  have hne2 : ¬ bs w = ⟨#[102, 117, 110, 99]⟩ := hne
  refine fn_ruleM (C := ⟨Tryd.prog, layF, Tryd.f20.ntmps, ΓC, 3, [], []⟩) layF_ok mixed Tryd.func20 rfl (by kernel_rfl) rfl rfl rfl ?_
  repeat' (first | refine ex_call hi ?_ | refine ex_call hsp ?_ | refine (ex_row 0 w rfl rfl) ?_ | refine ex_true (by first | decide | omega | assumption | (with_reducible exact rfl)) ?_ | refine ex_false (by first | decide | omega | assumption | exact (fun h => h rfl)) ?_ | refine ex_dec (fun _ => ?_) (fun _ => ?_) | refine ex_u8 _ rfl (by omega) (by omega) ?_ | refine ex_i64 _ rfl (by omega) (by omega) ?_ | refine ex_u64 _ rfl (by omega) (by omega) ?_ | refine and_mk (by first | omega | (with_reducible rfl) | (show drawOk _ _ _ = true; kernel_rfl)) ?_ | refine and_mk ⟨_, rfl⟩ ?_ | refine ex_is _ (List.length_map _) ?_ | refine ex_is _ List.length_nil ?_ | fail "no step")
  refine ex_app (cs.length) (1) 1000 (by first | rfl | (simp; done) | (simp; omega)) (by first | rfl | (simp; done) | (simp; omega)) rfl (by omega) ?_
  refine ex_is ((cs ++ [x]).map inD) (by rw [List.map_append]; rfl) ?_
  repeat' (first | refine ex_true (by first | decide | omega | assumption | (with_reducible exact rfl)) ?_ | refine ex_false (by first | decide | omega | assumption | exact (fun h => h rfl)) ?_ | refine ex_dec (fun _ => ?_) (fun _ => ?_) | refine ex_u8 _ rfl (by omega) (by omega) ?_ | refine ex_i64 _ rfl (by omega) (by omega) ?_ | refine ex_u64 _ rfl (by omega) (by omega) ?_ | refine and_mk (by first | omega | (with_reducible rfl) | (show drawOk _ _ _ = true; kernel_rfl)) ?_ | refine and_mk ⟨_, rfl⟩ ?_ | refine ex_is _ (List.length_map _) ?_ | refine ex_is _ List.length_nil ?_ | fail "no step")
  exact ⟨rfl, TLe.rfl, rfl, rfl⟩
theorem put_ok (s : List UInt8) (hs : s.length ≤ 1048576) (t : List (List UInt8)) (h : cutL 32 s = funcS :: t) (a b c : Int) (hk : intsF t = some [a, b, c]) (fs : List FN) (hfs : fs.length ≤ 8192) :
    CallsM Tryd.prog ΓC 20 [(0, .obj [.row 1, .row 2]), (1, Fr fs), (2, Ir [])] 3 [.c (.ptr 0 0), c1 (ds (bs s))] (Tb true) [(0, .obj [.row 3, .row 2]), (1, .dead), (2, Ir [])] [Fr (fs ++ [⟨a, b, c⟩])] := by
  obtain ⟨hm1, hm2⟩ := mem_cut (c := 32) (s := s)
  have hsp := split_c s 32 hs
  rw [h] at hsp hm1 hm2
  have hn : CallsA Tryd.prog ΓC 30 [c1 (dss t)] (.tup [c1 (dint [a, b, c]), c1 (db true)]) := by
    have := numbers_c t (by rw [List.length_cons] at hm1; omega) (fun l hl => by have := hm2 l (by simp [hl]); omega)
    rw [hk] at this
    exact this
  have hdr : (((funcS :: t).map fun x => [ds (bs x)]).take (((((funcS :: t).map fun x => [ds (bs x)]).length : Nat) : Int)).toNat).drop (1 : Int).toNat = t.map fun x => [ds (bs x)] := by
    rw [Int.toNat_natCast, List.take_length]; rfl
  have hlm : ((funcS :: t).map fun x => [ds (bs x)]).length = t.length + 1 := by rw [List.length_map, List.length_cons]
  have hfe : bs funcS = ⟨#[102, 117, 110, 99]⟩ := rfl
  refine fn_ruleM (C := ⟨Tryd.prog, layF, Tryd.f20.ntmps, ΓC, 3, [], []⟩) layF_ok mixed Tryd.func20 rfl (by kernel_rfl) rfl rfl rfl ?_
  repeat' (first | refine ex_call hn ?_ | refine ex_call hsp ?_ | refine (ex_false (show ¬ (0 : Int) < 0 by decide)) ?_ | refine (ex_false (show ¬ ((3 : Int) ≠ 3) by decide)) ?_ | refine (ex_row 2 c rfl rfl) ?_ | refine (ex_row 1 b rfl rfl) ?_ | refine (ex_row 0 a rfl rfl) ?_ | refine (ex_is _ hdr) ?_ | refine (ex_row 0 funcS rfl rfl) ?_ | refine ex_true (by first | decide | omega | assumption | (with_reducible exact rfl)) ?_ | refine ex_false (by first | decide | omega | assumption | exact (fun h => h rfl)) ?_ | refine ex_dec (fun _ => ?_) (fun _ => ?_) | refine ex_u8 _ rfl (by omega) (by omega) ?_ | refine ex_i64 _ rfl (by omega) (by omega) ?_ | refine ex_u64 _ rfl (by omega) (by omega) ?_ | refine and_mk (by first | omega | (with_reducible rfl) | (show drawOk _ _ _ = true; kernel_rfl)) ?_ | refine and_mk ⟨_, rfl⟩ ?_ | refine ex_is _ (List.length_map _) ?_ | refine ex_is _ List.length_nil ?_ | fail "no step")
  refine ex_app (fs.length) (1) 1000 (by first | rfl | (simp; done) | (simp; omega)) (by first | rfl | (simp; done) | (simp; omega)) rfl (by omega) ?_
  refine ex_is ((fs ++ [(⟨a, b, c⟩ : FN)]).map fnD) (by rw [List.map_append]; rfl) ?_
  repeat' (first | refine ex_true (by first | decide | omega | assumption | (with_reducible exact rfl)) ?_ | refine ex_false (by first | decide | omega | assumption | exact (fun h => h rfl)) ?_ | refine ex_dec (fun _ => ?_) (fun _ => ?_) | refine ex_u8 _ rfl (by omega) (by omega) ?_ | refine ex_i64 _ rfl (by omega) (by omega) ?_ | refine ex_u64 _ rfl (by omega) (by omega) ?_ | refine and_mk (by first | omega | (with_reducible rfl) | (show drawOk _ _ _ = true; kernel_rfl)) ?_ | refine and_mk ⟨_, rfl⟩ ?_ | refine ex_is _ (List.length_map _) ?_ | refine ex_is _ List.length_nil ?_ | fail "no step")
  exact ⟨rfl, TLe.rfl, rfl, rfl⟩
theorem put_no (s : List UInt8) (hs : s.length ≤ 1048576) (t : List (List UInt8)) (h : cutL 32 s = funcS :: t) (fs : List FN) (cs : List IN) (hcs : cs.length ≤ 8192) (hk : intsF t = none ∨ (∃ k, intsF t = some k ∧ k.length ≠ 3) ∨ cs ≠ []) :
    CallsM Tryd.prog ΓC 20 [(0, .obj [.row 1, .row 2]), (1, Fr fs), (2, Ir cs)] 3 [.c (.ptr 0 0), c1 (ds (bs s))] (Tb false) [(0, .obj [.row 1, .row 2]), (1, Fr fs), (2, Ir cs)] [] := by
  obtain ⟨hm1, hm2⟩ := mem_cut (c := 32) (s := s)
  have hsp := split_c s 32 hs
  rw [h] at hsp hm1 hm2
  have hn := numbers_c t (by rw [List.length_cons] at hm1; omega) (fun l hl => by have := hm2 l (by simp [hl]); omega)
  have hdr : (((funcS :: t).map fun x => [ds (bs x)]).take (((((funcS :: t).map fun x => [ds (bs x)]).length : Nat) : Int)).toNat).drop (1 : Int).toNat = t.map fun x => [ds (bs x)] := by
    rw [Int.toNat_natCast, List.take_length]; rfl
  have hlm : ((funcS :: t).map fun x => [ds (bs x)]).length = t.length + 1 := by rw [List.length_map, List.length_cons]
  have hfe : bs funcS = ⟨#[102, 117, 110, 99]⟩ := rfl
  cases hi : intsF t with
  | none =>
    rw [hi] at hn
    have hn : CallsA Tryd.prog ΓC 30 [c1 (dss t)] (.tup [c1 (dint []), c1 (db false)]) := hn
    refine fn_ruleM (C := ⟨Tryd.prog, layF, Tryd.f20.ntmps, ΓC, 3, [], []⟩) layF_ok mixed Tryd.func20 rfl (by kernel_rfl) rfl rfl rfl ?_
    repeat' (first | refine ex_call hn ?_ | refine ex_call hsp ?_ | refine (ex_is _ hdr) ?_ | refine (ex_row 0 funcS rfl rfl) ?_ | refine ex_true (by first | decide | omega | assumption | (with_reducible exact rfl)) ?_ | refine ex_false (by first | decide | omega | assumption | exact (fun h => h rfl)) ?_ | refine ex_dec (fun _ => ?_) (fun _ => ?_) | refine ex_u8 _ rfl (by omega) (by omega) ?_ | refine ex_i64 _ rfl (by omega) (by omega) ?_ | refine ex_u64 _ rfl (by omega) (by omega) ?_ | refine and_mk (by first | omega | (with_reducible rfl) | (show drawOk _ _ _ = true; kernel_rfl)) ?_ | refine and_mk ⟨_, rfl⟩ ?_ | refine ex_is _ (List.length_map _) ?_ | refine ex_is _ List.length_nil ?_ | fail "no step")
    exact ⟨rfl, TLe.rfl, rfl, rfl⟩
  | some k =>
    rw [hi] at hn hk
    have hn : CallsA Tryd.prog ΓC 30 [c1 (dss t)] (.tup [c1 (dint k), c1 (db true)]) := hn
    have hkk : k.length ≠ 3 ∨ (k.length = 3 ∧ cs.length ≠ 0) := by
      rcases hk with hk | ⟨k', h1, h2⟩ | hk
      · cases hk
      · injection h1 with h1; subst h1; exact .inl h2
      · by_cases h3 : k.length = 3
        · exact .inr ⟨h3, fun e => hk (List.eq_nil_of_length_eq_zero e)⟩
        · exact .inl h3
    have hkl : (k.map fun z => [di z]).length = k.length := List.length_map _
    have hcl : (cs.map inD).length = cs.length := List.length_map _
    rcases hkk with h3 | ⟨h3, h4⟩
    ·
      refine fn_ruleM (C := ⟨Tryd.prog, layF, Tryd.f20.ntmps, ΓC, 3, [], []⟩) layF_ok mixed Tryd.func20 rfl (by kernel_rfl) rfl rfl rfl ?_
      repeat' (first | refine ex_call hn ?_ | refine ex_call hsp ?_ | refine (ex_is _ hkl) ?_ | refine (ex_is _ hdr) ?_ | refine (ex_row 0 funcS rfl rfl) ?_ | refine ex_true (by first | decide | omega | assumption | (with_reducible exact rfl)) ?_ | refine ex_false (by first | decide | omega | assumption | exact (fun h => h rfl)) ?_ | refine ex_dec (fun _ => ?_) (fun _ => ?_) | refine ex_u8 _ rfl (by omega) (by omega) ?_ | refine ex_i64 _ rfl (by omega) (by omega) ?_ | refine ex_u64 _ rfl (by omega) (by omega) ?_ | refine and_mk (by first | omega | (with_reducible rfl) | (show drawOk _ _ _ = true; kernel_rfl)) ?_ | refine and_mk ⟨_, rfl⟩ ?_ | refine ex_is _ (List.length_map _) ?_ | refine ex_is _ List.length_nil ?_ | fail "no step")
      all_goals exact ⟨rfl, TLe.rfl, rfl, rfl⟩
    ·
      refine fn_ruleM (C := ⟨Tryd.prog, layF, Tryd.f20.ntmps, ΓC, 3, [], []⟩) layF_ok mixed Tryd.func20 rfl (by kernel_rfl) rfl rfl rfl ?_
      repeat' (first | refine ex_call hn ?_ | refine ex_call hsp ?_ | refine (ex_is _ hcl) ?_ | refine (ex_is _ hkl) ?_ | refine (ex_is _ hdr) ?_ | refine (ex_row 0 funcS rfl rfl) ?_ | refine ex_true (by first | decide | omega | assumption | (with_reducible exact rfl)) ?_ | refine ex_false (by first | decide | omega | assumption | exact (fun h => h rfl)) ?_ | refine ex_dec (fun _ => ?_) (fun _ => ?_) | refine ex_u8 _ rfl (by omega) (by omega) ?_ | refine ex_i64 _ rfl (by omega) (by omega) ?_ | refine ex_u64 _ rfl (by omega) (by omega) ?_ | refine and_mk (by first | omega | (with_reducible rfl) | (show drawOk _ _ _ = true; kernel_rfl)) ?_ | refine and_mk ⟨_, rfl⟩ ?_ | refine ex_is _ (List.length_map _) ?_ | refine ex_is _ List.length_nil ?_ | fail "no step")
      all_goals exact ⟨rfl, TLe.rfl, rfl, rfl⟩
end Go.Proofs.YtgfmbkbiingagaaDoor

namespace Go.Proofs.YtgfmbkbiingagaaDoor
set_option linter.unusedVariables false
set_option linter.unusedSimpArgs false
open Go.RowKit
set_option maxRecDepth 100000

/-- What Parse answers. -/
def poT : PO → TV
  | .ok p => .tup [gD [.sl 3 (p.1.map fnD), .sl 4 (p.2.map inD)], c1 (di 0), c1 (di 0)]
  | .err n e => .tup [gD [.sl 3 [], .sl 4 []], c1 (di n), c1 (di e)]
theorem TLe.gnil {s s' : Nat} {l : List T1} : TLe (.tup (gD [dnil, dnil] :: l)) (.tup (gD [.sl s [], .sl s' []] :: l)) := fun ι S w v ⟨us, hu, h⟩ => by
  have h : All2 (V1 ι S w) (gD [dnil, dnil] :: l) us := h
  obtain ⟨u, us, rfl, e, h2⟩ := h.cons_left
  obtain ⟨vs, rfl, e⟩ := e
  obtain ⟨a, vs, rfl, e1, e⟩ := e.cons_left
  obtain ⟨b, rfl, e2⟩ := e.one_left
  exact ⟨_ :: us, hu, .cons ⟨[a, b], Eq.refl _, .cons (CLe_nil (ι := ι) e1) (.cons (CLe_nil (ι := ι) e2) .nil)⟩ h2⟩
theorem lines_len {s : List UInt8} {l : List UInt8} (h : l ∈ linesF s) : l.length ≤ s.length := by
  by_cases h0 : s = []
  · subst h0; simp [linesF] at h
  · rw [← trim_lines s h0] at h
    have := (mem_cut (c := 10) (s := Lib.trimSuffix s [10])).2 l h
    have h2 : (Lib.trimSuffix s [10]).length ≤ s.length := by
      unfold Lib.trimSuffix
      split
      · rw [List.length_take]; omega
      · omega
    omega
theorem putL_code {p : PR} {l : List (List UInt8)} (h : l.headD [] ≠ funcS) : putL p l = (instrF l).map fun x => (p.1, p.2 ++ [x]) := by
  unfold putL; rw [if_neg h]
theorem putL_func {p : PR} {t : List (List UInt8)} : putL p (funcS :: t) = match intsF t, p.2 with
    | some [a, b, c], [] => some (p.1 ++ [⟨a, b, c⟩], [])
    | _, _ => none := by
  unfold putL; rw [List.headD_cons, if_pos rfl, List.tail_cons] <;> rfl
theorem putL_none {p : PR} {t : List (List UInt8)} (h : putL p (funcS :: t) = none) : intsF t = none ∨ (∃ k, intsF t = some k ∧ k.length ≠ 3) ∨ p.2 ≠ [] := by
  rw [putL_func] at h
  cases hk : intsF t with
  | none => exact .inl rfl
  | some k =>
    rw [hk] at h
    rcases hc : p.2 with _ | ⟨x, y⟩
    · rw [hc] at h
      refine .inr (.inl ⟨k, rfl, fun h3 => ?_⟩)
      match k, h3 with
      | [a, b, c], _ => cases h
    · exact .inr (.inr (by simp))
theorem Parse_c (s : List UInt8) (hs : s.length ≤ 1048576) : CallsA Tryd.prog ΓC 12 [c1 (ds (bs s))] (poT (parseV s)) := by
  have htr := trim_c ΓC s [10] hs
  have htl : (Lib.trimSuffix s [10]).length ≤ s.length := by
    unfold Lib.trimSuffix
    split
    · rw [List.length_take]; omega
    · omega
  have hsp := split_c (Lib.trimSuffix s [10]) 10 (by omega)
  by_cases h0 : s = []
  · subst h0
    refine fn_rule (C := ⟨Tryd.prog, layF, Tryd.f12.ntmps, ΓC, 0, [], []⟩) layF_ok mixed Tryd.func12 rfl (by kernel_rfl) rfl rfl rfl ?_
    repeat' (first | refine ex_call hsp ?_ | refine ex_call htr ?_ | refine ex_true (by first | decide | omega | assumption | (with_reducible exact rfl)) ?_ | refine ex_false (by first | decide | omega | assumption | exact (fun h => h rfl)) ?_ | refine ex_dec (fun _ => ?_) (fun _ => ?_) | refine ex_u8 _ rfl (by omega) (by omega) ?_ | refine ex_i64 _ rfl (by omega) (by omega) ?_ | refine ex_u64 _ rfl (by omega) (by omega) ?_ | refine and_mk (by first | omega | (with_reducible rfl) | (show drawOk _ _ _ = true; kernel_rfl)) ?_ | refine and_mk ⟨_, rfl⟩ ?_ | refine ex_is _ (List.length_map _) ?_ | refine ex_is _ List.length_nil ?_ | fail "no step")
    exact TLe.gnil
  · rw [trim_lines s h0] at hsp
    have hse : ¬ bs s = ByteArray.empty := fun e => h0 (bs_inj.1 e)
    have hll : ∀ l ∈ linesF s, l.length ≤ 1048576 := fun l hl => by have := lines_len hl; omega
    unfold parseV
    generalize linesF s = L at *
    have hlm : (L.map fun x => [ds (bs x)]).length = L.length := List.length_map _
    by_cases hlen : L.length ≤ 8192
    · rw [if_pos hlen]
      obtain ⟨R, hR⟩ : ∃ R, parseL L 1 ([], []) = R := ⟨_, rfl⟩
      rw [hR]
      refine fn_rule (C := ⟨Tryd.prog, layF, Tryd.f12.ntmps, ΓC, 0, [], []⟩) layF_ok mixed Tryd.func12 rfl (by kernel_rfl) rfl rfl rfl ?_
      repeat' (first | refine ex_call hsp ?_ | refine ex_call htr ?_ | refine (ex_is _ hlm) ?_ | refine ex_true (by first | decide | omega | assumption | (with_reducible exact rfl)) ?_ | refine ex_false (by first | decide | omega | assumption | exact (fun h => h rfl)) ?_ | refine ex_dec (fun _ => ?_) (fun _ => ?_) | refine ex_u8 _ rfl (by omega) (by omega) ?_ | refine ex_i64 _ rfl (by omega) (by omega) ?_ | refine ex_u64 _ rfl (by omega) (by omega) ?_ | refine and_mk (by first | omega | (with_reducible rfl) | (show drawOk _ _ _ = true; kernel_rfl)) ?_ | refine and_mk ⟨_, rfl⟩ ?_ | refine ex_is _ (List.length_map _) ?_ | refine ex_is _ List.length_nil ?_ | fail "no step")
      refine ex_loop (X := Nat × List FN × List IN) (fun ⟨q, fs, cs⟩ => ⟨[(2, .o (.c (.ptr 0 0))), (6, .o (.c (.ptr 1 0))), (21, .o (c1 (dss L))), (22, Ti L.length), (23, Ti q)], [(0, .obj [.d dnil, .d dnil]), (1, .obj [.row 2, .row 3]), (2, Fr fs), (3, Ir cs)], 4⟩) (fun x => L.length - x.1)
        (fun ⟨q, fs, cs⟩ => q ≤ L.length ∧ fs.length ≤ q ∧ cs.length ≤ q ∧ parseL (L.drop q) (q + 1) (fs, cs) = R) (0, [], []) ⟨Nat.zero_le _, Nat.le_refl _, Nat.le_refl _, by rw [List.drop_zero]; exact hR⟩ (SLe.trans (SLe.of ⟨⟨rfl, rfl, rfl, rfl, rfl, trivial⟩, ⟨rfl, rfl, rfl, rfl, trivial⟩⟩) (SLe.trans (SLe.ownCell 1 1 3 4 TIn rfl rfl rfl rfl rfl rfl) (SLe.ownCell 1 0 2 3 TFn rfl rfl rfl rfl rfl rfl))) ?_
      rintro ⟨q, fs, cs⟩ ⟨hq, hf, hc2, hr⟩
      refine ex_dec (fun h => ?_) (fun h => ?_)
      · have hql : q < L.length := by omega
        have hc : L[q]? = some L[q] := at_some hql
        have hl := hll L[q] (List.getElem_mem hql)
        rw [List.drop_eq_getElem_cons hql, parseL] at hr
        generalize L[q] = l at *
        repeat' (first | refine (ex_row q l rfl hc) ?_ | refine ex_true (by first | decide | omega | assumption | (with_reducible exact rfl)) ?_ | refine ex_false (by first | decide | omega | assumption | exact (fun h => h rfl)) ?_ | refine ex_dec (fun _ => ?_) (fun _ => ?_) | refine ex_u8 _ rfl (by omega) (by omega) ?_ | refine ex_i64 _ rfl (by omega) (by omega) ?_ | refine ex_u64 _ rfl (by omega) (by omega) ?_ | refine and_mk (by first | omega | (with_reducible rfl) | (show drawOk _ _ _ = true; kernel_rfl)) ?_ | refine and_mk ⟨_, rfl⟩ ?_ | refine ex_is _ (List.length_map _) ?_ | refine ex_is _ List.length_nil ?_ | fail "no step")
        by_cases hh : (cutL 32 l).headD [] ≠ funcS
        · obtain ⟨x, hx, hp⟩ := put_code l hl hh fs cs (by omega)
          rw [putL_code hh] at hr
          cases hi : instrF (cutL 32 l) with
          | none =>
            rw [hi] at hr hp
            dsimp only [Option.map_none] at hr
            subst hr
            refine ex_callM (CallsM.ren (hp) [1, 2, 3] 4 rfl rfl rfl rfl) ?_
            repeat' (first | refine ex_i64 ((q + 1 : Nat) : Int) (by omega) (by omega) (by omega) ?_ | refine ex_u64 ((q + 1 : Nat) : Int) (by omega) (by omega) (by omega) ?_ | refine ex_u8 ((q + 1 : Nat) : Int) (by omega) (by omega) (by omega) ?_ | refine ex_true (by first | decide | omega | assumption | (with_reducible exact rfl)) ?_ | refine ex_false (by first | decide | omega | assumption | exact (fun h => h rfl)) ?_ | refine ex_dec (fun _ => ?_) (fun _ => ?_) | refine ex_u8 _ rfl (by omega) (by omega) ?_ | refine ex_i64 _ rfl (by omega) (by omega) ?_ | refine ex_u64 _ rfl (by omega) (by omega) ?_ | refine and_mk (by first | omega | (with_reducible rfl) | (show drawOk _ _ _ = true; kernel_rfl)) ?_ | refine and_mk ⟨_, rfl⟩ ?_ | refine ex_is _ (List.length_map _) ?_ | refine ex_is _ List.length_nil ?_ | fail "no step")
            exact TLe.gnil
          | some y =>
            rw [hi] at hr hp
            obtain rfl := hx y hi
            dsimp only [Option.map_some] at hr
            refine ex_callM (CallsM.ren (hp) [1, 2, 3] 4 rfl rfl rfl rfl) ?_
            repeat' (first | refine ex_i64 ((q + 1 : Nat) : Int) (by omega) (by omega) (by omega) ?_ | refine ex_u64 ((q + 1 : Nat) : Int) (by omega) (by omega) (by omega) ?_ | refine ex_u8 ((q + 1 : Nat) : Int) (by omega) (by omega) (by omega) ?_ | refine ex_true (by first | decide | omega | assumption | (with_reducible exact rfl)) ?_ | refine ex_false (by first | decide | omega | assumption | exact (fun h => h rfl)) ?_ | refine ex_dec (fun _ => ?_) (fun _ => ?_) | refine ex_u8 _ rfl (by omega) (by omega) ?_ | refine ex_i64 _ rfl (by omega) (by omega) ?_ | refine ex_u64 _ rfl (by omega) (by omega) ?_ | refine and_mk (by first | omega | (with_reducible rfl) | (show drawOk _ _ _ = true; kernel_rfl)) ?_ | refine and_mk ⟨_, rfl⟩ ?_ | refine ex_is _ (List.length_map _) ?_ | refine ex_is _ List.length_nil ?_ | fail "no step")
            exact ex_round (q + 1, fs, cs ++ [x]) ⟨by omega, by show fs.length ≤ q + 1; omega, by rw [List.length_append]; simp; omega, hr⟩ (by show _ - _ < _ - _; omega) (SLe.ren [(0, 0), (1, 1), (2, 2), (4, 3)] ⟨⟨rfl, rfl⟩, ⟨rfl, rfl⟩, ⟨rfl, rfl⟩, ⟨rfl, rfl⟩, ⟨rfl, rfl⟩, trivial⟩ ⟨⟨rfl, rfl⟩, ⟨rfl, rfl⟩, ⟨rfl, rfl⟩, ⟨rfl, rfl⟩, trivial⟩ rfl)
        · obtain ⟨t, ht⟩ : ∃ t, cutL 32 l = funcS :: t := by
            cases hcc : cutL 32 l with
            | nil => exact absurd hcc (cutL_ne 32 l)
            | cons w t =>
              rw [hcc] at hh
              exact ⟨t, by rw [show w = funcS from Classical.byContradiction hh]⟩
          rw [ht] at hr
          cases hput : putL (fs, cs) (funcS :: t) with
          | none =>
            rw [hput] at hr
            dsimp only at hr
            subst hr
            have hp := put_no l hl t ht fs cs (by omega) (putL_none hput)
            refine ex_callM (CallsM.ren (hp) [1, 2, 3] 4 rfl rfl rfl rfl) ?_
            repeat' (first | refine ex_i64 ((q + 1 : Nat) : Int) (by omega) (by omega) (by omega) ?_ | refine ex_u64 ((q + 1 : Nat) : Int) (by omega) (by omega) (by omega) ?_ | refine ex_u8 ((q + 1 : Nat) : Int) (by omega) (by omega) (by omega) ?_ | refine ex_true (by first | decide | omega | assumption | (with_reducible exact rfl)) ?_ | refine ex_false (by first | decide | omega | assumption | exact (fun h => h rfl)) ?_ | refine ex_dec (fun _ => ?_) (fun _ => ?_) | refine ex_u8 _ rfl (by omega) (by omega) ?_ | refine ex_i64 _ rfl (by omega) (by omega) ?_ | refine ex_u64 _ rfl (by omega) (by omega) ?_ | refine and_mk (by first | omega | (with_reducible rfl) | (show drawOk _ _ _ = true; kernel_rfl)) ?_ | refine and_mk ⟨_, rfl⟩ ?_ | refine ex_is _ (List.length_map _) ?_ | refine ex_is _ List.length_nil ?_ | fail "no step")
            exact TLe.gnil
          | some p' =>
            rw [hput] at hr
            dsimp only at hr
            rw [putL_func] at hput
            split at hput
            · rename_i a b c hk hcs
              injection hput with hput
              subst hput
              dsimp only at hcs
              subst hcs
              have hp := put_ok l hl t ht a b c hk fs (by omega)
              refine ex_callM (CallsM.ren (hp) [1, 2, 3] 4 rfl rfl rfl rfl) ?_
              repeat' (first | refine ex_i64 ((q + 1 : Nat) : Int) (by omega) (by omega) (by omega) ?_ | refine ex_u64 ((q + 1 : Nat) : Int) (by omega) (by omega) (by omega) ?_ | refine ex_u8 ((q + 1 : Nat) : Int) (by omega) (by omega) (by omega) ?_ | refine ex_true (by first | decide | omega | assumption | (with_reducible exact rfl)) ?_ | refine ex_false (by first | decide | omega | assumption | exact (fun h => h rfl)) ?_ | refine ex_dec (fun _ => ?_) (fun _ => ?_) | refine ex_u8 _ rfl (by omega) (by omega) ?_ | refine ex_i64 _ rfl (by omega) (by omega) ?_ | refine ex_u64 _ rfl (by omega) (by omega) ?_ | refine and_mk (by first | omega | (with_reducible rfl) | (show drawOk _ _ _ = true; kernel_rfl)) ?_ | refine and_mk ⟨_, rfl⟩ ?_ | refine ex_is _ (List.length_map _) ?_ | refine ex_is _ List.length_nil ?_ | fail "no step")
              exact ex_round (q + 1, fs ++ [⟨a, b, c⟩], []) ⟨by omega, by rw [List.length_append]; simp; omega, Nat.zero_le _, hr⟩ (by show _ - _ < _ - _; omega) (SLe.ren [(0, 0), (1, 1), (4, 2), (3, 3)] ⟨⟨rfl, rfl⟩, ⟨rfl, rfl⟩, ⟨rfl, rfl⟩, ⟨rfl, rfl⟩, ⟨rfl, rfl⟩, trivial⟩ ⟨⟨rfl, rfl⟩, ⟨rfl, rfl⟩, ⟨rfl, rfl⟩, ⟨rfl, rfl⟩, trivial⟩ rfl)
            · cases hput
      · have hq9 : q = L.length := by omega
        subst hq9
        rw [List.drop_length, parseL] at hr
        subst hr
        repeat' (first | refine ex_true (by first | decide | omega | assumption | (with_reducible exact rfl)) ?_ | refine ex_false (by first | decide | omega | assumption | exact (fun h => h rfl)) ?_ | refine ex_dec (fun _ => ?_) (fun _ => ?_) | refine ex_u8 _ rfl (by omega) (by omega) ?_ | refine ex_i64 _ rfl (by omega) (by omega) ?_ | refine ex_u64 _ rfl (by omega) (by omega) ?_ | refine and_mk (by first | omega | (with_reducible rfl) | (show drawOk _ _ _ = true; kernel_rfl)) ?_ | refine and_mk ⟨_, rfl⟩ ?_ | refine ex_is _ (List.length_map _) ?_ | refine ex_is _ List.length_nil ?_ | fail "no step")
        exact TLe.rfl
    · rw [if_neg hlen]
      refine fn_rule (C := ⟨Tryd.prog, layF, Tryd.f12.ntmps, ΓC, 0, [], []⟩) layF_ok mixed Tryd.func12 rfl (by kernel_rfl) rfl rfl rfl ?_
      repeat' (first | refine ex_call hsp ?_ | refine ex_call htr ?_ | refine (ex_is _ hlm) ?_ | refine ex_true (by first | decide | omega | assumption | (with_reducible exact rfl)) ?_ | refine ex_false (by first | decide | omega | assumption | exact (fun h => h rfl)) ?_ | refine ex_dec (fun _ => ?_) (fun _ => ?_) | refine ex_u8 _ rfl (by omega) (by omega) ?_ | refine ex_i64 _ rfl (by omega) (by omega) ?_ | refine ex_u64 _ rfl (by omega) (by omega) ?_ | refine and_mk (by first | omega | (with_reducible rfl) | (show drawOk _ _ _ = true; kernel_rfl)) ?_ | refine and_mk ⟨_, rfl⟩ ?_ | refine ex_is _ (List.length_map _) ?_ | refine ex_is _ List.length_nil ?_ | fail "no step")
      exact TLe.gnil
end Go.Proofs.YtgfmbkbiingagaaDoor

namespace Go.Proofs.YtgfmbkbiingagaaDoor
set_option linter.unusedVariables false
set_option linter.unusedSimpArgs false
open Go.RowKit
set_option maxRecDepth 100000

abbrev TF3 : TypeId := 48
abbrev TRi : TypeId := 39
abbrev prD (fs : List FN) (l : List IN) : T1 := gD [.sl 3 (fs.map fnD), .sl 4 (l.map inD)]
set_option maxHeartbeats 4000000 in
theorem programs_c (fs : List FN) (l : List IN) (hf : fs.length ≤ 9223372036854775807) (hl : l.length ≤ 9223372036854775807) :
    CallsA Tryd.prog Γ0 5 [c1 (.sl 3 (fs.map fnD)), c1 (.sl 4 (l.map inD))] (.tup [prD (fs.take 10) (l.take 60), prD (fs.take 10) (l.take 60)]) := by
  have hcut : ∀ (α : Type) (k : Nat) (l : List α) (f : α → List D), ((l.map f).take ((min k l.length : Nat) : Int).toNat).drop (0 : Int).toNat = (l.take k).map f := fun α k l f => by
    rw [Int.toNat_natCast, show (0 : Int).toNat = 0 from rfl, List.drop_zero, ← List.map_take, ← List.take_eq_take_min]
  have hF := hcut FN 10 fs fnD
  have hL := hcut IN 60 l inD
  have hfm : (fs.map fnD).length = fs.length := List.length_map _
  have hlm : (l.map inD).length = l.length := List.length_map _
  have hF10 : (fs.take 10).length ≤ 10 := by rw [List.length_take]; omega
  have hL60 : (l.take 60).length ≤ 60 := by rw [List.length_take]; omega
  have hFm : ((fs.take 10).map fnD).length = (fs.take 10).length := List.length_map _
  have hLm : ((l.take 60).map inD).length = (l.take 60).length := List.length_map _
  refine fn_rule (C := ⟨Tryd.prog, layF, Tryd.f5.ntmps, Γ0, 0, [], []⟩) layF_ok mixed Tryd.func5 rfl (by kernel_rfl) rfl rfl rfl ?_
  repeat' (first | refine ex_true (by first | decide | omega | assumption | (with_reducible exact rfl)) ?_ | refine ex_false (by first | decide | omega | assumption | exact (fun h => h rfl)) ?_ | refine ex_dec (fun _ => ?_) (fun _ => ?_) | refine ex_u8 _ rfl (by omega) (by omega) ?_ | refine ex_i64 _ rfl (by omega) (by omega) ?_ | refine ex_u64 _ rfl (by omega) (by omega) ?_ | refine and_mk (by first | omega | (with_reducible rfl) | (show drawOk _ _ _ = true; kernel_rfl)) ?_ | refine and_mk ⟨_, rfl⟩ ?_ | refine ex_is _ (List.length_map _) ?_ | refine ex_is _ List.length_nil ?_ | fail "no step")
  refine ex_is ((min 10 fs.length : Nat) : Int) (by split <;> omega) ?_
  repeat' (first | refine ex_true (by first | decide | omega | assumption | (with_reducible exact rfl)) ?_ | refine ex_false (by first | decide | omega | assumption | exact (fun h => h rfl)) ?_ | refine ex_dec (fun _ => ?_) (fun _ => ?_) | refine ex_u8 _ rfl (by omega) (by omega) ?_ | refine ex_i64 _ rfl (by omega) (by omega) ?_ | refine ex_u64 _ rfl (by omega) (by omega) ?_ | refine and_mk (by first | omega | (with_reducible rfl) | (show drawOk _ _ _ = true; kernel_rfl)) ?_ | refine and_mk ⟨_, rfl⟩ ?_ | refine ex_is _ (List.length_map _) ?_ | refine ex_is _ List.length_nil ?_ | fail "no step")
  refine ex_is _ hF ?_
  generalize fs.take 10 = F at *
  repeat' (first | refine (ex_is _ hFm) ?_ | refine ex_true (by first | decide | omega | assumption | (with_reducible exact rfl)) ?_ | refine ex_false (by first | decide | omega | assumption | exact (fun h => h rfl)) ?_ | refine ex_dec (fun _ => ?_) (fun _ => ?_) | refine ex_u8 _ rfl (by omega) (by omega) ?_ | refine ex_i64 _ rfl (by omega) (by omega) ?_ | refine ex_u64 _ rfl (by omega) (by omega) ?_ | refine and_mk (by first | omega | (with_reducible rfl) | (show drawOk _ _ _ = true; kernel_rfl)) ?_ | refine and_mk ⟨_, rfl⟩ ?_ | refine ex_is _ (List.length_map _) ?_ | refine ex_is _ List.length_nil ?_ | fail "no step")
  refine ex_loop (X := Nat × List FN) (fun ⟨q, A⟩ => ⟨[(1, .o (c1 (.sl 4 (l.map inD)))), (4, .o (.c (.ptr 0 0))), (5, .o (.c (.ptr 1 0))), (6, .o (.c (.ptr 2 0))), (7, .o (.c (.ptr 3 0))), (16, .o (c1 (.sl 3 (F.map fnD)))), (17, Ti F.length), (18, Ti q)], [(0, .obj [.d dnil, .d dnil]), (1, .obj [.d dnil, .d dnil]), (2, .obj [.row 4, .d dnil]), (3, .obj [.row 5, .d dnil]), (4, .row 3 TFn (A.map fnD)), (5, .row 3 TF3 (A.map fnD))], 6⟩) (fun x => F.length - x.1) (fun ⟨q, A⟩ => q ≤ F.length ∧ A = F.take q) (0, []) ⟨Nat.zero_le _, rfl⟩ (SLe.trans (SLe.of ⟨⟨rfl, rfl, rfl, rfl, rfl, rfl, rfl, rfl, trivial⟩, ⟨rfl, rfl, rfl, rfl, rfl, rfl, trivial⟩⟩) (SLe.trans (SLe.ownCell 3 0 5 3 TF3 rfl rfl rfl rfl rfl rfl) (SLe.ownCell 2 0 4 3 TFn rfl rfl rfl rfl rfl rfl))) ?_
  rintro ⟨q, A⟩ ⟨hq, hA⟩
  refine ex_dec (fun h => ?_) (fun h => ?_)
  · have hql : q < F.length := by omega
    have hc : F[q]? = some F[q] := at_some hql
    have htk : F.take (q + 1) = F.take q ++ [F[q]] := by rw [List.take_add_one, hc]; rfl
    have htl : A.length = q := by rw [hA, List.length_take]; omega
    have hap : A.map fnD ++ [fnD F[q]] = (F.take (q + 1)).map fnD := by rw [htk, List.map_append, hA]; rfl
    generalize F[q] = f at *
    repeat' (first | refine (ex_row q f rfl hc) ?_ | refine ex_true (by first | decide | omega | assumption | (with_reducible exact rfl)) ?_ | refine ex_false (by first | decide | omega | assumption | exact (fun h => h rfl)) ?_ | refine ex_dec (fun _ => ?_) (fun _ => ?_) | refine ex_u8 _ rfl (by omega) (by omega) ?_ | refine ex_i64 _ rfl (by omega) (by omega) ?_ | refine ex_u64 _ rfl (by omega) (by omega) ?_ | refine and_mk (by first | omega | (with_reducible rfl) | (show drawOk _ _ _ = true; kernel_rfl)) ?_ | refine and_mk ⟨_, rfl⟩ ?_ | refine ex_is _ (List.length_map _) ?_ | refine ex_is _ List.length_nil ?_ | fail "no step")
    refine ex_app (q) (1) 1000 (by first | rfl | (simp; done) | (simp; omega)) (by first | rfl | (simp; done) | (simp; omega)) rfl (by omega) ?_
    refine ex_is _ hap ?_
    repeat' (first | refine ex_true (by first | decide | omega | assumption | (with_reducible exact rfl)) ?_ | refine ex_false (by first | decide | omega | assumption | exact (fun h => h rfl)) ?_ | refine ex_dec (fun _ => ?_) (fun _ => ?_) | refine ex_u8 _ rfl (by omega) (by omega) ?_ | refine ex_i64 _ rfl (by omega) (by omega) ?_ | refine ex_u64 _ rfl (by omega) (by omega) ?_ | refine and_mk (by first | omega | (with_reducible rfl) | (show drawOk _ _ _ = true; kernel_rfl)) ?_ | refine and_mk ⟨_, rfl⟩ ?_ | refine ex_is _ (List.length_map _) ?_ | refine ex_is _ List.length_nil ?_ | fail "no step")
    refine ex_app (q) (1) 1000 (by first | rfl | (simp; done) | (simp; omega)) (by first | rfl | (simp; done) | (simp; omega)) rfl (by omega) ?_
    refine ex_is _ hap ?_
    repeat' (first | refine ex_i64 ((q + 1 : Nat) : Int) (by omega) (by omega) (by omega) ?_ | refine ex_u64 ((q + 1 : Nat) : Int) (by omega) (by omega) (by omega) ?_ | refine ex_u8 ((q + 1 : Nat) : Int) (by omega) (by omega) (by omega) ?_ | refine ex_true (by first | decide | omega | assumption | (with_reducible exact rfl)) ?_ | refine ex_false (by first | decide | omega | assumption | exact (fun h => h rfl)) ?_ | refine ex_dec (fun _ => ?_) (fun _ => ?_) | refine ex_u8 _ rfl (by omega) (by omega) ?_ | refine ex_i64 _ rfl (by omega) (by omega) ?_ | refine ex_u64 _ rfl (by omega) (by omega) ?_ | refine and_mk (by first | omega | (with_reducible rfl) | (show drawOk _ _ _ = true; kernel_rfl)) ?_ | refine and_mk ⟨_, rfl⟩ ?_ | refine ex_is _ (List.length_map _) ?_ | refine ex_is _ List.length_nil ?_ | fail "no step")
    exact ex_round (q + 1, F.take (q + 1)) ⟨by omega, rfl⟩ (by show _ - _ < _ - _; omega) (SLe.ren [(0, 0), (1, 1), (2, 2), (3, 3), (8, 4), (10, 5)] ⟨⟨rfl, rfl⟩, ⟨rfl, rfl⟩, ⟨rfl, rfl⟩, ⟨rfl, rfl⟩, ⟨rfl, rfl⟩, ⟨rfl, rfl⟩, ⟨rfl, rfl⟩, ⟨rfl, rfl⟩, trivial⟩ ⟨⟨rfl, rfl⟩, ⟨rfl, rfl⟩, ⟨rfl, rfl⟩, ⟨rfl, rfl⟩, ⟨rfl, rfl⟩, ⟨rfl, rfl⟩, trivial⟩ rfl)
  · have hq9 : q = F.length := by omega
    subst hq9
    rw [List.take_length] at hA
    subst hA
    repeat' (first | refine ex_true (by first | decide | omega | assumption | (with_reducible exact rfl)) ?_ | refine ex_false (by first | decide | omega | assumption | exact (fun h => h rfl)) ?_ | refine ex_dec (fun _ => ?_) (fun _ => ?_) | refine ex_u8 _ rfl (by omega) (by omega) ?_ | refine ex_i64 _ rfl (by omega) (by omega) ?_ | refine ex_u64 _ rfl (by omega) (by omega) ?_ | refine and_mk (by first | omega | (with_reducible rfl) | (show drawOk _ _ _ = true; kernel_rfl)) ?_ | refine and_mk ⟨_, rfl⟩ ?_ | refine ex_is _ (List.length_map _) ?_ | refine ex_is _ List.length_nil ?_ | fail "no step")
    refine ex_is ((min 60 l.length : Nat) : Int) (by split <;> omega) ?_
    repeat' (first | refine ex_true (by first | decide | omega | assumption | (with_reducible exact rfl)) ?_ | refine ex_false (by first | decide | omega | assumption | exact (fun h => h rfl)) ?_ | refine ex_dec (fun _ => ?_) (fun _ => ?_) | refine ex_u8 _ rfl (by omega) (by omega) ?_ | refine ex_i64 _ rfl (by omega) (by omega) ?_ | refine ex_u64 _ rfl (by omega) (by omega) ?_ | refine and_mk (by first | omega | (with_reducible rfl) | (show drawOk _ _ _ = true; kernel_rfl)) ?_ | refine and_mk ⟨_, rfl⟩ ?_ | refine ex_is _ (List.length_map _) ?_ | refine ex_is _ List.length_nil ?_ | fail "no step")
    refine ex_is _ hL ?_
    generalize l.take 60 = G at *
    repeat' (first | refine (ex_is _ hLm) ?_ | refine ex_true (by first | decide | omega | assumption | (with_reducible exact rfl)) ?_ | refine ex_false (by first | decide | omega | assumption | exact (fun h => h rfl)) ?_ | refine ex_dec (fun _ => ?_) (fun _ => ?_) | refine ex_u8 _ rfl (by omega) (by omega) ?_ | refine ex_i64 _ rfl (by omega) (by omega) ?_ | refine ex_u64 _ rfl (by omega) (by omega) ?_ | refine and_mk (by first | omega | (with_reducible rfl) | (show drawOk _ _ _ = true; kernel_rfl)) ?_ | refine and_mk ⟨_, rfl⟩ ?_ | refine ex_is _ (List.length_map _) ?_ | refine ex_is _ List.length_nil ?_ | fail "no step")
    refine ex_loop (X := Nat × List IN) (fun ⟨q, B⟩ => ⟨[(4, .o (.c (.ptr 0 0))), (5, .o (.c (.ptr 1 0))), (6, .o (.c (.ptr 2 0))), (7, .o (.c (.ptr 3 0))), (45, .o (c1 (.sl 4 (G.map inD)))), (46, Ti G.length), (47, Ti q)], [(0, .obj [.d dnil, .d dnil]), (1, .obj [.d dnil, .d dnil]), (2, .obj [.row 4, .row 6]), (3, .obj [.row 5, .row 7]), (4, .row 3 TFn (A.map fnD)), (5, .row 3 TF3 (A.map fnD)), (6, .row 4 TIn (B.map inD)), (7, .row 4 TRi (B.map inD))], 8⟩) (fun x => G.length - x.1) (fun ⟨q, B⟩ => q ≤ G.length ∧ B = G.take q) (0, []) ⟨Nat.zero_le _, rfl⟩ (SLe.trans (SLe.of ⟨⟨rfl, rfl, rfl, rfl, rfl, rfl, rfl, trivial⟩, ⟨rfl, rfl, rfl, rfl, rfl, rfl, rfl, rfl, trivial⟩⟩) (SLe.trans (SLe.ownCell 3 1 7 4 TRi rfl rfl rfl rfl rfl rfl) (SLe.ownCell 2 1 6 4 TIn rfl rfl rfl rfl rfl rfl))) ?_
    rintro ⟨q, B⟩ ⟨hq, hB⟩
    refine ex_dec (fun h => ?_) (fun h => ?_)
    · have hql : q < G.length := by omega
      have hc : G[q]? = some G[q] := at_some hql
      have htk : G.take (q + 1) = G.take q ++ [G[q]] := by rw [List.take_add_one, hc]; rfl
      have htl : B.length = q := by rw [hB, List.length_take]; omega
      have hap : B.map inD ++ [inD G[q]] = (G.take (q + 1)).map inD := by rw [htk, List.map_append, hB]; rfl
      generalize G[q] = x at *
      repeat' (first | refine (ex_row q x rfl hc) ?_ | refine ex_true (by first | decide | omega | assumption | (with_reducible exact rfl)) ?_ | refine ex_false (by first | decide | omega | assumption | exact (fun h => h rfl)) ?_ | refine ex_dec (fun _ => ?_) (fun _ => ?_) | refine ex_u8 _ rfl (by omega) (by omega) ?_ | refine ex_i64 _ rfl (by omega) (by omega) ?_ | refine ex_u64 _ rfl (by omega) (by omega) ?_ | refine and_mk (by first | omega | (with_reducible rfl) | (show drawOk _ _ _ = true; kernel_rfl)) ?_ | refine and_mk ⟨_, rfl⟩ ?_ | refine ex_is _ (List.length_map _) ?_ | refine ex_is _ List.length_nil ?_ | fail "no step")
      refine ex_app (q) (1) 1000 (by first | rfl | (simp; done) | (simp; omega)) (by first | rfl | (simp; done) | (simp; omega)) rfl (by omega) ?_
      refine ex_is _ hap ?_
      repeat' (first | refine ex_true (by first | decide | omega | assumption | (with_reducible exact rfl)) ?_ | refine ex_false (by first | decide | omega | assumption | exact (fun h => h rfl)) ?_ | refine ex_dec (fun _ => ?_) (fun _ => ?_) | refine ex_u8 _ rfl (by omega) (by omega) ?_ | refine ex_i64 _ rfl (by omega) (by omega) ?_ | refine ex_u64 _ rfl (by omega) (by omega) ?_ | refine and_mk (by first | omega | (with_reducible rfl) | (show drawOk _ _ _ = true; kernel_rfl)) ?_ | refine and_mk ⟨_, rfl⟩ ?_ | refine ex_is _ (List.length_map _) ?_ | refine ex_is _ List.length_nil ?_ | fail "no step")
      refine ex_app (q) (1) 1000 (by first | rfl | (simp; done) | (simp; omega)) (by first | rfl | (simp; done) | (simp; omega)) rfl (by omega) ?_
      refine ex_is _ hap ?_
      repeat' (first | refine ex_i64 ((q + 1 : Nat) : Int) (by omega) (by omega) (by omega) ?_ | refine ex_u64 ((q + 1 : Nat) : Int) (by omega) (by omega) (by omega) ?_ | refine ex_u8 ((q + 1 : Nat) : Int) (by omega) (by omega) (by omega) ?_ | refine ex_true (by first | decide | omega | assumption | (with_reducible exact rfl)) ?_ | refine ex_false (by first | decide | omega | assumption | exact (fun h => h rfl)) ?_ | refine ex_dec (fun _ => ?_) (fun _ => ?_) | refine ex_u8 _ rfl (by omega) (by omega) ?_ | refine ex_i64 _ rfl (by omega) (by omega) ?_ | refine ex_u64 _ rfl (by omega) (by omega) ?_ | refine and_mk (by first | omega | (with_reducible rfl) | (show drawOk _ _ _ = true; kernel_rfl)) ?_ | refine and_mk ⟨_, rfl⟩ ?_ | refine ex_is _ (List.length_map _) ?_ | refine ex_is _ List.length_nil ?_ | fail "no step")
      exact ex_round (q + 1, G.take (q + 1)) ⟨by omega, rfl⟩ (by show _ - _ < _ - _; omega) (SLe.ren [(0, 0), (1, 1), (2, 2), (3, 3), (4, 4), (5, 5), (10, 6), (12, 7)] ⟨⟨rfl, rfl⟩, ⟨rfl, rfl⟩, ⟨rfl, rfl⟩, ⟨rfl, rfl⟩, ⟨rfl, rfl⟩, ⟨rfl, rfl⟩, ⟨rfl, rfl⟩, trivial⟩ ⟨⟨rfl, rfl⟩, ⟨rfl, rfl⟩, ⟨rfl, rfl⟩, ⟨rfl, rfl⟩, ⟨rfl, rfl⟩, ⟨rfl, rfl⟩, ⟨rfl, rfl⟩, ⟨rfl, rfl⟩, trivial⟩ rfl)
    · have hq9 : q = G.length := by omega
      subst hq9
      rw [List.take_length] at hB
      subst hB
      repeat' (first | refine ex_true (by first | decide | omega | assumption | (with_reducible exact rfl)) ?_ | refine ex_false (by first | decide | omega | assumption | exact (fun h => h rfl)) ?_ | refine ex_dec (fun _ => ?_) (fun _ => ?_) | refine ex_u8 _ rfl (by omega) (by omega) ?_ | refine ex_i64 _ rfl (by omega) (by omega) ?_ | refine ex_u64 _ rfl (by omega) (by omega) ?_ | refine and_mk (by first | omega | (with_reducible rfl) | (show drawOk _ _ _ = true; kernel_rfl)) ?_ | refine and_mk ⟨_, rfl⟩ ?_ | refine ex_is _ (List.length_map _) ?_ | refine ex_is _ List.length_nil ?_ | fail "no step")
      exact TLe.rfl
theorem int1 (d : Nat) (h : d < 10) : Lib.itoa (d : Int) = [UInt8.ofNat (48 + d)] := by
  unfold Lib.itoa
  rw [if_neg (by omega), Int.toNat_natCast, Lib.decDigits_one h]
theorem intF1 (d : Nat) (h : d < 10) : intF [UInt8.ofNat (48 + d)] = some (d : Int) := intF_iff.2 ⟨⟨by omega, by omega⟩, int1 d h⟩
theorem natF7 : natF [55] = some 7 := natF_iff.2 ⟨by decide, Lib.decDigits_one (by decide)⟩
def wk1S : List UInt8 := [102, 117, 110, 99, 32, 48, 32, 48, 32, 48, 10, 110, 111, 110, 101, 10, 101, 110, 100]
def wk1F : List FN := [⟨0, 0, 0⟩]
def wk1I : List IN := [⟨13, 0, 0, 0⟩, ⟨35, 0, 0, 0⟩]
theorem wk1_parse : parseV wk1S = .ok (wk1F, wk1I) := by
  have i0 : intF [48] = some 0 := intF1 0 (by decide)
  have n0 : natF [48] = some 0 := natF_iff.2 ⟨by decide, Lib.decDigits_one (by decide)⟩
  have L : linesF wk1S = [[102, 117, 110, 99, 32, 48, 32, 48, 32, 48], [110, 111, 110, 101], [101, 110, 100]] := by decide
  have r0 : putL ([], []) (cutL 32 [102, 117, 110, 99, 32, 48, 32, 48, 32, 48]) = some (wk1F, []) := by
    rw [show cutL 32 [102, 117, 110, 99, 32, 48, 32, 48, 32, 48] = funcS :: [[48], [48], [48]] from by decide, putL_func, show intsF [[48], [48], [48]] = some [0, 0, 0] by simp [intsF, i0]]
    rfl
  have r1 : instrF (cutL 32 [110, 111, 110, 101]) = some ⟨13, 0, 0, 0⟩ := by
    rw [show cutL 32 [110, 111, 110, 101] = [[110, 111, 110, 101]] from by decide]
    unfold instrF
    rw [show findO (([[110, 111, 110, 101]] : List (List UInt8)).headD []) = some 13 from by decide]
    dsimp only
    rw [if_pos (by decide), if_neg (by decide)]
    rfl
  have r2 : instrF (cutL 32 [101, 110, 100]) = some ⟨35, 0, 0, 0⟩ := by
    rw [show cutL 32 [101, 110, 100] = [[101, 110, 100]] from by decide]
    unfold instrF
    rw [show findO (([[101, 110, 100]] : List (List UInt8)).headD []) = some 35 from by decide]
    dsimp only
    rw [if_pos (by decide), if_neg (by decide)]
    rfl
  unfold parseV
  rw [L, if_pos (by decide), parseL, r0]
  dsimp only
  rw [parseL, putL_code (by decide), r1, Option.map_some]
  dsimp only
  rw [parseL, putL_code (by decide), r2, Option.map_some]
  rfl
def wk2S : List UInt8 := [102, 117, 110, 99, 32, 48, 32, 48, 32, 48, 10, 101, 110, 100]
def wk2F : List FN := [⟨0, 0, 0⟩]
def wk2I : List IN := [⟨35, 0, 0, 0⟩]
theorem wk2_parse : parseV wk2S = .ok (wk2F, wk2I) := by
  have i0 : intF [48] = some 0 := intF1 0 (by decide)
  have n0 : natF [48] = some 0 := natF_iff.2 ⟨by decide, Lib.decDigits_one (by decide)⟩
  have L : linesF wk2S = [[102, 117, 110, 99, 32, 48, 32, 48, 32, 48], [101, 110, 100]] := by decide
  have r0 : putL ([], []) (cutL 32 [102, 117, 110, 99, 32, 48, 32, 48, 32, 48]) = some (wk2F, []) := by
    rw [show cutL 32 [102, 117, 110, 99, 32, 48, 32, 48, 32, 48] = funcS :: [[48], [48], [48]] from by decide, putL_func, show intsF [[48], [48], [48]] = some [0, 0, 0] by simp [intsF, i0]]
    rfl
  have r1 : instrF (cutL 32 [101, 110, 100]) = some ⟨35, 0, 0, 0⟩ := by
    rw [show cutL 32 [101, 110, 100] = [[101, 110, 100]] from by decide]
    unfold instrF
    rw [show findO (([[101, 110, 100]] : List (List UInt8)).headD []) = some 35 from by decide]
    dsimp only
    rw [if_pos (by decide), if_neg (by decide)]
    rfl
  unfold parseV
  rw [L, if_pos (by decide), parseL, r0]
  dsimp only
  rw [parseL, putL_code (by decide), r1, Option.map_some]
  rfl
def wk3S : List UInt8 := [102, 117, 110, 99, 32, 48, 32, 49, 32, 48, 10, 111, 112, 101, 110, 32, 48, 10, 105, 110, 116, 32, 49, 32, 48, 10, 115, 116, 111, 114, 101, 32, 48, 10, 112, 117, 115, 104, 32, 49, 10, 112, 117, 115, 104, 32, 50, 10, 97, 108, 117, 32, 48, 10, 100, 114, 111, 112, 10, 99, 108, 111, 115, 101, 10, 101, 110, 100]
def wk3F : List FN := [⟨0, 1, 0⟩]
def wk3I : List IN := [⟨14, 0, 0, 0⟩, ⟨6, 1, 0, 0⟩, ⟨2, 0, 0, 0⟩, ⟨0, 0, 0, 1⟩, ⟨0, 0, 0, 2⟩, ⟨4, 0, 0, 0⟩, ⟨3, 0, 0, 0⟩, ⟨15, 0, 0, 0⟩, ⟨35, 0, 0, 0⟩]
theorem wk3_parse : parseV wk3S = .ok (wk3F, wk3I) := by
  have i0 : intF [48] = some 0 := intF1 0 (by decide)
  have n0 : natF [48] = some 0 := natF_iff.2 ⟨by decide, Lib.decDigits_one (by decide)⟩
  have i1 : intF [49] = some 1 := intF1 1 (by decide)
  have n1 : natF [49] = some 1 := natF_iff.2 ⟨by decide, Lib.decDigits_one (by decide)⟩
  have i2 : intF [50] = some 2 := intF1 2 (by decide)
  have n2 : natF [50] = some 2 := natF_iff.2 ⟨by decide, Lib.decDigits_one (by decide)⟩
  have L : linesF wk3S = [[102, 117, 110, 99, 32, 48, 32, 49, 32, 48], [111, 112, 101, 110, 32, 48], [105, 110, 116, 32, 49, 32, 48], [115, 116, 111, 114, 101, 32, 48], [112, 117, 115, 104, 32, 49], [112, 117, 115, 104, 32, 50], [97, 108, 117, 32, 48], [100, 114, 111, 112], [99, 108, 111, 115, 101], [101, 110, 100]] := by decide
  have r0 : putL ([], []) (cutL 32 [102, 117, 110, 99, 32, 48, 32, 49, 32, 48]) = some (wk3F, []) := by
    rw [show cutL 32 [102, 117, 110, 99, 32, 48, 32, 49, 32, 48] = funcS :: [[48], [49], [48]] from by decide, putL_func, show intsF [[48], [49], [48]] = some [0, 1, 0] by simp [intsF, i0, i1]]
    rfl
  have r1 : instrF (cutL 32 [111, 112, 101, 110, 32, 48]) = some ⟨14, 0, 0, 0⟩ := by
    rw [show cutL 32 [111, 112, 101, 110, 32, 48] = [[111, 112, 101, 110], [48]] from by decide]
    unfold instrF
    rw [show findO (([[111, 112, 101, 110], [48]] : List (List UInt8)).headD []) = some 14 from by decide]
    dsimp only
    rw [if_pos (by decide), if_neg (by decide), show ([[111, 112, 101, 110], [48]] : List (List UInt8)).tail = [[48]] from rfl, show intsF [[48]] = some [0] by simp [intsF, i0]]
    rfl
  have r2 : instrF (cutL 32 [105, 110, 116, 32, 49, 32, 48]) = some ⟨6, 1, 0, 0⟩ := by
    rw [show cutL 32 [105, 110, 116, 32, 49, 32, 48] = [[105, 110, 116], [49], [48]] from by decide]
    unfold instrF
    rw [show findO (([[105, 110, 116], [49], [48]] : List (List UInt8)).headD []) = some 6 from by decide]
    dsimp only
    rw [if_pos (by decide), if_neg (by decide), show ([[105, 110, 116], [49], [48]] : List (List UInt8)).tail = [[49], [48]] from rfl, show intsF [[49], [48]] = some [1, 0] by simp [intsF, i0, i1]]
    rfl
  have r3 : instrF (cutL 32 [115, 116, 111, 114, 101, 32, 48]) = some ⟨2, 0, 0, 0⟩ := by
    rw [show cutL 32 [115, 116, 111, 114, 101, 32, 48] = [[115, 116, 111, 114, 101], [48]] from by decide]
    unfold instrF
    rw [show findO (([[115, 116, 111, 114, 101], [48]] : List (List UInt8)).headD []) = some 2 from by decide]
    dsimp only
    rw [if_pos (by decide), if_neg (by decide), show ([[115, 116, 111, 114, 101], [48]] : List (List UInt8)).tail = [[48]] from rfl, show intsF [[48]] = some [0] by simp [intsF, i0]]
    rfl
  have r4 : instrF (cutL 32 [112, 117, 115, 104, 32, 49]) = some ⟨0, 0, 0, 1⟩ := by
    rw [show cutL 32 [112, 117, 115, 104, 32, 49] = [[112, 117, 115, 104], [49]] from by decide]
    unfold instrF
    rw [show findO (([[112, 117, 115, 104], [49]] : List (List UInt8)).headD []) = some 0 from by decide]
    dsimp only
    rw [if_pos (by decide), if_pos rfl, show ([[112, 117, 115, 104], [49]] : List (List UInt8)).getD 1 [] = [49] from rfl, n1]
    rfl
  have r5 : instrF (cutL 32 [112, 117, 115, 104, 32, 50]) = some ⟨0, 0, 0, 2⟩ := by
    rw [show cutL 32 [112, 117, 115, 104, 32, 50] = [[112, 117, 115, 104], [50]] from by decide]
    unfold instrF
    rw [show findO (([[112, 117, 115, 104], [50]] : List (List UInt8)).headD []) = some 0 from by decide]
    dsimp only
    rw [if_pos (by decide), if_pos rfl, show ([[112, 117, 115, 104], [50]] : List (List UInt8)).getD 1 [] = [50] from rfl, n2]
    rfl
  have r6 : instrF (cutL 32 [97, 108, 117, 32, 48]) = some ⟨4, 0, 0, 0⟩ := by
    rw [show cutL 32 [97, 108, 117, 32, 48] = [[97, 108, 117], [48]] from by decide]
    unfold instrF
    rw [show findO (([[97, 108, 117], [48]] : List (List UInt8)).headD []) = some 4 from by decide]
    dsimp only
    rw [if_pos (by decide), if_neg (by decide), show ([[97, 108, 117], [48]] : List (List UInt8)).tail = [[48]] from rfl, show intsF [[48]] = some [0] by simp [intsF, i0]]
    rfl
  have r7 : instrF (cutL 32 [100, 114, 111, 112]) = some ⟨3, 0, 0, 0⟩ := by
    rw [show cutL 32 [100, 114, 111, 112] = [[100, 114, 111, 112]] from by decide]
    unfold instrF
    rw [show findO (([[100, 114, 111, 112]] : List (List UInt8)).headD []) = some 3 from by decide]
    dsimp only
    rw [if_pos (by decide), if_neg (by decide)]
    rfl
  have r8 : instrF (cutL 32 [99, 108, 111, 115, 101]) = some ⟨15, 0, 0, 0⟩ := by
    rw [show cutL 32 [99, 108, 111, 115, 101] = [[99, 108, 111, 115, 101]] from by decide]
    unfold instrF
    rw [show findO (([[99, 108, 111, 115, 101]] : List (List UInt8)).headD []) = some 15 from by decide]
    dsimp only
    rw [if_pos (by decide), if_neg (by decide)]
    rfl
  have r9 : instrF (cutL 32 [101, 110, 100]) = some ⟨35, 0, 0, 0⟩ := by
    rw [show cutL 32 [101, 110, 100] = [[101, 110, 100]] from by decide]
    unfold instrF
    rw [show findO (([[101, 110, 100]] : List (List UInt8)).headD []) = some 35 from by decide]
    dsimp only
    rw [if_pos (by decide), if_neg (by decide)]
    rfl
  unfold parseV
  rw [L, if_pos (by decide), parseL, r0]
  dsimp only
  rw [parseL, putL_code (by decide), r1, Option.map_some]
  dsimp only
  rw [parseL, putL_code (by decide), r2, Option.map_some]
  dsimp only
  rw [parseL, putL_code (by decide), r3, Option.map_some]
  dsimp only
  rw [parseL, putL_code (by decide), r4, Option.map_some]
  dsimp only
  rw [parseL, putL_code (by decide), r5, Option.map_some]
  dsimp only
  rw [parseL, putL_code (by decide), r6, Option.map_some]
  dsimp only
  rw [parseL, putL_code (by decide), r7, Option.map_some]
  dsimp only
  rw [parseL, putL_code (by decide), r8, Option.map_some]
  dsimp only
  rw [parseL, putL_code (by decide), r9, Option.map_some]
  rfl
theorem of_c (s : List UInt8) (hs : s.length ≤ 1048576) (p : PR) (h : parseV s = .ok p) : CallsA Tryd.prog ΓH 9 [c1 (ds (bs s))] (.o (prD p.1 p.2)) := by
  have hp := (Parse_c s hs).gH
  rw [h] at hp
  refine fn_rule (C := ⟨Tryd.prog, layF, Tryd.f9.ntmps, ΓH, 0, [], []⟩) layF_ok mixed Tryd.func9 rfl (by kernel_rfl) rfl rfl rfl ?_
  repeat' (first | refine ex_call hp ?_ | refine ex_true (by first | decide | omega | assumption | (with_reducible exact rfl)) ?_ | refine ex_false (by first | decide | omega | assumption | exact (fun h => h rfl)) ?_ | refine ex_dec (fun _ => ?_) (fun _ => ?_) | refine ex_u8 _ rfl (by omega) (by omega) ?_ | refine ex_i64 _ rfl (by omega) (by omega) ?_ | refine ex_u64 _ rfl (by omega) (by omega) ?_ | refine and_mk (by first | omega | (with_reducible rfl) | (show drawOk _ _ _ = true; kernel_rfl)) ?_ | refine and_mk ⟨_, rfl⟩ ?_ | refine ex_is _ (List.length_map _) ?_ | refine ex_is _ List.length_nil ?_ | fail "no step")
  exact TLe.rfl
theorem wakes_c : CallsA Tryd.prog ΓH 6 [] (Tb true) := by
  have o1 := of_c wk1S (by decide) _ wk1_parse
  have o2 := of_c wk2S (by decide) _ wk2_parse
  have o3 := of_c wk3S (by decide) _ wk3_parse
  have c1' := check_c (fs := wk1F) (cs := wk1I) (by decide) (by decide)
  have c2' := check_c (fs := wk2F) (cs := wk2I) (by decide) (by decide)
  have c3' := check_c (fs := wk3F) (cs := wk3I) (by decide) (by decide)
  have d3 := deepest_c (fs := wk3F) (cs := wk3I) (by decide) (by decide) 0
  rw [show checkV wk1F wk1I = (0, 0) by decide +kernel] at c1'
  rw [show checkV wk2F wk2I = (0, 4) by decide +kernel] at c2'
  rw [show checkV wk3F wk3I = (0, 0) by decide +kernel] at c3'
  rw [show deepestV wk3F wk3I 0 = 2 by decide +kernel] at d3
  refine fn_rule (C := ⟨Tryd.prog, layF, Tryd.f6.ntmps, ΓH, 0, [], []⟩) layF_ok mixed Tryd.func6 rfl (by kernel_rfl) rfl rfl rfl ?_
  repeat' (first | refine ex_call d3 ?_ | refine ex_call c3' ?_ | refine ex_call c2' ?_ | refine ex_call c1' ?_ | refine ex_call o3 ?_ | refine ex_call o2 ?_ | refine ex_call o1 ?_ | refine ex_true (by first | decide | omega | assumption | (with_reducible exact rfl)) ?_ | refine ex_false (by first | decide | omega | assumption | exact (fun h => h rfl)) ?_ | refine ex_dec (fun _ => ?_) (fun _ => ?_) | refine ex_u8 _ rfl (by omega) (by omega) ?_ | refine ex_i64 _ rfl (by omega) (by omega) ?_ | refine ex_u64 _ rfl (by omega) (by omega) ?_ | refine and_mk (by first | omega | (with_reducible rfl) | (show drawOk _ _ _ = true; kernel_rfl)) ?_ | refine and_mk ⟨_, rfl⟩ ?_ | refine ex_is _ (List.length_map _) ?_ | refine ex_is _ List.length_nil ?_ | fail "no step")
  exact TLe.rfl
end Go.Proofs.YtgfmbkbiingagaaDoor

namespace Go.Proofs.YtgfmbkbiingagaaDoor
set_option linter.unusedVariables false
set_option linter.unusedSimpArgs false

/-! ### Instructions behind the end -/
theorem frames_more : ∀ {fs : List FN} {n m : Nat} {sl la : Int} {b : Bool}, (∀ f ∈ fs, f.e < n ∧ f.e < m) → framesV fs n sl la b = framesV fs m sl la b
  | [], _, _, _, _, _, _ => rfl
  | f :: fs, n, m, sl, la, b, h => by
    rw [framesV, framesV, frames_more (fun f hf => h f (List.mem_cons_of_mem _ hf))]
    have h1 := h f (by simp)
    have e : ((n : Int) ≤ f.e) ↔ ((m : Int) ≤ f.e) := by omega
    simp only [e]
def PlOk (n : Nat) (tt tt' : Int) (j : Int) : Prop := tt = tt' ∨ (tt = n ∧ n ≤ tt' ∧ j < n)
theorem place_more {n : Nat} {fr tt tt' j : Int} (h : PlOk n tt tt' j) : placeV fr tt j = placeV fr tt' j := by
  rcases h with rfl | ⟨rfl, h1, h2⟩
  · rfl
  · unfold placeV
    rw [decide_eq_decide]
    omega
theorem fits_more {fs : List FN} {fn : Nat} {fr tt tt' : Int} {x : IN} {s : SS} (ha : placeV fr tt x.a = placeV fr tt' x.a) (hb : placeV fr tt x.b = placeV fr tt' x.b) : fitsV fs fn fr tt x s = fitsV fs fn fr tt' x s := by
  have : ∀ f, numbersV f fn fr tt x = numbersV f fn fr tt' x := fun f => by unfold numbersV; rw [ha, hb]
  unfold fitsV
  rw [this]
theorem gos_more {fr tt tt' : Int} {i : Int} {t : SS} : ∀ {l : List Int} {g : SG}, (∀ j ∈ l, placeV fr tt j = placeV fr tt' j) → l.foldl (SG.go fr tt i t) g = l.foldl (SG.go fr tt' i t) g
  | [], _, _ => rfl
  | j :: l, g, h => by
    rw [List.foldl_cons, List.foldl_cons]
    have : SG.go fr tt i t g j = SG.go fr tt' i t g j := by unfold SG.go; rw [h j (by simp)]
    rw [this]
    exact gos_more fun j hj => h j (List.mem_cons_of_mem _ hj)
theorem goes_mem {x : IN} {i j : Int} (h : j ∈ goesV x i) : j = x.a ∨ j = x.b ∨ (j = i + 1 ∧ x.o ≠ 35) := by
  unfold goesV at h
  split at h
  · simp at h; exact .inl h
  · split at h
    · rename_i h2
      simp at h
      rcases h with h | h
      · exact .inl h
      · exact .inr (.inr ⟨h, by omega⟩)
    · split at h
      · rename_i h3
        simp at h
        rcases h with h | h
        · exact .inr (.inl h)
        · exact .inr (.inr ⟨h, by omega⟩)
      · split at h
        · simp at h
        · rename_i h4
          simp at h
          exact .inr (.inr ⟨h, by omega⟩)
/-- What the law says of the instructions ahead. -/
structure EndOk (cs : List IN) : Prop where
  last : ∀ i x, cs[i]? = some x → i + 1 = cs.length → x.o = 35
  ins : ∀ x ∈ cs, x.a < cs.length ∧ x.b < cs.length
theorem step_more {fs : List FN} {cs ds : List IN} (hE : EndOk cs) {fn : Nat} {fr tt tt' : Int} (htt : tt = tt' ∨ (tt = cs.length ∧ (cs.length : Int) ≤ tt')) {g : SG} {i : Int} (hi : 0 ≤ i ∧ i < cs.length) :
    SG.step fs cs fn fr tt g i = SG.step fs (cs ++ ds) fn fr tt' g i := by
  have hx : cs[i.toNat]? = some (cs[i.toNat]'(by omega)) := List.getElem?_eq_getElem _
  have hx2 : (cs ++ ds)[i.toNat]? = some (cs[i.toNat]'(by omega)) := by rw [List.getElem?_append_left (by omega)]; exact hx
  have hmem : cs[i.toNat]'(by omega) ∈ cs := List.getElem_mem _
  have hlast := hE.last i.toNat _ hx
  generalize cs[i.toNat]'(by omega) = x at *
  have hin := hE.ins x hmem
  have hp : ∀ j : Int, j < cs.length → placeV fr tt j = placeV fr tt' j := fun j hj => place_more (n := cs.length) (by rcases htt with h | ⟨h1, h2⟩; exact .inl h; exact .inr ⟨h1, h2, hj⟩)
  unfold SG.step
  rw [List.getD, List.getD, hx, hx2]
  dsimp only [Option.getD_some]
  rw [fits_more (hp _ hin.1) (hp _ hin.2)]
  split
  · rfl
  · refine gos_more fun j hj => ?_
    rcases goes_mem hj with rfl | rfl | ⟨rfl, h35⟩
    · exact hp _ hin.1
    · exact hp _ hin.2
    · refine hp _ ?_
      by_cases h : i.toNat + 1 = cs.length
      · exact absurd (hlast h) h35
      · omega
theorem run_more {fs : List FN} {cs ds : List IN} (hE : EndOk cs) {fn : Nat} {fr tt tt' : Int} (hf : 0 ≤ fr) (ht : tt ≤ cs.length) (htt : tt = tt' ∨ (tt = cs.length ∧ (cs.length : Int) ≤ tt')) : ∀ (k : Nat) {g : SG}, g.Ok cs.length → SG.run fs cs fn fr tt k g = SG.run fs (cs ++ ds) fn fr tt' k g
  | 0, _, _ => rfl
  | k + 1, g, h => by
    rw [SG.run, SG.run]
    split
    · rfl
    · rename_i hl
      obtain ⟨s, hs⟩ := Option.isSome_iff_exists.1 (h.2.2 _ (minL_mem hl))
      have hb := h.1 _ (SG.at_mem hs)
      have e : SG.pull fs cs fn fr tt g = SG.pull fs (cs ++ ds) fn fr tt' g := step_more hE htt hb
      rw [← e]
      exact run_more hE hf ht htt k (SG.pull_ok h hl hf ht fs cs fn).1
theorem function_more {fs : List FN} {cs ds : List IN} (hE : EndOk cs) (hfs : okFrames fs cs = true) {fn : Nat} (hfn : fn < fs.length) : functionV fs cs fn = functionV fs (cs ++ ds) fn := by
  have h1 : framesV fs cs.length 0 (-1) true = true := by unfold okFrames at hfs; rw [Bool.and_eq_true] at hfs; exact hfs.1
  have hs := framesV_spec h1 (Int.le_refl _) (Int.le_refl _) (by decide)
  have hx : fs[fn]? = some fs[fn] := List.getElem?_eq_getElem hfn
  have hb := hs fn _ hx
  have hg : fs.getD fn zF = fs[fn] := by rw [List.getD, hx]; rfl
  have htt : toV fs cs fn = toV fs (cs ++ ds) fn ∨ (toV fs cs fn = cs.length ∧ (cs.length : Int) ≤ toV fs (cs ++ ds) fn) := by
    unfold toV
    split
    · exact .inl rfl
    · exact .inr ⟨rfl, by rw [List.length_append]; omega⟩
  have hto : toV fs cs fn ≤ cs.length := by
    unfold toV
    split
    · rename_i hl
      have hx2 : fs[fn + 1]? = some fs[fn + 1] := List.getElem?_eq_getElem hl
      have := hs _ _ hx2
      rw [List.getD, hx2]
      show fs[fn + 1].e ≤ _
      omega
    · exact Int.le_refl _
  obtain ⟨q1, q2⟩ := SG.start_ok (n := cs.length) (fr := fs[fn].e) ⟨by omega, by omega⟩
  have e : SG.run fs cs fn fs[fn].e (toV fs cs fn) (2 * cs.length + 2) (SG.start fs[fn].e) = SG.run fs (cs ++ ds) fn fs[fn].e (toV fs (cs ++ ds) fn) (2 * (cs ++ ds).length + 2) (SG.start fs[fn].e) := by
    rw [← run_more hE (by omega) hto htt _ q1]
    exact SG.run_end (by omega) hto fs fn _ _ q1 q2 (by rw [List.length_append]; omega)
  unfold functionV
  rw [hg, e]
theorem bad_same {fs fs' : List FN} {cs cs' : List IN} : ∀ {n i : Nat}, (∀ k, k < i + n → (functionV fs cs k).1 = (functionV fs' cs' k).1) → badV fs cs n i = badV fs' cs' n i
  | 0, _, _ => rfl
  | n + 1, i, h => by
    rw [badV, badV, h i (by omega), bad_same fun k hk => h k (by omega)]
theorem check_more {fs : List FN} {cs ds : List IN} (hE : EndOk cs) (hb : ∀ f ∈ fs, f.e < cs.length) : checkV fs cs = checkV fs (cs ++ ds) := by
  have e : okFrames fs (cs ++ ds) = okFrames fs cs := by
    unfold okFrames
    rw [frames_more (n := (cs ++ ds).length) (m := cs.length)]
    intro f hf
    have := hb f hf
    rw [List.length_append]
    omega
  unfold checkV
  rw [e]
  split
  · rfl
  · rename_i hok
    have hok : okFrames fs cs = true := by simpa using hok
    rw [bad_same (cs' := cs ++ ds) (fs' := fs) fun k hk => by rw [function_more (ds := ds) hE hok (by omega)]]

/-! ### More slots -/
def moreS (m : Nat) (f : FN) : FN := ⟨f.e, f.s + m, f.p⟩
def sumS : List FN → Int
  | [] => 0
  | f :: fs => f.s + sumS fs
theorem frames_sum : ∀ {fs : List FN} {n : Nat} {sl la : Int} {b : Bool}, framesV fs n sl la b = true → 0 ≤ sumS fs ∧ (sl ≤ 4096 → sl + sumS fs ≤ 4096)
  | [], _, _, _, _, _ => ⟨Int.le_refl _, fun h => by show _ + 0 ≤ _; omega⟩
  | f :: fs, n, sl, la, b, h => by
    rw [framesV] at h
    split at h
    · cases h
    · rename_i hno
      obtain ⟨h1, h2⟩ := frames_sum h
      rw [sumS]
      exact ⟨by omega, fun _ => by have := h2 (by omega); omega⟩
theorem frames_slots (m : Nat) : ∀ {fs : List FN} {n : Nat} {sl sl' la : Int} {b : Bool}, framesV fs n sl la b = true → sl' + sumS (fs.map (moreS m)) ≤ 4096 → framesV (fs.map (moreS m)) n sl' la b = true
  | [], _, _, _, _, _, _, _ => rfl
  | f :: fs, n, sl, sl', la, b, h, hs => by
    rw [framesV] at h
    split at h
    · cases h
    · rename_i hno
      rw [List.map_cons, sumS] at hs
      have hpos : 0 ≤ sumS (fs.map (moreS m)) := by
        have : ∀ (l : List FN) {sl la : Int} {b : Bool}, framesV l n sl la b = true → 0 ≤ sumS (l.map (moreS m)) := fun l => by
          induction l with
          | nil => intro _ _ _ _; exact Int.le_refl _
          | cons x l ih =>
            intro sl la b h
            rw [framesV] at h
            split at h
            · cases h
            · rename_i hno
              have := ih h
              rw [List.map_cons, sumS]
              show 0 ≤ x.s + m + _
              omega
        exact this fs h
      have hs' : sl' + (f.s + m + sumS (fs.map (moreS m))) ≤ 4096 := hs
      clear hs
      rw [List.map_cons, framesV, if_neg (by
        show ¬ ((b = true ∧ f.e ≠ 0) ∨ f.e ≤ la ∨ (n : Int) ≤ f.e ∨ f.p < 0 ∨ f.s + m < f.p ∨ 4096 - sl' < f.s + m)
        intro hq
        have hno2 : ¬ (f.e ≤ la ∨ (n : Int) ≤ f.e ∨ f.p < 0 ∨ f.s < f.p ∨ 4096 - sl < f.s) := fun h => hno (.inr h)
        rcases hq with hq | hq
        · exact hno (.inl hq)
        · clear hno
          omega)]
      exact frames_slots m h (by show sl' + (f.s + m) + _ ≤ 4096; omega)
theorem fault_w {w i : Int} (hi : 0 ≤ i) : 0 ≤ faultV w i := by
  unfold faultV
  split <;> omega
theorem come_w {g : SG} {i : Int} {s : SS} (hi : 0 ≤ i) (h : 0 ≤ g.w) : 0 ≤ (g.come i s).w := by
  unfold SG.come
  split
  · split
    · exact h
    · exact fault_w hi
  · exact h
theorem go_w {fr tt i : Int} {s : SS} {g : SG} {j : Int} (hf : 0 ≤ fr) (hi : 0 ≤ i) (h : 0 ≤ g.w) : 0 ≤ (SG.go fr tt i s g j).w := by
  unfold SG.go
  split
  · exact fault_w hi
  · rename_i hno
    have hp : placeV fr tt j = true := by
      cases hv : placeV fr tt j with
      | true => rfl
      | false => exact absurd (.inl hv) hno
    have := of_decide_eq_true hp
    exact come_w (by omega) h
theorem gos_w {fr tt i : Int} {s : SS} (hf : 0 ≤ fr) (hi : 0 ≤ i) : ∀ {l : List Int} {g : SG}, 0 ≤ g.w → 0 ≤ (l.foldl (SG.go fr tt i s) g).w
  | [], _, h => h
  | j :: l, g, h => gos_w (l := l) (g := SG.go fr tt i s g j) hf hi (go_w hf hi h)
theorem step_w {fs : List FN} {cs : List IN} {fn : Nat} {fr tt : Int} {g : SG} {i : Int} (hf : 0 ≤ fr) (hi : 0 ≤ i) (h : 0 ≤ g.w ∨ fitsV fs fn fr tt (cs.getD i.toNat zI) ((g.at i).getD ⟨0, [], false, false⟩) = false) : 0 ≤ (SG.step fs cs fn fr tt g i).w := by
  unfold SG.step
  dsimp only
  split
  · exact fault_w hi
  · rename_i hno
    rcases h with h | h
    · exact gos_w hf hi h
    · exact absurd h hno
theorem run_w {fs : List FN} {cs : List IN} {fn : Nat} {fr tt : Int} (hf : 0 ≤ fr) (ht : tt ≤ cs.length) : ∀ (k : Nat) {g : SG}, g.Ok cs.length → 0 ≤ g.w → 0 ≤ (SG.run fs cs fn fr tt k g).w
  | 0, _, _, h => h
  | k + 1, g, hg, h => by
    rw [SG.run]
    split
    · exact h
    · rename_i hl
      obtain ⟨s, hs⟩ := Option.isSome_iff_exists.1 (hg.2.2 _ (minL_mem hl))
      have hb := hg.1 _ (SG.at_mem hs)
      exact run_w hf ht k (SG.pull_ok hg hl hf ht fs cs fn).1 (step_w hf hb.1 (.inl h))
theorem slot_more {m : Nat} {f : FN} {n : Int} (h : slotV f n = true) : slotV (moreS m f) n = true := by
  have := of_decide_eq_true h
  refine decide_eq_true ?_
  show 0 ≤ n ∧ n < f.s + m
  omega
theorem numbers_more {m : Nat} {f : FN} {fn : Nat} {fr tt : Int} {x : IN} (h : numbersV f fn fr tt x = true) : numbersV (moreS m f) fn fr tt x = true := by
  unfold numbersV at h ⊢
  repeat' split at h
  all_goals simp_all [slot_more]
theorem getD_more (m : Nat) (fs : List FN) (k : Nat) (hk : k < fs.length) : (fs.map (moreS m)).getD k zF = moreS m (fs.getD k zF) := by
  rw [List.getD, List.getD, List.getElem?_map, List.getElem?_eq_getElem hk]; rfl
theorem takes_more {m : Nat} {fs : List FN} {x : IN} : takesV (fs.map (moreS m)) x = takesV fs x := by
  unfold takesV
  split
  · by_cases hk : x.a.toNat < fs.length
    · rw [getD_more m fs _ hk]; rfl
    · rw [List.getD, List.getD, List.getElem?_eq_none (by simpa using hk), List.getElem?_eq_none (by simpa using hk)]
  · rfl
theorem fits_slots {m : Nat} {fs : List FN} {fn : Nat} {fr tt : Int} {x : IN} {s : SS} (hfn : fn < fs.length) (h : fitsV fs fn fr tt x s = true) : fitsV (fs.map (moreS m)) fn fr tt x s = true := by
  unfold fitsV at h ⊢
  rw [takes_more, getD_more m fs fn hfn, List.length_map]
  split at h
  · cases h
  · rename_i h1
    have hn : numbersV (fs.getD fn zF) fn fr tt x = true := by
      cases hv : numbersV (fs.getD fn zF) fn fr tt x with
      | true => rfl
      | false => exact absurd (.inl hv) h1
    rw [if_neg (fun hq => by
      rcases hq with hq | hq
      · rw [numbers_more hn] at hq; cases hq
      · exact h1 (.inr hq))]
    exact h
theorem run_slots {m : Nat} {fs : List FN} {cs : List IN} {fn : Nat} {fr tt : Int} (hfn : fn < fs.length) (hf : 0 ≤ fr) (ht : tt ≤ cs.length) : ∀ (k : Nat) {g : SG}, g.Ok cs.length → (SG.run fs cs fn fr tt k g).w < 0 → SG.run (fs.map (moreS m)) cs fn fr tt k g = SG.run fs cs fn fr tt k g
  | 0, _, _, _ => rfl
  | k + 1, g, hg, h => by
    rw [SG.run] at h
    rw [SG.run, SG.run]
    split
    · rfl
    · rename_i hl
      rw [if_neg hl] at h
      obtain ⟨s, hs⟩ := Option.isSome_iff_exists.1 (hg.2.2 _ (minL_mem hl))
      have hb := hg.1 _ (SG.at_mem hs)
      have hok := (SG.pull_ok hg hl hf ht fs cs fn).1
      have hpw : (SG.pull fs cs fn fr tt g).w < 0 := by
        rcases Int.lt_or_le (SG.pull fs cs fn fr tt g).w 0 with hw | hw
        · exact hw
        · have := run_w (fs := fs) (fn := fn) hf ht k hok hw
          omega
      have e : SG.pull (fs.map (moreS m)) cs fn fr tt g = SG.pull fs cs fn fr tt g := by
        have hfit : fitsV fs fn fr tt (cs.getD (minL g.lf).toNat zI) ((SG.at { g with lf := g.lf.filter fun k => !decide (k = minL g.lf) } (minL g.lf)).getD ⟨0, [], false, false⟩) = true := by
          cases hv : fitsV fs fn fr tt (cs.getD (minL g.lf).toNat zI) ((SG.at { g with lf := g.lf.filter fun k => !decide (k = minL g.lf) } (minL g.lf)).getD ⟨0, [], false, false⟩) with
          | true => rfl
          | false =>
            have : 0 ≤ (SG.pull fs cs fn fr tt g).w := step_w hf hb.1 (.inr hv)
            omega
        have hfit2 := fits_slots (m := m) hfn hfit
        unfold SG.pull SG.step
        dsimp only at hfit hfit2 ⊢
        rw [hfit, hfit2]
        have hn : ∀ x t, nextV (fs.map (moreS m)) x t = nextV fs x t := fun x t => by unfold nextV; rw [takes_more]
        rw [hn]
      rw [e]
      exact run_slots hfn hf ht k hok h
theorem to_more (m : Nat) (fs : List FN) (cs : List IN) (fn : Nat) : toV (fs.map (moreS m)) cs fn = toV fs cs fn := by
  unfold toV
  rw [List.length_map]
  split
  · rename_i h
    rw [getD_more m fs _ h]; rfl
  · rfl
theorem function_slots {m : Nat} {fs : List FN} {cs : List IN} (hfs : okFrames fs cs = true) {fn : Nat} (hfn : fn < fs.length) (hw : (functionV fs cs fn).1 < 0) : functionV (fs.map (moreS m)) cs fn = functionV fs cs fn := by
  have h1 : framesV fs cs.length 0 (-1) true = true := by unfold okFrames at hfs; rw [Bool.and_eq_true] at hfs; exact hfs.1
  have hs := framesV_spec h1 (Int.le_refl _) (Int.le_refl _) (by decide)
  have hx : fs[fn]? = some fs[fn] := List.getElem?_eq_getElem hfn
  have hb := hs fn _ hx
  have hg : fs.getD fn zF = fs[fn] := by rw [List.getD, hx]; rfl
  have hto : toV fs cs fn ≤ cs.length := by
    unfold toV
    split
    · rename_i hl
      have hx2 : fs[fn + 1]? = some fs[fn + 1] := List.getElem?_eq_getElem hl
      have := hs _ _ hx2
      rw [List.getD, hx2]
      show fs[fn + 1].e ≤ _
      omega
    · exact Int.le_refl _
  obtain ⟨q1, q2⟩ := SG.start_ok (n := cs.length) (fr := fs[fn].e) ⟨by omega, by omega⟩
  unfold functionV at hw ⊢
  rw [getD_more m fs fn hfn, hg, to_more, show (moreS m fs[fn]).e = fs[fn].e from rfl]
  rw [hg] at hw
  rw [run_slots hfn (by omega) hto _ q1 hw]
theorem bad_none {fs : List FN} {cs : List IN} : ∀ {n i : Nat}, badV fs cs n i = none → ∀ k, i ≤ k → k < i + n → (functionV fs cs k).1 < 0
  | 0, i, _, k, h1, h2 => by omega
  | n + 1, i, h, k, h1, h2 => by
    rw [badV] at h
    split at h
    · cases h
    · rename_i hno
      by_cases hk : k = i
      · subst hk; omega
      · exact bad_none h k (by omega) (by omega)
theorem check_ok {fs : List FN} {cs : List IN} (h : (checkV fs cs).2 = 0) : okFrames fs cs = true ∧ checkV fs cs = (0, 0) ∧ ∀ k, k < fs.length → (functionV fs cs k).1 < 0 := by
  unfold checkV at h ⊢
  split at h
  · cases h
  · rename_i hok
    rw [if_neg hok]
    cases hb : badV fs cs fs.length 0 with
    | some i => rw [hb] at h; cases h
    | none => exact ⟨by simpa using hok, rfl, fun k hk => bad_none hb k (Nat.zero_le _) (by omega)⟩
theorem check_slots {fs : List FN} {cs : List IN} (h : (checkV fs cs).2 = 0) (m : Nat) : (4096 < sumS (fs.map (moreS m)) → checkV (fs.map (moreS m)) cs = (0, 2)) ∧
    (sumS (fs.map (moreS m)) ≤ 4096 → checkV (fs.map (moreS m)) cs = (0, 0) ∧ deepestV (fs.map (moreS m)) cs 0 = deepestV fs cs 0) := by
  obtain ⟨h1, h2, h3⟩ := check_ok h
  have hfr : framesV fs cs.length 0 (-1) true = true ∧ fs ≠ [] := by
    unfold okFrames at h1
    rw [Bool.and_eq_true] at h1
    exact ⟨h1.1, of_decide_eq_true h1.2⟩
  constructor
  · intro hs
    have : okFrames (fs.map (moreS m)) cs = false := by
      cases hv : okFrames (fs.map (moreS m)) cs with
      | false => rfl
      | true =>
        unfold okFrames at hv
        rw [Bool.and_eq_true] at hv
        have := (frames_sum hv.1).2 (by decide)
        omega
    unfold checkV
    rw [if_pos this]
  · intro hs
    have hok : okFrames (fs.map (moreS m)) cs = true := by
      unfold okFrames
      rw [frames_slots m hfr.1 (by omega)]
      simp [hfr.2]
    have hfn : ∀ k, k < fs.length → functionV (fs.map (moreS m)) cs k = functionV fs cs k := fun k hk => function_slots h1 hk (h3 k hk)
    have hb : badV (fs.map (moreS m)) cs fs.length 0 = badV fs cs fs.length 0 := bad_same fun k hk => by rw [hfn k (by omega)]
    have hck : checkV (fs.map (moreS m)) cs = (0, 0) := by
      rw [← h2]
      unfold checkV
      rw [hok, h1, List.length_map, hb]
    refine ⟨hck, ?_⟩
    have hl : 0 < fs.length := List.length_pos_iff.2 hfr.2
    unfold deepestV
    have hno : ¬ (((0, 0) : Int × Nat).2 ≠ 0 ∨ (0 : Int) < 0 ∨ (fs.length : Int) ≤ 0) := by
      intro hq
      rcases hq with hq | hq | hq
      · exact hq rfl
      · omega
      · omega
    rw [hck, h2, List.length_map, if_neg hno, if_neg hno]
    show (functionV _ cs 0).2 = _
    rw [hfn 0 hl]; rfl
end Go.Proofs.YtgfmbkbiingagaaDoor

namespace Go.Proofs.YtgfmbkbiingagaaDoor
set_option linter.unusedVariables false
set_option linter.unusedSimpArgs false
open Go.RowKit
set_option maxRecDepth 100000

/-- Calls of programs, Check and Deepest by the rows that they make, and read. -/
def ΓD : Glob := { ΓC with kr := [5, 7, 8] }
theorem CallsA.gD' {f : FuncId} {xs : List T1} {r : TV} (h : CallsA Tryd.prog ΓH f xs r) : CallsA Tryd.prog ΓD f xs r := ⟨h.1, h.2⟩
theorem CallsA.ofD {f : FuncId} {xs : List T1} {r : TV} (h : CallsA Tryd.prog ΓD f xs r) : CallsA Tryd.prog ΓC f xs r := ⟨h.1, h.2⟩
set_option maxHeartbeats 4000000 in
theorem programsM_c (fs : List FN) (l : List IN) (hf : fs.length ≤ 9223372036854775807) (hl : l.length ≤ 9223372036854775807) :
    CallsM Tryd.prog Γ0 5 [] 0 [c1 (.sl 3 (fs.map fnD)), c1 (.sl 4 (l.map inD))] (.tup [.g [.row 0, .row 1], .g [.row 2, .row 3]]) [] [.row 3 41 ((fs.take 10).map fnD), .row 4 36 ((l.take 60).map inD), .row 3 TF3 ((fs.take 10).map fnD), .row 4 TRi ((l.take 60).map inD)] := by
  have hcut : ∀ (α : Type) (k : Nat) (l : List α) (f : α → List D), ((l.map f).take ((min k l.length : Nat) : Int).toNat).drop (0 : Int).toNat = (l.take k).map f := fun α k l f => by
    rw [Int.toNat_natCast, show (0 : Int).toNat = 0 from rfl, List.drop_zero, ← List.map_take, ← List.take_eq_take_min]
  have hF := hcut FN 10 fs fnD
  have hL := hcut IN 60 l inD
  have hfm : (fs.map fnD).length = fs.length := List.length_map _
  have hlm : (l.map inD).length = l.length := List.length_map _
  have hF10 : (fs.take 10).length ≤ 10 := by rw [List.length_take]; omega
  have hL60 : (l.take 60).length ≤ 60 := by rw [List.length_take]; omega
  have hFm : ((fs.take 10).map fnD).length = (fs.take 10).length := List.length_map _
  have hLm : ((l.take 60).map inD).length = (l.take 60).length := List.length_map _
  refine fn_ruleR (C := ⟨Tryd.prog, layF, Tryd.f5.ntmps, Γ0, 0, [], []⟩) layF_ok mixed Tryd.func5 rfl (by kernel_rfl) rfl rfl rfl ?_
  repeat' (first | refine ex_true (by first | decide | omega | assumption | (with_reducible exact rfl)) ?_ | refine ex_false (by first | decide | omega | assumption | exact (fun h => h rfl)) ?_ | refine ex_dec (fun _ => ?_) (fun _ => ?_) | refine ex_u8 _ rfl (by omega) (by omega) ?_ | refine ex_i64 _ rfl (by omega) (by omega) ?_ | refine ex_u64 _ rfl (by omega) (by omega) ?_ | refine and_mk (by first | omega | (with_reducible rfl) | (show drawOk _ _ _ = true; kernel_rfl)) ?_ | refine and_mk ⟨_, rfl⟩ ?_ | refine ex_is _ (List.length_map _) ?_ | refine ex_is _ List.length_nil ?_ | fail "no step")
  refine ex_is ((min 10 fs.length : Nat) : Int) (by split <;> omega) ?_
  repeat' (first | refine ex_true (by first | decide | omega | assumption | (with_reducible exact rfl)) ?_ | refine ex_false (by first | decide | omega | assumption | exact (fun h => h rfl)) ?_ | refine ex_dec (fun _ => ?_) (fun _ => ?_) | refine ex_u8 _ rfl (by omega) (by omega) ?_ | refine ex_i64 _ rfl (by omega) (by omega) ?_ | refine ex_u64 _ rfl (by omega) (by omega) ?_ | refine and_mk (by first | omega | (with_reducible rfl) | (show drawOk _ _ _ = true; kernel_rfl)) ?_ | refine and_mk ⟨_, rfl⟩ ?_ | refine ex_is _ (List.length_map _) ?_ | refine ex_is _ List.length_nil ?_ | fail "no step")
  refine ex_is _ hF ?_
  generalize fs.take 10 = F at *
  repeat' (first | refine (ex_is _ hFm) ?_ | refine ex_true (by first | decide | omega | assumption | (with_reducible exact rfl)) ?_ | refine ex_false (by first | decide | omega | assumption | exact (fun h => h rfl)) ?_ | refine ex_dec (fun _ => ?_) (fun _ => ?_) | refine ex_u8 _ rfl (by omega) (by omega) ?_ | refine ex_i64 _ rfl (by omega) (by omega) ?_ | refine ex_u64 _ rfl (by omega) (by omega) ?_ | refine and_mk (by first | omega | (with_reducible rfl) | (show drawOk _ _ _ = true; kernel_rfl)) ?_ | refine and_mk ⟨_, rfl⟩ ?_ | refine ex_is _ (List.length_map _) ?_ | refine ex_is _ List.length_nil ?_ | fail "no step")
  refine ex_loop (X := Nat × List FN) (fun ⟨q, A⟩ => ⟨[(1, .o (c1 (.sl 4 (l.map inD)))), (4, .o (.c (.ptr 0 0))), (5, .o (.c (.ptr 1 0))), (6, .o (.c (.ptr 2 0))), (7, .o (.c (.ptr 3 0))), (16, .o (c1 (.sl 3 (F.map fnD)))), (17, Ti F.length), (18, Ti q)], [(0, .obj [.d dnil, .d dnil]), (1, .obj [.d dnil, .d dnil]), (2, .obj [.row 4, .d dnil]), (3, .obj [.row 5, .d dnil]), (4, .row 3 41 (A.map fnD)), (5, .row 3 TF3 (A.map fnD))], 6⟩) (fun x => F.length - x.1) (fun ⟨q, A⟩ => q ≤ F.length ∧ A = F.take q) (0, []) ⟨Nat.zero_le _, rfl⟩ (SLe.trans (SLe.of ⟨⟨rfl, rfl, rfl, rfl, rfl, rfl, rfl, rfl, trivial⟩, ⟨rfl, rfl, rfl, rfl, rfl, rfl, trivial⟩⟩) (SLe.trans (SLe.ownCell 3 0 5 3 TF3 rfl rfl rfl rfl rfl rfl) (SLe.ownCell 2 0 4 3 41 rfl rfl rfl rfl rfl rfl))) ?_
  rintro ⟨q, A⟩ ⟨hq, hA⟩
  refine ex_dec (fun h => ?_) (fun h => ?_)
  · have hql : q < F.length := by omega
    have hc : F[q]? = some F[q] := at_some hql
    have htk : F.take (q + 1) = F.take q ++ [F[q]] := by rw [List.take_add_one, hc]; rfl
    have htl : A.length = q := by rw [hA, List.length_take]; omega
    have hap : A.map fnD ++ [fnD F[q]] = (F.take (q + 1)).map fnD := by rw [htk, List.map_append, hA]; rfl
    generalize F[q] = f at *
    repeat' (first | refine (ex_row q f rfl hc) ?_ | refine ex_true (by first | decide | omega | assumption | (with_reducible exact rfl)) ?_ | refine ex_false (by first | decide | omega | assumption | exact (fun h => h rfl)) ?_ | refine ex_dec (fun _ => ?_) (fun _ => ?_) | refine ex_u8 _ rfl (by omega) (by omega) ?_ | refine ex_i64 _ rfl (by omega) (by omega) ?_ | refine ex_u64 _ rfl (by omega) (by omega) ?_ | refine and_mk (by first | omega | (with_reducible rfl) | (show drawOk _ _ _ = true; kernel_rfl)) ?_ | refine and_mk ⟨_, rfl⟩ ?_ | refine ex_is _ (List.length_map _) ?_ | refine ex_is _ List.length_nil ?_ | fail "no step")
    refine ex_app (q) (1) 1000 (by first | rfl | (simp; done) | (simp; omega)) (by first | rfl | (simp; done) | (simp; omega)) rfl (by omega) ?_
    refine ex_is _ hap ?_
    repeat' (first | refine ex_true (by first | decide | omega | assumption | (with_reducible exact rfl)) ?_ | refine ex_false (by first | decide | omega | assumption | exact (fun h => h rfl)) ?_ | refine ex_dec (fun _ => ?_) (fun _ => ?_) | refine ex_u8 _ rfl (by omega) (by omega) ?_ | refine ex_i64 _ rfl (by omega) (by omega) ?_ | refine ex_u64 _ rfl (by omega) (by omega) ?_ | refine and_mk (by first | omega | (with_reducible rfl) | (show drawOk _ _ _ = true; kernel_rfl)) ?_ | refine and_mk ⟨_, rfl⟩ ?_ | refine ex_is _ (List.length_map _) ?_ | refine ex_is _ List.length_nil ?_ | fail "no step")
    refine ex_app (q) (1) 1000 (by first | rfl | (simp; done) | (simp; omega)) (by first | rfl | (simp; done) | (simp; omega)) rfl (by omega) ?_
    refine ex_is _ hap ?_
    repeat' (first | refine ex_i64 ((q + 1 : Nat) : Int) (by omega) (by omega) (by omega) ?_ | refine ex_u64 ((q + 1 : Nat) : Int) (by omega) (by omega) (by omega) ?_ | refine ex_u8 ((q + 1 : Nat) : Int) (by omega) (by omega) (by omega) ?_ | refine ex_true (by first | decide | omega | assumption | (with_reducible exact rfl)) ?_ | refine ex_false (by first | decide | omega | assumption | exact (fun h => h rfl)) ?_ | refine ex_dec (fun _ => ?_) (fun _ => ?_) | refine ex_u8 _ rfl (by omega) (by omega) ?_ | refine ex_i64 _ rfl (by omega) (by omega) ?_ | refine ex_u64 _ rfl (by omega) (by omega) ?_ | refine and_mk (by first | omega | (with_reducible rfl) | (show drawOk _ _ _ = true; kernel_rfl)) ?_ | refine and_mk ⟨_, rfl⟩ ?_ | refine ex_is _ (List.length_map _) ?_ | refine ex_is _ List.length_nil ?_ | fail "no step")
    exact ex_round (q + 1, F.take (q + 1)) ⟨by omega, rfl⟩ (by show _ - _ < _ - _; omega) (SLe.ren [(0, 0), (1, 1), (2, 2), (3, 3), (8, 4), (10, 5)] ⟨⟨rfl, rfl⟩, ⟨rfl, rfl⟩, ⟨rfl, rfl⟩, ⟨rfl, rfl⟩, ⟨rfl, rfl⟩, ⟨rfl, rfl⟩, ⟨rfl, rfl⟩, ⟨rfl, rfl⟩, trivial⟩ ⟨⟨rfl, rfl⟩, ⟨rfl, rfl⟩, ⟨rfl, rfl⟩, ⟨rfl, rfl⟩, ⟨rfl, rfl⟩, ⟨rfl, rfl⟩, trivial⟩ rfl)
  · have hq9 : q = F.length := by omega
    subst hq9
    rw [List.take_length] at hA
    subst hA
    repeat' (first | refine ex_true (by first | decide | omega | assumption | (with_reducible exact rfl)) ?_ | refine ex_false (by first | decide | omega | assumption | exact (fun h => h rfl)) ?_ | refine ex_dec (fun _ => ?_) (fun _ => ?_) | refine ex_u8 _ rfl (by omega) (by omega) ?_ | refine ex_i64 _ rfl (by omega) (by omega) ?_ | refine ex_u64 _ rfl (by omega) (by omega) ?_ | refine and_mk (by first | omega | (with_reducible rfl) | (show drawOk _ _ _ = true; kernel_rfl)) ?_ | refine and_mk ⟨_, rfl⟩ ?_ | refine ex_is _ (List.length_map _) ?_ | refine ex_is _ List.length_nil ?_ | fail "no step")
    refine ex_is ((min 60 l.length : Nat) : Int) (by split <;> omega) ?_
    repeat' (first | refine ex_true (by first | decide | omega | assumption | (with_reducible exact rfl)) ?_ | refine ex_false (by first | decide | omega | assumption | exact (fun h => h rfl)) ?_ | refine ex_dec (fun _ => ?_) (fun _ => ?_) | refine ex_u8 _ rfl (by omega) (by omega) ?_ | refine ex_i64 _ rfl (by omega) (by omega) ?_ | refine ex_u64 _ rfl (by omega) (by omega) ?_ | refine and_mk (by first | omega | (with_reducible rfl) | (show drawOk _ _ _ = true; kernel_rfl)) ?_ | refine and_mk ⟨_, rfl⟩ ?_ | refine ex_is _ (List.length_map _) ?_ | refine ex_is _ List.length_nil ?_ | fail "no step")
    refine ex_is _ hL ?_
    generalize l.take 60 = G at *
    repeat' (first | refine (ex_is _ hLm) ?_ | refine ex_true (by first | decide | omega | assumption | (with_reducible exact rfl)) ?_ | refine ex_false (by first | decide | omega | assumption | exact (fun h => h rfl)) ?_ | refine ex_dec (fun _ => ?_) (fun _ => ?_) | refine ex_u8 _ rfl (by omega) (by omega) ?_ | refine ex_i64 _ rfl (by omega) (by omega) ?_ | refine ex_u64 _ rfl (by omega) (by omega) ?_ | refine and_mk (by first | omega | (with_reducible rfl) | (show drawOk _ _ _ = true; kernel_rfl)) ?_ | refine and_mk ⟨_, rfl⟩ ?_ | refine ex_is _ (List.length_map _) ?_ | refine ex_is _ List.length_nil ?_ | fail "no step")
    refine ex_loop (X := Nat × List IN) (fun ⟨q, B⟩ => ⟨[(4, .o (.c (.ptr 0 0))), (5, .o (.c (.ptr 1 0))), (6, .o (.c (.ptr 2 0))), (7, .o (.c (.ptr 3 0))), (45, .o (c1 (.sl 4 (G.map inD)))), (46, Ti G.length), (47, Ti q)], [(0, .obj [.d dnil, .d dnil]), (1, .obj [.d dnil, .d dnil]), (2, .obj [.row 4, .row 6]), (3, .obj [.row 5, .row 7]), (4, .row 3 41 (A.map fnD)), (5, .row 3 TF3 (A.map fnD)), (6, .row 4 36 (B.map inD)), (7, .row 4 TRi (B.map inD))], 8⟩) (fun x => G.length - x.1) (fun ⟨q, B⟩ => q ≤ G.length ∧ B = G.take q) (0, []) ⟨Nat.zero_le _, rfl⟩ (SLe.trans (SLe.of ⟨⟨rfl, rfl, rfl, rfl, rfl, rfl, rfl, trivial⟩, ⟨rfl, rfl, rfl, rfl, rfl, rfl, rfl, rfl, trivial⟩⟩) (SLe.trans (SLe.ownCell 3 1 7 4 TRi rfl rfl rfl rfl rfl rfl) (SLe.ownCell 2 1 6 4 36 rfl rfl rfl rfl rfl rfl))) ?_
    rintro ⟨q, B⟩ ⟨hq, hB⟩
    refine ex_dec (fun h => ?_) (fun h => ?_)
    · have hql : q < G.length := by omega
      have hc : G[q]? = some G[q] := at_some hql
      have htk : G.take (q + 1) = G.take q ++ [G[q]] := by rw [List.take_add_one, hc]; rfl
      have htl : B.length = q := by rw [hB, List.length_take]; omega
      have hap : B.map inD ++ [inD G[q]] = (G.take (q + 1)).map inD := by rw [htk, List.map_append, hB]; rfl
      generalize G[q] = x at *
      repeat' (first | refine (ex_row q x rfl hc) ?_ | refine ex_true (by first | decide | omega | assumption | (with_reducible exact rfl)) ?_ | refine ex_false (by first | decide | omega | assumption | exact (fun h => h rfl)) ?_ | refine ex_dec (fun _ => ?_) (fun _ => ?_) | refine ex_u8 _ rfl (by omega) (by omega) ?_ | refine ex_i64 _ rfl (by omega) (by omega) ?_ | refine ex_u64 _ rfl (by omega) (by omega) ?_ | refine and_mk (by first | omega | (with_reducible rfl) | (show drawOk _ _ _ = true; kernel_rfl)) ?_ | refine and_mk ⟨_, rfl⟩ ?_ | refine ex_is _ (List.length_map _) ?_ | refine ex_is _ List.length_nil ?_ | fail "no step")
      refine ex_app (q) (1) 1000 (by first | rfl | (simp; done) | (simp; omega)) (by first | rfl | (simp; done) | (simp; omega)) rfl (by omega) ?_
      refine ex_is _ hap ?_
      repeat' (first | refine ex_true (by first | decide | omega | assumption | (with_reducible exact rfl)) ?_ | refine ex_false (by first | decide | omega | assumption | exact (fun h => h rfl)) ?_ | refine ex_dec (fun _ => ?_) (fun _ => ?_) | refine ex_u8 _ rfl (by omega) (by omega) ?_ | refine ex_i64 _ rfl (by omega) (by omega) ?_ | refine ex_u64 _ rfl (by omega) (by omega) ?_ | refine and_mk (by first | omega | (with_reducible rfl) | (show drawOk _ _ _ = true; kernel_rfl)) ?_ | refine and_mk ⟨_, rfl⟩ ?_ | refine ex_is _ (List.length_map _) ?_ | refine ex_is _ List.length_nil ?_ | fail "no step")
      refine ex_app (q) (1) 1000 (by first | rfl | (simp; done) | (simp; omega)) (by first | rfl | (simp; done) | (simp; omega)) rfl (by omega) ?_
      refine ex_is _ hap ?_
      repeat' (first | refine ex_i64 ((q + 1 : Nat) : Int) (by omega) (by omega) (by omega) ?_ | refine ex_u64 ((q + 1 : Nat) : Int) (by omega) (by omega) (by omega) ?_ | refine ex_u8 ((q + 1 : Nat) : Int) (by omega) (by omega) (by omega) ?_ | refine ex_true (by first | decide | omega | assumption | (with_reducible exact rfl)) ?_ | refine ex_false (by first | decide | omega | assumption | exact (fun h => h rfl)) ?_ | refine ex_dec (fun _ => ?_) (fun _ => ?_) | refine ex_u8 _ rfl (by omega) (by omega) ?_ | refine ex_i64 _ rfl (by omega) (by omega) ?_ | refine ex_u64 _ rfl (by omega) (by omega) ?_ | refine and_mk (by first | omega | (with_reducible rfl) | (show drawOk _ _ _ = true; kernel_rfl)) ?_ | refine and_mk ⟨_, rfl⟩ ?_ | refine ex_is _ (List.length_map _) ?_ | refine ex_is _ List.length_nil ?_ | fail "no step")
      exact ex_round (q + 1, G.take (q + 1)) ⟨by omega, rfl⟩ (by show _ - _ < _ - _; omega) (SLe.ren [(0, 0), (1, 1), (2, 2), (3, 3), (4, 4), (5, 5), (10, 6), (12, 7)] ⟨⟨rfl, rfl⟩, ⟨rfl, rfl⟩, ⟨rfl, rfl⟩, ⟨rfl, rfl⟩, ⟨rfl, rfl⟩, ⟨rfl, rfl⟩, ⟨rfl, rfl⟩, trivial⟩ ⟨⟨rfl, rfl⟩, ⟨rfl, rfl⟩, ⟨rfl, rfl⟩, ⟨rfl, rfl⟩, ⟨rfl, rfl⟩, ⟨rfl, rfl⟩, ⟨rfl, rfl⟩, ⟨rfl, rfl⟩, trivial⟩ rfl)
    · have hq9 : q = G.length := by omega
      subst hq9
      rw [List.take_length] at hB
      subst hB
      repeat' (first | refine ex_true (by first | decide | omega | assumption | (with_reducible exact rfl)) ?_ | refine ex_false (by first | decide | omega | assumption | exact (fun h => h rfl)) ?_ | refine ex_dec (fun _ => ?_) (fun _ => ?_) | refine ex_u8 _ rfl (by omega) (by omega) ?_ | refine ex_i64 _ rfl (by omega) (by omega) ?_ | refine ex_u64 _ rfl (by omega) (by omega) ?_ | refine and_mk (by first | omega | (with_reducible rfl) | (show drawOk _ _ _ = true; kernel_rfl)) ?_ | refine and_mk ⟨_, rfl⟩ ?_ | refine ex_is _ (List.length_map _) ?_ | refine ex_is _ List.length_nil ?_ | fail "no step")
      exact ⟨rfl, rfl, TLe.rfl, rfl, rfl⟩
abbrev TFn' : TypeId := 41
abbrev TIn' : TypeId := 36
theorem checkM {fs : List FN} {cs : List IN} (hf : fs.length ≤ 64) (hc : cs.length ≤ 8192) (i j nx : Nat) (hij : i ≠ j) : CallsM Tryd.prog ΓD 7 [(i, .row 3 TFn' (fs.map fnD)), (j, .row 4 TIn' (cs.map inD))] nx [.g [.row i, .row j]] (.tup [c1 (di (checkV fs cs).1), c1 (di (checkV fs cs).2)]) [(i, .row 3 TFn' (fs.map fnD)), (j, .row 4 TIn' (cs.map inD))] [] :=
  (check_c hf hc).gD'.lend (ks := [i, j]) rfl _ nx (by
    intro p hp
    rcases List.mem_cons.1 hp with rfl | hp
    · simp [findL]
    · obtain rfl := List.mem_singleton.1 hp
      simp [findL, hij]) (by simp [eatT, eat1, eat, findL, hij])
set_option maxHeartbeats 4000000 in
theorem checkDead_c (fs : List FN) (l ds : List IN) (hf : fs.length ≤ 9223372036854775807) (hl : l.length ≤ 9223372036854775807) (hd : ds.length ≤ 9223372036854775807) :
    CallsA Tryd.prog ΓD 3 [c1 (.sl 3 (fs.map fnD)), c1 (.sl 4 (l.map inD)), c1 (.sl 4 (ds.map inD))] (Tb true) := by
  have hp1 := (programsM_c fs l hf hl).of0 (Γ := ΓD)
  have hp2 := (((programsM_c [] ds (Nat.zero_le _) hd).arg1 (d := dnil) DLe.nil).of0 (Γ := ΓD)).ren [] 8 rfl rfl rfl rfl
  have hw := wakes_c.gD'
  have h1 : (fs.take 10).length ≤ 10 := by rw [List.length_take]; omega
  have h2 : (l.take 60).length ≤ 60 := by rw [List.length_take]; omega
  have h3 : (ds.take 60).length ≤ 60 := by rw [List.length_take]; omega
  generalize fs.take 10 = F at *
  generalize l.take 60 = L at *
  generalize ds.take 60 = D at *
  have hLm : (L.map inD).length = L.length := List.length_map _
  refine fn_rule (C := ⟨Tryd.prog, layF, Tryd.f3.ntmps, ΓD, 0, [], [6]⟩) layF_ok mixed Tryd.func3 rfl (by kernel_rfl) rfl rfl rfl ?_
  repeat' (first | refine ex_true (by first | decide | omega | assumption | (with_reducible exact rfl)) ?_ | refine ex_false (by first | decide | omega | assumption | exact (fun h => h rfl)) ?_ | refine ex_dec (fun _ => ?_) (fun _ => ?_) | refine ex_u8 _ rfl (by omega) (by omega) ?_ | refine ex_i64 _ rfl (by omega) (by omega) ?_ | refine ex_u64 _ rfl (by omega) (by omega) ?_ | refine and_mk (by first | omega | (with_reducible rfl) | (show drawOk _ _ _ = true; kernel_rfl)) ?_ | refine and_mk ⟨_, rfl⟩ ?_ | refine ex_is _ (List.length_map _) ?_ | refine ex_is _ List.length_nil ?_ | fail "no step")
  refine ex_callM hp1 ?_
  repeat' (first | refine (ex_is _ hLm) ?_ | refine ex_true (by first | decide | omega | assumption | (with_reducible exact rfl)) ?_ | refine ex_false (by first | decide | omega | assumption | exact (fun h => h rfl)) ?_ | refine ex_dec (fun _ => ?_) (fun _ => ?_) | refine ex_u8 _ rfl (by omega) (by omega) ?_ | refine ex_i64 _ rfl (by omega) (by omega) ?_ | refine ex_u64 _ rfl (by omega) (by omega) ?_ | refine and_mk (by first | omega | (with_reducible rfl) | (show drawOk _ _ _ = true; kernel_rfl)) ?_ | refine and_mk ⟨_, rfl⟩ ?_ | refine ex_is _ (List.length_map _) ?_ | refine ex_is _ List.length_nil ?_ | fail "no step")
  refine ex_join (X := List IN) (fun C => ⟨[(2, .o (c1 (.sl 4 (ds.map inD)))), (7, .o (.c (.ptr 4 0))), (9, Ti C.length)], [(0, .row 3 TFn' (F.map fnD)), (1, .row 4 TIn' (C.map inD)), (4, .obj [.row 0, .row 1])], 6⟩) (fun C => C.length ≤ 61 ∧ 0 < C.length ∧ ∀ i x, C[i]? = some x → i + 1 = C.length → x.o = 35) ?_ ?_
  · have hap : L.map inD ++ [[di 35, di 0, di 0, du 0]] = (L ++ [(⟨35, 0, 0, 0⟩ : IN)]).map inD := by simp
    have hal : ((L ++ [(⟨35, 0, 0, 0⟩ : IN)]).length : Int) = L.length + 1 := by rw [List.length_append]; rfl
    have hlast : ∀ i x, (L ++ [(⟨35, 0, 0, 0⟩ : IN)])[i]? = some x → i + 1 = (L ++ [(⟨35, 0, 0, 0⟩ : IN)]).length → x.o = 35 := fun i x hx hi => by
      rw [List.length_append, List.length_cons, List.length_nil] at hi
      obtain rfl : i = L.length := by omega
      rw [List.getElem?_append_right (Nat.le_refl _), Nat.sub_self] at hx
      obtain rfl := Option.some.inj hx
      rfl
    have hpos : (L ++ [(⟨35, 0, 0, 0⟩ : IN)]).length ≤ 61 ∧ 0 < (L ++ [(⟨35, 0, 0, 0⟩ : IN)]).length := by rw [List.length_append, List.length_cons, List.length_nil]; omega
    have add : True := trivial
    by_cases h0 : L.length = 0
    · repeat' (first | refine ex_true (by first | decide | omega | assumption | (with_reducible exact rfl)) ?_ | refine ex_false (by first | decide | omega | assumption | exact (fun h => h rfl)) ?_ | refine ex_dec (fun _ => ?_) (fun _ => ?_) | refine ex_u8 _ rfl (by omega) (by omega) ?_ | refine ex_i64 _ rfl (by omega) (by omega) ?_ | refine ex_u64 _ rfl (by omega) (by omega) ?_ | refine and_mk (by first | omega | (with_reducible rfl) | (show drawOk _ _ _ = true; kernel_rfl)) ?_ | refine and_mk ⟨_, rfl⟩ ?_ | refine ex_is _ (List.length_map _) ?_ | refine ex_is _ List.length_nil ?_ | fail "no step")
      refine ex_app (L.length) (1) 1000 (by first | rfl | (simp; done) | (simp; omega)) (by first | rfl | (simp; done) | (simp; omega)) rfl (by omega) ?_
      refine ex_is _ hap ?_
      repeat' (first | refine ex_i64 ((L ++ [(⟨35, 0, 0, 0⟩ : IN)]).length : Int) (by omega) (by omega) (by omega) ?_ | refine ex_u64 ((L ++ [(⟨35, 0, 0, 0⟩ : IN)]).length : Int) (by omega) (by omega) (by omega) ?_ | refine ex_u8 ((L ++ [(⟨35, 0, 0, 0⟩ : IN)]).length : Int) (by omega) (by omega) (by omega) ?_ | refine ex_true (by first | decide | omega | assumption | (with_reducible exact rfl)) ?_ | refine ex_false (by first | decide | omega | assumption | exact (fun h => h rfl)) ?_ | refine ex_dec (fun _ => ?_) (fun _ => ?_) | refine ex_u8 _ rfl (by omega) (by omega) ?_ | refine ex_i64 _ rfl (by omega) (by omega) ?_ | refine ex_u64 _ rfl (by omega) (by omega) ?_ | refine and_mk (by first | omega | (with_reducible rfl) | (show drawOk _ _ _ = true; kernel_rfl)) ?_ | refine and_mk ⟨_, rfl⟩ ?_ | refine ex_is _ (List.length_map _) ?_ | refine ex_is _ List.length_nil ?_ | fail "no step")
      exact ex_meet (L ++ [(⟨35, 0, 0, 0⟩ : IN)]) ⟨hpos.1, hpos.2, hlast⟩ (SLe.ren [(0, 0), (4, 4), (7, 1)] ⟨⟨rfl, rfl⟩, ⟨rfl, rfl⟩, ⟨rfl, rfl⟩, trivial⟩ ⟨⟨rfl, rfl⟩, ⟨rfl, rfl⟩, ⟨rfl, rfl⟩, trivial⟩ rfl)
    · have hx : L[L.length - 1]? = some (L[L.length - 1]'(by omega)) := at_some (by omega)
      have hql : ((L.length : Int) - 1).toNat < (L.map inD).length := by rw [hLm]; omega
      have hxx : L[((L.length : Int) - 1).toNat]? = some (L[L.length - 1]'(by omega)) := by rw [show ((L.length : Int) - 1).toNat = L.length - 1 by omega, hx]
      have hlast2 : (L[L.length - 1]'(by omega)).o = 35 → ∀ i x, L[i]? = some x → i + 1 = L.length → x.o = 35 := fun h i x hi hl => by
        obtain rfl : i = L.length - 1 := by omega
        rw [hx] at hi
        obtain rfl := Option.some.inj hi
        exact h
      generalize L[L.length - 1]'(by omega) = x at *
      by_cases h35 : x.o = 35
      · repeat' (first | refine (ex_at _ x hxx) ?_ | refine (and_mk hql) ?_ | refine ex_true (by first | decide | omega | assumption | (with_reducible exact rfl)) ?_ | refine ex_false (by first | decide | omega | assumption | exact (fun h => h rfl)) ?_ | refine ex_dec (fun _ => ?_) (fun _ => ?_) | refine ex_u8 _ rfl (by omega) (by omega) ?_ | refine ex_i64 _ rfl (by omega) (by omega) ?_ | refine ex_u64 _ rfl (by omega) (by omega) ?_ | refine and_mk (by first | omega | (with_reducible rfl) | (show drawOk _ _ _ = true; kernel_rfl)) ?_ | refine and_mk ⟨_, rfl⟩ ?_ | refine ex_is _ (List.length_map _) ?_ | refine ex_is _ List.length_nil ?_ | fail "no step")
        exact ex_meet L ⟨by omega, by omega, hlast2 h35⟩ (SLe.of ⟨⟨rfl, rfl, rfl, trivial⟩, ⟨rfl, rfl, rfl, trivial⟩⟩)
      · repeat' (first | refine (ex_at _ x hxx) ?_ | refine (and_mk hql) ?_ | refine ex_true (by first | decide | omega | assumption | (with_reducible exact rfl)) ?_ | refine ex_false (by first | decide | omega | assumption | exact (fun h => h rfl)) ?_ | refine ex_dec (fun _ => ?_) (fun _ => ?_) | refine ex_u8 _ rfl (by omega) (by omega) ?_ | refine ex_i64 _ rfl (by omega) (by omega) ?_ | refine ex_u64 _ rfl (by omega) (by omega) ?_ | refine and_mk (by first | omega | (with_reducible rfl) | (show drawOk _ _ _ = true; kernel_rfl)) ?_ | refine and_mk ⟨_, rfl⟩ ?_ | refine ex_is _ (List.length_map _) ?_ | refine ex_is _ List.length_nil ?_ | fail "no step")
        refine ex_app (L.length) (1) 1000 (by first | rfl | (simp; done) | (simp; omega)) (by first | rfl | (simp; done) | (simp; omega)) rfl (by omega) ?_
        refine ex_is _ hap ?_
        repeat' (first | refine ex_i64 ((L ++ [(⟨35, 0, 0, 0⟩ : IN)]).length : Int) (by omega) (by omega) (by omega) ?_ | refine ex_u64 ((L ++ [(⟨35, 0, 0, 0⟩ : IN)]).length : Int) (by omega) (by omega) (by omega) ?_ | refine ex_u8 ((L ++ [(⟨35, 0, 0, 0⟩ : IN)]).length : Int) (by omega) (by omega) (by omega) ?_ | refine ex_true (by first | decide | omega | assumption | (with_reducible exact rfl)) ?_ | refine ex_false (by first | decide | omega | assumption | exact (fun h => h rfl)) ?_ | refine ex_dec (fun _ => ?_) (fun _ => ?_) | refine ex_u8 _ rfl (by omega) (by omega) ?_ | refine ex_i64 _ rfl (by omega) (by omega) ?_ | refine ex_u64 _ rfl (by omega) (by omega) ?_ | refine and_mk (by first | omega | (with_reducible rfl) | (show drawOk _ _ _ = true; kernel_rfl)) ?_ | refine and_mk ⟨_, rfl⟩ ?_ | refine ex_is _ (List.length_map _) ?_ | refine ex_is _ List.length_nil ?_ | fail "no step")
        exact ex_meet (L ++ [(⟨35, 0, 0, 0⟩ : IN)]) ⟨hpos.1, hpos.2, hlast⟩ (SLe.ren [(0, 0), (4, 4), (7, 1)] ⟨⟨rfl, rfl⟩, ⟨rfl, rfl⟩, ⟨rfl, rfl⟩, trivial⟩ ⟨⟨rfl, rfl⟩, ⟨rfl, rfl⟩, ⟨rfl, rfl⟩, trivial⟩ rfl)
  · rintro C ⟨hC1, hC2, hC3⟩
    have hCm : (C.map inD).length = C.length := List.length_map _
    have hFm : (F.map fnD).length = F.length := List.length_map _
    have hDm : (D.map inD).length = D.length := List.length_map _
    repeat' (first | refine (ex_is _ hCm) ?_ | refine ex_true (by first | decide | omega | assumption | (with_reducible exact rfl)) ?_ | refine ex_false (by first | decide | omega | assumption | exact (fun h => h rfl)) ?_ | refine ex_dec (fun _ => ?_) (fun _ => ?_) | refine ex_u8 _ rfl (by omega) (by omega) ?_ | refine ex_i64 _ rfl (by omega) (by omega) ?_ | refine ex_u64 _ rfl (by omega) (by omega) ?_ | refine and_mk (by first | omega | (with_reducible rfl) | (show drawOk _ _ _ = true; kernel_rfl)) ?_ | refine and_mk ⟨_, rfl⟩ ?_ | refine ex_is _ (List.length_map _) ?_ | refine ex_is _ List.length_nil ?_ | fail "no step")
    refine ex_loop (X := Nat) (fun q => ⟨[(2, .o (c1 (.sl 4 (ds.map inD)))), (7, .o (.c (.ptr 4 0))), (9, Ti C.length), (53, .o (.c (.row 1))), (54, Ti C.length), (55, Ti q)], [(0, .row 3 TFn' (F.map fnD)), (1, .row 4 TIn' (C.map inD)), (4, .obj [.row 0, .row 1])], 6⟩) (fun q => C.length - q) (fun q => q ≤ C.length ∧ ∀ i x, i < q → C[i]? = some x → x.a < C.length ∧ x.b < C.length) 0 ⟨Nat.zero_le _, fun i x h => by omega⟩ (SLe.of ⟨⟨rfl, rfl, rfl, rfl, rfl, rfl, trivial⟩, ⟨rfl, rfl, rfl, trivial⟩⟩) ?_
    rintro q ⟨hq, hin⟩
    by_cases hqC : q < C.length
    · have hx : C[q]? = some C[q] := at_some hqC
      have hql : ((q : Nat) : Int).toNat < (C.map inD).length := by rw [hCm]; omega
      have hin2 : (C[q].a < C.length ∧ C[q].b < C.length) → ∀ i x, i < q + 1 → C[i]? = some x → x.a < C.length ∧ x.b < C.length := fun h i x hi hix => by
        by_cases hiq : i = q
        · subst hiq
          rw [hx] at hix
          obtain rfl := Option.some.inj hix
          exact h
        · exact hin i x (by omega) hix
      generalize C[q] = x at *
      by_cases hab : x.a < C.length ∧ x.b < C.length
      · obtain ⟨ha, hb⟩ := hab
        repeat' (first | refine (ex_at q x hx) ?_ | refine (and_mk hql) ?_ | refine ex_true (by first | decide | omega | assumption | (with_reducible exact rfl)) ?_ | refine ex_false (by first | decide | omega | assumption | exact (fun h => h rfl)) ?_ | refine ex_dec (fun _ => ?_) (fun _ => ?_) | refine ex_u8 _ rfl (by omega) (by omega) ?_ | refine ex_i64 _ rfl (by omega) (by omega) ?_ | refine ex_u64 _ rfl (by omega) (by omega) ?_ | refine and_mk (by first | omega | (with_reducible rfl) | (show drawOk _ _ _ = true; kernel_rfl)) ?_ | refine and_mk ⟨_, rfl⟩ ?_ | refine ex_is _ (List.length_map _) ?_ | refine ex_is _ List.length_nil ?_ | fail "no step")
        exact ex_round (q + 1) ⟨by omega, hin2 ⟨ha, hb⟩⟩ (by show _ - _ < _ - _; omega) (SLe.of ⟨⟨rfl, rfl, rfl, rfl, rfl, rfl, trivial⟩, ⟨rfl, rfl, rfl, trivial⟩⟩)
      · repeat' (first | refine ex_call hw ?_ | refine (ex_at q x hx) ?_ | refine (and_mk hql) ?_ | refine ex_true (by first | decide | omega | assumption | (with_reducible exact rfl)) ?_ | refine ex_false (by first | decide | omega | assumption | exact (fun h => h rfl)) ?_ | refine ex_dec (fun _ => ?_) (fun _ => ?_) | refine ex_u8 _ rfl (by omega) (by omega) ?_ | refine ex_i64 _ rfl (by omega) (by omega) ?_ | refine ex_u64 _ rfl (by omega) (by omega) ?_ | refine and_mk (by first | omega | (with_reducible rfl) | (show drawOk _ _ _ = true; kernel_rfl)) ?_ | refine and_mk ⟨_, rfl⟩ ?_ | refine ex_is _ (List.length_map _) ?_ | refine ex_is _ List.length_nil ?_ | fail "no step")
        all_goals exact TLe.rfl
    · have hin' : ∀ x ∈ C, x.a < C.length ∧ x.b < C.length := fun x hx => by
        obtain ⟨i, hi⟩ := List.getElem?_of_mem hx
        exact hin i x (by have := (List.getElem?_eq_some_iff.1 hi).1; omega) hi
      have hE : EndOk C := ⟨hC3, hin'⟩
      repeat' (first | refine ex_true (by first | decide | omega | assumption | (with_reducible exact rfl)) ?_ | refine ex_false (by first | decide | omega | assumption | exact (fun h => h rfl)) ?_ | refine ex_dec (fun _ => ?_) (fun _ => ?_) | refine ex_u8 _ rfl (by omega) (by omega) ?_ | refine ex_i64 _ rfl (by omega) (by omega) ?_ | refine ex_u64 _ rfl (by omega) (by omega) ?_ | refine and_mk (by first | omega | (with_reducible rfl) | (show drawOk _ _ _ = true; kernel_rfl)) ?_ | refine and_mk ⟨_, rfl⟩ ?_ | refine ex_is _ (List.length_map _) ?_ | refine ex_is _ List.length_nil ?_ | fail "no step")
      refine ex_app (0) (C.length) 1000 (by first | rfl | (simp; done) | (simp; omega)) (by first | rfl | (simp; done) | (simp; omega)) rfl (by omega) ?_
      refine ex_is (C.map inD) rfl ?_
      repeat' (first | refine (ex_is _ hDm) ?_ | refine (ex_callM hp2) ?_ | refine ex_true (by first | decide | omega | assumption | (with_reducible exact rfl)) ?_ | refine ex_false (by first | decide | omega | assumption | exact (fun h => h rfl)) ?_ | refine ex_dec (fun _ => ?_) (fun _ => ?_) | refine ex_u8 _ rfl (by omega) (by omega) ?_ | refine ex_i64 _ rfl (by omega) (by omega) ?_ | refine ex_u64 _ rfl (by omega) (by omega) ?_ | refine and_mk (by first | omega | (with_reducible rfl) | (show drawOk _ _ _ = true; kernel_rfl)) ?_ | refine and_mk ⟨_, rfl⟩ ?_ | refine ex_is _ (List.length_map _) ?_ | refine ex_is _ List.length_nil ?_ | fail "no step")
      refine ex_loop (X := Nat × List IN) (fun ⟨q, B⟩ => ⟨[(7, .o (.c (.ptr 4 0))), (9, Ti C.length), (12, .o (.c (.ptr 7 0))), (83, .o (.c (.row 11))), (84, Ti D.length), (85, Ti q)], [(0, .row 3 TFn' (F.map fnD)), (1, .row 4 TIn' (C.map inD)), (4, .obj [.row 0, .row 1]), (6, .row 4 TIn' (B.map inD)), (7, .obj [.row 0, .row 6]), (11, .row 4 TRi (D.map inD))], 14⟩) (fun x => D.length - x.1) (fun ⟨q, B⟩ => q ≤ D.length ∧ B = C ++ D.take q) (0, C) ⟨Nat.zero_le _, by simp⟩ (SLe.of ⟨⟨rfl, rfl, rfl, rfl, rfl, rfl, trivial⟩, ⟨rfl, rfl, rfl, rfl, rfl, rfl, trivial⟩⟩) ?_
      rintro ⟨q, B⟩ ⟨hq, hB⟩
      by_cases hqD : q < D.length
      · have hx : D[q]? = some D[q] := at_some hqD
        have hql : ((q : Nat) : Int).toNat < (D.map inD).length := by rw [hDm]; omega
        have htk : D.take (q + 1) = D.take q ++ [D[q]] := by rw [List.take_add_one, hx]; rfl
        have hBl : B.length = C.length + q := by rw [hB, List.length_append, List.length_take]; omega
        have hBm : (B.map inD).length = B.length := List.length_map _
        have hap : B.map inD ++ [inD D[q]] = (B ++ [D[q]]).map inD := by simp
        have hB2 : B ++ [D[q]] = C ++ D.take (q + 1) := by rw [htk, hB, List.append_assoc]
        generalize D[q] = x at *
        repeat' (first | refine (ex_at q x hx) ?_ | refine (and_mk hql) ?_ | refine ex_true (by first | decide | omega | assumption | (with_reducible exact rfl)) ?_ | refine ex_false (by first | decide | omega | assumption | exact (fun h => h rfl)) ?_ | refine ex_dec (fun _ => ?_) (fun _ => ?_) | refine ex_u8 _ rfl (by omega) (by omega) ?_ | refine ex_i64 _ rfl (by omega) (by omega) ?_ | refine ex_u64 _ rfl (by omega) (by omega) ?_ | refine and_mk (by first | omega | (with_reducible rfl) | (show drawOk _ _ _ = true; kernel_rfl)) ?_ | refine and_mk ⟨_, rfl⟩ ?_ | refine ex_is _ (List.length_map _) ?_ | refine ex_is _ List.length_nil ?_ | fail "no step")
        refine ex_app (B.length) (1) 1000 (by first | rfl | (simp; done) | (simp; omega)) (by first | rfl | (simp; done) | (simp; omega)) rfl (by omega) ?_
        refine ex_is _ hap ?_
        repeat' (first | refine ex_i64 ((q + 1 : Nat) : Int) (by omega) (by omega) (by omega) ?_ | refine ex_u64 ((q + 1 : Nat) : Int) (by omega) (by omega) (by omega) ?_ | refine ex_u8 ((q + 1 : Nat) : Int) (by omega) (by omega) (by omega) ?_ | refine ex_true (by first | decide | omega | assumption | (with_reducible exact rfl)) ?_ | refine ex_false (by first | decide | omega | assumption | exact (fun h => h rfl)) ?_ | refine ex_dec (fun _ => ?_) (fun _ => ?_) | refine ex_u8 _ rfl (by omega) (by omega) ?_ | refine ex_i64 _ rfl (by omega) (by omega) ?_ | refine ex_u64 _ rfl (by omega) (by omega) ?_ | refine and_mk (by first | omega | (with_reducible rfl) | (show drawOk _ _ _ = true; kernel_rfl)) ?_ | refine and_mk ⟨_, rfl⟩ ?_ | refine ex_is _ (List.length_map _) ?_ | refine ex_is _ List.length_nil ?_ | fail "no step")
        exact ex_round (q + 1, B ++ [x]) ⟨by omega, hB2⟩ (by show _ - _ < _ - _; omega) (SLe.ren [(0, 0), (1, 1), (4, 4), (7, 7), (11, 11), (16, 6)] ⟨⟨rfl, rfl⟩, ⟨rfl, rfl⟩, ⟨rfl, rfl⟩, ⟨rfl, rfl⟩, ⟨rfl, rfl⟩, ⟨rfl, rfl⟩, trivial⟩ ⟨⟨rfl, rfl⟩, ⟨rfl, rfl⟩, ⟨rfl, rfl⟩, ⟨rfl, rfl⟩, ⟨rfl, rfl⟩, ⟨rfl, rfl⟩, trivial⟩ rfl)
      · obtain rfl : q = D.length := by omega
        rw [List.take_length] at hB
        subst hB
        repeat' (first | refine (ex_is _ hFm) ?_ | refine ex_true (by first | decide | omega | assumption | (with_reducible exact rfl)) ?_ | refine ex_false (by first | decide | omega | assumption | exact (fun h => h rfl)) ?_ | refine ex_dec (fun _ => ?_) (fun _ => ?_) | refine ex_u8 _ rfl (by omega) (by omega) ?_ | refine ex_i64 _ rfl (by omega) (by omega) ?_ | refine ex_u64 _ rfl (by omega) (by omega) ?_ | refine and_mk (by first | omega | (with_reducible rfl) | (show drawOk _ _ _ = true; kernel_rfl)) ?_ | refine and_mk ⟨_, rfl⟩ ?_ | refine ex_is _ (List.length_map _) ?_ | refine ex_is _ List.length_nil ?_ | fail "no step")
        refine ex_loop (X := Nat) (fun q => ⟨[(7, .o (.c (.ptr 4 0))), (9, Ti C.length), (12, .o (.c (.ptr 7 0))), (105, .o (.c (.row 0))), (106, Ti F.length), (107, Ti q)], [(0, .row 3 TFn' (F.map fnD)), (1, .row 4 TIn' (C.map inD)), (4, .obj [.row 0, .row 1]), (6, .row 4 TIn' ((C ++ D).map inD)), (7, .obj [.row 0, .row 6])], 14⟩) (fun q => F.length - q) (fun q => q ≤ F.length ∧ ∀ i f, i < q → F[i]? = some f → f.e < C.length) 0 ⟨Nat.zero_le _, fun i x h => by omega⟩ (SLe.of ⟨⟨rfl, rfl, rfl, rfl, rfl, rfl, trivial⟩, ⟨rfl, rfl, rfl, rfl, rfl, trivial⟩⟩) ?_
        rintro q ⟨hq, hfi⟩
        by_cases hqF : q < F.length
        · have hx : F[q]? = some F[q] := at_some hqF
          have hql : ((q : Nat) : Int).toNat < (F.map fnD).length := by rw [hFm]; omega
          have hin2 : F[q].e < C.length → ∀ i f, i < q + 1 → F[i]? = some f → f.e < C.length := fun h i x hi hix => by
            by_cases hiq : i = q
            · subst hiq
              rw [hx] at hix
              obtain rfl := Option.some.inj hix
              exact h
            · exact hfi i x (by omega) hix
          generalize F[q] = f at *
          by_cases hfe : f.e < C.length
          · repeat' (first | refine (ex_at q f hx) ?_ | refine (and_mk hql) ?_ | refine ex_true (by first | decide | omega | assumption | (with_reducible exact rfl)) ?_ | refine ex_false (by first | decide | omega | assumption | exact (fun h => h rfl)) ?_ | refine ex_dec (fun _ => ?_) (fun _ => ?_) | refine ex_u8 _ rfl (by omega) (by omega) ?_ | refine ex_i64 _ rfl (by omega) (by omega) ?_ | refine ex_u64 _ rfl (by omega) (by omega) ?_ | refine and_mk (by first | omega | (with_reducible rfl) | (show drawOk _ _ _ = true; kernel_rfl)) ?_ | refine and_mk ⟨_, rfl⟩ ?_ | refine ex_is _ (List.length_map _) ?_ | refine ex_is _ List.length_nil ?_ | fail "no step")
            exact ex_round (q + 1) ⟨by omega, hin2 hfe⟩ (by show _ - _ < _ - _; omega) (SLe.of ⟨⟨rfl, rfl, rfl, rfl, rfl, rfl, trivial⟩, ⟨rfl, rfl, rfl, rfl, rfl, trivial⟩⟩)
          · repeat' (first | refine ex_call hw ?_ | refine (ex_at q f hx) ?_ | refine (and_mk hql) ?_ | refine ex_true (by first | decide | omega | assumption | (with_reducible exact rfl)) ?_ | refine ex_false (by first | decide | omega | assumption | exact (fun h => h rfl)) ?_ | refine ex_dec (fun _ => ?_) (fun _ => ?_) | refine ex_u8 _ rfl (by omega) (by omega) ?_ | refine ex_i64 _ rfl (by omega) (by omega) ?_ | refine ex_u64 _ rfl (by omega) (by omega) ?_ | refine and_mk (by first | omega | (with_reducible rfl) | (show drawOk _ _ _ = true; kernel_rfl)) ?_ | refine and_mk ⟨_, rfl⟩ ?_ | refine ex_is _ (List.length_map _) ?_ | refine ex_is _ List.length_nil ?_ | fail "no step")
            exact TLe.rfl
        · have hfs : ∀ f ∈ F, f.e < C.length := fun f hf => by
            obtain ⟨i, hi⟩ := List.getElem?_of_mem hf
            exact hfi i f (by have := (List.getElem?_eq_some_iff.1 hi).1; omega) hi
          have hck := check_more (ds := D) hE hfs
          have hk1 := checkM (fs := F) (cs := C) (by omega) (by omega) 0 1 14 (by decide)
          have hk2 := checkM (fs := F) (cs := C ++ D) (by omega) (by rw [List.length_append]; omega) 0 6 14 (by decide)
          rw [← hck] at hk2
          generalize checkV F C = r at *
          obtain ⟨r1, r2⟩ := r
          repeat' (first | refine ex_call hw ?_ | refine (ex_callM hk2) ?_ | refine (ex_callM hk1) ?_ | refine ex_true (by first | decide | omega | assumption | (with_reducible exact rfl)) ?_ | refine ex_false (by first | decide | omega | assumption | exact (fun h => h rfl)) ?_ | refine ex_dec (fun _ => ?_) (fun _ => ?_) | refine ex_u8 _ rfl (by omega) (by omega) ?_ | refine ex_i64 _ rfl (by omega) (by omega) ?_ | refine ex_u64 _ rfl (by omega) (by omega) ?_ | refine and_mk (by first | omega | (with_reducible rfl) | (show drawOk _ _ _ = true; kernel_rfl)) ?_ | refine and_mk ⟨_, rfl⟩ ?_ | refine ex_is _ (List.length_map _) ?_ | refine ex_is _ List.length_nil ?_ | fail "no step")
          exact TLe.rfl
end Go.Proofs.YtgfmbkbiingagaaDoor

namespace Go.Proofs.YtgfmbkbiingagaaDoor
set_option linter.unusedVariables false
set_option linter.unusedSimpArgs false
open Go.RowKit
set_option maxRecDepth 100000

theorem deepestM {fs : List FN} {cs : List IN} (hf : fs.length ≤ 64) (hc : cs.length ≤ 8192) (k : Int) (i j nx : Nat) (hij : i ≠ j) : CallsM Tryd.prog ΓD 8 [(i, .row 3 TFn' (fs.map fnD)), (j, .row 4 TIn' (cs.map inD))] nx [.g [.row i, .row j], c1 (di k)] (Ti (deepestV fs cs k)) [(i, .row 3 TFn' (fs.map fnD)), (j, .row 4 TIn' (cs.map inD))] [] :=
  (deepest_c hf hc k).gD'.lend (ks := [i, j]) rfl _ nx (by
    intro p hp
    rcases List.mem_cons.1 hp with rfl | hp
    · simp [findL]
    · obtain rfl := List.mem_singleton.1 hp
      simp [findL, hij]) (by simp [eatT, eat1, eat, findL, hij])
theorem sum_snoc : ∀ (l : List FN) (f : FN), sumS (l ++ [f]) = sumS l + f.s
  | [], f => by show f.s + 0 = 0 + f.s; omega
  | x :: l, f => by show x.s + sumS (l ++ [f]) = x.s + sumS l + f.s; rw [sum_snoc l f]; omega
set_option maxHeartbeats 4000000 in
theorem checkSlots_c (fs : List FN) (l : List IN) (m : Nat) (hf : fs.length ≤ 9223372036854775807) (hl : l.length ≤ 9223372036854775807) (hm : m < 256) :
    CallsA Tryd.prog ΓD 4 [c1 (.sl 3 (fs.map fnD)), c1 (.sl 4 (l.map inD)), c1 (.v (.int .u8 m))] (Tb true) := by
  have hp1 := (programsM_c fs l hf hl).of0 (Γ := ΓD)
  have hw := wakes_c.gD'
  have h1 : (fs.take 10).length ≤ 10 := by rw [List.length_take]; omega
  have h2 : (l.take 60).length ≤ 60 := by rw [List.length_take]; omega
  generalize fs.take 10 = F at *
  generalize l.take 60 = L at *
  have hFm : (F.map fnD).length = F.length := List.length_map _
  have hk1 := checkM (fs := F) (cs := L) (by omega) (by omega) 0 1 6 (by decide)
  by_cases hok : (checkV F L).2 = 0
  · obtain ⟨ho1, ho2, -⟩ := check_ok hok
    obtain ⟨hs1, hs2⟩ := check_slots hok m
    have hfr : ∀ (i : Nat) (f : FN), F[i]? = some f → 0 ≤ f.s ∧ f.s ≤ 4096 := fun i f hi => by
      unfold okFrames at ho1
      rw [Bool.and_eq_true] at ho1
      have := framesV_spec ho1.1 (Int.le_refl _) (Int.le_refl _) (by decide) i f hi
      omega
    rw [ho2] at hk1
    refine fn_rule (C := ⟨Tryd.prog, layF, Tryd.f4.ntmps, ΓD, 0, [], []⟩) layF_ok mixed Tryd.func4 rfl (by kernel_rfl) rfl rfl rfl ?_
    repeat' (first | refine ex_true (by first | decide | omega | assumption | (with_reducible exact rfl)) ?_ | refine ex_false (by first | decide | omega | assumption | exact (fun h => h rfl)) ?_ | refine ex_dec (fun _ => ?_) (fun _ => ?_) | refine ex_u8 _ rfl (by omega) (by omega) ?_ | refine ex_i64 _ rfl (by omega) (by omega) ?_ | refine ex_u64 _ rfl (by omega) (by omega) ?_ | refine and_mk (by first | omega | (with_reducible rfl) | (show drawOk _ _ _ = true; kernel_rfl)) ?_ | refine and_mk ⟨_, rfl⟩ ?_ | refine ex_is _ (List.length_map _) ?_ | refine ex_is _ List.length_nil ?_ | fail "no step")
    refine ex_callM hp1 ?_
    repeat' (first | refine (ex_callM hk1) ?_ | refine ex_true (by first | decide | omega | assumption | (with_reducible exact rfl)) ?_ | refine ex_false (by first | decide | omega | assumption | exact (fun h => h rfl)) ?_ | refine ex_dec (fun _ => ?_) (fun _ => ?_) | refine ex_u8 _ rfl (by omega) (by omega) ?_ | refine ex_i64 _ rfl (by omega) (by omega) ?_ | refine ex_u64 _ rfl (by omega) (by omega) ?_ | refine and_mk (by first | omega | (with_reducible rfl) | (show drawOk _ _ _ = true; kernel_rfl)) ?_ | refine and_mk ⟨_, rfl⟩ ?_ | refine ex_is _ (List.length_map _) ?_ | refine ex_is _ List.length_nil ?_ | fail "no step")
    refine ex_app (0) (F.length) 1000 (by first | rfl | (simp; done) | (simp; omega)) (by first | rfl | (simp; done) | (simp; omega)) rfl (by omega) ?_
    refine ex_is (F.map fnD) rfl ?_
    repeat' (first | refine (ex_is _ hFm) ?_ | refine ex_true (by first | decide | omega | assumption | (with_reducible exact rfl)) ?_ | refine ex_false (by first | decide | omega | assumption | exact (fun h => h rfl)) ?_ | refine ex_dec (fun _ => ?_) (fun _ => ?_) | refine ex_u8 _ rfl (by omega) (by omega) ?_ | refine ex_i64 _ rfl (by omega) (by omega) ?_ | refine ex_u64 _ rfl (by omega) (by omega) ?_ | refine and_mk (by first | omega | (with_reducible rfl) | (show drawOk _ _ _ = true; kernel_rfl)) ?_ | refine and_mk ⟨_, rfl⟩ ?_ | refine ex_is _ (List.length_map _) ?_ | refine ex_is _ List.length_nil ?_ | fail "no step")
    refine ex_loop (X := Nat × List FN × Int) (fun ⟨q, G, s⟩ => ⟨[(2, .o (c1 (.v (.int .u8 m)))), (7, .o (.c (.ptr 4 0))), (11, .o (.c (.ptr 7 0))), (12, Ti s), (37, .o (.c (.row 6))), (38, Ti F.length), (39, Ti q)], [(0, .row 3 TFn' (F.map fnD)), (1, .row 4 TIn' (L.map inD)), (4, .obj [.row 0, .row 1]), (6, .row 3 TFn' (G.map fnD)), (7, .obj [.row 6, .row 1])], 8⟩) (fun x => F.length - x.1) (fun ⟨q, G, s⟩ => q ≤ F.length ∧ G = (F.take q).map (moreS m) ++ F.drop q ∧ s = sumS ((F.take q).map (moreS m)) ∧ 0 ≤ s ∧ s ≤ 5000 * q) (0, F, 0) ⟨Nat.zero_le _, by simp, rfl, by decide, by decide⟩ (SLe.of ⟨⟨rfl, rfl, rfl, rfl, rfl, rfl, rfl, trivial⟩, ⟨rfl, rfl, rfl, rfl, rfl, trivial⟩⟩) ?_
    rintro ⟨q, G, s⟩ ⟨hq, hG, hs, hs0, hs9⟩
    have hGm : (G.map fnD).length = G.length := List.length_map _
    have hGl : G.length = F.length := by rw [hG, List.length_append, List.length_map, List.length_take, List.length_drop]; omega
    by_cases hqF : q < F.length
    · have hxF : F[q]? = some F[q] := at_some hqF
      have hx : G[q]? = some F[q] := by
        rw [hG, List.getElem?_append_right (by rw [List.length_map, List.length_take]; omega), List.length_map, List.length_take, Nat.min_eq_left (by omega), Nat.sub_self, List.getElem?_drop]
        simp [hxF]
      have hql : ((q : Nat) : Int).toNat < (G.map fnD).length := by rw [hGm]; omega
      have htk : F.take (q + 1) = F.take q ++ [F[q]] := by rw [List.take_add_one, hxF]; rfl
      have hfb := hfr q _ hxF
      have hset0 : G.set q (moreS m F[q]) = (F.take (q + 1)).map (moreS m) ++ F.drop (q + 1) := by
        have hl : ((F.take q).map (moreS m)).length = q := by rw [List.length_map, List.length_take]; omega
        rw [hG, List.set_append_right _ _ (by omega), hl, Nat.sub_self, List.drop_eq_getElem_cons hqF, List.set_cons_zero, htk, List.map_append, List.append_assoc]
        rfl
      have hsum : sumS ((F.take (q + 1)).map (moreS m)) = s + (F[q].s + m) := by rw [htk, List.map_append, List.map_cons, List.map_nil, sum_snoc, ← hs]; rfl
      generalize F[q] = x at *
      have hms : (moreS m x).s = x.s + m := rfl
      have hset : (G.map fnD).set ((q : Nat) : Int).toNat (fnD (moreS m x)) = (G.set q (moreS m x)).map fnD := by rw [Int.toNat_natCast]; exact List.map_set.symm
      have hql2 : ((q : Nat) : Int).toNat < ((G.set q (moreS m x)).map fnD).length := by rw [List.length_map, List.length_set]; omega
      have hx2 : (G.set q (moreS m x))[q]? = some (moreS m x) := by rw [List.getElem?_set_self (by omega)]
      repeat' (first | refine ex_i64 ((q + 1 : Nat) : Int) (by omega) (by omega) (by omega) ?_ | refine ex_u64 ((q + 1 : Nat) : Int) (by omega) (by omega) (by omega) ?_ | refine ex_u8 ((q + 1 : Nat) : Int) (by omega) (by omega) (by omega) ?_ | refine ex_i64 (x.s + m) (by omega) (by omega) (by omega) ?_ | refine ex_u64 (x.s + m) (by omega) (by omega) (by omega) ?_ | refine ex_u8 (x.s + m) (by omega) (by omega) (by omega) ?_ | refine ex_i64 (m : Int) (by omega) (by omega) (by omega) ?_ | refine ex_u64 (m : Int) (by omega) (by omega) (by omega) ?_ | refine ex_u8 (m : Int) (by omega) (by omega) (by omega) ?_ | refine (ex_at q (moreS m x) hx2) ?_ | refine (and_mk hql2) ?_ | refine (ex_is _ hset) ?_ | refine (ex_at q x hx) ?_ | refine (and_mk hql) ?_ | refine ex_true (by first | decide | omega | assumption | (with_reducible exact rfl)) ?_ | refine ex_false (by first | decide | omega | assumption | exact (fun h => h rfl)) ?_ | refine ex_dec (fun _ => ?_) (fun _ => ?_) | refine ex_u8 _ rfl (by omega) (by omega) ?_ | refine ex_i64 _ rfl (by omega) (by omega) ?_ | refine ex_u64 _ rfl (by omega) (by omega) ?_ | refine and_mk (by first | omega | (with_reducible rfl) | (show drawOk _ _ _ = true; kernel_rfl)) ?_ | refine and_mk ⟨_, rfl⟩ ?_ | refine ex_is _ (List.length_map _) ?_ | refine ex_is _ List.length_nil ?_ | fail "no step")
      exact ex_round (q + 1, G.set q (moreS m x), s + (moreS m x).s) ⟨by omega, hset0, by rw [hsum, hms], by omega, by omega⟩ (by show _ - _ < _ - _; omega) (SLe.of ⟨⟨rfl, rfl, rfl, rfl, rfl, rfl, rfl, trivial⟩, ⟨rfl, rfl, rfl, rfl, rfl, trivial⟩⟩)
    · obtain rfl : q = F.length := by omega
      rw [List.take_length, List.drop_length, List.append_nil] at hG
      rw [List.take_length] at hs
      have hk2 := checkM (fs := G) (cs := L) (by omega) (by omega) 6 1 8 (by decide)
      have hd1 := deepestM (fs := F) (cs := L) (by omega) (by omega) 0 0 1 8 (by decide)
      have hd2 := deepestM (fs := G) (cs := L) (by omega) (by omega) 0 6 1 8 (by decide)
      rw [← hG] at hs hs1 hs2
      by_cases h4 : 4096 < s
      · rw [hs1 (by omega)] at hk2
        repeat' (first | refine ex_call hw ?_ | refine (ex_callM hk2) ?_ | refine ex_true (by first | decide | omega | assumption | (with_reducible exact rfl)) ?_ | refine ex_false (by first | decide | omega | assumption | exact (fun h => h rfl)) ?_ | refine ex_dec (fun _ => ?_) (fun _ => ?_) | refine ex_u8 _ rfl (by omega) (by omega) ?_ | refine ex_i64 _ rfl (by omega) (by omega) ?_ | refine ex_u64 _ rfl (by omega) (by omega) ?_ | refine and_mk (by first | omega | (with_reducible rfl) | (show drawOk _ _ _ = true; kernel_rfl)) ?_ | refine and_mk ⟨_, rfl⟩ ?_ | refine ex_is _ (List.length_map _) ?_ | refine ex_is _ List.length_nil ?_ | fail "no step")
        exact TLe.rfl
      · obtain ⟨e1, e2⟩ := hs2 (by omega)
        rw [e1] at hk2
        rw [e2] at hd2
        repeat' (first | refine ex_call hw ?_ | refine (ex_callM hd2) ?_ | refine (ex_callM hd1) ?_ | refine (ex_callM hk2) ?_ | refine ex_true (by first | decide | omega | assumption | (with_reducible exact rfl)) ?_ | refine ex_false (by first | decide | omega | assumption | exact (fun h => h rfl)) ?_ | refine ex_dec (fun _ => ?_) (fun _ => ?_) | refine ex_u8 _ rfl (by omega) (by omega) ?_ | refine ex_i64 _ rfl (by omega) (by omega) ?_ | refine ex_u64 _ rfl (by omega) (by omega) ?_ | refine and_mk (by first | omega | (with_reducible rfl) | (show drawOk _ _ _ = true; kernel_rfl)) ?_ | refine and_mk ⟨_, rfl⟩ ?_ | refine ex_is _ (List.length_map _) ?_ | refine ex_is _ List.length_nil ?_ | fail "no step")
        exact TLe.rfl
  ·
    refine fn_rule (C := ⟨Tryd.prog, layF, Tryd.f4.ntmps, ΓD, 0, [], []⟩) layF_ok mixed Tryd.func4 rfl (by kernel_rfl) rfl rfl rfl ?_
    repeat' (first | refine ex_true (by first | decide | omega | assumption | (with_reducible exact rfl)) ?_ | refine ex_false (by first | decide | omega | assumption | exact (fun h => h rfl)) ?_ | refine ex_dec (fun _ => ?_) (fun _ => ?_) | refine ex_u8 _ rfl (by omega) (by omega) ?_ | refine ex_i64 _ rfl (by omega) (by omega) ?_ | refine ex_u64 _ rfl (by omega) (by omega) ?_ | refine and_mk (by first | omega | (with_reducible rfl) | (show drawOk _ _ _ = true; kernel_rfl)) ?_ | refine and_mk ⟨_, rfl⟩ ?_ | refine ex_is _ (List.length_map _) ?_ | refine ex_is _ List.length_nil ?_ | fail "no step")
    refine ex_callM hp1 ?_
    repeat' (first | refine ex_call hw ?_ | refine (ex_callM hk1) ?_ | refine ex_true (by first | decide | omega | assumption | (with_reducible exact rfl)) ?_ | refine ex_false (by first | decide | omega | assumption | exact (fun h => h rfl)) ?_ | refine ex_dec (fun _ => ?_) (fun _ => ?_) | refine ex_u8 _ rfl (by omega) (by omega) ?_ | refine ex_i64 _ rfl (by omega) (by omega) ?_ | refine ex_u64 _ rfl (by omega) (by omega) ?_ | refine and_mk (by first | omega | (with_reducible rfl) | (show drawOk _ _ _ = true; kernel_rfl)) ?_ | refine and_mk ⟨_, rfl⟩ ?_ | refine ex_is _ (List.length_map _) ?_ | refine ex_is _ List.length_nil ?_ | fail "no step")
    all_goals exact TLe.rfl
end Go.Proofs.YtgfmbkbiingagaaDoor
