/- Texts that the last one leans on: The document's numbers, takes, fits, next. Conditions: lengths. slices.Index and Contains over bytes. No condition but lengths. slices.Index and Contains over ints. No condition but lengths. The checker's come, inside, numbers. Conditions: what the frames say. The checker's numbers, fits, next. Conditions: what the frames say. The checker's fits, next. Conditions: what the frames say. The document's takes, fits. Conditions: lengths. The checker's next. Conditions: what the frames say. The checker's step. Conditions: what the frames say. The document's next and same. Conditions: lengths. Plain law: instructions behind a last End change nothing; more slots change nothing. No condition. Plain law: the document's rounds are the program's. No condition. The document's Function. Conditions: what the frames say. The checker's function. Conditions: what the frames say. -/
import Derived.Test.YtgfmbkbiingagaaGreatDoorZ1
import Derived.Test.YtgfmbkbiingagaaGreatDoorZ2
import Derived.Test.YtgfmbkbiingagaaGreatDoorZ3
namespace Go.Proofs.YtgfmbkbiingagaaGreatDoor
set_option linter.unusedVariables false
set_option linter.unusedSimpArgs false
open Go.RowKit
set_option maxRecDepth 100000

section
variable (fs : List FN) (cs : List IN) (fn : Nat) (fr tt : Int)
set_option maxHeartbeats 4000000 in
theorem rnumbers_c {f : FN} (hf : fs[fn]? = some f) (x : IN) : CallsA Tryz.prog Γ0 23 [gD [.sl 3 (fs.map fnD), .sl 4 (cs.map inD)], c1 (di fn), c1 (di fr), c1 (di tt), gD (inD x)] (Tb (numbersV f fn fr tt x)) := by
  obtain ⟨o, a, b, n⟩ := x
  change CallsA _ _ _ [_, _, _, _, gD [di o, di a, di b, du n]] _
  have hea := rerr_c a
  have heb := rerr_c b
  unfold numbersV
  dsimp only at *
  obtain ⟨va', hva'⟩ : ∃ v, v = slotV f a := ⟨_, rfl⟩
  obtain ⟨vb', hvb'⟩ : ∃ v, v = slotV f b := ⟨_, rfl⟩
  obtain ⟨vt', hvt'⟩ : ∃ v, v = placeV fr tt a := ⟨_, rfl⟩
  have hpb : placeV fr tt b = decide (fr ≤ b ∧ b < tt) := rfl
  have hsz : sizeV a = decide (a = 1 ∨ a = 2 ∨ a = 3 ∨ a = 4 ∨ a = 8) := rfl
  rw [← hva', ← hvb', ← hvt', hpb, hsz]
  unfold slotV at hva' hvb'
  unfold placeV at hvt'
  generalize errV a = ea at *
  generalize errV b = eb at *
  refine fn_rule (C := ⟨Tryz.prog, layF, Tryz.f23.ntmps, Γ0, 0, [2,3,4], []⟩) layF_ok mixed Tryz.func23 rfl (by kernel_rfl) rfl rfl rfl ?_
  repeat' (first | refine (ex_is ([di f.s, di f.p] : List D) rfl) ?_ | refine (ex_row fn f rfl hf) ?_ | refine ex_true (by first | decide | omega | assumption | (with_reducible exact rfl)) ?_ | refine ex_false (by first | decide | omega | assumption | exact (fun h => h rfl)) ?_ | refine ex_dec (fun _ => ?_) (fun _ => ?_) | refine ex_u8 _ rfl (by omega) (by omega) ?_ | refine ex_i64 _ rfl (by omega) (by omega) ?_ | refine ex_u64 _ rfl (by omega) (by omega) ?_ | refine and_mk (by first | omega | (with_reducible rfl) | (show drawOk _ _ _ = true; kernel_rfl)) ?_ | refine and_mk ⟨_, rfl⟩ ?_ | refine ex_is _ (List.length_map _) ?_ | refine ex_is _ List.length_nil ?_ | fail "no step")
  refine ex_join (X := Bool) (fun v => ⟨[(1, Ti fn), (2, Ti fr), (3, Ti tt), (5, .o (.c (.ptr 0 0))), (9, .o (.c (.ptr 1 0))), (11, Ti f.s), (12, Tb v)], [(0, .obj [.d (.sl 3 (fs.map fnD)), .d (.sl 4 (cs.map inD))]), (1, .obj [.d (di o), .d (di a), .d (di b), .d (du n)])], 2⟩) (fun v => v = va') ?_ ?_
  · repeat' (first | refine ex_true (by first | decide | omega | assumption | (with_reducible exact rfl)) ?_ | refine ex_false (by first | decide | omega | assumption | exact (fun h => h rfl)) ?_ | refine ex_dec (fun _ => ?_) (fun _ => ?_) | refine ex_u8 _ rfl (by omega) (by omega) ?_ | refine ex_i64 _ rfl (by omega) (by omega) ?_ | refine ex_u64 _ rfl (by omega) (by omega) ?_ | refine and_mk (by first | omega | (with_reducible rfl) | (show drawOk _ _ _ = true; kernel_rfl)) ?_ | refine and_mk ⟨_, rfl⟩ ?_ | refine ex_is _ (List.length_map _) ?_ | refine ex_is _ List.length_nil ?_ | fail "no step")
    all_goals first | exact ex_meet true (by rw [hva', decide_eq_true (by omega)]) (SLe.of ⟨⟨rfl, rfl, rfl, rfl, rfl, rfl, rfl, trivial⟩, ⟨rfl, rfl, trivial⟩⟩) | exact ex_meet false (by rw [hva', decide_eq_false (by omega)]) (SLe.of ⟨⟨rfl, rfl, rfl, rfl, rfl, rfl, rfl, trivial⟩, ⟨rfl, rfl, trivial⟩⟩)
  rintro va rfl
  refine ex_join (X := Bool) (fun v => ⟨[(1, Ti fn), (2, Ti fr), (3, Ti tt), (5, .o (.c (.ptr 0 0))), (9, .o (.c (.ptr 1 0))), (11, Ti f.s), (12, Tb va), (13, Tb v)], [(0, .obj [.d (.sl 3 (fs.map fnD)), .d (.sl 4 (cs.map inD))]), (1, .obj [.d (di o), .d (di a), .d (di b), .d (du n)])], 2⟩) (fun v => v = vb') ?_ ?_
  · repeat' (first | refine ex_true (by first | decide | omega | assumption | (with_reducible exact rfl)) ?_ | refine ex_false (by first | decide | omega | assumption | exact (fun h => h rfl)) ?_ | refine ex_dec (fun _ => ?_) (fun _ => ?_) | refine ex_u8 _ rfl (by omega) (by omega) ?_ | refine ex_i64 _ rfl (by omega) (by omega) ?_ | refine ex_u64 _ rfl (by omega) (by omega) ?_ | refine and_mk (by first | omega | (with_reducible rfl) | (show drawOk _ _ _ = true; kernel_rfl)) ?_ | refine and_mk ⟨_, rfl⟩ ?_ | refine ex_is _ (List.length_map _) ?_ | refine ex_is _ List.length_nil ?_ | fail "no step")
    all_goals first | exact ex_meet true (by rw [hvb', decide_eq_true (by omega)]) (SLe.of ⟨⟨rfl, rfl, rfl, rfl, rfl, rfl, rfl, rfl, trivial⟩, ⟨rfl, rfl, trivial⟩⟩) | exact ex_meet false (by rw [hvb', decide_eq_false (by omega)]) (SLe.of ⟨⟨rfl, rfl, rfl, rfl, rfl, rfl, rfl, rfl, trivial⟩, ⟨rfl, rfl, trivial⟩⟩)
  rintro vb rfl
  refine ex_join (X := Bool) (fun v => ⟨[(1, Ti fn), (2, Ti fr), (3, Ti tt), (5, .o (.c (.ptr 0 0))), (9, .o (.c (.ptr 1 0))), (11, Ti f.s), (12, Tb va), (13, Tb vb), (14, Tb v)], [(0, .obj [.d (.sl 3 (fs.map fnD)), .d (.sl 4 (cs.map inD))]), (1, .obj [.d (di o), .d (di a), .d (di b), .d (du n)])], 2⟩) (fun v => v = vt') ?_ ?_
  · repeat' (first | refine ex_true (by first | decide | omega | assumption | (with_reducible exact rfl)) ?_ | refine ex_false (by first | decide | omega | assumption | exact (fun h => h rfl)) ?_ | refine ex_dec (fun _ => ?_) (fun _ => ?_) | refine ex_u8 _ rfl (by omega) (by omega) ?_ | refine ex_i64 _ rfl (by omega) (by omega) ?_ | refine ex_u64 _ rfl (by omega) (by omega) ?_ | refine and_mk (by first | omega | (with_reducible rfl) | (show drawOk _ _ _ = true; kernel_rfl)) ?_ | refine and_mk ⟨_, rfl⟩ ?_ | refine ex_is _ (List.length_map _) ?_ | refine ex_is _ List.length_nil ?_ | fail "no step")
    all_goals first | exact ex_meet true (by rw [hvt', decide_eq_true (by omega)]) (SLe.of ⟨⟨rfl, rfl, rfl, rfl, rfl, rfl, rfl, rfl, rfl, trivial⟩, ⟨rfl, rfl, trivial⟩⟩) | exact ex_meet false (by rw [hvt', decide_eq_false (by omega)]) (SLe.of ⟨⟨rfl, rfl, rfl, rfl, rfl, rfl, rfl, rfl, rfl, trivial⟩, ⟨rfl, rfl, trivial⟩⟩)
  rintro vt rfl
  clear hva' hvb' hvt'
  refine ex_call heb ?_
  refine ex_call hea ?_
  by_cases g0 : o = 1 ∨ o = 2 ∨ o = 23 ∨ o = 24 ∨ o = 26
  · rw [if_pos g0]
    rcases g0 with rfl | rfl | rfl | rfl | rfl
    all_goals (
      repeat' (first | refine ex_true (by first | decide | omega | assumption | (with_reducible exact rfl)) ?_ | refine ex_false (by first | decide | omega | assumption | exact (fun h => h rfl)) ?_ | refine ex_dec (fun _ => ?_) (fun _ => ?_) | refine ex_u8 _ rfl (by omega) (by omega) ?_ | refine ex_i64 _ rfl (by omega) (by omega) ?_ | refine ex_u64 _ rfl (by omega) (by omega) ?_ | refine and_mk (by first | omega | (with_reducible rfl) | (show drawOk _ _ _ = true; kernel_rfl)) ?_ | refine and_mk ⟨_, rfl⟩ ?_ | refine ex_is _ (List.length_map _) ?_ | refine ex_is _ List.length_nil ?_ | fail "no step")
      )
    all_goals first | exact TLe.rfl | exact TLe.eq (by rw [decide_eq_true (by omega)]; first | rfl | (simp [*]; rfl)) | exact TLe.eq (by rw [decide_eq_false (by omega)]; first | rfl | (simp [*]; rfl)) | exact TLe.eq (by simp [*] <;> rfl)
  rw [if_neg g0]
  by_cases g1 : o = 32 ∨ o = 33 ∨ o = 34
  · rw [if_pos g1]
    cases va
    all_goals (
      rcases g1 with rfl | rfl | rfl
      )
    all_goals (
      repeat' (first | refine ex_true (by first | decide | omega | assumption | (with_reducible exact rfl)) ?_ | refine ex_false (by first | decide | omega | assumption | exact (fun h => h rfl)) ?_ | refine ex_dec (fun _ => ?_) (fun _ => ?_) | refine ex_u8 _ rfl (by omega) (by omega) ?_ | refine ex_i64 _ rfl (by omega) (by omega) ?_ | refine ex_u64 _ rfl (by omega) (by omega) ?_ | refine and_mk (by first | omega | (with_reducible rfl) | (show drawOk _ _ _ = true; kernel_rfl)) ?_ | refine and_mk ⟨_, rfl⟩ ?_ | refine ex_is _ (List.length_map _) ?_ | refine ex_is _ List.length_nil ?_ | fail "no step")
      )
    all_goals first | exact TLe.rfl | exact TLe.eq (by rw [decide_eq_true (by omega)]; first | rfl | (simp [*]; rfl)) | exact TLe.eq (by rw [decide_eq_false (by omega)]; first | rfl | (simp [*]; rfl)) | exact TLe.eq (by simp [*] <;> rfl)
  rw [if_neg g1]
  by_cases g2 : o = 4
  · rw [if_pos g2]
    subst g2
    all_goals (
      repeat' (first | refine ex_true (by first | decide | omega | assumption | (with_reducible exact rfl)) ?_ | refine ex_false (by first | decide | omega | assumption | exact (fun h => h rfl)) ?_ | refine ex_dec (fun _ => ?_) (fun _ => ?_) | refine ex_u8 _ rfl (by omega) (by omega) ?_ | refine ex_i64 _ rfl (by omega) (by omega) ?_ | refine ex_u64 _ rfl (by omega) (by omega) ?_ | refine and_mk (by first | omega | (with_reducible rfl) | (show drawOk _ _ _ = true; kernel_rfl)) ?_ | refine and_mk ⟨_, rfl⟩ ?_ | refine ex_is _ (List.length_map _) ?_ | refine ex_is _ List.length_nil ?_ | fail "no step")
      )
    all_goals first | exact TLe.rfl | exact TLe.eq (by rw [decide_eq_true (by omega)]; first | rfl | (simp [*]; rfl)) | exact TLe.eq (by rw [decide_eq_false (by omega)]; first | rfl | (simp [*]; rfl)) | exact TLe.eq (by simp [*] <;> rfl)
  rw [if_neg g2]
  by_cases g3 : o = 6 ∨ o = 7
  · rw [if_pos g3]
    rcases g3 with rfl | rfl
    all_goals (
      repeat' (first | refine ex_true (by first | decide | omega | assumption | (with_reducible exact rfl)) ?_ | refine ex_false (by first | decide | omega | assumption | exact (fun h => h rfl)) ?_ | refine ex_dec (fun _ => ?_) (fun _ => ?_) | refine ex_u8 _ rfl (by omega) (by omega) ?_ | refine ex_i64 _ rfl (by omega) (by omega) ?_ | refine ex_u64 _ rfl (by omega) (by omega) ?_ | refine and_mk (by first | omega | (with_reducible rfl) | (show drawOk _ _ _ = true; kernel_rfl)) ?_ | refine and_mk ⟨_, rfl⟩ ?_ | refine ex_is _ (List.length_map _) ?_ | refine ex_is _ List.length_nil ?_ | fail "no step")
      )
    all_goals first | exact TLe.rfl | exact TLe.eq (by rw [decide_eq_true (by omega)]; first | rfl | (simp [*]; rfl)) | exact TLe.eq (by rw [decide_eq_false (by omega)]; first | rfl | (simp [*]; rfl)) | exact TLe.eq (by simp [*] <;> rfl)
  rw [if_neg g3]
  by_cases g4 : o = 8
  · rw [if_pos g4]
    subst g4
    all_goals (
      repeat' (first | refine ex_true (by first | decide | omega | assumption | (with_reducible exact rfl)) ?_ | refine ex_false (by first | decide | omega | assumption | exact (fun h => h rfl)) ?_ | refine ex_dec (fun _ => ?_) (fun _ => ?_) | refine ex_u8 _ rfl (by omega) (by omega) ?_ | refine ex_i64 _ rfl (by omega) (by omega) ?_ | refine ex_u64 _ rfl (by omega) (by omega) ?_ | refine and_mk (by first | omega | (with_reducible rfl) | (show drawOk _ _ _ = true; kernel_rfl)) ?_ | refine and_mk ⟨_, rfl⟩ ?_ | refine ex_is _ (List.length_map _) ?_ | refine ex_is _ List.length_nil ?_ | fail "no step")
      )
    all_goals first | exact TLe.rfl | exact TLe.eq (by rw [decide_eq_true (by omega)]; first | rfl | (simp [*]; rfl)) | exact TLe.eq (by rw [decide_eq_false (by omega)]; first | rfl | (simp [*]; rfl)) | exact TLe.eq (by simp [*] <;> rfl)
  rw [if_neg g4]
  by_cases g5 : o = 20 ∨ o = 21 ∨ o = 22
  · rw [if_pos g5]
    rcases g5 with rfl | rfl | rfl
    all_goals (
      repeat' (first | refine ex_true (by first | decide | omega | assumption | (with_reducible exact rfl)) ?_ | refine ex_false (by first | decide | omega | assumption | exact (fun h => h rfl)) ?_ | refine ex_dec (fun _ => ?_) (fun _ => ?_) | refine ex_u8 _ rfl (by omega) (by omega) ?_ | refine ex_i64 _ rfl (by omega) (by omega) ?_ | refine ex_u64 _ rfl (by omega) (by omega) ?_ | refine and_mk (by first | omega | (with_reducible rfl) | (show drawOk _ _ _ = true; kernel_rfl)) ?_ | refine and_mk ⟨_, rfl⟩ ?_ | refine ex_is _ (List.length_map _) ?_ | refine ex_is _ List.length_nil ?_ | fail "no step")
      )
    all_goals first | exact TLe.rfl | exact TLe.eq (by rw [decide_eq_true (by omega)]; first | rfl | (simp [*]; rfl)) | exact TLe.eq (by rw [decide_eq_false (by omega)]; first | rfl | (simp [*]; rfl)) | exact TLe.eq (by simp [*] <;> rfl)
  rw [if_neg g5]
  by_cases g6 : o = 25
  · rw [if_pos g6]
    cases va
    all_goals (
      subst g6
      )
    all_goals (
      repeat' (first | refine ex_true (by first | decide | omega | assumption | (with_reducible exact rfl)) ?_ | refine ex_false (by first | decide | omega | assumption | exact (fun h => h rfl)) ?_ | refine ex_dec (fun _ => ?_) (fun _ => ?_) | refine ex_u8 _ rfl (by omega) (by omega) ?_ | refine ex_i64 _ rfl (by omega) (by omega) ?_ | refine ex_u64 _ rfl (by omega) (by omega) ?_ | refine and_mk (by first | omega | (with_reducible rfl) | (show drawOk _ _ _ = true; kernel_rfl)) ?_ | refine and_mk ⟨_, rfl⟩ ?_ | refine ex_is _ (List.length_map _) ?_ | refine ex_is _ List.length_nil ?_ | fail "no step")
      )
    all_goals first | exact TLe.rfl | exact TLe.eq (by rw [decide_eq_true (by omega)]; first | rfl | (simp [*]; rfl)) | exact TLe.eq (by rw [decide_eq_false (by omega)]; first | rfl | (simp [*]; rfl)) | exact TLe.eq (by simp [*] <;> rfl)
  rw [if_neg g6]
  by_cases g7 : o = 28
  · rw [if_pos g7]
    subst g7
    all_goals (
      repeat' (first | refine ex_true (by first | decide | omega | assumption | (with_reducible exact rfl)) ?_ | refine ex_false (by first | decide | omega | assumption | exact (fun h => h rfl)) ?_ | refine ex_dec (fun _ => ?_) (fun _ => ?_) | refine ex_u8 _ rfl (by omega) (by omega) ?_ | refine ex_i64 _ rfl (by omega) (by omega) ?_ | refine ex_u64 _ rfl (by omega) (by omega) ?_ | refine and_mk (by first | omega | (with_reducible rfl) | (show drawOk _ _ _ = true; kernel_rfl)) ?_ | refine and_mk ⟨_, rfl⟩ ?_ | refine ex_is _ (List.length_map _) ?_ | refine ex_is _ List.length_nil ?_ | fail "no step")
      )
    all_goals first | exact TLe.rfl | exact TLe.eq (by rw [decide_eq_true (by omega)]; first | rfl | (simp [*]; rfl)) | exact TLe.eq (by rw [decide_eq_false (by omega)]; first | rfl | (simp [*]; rfl)) | exact TLe.eq (by simp [*] <;> rfl)
  rw [if_neg g7]
  by_cases g8 : o = 14
  · rw [if_pos g8]
    subst g8
    all_goals (
      repeat' (first | refine ex_true (by first | decide | omega | assumption | (with_reducible exact rfl)) ?_ | refine ex_false (by first | decide | omega | assumption | exact (fun h => h rfl)) ?_ | refine ex_dec (fun _ => ?_) (fun _ => ?_) | refine ex_u8 _ rfl (by omega) (by omega) ?_ | refine ex_i64 _ rfl (by omega) (by omega) ?_ | refine ex_u64 _ rfl (by omega) (by omega) ?_ | refine and_mk (by first | omega | (with_reducible rfl) | (show drawOk _ _ _ = true; kernel_rfl)) ?_ | refine and_mk ⟨_, rfl⟩ ?_ | refine ex_is _ (List.length_map _) ?_ | refine ex_is _ List.length_nil ?_ | fail "no step")
      )
    all_goals first | exact TLe.rfl | exact TLe.eq (by rw [decide_eq_true (by omega)]; first | rfl | (simp [*]; rfl)) | exact TLe.eq (by rw [decide_eq_false (by omega)]; first | rfl | (simp [*]; rfl)) | exact TLe.eq (by simp [*] <;> rfl)
  rw [if_neg g8]
  by_cases g9 : o = 30
  · rw [if_pos g9]
    cases va
    all_goals (
      subst g9
      )
    all_goals (
      repeat' (first | refine ex_true (by first | decide | omega | assumption | (with_reducible exact rfl)) ?_ | refine ex_false (by first | decide | omega | assumption | exact (fun h => h rfl)) ?_ | refine ex_dec (fun _ => ?_) (fun _ => ?_) | refine ex_u8 _ rfl (by omega) (by omega) ?_ | refine ex_i64 _ rfl (by omega) (by omega) ?_ | refine ex_u64 _ rfl (by omega) (by omega) ?_ | refine and_mk (by first | omega | (with_reducible rfl) | (show drawOk _ _ _ = true; kernel_rfl)) ?_ | refine and_mk ⟨_, rfl⟩ ?_ | refine ex_is _ (List.length_map _) ?_ | refine ex_is _ List.length_nil ?_ | fail "no step")
      )
    all_goals first | exact TLe.rfl | exact TLe.eq (by rw [decide_eq_true (by omega)]; first | rfl | (simp [*]; rfl)) | exact TLe.eq (by rw [decide_eq_false (by omega)]; first | rfl | (simp [*]; rfl)) | exact TLe.eq (by simp [*] <;> rfl)
  rw [if_neg g9]
  by_cases g10 : o = 31
  · rw [if_pos g10]
    subst g10
    all_goals (
      repeat' (first | refine ex_true (by first | decide | omega | assumption | (with_reducible exact rfl)) ?_ | refine ex_false (by first | decide | omega | assumption | exact (fun h => h rfl)) ?_ | refine ex_dec (fun _ => ?_) (fun _ => ?_) | refine ex_u8 _ rfl (by omega) (by omega) ?_ | refine ex_i64 _ rfl (by omega) (by omega) ?_ | refine ex_u64 _ rfl (by omega) (by omega) ?_ | refine and_mk (by first | omega | (with_reducible rfl) | (show drawOk _ _ _ = true; kernel_rfl)) ?_ | refine and_mk ⟨_, rfl⟩ ?_ | refine ex_is _ (List.length_map _) ?_ | refine ex_is _ List.length_nil ?_ | fail "no step")
      )
    all_goals first | exact TLe.rfl | exact TLe.eq (by rw [decide_eq_true (by omega)]; first | rfl | (simp [*]; rfl)) | exact TLe.eq (by rw [decide_eq_false (by omega)]; first | rfl | (simp [*]; rfl)) | exact TLe.eq (by simp [*] <;> rfl)
  rw [if_neg g10]
  repeat' (first | refine ex_true (by first | decide | omega | assumption | (with_reducible exact rfl)) ?_ | refine ex_false (by first | decide | omega | assumption | exact (fun h => h rfl)) ?_ | refine ex_dec (fun _ => ?_) (fun _ => ?_) | refine ex_u8 _ rfl (by omega) (by omega) ?_ | refine ex_i64 _ rfl (by omega) (by omega) ?_ | refine ex_u64 _ rfl (by omega) (by omega) ?_ | refine and_mk (by first | omega | (with_reducible rfl) | (show drawOk _ _ _ = true; kernel_rfl)) ?_ | refine and_mk ⟨_, rfl⟩ ?_ | refine ex_is _ (List.length_map _) ?_ | refine ex_is _ List.length_nil ?_ | fail "no step")
  all_goals first | exact TLe.eq (by rw [decide_eq_true (by omega)]; rfl) | exact TLe.eq (by rw [decide_eq_false (by omega)]; rfl)
end
end Go.Proofs.YtgfmbkbiingagaaGreatDoor

namespace Go.Proofs.YtgfmbkbiingagaaGreatDoor
set_option linter.unusedVariables false
set_option linter.unusedSimpArgs false
open Go.RowKit
set_option maxRecDepth 100000

theorem byteIdx_hit (p r : List UInt8) (c : UInt8) (hp : c ∉ p) (hl : (p ++ c :: r).length ≤ 1000000000) : CallsA Tryz.prog Γ0 65 [c1 (.sl 1 (byteRows (p ++ c :: r))), c1 (.v (.int .u8 c.toNat))] (Ti p.length) := by
  have hlen : (p ++ c :: r).length = p.length + 1 + r.length := by simp; omega
  have hdl : (byteRows (p ++ c :: r)).length = (p ++ c :: r).length := List.length_map _
  refine fn_rule (C := ⟨Tryz.prog, layF, Tryz.f65.ntmps, Γ0, 0, [], []⟩) layF_ok mixed Tryz.func65 rfl (by kernel_rfl) rfl rfl rfl ?_
  repeat' (first | refine (ex_is _ hdl) ?_ | refine ex_true (by first | decide | omega | assumption | (with_reducible exact rfl)) ?_ | refine ex_false (by first | decide | omega | assumption | exact (fun h => h rfl)) ?_ | refine ex_dec (fun _ => ?_) (fun _ => ?_) | refine ex_u8 _ rfl (by omega) (by omega) ?_ | refine ex_i64 _ rfl (by omega) (by omega) ?_ | refine ex_u64 _ rfl (by omega) (by omega) ?_ | refine and_mk (by first | omega | (with_reducible rfl) | (show drawOk _ _ _ = true; kernel_rfl)) ?_ | refine and_mk ⟨_, rfl⟩ ?_ | refine ex_is _ (List.length_map _) ?_ | refine ex_is _ List.length_nil ?_ | fail "no step")
  refine ex_loop (X := Nat) (fun q => ⟨[(0, .o (c1 (.sl 1 (byteRows (p ++ c :: r))))), (1, .o (c1 (.v (.int .u8 c.toNat)))), (7, Ti (p ++ c :: r).length), (8, Ti q)], [], 0⟩) (fun q => p.length + 1 - q) (fun q => q ≤ p.length) 0 (Nat.zero_le _) (SLe.of ⟨⟨rfl, rfl, rfl, rfl, trivial⟩, trivial⟩) ?_
  intro q hq
  have hx : (p ++ c :: r)[q]? = some ((p ++ c :: r)[q]'(by omega)) := at_some (by omega)
  by_cases hqp : q = p.length
  · have he : (p ++ c :: r)[q]'(by omega) = c := by subst hqp; simp
    rw [he] at hx
    repeat' (first | refine (ex_row q c rfl hx) ?_ | refine ex_true (by first | decide | omega | assumption | (with_reducible exact rfl)) ?_ | refine ex_false (by first | decide | omega | assumption | exact (fun h => h rfl)) ?_ | refine ex_dec (fun _ => ?_) (fun _ => ?_) | refine ex_u8 _ rfl (by omega) (by omega) ?_ | refine ex_i64 _ rfl (by omega) (by omega) ?_ | refine ex_u64 _ rfl (by omega) (by omega) ?_ | refine and_mk (by first | omega | (with_reducible rfl) | (show drawOk _ _ _ = true; kernel_rfl)) ?_ | refine and_mk ⟨_, rfl⟩ ?_ | refine ex_is _ (List.length_map _) ?_ | refine ex_is _ List.length_nil ?_ | fail "no step")
    exact TLe.eq (by rw [hqp]; rfl)
  · have hne : (p ++ c :: r)[q]'(by omega) ≠ c := fun e => hp (by rw [← e, List.getElem_append_left (by omega)]; exact List.getElem_mem _)
    generalize (p ++ c :: r)[q]'(by omega) = z at *
    have hne' : ¬ ((c.toNat : Nat) : Int) = z.toNat := fun e => hne (UInt8.toNat_inj.1 (by omega)).symm
    repeat' (first | refine (ex_row q z rfl hx) ?_ | refine ex_true (by first | decide | omega | assumption | (with_reducible exact rfl)) ?_ | refine ex_false (by first | decide | omega | assumption | exact (fun h => h rfl)) ?_ | refine ex_dec (fun _ => ?_) (fun _ => ?_) | refine ex_u8 _ rfl (by omega) (by omega) ?_ | refine ex_i64 _ rfl (by omega) (by omega) ?_ | refine ex_u64 _ rfl (by omega) (by omega) ?_ | refine and_mk (by first | omega | (with_reducible rfl) | (show drawOk _ _ _ = true; kernel_rfl)) ?_ | refine and_mk ⟨_, rfl⟩ ?_ | refine ex_is _ (List.length_map _) ?_ | refine ex_is _ List.length_nil ?_ | fail "no step")
    exact ex_round (q + 1) (by show q + 1 ≤ p.length; omega) (by show _ - _ < _ - _; omega) (SLe.of ⟨⟨rfl, rfl, rfl, rfl, trivial⟩, trivial⟩)
theorem byteIdx_no (l : List UInt8) (c : UInt8) (hp : c ∉ l) (hl : l.length ≤ 1000000000) : CallsA Tryz.prog Γ0 65 [c1 (.sl 1 (byteRows l)), c1 (.v (.int .u8 c.toNat))] (Ti (-1)) := by
  have hdl : (byteRows l).length = l.length := List.length_map _
  refine fn_rule (C := ⟨Tryz.prog, layF, Tryz.f65.ntmps, Γ0, 0, [], []⟩) layF_ok mixed Tryz.func65 rfl (by kernel_rfl) rfl rfl rfl ?_
  repeat' (first | refine (ex_is _ hdl) ?_ | refine ex_true (by first | decide | omega | assumption | (with_reducible exact rfl)) ?_ | refine ex_false (by first | decide | omega | assumption | exact (fun h => h rfl)) ?_ | refine ex_dec (fun _ => ?_) (fun _ => ?_) | refine ex_u8 _ rfl (by omega) (by omega) ?_ | refine ex_i64 _ rfl (by omega) (by omega) ?_ | refine ex_u64 _ rfl (by omega) (by omega) ?_ | refine and_mk (by first | omega | (with_reducible rfl) | (show drawOk _ _ _ = true; kernel_rfl)) ?_ | refine and_mk ⟨_, rfl⟩ ?_ | refine ex_is _ (List.length_map _) ?_ | refine ex_is _ List.length_nil ?_ | fail "no step")
  refine ex_loop (X := Nat) (fun q => ⟨[(0, .o (c1 (.sl 1 (byteRows l)))), (1, .o (c1 (.v (.int .u8 c.toNat)))), (7, Ti l.length), (8, Ti q)], [], 0⟩) (fun q => l.length - q) (fun q => q ≤ l.length) 0 (Nat.zero_le _) (SLe.of ⟨⟨rfl, rfl, rfl, rfl, trivial⟩, trivial⟩) ?_
  intro q hq
  by_cases hqp : q < l.length
  · have hx : l[q]? = some l[q] := at_some hqp
    have hne : l[q] ≠ c := fun e => hp (by rw [← e]; exact List.getElem_mem _)
    generalize l[q] = z at *
    have hne' : ¬ ((c.toNat : Nat) : Int) = z.toNat := fun e => hne (UInt8.toNat_inj.1 (by omega)).symm
    repeat' (first | refine (ex_row q z rfl hx) ?_ | refine ex_true (by first | decide | omega | assumption | (with_reducible exact rfl)) ?_ | refine ex_false (by first | decide | omega | assumption | exact (fun h => h rfl)) ?_ | refine ex_dec (fun _ => ?_) (fun _ => ?_) | refine ex_u8 _ rfl (by omega) (by omega) ?_ | refine ex_i64 _ rfl (by omega) (by omega) ?_ | refine ex_u64 _ rfl (by omega) (by omega) ?_ | refine and_mk (by first | omega | (with_reducible rfl) | (show drawOk _ _ _ = true; kernel_rfl)) ?_ | refine and_mk ⟨_, rfl⟩ ?_ | refine ex_is _ (List.length_map _) ?_ | refine ex_is _ List.length_nil ?_ | fail "no step")
    exact ex_round (q + 1) (by show q + 1 ≤ l.length; omega) (by show _ - _ < _ - _; omega) (SLe.of ⟨⟨rfl, rfl, rfl, rfl, trivial⟩, trivial⟩)
  · repeat' (first | refine ex_true (by first | decide | omega | assumption | (with_reducible exact rfl)) ?_ | refine ex_false (by first | decide | omega | assumption | exact (fun h => h rfl)) ?_ | refine ex_dec (fun _ => ?_) (fun _ => ?_) | refine ex_u8 _ rfl (by omega) (by omega) ?_ | refine ex_i64 _ rfl (by omega) (by omega) ?_ | refine ex_u64 _ rfl (by omega) (by omega) ?_ | refine and_mk (by first | omega | (with_reducible rfl) | (show drawOk _ _ _ = true; kernel_rfl)) ?_ | refine and_mk ⟨_, rfl⟩ ?_ | refine ex_is _ (List.length_map _) ?_ | refine ex_is _ List.length_nil ?_ | fail "no step")
    exact TLe.rfl
theorem byteHas_c (l : List UInt8) (c : UInt8) (hl : l.length ≤ 1000000000) : CallsA Tryz.prog Γ0 54 [c1 (.sl 1 (byteRows l)), c1 (.v (.int .u8 c.toNat))] (Tb (l.contains c)) := by
  by_cases h : c ∈ l
  · rw [List.contains_iff_mem.2 h]
    obtain ⟨p, r, rfl, hp⟩ := List.eq_append_cons_of_mem h
    have h1 := byteIdx_hit p r c hp hl
    refine fn_rule (C := ⟨Tryz.prog, layF, Tryz.f54.ntmps, Γ0, 0, [], []⟩) layF_ok mixed Tryz.func54 rfl (by kernel_rfl) rfl rfl rfl ?_
    repeat' (first | refine ex_call h1 ?_ | refine ex_true (by first | decide | omega | assumption | (with_reducible exact rfl)) ?_ | refine ex_false (by first | decide | omega | assumption | exact (fun h => h rfl)) ?_ | refine ex_dec (fun _ => ?_) (fun _ => ?_) | refine ex_u8 _ rfl (by omega) (by omega) ?_ | refine ex_i64 _ rfl (by omega) (by omega) ?_ | refine ex_u64 _ rfl (by omega) (by omega) ?_ | refine and_mk (by first | omega | (with_reducible rfl) | (show drawOk _ _ _ = true; kernel_rfl)) ?_ | refine and_mk ⟨_, rfl⟩ ?_ | refine ex_is _ (List.length_map _) ?_ | refine ex_is _ List.length_nil ?_ | fail "no step")
    exact TLe.rfl
  · rw [show l.contains c = false by simpa using h]
    have h1 := byteIdx_no l c h hl
    refine fn_rule (C := ⟨Tryz.prog, layF, Tryz.f54.ntmps, Γ0, 0, [], []⟩) layF_ok mixed Tryz.func54 rfl (by kernel_rfl) rfl rfl rfl ?_
    repeat' (first | refine ex_call h1 ?_ | refine ex_true (by first | decide | omega | assumption | (with_reducible exact rfl)) ?_ | refine ex_false (by first | decide | omega | assumption | exact (fun h => h rfl)) ?_ | refine ex_dec (fun _ => ?_) (fun _ => ?_) | refine ex_u8 _ rfl (by omega) (by omega) ?_ | refine ex_i64 _ rfl (by omega) (by omega) ?_ | refine ex_u64 _ rfl (by omega) (by omega) ?_ | refine and_mk (by first | omega | (with_reducible rfl) | (show drawOk _ _ _ = true; kernel_rfl)) ?_ | refine and_mk ⟨_, rfl⟩ ?_ | refine ex_is _ (List.length_map _) ?_ | refine ex_is _ List.length_nil ?_ | fail "no step")
    exact TLe.rfl
end Go.Proofs.YtgfmbkbiingagaaGreatDoor

namespace Go.Proofs.YtgfmbkbiingagaaGreatDoor
set_option linter.unusedVariables false
set_option linter.unusedSimpArgs false
open Go.RowKit
set_option maxRecDepth 100000

abbrev intRows (l : List Int) : List (List D) := l.map fun z => [di z]
theorem intIdx_hit (p r : List Int) (c : Int) (hp : c ∉ p) (hl : (p ++ c :: r).length ≤ 1000000000) : CallsA Tryz.prog Γ0 75 [c1 (.sl 1 (intRows (p ++ c :: r))), c1 (.v (.int .i64 c))] (Ti p.length) := by
  have hlen : (p ++ c :: r).length = p.length + 1 + r.length := by simp; omega
  have hdl : (intRows (p ++ c :: r)).length = (p ++ c :: r).length := List.length_map _
  refine fn_rule (C := ⟨Tryz.prog, layF, Tryz.f75.ntmps, Γ0, 0, [], []⟩) layF_ok mixed Tryz.func75 rfl (by kernel_rfl) rfl rfl rfl ?_
  repeat' (first | refine (ex_is _ hdl) ?_ | refine ex_true (by first | decide | omega | assumption | (with_reducible exact rfl)) ?_ | refine ex_false (by first | decide | omega | assumption | exact (fun h => h rfl)) ?_ | refine ex_dec (fun _ => ?_) (fun _ => ?_) | refine ex_u8 _ rfl (by omega) (by omega) ?_ | refine ex_i64 _ rfl (by omega) (by omega) ?_ | refine ex_u64 _ rfl (by omega) (by omega) ?_ | refine and_mk (by first | omega | (with_reducible rfl) | (show drawOk _ _ _ = true; kernel_rfl)) ?_ | refine and_mk ⟨_, rfl⟩ ?_ | refine ex_is _ (List.length_map _) ?_ | refine ex_is _ List.length_nil ?_ | fail "no step")
  refine ex_loop (X := Nat) (fun q => ⟨[(0, .o (c1 (.sl 1 (intRows (p ++ c :: r))))), (1, .o (c1 (.v (.int .i64 c)))), (7, Ti (p ++ c :: r).length), (8, Ti q)], [], 0⟩) (fun q => p.length + 1 - q) (fun q => q ≤ p.length) 0 (Nat.zero_le _) (SLe.of ⟨⟨rfl, rfl, rfl, rfl, trivial⟩, trivial⟩) ?_
  intro q hq
  have hx : (p ++ c :: r)[q]? = some ((p ++ c :: r)[q]'(by omega)) := at_some (by omega)
  by_cases hqp : q = p.length
  · have he : (p ++ c :: r)[q]'(by omega) = c := by subst hqp; simp
    rw [he] at hx
    repeat' (first | refine (ex_row q c rfl hx) ?_ | refine ex_true (by first | decide | omega | assumption | (with_reducible exact rfl)) ?_ | refine ex_false (by first | decide | omega | assumption | exact (fun h => h rfl)) ?_ | refine ex_dec (fun _ => ?_) (fun _ => ?_) | refine ex_u8 _ rfl (by omega) (by omega) ?_ | refine ex_i64 _ rfl (by omega) (by omega) ?_ | refine ex_u64 _ rfl (by omega) (by omega) ?_ | refine and_mk (by first | omega | (with_reducible rfl) | (show drawOk _ _ _ = true; kernel_rfl)) ?_ | refine and_mk ⟨_, rfl⟩ ?_ | refine ex_is _ (List.length_map _) ?_ | refine ex_is _ List.length_nil ?_ | fail "no step")
    exact TLe.eq (by rw [hqp]; rfl)
  · have hne : (p ++ c :: r)[q]'(by omega) ≠ c := fun e => hp (by rw [← e, List.getElem_append_left (by omega)]; exact List.getElem_mem _)
    generalize (p ++ c :: r)[q]'(by omega) = z at *
    have hne' : ¬ c = z := fun e => hne e.symm
    repeat' (first | refine (ex_row q z rfl hx) ?_ | refine ex_true (by first | decide | omega | assumption | (with_reducible exact rfl)) ?_ | refine ex_false (by first | decide | omega | assumption | exact (fun h => h rfl)) ?_ | refine ex_dec (fun _ => ?_) (fun _ => ?_) | refine ex_u8 _ rfl (by omega) (by omega) ?_ | refine ex_i64 _ rfl (by omega) (by omega) ?_ | refine ex_u64 _ rfl (by omega) (by omega) ?_ | refine and_mk (by first | omega | (with_reducible rfl) | (show drawOk _ _ _ = true; kernel_rfl)) ?_ | refine and_mk ⟨_, rfl⟩ ?_ | refine ex_is _ (List.length_map _) ?_ | refine ex_is _ List.length_nil ?_ | fail "no step")
    exact ex_round (q + 1) (by show q + 1 ≤ p.length; omega) (by show _ - _ < _ - _; omega) (SLe.of ⟨⟨rfl, rfl, rfl, rfl, trivial⟩, trivial⟩)
theorem intIdx_no (l : List Int) (c : Int) (hp : c ∉ l) (hl : l.length ≤ 1000000000) : CallsA Tryz.prog Γ0 75 [c1 (.sl 1 (intRows l)), c1 (.v (.int .i64 c))] (Ti (-1)) := by
  have hdl : (intRows l).length = l.length := List.length_map _
  refine fn_rule (C := ⟨Tryz.prog, layF, Tryz.f75.ntmps, Γ0, 0, [], []⟩) layF_ok mixed Tryz.func75 rfl (by kernel_rfl) rfl rfl rfl ?_
  repeat' (first | refine (ex_is _ hdl) ?_ | refine ex_true (by first | decide | omega | assumption | (with_reducible exact rfl)) ?_ | refine ex_false (by first | decide | omega | assumption | exact (fun h => h rfl)) ?_ | refine ex_dec (fun _ => ?_) (fun _ => ?_) | refine ex_u8 _ rfl (by omega) (by omega) ?_ | refine ex_i64 _ rfl (by omega) (by omega) ?_ | refine ex_u64 _ rfl (by omega) (by omega) ?_ | refine and_mk (by first | omega | (with_reducible rfl) | (show drawOk _ _ _ = true; kernel_rfl)) ?_ | refine and_mk ⟨_, rfl⟩ ?_ | refine ex_is _ (List.length_map _) ?_ | refine ex_is _ List.length_nil ?_ | fail "no step")
  refine ex_loop (X := Nat) (fun q => ⟨[(0, .o (c1 (.sl 1 (intRows l)))), (1, .o (c1 (.v (.int .i64 c)))), (7, Ti l.length), (8, Ti q)], [], 0⟩) (fun q => l.length - q) (fun q => q ≤ l.length) 0 (Nat.zero_le _) (SLe.of ⟨⟨rfl, rfl, rfl, rfl, trivial⟩, trivial⟩) ?_
  intro q hq
  by_cases hqp : q < l.length
  · have hx : l[q]? = some l[q] := at_some hqp
    have hne : l[q] ≠ c := fun e => hp (by rw [← e]; exact List.getElem_mem _)
    generalize l[q] = z at *
    have hne' : ¬ c = z := fun e => hne e.symm
    repeat' (first | refine (ex_row q z rfl hx) ?_ | refine ex_true (by first | decide | omega | assumption | (with_reducible exact rfl)) ?_ | refine ex_false (by first | decide | omega | assumption | exact (fun h => h rfl)) ?_ | refine ex_dec (fun _ => ?_) (fun _ => ?_) | refine ex_u8 _ rfl (by omega) (by omega) ?_ | refine ex_i64 _ rfl (by omega) (by omega) ?_ | refine ex_u64 _ rfl (by omega) (by omega) ?_ | refine and_mk (by first | omega | (with_reducible rfl) | (show drawOk _ _ _ = true; kernel_rfl)) ?_ | refine and_mk ⟨_, rfl⟩ ?_ | refine ex_is _ (List.length_map _) ?_ | refine ex_is _ List.length_nil ?_ | fail "no step")
    exact ex_round (q + 1) (by show q + 1 ≤ l.length; omega) (by show _ - _ < _ - _; omega) (SLe.of ⟨⟨rfl, rfl, rfl, rfl, trivial⟩, trivial⟩)
  · repeat' (first | refine ex_true (by first | decide | omega | assumption | (with_reducible exact rfl)) ?_ | refine ex_false (by first | decide | omega | assumption | exact (fun h => h rfl)) ?_ | refine ex_dec (fun _ => ?_) (fun _ => ?_) | refine ex_u8 _ rfl (by omega) (by omega) ?_ | refine ex_i64 _ rfl (by omega) (by omega) ?_ | refine ex_u64 _ rfl (by omega) (by omega) ?_ | refine and_mk (by first | omega | (with_reducible rfl) | (show drawOk _ _ _ = true; kernel_rfl)) ?_ | refine and_mk ⟨_, rfl⟩ ?_ | refine ex_is _ (List.length_map _) ?_ | refine ex_is _ List.length_nil ?_ | fail "no step")
    exact TLe.rfl
theorem intHas_c (l : List Int) (c : Int) (hl : l.length ≤ 1000000000) : CallsA Tryz.prog Γ0 64 [c1 (.sl 1 (intRows l)), c1 (.v (.int .i64 c))] (Tb (l.contains c)) := by
  by_cases h : c ∈ l
  · rw [List.contains_iff_mem.2 h]
    obtain ⟨p, r, rfl, hp⟩ := List.eq_append_cons_of_mem h
    have h1 := intIdx_hit p r c hp hl
    refine fn_rule (C := ⟨Tryz.prog, layF, Tryz.f64.ntmps, Γ0, 0, [], []⟩) layF_ok mixed Tryz.func64 rfl (by kernel_rfl) rfl rfl rfl ?_
    repeat' (first | refine ex_call h1 ?_ | refine ex_true (by first | decide | omega | assumption | (with_reducible exact rfl)) ?_ | refine ex_false (by first | decide | omega | assumption | exact (fun h => h rfl)) ?_ | refine ex_dec (fun _ => ?_) (fun _ => ?_) | refine ex_u8 _ rfl (by omega) (by omega) ?_ | refine ex_i64 _ rfl (by omega) (by omega) ?_ | refine ex_u64 _ rfl (by omega) (by omega) ?_ | refine and_mk (by first | omega | (with_reducible rfl) | (show drawOk _ _ _ = true; kernel_rfl)) ?_ | refine and_mk ⟨_, rfl⟩ ?_ | refine ex_is _ (List.length_map _) ?_ | refine ex_is _ List.length_nil ?_ | fail "no step")
    exact TLe.rfl
  · rw [show l.contains c = false by simpa using h]
    have h1 := intIdx_no l c h hl
    refine fn_rule (C := ⟨Tryz.prog, layF, Tryz.f64.ntmps, Γ0, 0, [], []⟩) layF_ok mixed Tryz.func64 rfl (by kernel_rfl) rfl rfl rfl ?_
    repeat' (first | refine ex_call h1 ?_ | refine ex_true (by first | decide | omega | assumption | (with_reducible exact rfl)) ?_ | refine ex_false (by first | decide | omega | assumption | exact (fun h => h rfl)) ?_ | refine ex_dec (fun _ => ?_) (fun _ => ?_) | refine ex_u8 _ rfl (by omega) (by omega) ?_ | refine ex_i64 _ rfl (by omega) (by omega) ?_ | refine ex_u64 _ rfl (by omega) (by omega) ?_ | refine and_mk (by first | omega | (with_reducible rfl) | (show drawOk _ _ _ = true; kernel_rfl)) ?_ | refine and_mk ⟨_, rfl⟩ ?_ | refine ex_is _ (List.length_map _) ?_ | refine ex_is _ List.length_nil ?_ | fail "no step")
    exact TLe.rfl
end Go.Proofs.YtgfmbkbiingagaaGreatDoor

namespace Go.Proofs.YtgfmbkbiingagaaGreatDoor
set_option linter.unusedVariables false
set_option linter.unusedSimpArgs false
open Go.RowKit
set_option maxRecDepth 100000

section
variable (fs : List FN) (cs : List IN) (fn : Nat) (fr tt : Int) (g : SG)
theorem come_new {i : Int} {s : SS} (h : g.at i = none) (hl : g.lf.length ≤ 1000000) : CallsM Tryz.prog Γ0 17 (ckM fs cs fn fr tt g) 3 [.c (.ptr 0 0), c1 (di i), gD (ssD s)] (.tup []) (ckN fs cs fn fr tt (g.come i s)) [.row 1 3 (dis (g.come i s).lf)] := by
  have hj := find_none h
  have e2 : g.come i s = { g with kn := g.kn ++ [(i, s)], lf := g.lf ++ [i] } := by unfold SG.come; rw [h]
  rw [e2]
  obtain ⟨k, o, m, w⟩ := s
  have hp : putKV (kvs g.kn) (.int .i64 i) (ssV ⟨k, o, m, w⟩) none = kvs (g.kn ++ [(i, ⟨k, o, m, w⟩)]) := by
    simp [putKV]
  have hap : dis g.lf ++ [[di i]] = dis (g.lf ++ [i]) := by simp
  have hdl : (dis g.lf).length = g.lf.length := List.length_map _
  refine fn_ruleM (C := ⟨Tryz.prog, layF, Tryz.f17.ntmps, Γ0, 3, [], []⟩) layF_ok mixed Tryz.func17 rfl (by kernel_rfl) rfl rfl rfl ?_
  repeat' (first | refine (ex_is _ hap) ?_ | refine (ex_app g.lf.length 1 100 hdl rfl rfl (by omega)) ?_ | refine (ex_is _ hp) ?_ | refine (ex_find hj) ?_ | refine ex_true (by first | decide | omega | assumption | (with_reducible exact rfl)) ?_ | refine ex_false (by first | decide | omega | assumption | exact (fun h => h rfl)) ?_ | refine ex_dec (fun _ => ?_) (fun _ => ?_) | refine ex_u8 _ rfl (by omega) (by omega) ?_ | refine ex_i64 _ rfl (by omega) (by omega) ?_ | refine ex_u64 _ rfl (by omega) (by omega) ?_ | refine and_mk (by first | omega | (with_reducible rfl) | (show drawOk _ _ _ = true; kernel_rfl)) ?_ | refine and_mk ⟨_, rfl⟩ ?_ | refine ex_is _ (List.length_map _) ?_ | refine ex_is _ List.length_nil ?_ | fail "no step")
  exact ⟨rfl, TLe.rfl, rfl, rfl⟩
theorem come_c (i : Int) (s : SS) (hl : g.lf.length ≤ 1000000) : CallsM Tryz.prog Γ0 17 (ckM fs cs fn fr tt g) 3 [.c (.ptr 0 0), c1 (di i), gD (ssD s)] (.tup []) (ckN fs cs fn fr tt (g.come i s)) [.row 1 3 (dis (g.come i s).lf)] := by
  cases h : g.at i with
  | none => exact come_new fs cs fn fr tt g h hl
  | some t => exact (come_old fs cs fn fr tt g h).fork 2 (by decide) (b := .row 1 3 (dis (g.come i s).lf)) (b0 := .row 1 3 (dis g.lf)) (by simp) rfl (by simp) rfl (fun _ => rfl) (fun _ => rfl) (fun _ _ => rfl) (by simp [Blk.men, CV.men]) (by simp)
theorem inside_c (s : SS) (hs : s.o.length ≤ 1000000) : CallsA Tryz.prog Γ0 43 [gD (ssD s)] (Tb (insideV s)) := by
  obtain ⟨k, o, m, w⟩ := s
  have h1 := byteHas_c o 111 (by simp only at hs; omega)
  have h2 : ((⟨#[111]⟩ : ByteArray).data.toList)[0]? = some 111 := rfl
  unfold insideV
  dsimp only
  refine fn_rule (C := ⟨Tryz.prog, layF, Tryz.f43.ntmps, Γ0, 0, [], []⟩) layF_ok mixed Tryz.func43 rfl (by kernel_rfl) rfl rfl rfl ?_
  repeat' (first | refine ex_call h1 ?_ | refine (ex_chr 0 111 rfl h2) ?_ | refine ex_true (by first | decide | omega | assumption | (with_reducible exact rfl)) ?_ | refine ex_false (by first | decide | omega | assumption | exact (fun h => h rfl)) ?_ | refine ex_dec (fun _ => ?_) (fun _ => ?_) | refine ex_u8 _ rfl (by omega) (by omega) ?_ | refine ex_i64 _ rfl (by omega) (by omega) ?_ | refine ex_u64 _ rfl (by omega) (by omega) ?_ | refine and_mk (by first | omega | (with_reducible rfl) | (show drawOk _ _ _ = true; kernel_rfl)) ?_ | refine and_mk ⟨_, rfl⟩ ?_ | refine ex_is _ (List.length_map _) ?_ | refine ex_is _ List.length_nil ?_ | fail "no step")
  exact TLe.rfl
theorem good_c (n : Int) : CallsA Tryz.prog Γ0 51 [c1 (di n)] (Tb (sizeV n)) := by
  have h1 := intHas_c [1, 2, 3, 4, 8] n (by decide)
  have e : [1, 2, 3, 4, 8].contains n = sizeV n := by
    unfold sizeV
    simp [List.contains_cons, Bool.or_assoc]
  rw [e] at h1
  refine fn_rule (C := ⟨Tryz.prog, layF, Tryz.f51.ntmps, Γ0, 0, [], []⟩) layF_ok mixed Tryz.func51 rfl (by kernel_rfl) rfl rfl rfl ?_
  repeat' (first | refine ex_call h1 ?_ | refine ex_true (by first | decide | omega | assumption | (with_reducible exact rfl)) ?_ | refine ex_false (by first | decide | omega | assumption | exact (fun h => h rfl)) ?_ | refine ex_dec (fun _ => ?_) (fun _ => ?_) | refine ex_u8 _ rfl (by omega) (by omega) ?_ | refine ex_i64 _ rfl (by omega) (by omega) ?_ | refine ex_u64 _ rfl (by omega) (by omega) ?_ | refine and_mk (by first | omega | (with_reducible rfl) | (show drawOk _ _ _ = true; kernel_rfl)) ?_ | refine and_mk ⟨_, rfl⟩ ?_ | refine ex_is _ (List.length_map _) ?_ | refine ex_is _ List.length_nil ?_ | fail "no step")
  exact TLe.rfl
theorem ctakes_c {x : IN} {f : FN} (hx : x.o = 28 → ∃ k : Nat, x.a = k ∧ fs[k]? = some f) : CallsM Tryz.prog ΓC 40 (ckM fs cs fn fr tt g) 3 [.c (.ptr 0 0), gD (inD x)] (Ti (takesV fs x)) (ckM fs cs fn fr tt g) [] := by
  have ht := takes_c x.o
  obtain ⟨o, a, b, n⟩ := x
  unfold takesV
  dsimp only at *
  change CallsM _ _ _ _ _ [_, gD [di o, di a, di b, du n]] _ _ _
  by_cases h28 : o = 28
  · obtain ⟨k, rfl, hk⟩ := hx h28
    rw [if_pos h28, Int.toNat_natCast, List.getD, hk]
    refine fn_ruleM (C := ⟨Tryz.prog, layF, Tryz.f40.ntmps, ΓC, 3, [], []⟩) layF_ok mixed Tryz.func40 rfl (by kernel_rfl) rfl rfl rfl ?_
    repeat' (first | refine ex_call ht ?_ | refine (ex_row k f rfl hk) ?_ | refine ex_true (by first | decide | omega | assumption | (with_reducible exact rfl)) ?_ | refine ex_false (by first | decide | omega | assumption | exact (fun h => h rfl)) ?_ | refine ex_dec (fun _ => ?_) (fun _ => ?_) | refine ex_u8 _ rfl (by omega) (by omega) ?_ | refine ex_i64 _ rfl (by omega) (by omega) ?_ | refine ex_u64 _ rfl (by omega) (by omega) ?_ | refine and_mk (by first | omega | (with_reducible rfl) | (show drawOk _ _ _ = true; kernel_rfl)) ?_ | refine and_mk ⟨_, rfl⟩ ?_ | refine ex_is _ (List.length_map _) ?_ | refine ex_is _ List.length_nil ?_ | fail "no step")
    exact ⟨rfl, TLe.rfl, rfl, rfl⟩
  · rw [if_neg h28]
    refine fn_ruleM (C := ⟨Tryz.prog, layF, Tryz.f40.ntmps, ΓC, 3, [], []⟩) layF_ok mixed Tryz.func40 rfl (by kernel_rfl) rfl rfl rfl ?_
    repeat' (first | refine ex_call ht ?_ | refine ex_true (by first | decide | omega | assumption | (with_reducible exact rfl)) ?_ | refine ex_false (by first | decide | omega | assumption | exact (fun h => h rfl)) ?_ | refine ex_dec (fun _ => ?_) (fun _ => ?_) | refine ex_u8 _ rfl (by omega) (by omega) ?_ | refine ex_i64 _ rfl (by omega) (by omega) ?_ | refine ex_u64 _ rfl (by omega) (by omega) ?_ | refine and_mk (by first | omega | (with_reducible rfl) | (show drawOk _ _ _ = true; kernel_rfl)) ?_ | refine and_mk ⟨_, rfl⟩ ?_ | refine ex_is _ (List.length_map _) ?_ | refine ex_is _ List.length_nil ?_ | fail "no step")
    exact ⟨rfl, TLe.rfl, rfl, rfl⟩
end
end Go.Proofs.YtgfmbkbiingagaaGreatDoor

namespace Go.Proofs.YtgfmbkbiingagaaGreatDoor
set_option linter.unusedVariables false
set_option linter.unusedSimpArgs false
open Go.RowKit
set_option maxRecDepth 100000

theorem name_ne (o : Int) : (bs (opF o).1 = ByteArray.empty) = ¬ (0 ≤ o ∧ o < 36) := by
  by_cases h : 0 ≤ o ∧ o < 36
  · have h1 : (opF o).1 ≠ [] := by
      unfold opF
      rw [if_pos h]
      have hk : o.toNat < 36 := by omega
      generalize o.toNat = k at *
      have : ∀ k : Fin 36, (opsL.getD k.1 noneR).1 ≠ [] := by decide
      exact this ⟨k, hk⟩
    simp only [h, and_self, not_true, eq_iff_iff, iff_false]
    intro e
    have := congrArg (fun b => b.data.toList) e
    exact h1 (by simpa using this)
  · unfold opF
    rw [if_neg h]
    simp only [h, not_false_eq_true, eq_iff_iff, iff_true]
    rfl
section
variable (fs : List FN) (cs : List IN) (fn : Nat) (fr tt : Int) (g : SG)
set_option maxHeartbeats 4000000 in
theorem numbers_c' {f : FN} (hf : fs[fn]? = some f) (x : IN) : CallsM Tryz.prog ΓC 39 (ckM fs cs fn fr tt g) 3 [.c (.ptr 0 0), gD (inD x)] (Tb (numbersV f fn fr tt x)) (ckM fs cs fn fr tt g) [] := by
  obtain ⟨o, a, b, n⟩ := x
  change CallsM _ _ _ _ _ [_, gD [di o, di a, di b, du n]] _ _ _
  have ha : CallsM Tryz.prog ΓC 49 (ckM fs cs fn fr tt g) 4 [.c (.ptr 0 0), c1 (di a)] (Tb (slotV f a)) (ckM fs cs fn fr tt g) [] := ((slot_c fs cs fn fr tt g hf a).of0 (Γ := ΓC)).ren [0, 1, 2] 4 rfl rfl rfl rfl
  have hb : CallsM Tryz.prog ΓC 49 (ckM fs cs fn fr tt g) 4 [.c (.ptr 0 0), c1 (di b)] (Tb (slotV f b)) (ckM fs cs fn fr tt g) [] := ((slot_c fs cs fn fr tt g hf b).of0 (Γ := ΓC)).ren [0, 1, 2] 4 rfl rfl rfl rfl
  have hpa : CallsM Tryz.prog ΓC 33 (ckM fs cs fn fr tt g) 4 [.c (.ptr 0 0), c1 (di a)] (Tb (placeV fr tt a)) (ckM fs cs fn fr tt g) [] := ((place_c fs cs fn fr tt g a).of0 (Γ := ΓC)).ren [0, 1, 2] 4 rfl rfl rfl rfl
  have hpb : CallsM Tryz.prog ΓC 33 (ckM fs cs fn fr tt g) 4 [.c (.ptr 0 0), c1 (di b)] (Tb (placeV fr tt b)) (ckM fs cs fn fr tt g) [] := ((place_c fs cs fn fr tt g b).of0 (Γ := ΓC)).ren [0, 1, 2] 4 rfl rfl rfl rfl
  have hea := (err_c a).of0 (Γ := ΓC)
  have heb := (err_c b).of0 (Γ := ΓC)
  have hg := (good_c a).of0 (Γ := ΓC)
  have hal := alus_c
  have hn := name_c o
  have hne := name_ne o
  have h17 : alusL.length = 17 := rfl
  unfold numbersV
  dsimp only at *
  generalize slotV f a = sa at *
  generalize slotV f b = sb at *
  generalize placeV fr tt a = qa at *
  generalize placeV fr tt b = qb at *
  generalize errV a = ea at *
  generalize errV b = eb at *
  generalize sizeV a = za at *
  by_cases g0 : o = 1 ∨ o = 2 ∨ o = 23 ∨ o = 24 ∨ o = 26
  · rw [if_pos g0]
    rcases g0 with rfl | rfl | rfl | rfl | rfl
    all_goals (
      refine fn_ruleM (C := ⟨Tryz.prog, layF, Tryz.f39.ntmps, ΓC, 3, [], []⟩) layF_ok mixed Tryz.func39 rfl (by kernel_rfl) rfl rfl rfl ?_
      repeat' (first | refine ex_callMB ha (fun _ => ?_) (fun _ => ?_) | refine ex_true (by first | decide | omega | assumption | (with_reducible exact rfl)) ?_ | refine ex_false (by first | decide | omega | assumption | exact (fun h => h rfl)) ?_ | refine ex_dec (fun _ => ?_) (fun _ => ?_) | refine ex_u8 _ rfl (by omega) (by omega) ?_ | refine ex_i64 _ rfl (by omega) (by omega) ?_ | refine ex_u64 _ rfl (by omega) (by omega) ?_ | refine and_mk (by first | omega | (with_reducible rfl) | (show drawOk _ _ _ = true; kernel_rfl)) ?_ | refine and_mk ⟨_, rfl⟩ ?_ | refine ex_is _ (List.length_map _) ?_ | refine ex_is _ List.length_nil ?_ | fail "no step")
      )
    all_goals first | exact ⟨rfl, TLe.eq (by rw [decide_eq_true (by omega)]; first | rfl | (simp [*]; rfl)), rfl, rfl⟩ | exact ⟨rfl, TLe.eq (by rw [decide_eq_false (by omega)]; first | rfl | (simp [*]; rfl)), rfl, rfl⟩ | exact ⟨rfl, TLe.eq (by simp [*] <;> rfl), rfl, rfl⟩
  rw [if_neg g0]
  by_cases g1 : o = 32 ∨ o = 33 ∨ o = 34
  · rw [if_pos g1]
    rcases g1 with rfl | rfl | rfl
    all_goals (
      refine fn_ruleM (C := ⟨Tryz.prog, layF, Tryz.f39.ntmps, ΓC, 3, [], []⟩) layF_ok mixed Tryz.func39 rfl (by kernel_rfl) rfl rfl rfl ?_
      repeat' (first | refine ex_callMB hb (fun _ => ?_) (fun _ => ?_) | refine ex_callMB ha (fun _ => ?_) (fun _ => ?_) | refine ex_true (by first | decide | omega | assumption | (with_reducible exact rfl)) ?_ | refine ex_false (by first | decide | omega | assumption | exact (fun h => h rfl)) ?_ | refine ex_dec (fun _ => ?_) (fun _ => ?_) | refine ex_u8 _ rfl (by omega) (by omega) ?_ | refine ex_i64 _ rfl (by omega) (by omega) ?_ | refine ex_u64 _ rfl (by omega) (by omega) ?_ | refine and_mk (by first | omega | (with_reducible rfl) | (show drawOk _ _ _ = true; kernel_rfl)) ?_ | refine and_mk ⟨_, rfl⟩ ?_ | refine ex_is _ (List.length_map _) ?_ | refine ex_is _ List.length_nil ?_ | fail "no step")
      )
    all_goals first | exact ⟨rfl, TLe.eq (by rw [decide_eq_true (by omega)]; first | rfl | (simp [*]; rfl)), rfl, rfl⟩ | exact ⟨rfl, TLe.eq (by rw [decide_eq_false (by omega)]; first | rfl | (simp [*]; rfl)), rfl, rfl⟩ | exact ⟨rfl, TLe.eq (by simp [*] <;> rfl), rfl, rfl⟩
  rw [if_neg g1]
  by_cases g2 : o = 4
  · rw [if_pos g2]
    subst g2
    all_goals (
      refine fn_ruleM (C := ⟨Tryz.prog, layF, Tryz.f39.ntmps, ΓC, 3, [], []⟩) layF_ok mixed Tryz.func39 rfl (by kernel_rfl) rfl rfl rfl ?_
      repeat' (first | refine ex_call hal ?_ | refine ex_true (by first | decide | omega | assumption | (with_reducible exact rfl)) ?_ | refine ex_false (by first | decide | omega | assumption | exact (fun h => h rfl)) ?_ | refine ex_dec (fun _ => ?_) (fun _ => ?_) | refine ex_u8 _ rfl (by omega) (by omega) ?_ | refine ex_i64 _ rfl (by omega) (by omega) ?_ | refine ex_u64 _ rfl (by omega) (by omega) ?_ | refine and_mk (by first | omega | (with_reducible rfl) | (show drawOk _ _ _ = true; kernel_rfl)) ?_ | refine and_mk ⟨_, rfl⟩ ?_ | refine ex_is _ (List.length_map _) ?_ | refine ex_is _ List.length_nil ?_ | fail "no step")
      )
    all_goals first | exact ⟨rfl, TLe.eq (by rw [decide_eq_true (by omega)]; first | rfl | (simp [*]; rfl)), rfl, rfl⟩ | exact ⟨rfl, TLe.eq (by rw [decide_eq_false (by omega)]; first | rfl | (simp [*]; rfl)), rfl, rfl⟩ | exact ⟨rfl, TLe.eq (by simp [*] <;> rfl), rfl, rfl⟩
  rw [if_neg g2]
  by_cases g3 : o = 6 ∨ o = 7
  · rw [if_pos g3]
    rcases g3 with rfl | rfl
    all_goals (
      refine fn_ruleM (C := ⟨Tryz.prog, layF, Tryz.f39.ntmps, ΓC, 3, [], []⟩) layF_ok mixed Tryz.func39 rfl (by kernel_rfl) rfl rfl rfl ?_
      repeat' (first | refine ex_callB hg (fun _ => ?_) (fun _ => ?_) | refine ex_true (by first | decide | omega | assumption | (with_reducible exact rfl)) ?_ | refine ex_false (by first | decide | omega | assumption | exact (fun h => h rfl)) ?_ | refine ex_dec (fun _ => ?_) (fun _ => ?_) | refine ex_u8 _ rfl (by omega) (by omega) ?_ | refine ex_i64 _ rfl (by omega) (by omega) ?_ | refine ex_u64 _ rfl (by omega) (by omega) ?_ | refine and_mk (by first | omega | (with_reducible rfl) | (show drawOk _ _ _ = true; kernel_rfl)) ?_ | refine and_mk ⟨_, rfl⟩ ?_ | refine ex_is _ (List.length_map _) ?_ | refine ex_is _ List.length_nil ?_ | fail "no step")
      )
    all_goals first | exact ⟨rfl, TLe.eq (by rw [decide_eq_true (by omega)]; first | rfl | (simp [*]; rfl)), rfl, rfl⟩ | exact ⟨rfl, TLe.eq (by rw [decide_eq_false (by omega)]; first | rfl | (simp [*]; rfl)), rfl, rfl⟩ | exact ⟨rfl, TLe.eq (by simp [*] <;> rfl), rfl, rfl⟩
  rw [if_neg g3]
  by_cases g4 : o = 8
  · rw [if_pos g4]
    subst g4
    all_goals (
      refine fn_ruleM (C := ⟨Tryz.prog, layF, Tryz.f39.ntmps, ΓC, 3, [], []⟩) layF_ok mixed Tryz.func39 rfl (by kernel_rfl) rfl rfl rfl ?_
      repeat' (first | refine ex_true (by first | decide | omega | assumption | (with_reducible exact rfl)) ?_ | refine ex_false (by first | decide | omega | assumption | exact (fun h => h rfl)) ?_ | refine ex_dec (fun _ => ?_) (fun _ => ?_) | refine ex_u8 _ rfl (by omega) (by omega) ?_ | refine ex_i64 _ rfl (by omega) (by omega) ?_ | refine ex_u64 _ rfl (by omega) (by omega) ?_ | refine and_mk (by first | omega | (with_reducible rfl) | (show drawOk _ _ _ = true; kernel_rfl)) ?_ | refine and_mk ⟨_, rfl⟩ ?_ | refine ex_is _ (List.length_map _) ?_ | refine ex_is _ List.length_nil ?_ | fail "no step")
      )
    all_goals first | exact ⟨rfl, TLe.eq (by rw [decide_eq_true (by omega)]; first | rfl | (simp [*]; rfl)), rfl, rfl⟩ | exact ⟨rfl, TLe.eq (by rw [decide_eq_false (by omega)]; first | rfl | (simp [*]; rfl)), rfl, rfl⟩ | exact ⟨rfl, TLe.eq (by simp [*] <;> rfl), rfl, rfl⟩
  rw [if_neg g4]
  by_cases g5 : o = 20 ∨ o = 21 ∨ o = 22
  · rw [if_pos g5]
    rcases g5 with rfl | rfl | rfl
    all_goals (
      refine fn_ruleM (C := ⟨Tryz.prog, layF, Tryz.f39.ntmps, ΓC, 3, [], []⟩) layF_ok mixed Tryz.func39 rfl (by kernel_rfl) rfl rfl rfl ?_
      repeat' (first | refine ex_callMB hpa (fun _ => ?_) (fun _ => ?_) | refine ex_true (by first | decide | omega | assumption | (with_reducible exact rfl)) ?_ | refine ex_false (by first | decide | omega | assumption | exact (fun h => h rfl)) ?_ | refine ex_dec (fun _ => ?_) (fun _ => ?_) | refine ex_u8 _ rfl (by omega) (by omega) ?_ | refine ex_i64 _ rfl (by omega) (by omega) ?_ | refine ex_u64 _ rfl (by omega) (by omega) ?_ | refine and_mk (by first | omega | (with_reducible rfl) | (show drawOk _ _ _ = true; kernel_rfl)) ?_ | refine and_mk ⟨_, rfl⟩ ?_ | refine ex_is _ (List.length_map _) ?_ | refine ex_is _ List.length_nil ?_ | fail "no step")
      )
    all_goals first | exact ⟨rfl, TLe.eq (by rw [decide_eq_true (by omega)]; first | rfl | (simp [*]; rfl)), rfl, rfl⟩ | exact ⟨rfl, TLe.eq (by rw [decide_eq_false (by omega)]; first | rfl | (simp [*]; rfl)), rfl, rfl⟩ | exact ⟨rfl, TLe.eq (by simp [*] <;> rfl), rfl, rfl⟩
  rw [if_neg g5]
  by_cases g6 : o = 25
  · rw [if_pos g6]
    subst g6
    all_goals (
      refine fn_ruleM (C := ⟨Tryz.prog, layF, Tryz.f39.ntmps, ΓC, 3, [], []⟩) layF_ok mixed Tryz.func39 rfl (by kernel_rfl) rfl rfl rfl ?_
      repeat' (first | refine ex_callMB hpb (fun _ => ?_) (fun _ => ?_) | refine ex_callMB ha (fun _ => ?_) (fun _ => ?_) | refine ex_true (by first | decide | omega | assumption | (with_reducible exact rfl)) ?_ | refine ex_false (by first | decide | omega | assumption | exact (fun h => h rfl)) ?_ | refine ex_dec (fun _ => ?_) (fun _ => ?_) | refine ex_u8 _ rfl (by omega) (by omega) ?_ | refine ex_i64 _ rfl (by omega) (by omega) ?_ | refine ex_u64 _ rfl (by omega) (by omega) ?_ | refine and_mk (by first | omega | (with_reducible rfl) | (show drawOk _ _ _ = true; kernel_rfl)) ?_ | refine and_mk ⟨_, rfl⟩ ?_ | refine ex_is _ (List.length_map _) ?_ | refine ex_is _ List.length_nil ?_ | fail "no step")
      )
    all_goals first | exact ⟨rfl, TLe.eq (by rw [decide_eq_true (by omega)]; first | rfl | (simp [*]; rfl)), rfl, rfl⟩ | exact ⟨rfl, TLe.eq (by rw [decide_eq_false (by omega)]; first | rfl | (simp [*]; rfl)), rfl, rfl⟩ | exact ⟨rfl, TLe.eq (by simp [*] <;> rfl), rfl, rfl⟩
  rw [if_neg g6]
  by_cases g7 : o = 28
  · rw [if_pos g7]
    subst g7
    all_goals (
      refine fn_ruleM (C := ⟨Tryz.prog, layF, Tryz.f39.ntmps, ΓC, 3, [], []⟩) layF_ok mixed Tryz.func39 rfl (by kernel_rfl) rfl rfl rfl ?_
      repeat' (first | refine ex_true (by first | decide | omega | assumption | (with_reducible exact rfl)) ?_ | refine ex_false (by first | decide | omega | assumption | exact (fun h => h rfl)) ?_ | refine ex_dec (fun _ => ?_) (fun _ => ?_) | refine ex_u8 _ rfl (by omega) (by omega) ?_ | refine ex_i64 _ rfl (by omega) (by omega) ?_ | refine ex_u64 _ rfl (by omega) (by omega) ?_ | refine and_mk (by first | omega | (with_reducible rfl) | (show drawOk _ _ _ = true; kernel_rfl)) ?_ | refine and_mk ⟨_, rfl⟩ ?_ | refine ex_is _ (List.length_map _) ?_ | refine ex_is _ List.length_nil ?_ | fail "no step")
      )
    all_goals first | exact ⟨rfl, TLe.eq (by rw [decide_eq_true (by omega)]; first | rfl | (simp [*]; rfl)), rfl, rfl⟩ | exact ⟨rfl, TLe.eq (by rw [decide_eq_false (by omega)]; first | rfl | (simp [*]; rfl)), rfl, rfl⟩ | exact ⟨rfl, TLe.eq (by simp [*] <;> rfl), rfl, rfl⟩
  rw [if_neg g7]
  by_cases g8 : o = 14
  · rw [if_pos g8]
    subst g8
    all_goals (
      refine fn_ruleM (C := ⟨Tryz.prog, layF, Tryz.f39.ntmps, ΓC, 3, [], []⟩) layF_ok mixed Tryz.func39 rfl (by kernel_rfl) rfl rfl rfl ?_
      repeat' (first | refine ex_true (by first | decide | omega | assumption | (with_reducible exact rfl)) ?_ | refine ex_false (by first | decide | omega | assumption | exact (fun h => h rfl)) ?_ | refine ex_dec (fun _ => ?_) (fun _ => ?_) | refine ex_u8 _ rfl (by omega) (by omega) ?_ | refine ex_i64 _ rfl (by omega) (by omega) ?_ | refine ex_u64 _ rfl (by omega) (by omega) ?_ | refine and_mk (by first | omega | (with_reducible rfl) | (show drawOk _ _ _ = true; kernel_rfl)) ?_ | refine and_mk ⟨_, rfl⟩ ?_ | refine ex_is _ (List.length_map _) ?_ | refine ex_is _ List.length_nil ?_ | fail "no step")
      )
    all_goals first | exact ⟨rfl, TLe.eq (by rw [decide_eq_true (by omega)]; first | rfl | (simp [*]; rfl)), rfl, rfl⟩ | exact ⟨rfl, TLe.eq (by rw [decide_eq_false (by omega)]; first | rfl | (simp [*]; rfl)), rfl, rfl⟩ | exact ⟨rfl, TLe.eq (by simp [*] <;> rfl), rfl, rfl⟩
  rw [if_neg g8]
  by_cases g9 : o = 30
  · rw [if_pos g9]
    subst g9
    all_goals (
      refine fn_ruleM (C := ⟨Tryz.prog, layF, Tryz.f39.ntmps, ΓC, 3, [], []⟩) layF_ok mixed Tryz.func39 rfl (by kernel_rfl) rfl rfl rfl ?_
      repeat' (first | refine ex_callB heb (fun _ => ?_) (fun _ => ?_) | refine ex_callMB ha (fun _ => ?_) (fun _ => ?_) | refine ex_true (by first | decide | omega | assumption | (with_reducible exact rfl)) ?_ | refine ex_false (by first | decide | omega | assumption | exact (fun h => h rfl)) ?_ | refine ex_dec (fun _ => ?_) (fun _ => ?_) | refine ex_u8 _ rfl (by omega) (by omega) ?_ | refine ex_i64 _ rfl (by omega) (by omega) ?_ | refine ex_u64 _ rfl (by omega) (by omega) ?_ | refine and_mk (by first | omega | (with_reducible rfl) | (show drawOk _ _ _ = true; kernel_rfl)) ?_ | refine and_mk ⟨_, rfl⟩ ?_ | refine ex_is _ (List.length_map _) ?_ | refine ex_is _ List.length_nil ?_ | fail "no step")
      )
    all_goals first | exact ⟨rfl, TLe.eq (by rw [decide_eq_true (by omega)]; first | rfl | (simp [*]; rfl)), rfl, rfl⟩ | exact ⟨rfl, TLe.eq (by rw [decide_eq_false (by omega)]; first | rfl | (simp [*]; rfl)), rfl, rfl⟩ | exact ⟨rfl, TLe.eq (by simp [*] <;> rfl), rfl, rfl⟩
  rw [if_neg g9]
  by_cases g10 : o = 31
  · rw [if_pos g10]
    subst g10
    all_goals (
      refine fn_ruleM (C := ⟨Tryz.prog, layF, Tryz.f39.ntmps, ΓC, 3, [], []⟩) layF_ok mixed Tryz.func39 rfl (by kernel_rfl) rfl rfl rfl ?_
      repeat' (first | refine ex_callB hea (fun _ => ?_) (fun _ => ?_) | refine ex_true (by first | decide | omega | assumption | (with_reducible exact rfl)) ?_ | refine ex_false (by first | decide | omega | assumption | exact (fun h => h rfl)) ?_ | refine ex_dec (fun _ => ?_) (fun _ => ?_) | refine ex_u8 _ rfl (by omega) (by omega) ?_ | refine ex_i64 _ rfl (by omega) (by omega) ?_ | refine ex_u64 _ rfl (by omega) (by omega) ?_ | refine and_mk (by first | omega | (with_reducible rfl) | (show drawOk _ _ _ = true; kernel_rfl)) ?_ | refine and_mk ⟨_, rfl⟩ ?_ | refine ex_is _ (List.length_map _) ?_ | refine ex_is _ List.length_nil ?_ | fail "no step")
      )
    all_goals first | exact ⟨rfl, TLe.eq (by rw [decide_eq_true (by omega)]; first | rfl | (simp [*]; rfl)), rfl, rfl⟩ | exact ⟨rfl, TLe.eq (by rw [decide_eq_false (by omega)]; first | rfl | (simp [*]; rfl)), rfl, rfl⟩ | exact ⟨rfl, TLe.eq (by simp [*] <;> rfl), rfl, rfl⟩
  rw [if_neg g10]
  generalize bs (opF o).1 = nm at *
  by_cases hr : 0 ≤ o ∧ o < 36
  · have hnn : ¬ nm = ByteArray.empty := by rw [hne]; exact fun q => q hr
    rw [decide_eq_true hr]
    refine fn_ruleM (C := ⟨Tryz.prog, layF, Tryz.f39.ntmps, ΓC, 3, [], []⟩) layF_ok mixed Tryz.func39 rfl (by kernel_rfl) rfl rfl rfl ?_
    repeat' (first | refine ex_call hn ?_ | refine ex_true (by first | decide | omega | assumption | (with_reducible exact rfl)) ?_ | refine ex_false (by first | decide | omega | assumption | exact (fun h => h rfl)) ?_ | refine ex_dec (fun _ => ?_) (fun _ => ?_) | refine ex_u8 _ rfl (by omega) (by omega) ?_ | refine ex_i64 _ rfl (by omega) (by omega) ?_ | refine ex_u64 _ rfl (by omega) (by omega) ?_ | refine and_mk (by first | omega | (with_reducible rfl) | (show drawOk _ _ _ = true; kernel_rfl)) ?_ | refine and_mk ⟨_, rfl⟩ ?_ | refine ex_is _ (List.length_map _) ?_ | refine ex_is _ List.length_nil ?_ | fail "no step")
    exact ⟨rfl, TLe.rfl, rfl, rfl⟩
  · have hnn : nm = ByteArray.empty := by rw [hne]; exact hr
    subst hnn
    rw [decide_eq_false hr]
    refine fn_ruleM (C := ⟨Tryz.prog, layF, Tryz.f39.ntmps, ΓC, 3, [], []⟩) layF_ok mixed Tryz.func39 rfl (by kernel_rfl) rfl rfl rfl ?_
    repeat' (first | refine ex_call hn ?_ | refine ex_true (by first | decide | omega | assumption | (with_reducible exact rfl)) ?_ | refine ex_false (by first | decide | omega | assumption | exact (fun h => h rfl)) ?_ | refine ex_dec (fun _ => ?_) (fun _ => ?_) | refine ex_u8 _ rfl (by omega) (by omega) ?_ | refine ex_i64 _ rfl (by omega) (by omega) ?_ | refine ex_u64 _ rfl (by omega) (by omega) ?_ | refine and_mk (by first | omega | (with_reducible rfl) | (show drawOk _ _ _ = true; kernel_rfl)) ?_ | refine and_mk ⟨_, rfl⟩ ?_ | refine ex_is _ (List.length_map _) ?_ | refine ex_is _ List.length_nil ?_ | fail "no step")
    exact ⟨rfl, TLe.rfl, rfl, rfl⟩
end
end Go.Proofs.YtgfmbkbiingagaaGreatDoor

namespace Go.Proofs.YtgfmbkbiingagaaGreatDoor
set_option linter.unusedVariables false
set_option linter.unusedSimpArgs false
open Go.RowKit
set_option maxRecDepth 100000

theorem ext_drop (r : List UInt8) (n : Nat) (h : n ≤ r.length) : (bs r).extract (n : Int).toNat ((bs r).size : Int).toNat = bs (r.drop n) := by
  apply ByteArray.ext
  rw [ByteArray.data_extract, Int.toNat_natCast, Int.toNat_natCast, bs_size]
  apply Array.ext'
  simp only [List.extract_toArray, List.extract_eq_take_drop]
  exact List.take_of_length_le (by simp)
theorem ext_take (r : List UInt8) (n : Nat) : (bs r).extract (0 : Int).toNat (n : Int).toNat = bs (r.take n) := by
  apply ByteArray.ext
  rw [ByteArray.data_extract, Int.toNat_natCast]
  apply Array.ext'
  simp [List.extract_eq_take_drop]
theorem opens_two (o : Int) : ((opensV o).2 = [] ∨ ∃ c, (opensV o).2 = [c]) ∧ ((opensV o).1 = [] ∨ ∃ c, (opensV o).1 = [c]) := by
  unfold opensV
  repeat' split
  all_goals simp
theorem bs_nil {l : List UInt8} : bs l = ByteArray.empty ↔ l = [] := ⟨fun h => by
  have := congrArg (fun b => b.data.toList) h
  simpa using this, fun h => by rw [h]; rfl⟩
theorem numbers_call {f : FN} {fn : Nat} {fr tt : Int} {x : IN} (h : numbersV f fn fr tt x = true) (h28 : x.o = 28) : 0 ≤ x.a ∧ x.a < fn := by
  unfold numbersV at h
  rw [h28] at h
  simpa using h
section
variable (fs : List FN) (cs : List IN) (fn : Nat) (fr tt : Int) (g : SG)
set_option maxHeartbeats 4000000 in
theorem fits_c {f : FN} (hf : fs[fn]? = some f) (hfl : fs.length ≤ 1000000) (x : IN) (s : SS) (hs : s.o.length ≤ 1000000) : CallsM Tryz.prog ΓC 30 (ckM fs cs fn fr tt g) 3 [.c (.ptr 0 0), gD (inD x), gD (ssD s)] (Tb (fitsV fs fn fr tt x s)) (ckM fs cs fn fr tt g) [] := by
  have hN := (numbers_c' fs cs fn fr tt g hf x).ren [0, 1, 2] 5 rfl rfl rfl rfl
  have hlt : fn < fs.length := (List.getElem?_eq_some_iff.1 hf).1
  have hT : numbersV f fn fr tt x = true → CallsM Tryz.prog ΓC 40 (ckM fs cs fn fr tt g) 5 [.c (.ptr 0 0), gD (inD x)] (Ti (takesV fs x)) (ckM fs cs fn fr tt g) [] := fun h => by
    by_cases h28 : x.o = 28
    · obtain ⟨h1, h2⟩ := numbers_call h h28
      have hx : fs[x.a.toNat]? = some (fs[x.a.toNat]'(by omega)) := at_some (by omega)
      exact (ctakes_c fs cs fn fr tt g (x := x) (f := fs[x.a.toNat]'(by omega)) (fun _ => ⟨x.a.toNat, by omega, hx⟩)).ren [0, 1, 2] 5 rfl rfl rfl rfl
    · exact (ctakes_c fs cs fn fr tt g (x := x) (f := zF) (fun h => absurd h h28)).ren [0, 1, 2] 5 rfl rfl rfl rfl
  have hO := (opens_c x.o).of0 (Γ := ΓC)
  have hM := (makes_c x.o).of0 (Γ := ΓC)
  have hI := (inside_c s hs).of0 (Γ := ΓC)
  unfold fitsV
  rw [show fs.getD fn zF = f by rw [List.getD, hf]; rfl]
  obtain ⟨o, a, b, n⟩ := x
  obtain ⟨k, so, m, w⟩ := s
  dsimp only at *
  change CallsM _ _ _ _ _ [_, gD [di o, di a, di b, du n], gD [di k, ds (bs so), db m, db w]] _ _ _
  have hM' : CallsA Tryz.prog ΓC 42 [c1 (di o)] (Tb (makesV o)) := hM
  cases hnv : numbersV f fn fr tt ⟨o, a, b, n⟩ with
  | false =>
    rw [hnv] at hN
    refine fn_ruleM (C := ⟨Tryz.prog, layF, Tryz.f30.ntmps, ΓC, 3, [], []⟩) layF_ok mixed Tryz.func30 rfl (by kernel_rfl) rfl rfl rfl ?_
    repeat' (first | refine (ex_callM hN) ?_ | refine ex_true (by first | decide | omega | assumption | (with_reducible exact rfl)) ?_ | refine ex_false (by first | decide | omega | assumption | exact (fun h => h rfl)) ?_ | refine ex_dec (fun _ => ?_) (fun _ => ?_) | refine ex_u8 _ rfl (by omega) (by omega) ?_ | refine ex_i64 _ rfl (by omega) (by omega) ?_ | refine ex_u64 _ rfl (by omega) (by omega) ?_ | refine and_mk (by first | omega | (with_reducible rfl) | (show drawOk _ _ _ = true; kernel_rfl)) ?_ | refine and_mk ⟨_, rfl⟩ ?_ | refine ex_is _ (List.length_map _) ?_ | refine ex_is _ List.length_nil ?_ | fail "no step")
    exact ⟨rfl, TLe.eq (by rw [if_pos (.inl rfl)]; rfl), rfl, rfl⟩
  | true =>
    replace hT := hT hnv
    rw [hnv] at hN
    generalize htk : takesV fs ⟨o, a, b, n⟩ = tk at *
    obtain ⟨hcl, hop⟩ := opens_two o
    generalize (opensV o).2 = cl at *
    generalize (opensV o).1 = ol at *
    generalize makesV o = mk at *
    generalize hin : insideV ⟨k, so, m, w⟩ = ins at *
    have hsz := bs_size so
    have hss : so ≠ [] → (bs so).extract (((bs so).size : Int) - 1).toNat ((bs so).size : Int).toNat = bs (so.drop (so.length - 1)) := fun h => by
      have h0 : 0 < so.length := List.length_pos_iff.2 h
      have := ext_drop so (so.length - 1) (by omega)
      rw [← this]
      congr 2
      rw [hsz]; omega
    have hne0 : bs so = ByteArray.empty ↔ so = [] := bs_nil
    have hnec : bs cl = ByteArray.empty ↔ cl = [] := bs_nil
    by_cases hk : k < tk
    ·
      refine fn_ruleM (C := ⟨Tryz.prog, layF, Tryz.f30.ntmps, ΓC, 3, [], []⟩) layF_ok mixed Tryz.func30 rfl (by kernel_rfl) rfl rfl rfl ?_
      repeat' (first | refine (ex_callM hT) ?_ | refine (ex_callM hN) ?_ | refine ex_true (by first | decide | omega | assumption | (with_reducible exact rfl)) ?_ | refine ex_false (by first | decide | omega | assumption | exact (fun h => h rfl)) ?_ | refine ex_dec (fun _ => ?_) (fun _ => ?_) | refine ex_u8 _ rfl (by omega) (by omega) ?_ | refine ex_i64 _ rfl (by omega) (by omega) ?_ | refine ex_u64 _ rfl (by omega) (by omega) ?_ | refine and_mk (by first | omega | (with_reducible rfl) | (show drawOk _ _ _ = true; kernel_rfl)) ?_ | refine and_mk ⟨_, rfl⟩ ?_ | refine ex_is _ (List.length_map _) ?_ | refine ex_is _ List.length_nil ?_ | fail "no step")
      exact ⟨rfl, TLe.eq (by rw [if_pos (.inr hk)]; rfl), rfl, rfl⟩
    · rw [if_neg (by simp [hk])]
      refine fn_ruleM (C := ⟨Tryz.prog, layF, Tryz.f30.ntmps, ΓC, 3, [4,6,8,10], []⟩) layF_ok mixed Tryz.func30 rfl (by kernel_rfl) rfl rfl rfl ?_
      repeat' (first | refine ex_call hO ?_ | refine (ex_callM hT) ?_ | refine (ex_callM hN) ?_ | refine ex_true (by first | decide | omega | assumption | (with_reducible exact rfl)) ?_ | refine ex_false (by first | decide | omega | assumption | exact (fun h => h rfl)) ?_ | refine ex_dec (fun _ => ?_) (fun _ => ?_) | refine ex_u8 _ rfl (by omega) (by omega) ?_ | refine ex_i64 _ rfl (by omega) (by omega) ?_ | refine ex_u64 _ rfl (by omega) (by omega) ?_ | refine and_mk (by first | omega | (with_reducible rfl) | (show drawOk _ _ _ = true; kernel_rfl)) ?_ | refine and_mk ⟨_, rfl⟩ ?_ | refine ex_is _ (List.length_map _) ?_ | refine ex_is _ List.length_nil ?_ | fail "no step")
      refine ex_join (X := Bool) (fun v => ⟨[(0, .o (.c (.ptr 0 0))), (4, .o (.c (.ptr 3 0))), (5, .o (.c (.ptr 4 0))), (27, Tb v)], (3, .obj [.d (di o), .d (di a), .d (di b), .d (du n)]) :: (4, .obj [.d (di k), .d (ds (bs so)), .d (db m), .d (db w)]) :: ckM fs cs fn fr tt g, 5⟩) (fun v => (v = true ↔ (cl ≠ [] ∧ lastIs so cl = false))) ?_ ?_
      · have hla : lastIs so cl = false ↔ ¬ (so ≠ [] ∧ so.drop (so.length - 1) = cl) := by simp [lastIs]
        by_cases hc : cl = []
        · subst hc
          repeat' (first | refine ex_true (by first | decide | omega | assumption | (with_reducible exact rfl)) ?_ | refine ex_false (by first | decide | omega | assumption | exact (fun h => h rfl)) ?_ | refine ex_dec (fun _ => ?_) (fun _ => ?_) | refine ex_u8 _ rfl (by omega) (by omega) ?_ | refine ex_i64 _ rfl (by omega) (by omega) ?_ | refine ex_u64 _ rfl (by omega) (by omega) ?_ | refine and_mk (by first | omega | (with_reducible rfl) | (show drawOk _ _ _ = true; kernel_rfl)) ?_ | refine and_mk ⟨_, rfl⟩ ?_ | refine ex_is _ (List.length_map _) ?_ | refine ex_is _ List.length_nil ?_ | fail "no step")
          exact ex_meet false (by simp) (SLe.of ⟨⟨rfl, rfl, rfl, rfl, trivial⟩, ⟨rfl, rfl, rfl, rfl, rfl, trivial⟩⟩)
        · have e1 : ¬ bs cl = ByteArray.empty := fun h => hc (hnec.1 h)
          by_cases hso : so = []
          · subst hso
            repeat' (first | refine ex_true (by first | decide | omega | assumption | (with_reducible exact rfl)) ?_ | refine ex_false (by first | decide | omega | assumption | exact (fun h => h rfl)) ?_ | refine ex_dec (fun _ => ?_) (fun _ => ?_) | refine ex_u8 _ rfl (by omega) (by omega) ?_ | refine ex_i64 _ rfl (by omega) (by omega) ?_ | refine ex_u64 _ rfl (by omega) (by omega) ?_ | refine and_mk (by first | omega | (with_reducible rfl) | (show drawOk _ _ _ = true; kernel_rfl)) ?_ | refine and_mk ⟨_, rfl⟩ ?_ | refine ex_is _ (List.length_map _) ?_ | refine ex_is _ List.length_nil ?_ | fail "no step")
            exact ex_meet true ⟨fun _ => ⟨hc, hla.2 (fun h => h.1 rfl)⟩, fun _ => rfl⟩ (SLe.of ⟨⟨rfl, rfl, rfl, rfl, trivial⟩, ⟨rfl, rfl, rfl, rfl, rfl, trivial⟩⟩)
          · have e2 : ¬ bs so = ByteArray.empty := fun h => hso (hne0.1 h)
            have h1 : 0 < so.length := List.length_pos_iff.2 hso
            have h2 := hss hso
            have h3 : bs (so.drop (so.length - 1)) = bs cl ↔ so.drop (so.length - 1) = cl := ⟨fun h => by have := congrArg (fun b => b.data.toList) h; simpa using this, fun h => by rw [h]⟩
            repeat' (first | refine ex_true (by first | decide | omega | assumption | (with_reducible exact rfl)) ?_ | refine ex_false (by first | decide | omega | assumption | exact (fun h => h rfl)) ?_ | refine ex_dec (fun _ => ?_) (fun _ => ?_) | refine ex_u8 _ rfl (by omega) (by omega) ?_ | refine ex_i64 _ rfl (by omega) (by omega) ?_ | refine ex_u64 _ rfl (by omega) (by omega) ?_ | refine and_mk (by first | omega | (with_reducible rfl) | (show drawOk _ _ _ = true; kernel_rfl)) ?_ | refine and_mk ⟨_, rfl⟩ ?_ | refine ex_is _ (List.length_map _) ?_ | refine ex_is _ List.length_nil ?_ | fail "no step")
            · rename_i x
              simp only [ne_eq, h2, h3] at x
              exact ex_meet true ⟨fun _ => ⟨hc, hla.2 (fun h => x h.2)⟩, fun _ => rfl⟩ (SLe.of ⟨⟨rfl, rfl, rfl, rfl, trivial⟩, ⟨rfl, rfl, rfl, rfl, rfl, trivial⟩⟩)
            · rename_i x
              simp only [ne_eq, h2, h3] at x
              exact ex_meet false ⟨fun h => (by cases h), fun h => absurd ⟨hso, Classical.not_not.1 x⟩ (hla.1 h.2)⟩ (SLe.of ⟨⟨rfl, rfl, rfl, rfl, trivial⟩, ⟨rfl, rfl, rfl, rfl, rfl, trivial⟩⟩)
      · intro v hj
        cases v with
        | true =>
          rw [if_pos (hj.1 rfl)]
          repeat' (first | refine ex_true (by first | decide | omega | assumption | (with_reducible exact rfl)) ?_ | refine ex_false (by first | decide | omega | assumption | exact (fun h => h rfl)) ?_ | refine ex_dec (fun _ => ?_) (fun _ => ?_) | refine ex_u8 _ rfl (by omega) (by omega) ?_ | refine ex_i64 _ rfl (by omega) (by omega) ?_ | refine ex_u64 _ rfl (by omega) (by omega) ?_ | refine and_mk (by first | omega | (with_reducible rfl) | (show drawOk _ _ _ = true; kernel_rfl)) ?_ | refine and_mk ⟨_, rfl⟩ ?_ | refine ex_is _ (List.length_map _) ?_ | refine ex_is _ List.length_nil ?_ | fail "no step")
          exact ⟨rfl, TLe.rfl, rfl, rfl⟩
        | false =>
          rw [if_neg (fun h => by have := hj.2 h; cases this)]
          repeat' (first | refine ex_true (by first | decide | omega | assumption | (with_reducible exact rfl)) ?_ | refine ex_false (by first | decide | omega | assumption | exact (fun h => h rfl)) ?_ | refine ex_dec (fun _ => ?_) (fun _ => ?_) | refine ex_u8 _ rfl (by omega) (by omega) ?_ | refine ex_i64 _ rfl (by omega) (by omega) ?_ | refine ex_u64 _ rfl (by omega) (by omega) ?_ | refine and_mk (by first | omega | (with_reducible rfl) | (show drawOk _ _ _ = true; kernel_rfl)) ?_ | refine and_mk ⟨_, rfl⟩ ?_ | refine ex_is _ (List.length_map _) ?_ | refine ex_is _ List.length_nil ?_ | fail "no step")
          refine ex_join (X := Bool) (fun v => ⟨[(0, .o (.c (.ptr 0 0))), (4, .o (.c (.ptr 3 0))), (5, .o (.c (.ptr 4 0))), (46, Tb v)], (3, .obj [.d (di o), .d (di a), .d (di b), .d (du n)]) :: (4, .obj [.d (di k), .d (ds (bs so)), .d (db m), .d (db w)]) :: ckM fs cs fn fr tt g, 5⟩) (fun v => (v = true ↔ (mk = true ∧ m = true ∧ ins = false))) ?_ ?_
          · cases m
            all_goals (
              repeat' (first | refine ex_callB hI (fun _ => ?_) (fun _ => ?_) | refine ex_callB hM' (fun _ => ?_) (fun _ => ?_) | refine ex_true (by first | decide | omega | assumption | (with_reducible exact rfl)) ?_ | refine ex_false (by first | decide | omega | assumption | exact (fun h => h rfl)) ?_ | refine ex_dec (fun _ => ?_) (fun _ => ?_) | refine ex_u8 _ rfl (by omega) (by omega) ?_ | refine ex_i64 _ rfl (by omega) (by omega) ?_ | refine ex_u64 _ rfl (by omega) (by omega) ?_ | refine and_mk (by first | omega | (with_reducible rfl) | (show drawOk _ _ _ = true; kernel_rfl)) ?_ | refine and_mk ⟨_, rfl⟩ ?_ | refine ex_is _ (List.length_map _) ?_ | refine ex_is _ List.length_nil ?_ | fail "no step")
              )
            all_goals first | exact ex_meet true (by clear hN hT hO hM hM' hI hf; grind) (SLe.of ⟨⟨rfl, rfl, rfl, rfl, trivial⟩, ⟨rfl, rfl, rfl, rfl, rfl, trivial⟩⟩) | exact ex_meet false (by clear hN hT hO hM hM' hI hf; grind) (SLe.of ⟨⟨rfl, rfl, rfl, rfl, trivial⟩, ⟨rfl, rfl, rfl, rfl, rfl, trivial⟩⟩)
          intro v hv
          cases v with
          | true =>
            rw [if_pos (hv.1 rfl)]
            repeat' (first | refine ex_true (by first | decide | omega | assumption | (with_reducible exact rfl)) ?_ | refine ex_false (by first | decide | omega | assumption | exact (fun h => h rfl)) ?_ | refine ex_dec (fun _ => ?_) (fun _ => ?_) | refine ex_u8 _ rfl (by omega) (by omega) ?_ | refine ex_i64 _ rfl (by omega) (by omega) ?_ | refine ex_u64 _ rfl (by omega) (by omega) ?_ | refine and_mk (by first | omega | (with_reducible rfl) | (show drawOk _ _ _ = true; kernel_rfl)) ?_ | refine and_mk ⟨_, rfl⟩ ?_ | refine ex_is _ (List.length_map _) ?_ | refine ex_is _ List.length_nil ?_ | fail "no step")
            exact ⟨rfl, TLe.rfl, rfl, rfl⟩
          | false =>
            rw [if_neg (fun h => by have := hv.2 h; cases this)]
            repeat' (first | refine ex_true (by first | decide | omega | assumption | (with_reducible exact rfl)) ?_ | refine ex_false (by first | decide | omega | assumption | exact (fun h => h rfl)) ?_ | refine ex_dec (fun _ => ?_) (fun _ => ?_) | refine ex_u8 _ rfl (by omega) (by omega) ?_ | refine ex_i64 _ rfl (by omega) (by omega) ?_ | refine ex_u64 _ rfl (by omega) (by omega) ?_ | refine and_mk (by first | omega | (with_reducible rfl) | (show drawOk _ _ _ = true; kernel_rfl)) ?_ | refine and_mk ⟨_, rfl⟩ ?_ | refine ex_is _ (List.length_map _) ?_ | refine ex_is _ List.length_nil ?_ | fail "no step")
            refine ex_join (X := Bool) (fun v => ⟨[(0, .o (.c (.ptr 0 0))), (4, .o (.c (.ptr 3 0))), (5, .o (.c (.ptr 4 0))), (59, Tb v)], (3, .obj [.d (di o), .d (di a), .d (di b), .d (du n)]) :: (4, .obj [.d (di k), .d (ds (bs so)), .d (db m), .d (db w)]) :: ckM fs cs fn fr tt g, 5⟩) (fun v => (v = true ↔ (o = 8 ∧ w = false))) ?_ ?_
            · cases w
              all_goals (
                repeat' (first | refine ex_true (by first | decide | omega | assumption | (with_reducible exact rfl)) ?_ | refine ex_false (by first | decide | omega | assumption | exact (fun h => h rfl)) ?_ | refine ex_dec (fun _ => ?_) (fun _ => ?_) | refine ex_u8 _ rfl (by omega) (by omega) ?_ | refine ex_i64 _ rfl (by omega) (by omega) ?_ | refine ex_u64 _ rfl (by omega) (by omega) ?_ | refine and_mk (by first | omega | (with_reducible rfl) | (show drawOk _ _ _ = true; kernel_rfl)) ?_ | refine and_mk ⟨_, rfl⟩ ?_ | refine ex_is _ (List.length_map _) ?_ | refine ex_is _ List.length_nil ?_ | fail "no step")
                )
              all_goals first | exact ex_meet true (by clear hN hT hO hM hM' hI hf; grind) (SLe.of ⟨⟨rfl, rfl, rfl, rfl, trivial⟩, ⟨rfl, rfl, rfl, rfl, rfl, trivial⟩⟩) | exact ex_meet false (by clear hN hT hO hM hM' hI hf; grind) (SLe.of ⟨⟨rfl, rfl, rfl, rfl, trivial⟩, ⟨rfl, rfl, rfl, rfl, rfl, trivial⟩⟩)
            intro v hv
            cases v with
            | true =>
              rw [if_pos (hv.1 rfl)]
              repeat' (first | refine ex_true (by first | decide | omega | assumption | (with_reducible exact rfl)) ?_ | refine ex_false (by first | decide | omega | assumption | exact (fun h => h rfl)) ?_ | refine ex_dec (fun _ => ?_) (fun _ => ?_) | refine ex_u8 _ rfl (by omega) (by omega) ?_ | refine ex_i64 _ rfl (by omega) (by omega) ?_ | refine ex_u64 _ rfl (by omega) (by omega) ?_ | refine and_mk (by first | omega | (with_reducible rfl) | (show drawOk _ _ _ = true; kernel_rfl)) ?_ | refine and_mk ⟨_, rfl⟩ ?_ | refine ex_is _ (List.length_map _) ?_ | refine ex_is _ List.length_nil ?_ | fail "no step")
              exact ⟨rfl, TLe.rfl, rfl, rfl⟩
            | false =>
              rw [if_neg (fun h => by have := hv.2 h; cases this)]
              repeat' (first | refine ex_true (by first | decide | omega | assumption | (with_reducible exact rfl)) ?_ | refine ex_false (by first | decide | omega | assumption | exact (fun h => h rfl)) ?_ | refine ex_dec (fun _ => ?_) (fun _ => ?_) | refine ex_u8 _ rfl (by omega) (by omega) ?_ | refine ex_i64 _ rfl (by omega) (by omega) ?_ | refine ex_u64 _ rfl (by omega) (by omega) ?_ | refine and_mk (by first | omega | (with_reducible rfl) | (show drawOk _ _ _ = true; kernel_rfl)) ?_ | refine and_mk ⟨_, rfl⟩ ?_ | refine ex_is _ (List.length_map _) ?_ | refine ex_is _ List.length_nil ?_ | fail "no step")
              refine ex_join (X := Bool) (fun v => ⟨[(0, .o (.c (.ptr 0 0))), (4, .o (.c (.ptr 3 0))), (5, .o (.c (.ptr 4 0))), (68, Tb v)], (3, .obj [.d (di o), .d (di a), .d (di b), .d (du n)]) :: (4, .obj [.d (di k), .d (ds (bs so)), .d (db m), .d (db w)]) :: ckM fs cs fn fr tt g, 5⟩) (fun v => (v = true ↔ (o = 29 ∨ o = 35))) ?_ ?_
              · repeat' (first | refine ex_true (by first | decide | omega | assumption | (with_reducible exact rfl)) ?_ | refine ex_false (by first | decide | omega | assumption | exact (fun h => h rfl)) ?_ | refine ex_dec (fun _ => ?_) (fun _ => ?_) | refine ex_u8 _ rfl (by omega) (by omega) ?_ | refine ex_i64 _ rfl (by omega) (by omega) ?_ | refine ex_u64 _ rfl (by omega) (by omega) ?_ | refine and_mk (by first | omega | (with_reducible rfl) | (show drawOk _ _ _ = true; kernel_rfl)) ?_ | refine and_mk ⟨_, rfl⟩ ?_ | refine ex_is _ (List.length_map _) ?_ | refine ex_is _ List.length_nil ?_ | fail "no step")
                all_goals first | exact ex_meet true (by clear hN hT hO hM hM' hI hf; grind) (SLe.of ⟨⟨rfl, rfl, rfl, rfl, trivial⟩, ⟨rfl, rfl, rfl, rfl, rfl, trivial⟩⟩) | exact ex_meet false (by clear hN hT hO hM hM' hI hf; grind) (SLe.of ⟨⟨rfl, rfl, rfl, rfl, trivial⟩, ⟨rfl, rfl, rfl, rfl, rfl, trivial⟩⟩)
              intro v hv
              cases v with
              | false =>
                rw [if_neg (fun h => by have := hv.2 h; cases this)]
                repeat' (first | refine ex_true (by first | decide | omega | assumption | (with_reducible exact rfl)) ?_ | refine ex_false (by first | decide | omega | assumption | exact (fun h => h rfl)) ?_ | refine ex_dec (fun _ => ?_) (fun _ => ?_) | refine ex_u8 _ rfl (by omega) (by omega) ?_ | refine ex_i64 _ rfl (by omega) (by omega) ?_ | refine ex_u64 _ rfl (by omega) (by omega) ?_ | refine and_mk (by first | omega | (with_reducible rfl) | (show drawOk _ _ _ = true; kernel_rfl)) ?_ | refine and_mk ⟨_, rfl⟩ ?_ | refine ex_is _ (List.length_map _) ?_ | refine ex_is _ List.length_nil ?_ | fail "no step")
                exact ⟨rfl, TLe.rfl, rfl, rfl⟩
              | true =>
                rw [if_pos (hv.1 rfl)]
                clear hN hT hO hM hM' hI hf htk hnv hin hss hv hj
                repeat' (first | refine ex_true (by first | decide | omega | assumption | (with_reducible exact rfl)) ?_ | refine ex_false (by first | decide | omega | assumption | exact (fun h => h rfl)) ?_ | refine ex_dec (fun _ => ?_) (fun _ => ?_) | refine ex_u8 _ rfl (by omega) (by omega) ?_ | refine ex_i64 _ rfl (by omega) (by omega) ?_ | refine ex_u64 _ rfl (by omega) (by omega) ?_ | refine and_mk (by first | omega | (with_reducible rfl) | (show drawOk _ _ _ = true; kernel_rfl)) ?_ | refine and_mk ⟨_, rfl⟩ ?_ | refine ex_is _ (List.length_map _) ?_ | refine ex_is _ List.length_nil ?_ | fail "no step")
                all_goals refine ⟨rfl, TLe.eq (show Tb _ = Tb _ from congrArg (fun b => Tb b) ?_), rfl, rfl⟩
                all_goals (cases m <;> grind)
end
end Go.Proofs.YtgfmbkbiingagaaGreatDoor

namespace Go.Proofs.YtgfmbkbiingagaaGreatDoor
set_option linter.unusedVariables false
set_option linter.unusedSimpArgs false
open Go.RowKit
set_option maxRecDepth 100000

section
variable (fs : List FN) (cs : List IN) (fn : Nat) (fr tt : Int)
theorem rtakes_c {x : IN} {f : FN} (hx : x.o = 28 → ∃ k : Nat, x.a = k ∧ fs[k]? = some f) : CallsA Tryz.prog Γ0 24 [gD [.sl 3 (fs.map fnD), .sl 4 (cs.map inD)], gD (inD x)] (.tup [c1 (di (takesV fs x)), c1 (di (opF x.o).2.2.2)]) := by
  have ht := rop_c x.o
  obtain ⟨o, a, b, n⟩ := x
  unfold takesV
  dsimp only at *
  change CallsA _ _ _ [_, gD [di o, di a, di b, du n]] _
  by_cases h28 : o = 28
  · obtain ⟨k, rfl, hk⟩ := hx h28
    rw [if_pos h28, Int.toNat_natCast, List.getD, hk]
    rw [h28, show (opF 28).2.2.2 = 0 from by decide]
    rw [h28, show opF 28 = ([99, 97, 108, 108], 1, 0, 0) from by decide] at ht
    refine fn_rule (C := ⟨Tryz.prog, layF, Tryz.f24.ntmps, Γ0, 0, [], []⟩) layF_ok mixed Tryz.func24 rfl (by kernel_rfl) rfl rfl rfl ?_
    repeat' (first | refine ex_call ht ?_ | refine (ex_is ([di f.p] : List D) rfl) ?_ | refine (ex_row k f rfl hk) ?_ | refine ex_true (by first | decide | omega | assumption | (with_reducible exact rfl)) ?_ | refine ex_false (by first | decide | omega | assumption | exact (fun h => h rfl)) ?_ | refine ex_dec (fun _ => ?_) (fun _ => ?_) | refine ex_u8 _ rfl (by omega) (by omega) ?_ | refine ex_i64 _ rfl (by omega) (by omega) ?_ | refine ex_u64 _ rfl (by omega) (by omega) ?_ | refine and_mk (by first | omega | (with_reducible rfl) | (show drawOk _ _ _ = true; kernel_rfl)) ?_ | refine and_mk ⟨_, rfl⟩ ?_ | refine ex_is _ (List.length_map _) ?_ | refine ex_is _ List.length_nil ?_ | fail "no step")
    exact TLe.rfl
  · rw [if_neg h28]
    generalize opF o = r at *
    obtain ⟨r1, r2, r3, r4⟩ := r
    refine fn_rule (C := ⟨Tryz.prog, layF, Tryz.f24.ntmps, Γ0, 0, [], []⟩) layF_ok mixed Tryz.func24 rfl (by kernel_rfl) rfl rfl rfl ?_
    repeat' (first | refine ex_call ht ?_ | refine ex_true (by first | decide | omega | assumption | (with_reducible exact rfl)) ?_ | refine ex_false (by first | decide | omega | assumption | exact (fun h => h rfl)) ?_ | refine ex_dec (fun _ => ?_) (fun _ => ?_) | refine ex_u8 _ rfl (by omega) (by omega) ?_ | refine ex_i64 _ rfl (by omega) (by omega) ?_ | refine ex_u64 _ rfl (by omega) (by omega) ?_ | refine and_mk (by first | omega | (with_reducible rfl) | (show drawOk _ _ _ = true; kernel_rfl)) ?_ | refine and_mk ⟨_, rfl⟩ ?_ | refine ex_is _ (List.length_map _) ?_ | refine ex_is _ List.length_nil ?_ | fail "no step")
    exact TLe.rfl
/-- The Op that what was opened last is. -/
def topV (o : List UInt8) : Int := match o.getLast? with
  | some c => letO c
  | none => -1
theorem last_drop (o : List UInt8) (c : UInt8) : lastIs o [c] = true ↔ o.getLast? = some c := by
  unfold lastIs
  rw [decide_eq_true_eq, List.getLast?_eq_getElem?]
  constructor
  · rintro ⟨h1, h2⟩
    have := congrArg (fun l => l[0]?) h2
    simpa [List.getElem?_drop] using this
  · intro h
    have hl := (List.getElem?_eq_some_iff.1 h).1
    refine ⟨fun e => by rw [e] at hl; simp at hl, ?_⟩
    apply List.ext_getElem?
    intro i
    rw [List.getElem?_drop]
    cases i with
    | zero => simpa using h
    | succ i => rw [List.getElem?_eq_none (by omega)]; rfl
theorem top_let {o : List UInt8} (ho : LetOk o) {c : UInt8} (hc : c = 111 ∨ c = 119 ∨ c = 97) : lastIs o [c] = true ↔ topV o = letO c := by
  rw [last_drop]
  unfold topV
  cases h : o.getLast? with
  | none =>
    constructor
    · intro h; cases h
    · intro h; exfalso; rcases hc with rfl | rfl | rfl <;> (revert h; decide)
  | some d =>
    have hd := ho d (List.mem_of_getLast? h)
    constructor
    · intro h; injection h with h; rw [h]
    · intro h; rw [letO_inj hd hc h]
theorem top_nil {o : List UInt8} : o = [] ↔ topV o = -1 := by
  unfold topV
  cases h : o.getLast? with
  | none => simpa using h
  | some d =>
    constructor
    · intro e; rw [e] at h; cases h
    · intro e
      exfalso
      have : letO d = -1 := e
      unfold letO at this
      split at this
      · revert this; decide
      · split at this <;> (revert this; decide)
set_option maxHeartbeats 4000000 in
theorem rfits_c {f : FN} (hf : fs[fn]? = some f) (hfl : fs.length ≤ 1000000) (x : IN) (s : SS) (hs : s.o.length ≤ 1000000) (hlo : LetOk s.o) : CallsA Tryz.prog Γ0 14 [gD [.sl 3 (fs.map fnD), .sl 4 (cs.map inD)], c1 (di fn), c1 (di fr), c1 (di tt), gD (inD x), gD (stD s)] (Tb (fitsV fs fn fr tt x s)) := by
  have hN := rnumbers_c fs cs fn fr tt hf x
  have hlt : fn < fs.length := (List.getElem?_eq_some_iff.1 hf).1
  have hfm : (fs.map fnD).length = fs.length := List.length_map _
  have hT : numbersV f fn fr tt x = true → CallsA Tryz.prog Γ0 24 [gD [.sl 3 (fs.map fnD), .sl 4 (cs.map inD)], gD (inD x)] (.tup [c1 (di (takesV fs x)), c1 (di (opF x.o).2.2.2)]) := fun h => by
    by_cases h28 : x.o = 28
    · obtain ⟨h1, h2⟩ := numbers_call h h28
      have hx : fs[x.a.toNat]? = some (fs[x.a.toNat]'(by omega)) := at_some (by omega)
      exact rtakes_c fs cs (x := x) (f := fs[x.a.toNat]'(by omega)) (fun _ => ⟨x.a.toNat, by omega, hx⟩)
    · exact rtakes_c fs cs (x := x) (f := zF) (fun h => absurd h h28)
  have hI := rinside_c s hs hlo
  have hL : CallsA Tryz.prog Γ0 27 [gD (stD s)] (Ti (topV s.o)) := rlast_c s hs
  have hM := rmakes_c x.o
  have e1 := top_let hlo (c := 111) (by decide)
  have e2 := top_let hlo (c := 119) (by decide)
  have e3 := top_let hlo (c := 97) (by decide)
  rw [show letO 111 = 14 from rfl] at e1
  rw [show letO 119 = 16 from rfl] at e2
  rw [show letO 97 = 18 from rfl] at e3
  have e4 : s.o = [] ↔ topV s.o = -1 := top_nil
  have hcl : ((opensV x.o).2 ≠ [] ∧ lastIs s.o (opensV x.o).2 = false) ↔ ((x.o = 15 ∧ topV s.o ≠ 14) ∨ (x.o = 17 ∧ topV s.o ≠ 16) ∨ (x.o = 19 ∧ topV s.o ≠ 18)) := by
    rw [← Bool.not_eq_true]
    unfold opensV
    by_cases h1 : x.o = 15
    · simp [h1, e1]
    · by_cases h2 : x.o = 17
      · simp [h2, e2]
      · by_cases h3 : x.o = 19
        · simp [h3, e3]
        · simp only [h1, h2, h3, if_false, false_and, or_false, iff_false]
          repeat' split
          all_goals simp
  unfold fitsV
  rw [show fs.getD fn zF = f by rw [List.getD, hf]; rfl]
  simp only [hcl, e4]
  clear e1 e2 e3 e4 hcl
  obtain ⟨o, a, b, n⟩ := x
  obtain ⟨k, so, m, w⟩ := s
  dsimp only at *
  change CallsA _ _ _ [_, _, _, _, gD [di o, di a, di b, du n], gD [db true, di k, opD so, db m, db w]] _
  change CallsA Tryz.prog Γ0 27 [gD [db true, di k, opD so, db m, db w]] _ at hL
  change CallsA Tryz.prog Γ0 25 [gD [db true, di k, opD so, db m, db w]] _ at hI
  generalize opD so = od at *
  generalize topV so = tz at *
  generalize takesV fs ⟨o, a, b, n⟩ = tk at *
  generalize makesV o = mk at *
  generalize insideV ⟨k, so, m, w⟩ = ins at *
  cases hnv : numbersV f fn fr tt ⟨o, a, b, n⟩ with
  | false =>
    rw [hnv] at hN
    refine fn_rule (C := ⟨Tryz.prog, layF, Tryz.f14.ntmps, Γ0, 0, [], []⟩) layF_ok mixed Tryz.func14 rfl (by kernel_rfl) rfl rfl rfl ?_
    repeat' (first | refine ex_call hN ?_ | refine ex_true (by first | decide | omega | assumption | (with_reducible exact rfl)) ?_ | refine ex_false (by first | decide | omega | assumption | exact (fun h => h rfl)) ?_ | refine ex_dec (fun _ => ?_) (fun _ => ?_) | refine ex_u8 _ rfl (by omega) (by omega) ?_ | refine ex_i64 _ rfl (by omega) (by omega) ?_ | refine ex_u64 _ rfl (by omega) (by omega) ?_ | refine and_mk (by first | omega | (with_reducible rfl) | (show drawOk _ _ _ = true; kernel_rfl)) ?_ | refine and_mk ⟨_, rfl⟩ ?_ | refine ex_is _ (List.length_map _) ?_ | refine ex_is _ List.length_nil ?_ | fail "no step")
    exact TLe.eq (by rw [if_pos (.inl rfl)]; rfl)
  | true =>
    replace hT := hT hnv
    rw [hnv] at hN
    by_cases hk : k < tk
    ·
      refine fn_rule (C := ⟨Tryz.prog, layF, Tryz.f14.ntmps, Γ0, 0, [], []⟩) layF_ok mixed Tryz.func14 rfl (by kernel_rfl) rfl rfl rfl ?_
      repeat' (first | refine ex_call hT ?_ | refine ex_call hN ?_ | refine ex_true (by first | decide | omega | assumption | (with_reducible exact rfl)) ?_ | refine ex_false (by first | decide | omega | assumption | exact (fun h => h rfl)) ?_ | refine ex_dec (fun _ => ?_) (fun _ => ?_) | refine ex_u8 _ rfl (by omega) (by omega) ?_ | refine ex_i64 _ rfl (by omega) (by omega) ?_ | refine ex_u64 _ rfl (by omega) (by omega) ?_ | refine and_mk (by first | omega | (with_reducible rfl) | (show drawOk _ _ _ = true; kernel_rfl)) ?_ | refine and_mk ⟨_, rfl⟩ ?_ | refine ex_is _ (List.length_map _) ?_ | refine ex_is _ List.length_nil ?_ | fail "no step")
      exact TLe.eq (by rw [if_pos (.inr hk)]; rfl)
    · rw [if_neg (by simp [hk])]
      refine fn_rule (C := ⟨Tryz.prog, layF, Tryz.f14.ntmps, Γ0, 0, [10,12,15,17], []⟩) layF_ok mixed Tryz.func14 rfl (by kernel_rfl) rfl rfl rfl ?_
      repeat' (first | refine ex_call hL ?_ | refine ex_call hM ?_ | refine ex_call hI ?_ | refine ex_call hT ?_ | refine ex_call hN ?_ | refine ex_true (by first | decide | omega | assumption | (with_reducible exact rfl)) ?_ | refine ex_false (by first | decide | omega | assumption | exact (fun h => h rfl)) ?_ | refine ex_dec (fun _ => ?_) (fun _ => ?_) | refine ex_u8 _ rfl (by omega) (by omega) ?_ | refine ex_i64 _ rfl (by omega) (by omega) ?_ | refine ex_u64 _ rfl (by omega) (by omega) ?_ | refine and_mk (by first | omega | (with_reducible rfl) | (show drawOk _ _ _ = true; kernel_rfl)) ?_ | refine and_mk ⟨_, rfl⟩ ?_ | refine ex_is _ (List.length_map _) ?_ | refine ex_is _ List.length_nil ?_ | fail "no step")
      refine ex_join (X := Bool) (fun v => ⟨[(1, Ti fn), (6, .o (.c (.ptr 0 0))), (10, .o (.c (.ptr 1 0))), (11, .o (.c (.ptr 2 0))), (18, Ti tz), (53, Tb v)], [(0, .obj [.d (.sl 3 (fs.map fnD)), .d (.sl 4 (cs.map inD))]), (1, .obj [.d (di o), .d (di a), .d (di b), .d (du n)]), (2, .obj [.d (db true), .d (di k), .d od, .d (db m), .d (db w)])], 3⟩) (fun v => v = (mk && m && !ins)) ?_ ?_
      · cases mk <;> cases m <;> cases ins
        all_goals (
          repeat' (first | refine ex_true (by first | decide | omega | assumption | (with_reducible exact rfl)) ?_ | refine ex_false (by first | decide | omega | assumption | exact (fun h => h rfl)) ?_ | refine ex_dec (fun _ => ?_) (fun _ => ?_) | refine ex_u8 _ rfl (by omega) (by omega) ?_ | refine ex_i64 _ rfl (by omega) (by omega) ?_ | refine ex_u64 _ rfl (by omega) (by omega) ?_ | refine and_mk (by first | omega | (with_reducible rfl) | (show drawOk _ _ _ = true; kernel_rfl)) ?_ | refine and_mk ⟨_, rfl⟩ ?_ | refine ex_is _ (List.length_map _) ?_ | refine ex_is _ List.length_nil ?_ | fail "no step")
          )
        all_goals first | exact ex_meet true rfl (SLe.of ⟨⟨rfl, rfl, rfl, rfl, rfl, rfl, trivial⟩, ⟨rfl, rfl, rfl, trivial⟩⟩) | exact ex_meet false rfl (SLe.of ⟨⟨rfl, rfl, rfl, rfl, rfl, rfl, trivial⟩, ⟨rfl, rfl, rfl, trivial⟩⟩)
      intro v1 hv1
      cases v1 with
      | true =>
        repeat' (first | refine ex_true (by first | decide | omega | assumption | (with_reducible exact rfl)) ?_ | refine ex_false (by first | decide | omega | assumption | exact (fun h => h rfl)) ?_ | refine ex_dec (fun _ => ?_) (fun _ => ?_) | refine ex_u8 _ rfl (by omega) (by omega) ?_ | refine ex_i64 _ rfl (by omega) (by omega) ?_ | refine ex_u64 _ rfl (by omega) (by omega) ?_ | refine and_mk (by first | omega | (with_reducible rfl) | (show drawOk _ _ _ = true; kernel_rfl)) ?_ | refine and_mk ⟨_, rfl⟩ ?_ | refine ex_is _ (List.length_map _) ?_ | refine ex_is _ List.length_nil ?_ | fail "no step")
        exact TLe.eq (show Tb _ = Tb _ from congrArg (fun b => Tb b) (by clear hN hT hI hL hM; grind))
      | false =>
        repeat' (first | refine ex_true (by first | decide | omega | assumption | (with_reducible exact rfl)) ?_ | refine ex_false (by first | decide | omega | assumption | exact (fun h => h rfl)) ?_ | refine ex_dec (fun _ => ?_) (fun _ => ?_) | refine ex_u8 _ rfl (by omega) (by omega) ?_ | refine ex_i64 _ rfl (by omega) (by omega) ?_ | refine ex_u64 _ rfl (by omega) (by omega) ?_ | refine and_mk (by first | omega | (with_reducible rfl) | (show drawOk _ _ _ = true; kernel_rfl)) ?_ | refine and_mk ⟨_, rfl⟩ ?_ | refine ex_is _ (List.length_map _) ?_ | refine ex_is _ List.length_nil ?_ | fail "no step")
        refine ex_join (X := Bool) (fun v => ⟨[(1, Ti fn), (6, .o (.c (.ptr 0 0))), (10, .o (.c (.ptr 1 0))), (11, .o (.c (.ptr 2 0))), (18, Ti tz), (88, Tb v)], [(0, .obj [.d (.sl 3 (fs.map fnD)), .d (.sl 4 (cs.map inD))]), (1, .obj [.d (di o), .d (di a), .d (di b), .d (du n)]), (2, .obj [.d (db true), .d (di k), .d od, .d (db m), .d (db w)])], 3⟩) (fun v => (v = true ↔ ((o = 15 ∧ tz ≠ 14) ∨ (o = 17 ∧ tz ≠ 16) ∨ (o = 19 ∧ tz ≠ 18) ∨ (o = 8 ∧ w = false)))) ?_ ?_
        · cases w
          all_goals (
            repeat' (first | refine ex_true (by first | decide | omega | assumption | (with_reducible exact rfl)) ?_ | refine ex_false (by first | decide | omega | assumption | exact (fun h => h rfl)) ?_ | refine ex_dec (fun _ => ?_) (fun _ => ?_) | refine ex_u8 _ rfl (by omega) (by omega) ?_ | refine ex_i64 _ rfl (by omega) (by omega) ?_ | refine ex_u64 _ rfl (by omega) (by omega) ?_ | refine and_mk (by first | omega | (with_reducible rfl) | (show drawOk _ _ _ = true; kernel_rfl)) ?_ | refine and_mk ⟨_, rfl⟩ ?_ | refine ex_is _ (List.length_map _) ?_ | refine ex_is _ List.length_nil ?_ | fail "no step")
            )
          all_goals first | exact ex_meet true (by clear hN hT hI hL hM; grind) (SLe.of ⟨⟨rfl, rfl, rfl, rfl, rfl, rfl, trivial⟩, ⟨rfl, rfl, rfl, trivial⟩⟩) | exact ex_meet false (by clear hN hT hI hL hM; grind) (SLe.of ⟨⟨rfl, rfl, rfl, rfl, rfl, rfl, trivial⟩, ⟨rfl, rfl, rfl, trivial⟩⟩)
        intro v2 hv2
        cases v2 with
        | true =>
          repeat' (first | refine ex_true (by first | decide | omega | assumption | (with_reducible exact rfl)) ?_ | refine ex_false (by first | decide | omega | assumption | exact (fun h => h rfl)) ?_ | refine ex_dec (fun _ => ?_) (fun _ => ?_) | refine ex_u8 _ rfl (by omega) (by omega) ?_ | refine ex_i64 _ rfl (by omega) (by omega) ?_ | refine ex_u64 _ rfl (by omega) (by omega) ?_ | refine and_mk (by first | omega | (with_reducible rfl) | (show drawOk _ _ _ = true; kernel_rfl)) ?_ | refine and_mk ⟨_, rfl⟩ ?_ | refine ex_is _ (List.length_map _) ?_ | refine ex_is _ List.length_nil ?_ | fail "no step")
          exact TLe.eq (show Tb _ = Tb _ from congrArg (fun b => Tb b) (by clear hN hT hI hL hM; grind))
        | false =>
          by_cases hfn : fn + 1 = fs.length
          ·
            repeat' (first | refine (ex_true (show (fn : Int) = (fs.length : Int) - 1 by omega)) ?_ | refine (ex_is _ hfm) ?_ | refine ex_true (by first | decide | omega | assumption | (with_reducible exact rfl)) ?_ | refine ex_false (by first | decide | omega | assumption | exact (fun h => h rfl)) ?_ | refine ex_dec (fun _ => ?_) (fun _ => ?_) | refine ex_u8 _ rfl (by omega) (by omega) ?_ | refine ex_i64 _ rfl (by omega) (by omega) ?_ | refine ex_u64 _ rfl (by omega) (by omega) ?_ | refine and_mk (by first | omega | (with_reducible rfl) | (show drawOk _ _ _ = true; kernel_rfl)) ?_ | refine and_mk ⟨_, rfl⟩ ?_ | refine ex_is _ (List.length_map _) ?_ | refine ex_is _ List.length_nil ?_ | fail "no step")
            refine ex_join (X := Bool) (fun v => ⟨[(1, Ti fn), (6, .o (.c (.ptr 0 0))), (10, .o (.c (.ptr 1 0))), (11, .o (.c (.ptr 2 0))), (18, Ti tz), (19, Tb true), (109, Tb v)], [(0, .obj [.d (.sl 3 (fs.map fnD)), .d (.sl 4 (cs.map inD))]), (1, .obj [.d (di o), .d (di a), .d (di b), .d (du n)]), (2, .obj [.d (db true), .d (di k), .d od, .d (db m), .d (db w)])], 3⟩) (fun v => (v = true ↔ o = 29)) ?_ ?_
            · repeat' (first | refine ex_true (by first | decide | omega | assumption | (with_reducible exact rfl)) ?_ | refine ex_false (by first | decide | omega | assumption | exact (fun h => h rfl)) ?_ | refine ex_dec (fun _ => ?_) (fun _ => ?_) | refine ex_u8 _ rfl (by omega) (by omega) ?_ | refine ex_i64 _ rfl (by omega) (by omega) ?_ | refine ex_u64 _ rfl (by omega) (by omega) ?_ | refine and_mk (by first | omega | (with_reducible rfl) | (show drawOk _ _ _ = true; kernel_rfl)) ?_ | refine and_mk ⟨_, rfl⟩ ?_ | refine ex_is _ (List.length_map _) ?_ | refine ex_is _ List.length_nil ?_ | fail "no step")
              all_goals first | exact ex_meet true (by clear hN hT hI hL hM; grind) (SLe.of ⟨⟨rfl, rfl, rfl, rfl, rfl, rfl, rfl, trivial⟩, ⟨rfl, rfl, rfl, trivial⟩⟩) | exact ex_meet false (by clear hN hT hI hL hM; grind) (SLe.of ⟨⟨rfl, rfl, rfl, rfl, rfl, rfl, rfl, trivial⟩, ⟨rfl, rfl, rfl, trivial⟩⟩)
            intro v3 hv3
            cases v3 with
            | true =>
              repeat' (first | refine ex_true (by first | decide | omega | assumption | (with_reducible exact rfl)) ?_ | refine ex_false (by first | decide | omega | assumption | exact (fun h => h rfl)) ?_ | refine ex_dec (fun _ => ?_) (fun _ => ?_) | refine ex_u8 _ rfl (by omega) (by omega) ?_ | refine ex_i64 _ rfl (by omega) (by omega) ?_ | refine ex_u64 _ rfl (by omega) (by omega) ?_ | refine and_mk (by first | omega | (with_reducible rfl) | (show drawOk _ _ _ = true; kernel_rfl)) ?_ | refine and_mk ⟨_, rfl⟩ ?_ | refine ex_is _ (List.length_map _) ?_ | refine ex_is _ List.length_nil ?_ | fail "no step")
              exact TLe.eq (show Tb _ = Tb _ from congrArg (fun b => Tb b) (by clear hN hT hI hL hM; grind))
            | false =>
              repeat' (first | refine ex_true (by first | decide | omega | assumption | (with_reducible exact rfl)) ?_ | refine ex_false (by first | decide | omega | assumption | exact (fun h => h rfl)) ?_ | refine ex_dec (fun _ => ?_) (fun _ => ?_) | refine ex_u8 _ rfl (by omega) (by omega) ?_ | refine ex_i64 _ rfl (by omega) (by omega) ?_ | refine ex_u64 _ rfl (by omega) (by omega) ?_ | refine and_mk (by first | omega | (with_reducible rfl) | (show drawOk _ _ _ = true; kernel_rfl)) ?_ | refine and_mk ⟨_, rfl⟩ ?_ | refine ex_is _ (List.length_map _) ?_ | refine ex_is _ List.length_nil ?_ | fail "no step")
              refine ex_join (X := Bool) (fun v => ⟨[(1, Ti fn), (6, .o (.c (.ptr 0 0))), (10, .o (.c (.ptr 1 0))), (11, .o (.c (.ptr 2 0))), (18, Ti tz), (19, Tb true), (117, Tb v)], [(0, .obj [.d (.sl 3 (fs.map fnD)), .d (.sl 4 (cs.map inD))]), (1, .obj [.d (di o), .d (di a), .d (di b), .d (du n)]), (2, .obj [.d (db true), .d (di k), .d od, .d (db m), .d (db w)])], 3⟩) (fun v => (v = true ↔ (o = 29 ∨ o = 35))) ?_ ?_
              · repeat' (first | refine ex_true (by first | decide | omega | assumption | (with_reducible exact rfl)) ?_ | refine ex_false (by first | decide | omega | assumption | exact (fun h => h rfl)) ?_ | refine ex_dec (fun _ => ?_) (fun _ => ?_) | refine ex_u8 _ rfl (by omega) (by omega) ?_ | refine ex_i64 _ rfl (by omega) (by omega) ?_ | refine ex_u64 _ rfl (by omega) (by omega) ?_ | refine and_mk (by first | omega | (with_reducible rfl) | (show drawOk _ _ _ = true; kernel_rfl)) ?_ | refine and_mk ⟨_, rfl⟩ ?_ | refine ex_is _ (List.length_map _) ?_ | refine ex_is _ List.length_nil ?_ | fail "no step")
                all_goals first | exact ex_meet true (by clear hN hT hI hL hM; grind) (SLe.of ⟨⟨rfl, rfl, rfl, rfl, rfl, rfl, rfl, trivial⟩, ⟨rfl, rfl, rfl, trivial⟩⟩) | exact ex_meet false (by clear hN hT hI hL hM; grind) (SLe.of ⟨⟨rfl, rfl, rfl, rfl, rfl, rfl, rfl, trivial⟩, ⟨rfl, rfl, rfl, trivial⟩⟩)
              intro v4 hv4
              cases v4 with
              | true =>
                repeat' (first | refine ex_true (by first | decide | omega | assumption | (with_reducible exact rfl)) ?_ | refine ex_false (by first | decide | omega | assumption | exact (fun h => h rfl)) ?_ | refine ex_dec (fun _ => ?_) (fun _ => ?_) | refine ex_u8 _ rfl (by omega) (by omega) ?_ | refine ex_i64 _ rfl (by omega) (by omega) ?_ | refine ex_u64 _ rfl (by omega) (by omega) ?_ | refine and_mk (by first | omega | (with_reducible rfl) | (show drawOk _ _ _ = true; kernel_rfl)) ?_ | refine and_mk ⟨_, rfl⟩ ?_ | refine ex_is _ (List.length_map _) ?_ | refine ex_is _ List.length_nil ?_ | fail "no step")
                all_goals exact TLe.eq (show Tb _ = Tb _ from congrArg (fun b => Tb b) (by clear hN hT hI hL hM; cases m <;> grind))
              | false =>
                repeat' (first | refine ex_true (by first | decide | omega | assumption | (with_reducible exact rfl)) ?_ | refine ex_false (by first | decide | omega | assumption | exact (fun h => h rfl)) ?_ | refine ex_dec (fun _ => ?_) (fun _ => ?_) | refine ex_u8 _ rfl (by omega) (by omega) ?_ | refine ex_i64 _ rfl (by omega) (by omega) ?_ | refine ex_u64 _ rfl (by omega) (by omega) ?_ | refine and_mk (by first | omega | (with_reducible rfl) | (show drawOk _ _ _ = true; kernel_rfl)) ?_ | refine and_mk ⟨_, rfl⟩ ?_ | refine ex_is _ (List.length_map _) ?_ | refine ex_is _ List.length_nil ?_ | fail "no step")
                exact TLe.eq (show Tb _ = Tb _ from congrArg (fun b => Tb b) (by clear hN hT hI hL hM; grind))
          ·
            repeat' (first | refine (ex_false (show ¬ (fn : Int) = (fs.length : Int) - 1 by omega)) ?_ | refine (ex_is _ hfm) ?_ | refine ex_true (by first | decide | omega | assumption | (with_reducible exact rfl)) ?_ | refine ex_false (by first | decide | omega | assumption | exact (fun h => h rfl)) ?_ | refine ex_dec (fun _ => ?_) (fun _ => ?_) | refine ex_u8 _ rfl (by omega) (by omega) ?_ | refine ex_i64 _ rfl (by omega) (by omega) ?_ | refine ex_u64 _ rfl (by omega) (by omega) ?_ | refine and_mk (by first | omega | (with_reducible rfl) | (show drawOk _ _ _ = true; kernel_rfl)) ?_ | refine and_mk ⟨_, rfl⟩ ?_ | refine ex_is _ (List.length_map _) ?_ | refine ex_is _ List.length_nil ?_ | fail "no step")
            refine ex_join (X := Bool) (fun v => ⟨[(1, Ti fn), (6, .o (.c (.ptr 0 0))), (10, .o (.c (.ptr 1 0))), (11, .o (.c (.ptr 2 0))), (18, Ti tz), (19, Tb false), (109, Tb v)], [(0, .obj [.d (.sl 3 (fs.map fnD)), .d (.sl 4 (cs.map inD))]), (1, .obj [.d (di o), .d (di a), .d (di b), .d (du n)]), (2, .obj [.d (db true), .d (di k), .d od, .d (db m), .d (db w)])], 3⟩) (fun v => (v = true ↔ o = 35)) ?_ ?_
            · repeat' (first | refine ex_true (by first | decide | omega | assumption | (with_reducible exact rfl)) ?_ | refine ex_false (by first | decide | omega | assumption | exact (fun h => h rfl)) ?_ | refine ex_dec (fun _ => ?_) (fun _ => ?_) | refine ex_u8 _ rfl (by omega) (by omega) ?_ | refine ex_i64 _ rfl (by omega) (by omega) ?_ | refine ex_u64 _ rfl (by omega) (by omega) ?_ | refine and_mk (by first | omega | (with_reducible rfl) | (show drawOk _ _ _ = true; kernel_rfl)) ?_ | refine and_mk ⟨_, rfl⟩ ?_ | refine ex_is _ (List.length_map _) ?_ | refine ex_is _ List.length_nil ?_ | fail "no step")
              all_goals first | exact ex_meet true (by clear hN hT hI hL hM; grind) (SLe.of ⟨⟨rfl, rfl, rfl, rfl, rfl, rfl, rfl, trivial⟩, ⟨rfl, rfl, rfl, trivial⟩⟩) | exact ex_meet false (by clear hN hT hI hL hM; grind) (SLe.of ⟨⟨rfl, rfl, rfl, rfl, rfl, rfl, rfl, trivial⟩, ⟨rfl, rfl, rfl, trivial⟩⟩)
            intro v3 hv3
            cases v3 with
            | true =>
              repeat' (first | refine ex_true (by first | decide | omega | assumption | (with_reducible exact rfl)) ?_ | refine ex_false (by first | decide | omega | assumption | exact (fun h => h rfl)) ?_ | refine ex_dec (fun _ => ?_) (fun _ => ?_) | refine ex_u8 _ rfl (by omega) (by omega) ?_ | refine ex_i64 _ rfl (by omega) (by omega) ?_ | refine ex_u64 _ rfl (by omega) (by omega) ?_ | refine and_mk (by first | omega | (with_reducible rfl) | (show drawOk _ _ _ = true; kernel_rfl)) ?_ | refine and_mk ⟨_, rfl⟩ ?_ | refine ex_is _ (List.length_map _) ?_ | refine ex_is _ List.length_nil ?_ | fail "no step")
              exact TLe.eq (show Tb _ = Tb _ from congrArg (fun b => Tb b) (by clear hN hT hI hL hM; grind))
            | false =>
              repeat' (first | refine ex_true (by first | decide | omega | assumption | (with_reducible exact rfl)) ?_ | refine ex_false (by first | decide | omega | assumption | exact (fun h => h rfl)) ?_ | refine ex_dec (fun _ => ?_) (fun _ => ?_) | refine ex_u8 _ rfl (by omega) (by omega) ?_ | refine ex_i64 _ rfl (by omega) (by omega) ?_ | refine ex_u64 _ rfl (by omega) (by omega) ?_ | refine and_mk (by first | omega | (with_reducible rfl) | (show drawOk _ _ _ = true; kernel_rfl)) ?_ | refine and_mk ⟨_, rfl⟩ ?_ | refine ex_is _ (List.length_map _) ?_ | refine ex_is _ List.length_nil ?_ | fail "no step")
              refine ex_join (X := Bool) (fun v => ⟨[(1, Ti fn), (6, .o (.c (.ptr 0 0))), (10, .o (.c (.ptr 1 0))), (11, .o (.c (.ptr 2 0))), (18, Ti tz), (19, Tb false), (117, Tb v)], [(0, .obj [.d (.sl 3 (fs.map fnD)), .d (.sl 4 (cs.map inD))]), (1, .obj [.d (di o), .d (di a), .d (di b), .d (du n)]), (2, .obj [.d (db true), .d (di k), .d od, .d (db m), .d (db w)])], 3⟩) (fun v => (v = true ↔ (o = 29 ∨ o = 35))) ?_ ?_
              · repeat' (first | refine ex_true (by first | decide | omega | assumption | (with_reducible exact rfl)) ?_ | refine ex_false (by first | decide | omega | assumption | exact (fun h => h rfl)) ?_ | refine ex_dec (fun _ => ?_) (fun _ => ?_) | refine ex_u8 _ rfl (by omega) (by omega) ?_ | refine ex_i64 _ rfl (by omega) (by omega) ?_ | refine ex_u64 _ rfl (by omega) (by omega) ?_ | refine and_mk (by first | omega | (with_reducible rfl) | (show drawOk _ _ _ = true; kernel_rfl)) ?_ | refine and_mk ⟨_, rfl⟩ ?_ | refine ex_is _ (List.length_map _) ?_ | refine ex_is _ List.length_nil ?_ | fail "no step")
                all_goals first | exact ex_meet true (by clear hN hT hI hL hM; grind) (SLe.of ⟨⟨rfl, rfl, rfl, rfl, rfl, rfl, rfl, trivial⟩, ⟨rfl, rfl, rfl, trivial⟩⟩) | exact ex_meet false (by clear hN hT hI hL hM; grind) (SLe.of ⟨⟨rfl, rfl, rfl, rfl, rfl, rfl, rfl, trivial⟩, ⟨rfl, rfl, rfl, trivial⟩⟩)
              intro v4 hv4
              cases v4 with
              | true =>
                repeat' (first | refine ex_true (by first | decide | omega | assumption | (with_reducible exact rfl)) ?_ | refine ex_false (by first | decide | omega | assumption | exact (fun h => h rfl)) ?_ | refine ex_dec (fun _ => ?_) (fun _ => ?_) | refine ex_u8 _ rfl (by omega) (by omega) ?_ | refine ex_i64 _ rfl (by omega) (by omega) ?_ | refine ex_u64 _ rfl (by omega) (by omega) ?_ | refine and_mk (by first | omega | (with_reducible rfl) | (show drawOk _ _ _ = true; kernel_rfl)) ?_ | refine and_mk ⟨_, rfl⟩ ?_ | refine ex_is _ (List.length_map _) ?_ | refine ex_is _ List.length_nil ?_ | fail "no step")
                all_goals exact TLe.eq (show Tb _ = Tb _ from congrArg (fun b => Tb b) (by clear hN hT hI hL hM; cases m <;> grind))
              | false =>
                repeat' (first | refine ex_true (by first | decide | omega | assumption | (with_reducible exact rfl)) ?_ | refine ex_false (by first | decide | omega | assumption | exact (fun h => h rfl)) ?_ | refine ex_dec (fun _ => ?_) (fun _ => ?_) | refine ex_u8 _ rfl (by omega) (by omega) ?_ | refine ex_i64 _ rfl (by omega) (by omega) ?_ | refine ex_u64 _ rfl (by omega) (by omega) ?_ | refine and_mk (by first | omega | (with_reducible rfl) | (show drawOk _ _ _ = true; kernel_rfl)) ?_ | refine and_mk ⟨_, rfl⟩ ?_ | refine ex_is _ (List.length_map _) ?_ | refine ex_is _ List.length_nil ?_ | fail "no step")
                exact TLe.eq (show Tb _ = Tb _ from congrArg (fun b => Tb b) (by clear hN hT hI hL hM; grind))
end
end Go.Proofs.YtgfmbkbiingagaaGreatDoor

namespace Go.Proofs.YtgfmbkbiingagaaGreatDoor
set_option linter.unusedVariables false
set_option linter.unusedSimpArgs false
open Go.RowKit
set_option maxRecDepth 100000

section
variable (fs : List FN) (cs : List IN) (fn : Nat) (fr tt : Int) (g : SG)
theorem puts_le (o : Int) : (opF o).2.2.2 ≤ 1 := by
  unfold opF
  split
  · have hk : o.toNat < 36 := by omega
    generalize o.toNat = k at *
    have : ∀ k : Fin 36, (opsL.getD k.1 noneR).2.2.2 ≤ 1 := by decide
    exact this ⟨k, hk⟩
  · decide
set_option maxHeartbeats 4000000 in
theorem next_c {f : FN} (x : IN) (s : SS) (hx : x.o = 28 → ∃ k : Nat, x.a = k ∧ fs[k]? = some f) (hk : 0 ≤ s.k ∧ s.k ≤ 1000000) (ht : 0 ≤ takesV fs x ∧ takesV fs x ≤ s.k) (hs : s.o.length ≤ 1000000) (hc : (opensV x.o).2.length ≤ s.o.length) :
    CallsM Tryz.prog ΓC 31 (ckM fs cs fn fr tt g) 3 [.c (.ptr 0 0), gD (inD x), gD (ssD s)] (.o (gD (ssD (nextV fs x s)))) (ckM fs cs fn fr tt g) [] := by
  have hT := (ctakes_c fs cs fn fr tt g (x := x) (f := f) hx).ren [0, 1, 2] 6 rfl rfl rfl rfl
  have hO := (opens_c x.o).of0 (Γ := ΓC)
  have hP := takes_c x.o
  have hpl := puts_le x.o
  have hM : CallsA Tryz.prog ΓC 42 [c1 (di x.o)] (Tb (makesV x.o)) := (makes_c x.o).of0 (Γ := ΓC)
  have hsz := bs_size s.o
  obtain ⟨hcl, hop⟩ := opens_two x.o
  unfold nextV
  obtain ⟨o, a, b, n⟩ := x
  obtain ⟨k, so, m, w⟩ := s
  dsimp only at *
  change CallsM _ _ _ _ _ [_, gD [di o, di a, di b, du n], gD [di k, ds (bs so), db m, db w]] _ _ _
  generalize takesV fs ⟨o, a, b, n⟩ = tk at *
  generalize (opensV o).2 = cl at *
  generalize (opensV o).1 = ol at *
  generalize makesV o = mk at *
  generalize hpt : (opF o).2.2.2 = pt at *
  have hclz := bs_size cl
  have holz := bs_size ol
  have hol : ol.length ≤ 1 := by rcases hop with rfl | ⟨c, rfl⟩ <;> simp
  have hext : (bs so).extract (0 : Int).toNat (((bs so).size : Int) - (bs cl).size).toNat = bs (so.take (so.length - cl.length)) := by
    have := ext_take so (so.length - cl.length)
    rw [← this]
    congr 2
    rw [hsz, hclz]; omega
  have hI : ∀ (k' : Int), CallsA Tryz.prog ΓC 43 [gD [di k', ds (bs so), db m, db w]] (Tb (so.contains 111)) := fun k' => (inside_c ⟨k', so, m, w⟩ hs).of0 (Γ := ΓC)
  show CallsM _ _ _ _ _ _ (.o (gD [di (k + (pt - tk)), ds (bs (so.take (so.length - cl.length) ++ ol)), db (m || mk && !so.contains 111), db (w || decide (o = 7))])) _ _
  generalize so.contains 111 = ins at *
  refine fn_ruleM (C := ⟨Tryz.prog, layF, Tryz.f31.ntmps, ΓC, 3, [3,4], []⟩) layF_ok mixed Tryz.func31 rfl (by kernel_rfl) rfl rfl rfl ?_
  repeat' (first | refine ex_call hP ?_ | refine ex_call hO ?_ | refine ex_i64 (k + ((pt : Int) - tk)) (by omega) (by omega) (by omega) ?_ | refine ex_u64 (k + ((pt : Int) - tk)) (by omega) (by omega) (by omega) ?_ | refine ex_u8 (k + ((pt : Int) - tk)) (by omega) (by omega) (by omega) ?_ | refine ex_i64 ((pt : Int) - tk) (by omega) (by omega) (by omega) ?_ | refine ex_u64 ((pt : Int) - tk) (by omega) (by omega) (by omega) ?_ | refine ex_u8 ((pt : Int) - tk) (by omega) (by omega) (by omega) ?_ | refine (ex_callM hT) ?_ | refine ex_true (by first | decide | omega | assumption | (with_reducible exact rfl)) ?_ | refine ex_false (by first | decide | omega | assumption | exact (fun h => h rfl)) ?_ | refine ex_dec (fun _ => ?_) (fun _ => ?_) | refine ex_u8 _ rfl (by omega) (by omega) ?_ | refine ex_i64 _ rfl (by omega) (by omega) ?_ | refine ex_u64 _ rfl (by omega) (by omega) ?_ | refine and_mk (by first | omega | (with_reducible rfl) | (show drawOk _ _ _ = true; kernel_rfl)) ?_ | refine and_mk ⟨_, rfl⟩ ?_ | refine ex_is _ (List.length_map _) ?_ | refine ex_is _ List.length_nil ?_ | fail "no step")
  refine ex_join (X := Bool) (fun v => ⟨[(0, .o (.c (.ptr 0 0))), (4, .o (.c (.ptr 3 0))), (5, .o (.c (.ptr 4 0))), (6, .o (.c (.ptr 5 0)))], (3, .obj [.d (di o), .d (di a), .d (di b), .d (du n)]) :: (4, .obj [.d (di (k + (pt - tk))), .d (ds (bs so)), .d (db v), .d (db w)]) :: (5, .obj [.d (di 0), .d (ds ⟨#[]⟩), .d (db false), .d (db false)]) :: ckM fs cs fn fr tt g, 6⟩) (fun v => v = (m || mk && !ins)) ?_ ?_
  · cases m
    all_goals (
      repeat' (first | refine ex_callB (hI _) (fun _ => ?_) (fun _ => ?_) | refine ex_callB hM (fun _ => ?_) (fun _ => ?_) | refine ex_true (by first | decide | omega | assumption | (with_reducible exact rfl)) ?_ | refine ex_false (by first | decide | omega | assumption | exact (fun h => h rfl)) ?_ | refine ex_dec (fun _ => ?_) (fun _ => ?_) | refine ex_u8 _ rfl (by omega) (by omega) ?_ | refine ex_i64 _ rfl (by omega) (by omega) ?_ | refine ex_u64 _ rfl (by omega) (by omega) ?_ | refine and_mk (by first | omega | (with_reducible rfl) | (show drawOk _ _ _ = true; kernel_rfl)) ?_ | refine and_mk ⟨_, rfl⟩ ?_ | refine ex_is _ (List.length_map _) ?_ | refine ex_is _ List.length_nil ?_ | fail "no step")
      )
    all_goals first | exact ex_meet true (by simp [*]) (SLe.of ⟨⟨rfl, rfl, rfl, rfl, trivial⟩, ⟨rfl, rfl, rfl, rfl, rfl, rfl, trivial⟩⟩) | exact ex_meet false (by simp [*]) (SLe.of ⟨⟨rfl, rfl, rfl, rfl, trivial⟩, ⟨rfl, rfl, rfl, rfl, rfl, rfl, trivial⟩⟩)
  intro m' hm'
  repeat' (first | refine ex_true (by first | decide | omega | assumption | (with_reducible exact rfl)) ?_ | refine ex_false (by first | decide | omega | assumption | exact (fun h => h rfl)) ?_ | refine ex_dec (fun _ => ?_) (fun _ => ?_) | refine ex_u8 _ rfl (by omega) (by omega) ?_ | refine ex_i64 _ rfl (by omega) (by omega) ?_ | refine ex_u64 _ rfl (by omega) (by omega) ?_ | refine and_mk (by first | omega | (with_reducible rfl) | (show drawOk _ _ _ = true; kernel_rfl)) ?_ | refine and_mk ⟨_, rfl⟩ ?_ | refine ex_is _ (List.length_map _) ?_ | refine ex_is _ List.length_nil ?_ | fail "no step")
  refine ex_join (X := Bool) (fun v => ⟨[(0, .o (.c (.ptr 0 0))), (4, .o (.c (.ptr 3 0))), (5, .o (.c (.ptr 4 0))), (6, .o (.c (.ptr 5 0)))], (3, .obj [.d (di o), .d (di a), .d (di b), .d (du n)]) :: (4, .obj [.d (di (k + (pt - tk))), .d (ds (bs so)), .d (db m'), .d (db v)]) :: (5, .obj [.d (di 0), .d (ds ⟨#[]⟩), .d (db false), .d (db false)]) :: ckM fs cs fn fr tt g, 6⟩) (fun v => v = (w || decide (o = 7))) ?_ ?_
  · cases w
    all_goals (
      repeat' (first | refine ex_true (by first | decide | omega | assumption | (with_reducible exact rfl)) ?_ | refine ex_false (by first | decide | omega | assumption | exact (fun h => h rfl)) ?_ | refine ex_dec (fun _ => ?_) (fun _ => ?_) | refine ex_u8 _ rfl (by omega) (by omega) ?_ | refine ex_i64 _ rfl (by omega) (by omega) ?_ | refine ex_u64 _ rfl (by omega) (by omega) ?_ | refine and_mk (by first | omega | (with_reducible rfl) | (show drawOk _ _ _ = true; kernel_rfl)) ?_ | refine and_mk ⟨_, rfl⟩ ?_ | refine ex_is _ (List.length_map _) ?_ | refine ex_is _ List.length_nil ?_ | fail "no step")
      )
    all_goals first | exact ex_meet true (by simp [*]) (SLe.of ⟨⟨rfl, rfl, rfl, rfl, trivial⟩, ⟨rfl, rfl, rfl, rfl, rfl, rfl, trivial⟩⟩) | exact ex_meet false (by simp [*]) (SLe.of ⟨⟨rfl, rfl, rfl, rfl, trivial⟩, ⟨rfl, rfl, rfl, rfl, rfl, rfl, trivial⟩⟩)
  intro w' hw'
  repeat' (first | refine ex_call hO ?_ | refine ex_i64 (((bs so).size : Int) - (bs cl).size) (by omega) (by omega) (by omega) ?_ | refine ex_u64 (((bs so).size : Int) - (bs cl).size) (by omega) (by omega) (by omega) ?_ | refine ex_u8 (((bs so).size : Int) - (bs cl).size) (by omega) (by omega) (by omega) ?_ | refine ex_true (by first | decide | omega | assumption | (with_reducible exact rfl)) ?_ | refine ex_false (by first | decide | omega | assumption | exact (fun h => h rfl)) ?_ | refine ex_dec (fun _ => ?_) (fun _ => ?_) | refine ex_u8 _ rfl (by omega) (by omega) ?_ | refine ex_i64 _ rfl (by omega) (by omega) ?_ | refine ex_u64 _ rfl (by omega) (by omega) ?_ | refine and_mk (by first | omega | (with_reducible rfl) | (show drawOk _ _ _ = true; kernel_rfl)) ?_ | refine and_mk ⟨_, rfl⟩ ?_ | refine ex_is _ (List.length_map _) ?_ | refine ex_is _ List.length_nil ?_ | fail "no step")
  rw [hext]
  have hz1 := bs_size (so.take (so.length - cl.length))
  rw [List.length_take] at hz1
  repeat' (first | refine ex_true (by first | decide | omega | assumption | (with_reducible exact rfl)) ?_ | refine ex_false (by first | decide | omega | assumption | exact (fun h => h rfl)) ?_ | refine ex_dec (fun _ => ?_) (fun _ => ?_) | refine ex_u8 _ rfl (by omega) (by omega) ?_ | refine ex_i64 _ rfl (by omega) (by omega) ?_ | refine ex_u64 _ rfl (by omega) (by omega) ?_ | refine and_mk (by first | omega | (with_reducible rfl) | (show drawOk _ _ _ = true; kernel_rfl)) ?_ | refine and_mk ⟨_, rfl⟩ ?_ | refine ex_is _ (List.length_map _) ?_ | refine ex_is _ List.length_nil ?_ | fail "no step")
  rw [bs_app]
  repeat' (first | refine ex_true (by first | decide | omega | assumption | (with_reducible exact rfl)) ?_ | refine ex_false (by first | decide | omega | assumption | exact (fun h => h rfl)) ?_ | refine ex_dec (fun _ => ?_) (fun _ => ?_) | refine ex_u8 _ rfl (by omega) (by omega) ?_ | refine ex_i64 _ rfl (by omega) (by omega) ?_ | refine ex_u64 _ rfl (by omega) (by omega) ?_ | refine and_mk (by first | omega | (with_reducible rfl) | (show drawOk _ _ _ = true; kernel_rfl)) ?_ | refine and_mk ⟨_, rfl⟩ ?_ | refine ex_is _ (List.length_map _) ?_ | refine ex_is _ List.length_nil ?_ | fail "no step")
  exact ⟨rfl, TLe.eq (by rw [hm', hw']; rfl), rfl, rfl⟩
end
end Go.Proofs.YtgfmbkbiingagaaGreatDoor

namespace Go.Proofs.YtgfmbkbiingagaaGreatDoor
set_option linter.unusedVariables false
set_option linter.unusedSimpArgs false
open Go.RowKit
set_option maxRecDepth 100000

/-- What the functions are like: their numbers of slots and parameters. -/
def FsOk (fs : List FN) : Prop := fs.length ≤ 64 ∧ ∀ f ∈ fs, 0 ≤ f.p ∧ f.p ≤ 4096
def KnOk (n : Nat) (g : SG) : Prop := g.Ok n ∧ g.rest n ≤ 2 * n + 1 ∧ ∀ p ∈ g.kn, 0 ≤ p.2.k ∧ p.2.k ≤ 512 ∧ p.2.o.length + 1 ≤ g.kn.length
theorem KnOk.lf {n : Nat} {g : SG} (h : KnOk n g) : g.lf.length ≤ 2 * n + 1 := by
  have := h.2.1
  unfold SG.rest at this
  omega
theorem KnOk.kn {n : Nat} {g : SG} (h : KnOk n g) : g.kn.length ≤ n := by
  have := nodup_len (l := g.kn.map (·.1)) (fun i hi => by
    obtain ⟨p, hp, rfl⟩ := List.mem_map.1 hi
    exact h.1.1 p hp) h.1.2.1
  simpa using this
theorem KnOk.come {n : Nat} {g : SG} (h : KnOk n g) {i : Int} (hi : 0 ≤ i ∧ i < n) {s : SS} (hs : 0 ≤ s.k ∧ s.k ≤ 512 ∧ s.o.length ≤ g.kn.length) : KnOk n (g.come i s) := by
  obtain ⟨h1, h2, h3⟩ := h
  obtain ⟨q1, q2⟩ := SG.come_ok h1 hi s
  refine ⟨q1, Nat.le_trans q2 h2, ?_⟩
  unfold SG.come
  split
  · split
    · exact h3
    · exact h3
  · intro p hp
    simp only [List.length_append, List.length_cons, List.length_nil]
    rcases List.mem_append.1 hp with hp | hp
    · have := h3 p hp
      exact ⟨this.1, this.2.1, by omega⟩
    · obtain rfl : p = (i, s) := by simpa using hp
      exact ⟨hs.1, hs.2.1, by show s.o.length + 1 ≤ _; omega⟩
theorem come_len (g : SG) (i : Int) (s : SS) : g.kn.length ≤ (g.come i s).kn.length := by
  unfold SG.come
  split
  · split <;> exact Nat.le_refl _
  · simp
theorem KnOk.go {n : Nat} {g : SG} (h : KnOk n g) {fr tt : Int} (hf : 0 ≤ fr) (ht : tt ≤ n) (i : Int) {s : SS} (hs : 0 ≤ s.k ∧ s.o.length ≤ g.kn.length) (j : Int) : KnOk n (SG.go fr tt i s g j) ∧ g.kn.length ≤ (SG.go fr tt i s g j).kn.length := by
  unfold SG.go
  split
  · exact ⟨h, Nat.le_refl _⟩
  · rename_i hp
    have : placeV fr tt j = true := by
      cases hv : placeV fr tt j with
      | true => rfl
      | false => exact absurd (.inl hv) hp
    have := of_decide_eq_true this
    exact ⟨h.come ⟨by omega, by omega⟩ ⟨hs.1, by omega, hs.2⟩, come_len _ _ _⟩
theorem KnOk.gos {n : Nat} {fr tt : Int} (hf : 0 ≤ fr) (ht : tt ≤ n) (i : Int) {s : SS} (hk : 0 ≤ s.k) : ∀ (l : List Int) {g : SG}, KnOk n g → s.o.length ≤ g.kn.length → KnOk n (l.foldl (SG.go fr tt i s) g) ∧ g.kn.length ≤ (l.foldl (SG.go fr tt i s) g).kn.length
  | [], g, h, _ => ⟨h, Nat.le_refl _⟩
  | j :: l, g, h, hs => by
    obtain ⟨h1, h2⟩ := h.go hf ht i ⟨hk, hs⟩ j
    obtain ⟨h3, h4⟩ := KnOk.gos hf ht i hk l h1 (Nat.le_trans hs h2)
    exact ⟨h3, Nat.le_trans h2 h4⟩
theorem goes_len (x : IN) (i : Int) : (goesV x i).length ≤ 2 := by
  unfold goesV
  repeat' split
  all_goals simp
theorem fits_takes {fs : List FN} {fn : Nat} {fr tt : Int} {x : IN} {s : SS} (h : fitsV fs fn fr tt x s = true) : numbersV (fs.getD fn zF) fn fr tt x = true ∧ takesV fs x ≤ s.k ∧ (opensV x.o).2.length ≤ s.o.length := by
  unfold fitsV at h
  split at h
  · cases h
  · rename_i h1
    split at h
    · cases h
    · rename_i h2
      refine ⟨by cases hv : numbersV (fs.getD fn zF) fn fr tt x with | true => rfl | false => exact absurd (.inl hv) h1, by omega, ?_⟩
      rcases (opens_two x.o).1 with e | ⟨c, e⟩
      · rw [e]; exact Nat.zero_le _
      · rw [e] at h2 ⊢
        have h3 : lastIs s.o [c] = true := by
          cases hv : lastIs s.o [c] with
          | true => rfl
          | false => exact absurd ⟨by simp, hv⟩ h2
        have := (of_decide_eq_true h3).1
        exact List.length_pos_iff.2 this
theorem takes_ok {fs : List FN} (hF : FsOk fs) (x : IN) : 0 ≤ takesV fs x := by
  unfold takesV
  split
  · rw [List.getD]
    cases h : fs[x.a.toNat]? with
    | none => decide
    | some f => exact (hF.2 f (List.mem_of_getElem? h)).1
  · omega
theorem next_ok {fs : List FN} (hF : FsOk fs) {fn : Nat} {fr tt : Int} {x : IN} {s : SS} (h : fitsV fs fn fr tt x s = true) : 0 ≤ (nextV fs x s).k ∧ (nextV fs x s).o.length ≤ s.o.length + 1 := by
  obtain ⟨-, h2, -⟩ := fits_takes h
  have := takes_ok hF x
  refine ⟨by show 0 ≤ s.k + (((opF x.o).2.2.2 : Int) - takesV fs x); omega, ?_⟩
  show (s.o.take _ ++ (opensV x.o).1).length ≤ _
  rw [List.length_append, List.length_take]
  rcases (opens_two x.o).2 with e | ⟨c, e⟩ <;> rw [e] <;> simp <;> omega
section
variable (fs : List FN) (cs : List IN) (fn : Nat) (fr tt : Int) (g : SG)
set_option maxHeartbeats 4000000 in
theorem step_c (hF : FsOk fs) {f : FN} (hf : fs[fn]? = some f) (hc : cs.length ≤ 8192) (hg : KnOk cs.length g) (hfr : 0 ≤ fr) (htt : tt ≤ cs.length) {i : Nat} {x : IN} (hi : cs[i]? = some x) {s : SS} (hs : g.at i = some s) :
    CallsM Tryz.prog ΓC 21 (ckM fs cs fn fr tt g) 3 [.c (.ptr 0 0), c1 (di i)] (.tup []) (ckN fs cs fn fr tt (SG.step fs cs fn fr tt g i)) [.row 1 3 (dis (SG.step fs cs fn fr tt g i).lf)] := by
  have hil : i < cs.length := (List.getElem?_eq_some_iff.1 hi).1
  have hpb := hg.2.2 _ (SG.at_mem hs)
  dsimp only at hpb
  have hkn := hg.kn
  obtain ⟨j, hj⟩ := find_some hs
  have hlen : (cs.map inD).length = cs.length := List.length_map _
  have hmx : max g.d s.k = (if g.d < s.k then s.k else g.d) := by split <;> omega
  obtain ⟨g1, hg1⟩ : ∃ g1 : SG, g1 = { g with d := max g.d s.k } := ⟨_, rfl⟩
  have hF1 := (fits_c fs cs fn fr tt g1 hf (by have := hF.1; omega) x s (by omega)).ren [0, 1, 2] 5 rfl rfl rfl rfl
  have hst : SG.step fs cs fn fr tt g i = if fitsV fs fn fr tt x s = false then g1.fault i else (goesV x i).foldl (SG.go fr tt i (nextV fs x s)) g1 := by
    unfold SG.step
    rw [Int.toNat_natCast, List.getD, hi, hs, hg1]; rfl
  rw [hst]
  have hg1o : KnOk cs.length g1 := by rw [hg1]; exact hg
  obtain ⟨k, so, m, w⟩ := s
  obtain ⟨o, a, b, n⟩ := x
  cases hfit : fitsV fs fn fr tt ⟨o, a, b, n⟩ ⟨k, so, m, w⟩ with
  | false =>
    rw [if_pos rfl]
    rw [hfit] at hF1
    have hfa := ((fault_c fs cs fn fr tt g1 i).of0 (Γ := ΓC)).ren [0, 1, 2] 5 rfl rfl rfl rfl
    have main : CallsM Tryz.prog ΓC 21 (ckM fs cs fn fr tt g) 3 [.c (.ptr 0 0), c1 (di i)] (.tup []) (ckM fs cs fn fr tt (g1.fault i)) [] := by
      subst hg1
      refine fn_ruleM (C := ⟨Tryz.prog, layF, Tryz.f21.ntmps, ΓC, 3, [], []⟩) layF_ok mixed Tryz.func21 rfl (by kernel_rfl) rfl rfl rfl ?_
      repeat' (first | refine (ex_callM hfa) ?_ | refine (ex_callM hF1) ?_ | refine (ex_is _ hmx.symm) ?_ | refine (ex_find hj) ?_ | refine (ex_row i (⟨o, a, b, n⟩ : IN) rfl hi) ?_ | refine ex_true (by first | decide | omega | assumption | (with_reducible exact rfl)) ?_ | refine ex_false (by first | decide | omega | assumption | exact (fun h => h rfl)) ?_ | refine ex_dec (fun _ => ?_) (fun _ => ?_) | refine ex_u8 _ rfl (by omega) (by omega) ?_ | refine ex_i64 _ rfl (by omega) (by omega) ?_ | refine ex_u64 _ rfl (by omega) (by omega) ?_ | refine and_mk (by first | omega | (with_reducible rfl) | (show drawOk _ _ _ = true; kernel_rfl)) ?_ | refine and_mk ⟨_, rfl⟩ ?_ | refine ex_is _ (List.length_map _) ?_ | refine ex_is _ List.length_nil ?_ | fail "no step")
      exact ⟨rfl, TLe.rfl, rfl, rfl⟩
    exact main.fork 2 (by decide) (b := .row 1 3 (dis (g1.fault i).lf)) (b0 := .row 1 3 (dis g.lf)) (by simp) rfl (by simp) rfl (fun _ => rfl) (fun _ => rfl) (fun _ _ => rfl) (by simp [Blk.men, CV.men]) (by simp)
  | true =>
    rw [if_neg (by simp)]
    rw [hfit] at hF1
    obtain ⟨hn1, hn2, hn3⟩ := fits_takes hfit
    obtain ⟨hz1, hz2⟩ := next_ok hF hfit
    have hto := takes_ok hF ⟨o, a, b, n⟩
    have hN := (next_c fs cs fn fr tt g1 (f := fs.getD a.toNat zF) ⟨o, a, b, n⟩ ⟨k, so, m, w⟩ (fun h28 => by
      obtain ⟨h1, h2⟩ := numbers_call hn1 h28
      have hlt : fn < fs.length := (List.getElem?_eq_some_iff.1 hf).1
      dsimp only at h1 h2
      refine ⟨a.toNat, by show a = _; omega, ?_⟩
      rw [List.getD, List.getElem?_eq_getElem (by omega)]; rfl) ⟨hpb.1, by omega⟩ ⟨hto, hn2⟩ (by omega) hn3).ren [0, 1, 2] 5 rfl rfl rfl rfl
    have hG := (goes_c ⟨o, a, b, n⟩ i ⟨by omega, by omega⟩).of0 (Γ := ΓC)
    have hgl := goes_len ⟨o, a, b, n⟩ i
    have hgos := fun q => KnOk.gos hfr htt i hz1 ((goesV ⟨o, a, b, n⟩ i).take q) hg1o (by rw [hg1]; exact Nat.le_trans hz2 hpb.2.2)
    generalize nextV fs ⟨o, a, b, n⟩ ⟨k, so, m, w⟩ = t at *
    obtain ⟨tk, to_, tm, tw⟩ := t
    generalize goesV ⟨o, a, b, n⟩ i = L at *
    have hLl : (dis L).length = L.length := List.length_map _
    subst hg1
    refine fn_ruleM (C := ⟨Tryz.prog, layF, Tryz.f21.ntmps, ΓC, 3, [], []⟩) layF_ok mixed Tryz.func21 rfl (by kernel_rfl) rfl rfl rfl ?_
    repeat' (first | refine ex_call hG ?_ | refine (ex_is _ hLl) ?_ | refine (ex_callM hN) ?_ | refine (ex_callM hF1) ?_ | refine (ex_is _ hmx.symm) ?_ | refine (ex_find hj) ?_ | refine (ex_row i (⟨o, a, b, n⟩ : IN) rfl hi) ?_ | refine ex_true (by first | decide | omega | assumption | (with_reducible exact rfl)) ?_ | refine ex_false (by first | decide | omega | assumption | exact (fun h => h rfl)) ?_ | refine ex_dec (fun _ => ?_) (fun _ => ?_) | refine ex_u8 _ rfl (by omega) (by omega) ?_ | refine ex_i64 _ rfl (by omega) (by omega) ?_ | refine ex_u64 _ rfl (by omega) (by omega) ?_ | refine and_mk (by first | omega | (with_reducible rfl) | (show drawOk _ _ _ = true; kernel_rfl)) ?_ | refine and_mk ⟨_, rfl⟩ ?_ | refine ex_is _ (List.length_map _) ?_ | refine ex_is _ List.length_nil ?_ | fail "no step")
    refine ex_loop (X := Nat × SG) (fun ⟨q, h⟩ => ⟨[(0, .o (.c (.ptr 0 0))), (1, Ti i), (5, .o (.c (.ptr 4 0))), (46, .o (c1 (.sl 1 (dis L)))), (47, Ti L.length), (48, Ti q)], [(2, .dead), (0, .obj (ckC fs cs fn fr tt 5 h.d h.w)), (1, .map (kvs h.kn)), (4, .obj [.d (di tk), .d (ds (bs to_)), .d (db tm), .d (db tw)]), (5, .row 1 3 (dis h.lf))], 6⟩) (fun x => L.length - x.1) (fun ⟨q, h⟩ => q ≤ L.length ∧ h = (L.take q).foldl (SG.go fr tt i ⟨tk, to_, tm, tw⟩) { g with d := max g.d k }) (0, { g with d := max g.d k }) ⟨Nat.zero_le _, rfl⟩ (SLe.kill (nx := 6) 2 (SLe.ren [(0, 0), (1, 1), (4, 4), (2, 5)] ⟨⟨rfl, rfl⟩, ⟨rfl, rfl⟩, ⟨rfl, rfl⟩, ⟨rfl, rfl⟩, ⟨rfl, rfl⟩, ⟨rfl, rfl⟩, trivial⟩ ⟨⟨rfl, rfl⟩, ⟨rfl, rfl⟩, ⟨rfl, rfl⟩, ⟨rfl, rfl⟩, trivial⟩ rfl)) ?_
    rintro ⟨q, h⟩ ⟨hq, hh⟩
    obtain ⟨hk1, hk2⟩ := hgos q
    rw [← hh] at hk1 hk2
    by_cases hqL : q < L.length
    · have hx : L[q]? = some L[q] := at_some hqL
      have htk : L.take (q + 1) = L.take q ++ [L[q]] := by rw [List.take_add_one, hx]; rfl
      generalize L[q] = y at *
      have hnx : (L.take (q + 1)).foldl (SG.go fr tt i ⟨tk, to_, tm, tw⟩) { g with d := max g.d k } = SG.go fr tt i ⟨tk, to_, tm, tw⟩ h y := by rw [htk, List.foldl_append, ← hh]; rfl
      have hP := ((place_c fs cs fn fr tt h y).of0 (Γ := ΓC)).ren [0, 1, 5] 6 rfl rfl rfl rfl
      have hFa := ((fault_c fs cs fn fr tt h i).of0 (Γ := ΓC)).ren [0, 1, 5] 6 rfl rfl rfl rfl
      have hC := ((come_c fs cs fn fr tt h y ⟨tk, to_, tm, tw⟩ (by have := hk1.lf; omega)).of0 (Γ := ΓC)).ren [0, 1, 5] 6 rfl rfl rfl rfl
      by_cases hno : placeV fr tt y = false ∨ 512 < tk
      · have hgo : SG.go fr tt i ⟨tk, to_, tm, tw⟩ h y = h.fault i := by unfold SG.go; rw [if_pos hno]
        rw [hgo] at hnx
        cases hpv : placeV fr tt y with
        | false =>
          rw [hpv] at hP
          repeat' (first | refine (ex_callM hFa) ?_ | refine (ex_callM hP) ?_ | refine (ex_row q y rfl hx) ?_ | refine ex_true (by first | decide | omega | assumption | (with_reducible exact rfl)) ?_ | refine ex_false (by first | decide | omega | assumption | exact (fun h => h rfl)) ?_ | refine ex_dec (fun _ => ?_) (fun _ => ?_) | refine ex_u8 _ rfl (by omega) (by omega) ?_ | refine ex_i64 _ rfl (by omega) (by omega) ?_ | refine ex_u64 _ rfl (by omega) (by omega) ?_ | refine and_mk (by first | omega | (with_reducible rfl) | (show drawOk _ _ _ = true; kernel_rfl)) ?_ | refine and_mk ⟨_, rfl⟩ ?_ | refine ex_is _ (List.length_map _) ?_ | refine ex_is _ List.length_nil ?_ | fail "no step")
          exact ex_round (q + 1, h.fault i) ⟨by omega, hnx.symm⟩ (by show _ - _ < _ - _; omega) (SLe.kill (nx := 6) 2 (SLe.ren [(0, 0), (1, 1), (4, 4), (5, 5)] ⟨⟨rfl, rfl⟩, ⟨rfl, rfl⟩, ⟨rfl, rfl⟩, ⟨rfl, rfl⟩, ⟨rfl, rfl⟩, ⟨rfl, rfl⟩, trivial⟩ ⟨⟨rfl, rfl⟩, ⟨rfl, rfl⟩, ⟨rfl, rfl⟩, ⟨rfl, rfl⟩, trivial⟩ rfl))
        | true =>
          rw [hpv] at hP
          have h512 : 512 < tk := by rcases hno with h | h; rw [hpv] at h; cases h; exact h
          repeat' (first | refine (ex_callM hFa) ?_ | refine (ex_callM hP) ?_ | refine (ex_row q y rfl hx) ?_ | refine ex_true (by first | decide | omega | assumption | (with_reducible exact rfl)) ?_ | refine ex_false (by first | decide | omega | assumption | exact (fun h => h rfl)) ?_ | refine ex_dec (fun _ => ?_) (fun _ => ?_) | refine ex_u8 _ rfl (by omega) (by omega) ?_ | refine ex_i64 _ rfl (by omega) (by omega) ?_ | refine ex_u64 _ rfl (by omega) (by omega) ?_ | refine and_mk (by first | omega | (with_reducible rfl) | (show drawOk _ _ _ = true; kernel_rfl)) ?_ | refine and_mk ⟨_, rfl⟩ ?_ | refine ex_is _ (List.length_map _) ?_ | refine ex_is _ List.length_nil ?_ | fail "no step")
          exact ex_round (q + 1, h.fault i) ⟨by omega, hnx.symm⟩ (by show _ - _ < _ - _; omega) (SLe.kill (nx := 6) 2 (SLe.ren [(0, 0), (1, 1), (4, 4), (5, 5)] ⟨⟨rfl, rfl⟩, ⟨rfl, rfl⟩, ⟨rfl, rfl⟩, ⟨rfl, rfl⟩, ⟨rfl, rfl⟩, ⟨rfl, rfl⟩, trivial⟩ ⟨⟨rfl, rfl⟩, ⟨rfl, rfl⟩, ⟨rfl, rfl⟩, ⟨rfl, rfl⟩, trivial⟩ rfl))
      · have hgo : SG.go fr tt i ⟨tk, to_, tm, tw⟩ h y = h.come y ⟨tk, to_, tm, tw⟩ := by unfold SG.go; rw [if_neg hno]
        rw [hgo] at hnx
        have hpv : placeV fr tt y = true := by cases hv : placeV fr tt y with | true => rfl | false => exact absurd (.inl hv) hno
        rw [hpv] at hP
        have h512 : ¬ 512 < tk := fun h => hno (.inr h)
        repeat' (first | refine (ex_callM hC) ?_ | refine (ex_callM hP) ?_ | refine (ex_row q y rfl hx) ?_ | refine ex_true (by first | decide | omega | assumption | (with_reducible exact rfl)) ?_ | refine ex_false (by first | decide | omega | assumption | exact (fun h => h rfl)) ?_ | refine ex_dec (fun _ => ?_) (fun _ => ?_) | refine ex_u8 _ rfl (by omega) (by omega) ?_ | refine ex_i64 _ rfl (by omega) (by omega) ?_ | refine ex_u64 _ rfl (by omega) (by omega) ?_ | refine and_mk (by first | omega | (with_reducible rfl) | (show drawOk _ _ _ = true; kernel_rfl)) ?_ | refine and_mk ⟨_, rfl⟩ ?_ | refine ex_is _ (List.length_map _) ?_ | refine ex_is _ List.length_nil ?_ | fail "no step")
        exact ex_round (q + 1, h.come y ⟨tk, to_, tm, tw⟩) ⟨by omega, hnx.symm⟩ (by show _ - _ < _ - _; omega) (SLe.kill (nx := 6) 2 (SLe.ren [(0, 0), (1, 1), (4, 4), (6, 5)] ⟨⟨rfl, rfl⟩, ⟨rfl, rfl⟩, ⟨rfl, rfl⟩, ⟨rfl, rfl⟩, ⟨rfl, rfl⟩, ⟨rfl, rfl⟩, trivial⟩ ⟨⟨rfl, rfl⟩, ⟨rfl, rfl⟩, ⟨rfl, rfl⟩, ⟨rfl, rfl⟩, trivial⟩ rfl))
    · obtain rfl : q = L.length := by omega
      rw [List.take_length] at hh
      rw [← hh]
      repeat' (first | refine ex_true (by first | decide | omega | assumption | (with_reducible exact rfl)) ?_ | refine ex_false (by first | decide | omega | assumption | exact (fun h => h rfl)) ?_ | refine ex_dec (fun _ => ?_) (fun _ => ?_) | refine ex_u8 _ rfl (by omega) (by omega) ?_ | refine ex_i64 _ rfl (by omega) (by omega) ?_ | refine ex_u64 _ rfl (by omega) (by omega) ?_ | refine and_mk (by first | omega | (with_reducible rfl) | (show drawOk _ _ _ = true; kernel_rfl)) ?_ | refine and_mk ⟨_, rfl⟩ ?_ | refine ex_is _ (List.length_map _) ?_ | refine ex_is _ List.length_nil ?_ | fail "no step")
      exact ⟨rfl, TLe.rfl, rfl, rfl⟩
end
end Go.Proofs.YtgfmbkbiingagaaGreatDoor

namespace Go.Proofs.YtgfmbkbiingagaaGreatDoor
set_option linter.unusedVariables false
set_option linter.unusedSimpArgs false
open Go.RowKit
set_option maxRecDepth 100000

theorem opens_let (o : Int) : (o = 14 ∨ o = 16 ∨ o = 18 → ∃ c, (opensV o).1 = [c] ∧ letO c = o) ∧ (¬ (o = 14 ∨ o = 16 ∨ o = 18) → (opensV o).1 = []) ∧ (o = 15 ∨ o = 17 ∨ o = 19 → (opensV o).2.length = 1) ∧ (¬ (o = 15 ∨ o = 17 ∨ o = 19) → (opensV o).2 = []) ∧ LetOk (opensV o).1 := by
  refine ⟨?_, ?_, ?_, ?_, ?_⟩
  · rintro (rfl | rfl | rfl)
    · exact ⟨111, rfl, rfl⟩
    · exact ⟨119, rfl, rfl⟩
    · exact ⟨97, rfl, rfl⟩
  · intro h
    unfold opensV
    rw [if_neg (by omega), if_neg (by omega), if_neg (by omega)]
    repeat' split
    all_goals rfl
  · rintro (rfl | rfl | rfl) <;> rfl
  · intro h
    unfold opensV
    repeat' split
    all_goals first | rfl | omega
  · unfold opensV
    repeat' split
    all_goals intro c hc
    all_goals simp at hc
    all_goals simp [hc]
theorem opD_ne {l : List UInt8} (h : l ≠ []) : opD l = .sl 1 (dis (l.map letO)) := by
  cases l with
  | nil => exact absurd rfl h
  | cons c r => rfl
abbrev stK5 (b : Bool) (s : SS) : List D := [db b, di s.k, opD s.o, db s.m, db s.w]
section
variable (fs : List FN) (cs : List IN)
set_option maxHeartbeats 4000000 in
theorem rnext_c {f : FN} (x : IN) (s : SS) (hx : x.o = 28 → ∃ k : Nat, x.a = k ∧ fs[k]? = some f) (hk : 0 ≤ s.k ∧ s.k ≤ 1000000) (ht : 0 ≤ takesV fs x ∧ takesV fs x ≤ s.k) (hs : s.o.length ≤ 1000000) (hlo : LetOk s.o) (hc : (opensV x.o).2.length ≤ s.o.length) :
    CallsA Tryz.prog Γ0 15 [gD [.sl 3 (fs.map fnD), .sl 4 (cs.map inD)], gD (inD x), gD (stD s)] (.o (gD (stD (nextV fs x s)))) := by
  have hT := rtakes_c fs cs (x := x) (f := f) hx
  have hI := rinside_c s hs hlo
  have hM := rmakes_c x.o
  have hpl := puts_le x.o
  obtain ⟨o1, o2, o3, o4, -⟩ := opens_let x.o
  unfold nextV
  obtain ⟨o, a, b, n⟩ := x
  obtain ⟨k, so, m, w⟩ := s
  dsimp only at *
  change CallsA _ _ _ [_, gD [di o, di a, di b, du n], gD [db true, di k, opD so, db m, db w]] (.o (gD [db true, di (k + ((opF o).2.2.2 - takesV fs ⟨o, a, b, n⟩)), opD (so.take (so.length - (opensV o).2.length) ++ (opensV o).1), db (m || makesV o && !insideV ⟨k, so, m, w⟩), db (w || decide (o = 7))]))
  generalize takesV fs ⟨o, a, b, n⟩ = tk at *
  generalize (opensV o).2 = cl at *
  generalize (opensV o).1 = ol at *
  generalize makesV o = mk at *
  generalize insideV ⟨k, so, m, w⟩ = ins at *
  generalize hpt : (opF o).2.2.2 = pt at *
  obtain ⟨kp, hkp⟩ : ∃ kp, kp = so.length - cl.length := ⟨_, rfl⟩
  rw [← hkp]
  obtain ⟨m', hm'⟩ : ∃ m', m' = (m || mk && !ins) := ⟨_, rfl⟩
  obtain ⟨w', hw'⟩ : ∃ w', w' = (w || decide (o = 7)) := ⟨_, rfl⟩
  rw [← hm', ← hw']
  have hk' : k - tk + (pt : Int) = k + (pt - tk) := by omega
  refine fn_rule (C := ⟨Tryz.prog, layF, Tryz.f15.ntmps, Γ0, 0, [4], [8]⟩) layF_ok mixed Tryz.func15 rfl (by kernel_rfl) rfl rfl rfl ?_
  repeat' (first | refine ex_call hM ?_ | refine ex_call hI ?_ | refine ex_call hT ?_ | refine ex_true (by first | decide | omega | assumption | (with_reducible exact rfl)) ?_ | refine ex_false (by first | decide | omega | assumption | exact (fun h => h rfl)) ?_ | refine ex_dec (fun _ => ?_) (fun _ => ?_) | refine ex_u8 _ rfl (by omega) (by omega) ?_ | refine ex_i64 _ rfl (by omega) (by omega) ?_ | refine ex_u64 _ rfl (by omega) (by omega) ?_ | refine and_mk (by first | omega | (with_reducible rfl) | (show drawOk _ _ _ = true; kernel_rfl)) ?_ | refine and_mk ⟨_, rfl⟩ ?_ | refine ex_is _ (List.length_map _) ?_ | refine ex_is _ List.length_nil ?_ | fail "no step")
  refine ex_join (X := Bool × Bool) (fun ⟨v1, v2⟩ => ⟨[(4, .o (.c (.ptr 1 0))), (5, .o (.c (.ptr 2 0))), (6, .o (.c (.ptr 3 0))), (11, .o (.c (.ptr 4 0)))], [(1, .obj [.d (di o), .d (di a), .d (di b), .d (du n)]), (2, .obj [.d (db true), .d (di k), .d (opD so), .d (db m), .d (db w)]), (3, .obj [.d (db false), .d (di 0), .d dnil, .d (db false), .d (db false)]), (4, .obj [.d (db true), .d (di (k + (pt - tk))), .d dnil, .d (db v1), .d (db v2)])], 5⟩) (fun ⟨v1, v2⟩ => v1 = m' ∧ v2 = w') ?_ ?_
  · cases m
    · cases mk
      · cases w
        all_goals (
          repeat' (first | refine ex_i64 (k + ((pt : Int) - tk)) (by omega) (by omega) (by omega) ?_ | refine ex_u64 (k + ((pt : Int) - tk)) (by omega) (by omega) (by omega) ?_ | refine ex_u8 (k + ((pt : Int) - tk)) (by omega) (by omega) (by omega) ?_ | refine ex_i64 (k - tk) (by omega) (by omega) (by omega) ?_ | refine ex_u64 (k - tk) (by omega) (by omega) (by omega) ?_ | refine ex_u8 (k - tk) (by omega) (by omega) (by omega) ?_ | refine ex_true (by first | decide | omega | assumption | (with_reducible exact rfl)) ?_ | refine ex_false (by first | decide | omega | assumption | exact (fun h => h rfl)) ?_ | refine ex_dec (fun _ => ?_) (fun _ => ?_) | refine ex_u8 _ rfl (by omega) (by omega) ?_ | refine ex_i64 _ rfl (by omega) (by omega) ?_ | refine ex_u64 _ rfl (by omega) (by omega) ?_ | refine and_mk (by first | omega | (with_reducible rfl) | (show drawOk _ _ _ = true; kernel_rfl)) ?_ | refine and_mk ⟨_, rfl⟩ ?_ | refine ex_is _ (List.length_map _) ?_ | refine ex_is _ List.length_nil ?_ | fail "no step")
          )
        all_goals exact ex_meet (_, _) ⟨by simp [hm'], by simp [hw', *]⟩ (SLe.of ⟨⟨rfl, rfl, rfl, rfl, trivial⟩, ⟨rfl, rfl, rfl, rfl, trivial⟩⟩)
      · cases ins <;> cases w
        all_goals (
          repeat' (first | refine ex_i64 (k + ((pt : Int) - tk)) (by omega) (by omega) (by omega) ?_ | refine ex_u64 (k + ((pt : Int) - tk)) (by omega) (by omega) (by omega) ?_ | refine ex_u8 (k + ((pt : Int) - tk)) (by omega) (by omega) (by omega) ?_ | refine ex_i64 (k - tk) (by omega) (by omega) (by omega) ?_ | refine ex_u64 (k - tk) (by omega) (by omega) (by omega) ?_ | refine ex_u8 (k - tk) (by omega) (by omega) (by omega) ?_ | refine ex_true (by first | decide | omega | assumption | (with_reducible exact rfl)) ?_ | refine ex_false (by first | decide | omega | assumption | exact (fun h => h rfl)) ?_ | refine ex_dec (fun _ => ?_) (fun _ => ?_) | refine ex_u8 _ rfl (by omega) (by omega) ?_ | refine ex_i64 _ rfl (by omega) (by omega) ?_ | refine ex_u64 _ rfl (by omega) (by omega) ?_ | refine and_mk (by first | omega | (with_reducible rfl) | (show drawOk _ _ _ = true; kernel_rfl)) ?_ | refine and_mk ⟨_, rfl⟩ ?_ | refine ex_is _ (List.length_map _) ?_ | refine ex_is _ List.length_nil ?_ | fail "no step")
          )
        all_goals exact ex_meet (_, _) ⟨by simp [hm'], by simp [hw', *]⟩ (SLe.of ⟨⟨rfl, rfl, rfl, rfl, trivial⟩, ⟨rfl, rfl, rfl, rfl, trivial⟩⟩)
    · cases w
      all_goals (
        repeat' (first | refine ex_i64 (k + ((pt : Int) - tk)) (by omega) (by omega) (by omega) ?_ | refine ex_u64 (k + ((pt : Int) - tk)) (by omega) (by omega) (by omega) ?_ | refine ex_u8 (k + ((pt : Int) - tk)) (by omega) (by omega) (by omega) ?_ | refine ex_i64 (k - tk) (by omega) (by omega) (by omega) ?_ | refine ex_u64 (k - tk) (by omega) (by omega) (by omega) ?_ | refine ex_u8 (k - tk) (by omega) (by omega) (by omega) ?_ | refine ex_true (by first | decide | omega | assumption | (with_reducible exact rfl)) ?_ | refine ex_false (by first | decide | omega | assumption | exact (fun h => h rfl)) ?_ | refine ex_dec (fun _ => ?_) (fun _ => ?_) | refine ex_u8 _ rfl (by omega) (by omega) ?_ | refine ex_i64 _ rfl (by omega) (by omega) ?_ | refine ex_u64 _ rfl (by omega) (by omega) ?_ | refine and_mk (by first | omega | (with_reducible rfl) | (show drawOk _ _ _ = true; kernel_rfl)) ?_ | refine and_mk ⟨_, rfl⟩ ?_ | refine ex_is _ (List.length_map _) ?_ | refine ex_is _ List.length_nil ?_ | fail "no step")
        )
      all_goals exact ex_meet (_, _) ⟨by simp [hm'], by simp [hw', *]⟩ (SLe.of ⟨⟨rfl, rfl, rfl, rfl, trivial⟩, ⟨rfl, rfl, rfl, rfl, trivial⟩⟩)
  rintro ⟨v1, v2⟩ ⟨hv1, hv2⟩
  clear hT hI hM
  rw [← hv1, ← hv2]
  have hlen : ∀ K : TV → Prop, True := fun _ => trivial
  rcases hso : so with _ | ⟨c0, r0⟩
  · have hcl0 : cl.length = 0 := by rw [hso] at hc; exact Nat.le_zero.1 hc
    have hk0 : kp = 0 := by rw [hkp, hcl0, hso]; rfl
    rw [hso] at hkp
    have hno : ¬ (o = 15 ∨ o = 17 ∨ o = 19) := fun h => by have := o3 h; omega
    repeat' (first | refine ex_true (by first | decide | omega | assumption | (with_reducible exact rfl)) ?_ | refine ex_false (by first | decide | omega | assumption | exact (fun h => h rfl)) ?_ | refine ex_dec (fun _ => ?_) (fun _ => ?_) | refine ex_u8 _ rfl (by omega) (by omega) ?_ | refine ex_i64 _ rfl (by omega) (by omega) ?_ | refine ex_u64 _ rfl (by omega) (by omega) ?_ | refine and_mk (by first | omega | (with_reducible rfl) | (show drawOk _ _ _ = true; kernel_rfl)) ?_ | refine and_mk ⟨_, rfl⟩ ?_ | refine ex_is _ (List.length_map _) ?_ | refine ex_is _ List.length_nil ?_ | fail "no step")
    refine ex_join (X := Int) (fun z => ⟨[(4, .o (.c (.ptr 1 0))), (5, .o (.c (.ptr 2 0))), (6, .o (.c (.ptr 3 0))), (11, .o (.c (.ptr 4 0))), (12, Ti z)], [(1, .obj [.d (di o), .d (di a), .d (di b), .d (du n)]), (2, .obj [.d (db true), .d (di k), .d (opD []), .d (db m), .d (db w)]), (3, .obj [.d (db false), .d (di 0), .d dnil, .d (db false), .d (db false)]), (4, .obj [.d (db true), .d (di (k + (pt - tk))), .d dnil, .d (db v1), .d (db v2)])], 5⟩) (fun z => z = 0) ?_ ?_
    · repeat' (first | refine ex_true (by first | decide | omega | assumption | (with_reducible exact rfl)) ?_ | refine ex_false (by first | decide | omega | assumption | exact (fun h => h rfl)) ?_ | refine ex_dec (fun _ => ?_) (fun _ => ?_) | refine ex_u8 _ rfl (by omega) (by omega) ?_ | refine ex_i64 _ rfl (by omega) (by omega) ?_ | refine ex_u64 _ rfl (by omega) (by omega) ?_ | refine and_mk (by first | omega | (with_reducible rfl) | (show drawOk _ _ _ = true; kernel_rfl)) ?_ | refine and_mk ⟨_, rfl⟩ ?_ | refine ex_is _ (List.length_map _) ?_ | refine ex_is _ List.length_nil ?_ | fail "no step")
      exact ex_meet 0 rfl (SLe.of ⟨⟨rfl, rfl, rfl, rfl, rfl, trivial⟩, ⟨rfl, rfl, rfl, rfl, trivial⟩⟩)
    rintro z rfl
    repeat' (first | refine ex_true (by first | decide | omega | assumption | (with_reducible exact rfl)) ?_ | refine ex_false (by first | decide | omega | assumption | exact (fun h => h rfl)) ?_ | refine ex_dec (fun _ => ?_) (fun _ => ?_) | refine ex_u8 _ rfl (by omega) (by omega) ?_ | refine ex_i64 _ rfl (by omega) (by omega) ?_ | refine ex_u64 _ rfl (by omega) (by omega) ?_ | refine and_mk (by first | omega | (with_reducible rfl) | (show drawOk _ _ _ = true; kernel_rfl)) ?_ | refine and_mk ⟨_, rfl⟩ ?_ | refine ex_is _ (List.length_map _) ?_ | refine ex_is _ List.length_nil ?_ | fail "no step")
    refine ex_loop (X := Unit) (fun _ => ⟨[(4, .o (.c (.ptr 1 0))), (5, .o (.c (.ptr 2 0))), (6, .o (.c (.ptr 3 0))), (11, .o (.c (.ptr 4 0))), (12, Ti 0), (13, Ti 0)], [(1, .obj [.d (di o), .d (di a), .d (di b), .d (du n)]), (2, .obj [.d (db true), .d (di k), .d (opD []), .d (db m), .d (db w)]), (3, .obj [.d (db false), .d (di 0), .d dnil, .d (db false), .d (db false)]), (4, .obj [.d (db true), .d (di (k + (pt - tk))), .d dnil, .d (db v1), .d (db v2)])], 5⟩) (fun _ => 0) (fun _ => True) () trivial (SLe.of ⟨⟨rfl, rfl, rfl, rfl, rfl, rfl, trivial⟩, ⟨rfl, rfl, rfl, rfl, trivial⟩⟩) ?_
    rintro ⟨⟩ -
    rw [hk0, List.take_nil, List.nil_append]
    by_cases hp : o = 14 ∨ o = 16 ∨ o = 18
    · obtain ⟨c, hc1, hc2⟩ := o1 hp
      rw [hc1]
      have hrow : opD [c] = .sl 1 [[di o]] := by rw [← hc2]; rfl
      rw [hrow]
      rcases hp with rfl | rfl | rfl
      all_goals (
        repeat' (first | refine ex_true (by first | decide | omega | assumption | (with_reducible exact rfl)) ?_ | refine ex_false (by first | decide | omega | assumption | exact (fun h => h rfl)) ?_ | refine ex_dec (fun _ => ?_) (fun _ => ?_) | refine ex_u8 _ rfl (by omega) (by omega) ?_ | refine ex_i64 _ rfl (by omega) (by omega) ?_ | refine ex_u64 _ rfl (by omega) (by omega) ?_ | refine and_mk (by first | omega | (with_reducible rfl) | (show drawOk _ _ _ = true; kernel_rfl)) ?_ | refine and_mk ⟨_, rfl⟩ ?_ | refine ex_is _ (List.length_map _) ?_ | refine ex_is _ List.length_nil ?_ | fail "no step")
        refine ex_app 0 1 100 rfl rfl rfl (by omega) ?_
        refine ex_eq ?_
        repeat' (first | refine ex_true (by first | decide | omega | assumption | (with_reducible exact rfl)) ?_ | refine ex_false (by first | decide | omega | assumption | exact (fun h => h rfl)) ?_ | refine ex_dec (fun _ => ?_) (fun _ => ?_) | refine ex_u8 _ rfl (by omega) (by omega) ?_ | refine ex_i64 _ rfl (by omega) (by omega) ?_ | refine ex_u64 _ rfl (by omega) (by omega) ?_ | refine and_mk (by first | omega | (with_reducible rfl) | (show drawOk _ _ _ = true; kernel_rfl)) ?_ | refine and_mk ⟨_, rfl⟩ ?_ | refine ex_is _ (List.length_map _) ?_ | refine ex_is _ List.length_nil ?_ | fail "no step")
        )
      all_goals exact TLe.rfl
    · rw [o2 hp]
      repeat' (first | refine ex_true (by first | decide | omega | assumption | (with_reducible exact rfl)) ?_ | refine ex_false (by first | decide | omega | assumption | exact (fun h => h rfl)) ?_ | refine ex_dec (fun _ => ?_) (fun _ => ?_) | refine ex_u8 _ rfl (by omega) (by omega) ?_ | refine ex_i64 _ rfl (by omega) (by omega) ?_ | refine ex_u64 _ rfl (by omega) (by omega) ?_ | refine and_mk (by first | omega | (with_reducible rfl) | (show drawOk _ _ _ = true; kernel_rfl)) ?_ | refine and_mk ⟨_, rfl⟩ ?_ | refine ex_is _ (List.length_map _) ?_ | refine ex_is _ List.length_nil ?_ | fail "no step")
      exact TLe.rfl
  · have hne : so ≠ [] := by rw [hso]; simp
    rw [← hso]
    clear hso
    rw [opD_ne hne]
    have hdl : (dis (so.map letO)).length = so.length := by rw [List.length_map, List.length_map]
    have hkl : kp ≤ so.length := by omega
    repeat' (first | refine (ex_is _ hdl) ?_ | refine ex_true (by first | decide | omega | assumption | (with_reducible exact rfl)) ?_ | refine ex_false (by first | decide | omega | assumption | exact (fun h => h rfl)) ?_ | refine ex_dec (fun _ => ?_) (fun _ => ?_) | refine ex_u8 _ rfl (by omega) (by omega) ?_ | refine ex_i64 _ rfl (by omega) (by omega) ?_ | refine ex_u64 _ rfl (by omega) (by omega) ?_ | refine and_mk (by first | omega | (with_reducible rfl) | (show drawOk _ _ _ = true; kernel_rfl)) ?_ | refine and_mk ⟨_, rfl⟩ ?_ | refine ex_is _ (List.length_map _) ?_ | refine ex_is _ List.length_nil ?_ | fail "no step")
    refine ex_join (X := Int) (fun z => ⟨[(4, .o (.c (.ptr 1 0))), (5, .o (.c (.ptr 2 0))), (6, .o (.c (.ptr 3 0))), (11, .o (.c (.ptr 4 0))), (12, Ti z)], [(1, .obj [.d (di o), .d (di a), .d (di b), .d (du n)]), (2, .obj [.d (db true), .d (di k), .d (.sl 1 (dis (so.map letO))), .d (db m), .d (db w)]), (3, .obj [.d (db false), .d (di 0), .d dnil, .d (db false), .d (db false)]), (4, .obj [.d (db true), .d (di (k + (pt - tk))), .d dnil, .d (db v1), .d (db v2)])], 5⟩) (fun z => z = kp) ?_ ?_
    · by_cases hcc : o = 15 ∨ o = 17 ∨ o = 19
      · have hc1 := o3 hcc
        repeat' (first | refine ex_i64 ((kp : Nat) : Int) (by omega) (by omega) (by omega) ?_ | refine ex_u64 ((kp : Nat) : Int) (by omega) (by omega) (by omega) ?_ | refine ex_u8 ((kp : Nat) : Int) (by omega) (by omega) (by omega) ?_ | refine ex_true (by first | decide | omega | assumption | (with_reducible exact rfl)) ?_ | refine ex_false (by first | decide | omega | assumption | exact (fun h => h rfl)) ?_ | refine ex_dec (fun _ => ?_) (fun _ => ?_) | refine ex_u8 _ rfl (by omega) (by omega) ?_ | refine ex_i64 _ rfl (by omega) (by omega) ?_ | refine ex_u64 _ rfl (by omega) (by omega) ?_ | refine and_mk (by first | omega | (with_reducible rfl) | (show drawOk _ _ _ = true; kernel_rfl)) ?_ | refine and_mk ⟨_, rfl⟩ ?_ | refine ex_is _ (List.length_map _) ?_ | refine ex_is _ List.length_nil ?_ | fail "no step")
        all_goals exact ex_meet _ (by omega) (SLe.of ⟨⟨rfl, rfl, rfl, rfl, rfl, trivial⟩, ⟨rfl, rfl, rfl, rfl, trivial⟩⟩)
      · have hc1 := o4 hcc
        rw [hc1, List.length_nil] at hkp
        repeat' (first | refine ex_true (by first | decide | omega | assumption | (with_reducible exact rfl)) ?_ | refine ex_false (by first | decide | omega | assumption | exact (fun h => h rfl)) ?_ | refine ex_dec (fun _ => ?_) (fun _ => ?_) | refine ex_u8 _ rfl (by omega) (by omega) ?_ | refine ex_i64 _ rfl (by omega) (by omega) ?_ | refine ex_u64 _ rfl (by omega) (by omega) ?_ | refine and_mk (by first | omega | (with_reducible rfl) | (show drawOk _ _ _ = true; kernel_rfl)) ?_ | refine and_mk ⟨_, rfl⟩ ?_ | refine ex_is _ (List.length_map _) ?_ | refine ex_is _ List.length_nil ?_ | fail "no step")
        all_goals exact ex_meet _ (by omega) (SLe.of ⟨⟨rfl, rfl, rfl, rfl, rfl, trivial⟩, ⟨rfl, rfl, rfl, rfl, trivial⟩⟩)
    rintro z rfl
    repeat' (first | refine ex_true (by first | decide | omega | assumption | (with_reducible exact rfl)) ?_ | refine ex_false (by first | decide | omega | assumption | exact (fun h => h rfl)) ?_ | refine ex_dec (fun _ => ?_) (fun _ => ?_) | refine ex_u8 _ rfl (by omega) (by omega) ?_ | refine ex_i64 _ rfl (by omega) (by omega) ?_ | refine ex_u64 _ rfl (by omega) (by omega) ?_ | refine and_mk (by first | omega | (with_reducible rfl) | (show drawOk _ _ _ = true; kernel_rfl)) ?_ | refine and_mk ⟨_, rfl⟩ ?_ | refine ex_is _ (List.length_map _) ?_ | refine ex_is _ List.length_nil ?_ | fail "no step")
    by_cases hk0 : kp = 0
    · have hpos : 0 < so.length := List.length_pos_iff.2 hne
      have hcc : o = 15 ∨ o = 17 ∨ o = 19 := Classical.byContradiction fun h => by
        have := o4 h
        rw [this, List.length_nil] at hkp
        omega
      rw [hk0, List.take_zero, List.nil_append, o2 (by omega)]
      refine ex_loop (X := Unit) (fun _ => ⟨[(4, .o (.c (.ptr 1 0))), (5, .o (.c (.ptr 2 0))), (6, .o (.c (.ptr 3 0))), (11, .o (.c (.ptr 4 0))), (12, Ti (0 : Nat)), (13, Ti 0)], [(1, .obj [.d (di o), .d (di a), .d (di b), .d (du n)]), (2, .obj [.d (db true), .d (di k), .d (.sl 1 (dis (so.map letO))), .d (db m), .d (db w)]), (3, .obj [.d (db false), .d (di 0), .d dnil, .d (db false), .d (db false)]), (4, .obj [.d (db true), .d (di (k + (pt - tk))), .d dnil, .d (db v1), .d (db v2)])], 5⟩) (fun _ => 0) (fun _ => True) () trivial (SLe.of ⟨⟨rfl, rfl, rfl, rfl, rfl, rfl, trivial⟩, ⟨rfl, rfl, rfl, rfl, trivial⟩⟩) ?_
      rintro ⟨⟩ -
      repeat' (first | refine ex_true (by first | decide | omega | assumption | (with_reducible exact rfl)) ?_ | refine ex_false (by first | decide | omega | assumption | exact (fun h => h rfl)) ?_ | refine ex_dec (fun _ => ?_) (fun _ => ?_) | refine ex_u8 _ rfl (by omega) (by omega) ?_ | refine ex_i64 _ rfl (by omega) (by omega) ?_ | refine ex_u64 _ rfl (by omega) (by omega) ?_ | refine and_mk (by first | omega | (with_reducible rfl) | (show drawOk _ _ _ = true; kernel_rfl)) ?_ | refine and_mk ⟨_, rfl⟩ ?_ | refine ex_is _ (List.length_map _) ?_ | refine ex_is _ List.length_nil ?_ | fail "no step")
      exact TLe.rfl
    · refine ex_loop (X := Nat × Int) (fun ⟨q, y⟩ => ⟨[(4, .o (.c (.ptr 1 0))), (5, .o (.c (.ptr 2 0))), (6, .o (.c (.ptr 3 0))), (11, .o (.c (.ptr 4 0))), (12, Ti kp), (13, Ti y)], [(1, .obj [.d (di o), .d (di a), .d (di b), .d (du n)]), (2, .obj [.d (db true), .d (di k), .d (.sl 1 (dis (so.map letO))), .d (db m), .d (db w)]), (3, .obj [.d (db false), .d (di 0), .d dnil, .d (db false), .d (db false)]), (4, .obj [.d (db true), .d (di (k + (pt - tk))), .row 5, .d (db v1), .d (db v2)]), (5, .row 1 3 (dis ((so.take q).map letO)))], 6⟩) (fun x => kp - x.1) (fun ⟨q, y⟩ => q ≤ kp ∧ y = q) (0, 0) ⟨Nat.zero_le _, rfl⟩ (SLe.trans (SLe.of ⟨⟨rfl, rfl, rfl, rfl, rfl, rfl, trivial⟩, ⟨rfl, rfl, rfl, rfl, rfl, trivial⟩⟩) (SLe.ownCell 4 2 5 1 3 rfl rfl rfl rfl rfl rfl)) ?_
      rintro ⟨q, y⟩ ⟨hq, rfl⟩
      have htl : (dis ((so.take q).map letO)).length = q := by rw [List.length_map, List.length_map, List.length_take]; omega
      by_cases hqk : q < kp
      · have hql : q < so.length := by omega
        have hx : (so.map letO)[q]? = some (letO so[q]) := by rw [List.getElem?_map, at_some hql]; rfl
        have hap : dis ((so.take q).map letO) ++ [[di (letO so[q])]] = dis ((so.take (q + 1)).map letO) := by
          have htk : so.take (q + 1) = so.take q ++ [so[q]] := by rw [List.take_add_one, at_some hql]; rfl
          rw [htk]
          simp only [List.map_append, List.map_cons, List.map_nil]
        generalize letO so[q] = z at *
        repeat' (first | refine ex_i64 ((q + 1 : Nat) : Int) (by omega) (by omega) (by omega) ?_ | refine ex_u64 ((q + 1 : Nat) : Int) (by omega) (by omega) (by omega) ?_ | refine ex_u8 ((q + 1 : Nat) : Int) (by omega) (by omega) (by omega) ?_ | refine (ex_is _ hap) ?_ | refine (ex_app q 1 100 htl rfl rfl (by omega)) ?_ | refine (ex_row q z rfl hx) ?_ | refine ex_true (by first | decide | omega | assumption | (with_reducible exact rfl)) ?_ | refine ex_false (by first | decide | omega | assumption | exact (fun h => h rfl)) ?_ | refine ex_dec (fun _ => ?_) (fun _ => ?_) | refine ex_u8 _ rfl (by omega) (by omega) ?_ | refine ex_i64 _ rfl (by omega) (by omega) ?_ | refine ex_u64 _ rfl (by omega) (by omega) ?_ | refine and_mk (by first | omega | (with_reducible rfl) | (show drawOk _ _ _ = true; kernel_rfl)) ?_ | refine and_mk ⟨_, rfl⟩ ?_ | refine ex_is _ (List.length_map _) ?_ | refine ex_is _ List.length_nil ?_ | fail "no step")
        exact ex_round (q + 1, _) ⟨by omega, rfl⟩ (by show _ - _ < _ - _; omega) (SLe.ren [(1, 1), (2, 2), (3, 3), (4, 4), (7, 5)] ⟨⟨rfl, rfl⟩, ⟨rfl, rfl⟩, ⟨rfl, rfl⟩, ⟨rfl, rfl⟩, ⟨rfl, rfl⟩, ⟨rfl, rfl⟩, trivial⟩ ⟨⟨rfl, rfl⟩, ⟨rfl, rfl⟩, ⟨rfl, rfl⟩, ⟨rfl, rfl⟩, ⟨rfl, rfl⟩, trivial⟩ rfl)
      · obtain rfl : q = kp := by omega
        by_cases hp : o = 14 ∨ o = 16 ∨ o = 18
        · obtain ⟨c, hc1, hc2⟩ := o1 hp
          rw [hc1]
          have hrow : opD (so.take q ++ [c]) = .sl 1 (dis ((so.take q).map letO) ++ [[di o]]) := by rw [opD_ne (by simp), List.map_append, List.map_cons, List.map_nil, hc2]; simp
          rw [hrow]
          rcases hp with rfl | rfl | rfl
          all_goals (
            repeat' (first | refine ex_true (by first | decide | omega | assumption | (with_reducible exact rfl)) ?_ | refine ex_false (by first | decide | omega | assumption | exact (fun h => h rfl)) ?_ | refine ex_dec (fun _ => ?_) (fun _ => ?_) | refine ex_u8 _ rfl (by omega) (by omega) ?_ | refine ex_i64 _ rfl (by omega) (by omega) ?_ | refine ex_u64 _ rfl (by omega) (by omega) ?_ | refine and_mk (by first | omega | (with_reducible rfl) | (show drawOk _ _ _ = true; kernel_rfl)) ?_ | refine and_mk ⟨_, rfl⟩ ?_ | refine ex_is _ (List.length_map _) ?_ | refine ex_is _ List.length_nil ?_ | fail "no step")
            refine ex_app q 1 100 htl rfl rfl (by omega) ?_
            refine ex_eq ?_
            repeat' (first | refine ex_true (by first | decide | omega | assumption | (with_reducible exact rfl)) ?_ | refine ex_false (by first | decide | omega | assumption | exact (fun h => h rfl)) ?_ | refine ex_dec (fun _ => ?_) (fun _ => ?_) | refine ex_u8 _ rfl (by omega) (by omega) ?_ | refine ex_i64 _ rfl (by omega) (by omega) ?_ | refine ex_u64 _ rfl (by omega) (by omega) ?_ | refine and_mk (by first | omega | (with_reducible rfl) | (show drawOk _ _ _ = true; kernel_rfl)) ?_ | refine and_mk ⟨_, rfl⟩ ?_ | refine ex_is _ (List.length_map _) ?_ | refine ex_is _ List.length_nil ?_ | fail "no step")
            )
          all_goals exact TLe.rfl
        · rw [o2 hp, List.append_nil, opD_ne (by intro e; have := congrArg List.length e; rw [List.length_take, List.length_nil] at this; omega)]
          repeat' (first | refine ex_true (by first | decide | omega | assumption | (with_reducible exact rfl)) ?_ | refine ex_false (by first | decide | omega | assumption | exact (fun h => h rfl)) ?_ | refine ex_dec (fun _ => ?_) (fun _ => ?_) | refine ex_u8 _ rfl (by omega) (by omega) ?_ | refine ex_i64 _ rfl (by omega) (by omega) ?_ | refine ex_u64 _ rfl (by omega) (by omega) ?_ | refine and_mk (by first | omega | (with_reducible rfl) | (show drawOk _ _ _ = true; kernel_rfl)) ?_ | refine and_mk ⟨_, rfl⟩ ?_ | refine ex_is _ (List.length_map _) ?_ | refine ex_is _ List.length_nil ?_ | fail "no step")
          exact TLe.rfl
end
set_option maxHeartbeats 4000000 in
theorem rsame_c (kb : Bool) (s t : SS) (hs : s.o.length ≤ 1000000) (ht : t.o.length ≤ 1000000) (hls : LetOk s.o) (hlt : LetOk t.o) : CallsA Tryz.prog Γ0 16 [gD (stK5 kb s), gD (stD t)] (Tb (SS.same s t)) := by
  obtain ⟨k, so, m, w⟩ := s
  obtain ⟨k', so', m', w'⟩ := t
  dsimp only at *
  change CallsA _ _ _ [gD [db kb, di k, opD so, db m, db w], gD [db true, di k', opD so', db m', db w']] _
  by_cases hd : k = k' ∧ m = m' ∧ w = w' ∧ so.length = so'.length
  · obtain ⟨rfl, rfl, rfl, hl⟩ := hd
    have hres : SS.same ⟨k, so, m, w⟩ ⟨k, so', m, w⟩ = decide (so = so') := by simp [SS.same]
    rw [hres]
    by_cases hne : so = []
    · have hne' : so' = [] := List.eq_nil_of_length_eq_zero (by rw [← hl, hne]; rfl)
      rw [hne, hne', decide_eq_true rfl]
      change CallsA _ _ _ [gD [db kb, di k, dnil, db m, db w], gD [db true, di k, dnil, db m, db w]] _
      cases m <;> cases w
      all_goals (
        refine fn_rule (C := ⟨Tryz.prog, layF, Tryz.f16.ntmps, Γ0, 0, [], []⟩) layF_ok mixed Tryz.func16 rfl (by kernel_rfl) rfl rfl rfl ?_
        repeat' (first | refine ex_true (by first | decide | omega | assumption | (with_reducible exact rfl)) ?_ | refine ex_false (by first | decide | omega | assumption | exact (fun h => h rfl)) ?_ | refine ex_dec (fun _ => ?_) (fun _ => ?_) | refine ex_u8 _ rfl (by omega) (by omega) ?_ | refine ex_i64 _ rfl (by omega) (by omega) ?_ | refine ex_u64 _ rfl (by omega) (by omega) ?_ | refine and_mk (by first | omega | (with_reducible rfl) | (show drawOk _ _ _ = true; kernel_rfl)) ?_ | refine and_mk ⟨_, rfl⟩ ?_ | refine ex_is _ (List.length_map _) ?_ | refine ex_is _ List.length_nil ?_ | fail "no step")
        refine ex_loop (X := Unit) (fun _ => ⟨[(2, .o (.c (.ptr 0 0))), (3, .o (.c (.ptr 1 0))), (5, Ti 0)], [(0, .obj [.d (db kb), .d (di k), .d dnil, .d (db _), .d (db _)]), (1, .obj [.d (db true), .d (di k), .d dnil, .d (db _), .d (db _)])], 2⟩) (fun _ => 0) (fun _ => True) () trivial (SLe.of ⟨⟨rfl, rfl, rfl, trivial⟩, ⟨rfl, rfl, trivial⟩⟩) ?_
        rintro ⟨⟩ -
        repeat' (first | refine ex_true (by first | decide | omega | assumption | (with_reducible exact rfl)) ?_ | refine ex_false (by first | decide | omega | assumption | exact (fun h => h rfl)) ?_ | refine ex_dec (fun _ => ?_) (fun _ => ?_) | refine ex_u8 _ rfl (by omega) (by omega) ?_ | refine ex_i64 _ rfl (by omega) (by omega) ?_ | refine ex_u64 _ rfl (by omega) (by omega) ?_ | refine and_mk (by first | omega | (with_reducible rfl) | (show drawOk _ _ _ = true; kernel_rfl)) ?_ | refine and_mk ⟨_, rfl⟩ ?_ | refine ex_is _ (List.length_map _) ?_ | refine ex_is _ List.length_nil ?_ | fail "no step")
        )
      all_goals exact TLe.rfl
    · have hne' : so' ≠ [] := fun h => hne (List.eq_nil_of_length_eq_zero (by rw [hl, h]; rfl))
      rw [opD_ne hne, opD_ne hne']
      have hd1 : (dis (so.map letO)).length = so.length := by rw [List.length_map, List.length_map]
      have hd2 : (dis (so'.map letO)).length = so.length := by rw [List.length_map, List.length_map, hl]
      cases m <;> cases w
      all_goals (
        refine fn_rule (C := ⟨Tryz.prog, layF, Tryz.f16.ntmps, Γ0, 0, [], []⟩) layF_ok mixed Tryz.func16 rfl (by kernel_rfl) rfl rfl rfl ?_
        repeat' (first | refine (ex_is _ hd2) ?_ | refine (ex_is _ hd1) ?_ | refine ex_true (by first | decide | omega | assumption | (with_reducible exact rfl)) ?_ | refine ex_false (by first | decide | omega | assumption | exact (fun h => h rfl)) ?_ | refine ex_dec (fun _ => ?_) (fun _ => ?_) | refine ex_u8 _ rfl (by omega) (by omega) ?_ | refine ex_i64 _ rfl (by omega) (by omega) ?_ | refine ex_u64 _ rfl (by omega) (by omega) ?_ | refine and_mk (by first | omega | (with_reducible rfl) | (show drawOk _ _ _ = true; kernel_rfl)) ?_ | refine and_mk ⟨_, rfl⟩ ?_ | refine ex_is _ (List.length_map _) ?_ | refine ex_is _ List.length_nil ?_ | fail "no step")
        refine ex_loop (X := Nat × Int) (fun ⟨q, y⟩ => ⟨[(2, .o (.c (.ptr 0 0))), (3, .o (.c (.ptr 1 0))), (5, Ti y)], [(0, .obj [.d (db kb), .d (di k), .d (.sl 1 (dis (so.map letO))), .d (db _), .d (db _)]), (1, .obj [.d (db true), .d (di k), .d (.sl 1 (dis (so'.map letO))), .d (db _), .d (db _)])], 2⟩) (fun x => so.length - x.1) (fun ⟨q, y⟩ => q ≤ so.length ∧ y = q ∧ so.take q = so'.take q) (0, 0) ⟨Nat.zero_le _, rfl, rfl⟩ (SLe.of ⟨⟨rfl, rfl, rfl, trivial⟩, ⟨rfl, rfl, trivial⟩⟩) ?_
        rintro ⟨q, y⟩ ⟨hq, rfl, htk⟩
        by_cases hql : q < so.length
        · have hx : (so.map letO)[q]? = some (letO so[q]) := by rw [List.getElem?_map, at_some hql]; rfl
          have hx' : (so'.map letO)[q]? = some (letO (so'[q]'(by omega))) := by rw [List.getElem?_map, at_some (show q < so'.length by omega)]; rfl
          have h1 : so.take (q + 1) = so.take q ++ [so[q]] := by rw [List.take_add_one, at_some hql]; rfl
          have h2 : so'.take (q + 1) = so'.take q ++ [so'[q]'(by omega)] := by rw [List.take_add_one, at_some (show q < so'.length by omega)]; rfl
          have h3 : so ≠ so' ∨ so[q] = so'[q]'(by omega) := by
            by_cases e : so = so'
            · subst e; exact .inr rfl
            · exact .inl e
          have hin := letO_inj (hls so[q] (List.getElem_mem hql)) (hlt (so'[q]'(by omega)) (List.getElem_mem _))
          generalize so[q] = z at *
          generalize so'[q]'(by omega) = z' at *
          by_cases hz : letO z = letO z'
          · have hzz := hin hz
            repeat' (first | refine ex_i64 ((q + 1 : Nat) : Int) (by omega) (by omega) (by omega) ?_ | refine ex_u64 ((q + 1 : Nat) : Int) (by omega) (by omega) (by omega) ?_ | refine ex_u8 ((q + 1 : Nat) : Int) (by omega) (by omega) (by omega) ?_ | refine (ex_row q (letO z') rfl hx') ?_ | refine (ex_row q (letO z) rfl hx) ?_ | refine (ex_is _ hd1) ?_ | refine ex_true (by first | decide | omega | assumption | (with_reducible exact rfl)) ?_ | refine ex_false (by first | decide | omega | assumption | exact (fun h => h rfl)) ?_ | refine ex_dec (fun _ => ?_) (fun _ => ?_) | refine ex_u8 _ rfl (by omega) (by omega) ?_ | refine ex_i64 _ rfl (by omega) (by omega) ?_ | refine ex_u64 _ rfl (by omega) (by omega) ?_ | refine and_mk (by first | omega | (with_reducible rfl) | (show drawOk _ _ _ = true; kernel_rfl)) ?_ | refine and_mk ⟨_, rfl⟩ ?_ | refine ex_is _ (List.length_map _) ?_ | refine ex_is _ List.length_nil ?_ | fail "no step")
            exact ex_round (q + 1, _) ⟨by omega, rfl, by rw [h1, h2, htk, hzz]⟩ (by show _ - _ < _ - _; omega) (SLe.of ⟨⟨rfl, rfl, rfl, trivial⟩, ⟨rfl, rfl, trivial⟩⟩)
          · have hnn : so ≠ so' := by
              rcases h3 with h | h
              · exact h
              · exact absurd (by rw [h]) hz
            rw [decide_eq_false hnn]
            repeat' (first | refine (ex_row q (letO z') rfl hx') ?_ | refine (ex_row q (letO z) rfl hx) ?_ | refine (ex_is _ hd1) ?_ | refine ex_true (by first | decide | omega | assumption | (with_reducible exact rfl)) ?_ | refine ex_false (by first | decide | omega | assumption | exact (fun h => h rfl)) ?_ | refine ex_dec (fun _ => ?_) (fun _ => ?_) | refine ex_u8 _ rfl (by omega) (by omega) ?_ | refine ex_i64 _ rfl (by omega) (by omega) ?_ | refine ex_u64 _ rfl (by omega) (by omega) ?_ | refine and_mk (by first | omega | (with_reducible rfl) | (show drawOk _ _ _ = true; kernel_rfl)) ?_ | refine and_mk ⟨_, rfl⟩ ?_ | refine ex_is _ (List.length_map _) ?_ | refine ex_is _ List.length_nil ?_ | fail "no step")
            exact TLe.rfl
        · obtain rfl : q = so.length := by omega
          rw [List.take_length, hl, List.take_length] at htk
          rw [decide_eq_true htk]
          repeat' (first | refine (ex_is _ hd1) ?_ | refine ex_true (by first | decide | omega | assumption | (with_reducible exact rfl)) ?_ | refine ex_false (by first | decide | omega | assumption | exact (fun h => h rfl)) ?_ | refine ex_dec (fun _ => ?_) (fun _ => ?_) | refine ex_u8 _ rfl (by omega) (by omega) ?_ | refine ex_i64 _ rfl (by omega) (by omega) ?_ | refine ex_u64 _ rfl (by omega) (by omega) ?_ | refine and_mk (by first | omega | (with_reducible rfl) | (show drawOk _ _ _ = true; kernel_rfl)) ?_ | refine and_mk ⟨_, rfl⟩ ?_ | refine ex_is _ (List.length_map _) ?_ | refine ex_is _ List.length_nil ?_ | fail "no step")
          exact TLe.rfl
        )
  · have hres : SS.same ⟨k, so, m, w⟩ ⟨k', so', m', w'⟩ = false := by
      cases hv : SS.same ⟨k, so, m, w⟩ ⟨k', so', m', w'⟩ with
      | false => rfl
      | true =>
        have := SS.same_iff.1 hv
        injection this with e1 e2 e3 e4
        exact absurd ⟨e1, e3, e4, by rw [e2]⟩ hd
    rw [hres]
    have hD : ∀ l : List UInt8, l ≠ [] → opD l = .sl 1 (dis (l.map letO)) ∧ (dis (l.map letO)).length = l.length := fun l hl => ⟨opD_ne hl, by rw [List.length_map, List.length_map]⟩
    by_cases h1 : k = k'
    · subst h1
      by_cases h2 : m = m'
      · subst h2
        by_cases h3 : w = w'
        · subst h3
          have h4 : ¬ so.length = so'.length := fun h4 => hd ⟨rfl, rfl, rfl, h4⟩
          by_cases e1 : so = []
          · have e2 : so' ≠ [] := fun h => h4 (by rw [e1, h])
            obtain ⟨f1, f2⟩ := hD so' e2
            have hp : 0 < so'.length := List.length_pos_iff.2 e2
            rw [f1, e1]
            change CallsA _ _ _ [gD [db kb, di k, dnil, db m, db w], _] _
            refine fn_rule (C := ⟨Tryz.prog, layF, Tryz.f16.ntmps, Γ0, 0, [], []⟩) layF_ok mixed Tryz.func16 rfl (by kernel_rfl) rfl rfl rfl ?_
            repeat' (first | refine (ex_is _ f2) ?_ | refine ex_true (by first | decide | omega | assumption | (with_reducible exact rfl)) ?_ | refine ex_false (by first | decide | omega | assumption | exact (fun h => h rfl)) ?_ | refine ex_dec (fun _ => ?_) (fun _ => ?_) | refine ex_u8 _ rfl (by omega) (by omega) ?_ | refine ex_i64 _ rfl (by omega) (by omega) ?_ | refine ex_u64 _ rfl (by omega) (by omega) ?_ | refine and_mk (by first | omega | (with_reducible rfl) | (show drawOk _ _ _ = true; kernel_rfl)) ?_ | refine and_mk ⟨_, rfl⟩ ?_ | refine ex_is _ (List.length_map _) ?_ | refine ex_is _ List.length_nil ?_ | fail "no step")
            all_goals exact TLe.rfl
          · obtain ⟨g1, g2⟩ := hD so e1
            have hp : 0 < so.length := List.length_pos_iff.2 e1
            rw [g1]
            by_cases e2 : so' = []
            · rw [e2]
              change CallsA _ _ _ [_, gD [db true, di k, dnil, db m, db w]] _
              refine fn_rule (C := ⟨Tryz.prog, layF, Tryz.f16.ntmps, Γ0, 0, [], []⟩) layF_ok mixed Tryz.func16 rfl (by kernel_rfl) rfl rfl rfl ?_
              repeat' (first | refine (ex_is _ g2) ?_ | refine ex_true (by first | decide | omega | assumption | (with_reducible exact rfl)) ?_ | refine ex_false (by first | decide | omega | assumption | exact (fun h => h rfl)) ?_ | refine ex_dec (fun _ => ?_) (fun _ => ?_) | refine ex_u8 _ rfl (by omega) (by omega) ?_ | refine ex_i64 _ rfl (by omega) (by omega) ?_ | refine ex_u64 _ rfl (by omega) (by omega) ?_ | refine and_mk (by first | omega | (with_reducible rfl) | (show drawOk _ _ _ = true; kernel_rfl)) ?_ | refine and_mk ⟨_, rfl⟩ ?_ | refine ex_is _ (List.length_map _) ?_ | refine ex_is _ List.length_nil ?_ | fail "no step")
              all_goals exact TLe.rfl
            · obtain ⟨f1, f2⟩ := hD so' e2
              rw [f1]
              refine fn_rule (C := ⟨Tryz.prog, layF, Tryz.f16.ntmps, Γ0, 0, [], []⟩) layF_ok mixed Tryz.func16 rfl (by kernel_rfl) rfl rfl rfl ?_
              repeat' (first | refine (ex_is _ f2) ?_ | refine (ex_is _ g2) ?_ | refine ex_true (by first | decide | omega | assumption | (with_reducible exact rfl)) ?_ | refine ex_false (by first | decide | omega | assumption | exact (fun h => h rfl)) ?_ | refine ex_dec (fun _ => ?_) (fun _ => ?_) | refine ex_u8 _ rfl (by omega) (by omega) ?_ | refine ex_i64 _ rfl (by omega) (by omega) ?_ | refine ex_u64 _ rfl (by omega) (by omega) ?_ | refine and_mk (by first | omega | (with_reducible rfl) | (show drawOk _ _ _ = true; kernel_rfl)) ?_ | refine and_mk ⟨_, rfl⟩ ?_ | refine ex_is _ (List.length_map _) ?_ | refine ex_is _ List.length_nil ?_ | fail "no step")
              all_goals exact TLe.rfl
        · generalize opD so = od at *
          generalize opD so' = od' at *
          refine fn_rule (C := ⟨Tryz.prog, layF, Tryz.f16.ntmps, Γ0, 0, [], []⟩) layF_ok mixed Tryz.func16 rfl (by kernel_rfl) rfl rfl rfl ?_
          repeat' (first | refine ex_true (by first | decide | omega | assumption | (with_reducible exact rfl)) ?_ | refine ex_false (by first | decide | omega | assumption | exact (fun h => h rfl)) ?_ | refine ex_dec (fun _ => ?_) (fun _ => ?_) | refine ex_u8 _ rfl (by omega) (by omega) ?_ | refine ex_i64 _ rfl (by omega) (by omega) ?_ | refine ex_u64 _ rfl (by omega) (by omega) ?_ | refine and_mk (by first | omega | (with_reducible rfl) | (show drawOk _ _ _ = true; kernel_rfl)) ?_ | refine and_mk ⟨_, rfl⟩ ?_ | refine ex_is _ (List.length_map _) ?_ | refine ex_is _ List.length_nil ?_ | fail "no step")
          all_goals exact TLe.rfl
      · generalize opD so = od at *
        generalize opD so' = od' at *
        refine fn_rule (C := ⟨Tryz.prog, layF, Tryz.f16.ntmps, Γ0, 0, [], []⟩) layF_ok mixed Tryz.func16 rfl (by kernel_rfl) rfl rfl rfl ?_
        repeat' (first | refine ex_true (by first | decide | omega | assumption | (with_reducible exact rfl)) ?_ | refine ex_false (by first | decide | omega | assumption | exact (fun h => h rfl)) ?_ | refine ex_dec (fun _ => ?_) (fun _ => ?_) | refine ex_u8 _ rfl (by omega) (by omega) ?_ | refine ex_i64 _ rfl (by omega) (by omega) ?_ | refine ex_u64 _ rfl (by omega) (by omega) ?_ | refine and_mk (by first | omega | (with_reducible rfl) | (show drawOk _ _ _ = true; kernel_rfl)) ?_ | refine and_mk ⟨_, rfl⟩ ?_ | refine ex_is _ (List.length_map _) ?_ | refine ex_is _ List.length_nil ?_ | fail "no step")
        all_goals exact TLe.rfl
    · generalize opD so = od at *
      generalize opD so' = od' at *
      refine fn_rule (C := ⟨Tryz.prog, layF, Tryz.f16.ntmps, Γ0, 0, [], []⟩) layF_ok mixed Tryz.func16 rfl (by kernel_rfl) rfl rfl rfl ?_
      repeat' (first | refine ex_true (by first | decide | omega | assumption | (with_reducible exact rfl)) ?_ | refine ex_false (by first | decide | omega | assumption | exact (fun h => h rfl)) ?_ | refine ex_dec (fun _ => ?_) (fun _ => ?_) | refine ex_u8 _ rfl (by omega) (by omega) ?_ | refine ex_i64 _ rfl (by omega) (by omega) ?_ | refine ex_u64 _ rfl (by omega) (by omega) ?_ | refine and_mk (by first | omega | (with_reducible rfl) | (show drawOk _ _ _ = true; kernel_rfl)) ?_ | refine and_mk ⟨_, rfl⟩ ?_ | refine ex_is _ (List.length_map _) ?_ | refine ex_is _ List.length_nil ?_ | fail "no step")
      all_goals exact TLe.rfl
end Go.Proofs.YtgfmbkbiingagaaGreatDoor

namespace Go.Proofs.YtgfmbkbiingagaaGreatDoor
set_option linter.unusedVariables false
set_option linter.unusedSimpArgs false

/-! ### Instructions behind the end -/
theorem frames_more : ∀ {fs : List FN} {n m : Nat} {sl la : Int} {b : Bool}, (∀ f ∈ fs, f.e < n ∧ f.e < m) → framesV fs n sl la b = framesV fs m sl la b
  | [], _, _, _, _, _, _ => rfl
  | f :: fs, n, m, sl, la, b, h => by
    rw [framesV, framesV, frames_more (fun f hf => h f (List.mem_cons_of_mem _ hf))]
    have h1 := h f (by simp)
    have e : ((n : Int) ≤ f.e) ↔ ((m : Int) ≤ f.e) := by omega
    simp only [e]
def PlOk (n : Nat) (tt tt' : Int) (j : Int) : Prop := tt = tt' ∨ (tt = n ∧ n ≤ tt' ∧ j < n)
theorem place_more {n : Nat} {fr tt tt' j : Int} (h : PlOk n tt tt' j) : placeV fr tt j = placeV fr tt' j := by
  rcases h with rfl | ⟨rfl, h1, h2⟩
  · rfl
  · unfold placeV
    rw [decide_eq_decide]
    omega
theorem fits_more {fs : List FN} {fn : Nat} {fr tt tt' : Int} {x : IN} {s : SS} (ha : placeV fr tt x.a = placeV fr tt' x.a) (hb : placeV fr tt x.b = placeV fr tt' x.b) : fitsV fs fn fr tt x s = fitsV fs fn fr tt' x s := by
  have : ∀ f, numbersV f fn fr tt x = numbersV f fn fr tt' x := fun f => by unfold numbersV; rw [ha, hb]
  unfold fitsV
  rw [this]
theorem gos_more {fr tt tt' : Int} {i : Int} {t : SS} : ∀ {l : List Int} {g : SG}, (∀ j ∈ l, placeV fr tt j = placeV fr tt' j) → l.foldl (SG.go fr tt i t) g = l.foldl (SG.go fr tt' i t) g
  | [], _, _ => rfl
  | j :: l, g, h => by
    rw [List.foldl_cons, List.foldl_cons]
    have : SG.go fr tt i t g j = SG.go fr tt' i t g j := by unfold SG.go; rw [h j (by simp)]
    rw [this]
    exact gos_more fun j hj => h j (List.mem_cons_of_mem _ hj)
theorem goes_mem {x : IN} {i j : Int} (h : j ∈ goesV x i) : j = x.a ∨ j = x.b ∨ (j = i + 1 ∧ x.o ≠ 35) := by
  unfold goesV at h
  split at h
  · simp at h; exact .inl h
  · split at h
    · rename_i h2
      simp at h
      rcases h with h | h
      · exact .inl h
      · exact .inr (.inr ⟨h, by omega⟩)
    · split at h
      · rename_i h3
        simp at h
        rcases h with h | h
        · exact .inr (.inl h)
        · exact .inr (.inr ⟨h, by omega⟩)
      · split at h
        · simp at h
        · rename_i h4
          simp at h
          exact .inr (.inr ⟨h, by omega⟩)
/-- What the law says of the instructions ahead. -/
structure EndOk (cs : List IN) : Prop where
  last : ∀ i x, cs[i]? = some x → i + 1 = cs.length → x.o = 35
  ins : ∀ x ∈ cs, x.a < cs.length ∧ x.b < cs.length
theorem step_more {fs : List FN} {cs ds : List IN} (hE : EndOk cs) {fn : Nat} {fr tt tt' : Int} (htt : tt = tt' ∨ (tt = cs.length ∧ (cs.length : Int) ≤ tt')) {g : SG} {i : Int} (hi : 0 ≤ i ∧ i < cs.length) :
    SG.step fs cs fn fr tt g i = SG.step fs (cs ++ ds) fn fr tt' g i := by
  have hx : cs[i.toNat]? = some (cs[i.toNat]'(by omega)) := List.getElem?_eq_getElem _
  have hx2 : (cs ++ ds)[i.toNat]? = some (cs[i.toNat]'(by omega)) := by rw [List.getElem?_append_left (by omega)]; exact hx
  have hmem : cs[i.toNat]'(by omega) ∈ cs := List.getElem_mem _
  have hlast := hE.last i.toNat _ hx
  generalize cs[i.toNat]'(by omega) = x at *
  have hin := hE.ins x hmem
  have hp : ∀ j : Int, j < cs.length → placeV fr tt j = placeV fr tt' j := fun j hj => place_more (n := cs.length) (by rcases htt with h | ⟨h1, h2⟩; exact .inl h; exact .inr ⟨h1, h2, hj⟩)
  unfold SG.step
  rw [List.getD, List.getD, hx, hx2]
  dsimp only [Option.getD_some]
  rw [fits_more (hp _ hin.1) (hp _ hin.2)]
  split
  · rfl
  · refine gos_more fun j hj => ?_
    rcases goes_mem hj with rfl | rfl | ⟨rfl, h35⟩
    · exact hp _ hin.1
    · exact hp _ hin.2
    · refine hp _ ?_
      by_cases h : i.toNat + 1 = cs.length
      · exact absurd (hlast h) h35
      · omega
theorem run_more {fs : List FN} {cs ds : List IN} (hE : EndOk cs) {fn : Nat} {fr tt tt' : Int} (hf : 0 ≤ fr) (ht : tt ≤ cs.length) (htt : tt = tt' ∨ (tt = cs.length ∧ (cs.length : Int) ≤ tt')) : ∀ (k : Nat) {g : SG}, g.Ok cs.length → SG.run fs cs fn fr tt k g = SG.run fs (cs ++ ds) fn fr tt' k g
  | 0, _, _ => rfl
  | k + 1, g, h => by
    rw [SG.run, SG.run]
    split
    · rfl
    · rename_i hl
      obtain ⟨s, hs⟩ := Option.isSome_iff_exists.1 (h.2.2 _ (minL_mem hl))
      have hb := h.1 _ (SG.at_mem hs)
      have e : SG.pull fs cs fn fr tt g = SG.pull fs (cs ++ ds) fn fr tt' g := step_more hE htt hb
      rw [← e]
      exact run_more hE hf ht htt k (SG.pull_ok h hl hf ht fs cs fn).1
theorem function_more {fs : List FN} {cs ds : List IN} (hE : EndOk cs) (hfs : okFrames fs cs = true) {fn : Nat} (hfn : fn < fs.length) : functionV fs cs fn = functionV fs (cs ++ ds) fn := by
  have h1 : framesV fs cs.length 0 (-1) true = true := by unfold okFrames at hfs; rw [Bool.and_eq_true] at hfs; exact hfs.1
  have hs := framesV_spec h1 (Int.le_refl _) (Int.le_refl _) (by decide)
  have hx : fs[fn]? = some fs[fn] := List.getElem?_eq_getElem hfn
  have hb := hs fn _ hx
  have hg : fs.getD fn zF = fs[fn] := by rw [List.getD, hx]; rfl
  have htt : toV fs cs fn = toV fs (cs ++ ds) fn ∨ (toV fs cs fn = cs.length ∧ (cs.length : Int) ≤ toV fs (cs ++ ds) fn) := by
    unfold toV
    split
    · exact .inl rfl
    · exact .inr ⟨rfl, by rw [List.length_append]; omega⟩
  have hto : toV fs cs fn ≤ cs.length := by
    unfold toV
    split
    · rename_i hl
      have hx2 : fs[fn + 1]? = some fs[fn + 1] := List.getElem?_eq_getElem hl
      have := hs _ _ hx2
      rw [List.getD, hx2]
      show fs[fn + 1].e ≤ _
      omega
    · exact Int.le_refl _
  obtain ⟨q1, q2⟩ := SG.start_ok (n := cs.length) (fr := fs[fn].e) ⟨by omega, by omega⟩
  have e : SG.run fs cs fn fs[fn].e (toV fs cs fn) (2 * cs.length + 2) (SG.start fs[fn].e) = SG.run fs (cs ++ ds) fn fs[fn].e (toV fs (cs ++ ds) fn) (2 * (cs ++ ds).length + 2) (SG.start fs[fn].e) := by
    rw [← run_more hE (by omega) hto htt _ q1]
    exact SG.run_end (by omega) hto fs fn _ _ q1 q2 (by rw [List.length_append]; omega)
  unfold functionV
  rw [hg, e]
theorem bad_same {fs fs' : List FN} {cs cs' : List IN} : ∀ {n i : Nat}, (∀ k, k < i + n → (functionV fs cs k).1 = (functionV fs' cs' k).1) → badV fs cs n i = badV fs' cs' n i
  | 0, _, _ => rfl
  | n + 1, i, h => by
    rw [badV, badV, h i (by omega), bad_same fun k hk => h k (by omega)]
theorem check_more {fs : List FN} {cs ds : List IN} (hE : EndOk cs) (hb : ∀ f ∈ fs, f.e < cs.length) : checkV fs cs = checkV fs (cs ++ ds) := by
  have e : okFrames fs (cs ++ ds) = okFrames fs cs := by
    unfold okFrames
    rw [frames_more (n := (cs ++ ds).length) (m := cs.length)]
    intro f hf
    have := hb f hf
    rw [List.length_append]
    omega
  unfold checkV
  rw [e]
  split
  · rfl
  · rename_i hok
    have hok : okFrames fs cs = true := by simpa using hok
    rw [bad_same (cs' := cs ++ ds) (fs' := fs) fun k hk => by rw [function_more (ds := ds) hE hok (by omega)]]

/-! ### More slots -/
def moreS (m : Nat) (f : FN) : FN := ⟨f.e, f.s + m, f.p⟩
def sumS : List FN → Int
  | [] => 0
  | f :: fs => f.s + sumS fs
theorem frames_sum : ∀ {fs : List FN} {n : Nat} {sl la : Int} {b : Bool}, framesV fs n sl la b = true → 0 ≤ sumS fs ∧ (sl ≤ 4096 → sl + sumS fs ≤ 4096)
  | [], _, _, _, _, _ => ⟨Int.le_refl _, fun h => by show _ + 0 ≤ _; omega⟩
  | f :: fs, n, sl, la, b, h => by
    rw [framesV] at h
    split at h
    · cases h
    · rename_i hno
      obtain ⟨h1, h2⟩ := frames_sum h
      rw [sumS]
      exact ⟨by omega, fun _ => by have := h2 (by omega); omega⟩
theorem frames_slots (m : Nat) : ∀ {fs : List FN} {n : Nat} {sl sl' la : Int} {b : Bool}, framesV fs n sl la b = true → sl' + sumS (fs.map (moreS m)) ≤ 4096 → framesV (fs.map (moreS m)) n sl' la b = true
  | [], _, _, _, _, _, _, _ => rfl
  | f :: fs, n, sl, sl', la, b, h, hs => by
    rw [framesV] at h
    split at h
    · cases h
    · rename_i hno
      rw [List.map_cons, sumS] at hs
      have hpos : 0 ≤ sumS (fs.map (moreS m)) := by
        have : ∀ (l : List FN) {sl la : Int} {b : Bool}, framesV l n sl la b = true → 0 ≤ sumS (l.map (moreS m)) := fun l => by
          induction l with
          | nil => intro _ _ _ _; exact Int.le_refl _
          | cons x l ih =>
            intro sl la b h
            rw [framesV] at h
            split at h
            · cases h
            · rename_i hno
              have := ih h
              rw [List.map_cons, sumS]
              show 0 ≤ x.s + m + _
              omega
        exact this fs h
      have hs' : sl' + (f.s + m + sumS (fs.map (moreS m))) ≤ 4096 := hs
      clear hs
      rw [List.map_cons, framesV, if_neg (by
        show ¬ ((b = true ∧ f.e ≠ 0) ∨ f.e ≤ la ∨ (n : Int) ≤ f.e ∨ f.p < 0 ∨ f.s + m < f.p ∨ 4096 - sl' < f.s + m)
        intro hq
        have hno2 : ¬ (f.e ≤ la ∨ (n : Int) ≤ f.e ∨ f.p < 0 ∨ f.s < f.p ∨ 4096 - sl < f.s) := fun h => hno (.inr h)
        rcases hq with hq | hq
        · exact hno (.inl hq)
        · clear hno
          omega)]
      exact frames_slots m h (by show sl' + (f.s + m) + _ ≤ 4096; omega)
theorem fault_w {w i : Int} (hi : 0 ≤ i) : 0 ≤ faultV w i := by
  unfold faultV
  split <;> omega
theorem come_w {g : SG} {i : Int} {s : SS} (hi : 0 ≤ i) (h : 0 ≤ g.w) : 0 ≤ (g.come i s).w := by
  unfold SG.come
  split
  · split
    · exact h
    · exact fault_w hi
  · exact h
theorem go_w {fr tt i : Int} {s : SS} {g : SG} {j : Int} (hf : 0 ≤ fr) (hi : 0 ≤ i) (h : 0 ≤ g.w) : 0 ≤ (SG.go fr tt i s g j).w := by
  unfold SG.go
  split
  · exact fault_w hi
  · rename_i hno
    have hp : placeV fr tt j = true := by
      cases hv : placeV fr tt j with
      | true => rfl
      | false => exact absurd (.inl hv) hno
    have := of_decide_eq_true hp
    exact come_w (by omega) h
theorem gos_w {fr tt i : Int} {s : SS} (hf : 0 ≤ fr) (hi : 0 ≤ i) : ∀ {l : List Int} {g : SG}, 0 ≤ g.w → 0 ≤ (l.foldl (SG.go fr tt i s) g).w
  | [], _, h => h
  | j :: l, g, h => gos_w (l := l) (g := SG.go fr tt i s g j) hf hi (go_w hf hi h)
theorem step_w {fs : List FN} {cs : List IN} {fn : Nat} {fr tt : Int} {g : SG} {i : Int} (hf : 0 ≤ fr) (hi : 0 ≤ i) (h : 0 ≤ g.w ∨ fitsV fs fn fr tt (cs.getD i.toNat zI) ((g.at i).getD ⟨0, [], false, false⟩) = false) : 0 ≤ (SG.step fs cs fn fr tt g i).w := by
  unfold SG.step
  dsimp only
  split
  · exact fault_w hi
  · rename_i hno
    rcases h with h | h
    · exact gos_w hf hi h
    · exact absurd h hno
theorem run_w {fs : List FN} {cs : List IN} {fn : Nat} {fr tt : Int} (hf : 0 ≤ fr) (ht : tt ≤ cs.length) : ∀ (k : Nat) {g : SG}, g.Ok cs.length → 0 ≤ g.w → 0 ≤ (SG.run fs cs fn fr tt k g).w
  | 0, _, _, h => h
  | k + 1, g, hg, h => by
    rw [SG.run]
    split
    · exact h
    · rename_i hl
      obtain ⟨s, hs⟩ := Option.isSome_iff_exists.1 (hg.2.2 _ (minL_mem hl))
      have hb := hg.1 _ (SG.at_mem hs)
      exact run_w hf ht k (SG.pull_ok hg hl hf ht fs cs fn).1 (step_w hf hb.1 (.inl h))
theorem slot_more {m : Nat} {f : FN} {n : Int} (h : slotV f n = true) : slotV (moreS m f) n = true := by
  have := of_decide_eq_true h
  refine decide_eq_true ?_
  show 0 ≤ n ∧ n < f.s + m
  omega
theorem numbers_more {m : Nat} {f : FN} {fn : Nat} {fr tt : Int} {x : IN} (h : numbersV f fn fr tt x = true) : numbersV (moreS m f) fn fr tt x = true := by
  unfold numbersV at h ⊢
  repeat' split at h
  all_goals simp_all [slot_more]
theorem getD_more (m : Nat) (fs : List FN) (k : Nat) (hk : k < fs.length) : (fs.map (moreS m)).getD k zF = moreS m (fs.getD k zF) := by
  rw [List.getD, List.getD, List.getElem?_map, List.getElem?_eq_getElem hk]; rfl
theorem takes_more {m : Nat} {fs : List FN} {x : IN} : takesV (fs.map (moreS m)) x = takesV fs x := by
  unfold takesV
  split
  · by_cases hk : x.a.toNat < fs.length
    · rw [getD_more m fs _ hk]; rfl
    · rw [List.getD, List.getD, List.getElem?_eq_none (by simpa using hk), List.getElem?_eq_none (by simpa using hk)]
  · rfl
theorem fits_slots {m : Nat} {fs : List FN} {fn : Nat} {fr tt : Int} {x : IN} {s : SS} (hfn : fn < fs.length) (h : fitsV fs fn fr tt x s = true) : fitsV (fs.map (moreS m)) fn fr tt x s = true := by
  unfold fitsV at h ⊢
  rw [takes_more, getD_more m fs fn hfn, List.length_map]
  split at h
  · cases h
  · rename_i h1
    have hn : numbersV (fs.getD fn zF) fn fr tt x = true := by
      cases hv : numbersV (fs.getD fn zF) fn fr tt x with
      | true => rfl
      | false => exact absurd (.inl hv) h1
    rw [if_neg (fun hq => by
      rcases hq with hq | hq
      · rw [numbers_more hn] at hq; cases hq
      · exact h1 (.inr hq))]
    exact h
theorem run_slots {m : Nat} {fs : List FN} {cs : List IN} {fn : Nat} {fr tt : Int} (hfn : fn < fs.length) (hf : 0 ≤ fr) (ht : tt ≤ cs.length) : ∀ (k : Nat) {g : SG}, g.Ok cs.length → (SG.run fs cs fn fr tt k g).w < 0 → SG.run (fs.map (moreS m)) cs fn fr tt k g = SG.run fs cs fn fr tt k g
  | 0, _, _, _ => rfl
  | k + 1, g, hg, h => by
    rw [SG.run] at h
    rw [SG.run, SG.run]
    split
    · rfl
    · rename_i hl
      rw [if_neg hl] at h
      obtain ⟨s, hs⟩ := Option.isSome_iff_exists.1 (hg.2.2 _ (minL_mem hl))
      have hb := hg.1 _ (SG.at_mem hs)
      have hok := (SG.pull_ok hg hl hf ht fs cs fn).1
      have hpw : (SG.pull fs cs fn fr tt g).w < 0 := by
        rcases Int.lt_or_le (SG.pull fs cs fn fr tt g).w 0 with hw | hw
        · exact hw
        · have := run_w (fs := fs) (fn := fn) hf ht k hok hw
          omega
      have e : SG.pull (fs.map (moreS m)) cs fn fr tt g = SG.pull fs cs fn fr tt g := by
        have hfit : fitsV fs fn fr tt (cs.getD (minL g.lf).toNat zI) ((SG.at { g with lf := g.lf.filter fun k => !decide (k = minL g.lf) } (minL g.lf)).getD ⟨0, [], false, false⟩) = true := by
          cases hv : fitsV fs fn fr tt (cs.getD (minL g.lf).toNat zI) ((SG.at { g with lf := g.lf.filter fun k => !decide (k = minL g.lf) } (minL g.lf)).getD ⟨0, [], false, false⟩) with
          | true => rfl
          | false =>
            have : 0 ≤ (SG.pull fs cs fn fr tt g).w := step_w hf hb.1 (.inr hv)
            omega
        have hfit2 := fits_slots (m := m) hfn hfit
        unfold SG.pull SG.step
        dsimp only at hfit hfit2 ⊢
        rw [hfit, hfit2]
        have hn : ∀ x t, nextV (fs.map (moreS m)) x t = nextV fs x t := fun x t => by unfold nextV; rw [takes_more]
        rw [hn]
      rw [e]
      exact run_slots hfn hf ht k hok h
theorem to_more (m : Nat) (fs : List FN) (cs : List IN) (fn : Nat) : toV (fs.map (moreS m)) cs fn = toV fs cs fn := by
  unfold toV
  rw [List.length_map]
  split
  · rename_i h
    rw [getD_more m fs _ h]; rfl
  · rfl
theorem function_slots {m : Nat} {fs : List FN} {cs : List IN} (hfs : okFrames fs cs = true) {fn : Nat} (hfn : fn < fs.length) (hw : (functionV fs cs fn).1 < 0) : functionV (fs.map (moreS m)) cs fn = functionV fs cs fn := by
  have h1 : framesV fs cs.length 0 (-1) true = true := by unfold okFrames at hfs; rw [Bool.and_eq_true] at hfs; exact hfs.1
  have hs := framesV_spec h1 (Int.le_refl _) (Int.le_refl _) (by decide)
  have hx : fs[fn]? = some fs[fn] := List.getElem?_eq_getElem hfn
  have hb := hs fn _ hx
  have hg : fs.getD fn zF = fs[fn] := by rw [List.getD, hx]; rfl
  have hto : toV fs cs fn ≤ cs.length := by
    unfold toV
    split
    · rename_i hl
      have hx2 : fs[fn + 1]? = some fs[fn + 1] := List.getElem?_eq_getElem hl
      have := hs _ _ hx2
      rw [List.getD, hx2]
      show fs[fn + 1].e ≤ _
      omega
    · exact Int.le_refl _
  obtain ⟨q1, q2⟩ := SG.start_ok (n := cs.length) (fr := fs[fn].e) ⟨by omega, by omega⟩
  unfold functionV at hw ⊢
  rw [getD_more m fs fn hfn, hg, to_more, show (moreS m fs[fn]).e = fs[fn].e from rfl]
  rw [hg] at hw
  rw [run_slots hfn (by omega) hto _ q1 hw]
theorem bad_none {fs : List FN} {cs : List IN} : ∀ {n i : Nat}, badV fs cs n i = none → ∀ k, i ≤ k → k < i + n → (functionV fs cs k).1 < 0
  | 0, i, _, k, h1, h2 => by omega
  | n + 1, i, h, k, h1, h2 => by
    rw [badV] at h
    split at h
    · cases h
    · rename_i hno
      by_cases hk : k = i
      · subst hk; omega
      · exact bad_none h k (by omega) (by omega)
theorem check_ok {fs : List FN} {cs : List IN} (h : (checkV fs cs).2 = 0) : okFrames fs cs = true ∧ checkV fs cs = (0, 0) ∧ ∀ k, k < fs.length → (functionV fs cs k).1 < 0 := by
  unfold checkV at h ⊢
  split at h
  · cases h
  · rename_i hok
    rw [if_neg hok]
    cases hb : badV fs cs fs.length 0 with
    | some i => rw [hb] at h; cases h
    | none => exact ⟨by simpa using hok, rfl, fun k hk => bad_none hb k (Nat.zero_le _) (by omega)⟩
theorem check_slots {fs : List FN} {cs : List IN} (h : (checkV fs cs).2 = 0) (m : Nat) : (4096 < sumS (fs.map (moreS m)) → checkV (fs.map (moreS m)) cs = (0, 2)) ∧
    (sumS (fs.map (moreS m)) ≤ 4096 → checkV (fs.map (moreS m)) cs = (0, 0) ∧ deepestV (fs.map (moreS m)) cs 0 = deepestV fs cs 0) := by
  obtain ⟨h1, h2, h3⟩ := check_ok h
  have hfr : framesV fs cs.length 0 (-1) true = true ∧ fs ≠ [] := by
    unfold okFrames at h1
    rw [Bool.and_eq_true] at h1
    exact ⟨h1.1, of_decide_eq_true h1.2⟩
  constructor
  · intro hs
    have : okFrames (fs.map (moreS m)) cs = false := by
      cases hv : okFrames (fs.map (moreS m)) cs with
      | false => rfl
      | true =>
        unfold okFrames at hv
        rw [Bool.and_eq_true] at hv
        have := (frames_sum hv.1).2 (by decide)
        omega
    unfold checkV
    rw [if_pos this]
  · intro hs
    have hok : okFrames (fs.map (moreS m)) cs = true := by
      unfold okFrames
      rw [frames_slots m hfr.1 (by omega)]
      simp [hfr.2]
    have hfn : ∀ k, k < fs.length → functionV (fs.map (moreS m)) cs k = functionV fs cs k := fun k hk => function_slots h1 hk (h3 k hk)
    have hb : badV (fs.map (moreS m)) cs fs.length 0 = badV fs cs fs.length 0 := bad_same fun k hk => by rw [hfn k (by omega)]
    have hck : checkV (fs.map (moreS m)) cs = (0, 0) := by
      rw [← h2]
      unfold checkV
      rw [hok, h1, List.length_map, hb]
    refine ⟨hck, ?_⟩
    have hl : 0 < fs.length := List.length_pos_iff.2 hfr.2
    unfold deepestV
    have hno : ¬ (((0, 0) : Int × Nat).2 ≠ 0 ∨ (0 : Int) < 0 ∨ (fs.length : Int) ≤ 0) := by
      intro hq
      rcases hq with hq | hq | hq
      · exact hq rfl
      · omega
      · omega
    rw [hck, h2, List.length_map, if_neg hno, if_neg hno]
    show (functionV _ cs 0).2 = _
    rw [hfn 0 hl]; rfl
end Go.Proofs.YtgfmbkbiingagaaGreatDoor

namespace Go.Proofs.YtgfmbkbiingagaaGreatDoor
set_option linter.unusedVariables false
set_option linter.unusedSimpArgs false

theorem fault_comm {w a b : Int} (ha : 0 ≤ a) (hb : 0 ≤ b) : faultV (faultV w a) b = faultV (faultV w b) a := by
  unfold faultV
  repeat' split
  all_goals omega
theorem fault_idem {w a : Int} (ha : 0 ≤ a) : faultV (faultV w a) a = faultV w a := by
  unfold faultV
  repeat' split
  all_goals omega
/-- One place at which an instruction goes on, as the document has it: the state, and did it go wrong? -/
def goR (fr tt : Int) (s : SS) (g : SG × Bool) (j : Int) : SG × Bool := if placeV fr tt j = false ∨ 512 < s.k then (g.1, true) else (g.1.come j s, g.2)
def endR (i : Int) (g : SG × Bool) : SG := if g.2 = true then g.1.fault i else g.1
theorem come_fault {g : SG} {i j : Int} {s : SS} (hi : 0 ≤ i) (hj : 0 ≤ j) : (g.fault i).come j s = (g.come j s).fault i := by
  unfold SG.come
  have : (g.fault i).at j = g.at j := rfl
  rw [this]
  split
  · split
    · rfl
    · show SG.mk _ _ _ _ = SG.mk _ _ _ _
      show SG.mk g.kn g.lf g.d (faultV (faultV g.w i) j) = SG.mk g.kn g.lf g.d (faultV (faultV g.w j) i)
      rw [fault_comm hi hj]
  · rfl
theorem go_end {fr tt i : Int} {s : SS} {g : SG × Bool} {j : Int} (hf : 0 ≤ fr) (hi : 0 ≤ i) : endR i (goR fr tt s g j) = SG.go fr tt i s (endR i g) j := by
  obtain ⟨g, b⟩ := g
  unfold goR SG.go
  split
  · rename_i h
    cases b with
    | false => rfl
    | true =>
      show g.fault i = (g.fault i).fault i
      show SG.mk g.kn g.lf g.d (faultV g.w i) = SG.mk g.kn g.lf g.d (faultV (faultV g.w i) i)
      rw [fault_idem hi]
  · rename_i h
    cases b with
    | false => rfl
    | true =>
      have hp : placeV fr tt j = true := by
        cases hv : placeV fr tt j with
        | true => rfl
        | false => exact absurd (.inl hv) h
      have := of_decide_eq_true hp
      exact (come_fault hi (by omega)).symm
theorem gos_end {fr tt i : Int} {s : SS} (hf : 0 ≤ fr) (hi : 0 ≤ i) : ∀ {l : List Int} {g : SG × Bool}, endR i (l.foldl (goR fr tt s) g) = l.foldl (SG.go fr tt i s) (endR i g)
  | [], _ => rfl
  | j :: l, g => by
    rw [List.foldl_cons, List.foldl_cons, gos_end hf hi, go_end hf hi]
theorem come_nodup {g : SG} {i : Int} {s : SS} (h : g.lf.Nodup ∧ ∀ j ∈ g.lf, (g.at j).isSome = true) : (g.come i s).lf.Nodup ∧ ∀ j ∈ (g.come i s).lf, ((g.come i s).at j).isSome = true := by
  cases ha : g.at i with
  | some t =>
    have e : (g.come i s).lf = g.lf ∧ (g.come i s).kn = g.kn := by
      unfold SG.come
      rw [ha]
      dsimp only
      split <;> exact ⟨rfl, rfl⟩
    rw [e.1]
    refine ⟨h.1, fun j hj => ?_⟩
    have : (g.come i s).at j = g.at j := by unfold SG.at; rw [e.2]
    rw [this]
    exact h.2 j hj
  | none =>
    have e : (g.come i s).lf = g.lf ++ [i] := by unfold SG.come; rw [ha]
    have hni : i ∉ g.lf := fun hm => by have := h.2 i hm; rw [ha] at this; cases this
    refine ⟨?_, fun j hj => ?_⟩
    · rw [e, List.nodup_append]
      refine ⟨h.1, by simp, fun a ha b hb eab => ?_⟩
      have hb : b = i := by simpa using hb
      rw [eab, hb] at ha
      exact hni ha
    · rw [SG.come_at j ha]
      split
      · rfl
      · rw [e] at hj
        rcases List.mem_append.1 hj with hj | hj
        · exact h.2 j hj
        · rename_i hne
          exact absurd (by simpa using hj : j = i).symm hne
end Go.Proofs.YtgfmbkbiingagaaGreatDoor

namespace Go.Proofs.YtgfmbkbiingagaaGreatDoor
set_option linter.unusedVariables false
set_option linter.unusedSimpArgs false
open Go.RowKit
set_option maxRecDepth 100000

abbrev ss0 : SS := ⟨0, [], false, false⟩
theorem ex_atR {rows : List (List D)} {i : Nat} {r : List D} (h : rows[i]? = some r) {K : List D → Prop} {a : Nat} (hk : K r) : a = a ∧ ∃ r, rows[i]? = some r ∧ K r := ⟨rfl, r, h, hk⟩
/-- The rows of what is known, and of what is left. -/
def kRow (o : Option SS) : List D := match o with
  | some s => stK5 true s
  | none => stK5 false ss0
def KR (n : Nat) (g : SG) (K : List (List D)) : Prop := K.length = n ∧ ∀ k : Nat, k < n → K[k]? = some (kRow (g.at k))
def BR (n : Nat) (g : SG) (B : List (List D)) : Prop := B.length = n ∧ ∀ k : Nat, k < n → B[k]? = some [db (decide ((k : Int) ∈ g.lf))]
theorem KR.come {n : Nat} {g : SG} {K : List (List D)} (h : KR n g K) {y : Nat} (hy : y < n) {s : SS} (ha : g.at y = none) : KR n (g.come y s) (K.set y (stK5 true s)) := by
  refine ⟨by rw [List.length_set]; exact h.1, fun k hk => ?_⟩
  rw [SG.come_at _ ha]
  by_cases e : y = k
  · subst e
    rw [List.getElem?_set_self (by rw [h.1]; exact hy), if_pos rfl]; rfl
  · rw [List.getElem?_set_ne e, if_neg (by omega)]
    exact h.2 k hk
theorem come_lf {g : SG} {i : Int} {s : SS} (ha : g.at i = none) : (g.come i s).lf = g.lf ++ [i] ∧ (g.come i s).w = g.w ∧ (g.come i s).d = g.d := by
  unfold SG.come
  rw [ha]
  exact ⟨rfl, rfl, rfl⟩
theorem BR.come {n : Nat} {g : SG} {B : List (List D)} (h : BR n g B) {y : Nat} (hy : y < n) {s : SS} (ha : g.at y = none) : BR n (g.come y s) (B.set y [db true]) := by
  refine ⟨by rw [List.length_set]; exact h.1, fun k hk => ?_⟩
  rw [(come_lf ha).1]
  by_cases e : y = k
  · subst e
    rw [List.getElem?_set_self (by rw [h.1]; exact hy)]
    simp
  · rw [List.getElem?_set_ne e, h.2 k hk]
    have : ((k : Int) ∈ g.lf ++ [(y : Int)]) ↔ (k : Int) ∈ g.lf := by
      rw [List.mem_append, List.mem_singleton]
      constructor
      · rintro (h | h)
        · exact h
        · omega
      · exact .inl
    simp only [this]
theorem BR.less {n : Nat} {g : SG} {B : List (List D)} (h : BR n g B) {y : Nat} (hy : y < n) : BR n { g with lf := g.lf.filter fun k => !decide (k = (y : Int)) } (B.set y [db false]) := by
  refine ⟨by rw [List.length_set]; exact h.1, fun k hk => ?_⟩
  by_cases e : y = k
  · subst e
    rw [List.getElem?_set_self (by rw [h.1]; exact hy)]
    simp
  · rw [List.getElem?_set_ne e, h.2 k hk]
    have hne : ¬ (k : Int) = y := by omega
    simp [List.mem_filter, hne]
def LetG (g : SG) : Prop := ∀ p ∈ g.kn, LetOk p.2.o
theorem LetG.come {g : SG} (h : LetG g) {i : Int} {s : SS} (hs : LetOk s.o) : LetG (g.come i s) := by
  unfold SG.come
  split
  · split <;> exact h
  · intro p hp
    rcases List.mem_append.1 hp with hp | hp
    · exact h p hp
    · obtain rfl : p = (i, s) := by simpa using hp
      exact hs
theorem LetG.gos {g : SG} (h : LetG g) {fr tt i : Int} {s : SS} (hs : LetOk s.o) : ∀ {l : List Int} {g : SG}, LetG g → LetG (l.foldl (SG.go fr tt i s) g)
  | [], _, h => h
  | j :: l, g, h => by
    rw [List.foldl_cons]
    refine LetG.gos h hs ?_
    unfold SG.go
    split
    · exact h
    · exact h.come hs
theorem next_let {fs : List FN} {x : IN} {s : SS} (hs : LetOk s.o) : LetOk (nextV fs x s).o := by
  intro c hc
  rcases List.mem_append.1 hc with hc | hc
  · exact hs c (List.mem_of_mem_take hc)
  · exact (opens_let x.o).2.2.2.2 c hc
theorem goes_tail (x : IN) (i : Int) : ∀ q, 1 ≤ q → ∀ y, (goesV x i)[q]? = some y → y = i + 1 := by
  intro q hq y hy
  unfold goesV at hy
  obtain ⟨q, rfl⟩ : ∃ k, q = k + 1 := ⟨q - 1, by omega⟩
  repeat' split at hy
  all_goals first | (simp at hy; done) | (cases q with
    | zero => simpa using hy.symm
    | succ q => simp at hy)
theorem goes_lo {f : FN} {fn : Nat} {fr tt : Int} {x : IN} {i : Int} (hi : fr ≤ i) (hn : numbersV f fn fr tt x = true) : ∀ y ∈ goesV x i, fr ≤ y := by
  intro y hy
  unfold goesV at hy
  unfold numbersV at hn
  split at hy
  · rename_i h
    simp [h] at hn hy
    have := of_decide_eq_true hn
    omega
  · split at hy
    · rename_i h
      have hp : placeV fr tt x.a = true := by rcases h with h | h <;> simpa [h] using hn
      have := of_decide_eq_true hp
      simp at hy
      omega
    · split at hy
      · rename_i h
        simp [h] at hn hy
        have := of_decide_eq_true hn.2
        omega
      · split at hy
        · simp at hy
        · simp at hy
          omega
theorem come_sub {g : SG} {i j : Int} {s : SS} (h : j ∈ (g.come i s).lf) : j ∈ g.lf ∨ j = i := by
  unfold SG.come at h
  split at h
  · split at h <;> exact .inl h
  · rcases List.mem_append.1 h with h | h
    · exact .inl h
    · exact .inr (by simpa using h)
theorem gos_lf {fr tt i : Int} {s : SS} : ∀ {l : List Int} {g : SG} {j : Int}, j ∈ (l.foldl (SG.go fr tt i s) g).lf → j ∈ g.lf ∨ placeV fr tt j = true
  | [], _, _, h => .inl h
  | y :: l, g, j, h => by
    rw [List.foldl_cons] at h
    rcases gos_lf h with h | h
    · unfold SG.go at h
      split at h
      · exact .inl h
      · rename_i hno
        rcases come_sub h with h | rfl
        · exact .inl h
        · right
          cases hv : placeV fr tt j with
          | true => rfl
          | false => exact absurd (.inl hv) hno
    · exact .inr h
theorem KnOk.gosR {n : Nat} {fr tt : Int} (hf : 0 ≤ fr) (ht : tt ≤ n) {s : SS} (hk : 0 ≤ s.k) (hs : LetOk s.o) : ∀ (l : List Int) {g : SG × Bool}, KnOk n g.1 → s.o.length ≤ g.1.kn.length → LetG g.1 → KnOk n (l.foldl (goR fr tt s) g).1 ∧ g.1.kn.length ≤ (l.foldl (goR fr tt s) g).1.kn.length ∧ LetG (l.foldl (goR fr tt s) g).1
  | [], g, h, _, hl => ⟨h, Nat.le_refl _, hl⟩
  | j :: l, g, h, hlen, hl => by
    have h1 : KnOk n (goR fr tt s g j).1 ∧ g.1.kn.length ≤ (goR fr tt s g j).1.kn.length ∧ LetG (goR fr tt s g j).1 := by
      unfold goR
      split
      · exact ⟨h, Nat.le_refl _, hl⟩
      · rename_i hno
        have hp : placeV fr tt j = true := by
          cases hv : placeV fr tt j with
          | true => rfl
          | false => exact absurd (.inl hv) hno
        have := of_decide_eq_true hp
        exact ⟨h.come ⟨by omega, by omega⟩ ⟨hk, by omega, hlen⟩, come_len _ _ _, hl.come hs⟩
    obtain ⟨a, b, c⟩ := KnOk.gosR hf ht hk hs l h1.1 (Nat.le_trans hlen h1.2.1) h1.2.2
    rw [List.foldl_cons]
    exact ⟨a, Nat.le_trans h1.2.1 b, c⟩
theorem mu_lt {a b n c d : Nat} (h : a < b) (hc : c ≤ n + 1) : a * (n + 2) + c < b * (n + 2) + d := by
  have h1 : (a + 1) * (n + 2) ≤ b * (n + 2) := Nat.mul_le_mul_right _ h
  rw [Nat.add_mul, Nat.one_mul] at h1
  omega
theorem min_is {l : List Int} {i : Int} (h : i ∈ l) (hge : ∀ j ∈ l, i ≤ j) : minL l = i := by
  have h1 := minL_le h
  have h2 := hge _ (minL_mem (l := l) (fun e => by rw [e] at h; cases h))
  omega
end Go.Proofs.YtgfmbkbiingagaaGreatDoor

namespace Go.Proofs.YtgfmbkbiingagaaGreatDoor
set_option linter.unusedVariables false
set_option linter.unusedSimpArgs false
open Go.RowKit
set_option maxRecDepth 100000

def ΓH : Glob := { ΓC with kr := [19, 29, 18] }
theorem CallsA.gH {f : FuncId} {xs : List T1} {r : TV} (h : CallsA Tryz.prog ΓC f xs r) : CallsA Tryz.prog ΓH f xs r := ⟨h.1, h.2⟩
theorem CallsM.gH {f : FuncId} {m : List (Nat × Blk)} {nx : Nat} {xs : List T1} {r : TV} {upd : List (Nat × Blk)} {new : List Blk} (h : CallsM Tryz.prog ΓC f m nx xs r upd new) : CallsM Tryz.prog ΓH f m nx xs r upd new := ⟨h.1, h.2⟩
theorem CallsA.ofH {f : FuncId} {xs : List T1} {r : TV} (h : CallsA Tryz.prog ΓH f xs r) : CallsA Tryz.prog ΓC f xs r := ⟨h.1, h.2⟩
theorem come_start (fr : Int) : SG.come ⟨[], [], 0, -1⟩ fr ⟨0, [], false, false⟩ = SG.start fr := rfl
theorem KnOk.step {n : Nat} {g : SG} (h : KnOk n g) {fr tt : Int} (hf : 0 ≤ fr) (ht : tt ≤ n) {fs : List FN} (hF : FsOk fs) (cs : List IN) (fn : Nat) {i : Int} {s : SS} (hs : g.at i = some s) : KnOk n (SG.step fs cs fn fr tt g i) := by
  unfold SG.step
  rw [hs]
  dsimp only [Option.getD_some]
  have hp := h.2.2 _ (SG.at_mem hs)
  have hg1 : KnOk n { g with d := max g.d s.k } := h
  split
  · exact h
  · rename_i hfit
    have hfit : fitsV fs fn fr tt (cs.getD i.toNat zI) s = true := by
      cases hv : fitsV fs fn fr tt (cs.getD i.toNat zI) s with
      | true => rfl
      | false => exact absurd hv hfit
    obtain ⟨h1, h2⟩ := next_ok hF hfit
    exact (KnOk.gos hf ht i h1 _ hg1 (Nat.le_trans h2 hp.2.2)).1
/-- What the frames say of a function. -/
structure FrOk (fs : List FN) (cs : List IN) (fn : Nat) (f : FN) : Prop where
  fsk : FsOk fs
  csk : cs.length ≤ 8192
  at_ : fs[fn]? = some f
  lo : 0 ≤ f.e
  hi : f.e < cs.length
  to_ : toV fs cs fn ≤ cs.length
set_option maxHeartbeats 4000000 in
theorem function_c {fs : List FN} {cs : List IN} {fn : Nat} {f : FN} (h : FrOk fs cs fn f) : CallsA Tryz.prog ΓH 11 [gD [.sl 3 (fs.map fnD), .sl 4 (cs.map inD)], c1 (di fn)] (.tup [c1 (di (functionV fs cs fn).1), c1 (di (functionV fs cs fn).2)]) := by
  obtain ⟨hF, hc, hf, hlo, hhi, hto⟩ := h
  have hlt : fn < fs.length := (List.getElem?_eq_some_iff.1 hf).1
  have hfl : fs.length ≤ 64 := hF.1
  have hfm : (fs.map fnD).length = fs.length := List.length_map _
  have hcm : (cs.map inD).length = cs.length := List.length_map _
  have hfe : fs.getD fn zF = f := by rw [List.getD, hf]; rfl
  obtain ⟨e, sl, pa⟩ := f
  dsimp only at *
  obtain ⟨R, hR⟩ : ∃ R, R = SG.run fs cs fn e (toV fs cs fn) (2 * cs.length + 2) (SG.start e) := ⟨_, rfl⟩
  have hfv : functionV fs cs fn = (R.w, R.d) := by unfold functionV; rw [hfe, hR]
  rw [hfv]
  obtain ⟨hs1, hs2⟩ := SG.start_ok (n := cs.length) ⟨hlo, hhi⟩
  have hC := (((come_c fs cs fn e (toV fs cs fn) ⟨[], [], 0, -1⟩ e ⟨0, [], false, false⟩ (by decide)).of0 (Γ := ΓH))).ren [2, 1, 3] 4 rfl rfl rfl rfl
  rw [come_start] at hC
  refine fn_rule (C := ⟨Tryz.prog, layF, Tryz.f11.ntmps, ΓH, 0, [], [4]⟩) layF_ok mixed Tryz.func11 rfl (by kernel_rfl) rfl rfl rfl ?_
  repeat' (first | refine (ex_is _ hcm) ?_ | refine (ex_is _ hfm) ?_ | refine (ex_row fn (⟨e, sl, pa⟩ : FN) rfl hf) ?_ | refine ex_true (by first | decide | omega | assumption | (with_reducible exact rfl)) ?_ | refine ex_false (by first | decide | omega | assumption | exact (fun h => h rfl)) ?_ | refine ex_dec (fun _ => ?_) (fun _ => ?_) | refine ex_u8 _ rfl (by omega) (by omega) ?_ | refine ex_i64 _ rfl (by omega) (by omega) ?_ | refine ex_u64 _ rfl (by omega) (by omega) ?_ | refine and_mk (by first | omega | (with_reducible rfl) | (show drawOk _ _ _ = true; kernel_rfl)) ?_ | refine and_mk ⟨_, rfl⟩ ?_ | refine ex_is _ (List.length_map _) ?_ | refine ex_is _ List.length_nil ?_ | fail "no step")
  refine ex_join (X := Unit) (fun _ => ⟨[(1, Ti fn), (2, .o (.c (.ptr 0 0))), (4, Ti 0), (5, Ti 0), (6, .o (.c (.ptr 2 0)))], [(0, .obj [.d (.sl 3 (fs.map fnD)), .d (.sl 4 (cs.map inD))]), (2, .obj [.d (.sl 3 (fs.map fnD)), .d (.sl 4 (cs.map inD)), .d (di fn), .d (di e), .d (di (toV fs cs fn)), .mp 1, .row 3, .d (di 0), .d (di (-1))]), (1, .map []), (3, .row 1 3 [])], 4⟩) (fun _ => True) ?_ ?_
  · by_cases h2 : fn + 1 < fs.length
    · have hx : fs[fn + 1]? = some (fs[fn + 1]'h2) := at_some h2
      have htv : toV fs cs fn = (fs[fn + 1]'h2).e := by unfold toV; rw [if_pos h2, List.getD, hx]; rfl
      rw [htv]
      generalize fs[fn + 1]'h2 = f2 at *
      obtain ⟨e2, s2, p2⟩ := f2
      repeat' (first | refine ex_i64 ((fn + 1 : Nat) : Int) (by omega) (by omega) (by omega) ?_ | refine ex_u64 ((fn + 1 : Nat) : Int) (by omega) (by omega) (by omega) ?_ | refine ex_u8 ((fn + 1 : Nat) : Int) (by omega) (by omega) (by omega) ?_ | refine (ex_is _ hfm) ?_ | refine (ex_row (fn + 1) (⟨e2, s2, p2⟩ : FN) rfl hx) ?_ | refine ex_true (by first | decide | omega | assumption | (with_reducible exact rfl)) ?_ | refine ex_false (by first | decide | omega | assumption | exact (fun h => h rfl)) ?_ | refine ex_dec (fun _ => ?_) (fun _ => ?_) | refine ex_u8 _ rfl (by omega) (by omega) ?_ | refine ex_i64 _ rfl (by omega) (by omega) ?_ | refine ex_u64 _ rfl (by omega) (by omega) ?_ | refine and_mk (by first | omega | (with_reducible rfl) | (show drawOk _ _ _ = true; kernel_rfl)) ?_ | refine and_mk ⟨_, rfl⟩ ?_ | refine ex_is _ (List.length_map _) ?_ | refine ex_is _ List.length_nil ?_ | fail "no step")
      exact ex_meet () trivial (SLe.trans (SLe.of ⟨⟨rfl, rfl, rfl, rfl, rfl, trivial⟩, ⟨rfl, rfl, rfl, rfl, trivial⟩⟩) (SLe.ownCell 2 6 3 1 3 rfl rfl rfl rfl rfl rfl))
    · have htv : toV fs cs fn = cs.length := by unfold toV; rw [if_neg h2]
      rw [htv]
      repeat' (first | refine ex_i64 ((fn + 1 : Nat) : Int) (by omega) (by omega) (by omega) ?_ | refine ex_u64 ((fn + 1 : Nat) : Int) (by omega) (by omega) (by omega) ?_ | refine ex_u8 ((fn + 1 : Nat) : Int) (by omega) (by omega) (by omega) ?_ | refine (ex_is _ hfm) ?_ | refine ex_true (by first | decide | omega | assumption | (with_reducible exact rfl)) ?_ | refine ex_false (by first | decide | omega | assumption | exact (fun h => h rfl)) ?_ | refine ex_dec (fun _ => ?_) (fun _ => ?_) | refine ex_u8 _ rfl (by omega) (by omega) ?_ | refine ex_i64 _ rfl (by omega) (by omega) ?_ | refine ex_u64 _ rfl (by omega) (by omega) ?_ | refine and_mk (by first | omega | (with_reducible rfl) | (show drawOk _ _ _ = true; kernel_rfl)) ?_ | refine and_mk ⟨_, rfl⟩ ?_ | refine ex_is _ (List.length_map _) ?_ | refine ex_is _ List.length_nil ?_ | fail "no step")
      exact ex_meet () trivial (SLe.trans (SLe.of ⟨⟨rfl, rfl, rfl, rfl, rfl, trivial⟩, ⟨rfl, rfl, rfl, rfl, trivial⟩⟩) (SLe.ownCell 2 6 3 1 3 rfl rfl rfl rfl rfl rfl))
  rintro ⟨⟩ -
  repeat' (first | refine (ex_callM hC) ?_ | refine ex_true (by first | decide | omega | assumption | (with_reducible exact rfl)) ?_ | refine ex_false (by first | decide | omega | assumption | exact (fun h => h rfl)) ?_ | refine ex_dec (fun _ => ?_) (fun _ => ?_) | refine ex_u8 _ rfl (by omega) (by omega) ?_ | refine ex_i64 _ rfl (by omega) (by omega) ?_ | refine ex_u64 _ rfl (by omega) (by omega) ?_ | refine and_mk (by first | omega | (with_reducible rfl) | (show drawOk _ _ _ = true; kernel_rfl)) ?_ | refine and_mk ⟨_, rfl⟩ ?_ | refine ex_is _ (List.length_map _) ?_ | refine ex_is _ List.length_nil ?_ | fail "no step")
  refine ex_loop (X := SG) (fun g => ⟨[(1, Ti fn), (2, .o (.c (.ptr 0 0))), (6, .o (.c (.ptr 2 0)))], [(0, .obj [.d (.sl 3 (fs.map fnD)), .d (.sl 4 (cs.map inD))]), (2, .obj (ckC fs cs fn e (toV fs cs fn) 4 g.d g.w)), (1, .map (kvs g.kn)), (4, .row 1 3 (dis g.lf))], 5⟩) (fun g => g.rest cs.length) (fun g => KnOk cs.length g ∧ ∀ N, g.rest cs.length < N → SG.run fs cs fn e (toV fs cs fn) N g = R) (SG.start e) ⟨⟨hs1, by omega, fun p hp => ?_⟩, fun N hN => ?_⟩ (SLe.of ⟨⟨rfl, rfl, rfl, trivial⟩, ⟨rfl, rfl, rfl, rfl, trivial⟩⟩) ?_
  · obtain rfl : p = (e, ⟨0, [], false, false⟩) := by simpa [SG.start] using hp
    exact ⟨Int.le_refl 0, by show (0 : Int) ≤ 512; decide, by show 0 + 1 ≤ 1; decide⟩
  · rw [hR]
    exact SG.run_end hlo hto fs fn N _ hs1 hN hs2
  rintro g ⟨hg, hrun⟩
  have hdl : (dis g.lf).length = g.lf.length := List.length_map _
  have hlf := hg.lf
  by_cases hl : g.lf = []
  · have hl0 : g.lf.length = 0 := by rw [hl]; rfl
    have hr := hrun (g.rest cs.length + 1) (by omega)
    rw [SG.run, if_pos hl] at hr
    rw [← hr]
    repeat' (first | refine (ex_is _ hdl) ?_ | refine ex_true (by first | decide | omega | assumption | (with_reducible exact rfl)) ?_ | refine ex_false (by first | decide | omega | assumption | exact (fun h => h rfl)) ?_ | refine ex_dec (fun _ => ?_) (fun _ => ?_) | refine ex_u8 _ rfl (by omega) (by omega) ?_ | refine ex_i64 _ rfl (by omega) (by omega) ?_ | refine ex_u64 _ rfl (by omega) (by omega) ?_ | refine and_mk (by first | omega | (with_reducible rfl) | (show drawOk _ _ _ = true; kernel_rfl)) ?_ | refine and_mk ⟨_, rfl⟩ ?_ | refine ex_is _ (List.length_map _) ?_ | refine ex_is _ List.length_nil ?_ | fail "no step")
    exact TLe.rfl
  · have hl0 : 0 < g.lf.length := List.length_pos_iff.2 hl
    have hmm := minL_mem hl
    obtain ⟨h1, h2⟩ := SG.pull_ok hg.1 hl hlo hto fs cs fn
    obtain ⟨s, hs⟩ := Option.isSome_iff_exists.1 (hg.1.2.2 _ hmm)
    have hat := hg.1.1 _ (SG.at_mem hs)
    have hmin := (((min_c g.lf hl (by omega)).of0 (Γ := ΓH)).lend rfl [(4, .row 1 3 (dis g.lf))] 5 (fun p hp => by rw [List.mem_singleton.1 hp]; rfl) (xs' := [.c (.row 4)]) rfl)
    obtain ⟨p, r, hpr, hp⟩ := List.eq_append_cons_of_mem hmm
    obtain ⟨i, hi⟩ : ∃ i : Nat, minL g.lf = i := ⟨(minL g.lf).toNat, by dsimp only at hat; omega⟩
    have hpull : SG.pull fs cs fn e (toV fs cs fn) g = SG.step fs cs fn e (toV fs cs fn) { g with lf := g.lf.filter fun k => !decide (k = minL g.lf) } (minL g.lf) := rfl
    obtain ⟨g', hg'⟩ : ∃ g' : SG, g' = { g with lf := g.lf.filter fun k => !decide (k = minL g.lf) } := ⟨_, rfl⟩
    have hgo : KnOk cs.length g' := by
      rw [hg']
      obtain ⟨q1, q2⟩ := SG.less_ok hg.1 hl
      exact ⟨q1, by have := hg.2.1; omega, hg.2.2⟩
    have hdel := (deleteFunc_c p r (minL g.lf) hp (by rw [← hpr]; omega)).ofK (Γ := ΓH)
    rw [← hpr, show (g.lf.filter fun k => !decide (k = minL g.lf)) = g'.lf by rw [hg']] at hdel
    have hdel := hdel.ren [4, 5] 6 rfl rfl rfl rfl
    rw [← hg'] at hpull
    rw [hi] at hpull hmin hdel
    dsimp only at hat
    have hci : cs[i]? = some (cs[i]'(by omega)) := at_some (by omega)
    have hs' : g'.at i = some s := by rw [hg', ← hi]; exact hs
    have hstep := ((step_c fs cs fn e (toV fs cs fn) g' hF hf hc hgo hlo hto hci hs').gH).ren [2, 1, 6] 7 rfl rfl rfl rfl
    rw [← hpull] at hstep
    have hpo : KnOk cs.length (SG.pull fs cs fn e (toV fs cs fn) g) := by
      rw [hpull]
      exact hgo.step hlo hto hF cs fn hs'
    have hrn : ∀ N, (SG.pull fs cs fn e (toV fs cs fn) g).rest cs.length < N → SG.run fs cs fn e (toV fs cs fn) N (SG.pull fs cs fn e (toV fs cs fn) g) = R := fun N hN => by
      have := hrun (g.rest cs.length + 1) (by omega)
      rw [SG.run, if_neg hl] at this
      rw [← this]
      exact SG.run_end hlo hto fs fn N _ h1 hN h2
    generalize SG.pull fs cs fn e (toV fs cs fn) g = g2 at *
    have e1 : g'.kn = g.kn := by rw [hg']
    have e2 : g'.d = g.d := by rw [hg']
    have e3 : g'.w = g.w := by rw [hg']
    rw [ckM, ckN, e1, e2, e3] at hstep
    repeat' (first | refine (ex_callM hstep) ?_ | refine (ex_callM hdel) ?_ | refine (ex_callM hmin) ?_ | refine (ex_is _ hdl) ?_ | refine ex_true (by first | decide | omega | assumption | (with_reducible exact rfl)) ?_ | refine ex_false (by first | decide | omega | assumption | exact (fun h => h rfl)) ?_ | refine ex_dec (fun _ => ?_) (fun _ => ?_) | refine ex_u8 _ rfl (by omega) (by omega) ?_ | refine ex_i64 _ rfl (by omega) (by omega) ?_ | refine ex_u64 _ rfl (by omega) (by omega) ?_ | refine and_mk (by first | omega | (with_reducible rfl) | (show drawOk _ _ _ = true; kernel_rfl)) ?_ | refine and_mk ⟨_, rfl⟩ ?_ | refine ex_is _ (List.length_map _) ?_ | refine ex_is _ List.length_nil ?_ | fail "no step")
    exact ex_round g2 ⟨hpo, hrn⟩ h2 (SLe.ren [(0, 0), (1, 1), (2, 2), (7, 4)] ⟨⟨rfl, rfl⟩, ⟨rfl, rfl⟩, ⟨rfl, rfl⟩, trivial⟩ ⟨⟨rfl, rfl⟩, ⟨rfl, rfl⟩, ⟨rfl, rfl⟩, ⟨rfl, rfl⟩, trivial⟩ rfl)
end Go.Proofs.YtgfmbkbiingagaaGreatDoor
