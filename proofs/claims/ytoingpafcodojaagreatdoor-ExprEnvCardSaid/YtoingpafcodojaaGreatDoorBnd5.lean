/- ExprEnv: the number of every name of every environment, and of every file's consts, is the document's. Condition: the listed package variables hold what the program's text lays. -/
import Derived.WalkKit
import Derived.Laws.StructEq
import Derived.ChangeKeysEq
import Derived.Lib.LaidTab
import Derived.Test.YtoingpafcodojaaGreatDoorRows
import Derived.Lay
import Derived.MakeChecks
import Derived.Test.YtoingpafcodojaaGreatDoorCards
import Derived.Test.YtoingpafcodojaaGreatDoorTie
import Derived.SevenTiedAt
import Derived.Deep.DeepHandedRow
import Derived.Test.YtoingpafcodojaaGreatDoorBnd1
import Derived.Test.YtoingpafcodojaaGreatDoorBnd2
import Derived.Test.YtoingpafcodojaaGreatDoorBnd3
import Derived.Test.YtoingpafcodojaaGreatDoorBnd4
set_option linter.unusedVariables false
set_option linter.unusedSimpArgs false
set_option maxRecDepth 100000
namespace Go.Proofs.YtoingpafcodojaaGreatDoor
open Go.RowKit

section
variable {L : List TokP} {m : Nat}
def headN (L : List TokP) (n : Nat) (l : List SB) : PM (List SB) := if l = [] then subsN L n l else atM (namedV L ·) (subsN L n l) (pure l)
set_option maxHeartbeats 8000000 in
theorem pack_c (hL : TokOk L) (hn : L.length ≤ 100000) (s : PS) {c : Nat} (hs : SOk L c s) : C0 L m 61 [] (packM L) (fun v => .o (gD (itD v))) s := by
  refine C0.of fun T hT => ?_
  unfold packM at hT
  obtain ⟨i, xs, ts⟩ := s
  refine fn_ruleP (C := ⟨Tryz.prog, layF, Tryz.f61.ntmps, ΓL, 2, [], []⟩) layF_ok mixed Tryz.func61 rfl (by kernel_rfl) rfl rfl rfl SLe.rfl ?_
  repeat' (first | refine tT ?_ | refine tF ?_ | refine ex_dec (fun _ => ?_) (fun _ => ?_) | refine t8 ?_ | refine tI ?_ | refine tU ?_ | refine tA ?_ | refine tB ?_ | refine tL ?_ | refine tN ?_ | fail "no step")
  have hcon := take_c (m := m) ⟨i, xs, ts⟩ hs.i (by omega) w_pack
  rcases hx18 : (takeM L w_pack) ⟨i, xs, ts⟩ with ⟨_, s9⟩ | ⟨i9, e9⟩
  rotate_left
  · obtain rfl := (and_err hx18).symm.trans hT
    refine sC (CallsM.ren (hcon.err hx18) [0, 1] 3 rfl rfl rfl rfl) ?_
    first | exact ⟨⟨_, rfl, rfl⟩, rfl, rfl⟩ | exact ⟨by kernel_rfl, ⟨_, rfl, rfl⟩, rfl, rfl⟩
  replace hT := (and_ok hx18).symm.trans hT
  refine sC (CallsM.ren (hcon.ok hx18) [0, 1] 3 rfl rfl rfl rfl) ?_
  clear hcon
  have hs1 := (Up.ok (Up.take hL w_pack 0) hs hx18).1
  obtain rfl := mv_take1 hx18
  have ha := ahead_c (L := L) (m := m) (i + 1) hs1.lt
  have hT : (match (if (tk L (i + 1)).k = 0 then integerV (tk L (i + 1)).t else none) with
    | none => failM 4 ⟨i + 1, xs, ts⟩
    | some (z, lt) => (stepM >>= fun _ => takeM L t_lcur >>= fun _ => (fun s => subsN L (L.length - s.i + 1) [] s) >>= fun l => takeM L t_rcur >>= fun _ => pure (⟨[], -1, 0, [], [], -1, z, lt, l⟩ : IT)) ⟨i + 1, xs, ts⟩) = T := hT
  have hk3 : (tk L (i + 1)).k = 0 → (tk L (i + 1)).k ≠ 3 := fun h => by omega
  have hs2 := fun h => stpS hL hs1 (hk3 h)
  clear hk3
  generalize tk L (i + 1) = u at *
  have hq := (integer_c u.t).gL
  repeat' (first | refine tT ?_ | refine tF ?_ | refine ex_dec (fun _ => ?_) (fun _ => ?_) | refine t8 ?_ | refine tI ?_ | refine tU ?_ | refine tA ?_ | refine tB ?_ | refine tL ?_ | refine tN ?_ | fail "no step")
  refine sC (CallsM.ren (ha) [0, 1] 4 rfl rfl rfl rfl) ?_
  rcases hz : integerV u.t with _ | ⟨z, lt⟩ <;> rw [hz] at hT hq
  · have hq : CallsA Tryz.prog ΓL 82 [c1 (ds (bs u.t))] (.tup [c1 (di 0), c1 (db false), c1 (db false)]) := hq
    obtain rfl : PR.err (i + 1) 4 = T := by
      rw [← hT]
      by_cases hk : u.k = 0
      · rw [if_pos hk]; rfl
      · rw [if_neg hk]; rfl
    repeat' (first | refine ex_call hq ?_ | refine tT ?_ | refine tF ?_ | refine ex_dec (fun _ => ?_) (fun _ => ?_) | refine t8 ?_ | refine tI ?_ | refine tU ?_ | refine tA ?_ | refine tB ?_ | refine tL ?_ | refine tN ?_ | fail "no step")
    refine sC (CallsM.ren ((fail_c (m := m) (i + 1) 4 hs1.lt)) [0, 1] 4 rfl rfl rfl rfl) ?_
    exact ⟨⟨_, rfl, rfl⟩, rfl, rfl⟩
  · have hq : CallsA Tryz.prog ΓL 82 [c1 (ds (bs u.t))] (.tup [c1 (di z), c1 (db lt), c1 (db true)]) := hq
    by_cases hk : u.k = 0
    · rw [if_pos hk] at hT
      replace hs2 := hs2 hk
      have hi1 := hs1.lt
      have hi2 := hs2.lt
      repeat' (first | refine ex_call hq ?_ | refine tT ?_ | refine tF ?_ | refine ex_dec (fun _ => ?_) (fun _ => ?_) | refine t8 ?_ | refine tI ?_ | refine tU ?_ | refine tA ?_ | refine tB ?_ | refine tL ?_ | refine tN ?_ | fail "no step")
      refine sC (CallsM.ren (ha) [0, 1] 4 rfl rfl rfl rfl) ?_
      repeat' (first | refine ex_i64 ((i + 1 + 1 : Nat) : Int) (by omega) (by omega) (by omega) ?_ | refine ex_u64 ((i + 1 + 1 : Nat) : Int) (by omega) (by omega) (by omega) ?_ | refine ex_u8 ((i + 1 + 1 : Nat) : Int) (by omega) (by omega) (by omega) ?_ | refine tT ?_ | refine tF ?_ | refine ex_dec (fun _ => ?_) (fun _ => ?_) | refine t8 ?_ | refine tI ?_ | refine tU ?_ | refine tA ?_ | refine tB ?_ | refine tL ?_ | refine tN ?_ | fail "no step")
      replace hT : (takeM L t_lcur >>= fun _ => (fun s => subsN L (L.length - s.i + 1) [] s) >>= fun l => takeM L t_rcur >>= fun _ => pure (⟨[], -1, 0, [], [], -1, z, lt, l⟩ : IT)) ⟨i + 1 + 1, xs, ts⟩ = T := hT
      have hcon := take_c (m := m) ⟨i + 1 + 1, xs, ts⟩ hs2.i (by omega) t_lcur
      rcases hx50 : (takeM L t_lcur) ⟨i + 1 + 1, xs, ts⟩ with ⟨_, s9⟩ | ⟨i9, e9⟩
      rotate_left
      · obtain rfl := (and_err hx50).symm.trans hT
        refine sC (CallsM.ren (hcon.err hx50) [0, 1] 4 rfl rfl rfl rfl) ?_
        first | exact ⟨⟨_, rfl, rfl⟩, rfl, rfl⟩ | exact ⟨by kernel_rfl, ⟨_, rfl, rfl⟩, rfl, rfl⟩
      replace hT := (and_ok hx50).symm.trans hT
      refine sC (CallsM.ren (hcon.ok hx50) [0, 1] 4 rfl rfl rfl rfl) ?_
      clear hcon
      have hs3 := (Up.ok (Up.take hL t_lcur 0) hs2 hx50).1
      obtain rfl := mv_take1 hx50
      repeat' (first | refine tT ?_ | refine tF ?_ | refine ex_dec (fun _ => ?_) (fun _ => ?_) | refine t8 ?_ | refine tI ?_ | refine tU ?_ | refine tA ?_ | refine tB ?_ | refine tL ?_ | refine tN ?_ | fail "no step")
      replace hT : (headN L (L.length - (i + 1 + 1 + 1) + 1) [] >>= fun l => takeM L t_rcur >>= fun _ => pure (⟨[], -1, 0, [], [], -1, z, lt, l⟩ : IT)) ⟨i + 1 + 1 + 1, xs, ts⟩ = T := hT
      refine ex_loop (X := Nat × List SB × Nat) (fun ⟨i, l, _⟩ => ⟨[(0, .o P0), (2, .o (.c (.ptr 2 0))), (3, .o (.c (.ptr 3 0)))], [(0, Qz L m i), (2, .obj [.d (ds ⟨#[]⟩), .d (di 0), .d (di 0), .d (ds ⟨#[]⟩), .d (ds ⟨#[]⟩), .d (di 0), .d (di 0), .d (db false), .d dnil]), (3, .obj [.d (ds ⟨#[]⟩), .d (di (-1)), .d (di 0), .d (ds ⟨#[]⟩), .d (ds ⟨#[]⟩), .d (di (-1)), .d (di z), .d (db lt), .row 4]), (4, .row 2 198 (l.map sbD))], 5⟩) (fun y => L.length - y.1)
        (fun ⟨i, l, n⟩ => SOk L c ⟨i, xs, ts⟩ ∧ L.length < i + n ∧ l.length ≤ i ∧ (headN L n l >>= fun l => takeM L t_rcur >>= fun _ => pure (⟨[], -1, 0, [], [], -1, z, lt, l⟩ : IT)) ⟨i, xs, ts⟩ = T) (i + 1 + 1 + 1, [], L.length - (i + 1 + 1 + 1) + 1) ⟨hs3.less (by omega), by omega, Nat.zero_le _, hT⟩ (SLe.trans (SLe.of ⟨⟨rfl, rfl, rfl, trivial⟩, ⟨rfl, rfl, rfl, rfl, trivial⟩⟩) (SLe.ownCell 3 8 4 2 198 rfl rfl rfl rfl rfl rfl)) ?_
      clear hT hs3 hs2 hs1 ha hq hs
      rintro ⟨i, l, n⟩ ⟨hs, hf, hll, hT⟩
      have hi := hs.lt
      have hnm := named_c (m := m) i hi
      cases n with
      | zero => omega
      | succ n =>
        have hbody : (l = [] ∨ namedV L i = true) → (subsN L (n + 1) l >>= fun l => takeM L t_rcur >>= fun _ => pure (⟨[], -1, 0, [], [], -1, z, lt, l⟩ : IT)) ⟨i, xs, ts⟩ = T := fun h => by
          unfold headN at hT
          by_cases hl : l = []
          · rwa [if_pos hl] at hT
          · rw [if_neg hl] at hT
            exact atyB hT (h.resolve_left hl)
        by_cases hgo : l = [] ∨ namedV L i = true
        · replace hT := hbody hgo
          rw [subsN] at hT
          replace hT := asc hT
          by_cases hl : l = []
          · subst hl
            repeat' (first | refine ex_is (α := Nat) 0 rfl ?_ | refine tT ?_ | refine tF ?_ | refine ex_dec (fun _ => ?_) (fun _ => ?_) | refine t8 ?_ | refine tI ?_ | refine tU ?_ | refine tA ?_ | refine tB ?_ | refine tL ?_ | refine tN ?_ | fail "no step")
            rcases hnv : namedV L i with _ | _ <;> rw [hnv] at hnm
            · replace hT := asc (rmF hT hnv)
              refine sC (CallsM.ren (hnm) [0, 1] 5 rfl rfl rfl rfl) ?_
              repeat' (first | refine tT ?_ | refine tF ?_ | refine ex_dec (fun _ => ?_) (fun _ => ?_) | refine t8 ?_ | refine tI ?_ | refine tU ?_ | refine tA ?_ | refine tB ?_ | refine tL ?_ | refine tN ?_ | fail "no step")
              have hcon := name_c (m := m) ⟨i, xs, ts⟩ hs.i (by omega)
              rcases hx79 : (nameM L) ⟨i, xs, ts⟩ with ⟨w, s9⟩ | ⟨i9, e9⟩
              rotate_left
              · obtain rfl := (and_err hx79).symm.trans hT
                refine sC (CallsM.ren (hcon.err hx79) [0, 1] 5 rfl rfl rfl rfl) ?_
                first | exact ⟨⟨_, rfl, rfl⟩, rfl, rfl⟩ | exact ⟨by kernel_rfl, ⟨_, rfl, rfl⟩, rfl, rfl⟩
              replace hT := (and_ok hx79).symm.trans hT
              refine sC (CallsM.ren (hcon.ok hx79) [0, 1] 5 rfl rfl rfl rfl) ?_
              clear hcon
              have hs1 := (Up.ok (Up.name hL 0) hs hx79).1
              obtain rfl := mv_name1 hx79
              replace hT := asc hT
              repeat' (first | refine tT ?_ | refine tF ?_ | refine ex_dec (fun _ => ?_) (fun _ => ?_) | refine t8 ?_ | refine tI ?_ | refine tU ?_ | refine tA ?_ | refine tB ?_ | refine tL ?_ | refine tN ?_ | fail "no step")
              have hcon := take_c (m := m) ⟨i + 1, xs, ts⟩ hs1.i (by omega) t_colon
              rcases hx82 : (takeM L t_colon) ⟨i + 1, xs, ts⟩ with ⟨_, s9⟩ | ⟨i9, e9⟩
              rotate_left
              · obtain rfl := (and_err hx82).symm.trans hT
                refine sC (CallsM.ren (hcon.err hx82) [0, 1] 5 rfl rfl rfl rfl) ?_
                first | exact ⟨⟨_, rfl, rfl⟩, rfl, rfl⟩ | exact ⟨by kernel_rfl, ⟨_, rfl, rfl⟩, rfl, rfl⟩
              replace hT := (and_ok hx82).symm.trans hT
              refine sC (CallsM.ren (hcon.ok hx82) [0, 1] 5 rfl rfl rfl rfl) ?_
              clear hcon
              have hs2 := (Up.ok (Up.take hL t_colon 0) hs1 hx82).1
              obtain rfl := mv_take1 hx82
              replace hT := asc hT
              repeat' (first | refine tT ?_ | refine tF ?_ | refine ex_dec (fun _ => ?_) (fun _ => ?_) | refine t8 ?_ | refine tI ?_ | refine tU ?_ | refine tA ?_ | refine tB ?_ | refine tL ?_ | refine tN ?_ | fail "no step")
              have hcon := num_c (m := m) ⟨i + 1 + 1, xs, ts⟩ hs2.i (by omega)
              rcases hx85 : (numberM L) ⟨i + 1 + 1, xs, ts⟩ with ⟨b, s9⟩ | ⟨i9, e9⟩
              rotate_left
              · obtain rfl := (and_err hx85).symm.trans hT
                refine sC (CallsM.ren (hcon.err hx85) [0, 1] 5 rfl rfl rfl rfl) ?_
                first | exact ⟨⟨_, rfl, rfl⟩, rfl, rfl⟩ | exact ⟨by kernel_rfl, ⟨_, rfl, rfl⟩, rfl, rfl⟩
              replace hT := (and_ok hx85).symm.trans hT
              refine sC (CallsM.ren (hcon.ok hx85) [0, 1] 5 rfl rfl rfl rfl) ?_
              clear hcon
              have hs3 := (Up.ok (Up.number hL 0) hs2 hx85).1
              obtain rfl := mv_num1 hx85
              replace hT := asc hT
              repeat' (first | refine tT ?_ | refine tF ?_ | refine ex_dec (fun _ => ?_) (fun _ => ?_) | refine t8 ?_ | refine tI ?_ | refine tU ?_ | refine tA ?_ | refine tB ?_ | refine tL ?_ | refine tN ?_ | fail "no step")
              have hcon := take_c (m := m) ⟨i + 1 + 1 + 1, xs, ts⟩ hs3.i (by omega) t_semi
              rcases hx88 : (takeM L t_semi) ⟨i + 1 + 1 + 1, xs, ts⟩ with ⟨_, s9⟩ | ⟨i9, e9⟩
              rotate_left
              · obtain rfl := (and_err hx88).symm.trans hT
                refine sC (CallsM.ren (hcon.err hx88) [0, 1] 5 rfl rfl rfl rfl) ?_
                first | exact ⟨⟨_, rfl, rfl⟩, rfl, rfl⟩ | exact ⟨by kernel_rfl, ⟨_, rfl, rfl⟩, rfl, rfl⟩
              replace hT := (and_ok hx88).symm.trans hT
              refine sC (CallsM.ren (hcon.ok hx88) [0, 1] 5 rfl rfl rfl rfl) ?_
              clear hcon
              have hs4 := (Up.ok (Up.take hL t_semi 0) hs3 hx88).1
              obtain rfl := mv_take1 hx88
              have hi4 := hs4.lt
              have hmin : (if (1048576 : Int) < (b : Int) then 1048576 else (b : Int)) = ((min b 1048576 : Nat) : Int) := by split <;> omega
              repeat' (first | refine ex_i64 ((min b 1048576 : Nat) : Int) (by omega) (by omega) (by omega) ?_ | refine ex_u64 ((min b 1048576 : Nat) : Int) (by omega) (by omega) (by omega) ?_ | refine ex_u8 ((min b 1048576 : Nat) : Int) (by omega) (by omega) (by omega) ?_ | refine ex_is ((min b 1048576 : Nat) : Int) hmin ?_ | refine tT ?_ | refine tF ?_ | refine ex_dec (fun _ => ?_) (fun _ => ?_) | refine t8 ?_ | refine tI ?_ | refine tU ?_ | refine tA ?_ | refine tB ?_ | refine tL ?_ | refine tN ?_ | fail "no step")
              refine ex_app (0) (1) 1000 (by first | rfl | (simp; done) | (simp; omega)) (by first | rfl | (simp; done) | (simp; omega)) rfl (by omega) ?_
              refine ex_is (List.map sbD ([] ++ [(⟨w, min b 1048576⟩ : SB)])) (by rw [List.map_append]; rfl) ?_
              repeat' (first | refine tT ?_ | refine tF ?_ | refine ex_dec (fun _ => ?_) (fun _ => ?_) | refine t8 ?_ | refine tI ?_ | refine tU ?_ | refine tA ?_ | refine tB ?_ | refine tL ?_ | refine tN ?_ | fail "no step")
              exact ex_round (i + 1 + 1 + 1 + 1, [] ++ [(⟨w, min b 1048576⟩ : SB)], n) ⟨hs4.less (by omega), by omega, by simp <;> omega, by unfold headN; rw [if_neg (by simp)]; exact hT⟩ (by show L.length - (i + 1 + 1 + 1 + 1) < L.length - i; omega) (SLe.ren [(0, 0), (2, 2), (3, 3), (6, 4), (1, 1)] ⟨⟨rfl, rfl⟩, ⟨rfl, rfl⟩, ⟨rfl, rfl⟩, trivial⟩ ⟨⟨rfl, rfl⟩, ⟨rfl, rfl⟩, ⟨rfl, rfl⟩, ⟨rfl, rfl⟩, trivial⟩ rfl)
            · replace hT := rmT hT hnv
              refine sC (CallsM.ren (hnm) [0, 1] 5 rfl rfl rfl rfl) ?_
              repeat' (first | refine ex_is (α := Nat) 0 rfl ?_ | refine tT ?_ | refine tF ?_ | refine ex_dec (fun _ => ?_) (fun _ => ?_) | refine t8 ?_ | refine tI ?_ | refine tU ?_ | refine tA ?_ | refine tB ?_ | refine tL ?_ | refine tN ?_ | fail "no step")
              have hcon := room_c (m := m) ⟨i, xs, ts⟩ hi 0 (by omega)
              rcases hr : (roomM 0) ⟨i, xs, ts⟩ with ⟨_, s9⟩ | ⟨i9, e9⟩
              rotate_left
              · obtain rfl := (and_err hr).symm.trans hT
                refine sC (CallsM.ren (hcon.err hr) [0, 1] 5 rfl rfl rfl rfl) ?_
                first | exact ⟨⟨_, rfl, rfl⟩, rfl, rfl⟩ | exact ⟨by kernel_rfl, ⟨_, rfl, rfl⟩, rfl, rfl⟩
              replace hT := (and_ok hr).symm.trans hT
              refine sC (CallsM.ren (hcon.ok hr) [0, 1] 5 rfl rfl rfl rfl) ?_
              clear hcon
              obtain rfl := mv_room1 hr
              replace hT := asc hT
              repeat' (first | refine tT ?_ | refine tF ?_ | refine ex_dec (fun _ => ?_) (fun _ => ?_) | refine t8 ?_ | refine tI ?_ | refine tU ?_ | refine tA ?_ | refine tB ?_ | refine tL ?_ | refine tN ?_ | fail "no step")
              have hcon := name_c (m := m) ⟨i, xs, ts⟩ hs.i (by omega)
              rcases hx102 : (nameM L) ⟨i, xs, ts⟩ with ⟨w, s9⟩ | ⟨i9, e9⟩
              rotate_left
              · obtain rfl := (and_err hx102).symm.trans hT
                refine sC (CallsM.ren (hcon.err hx102) [0, 1] 5 rfl rfl rfl rfl) ?_
                first | exact ⟨⟨_, rfl, rfl⟩, rfl, rfl⟩ | exact ⟨by kernel_rfl, ⟨_, rfl, rfl⟩, rfl, rfl⟩
              replace hT := (and_ok hx102).symm.trans hT
              refine sC (CallsM.ren (hcon.ok hx102) [0, 1] 5 rfl rfl rfl rfl) ?_
              clear hcon
              have hs1 := (Up.ok (Up.name hL 0) hs hx102).1
              obtain rfl := mv_name1 hx102
              replace hT := asc hT
              repeat' (first | refine tT ?_ | refine tF ?_ | refine ex_dec (fun _ => ?_) (fun _ => ?_) | refine t8 ?_ | refine tI ?_ | refine tU ?_ | refine tA ?_ | refine tB ?_ | refine tL ?_ | refine tN ?_ | fail "no step")
              have hcon := take_c (m := m) ⟨i + 1, xs, ts⟩ hs1.i (by omega) t_colon
              rcases hx105 : (takeM L t_colon) ⟨i + 1, xs, ts⟩ with ⟨_, s9⟩ | ⟨i9, e9⟩
              rotate_left
              · obtain rfl := (and_err hx105).symm.trans hT
                refine sC (CallsM.ren (hcon.err hx105) [0, 1] 5 rfl rfl rfl rfl) ?_
                first | exact ⟨⟨_, rfl, rfl⟩, rfl, rfl⟩ | exact ⟨by kernel_rfl, ⟨_, rfl, rfl⟩, rfl, rfl⟩
              replace hT := (and_ok hx105).symm.trans hT
              refine sC (CallsM.ren (hcon.ok hx105) [0, 1] 5 rfl rfl rfl rfl) ?_
              clear hcon
              have hs2 := (Up.ok (Up.take hL t_colon 0) hs1 hx105).1
              obtain rfl := mv_take1 hx105
              replace hT := asc hT
              repeat' (first | refine tT ?_ | refine tF ?_ | refine ex_dec (fun _ => ?_) (fun _ => ?_) | refine t8 ?_ | refine tI ?_ | refine tU ?_ | refine tA ?_ | refine tB ?_ | refine tL ?_ | refine tN ?_ | fail "no step")
              have hcon := num_c (m := m) ⟨i + 1 + 1, xs, ts⟩ hs2.i (by omega)
              rcases hx108 : (numberM L) ⟨i + 1 + 1, xs, ts⟩ with ⟨b, s9⟩ | ⟨i9, e9⟩
              rotate_left
              · obtain rfl := (and_err hx108).symm.trans hT
                refine sC (CallsM.ren (hcon.err hx108) [0, 1] 5 rfl rfl rfl rfl) ?_
                first | exact ⟨⟨_, rfl, rfl⟩, rfl, rfl⟩ | exact ⟨by kernel_rfl, ⟨_, rfl, rfl⟩, rfl, rfl⟩
              replace hT := (and_ok hx108).symm.trans hT
              refine sC (CallsM.ren (hcon.ok hx108) [0, 1] 5 rfl rfl rfl rfl) ?_
              clear hcon
              have hs3 := (Up.ok (Up.number hL 0) hs2 hx108).1
              obtain rfl := mv_num1 hx108
              replace hT := asc hT
              repeat' (first | refine tT ?_ | refine tF ?_ | refine ex_dec (fun _ => ?_) (fun _ => ?_) | refine t8 ?_ | refine tI ?_ | refine tU ?_ | refine tA ?_ | refine tB ?_ | refine tL ?_ | refine tN ?_ | fail "no step")
              have hcon := take_c (m := m) ⟨i + 1 + 1 + 1, xs, ts⟩ hs3.i (by omega) t_semi
              rcases hx111 : (takeM L t_semi) ⟨i + 1 + 1 + 1, xs, ts⟩ with ⟨_, s9⟩ | ⟨i9, e9⟩
              rotate_left
              · obtain rfl := (and_err hx111).symm.trans hT
                refine sC (CallsM.ren (hcon.err hx111) [0, 1] 5 rfl rfl rfl rfl) ?_
                first | exact ⟨⟨_, rfl, rfl⟩, rfl, rfl⟩ | exact ⟨by kernel_rfl, ⟨_, rfl, rfl⟩, rfl, rfl⟩
              replace hT := (and_ok hx111).symm.trans hT
              refine sC (CallsM.ren (hcon.ok hx111) [0, 1] 5 rfl rfl rfl rfl) ?_
              clear hcon
              have hs4 := (Up.ok (Up.take hL t_semi 0) hs3 hx111).1
              obtain rfl := mv_take1 hx111
              have hi4 := hs4.lt
              have hmin : (if (1048576 : Int) < (b : Int) then 1048576 else (b : Int)) = ((min b 1048576 : Nat) : Int) := by split <;> omega
              repeat' (first | refine ex_i64 ((min b 1048576 : Nat) : Int) (by omega) (by omega) (by omega) ?_ | refine ex_u64 ((min b 1048576 : Nat) : Int) (by omega) (by omega) (by omega) ?_ | refine ex_u8 ((min b 1048576 : Nat) : Int) (by omega) (by omega) (by omega) ?_ | refine ex_is ((min b 1048576 : Nat) : Int) hmin ?_ | refine tT ?_ | refine tF ?_ | refine ex_dec (fun _ => ?_) (fun _ => ?_) | refine t8 ?_ | refine tI ?_ | refine tU ?_ | refine tA ?_ | refine tB ?_ | refine tL ?_ | refine tN ?_ | fail "no step")
              refine ex_app (0) (1) 1000 (by first | rfl | (simp; done) | (simp; omega)) (by first | rfl | (simp; done) | (simp; omega)) rfl (by omega) ?_
              refine ex_is (List.map sbD ([] ++ [(⟨w, min b 1048576⟩ : SB)])) (by rw [List.map_append]; rfl) ?_
              repeat' (first | refine tT ?_ | refine tF ?_ | refine ex_dec (fun _ => ?_) (fun _ => ?_) | refine t8 ?_ | refine tI ?_ | refine tU ?_ | refine tA ?_ | refine tB ?_ | refine tL ?_ | refine tN ?_ | fail "no step")
              exact ex_round (i + 1 + 1 + 1 + 1, [] ++ [(⟨w, min b 1048576⟩ : SB)], n) ⟨hs4.less (by omega), by omega, by simp <;> omega, by unfold headN; rw [if_neg (by simp)]; exact hT⟩ (by show L.length - (i + 1 + 1 + 1 + 1) < L.length - i; omega) (SLe.ren [(0, 0), (2, 2), (3, 3), (6, 4), (1, 1)] ⟨⟨rfl, rfl⟩, ⟨rfl, rfl⟩, ⟨rfl, rfl⟩, trivial⟩ ⟨⟨rfl, rfl⟩, ⟨rfl, rfl⟩, ⟨rfl, rfl⟩, ⟨rfl, rfl⟩, trivial⟩ rfl)
          · have hnv : namedV L i = true := hgo.resolve_left hl
            have hl0 : l.length ≠ 0 := fun e => hl (List.eq_nil_of_length_eq_zero e)
            rw [hnv] at hnm
            repeat' (first | refine ex_is l.length (by simp) ?_ | refine tT ?_ | refine tF ?_ | refine ex_dec (fun _ => ?_) (fun _ => ?_) | refine t8 ?_ | refine tI ?_ | refine tU ?_ | refine tA ?_ | refine tB ?_ | refine tL ?_ | refine tN ?_ | fail "no step")
            refine sC (CallsM.ren (hnm) [0, 1] 5 rfl rfl rfl rfl) ?_
            repeat' (first | refine tT ?_ | refine tF ?_ | refine ex_dec (fun _ => ?_) (fun _ => ?_) | refine t8 ?_ | refine tI ?_ | refine tU ?_ | refine tA ?_ | refine tB ?_ | refine tL ?_ | refine tN ?_ | fail "no step")
            replace hT := rmT hT hnv
            refine sC (CallsM.ren (hnm) [0, 1] 5 rfl rfl rfl rfl) ?_
            repeat' (first | refine ex_is l.length (by simp) ?_ | refine tT ?_ | refine tF ?_ | refine ex_dec (fun _ => ?_) (fun _ => ?_) | refine t8 ?_ | refine tI ?_ | refine tU ?_ | refine tA ?_ | refine tB ?_ | refine tL ?_ | refine tN ?_ | fail "no step")
            have hcon := room_c (m := m) ⟨i, xs, ts⟩ hi l.length (by omega)
            rcases hr : (roomM l.length) ⟨i, xs, ts⟩ with ⟨_, s9⟩ | ⟨i9, e9⟩
            rotate_left
            · obtain rfl := (and_err hr).symm.trans hT
              refine sC (CallsM.ren (hcon.err hr) [0, 1] 5 rfl rfl rfl rfl) ?_
              first | exact ⟨⟨_, rfl, rfl⟩, rfl, rfl⟩ | exact ⟨by kernel_rfl, ⟨_, rfl, rfl⟩, rfl, rfl⟩
            replace hT := (and_ok hr).symm.trans hT
            refine sC (CallsM.ren (hcon.ok hr) [0, 1] 5 rfl rfl rfl rfl) ?_
            clear hcon
            obtain rfl := mv_room1 hr
            replace hT := asc hT
            repeat' (first | refine tT ?_ | refine tF ?_ | refine ex_dec (fun _ => ?_) (fun _ => ?_) | refine t8 ?_ | refine tI ?_ | refine tU ?_ | refine tA ?_ | refine tB ?_ | refine tL ?_ | refine tN ?_ | fail "no step")
            have hcon := name_c (m := m) ⟨i, xs, ts⟩ hs.i (by omega)
            rcases hx131 : (nameM L) ⟨i, xs, ts⟩ with ⟨w, s9⟩ | ⟨i9, e9⟩
            rotate_left
            · obtain rfl := (and_err hx131).symm.trans hT
              refine sC (CallsM.ren (hcon.err hx131) [0, 1] 5 rfl rfl rfl rfl) ?_
              first | exact ⟨⟨_, rfl, rfl⟩, rfl, rfl⟩ | exact ⟨by kernel_rfl, ⟨_, rfl, rfl⟩, rfl, rfl⟩
            replace hT := (and_ok hx131).symm.trans hT
            refine sC (CallsM.ren (hcon.ok hx131) [0, 1] 5 rfl rfl rfl rfl) ?_
            clear hcon
            have hs1 := (Up.ok (Up.name hL 0) hs hx131).1
            obtain rfl := mv_name1 hx131
            replace hT := asc hT
            repeat' (first | refine tT ?_ | refine tF ?_ | refine ex_dec (fun _ => ?_) (fun _ => ?_) | refine t8 ?_ | refine tI ?_ | refine tU ?_ | refine tA ?_ | refine tB ?_ | refine tL ?_ | refine tN ?_ | fail "no step")
            have hcon := take_c (m := m) ⟨i + 1, xs, ts⟩ hs1.i (by omega) t_colon
            rcases hx134 : (takeM L t_colon) ⟨i + 1, xs, ts⟩ with ⟨_, s9⟩ | ⟨i9, e9⟩
            rotate_left
            · obtain rfl := (and_err hx134).symm.trans hT
              refine sC (CallsM.ren (hcon.err hx134) [0, 1] 5 rfl rfl rfl rfl) ?_
              first | exact ⟨⟨_, rfl, rfl⟩, rfl, rfl⟩ | exact ⟨by kernel_rfl, ⟨_, rfl, rfl⟩, rfl, rfl⟩
            replace hT := (and_ok hx134).symm.trans hT
            refine sC (CallsM.ren (hcon.ok hx134) [0, 1] 5 rfl rfl rfl rfl) ?_
            clear hcon
            have hs2 := (Up.ok (Up.take hL t_colon 0) hs1 hx134).1
            obtain rfl := mv_take1 hx134
            replace hT := asc hT
            repeat' (first | refine tT ?_ | refine tF ?_ | refine ex_dec (fun _ => ?_) (fun _ => ?_) | refine t8 ?_ | refine tI ?_ | refine tU ?_ | refine tA ?_ | refine tB ?_ | refine tL ?_ | refine tN ?_ | fail "no step")
            have hcon := num_c (m := m) ⟨i + 1 + 1, xs, ts⟩ hs2.i (by omega)
            rcases hx137 : (numberM L) ⟨i + 1 + 1, xs, ts⟩ with ⟨b, s9⟩ | ⟨i9, e9⟩
            rotate_left
            · obtain rfl := (and_err hx137).symm.trans hT
              refine sC (CallsM.ren (hcon.err hx137) [0, 1] 5 rfl rfl rfl rfl) ?_
              first | exact ⟨⟨_, rfl, rfl⟩, rfl, rfl⟩ | exact ⟨by kernel_rfl, ⟨_, rfl, rfl⟩, rfl, rfl⟩
            replace hT := (and_ok hx137).symm.trans hT
            refine sC (CallsM.ren (hcon.ok hx137) [0, 1] 5 rfl rfl rfl rfl) ?_
            clear hcon
            have hs3 := (Up.ok (Up.number hL 0) hs2 hx137).1
            obtain rfl := mv_num1 hx137
            replace hT := asc hT
            repeat' (first | refine tT ?_ | refine tF ?_ | refine ex_dec (fun _ => ?_) (fun _ => ?_) | refine t8 ?_ | refine tI ?_ | refine tU ?_ | refine tA ?_ | refine tB ?_ | refine tL ?_ | refine tN ?_ | fail "no step")
            have hcon := take_c (m := m) ⟨i + 1 + 1 + 1, xs, ts⟩ hs3.i (by omega) t_semi
            rcases hx140 : (takeM L t_semi) ⟨i + 1 + 1 + 1, xs, ts⟩ with ⟨_, s9⟩ | ⟨i9, e9⟩
            rotate_left
            · obtain rfl := (and_err hx140).symm.trans hT
              refine sC (CallsM.ren (hcon.err hx140) [0, 1] 5 rfl rfl rfl rfl) ?_
              first | exact ⟨⟨_, rfl, rfl⟩, rfl, rfl⟩ | exact ⟨by kernel_rfl, ⟨_, rfl, rfl⟩, rfl, rfl⟩
            replace hT := (and_ok hx140).symm.trans hT
            refine sC (CallsM.ren (hcon.ok hx140) [0, 1] 5 rfl rfl rfl rfl) ?_
            clear hcon
            have hs4 := (Up.ok (Up.take hL t_semi 0) hs3 hx140).1
            obtain rfl := mv_take1 hx140
            have hi4 := hs4.lt
            have hmin : (if (1048576 : Int) < (b : Int) then 1048576 else (b : Int)) = ((min b 1048576 : Nat) : Int) := by split <;> omega
            repeat' (first | refine ex_i64 ((min b 1048576 : Nat) : Int) (by omega) (by omega) (by omega) ?_ | refine ex_u64 ((min b 1048576 : Nat) : Int) (by omega) (by omega) (by omega) ?_ | refine ex_u8 ((min b 1048576 : Nat) : Int) (by omega) (by omega) (by omega) ?_ | refine ex_is ((min b 1048576 : Nat) : Int) hmin ?_ | refine tT ?_ | refine tF ?_ | refine ex_dec (fun _ => ?_) (fun _ => ?_) | refine t8 ?_ | refine tI ?_ | refine tU ?_ | refine tA ?_ | refine tB ?_ | refine tL ?_ | refine tN ?_ | fail "no step")
            refine ex_app (l.length) (1) 1000 (by first | rfl | (simp; done) | (simp; omega)) (by first | rfl | (simp; done) | (simp; omega)) rfl (by omega) ?_
            refine ex_is (List.map sbD (l ++ [(⟨w, min b 1048576⟩ : SB)])) (by rw [List.map_append]; rfl) ?_
            repeat' (first | refine tT ?_ | refine tF ?_ | refine ex_dec (fun _ => ?_) (fun _ => ?_) | refine t8 ?_ | refine tI ?_ | refine tU ?_ | refine tA ?_ | refine tB ?_ | refine tL ?_ | refine tN ?_ | fail "no step")
            exact ex_round (i + 1 + 1 + 1 + 1, l ++ [(⟨w, min b 1048576⟩ : SB)], n) ⟨hs4.less (by omega), by omega, by simp <;> omega, by unfold headN; rw [if_neg (by simp)]; exact hT⟩ (by show L.length - (i + 1 + 1 + 1 + 1) < L.length - i; omega) (SLe.ren [(0, 0), (2, 2), (3, 3), (6, 4), (1, 1)] ⟨⟨rfl, rfl⟩, ⟨rfl, rfl⟩, ⟨rfl, rfl⟩, trivial⟩ ⟨⟨rfl, rfl⟩, ⟨rfl, rfl⟩, ⟨rfl, rfl⟩, ⟨rfl, rfl⟩, trivial⟩ rfl)
        · have hl : l ≠ [] := fun e => hgo (.inl e)
          have hnv : namedV L i = false := by simpa using fun e => hgo (.inr e)
          rw [hnv] at hnm
          unfold headN at hT
          rw [if_neg hl] at hT
          replace hT := pureT (atnB hT hnv)
          have hl0 : l.length ≠ 0 := fun e => hl (List.eq_nil_of_length_eq_zero e)
          repeat' (first | refine ex_is l.length (by simp) ?_ | refine tT ?_ | refine tF ?_ | refine ex_dec (fun _ => ?_) (fun _ => ?_) | refine t8 ?_ | refine tI ?_ | refine tU ?_ | refine tA ?_ | refine tB ?_ | refine tL ?_ | refine tN ?_ | fail "no step")
          refine sC (CallsM.ren (hnm) [0, 1] 5 rfl rfl rfl rfl) ?_
          repeat' (first | refine tT ?_ | refine tF ?_ | refine ex_dec (fun _ => ?_) (fun _ => ?_) | refine t8 ?_ | refine tI ?_ | refine tU ?_ | refine tA ?_ | refine tB ?_ | refine tL ?_ | refine tN ?_ | fail "no step")
          have hcon := take_c (m := m) ⟨i, xs, ts⟩ hs.i (by omega) t_rcur
          rcases hx158 : (takeM L t_rcur) ⟨i, xs, ts⟩ with ⟨_, s9⟩ | ⟨i9, e9⟩
          rotate_left
          · obtain rfl := (and_err hx158).symm.trans hT
            refine sC (CallsM.ren (hcon.err hx158) [0, 1] 5 rfl rfl rfl rfl) ?_
            first | exact ⟨⟨_, rfl, rfl⟩, rfl, rfl⟩ | exact ⟨by kernel_rfl, ⟨_, rfl, rfl⟩, rfl, rfl⟩
          replace hT := (and_ok hx158).symm.trans hT
          refine sC (CallsM.ren (hcon.ok hx158) [0, 1] 5 rfl rfl rfl rfl) ?_
          clear hcon
          have hs1 := (Up.ok (Up.take hL t_rcur 0) hs hx158).1
          obtain rfl := mv_take1 hx158
          obtain rfl : PR.ok (⟨[], -1, 0, [], [], -1, z, lt, l⟩ : IT) ⟨i + 1, xs, ts⟩ = T := hT
          repeat' (first | refine tT ?_ | refine tF ?_ | refine ex_dec (fun _ => ?_) (fun _ => ?_) | refine t8 ?_ | refine tI ?_ | refine tU ?_ | refine tA ?_ | refine tB ?_ | refine tL ?_ | refine tN ?_ | fail "no step")
          exact ⟨rfl, TLe.rfl, rfl, rfl⟩
    · rw [if_neg hk] at hT
      obtain rfl : PR.err (i + 1) 4 = T := hT
      repeat' (first | refine ex_call hq ?_ | refine tT ?_ | refine tF ?_ | refine ex_dec (fun _ => ?_) (fun _ => ?_) | refine t8 ?_ | refine tI ?_ | refine tU ?_ | refine tA ?_ | refine tB ?_ | refine tL ?_ | refine tN ?_ | fail "no step")
      refine sC (CallsM.ren (ha) [0, 1] 4 rfl rfl rfl rfl) ?_
      repeat' (first | refine tT ?_ | refine tF ?_ | refine ex_dec (fun _ => ?_) (fun _ => ?_) | refine t8 ?_ | refine tI ?_ | refine tU ?_ | refine tA ?_ | refine tB ?_ | refine tL ?_ | refine tN ?_ | fail "no step")
      refine sC (CallsM.ren ((fail_c (m := m) (i + 1) 4 hs1.lt)) [0, 1] 4 rfl rfl rfl rfl) ?_
      exact ⟨⟨_, rfl, rfl⟩, rfl, rfl⟩
end
end Go.Proofs.YtoingpafcodojaaGreatDoor

namespace Go.Proofs.YtoingpafcodojaaGreatDoor
open Go.RowKit

section
variable {L : List TokP} {m : Nat}
def Mv {α : Type} (x : PM α) : Prop := ∀ s v s', x s = .ok v s' → s.xs = s'.xs ∧ s.ts = s'.ts
theorem Mv.and {α β : Type} {x : PM α} {f : α → PM β} (hx : Mv x) (hf : ∀ v, Mv (f v)) : Mv (x >>= f) := fun s v s' h => by
  obtain ⟨u, s1, h1, h2⟩ := mo_inv h
  exact ⟨(hx _ _ _ h1).1.trans (hf u _ _ _ h2).1, (hx _ _ _ h1).2.trans (hf u _ _ _ h2).2⟩
theorem Mv.at {α : Type} {p : Nat → Bool} {x y : PM α} (hx : Mv x) (hy : Mv y) : Mv (atM p x y) := fun s v s' h => by
  unfold atM at h
  split at h
  · exact hx _ _ _ h
  · exact hy _ _ _ h
theorem Mv.pure {α : Type} (v : α) : Mv (pure v) := fun s u s' h => by cases h; exact ⟨rfl, rfl⟩
theorem Mv.step : Mv stepM := fun s u s' h => by cases h; exact ⟨rfl, rfl⟩
theorem Mv.take (t : List UInt8) : Mv (takeM L t) := fun s v s' h => by unfold takeM at h; split at h <;> cases h; exact ⟨rfl, rfl⟩
theorem Mv.name : Mv (nameM L) := fun s v s' h => by unfold nameM at h; split at h <;> cases h; exact ⟨rfl, rfl⟩
theorem Mv.num : Mv (numberM L) := fun s v s' h => by unfold numberM at h; split at h <;> cases h; exact ⟨rfl, rfl⟩
theorem Mv.roomIf (p : Nat → Bool) (n : Nat) : Mv (fun s => if p s.i = true then roomM n s else .ok () s) := fun s u s' h => by
  dsimp only at h
  split at h
  · unfold roomM at h; split at h <;> cases h; exact ⟨rfl, rfl⟩
  · cases h; exact ⟨rfl, rfl⟩
theorem mvs_subs : ∀ n l, Mv (subsN L n l)
  | 0, l => Mv.pure _
  | n + 1, l => by
    rw [subsN]
    exact (Mv.roomIf (namedV L ·) _).and fun _ => Mv.name.and fun w => (Mv.take _).and fun _ => Mv.num.and fun b => (Mv.take _).and fun _ => Mv.at (mvs_subs n _) (Mv.pure _)
theorem mvs_pack : Mv (packM L) := (Mv.take _).and fun _ => fun s v s' h => by
  split at h
  · cases h
  · exact (Mv.step.and fun _ => (Mv.take _).and fun _ => (show Mv (fun s => subsN L (L.length - s.i + 1) [] s) from fun s v s' hx => mvs_subs _ _ s v s' hx).and fun l => (Mv.take _).and fun _ => Mv.pure _) _ _ _ h
theorem mv_pack {i i1 : Nat} {xs xs1 : List EX} {ts ts1 : List TY} {v : IT} (h : packM L ⟨i, xs, ts⟩ = .ok v ⟨i1, xs1, ts1⟩) : xs = xs1 ∧ ts = ts1 := mvs_pack _ _ _ h
theorem mvs_const : Mv (constM L) := (Mv.take _).and fun _ => Mv.name.and fun w => (Mv.take _).and fun _ => Mv.num.and fun n => (Mv.take _).and fun _ => Mv.pure _
theorem mv_const {i i1 : Nat} {xs xs1 : List EX} {ts ts1 : List TY} {v : CO} (h : constM L ⟨i, xs, ts⟩ = .ok v ⟨i1, xs1, ts1⟩) : xs = xs1 ∧ ts = ts1 := mvs_const _ _ _ h
set_option maxHeartbeats 16000000 in
theorem record_c (hL : TokOk L) (hn : L.length ≤ 100000) (hm : m = 32) (s : PS) {c : Nat} (hs : SOk L c s) : C2 L m 41 [] (recordM L) (fun v => .o (gD (rcD v))) s := by
  refine C2.of fun T hT => ?_
  unfold recordM at hT
  obtain ⟨i, xs, ts⟩ := s
  refine fn_ruleP (C := ⟨Tryz.prog, layF, Tryz.f41.ntmps, ΓL, 6, [], [10]⟩) layF_ok mixed Tryz.func41 rfl (by kernel_rfl) rfl rfl rfl SLe.rfl ?_
  repeat' (first | refine tT ?_ | refine tF ?_ | refine ex_dec (fun _ => ?_) (fun _ => ?_) | refine t8 ?_ | refine tI ?_ | refine tU ?_ | refine tA ?_ | refine tB ?_ | refine tL ?_ | refine tN ?_ | fail "no step")
  have hcon := take_c (m := m) ⟨i, xs, ts⟩ hs.i (by omega) w_struct
  rcases hx47 : (takeM L w_struct) ⟨i, xs, ts⟩ with ⟨_, s9⟩ | ⟨i9, e9⟩
  rotate_left
  · obtain rfl := (and_err hx47).symm.trans hT
    refine sC (CallsM.ren (hcon.err hx47) [0, 1] 7 rfl rfl rfl rfl) ?_
    first | exact ⟨⟨_, rfl, rfl⟩, rfl, rfl⟩ | exact ⟨by kernel_rfl, ⟨_, rfl, rfl⟩, rfl, rfl⟩
  replace hT := (and_ok hx47).symm.trans hT
  refine sC (CallsM.ren (hcon.ok hx47) [0, 1] 7 rfl rfl rfl rfl) ?_
  clear hcon
  have hs1 := (Up.ok (Up.take hL w_struct 0) hs hx47).1
  obtain rfl := mv_take1 hx47
  repeat' (first | refine tT ?_ | refine tF ?_ | refine ex_dec (fun _ => ?_) (fun _ => ?_) | refine t8 ?_ | refine tI ?_ | refine tU ?_ | refine tA ?_ | refine tB ?_ | refine tL ?_ | refine tN ?_ | fail "no step")
  have hcon := name_c (m := m) ⟨i + 1, xs, ts⟩ hs1.i (by omega)
  rcases hx49 : (nameM L) ⟨i + 1, xs, ts⟩ with ⟨w, s9⟩ | ⟨i9, e9⟩
  rotate_left
  · obtain rfl := (and_err hx49).symm.trans hT
    refine sC (CallsM.ren (hcon.err hx49) [0, 1] 7 rfl rfl rfl rfl) ?_
    first | exact ⟨⟨_, rfl, rfl⟩, rfl, rfl⟩ | exact ⟨by kernel_rfl, ⟨_, rfl, rfl⟩, rfl, rfl⟩
  replace hT := (and_ok hx49).symm.trans hT
  refine sC (CallsM.ren (hcon.ok hx49) [0, 1] 7 rfl rfl rfl rfl) ?_
  clear hcon
  have hs2 := (Up.ok (Up.name hL 0) hs1 hx49).1
  obtain rfl := mv_name1 hx49
  repeat' (first | refine tT ?_ | refine tF ?_ | refine ex_dec (fun _ => ?_) (fun _ => ?_) | refine t8 ?_ | refine tI ?_ | refine tU ?_ | refine tA ?_ | refine tB ?_ | refine tL ?_ | refine tN ?_ | fail "no step")
  refine ex_join (X := Nat × List (List UInt8)) (fun ⟨i, ps⟩ => ⟨[(0, .o P0), (2, .o (.c (.ptr 6 0))), (3, .o (.c (.ptr 7 0)))], [(0, Qz L m i), (1, Fz 2 3 4 5), (4, Xz xs), (5, Tz ts), (6, .obj [.d (ds ⟨#[]⟩), .d dnil, .d dnil]), (7, .obj [.d (ds (bs w)), .row 9, .d dnil]), (9, .row 1 9 (ps.map fun p => [ds (bs p)]))], 10⟩)
    (fun ⟨i, ps⟩ => SOk L c ⟨i, xs, ts⟩ ∧ (takeM L t_lcur >>= fun _ => (fun s => itemsN L (L.length - s.i + 1) [] s) >>= fun is => takeM L t_rcur >>= fun _ => pure (⟨w, ps, is⟩ : RC)) ⟨i, xs, ts⟩ = T) ?_ ?_
  · rcases hv : isV L (i + 1 + 1) t_lpar with _ | _
    · replace hT := pureT (atnB hT hv)
      refine sC (CallsM.ren ((may_no (i + 1 + 1) hs2.lt _ hv)) [0, 1] 8 rfl rfl rfl rfl) ?_
      repeat' (first | refine tT ?_ | refine tF ?_ | refine ex_dec (fun _ => ?_) (fun _ => ?_) | refine t8 ?_ | refine tI ?_ | refine tU ?_ | refine tA ?_ | refine tB ?_ | refine tL ?_ | refine tN ?_ | fail "no step")
      exact ex_meet (i + 1 + 1, []) ⟨hs2.less (by omega), hT⟩ (SLe.trans (SLe.of ⟨⟨rfl, rfl, rfl, trivial⟩, ⟨rfl, rfl, rfl, rfl, rfl, rfl, rfl, trivial⟩⟩) (SLe.ownCell 7 1 9 1 9 rfl rfl rfl rfl rfl rfl))
    · replace hT := asc (stp1 (asc (atyB hT hv)))
      have hs3 := stpS hL hs2 (isV_k hv)
      have hi3 := hs3.lt
      refine sC (CallsM.ren ((may_yes (i + 1 + 1) hs2.lt (by omega) _ hv)) [0, 1] 8 rfl rfl rfl rfl) ?_
      repeat' (first | refine tT ?_ | refine tF ?_ | refine ex_dec (fun _ => ?_) (fun _ => ?_) | refine t8 ?_ | refine tI ?_ | refine tU ?_ | refine tA ?_ | refine tB ?_ | refine tL ?_ | refine tN ?_ | fail "no step")
      have hcon := name_c (m := m) ⟨i + 1 + 1 + 1, xs, ts⟩ hs3.i (by omega)
      rcases hx63 : (nameM L) ⟨i + 1 + 1 + 1, xs, ts⟩ with ⟨p, s9⟩ | ⟨i9, e9⟩
      rotate_left
      · obtain rfl := (and_err hx63).symm.trans hT
        refine sC (CallsM.ren (hcon.err hx63) [0, 1] 8 rfl rfl rfl rfl) ?_
        first | exact ⟨⟨_, rfl, rfl⟩, rfl, rfl⟩ | exact ⟨by kernel_rfl, ⟨_, rfl, rfl⟩, rfl, rfl⟩
      replace hT := (and_ok hx63).symm.trans hT
      refine sC (CallsM.ren (hcon.ok hx63) [0, 1] 8 rfl rfl rfl rfl) ?_
      clear hcon
      have hs4 := (Up.ok (Up.name hL 0) hs3 hx63).1
      obtain rfl := mv_name1 hx63
      have hi4 := hs4.lt
      repeat' (first | refine tT ?_ | refine tF ?_ | refine ex_dec (fun _ => ?_) (fun _ => ?_) | refine t8 ?_ | refine tI ?_ | refine tU ?_ | refine tA ?_ | refine tB ?_ | refine tL ?_ | refine tN ?_ | fail "no step")
      refine ex_app (0) (1) 1000 (by first | rfl | (simp; done) | (simp; omega)) (by first | rfl | (simp; done) | (simp; omega)) rfl (by omega) ?_
      refine ex_is (List.map (fun p : List UInt8 => [ds (bs p)]) [p]) (rfl) ?_
      repeat' (first | refine tT ?_ | refine tF ?_ | refine ex_dec (fun _ => ?_) (fun _ => ?_) | refine t8 ?_ | refine tI ?_ | refine tU ?_ | refine tA ?_ | refine tB ?_ | refine tL ?_ | refine tN ?_ | fail "no step")
      replace hT := asc hT
      replace hT : (parsN L (L.length - (i + 1 + 1 + 1 + 1) + 1) [p] >>= fun l => (takeM L t_rpar >>= fun _ => pure l) >>= fun ps => takeM L t_lcur >>= fun _ => (fun s => itemsN L (L.length - s.i + 1) [] s) >>= fun is => takeM L t_rcur >>= fun _ => pure (⟨w, ps, is⟩ : RC)) ⟨i + 1 + 1 + 1 + 1, xs, ts⟩ = T := hT
      refine ex_loop (X := Nat × List (List UInt8) × Nat) (fun ⟨i, ps, _⟩ => ⟨[(0, .o P0), (2, .o (.c (.ptr 6 0))), (3, .o (.c (.ptr 7 0)))], [(0, Qz L m i), (1, Fz 2 3 4 5), (4, Xz xs), (5, Tz ts), (6, .obj [.d (ds ⟨#[]⟩), .d dnil, .d dnil]), (7, .obj [.d (ds (bs w)), .row 9, .d dnil]), (9, .row 1 9 (ps.map fun p => [ds (bs p)]))], 10⟩) (fun y => L.length - y.1)
        (fun ⟨i, l, n⟩ => SOk L c ⟨i, xs, ts⟩ ∧ L.length < i + n ∧ l.length ≤ i ∧ (parsN L n l >>= fun l => (takeM L t_rpar >>= fun _ => pure l) >>= fun ps => takeM L t_lcur >>= fun _ => (fun s => itemsN L (L.length - s.i + 1) [] s) >>= fun is => takeM L t_rcur >>= fun _ => pure (⟨w, ps, is⟩ : RC)) ⟨i, xs, ts⟩ = T) (i + 1 + 1 + 1 + 1, [p], L.length - (i + 1 + 1 + 1 + 1) + 1) ⟨hs4.less (by omega), by omega, by simp, hT⟩ (SLe.of ⟨⟨rfl, rfl, rfl, trivial⟩, ⟨rfl, rfl, rfl, rfl, rfl, rfl, rfl, trivial⟩⟩) ?_
      clear hT hs4 hs3 hs2 hs1 hs hi3 hi4
      rintro ⟨i, l, n⟩ ⟨hs, hf, hll, hT⟩
      have hi := hs.lt
      cases n with
      | zero => omega
      | succ n =>
        rw [parsN] at hT
        rcases hv : isV L i t_comma with _ | _
        · replace hT := atnB hT hv
          replace hT := pureT hT
          replace hT := asc hT
          refine sC (CallsM.ren ((may_no i hi _ hv)) [0, 1] 10 rfl rfl rfl rfl) ?_
          repeat' (first | refine tT ?_ | refine tF ?_ | refine ex_dec (fun _ => ?_) (fun _ => ?_) | refine t8 ?_ | refine tI ?_ | refine tU ?_ | refine tA ?_ | refine tB ?_ | refine tL ?_ | refine tN ?_ | fail "no step")
          have hcon := take_c (m := m) ⟨i, xs, ts⟩ hs.i (by omega) t_rpar
          rcases hx86 : (takeM L t_rpar) ⟨i, xs, ts⟩ with ⟨_, s9⟩ | ⟨i9, e9⟩
          rotate_left
          · obtain rfl := (and_err hx86).symm.trans hT
            refine sC (CallsM.ren (hcon.err hx86) [0, 1] 10 rfl rfl rfl rfl) ?_
            first | exact ⟨⟨_, rfl, rfl⟩, rfl, rfl⟩ | exact ⟨by kernel_rfl, ⟨_, rfl, rfl⟩, rfl, rfl⟩
          replace hT := (and_ok hx86).symm.trans hT
          refine sC (CallsM.ren (hcon.ok hx86) [0, 1] 10 rfl rfl rfl rfl) ?_
          clear hcon
          have hs1 := (Up.ok (Up.take hL t_rpar 0) hs hx86).1
          obtain rfl := mv_take1 hx86
          replace hT := pureT hT
          repeat' (first | refine tT ?_ | refine tF ?_ | refine ex_dec (fun _ => ?_) (fun _ => ?_) | refine t8 ?_ | refine tI ?_ | refine tU ?_ | refine tA ?_ | refine tB ?_ | refine tL ?_ | refine tN ?_ | fail "no step")
          exact ex_meet (i + 1, l) ⟨hs1.less (by omega), hT⟩ (SLe.of ⟨⟨rfl, rfl, rfl, trivial⟩, ⟨rfl, rfl, rfl, rfl, rfl, rfl, rfl, trivial⟩⟩)
        · replace hT := asc (stp1 (asc (atyB hT hv)))
          have hs1 := stpS hL hs (isV_k hv)
          have hnm := named_c (m := m) (i + 1) hs1.lt
          refine sC (CallsM.ren ((may_yes i hi (by omega) _ hv)) [0, 1] 10 rfl rfl rfl rfl) ?_
          repeat' (first | refine tT ?_ | refine tF ?_ | refine ex_dec (fun _ => ?_) (fun _ => ?_) | refine t8 ?_ | refine tI ?_ | refine tU ?_ | refine tA ?_ | refine tB ?_ | refine tL ?_ | refine tN ?_ | fail "no step")
          rcases hb : namedV L (i + 1) with _ | _ <;> rw [hb] at hnm
          · replace hT := asc (rmF hT hb)
            refine sC (CallsM.ren (hnm) [0, 1] 10 rfl rfl rfl rfl) ?_
            repeat' (first | refine tT ?_ | refine tF ?_ | refine ex_dec (fun _ => ?_) (fun _ => ?_) | refine t8 ?_ | refine tI ?_ | refine tU ?_ | refine tA ?_ | refine tB ?_ | refine tL ?_ | refine tN ?_ | fail "no step")
            have hcon := name_c (m := m) ⟨i + 1, xs, ts⟩ hs1.i (by omega)
            rcases hx99 : (nameM L) ⟨i + 1, xs, ts⟩ with ⟨p, s9⟩ | ⟨i9, e9⟩
            rotate_left
            · obtain rfl := (and_err hx99).symm.trans hT
              refine sC (CallsM.ren (hcon.err hx99) [0, 1] 10 rfl rfl rfl rfl) ?_
              first | exact ⟨⟨_, rfl, rfl⟩, rfl, rfl⟩ | exact ⟨by kernel_rfl, ⟨_, rfl, rfl⟩, rfl, rfl⟩
            replace hT := (and_ok hx99).symm.trans hT
            refine sC (CallsM.ren (hcon.ok hx99) [0, 1] 10 rfl rfl rfl rfl) ?_
            clear hcon
            have hs2 := (Up.ok (Up.name hL 0) hs1 hx99).1
            obtain rfl := mv_name1 hx99
            have hi2 := hs2.lt
            repeat' (first | refine tT ?_ | refine tF ?_ | refine ex_dec (fun _ => ?_) (fun _ => ?_) | refine t8 ?_ | refine tI ?_ | refine tU ?_ | refine tA ?_ | refine tB ?_ | refine tL ?_ | refine tN ?_ | fail "no step")
            refine ex_app (l.length) (1) 1000 (by first | rfl | (simp; done) | (simp; omega)) (by first | rfl | (simp; done) | (simp; omega)) rfl (by omega) ?_
            refine ex_is (List.map (fun p : List UInt8 => [ds (bs p)]) (l ++ [p])) (by rw [List.map_append]; rfl) ?_
            repeat' (first | refine tT ?_ | refine tF ?_ | refine ex_dec (fun _ => ?_) (fun _ => ?_) | refine t8 ?_ | refine tI ?_ | refine tU ?_ | refine tA ?_ | refine tB ?_ | refine tL ?_ | refine tN ?_ | fail "no step")
            exact ex_round (i + 1 + 1, l ++ [p], n) ⟨hs2.less (by omega), by omega, by simp <;> omega, hT⟩ (by show L.length - (i + 1 + 1) < L.length - i; omega) (SLe.ren [(0, 0), (1, 1), (2, 2), (3, 3), (4, 4), (5, 5), (6, 6), (7, 7), (11, 9)] ⟨⟨rfl, rfl⟩, ⟨rfl, rfl⟩, ⟨rfl, rfl⟩, trivial⟩ ⟨⟨rfl, rfl⟩, ⟨rfl, rfl⟩, ⟨rfl, rfl⟩, ⟨rfl, rfl⟩, ⟨rfl, rfl⟩, ⟨rfl, rfl⟩, ⟨rfl, rfl⟩, trivial⟩ rfl)
          · replace hT := rmT hT hb
            refine sC (CallsM.ren (hnm) [0, 1] 10 rfl rfl rfl rfl) ?_
            repeat' (first | refine ex_is l.length (by simp) ?_ | refine tT ?_ | refine tF ?_ | refine ex_dec (fun _ => ?_) (fun _ => ?_) | refine t8 ?_ | refine tI ?_ | refine tU ?_ | refine tA ?_ | refine tB ?_ | refine tL ?_ | refine tN ?_ | fail "no step")
            have hcon := room_c (m := m) ⟨i + 1, xs, ts⟩ hs1.lt l.length (by omega)
            rcases hr : (roomM l.length) ⟨i + 1, xs, ts⟩ with ⟨_, s9⟩ | ⟨i9, e9⟩
            rotate_left
            · obtain rfl := (and_err hr).symm.trans hT
              refine sC (CallsM.ren (hcon.err hr) [0, 1] 10 rfl rfl rfl rfl) ?_
              first | exact ⟨⟨_, rfl, rfl⟩, rfl, rfl⟩ | exact ⟨by kernel_rfl, ⟨_, rfl, rfl⟩, rfl, rfl⟩
            replace hT := (and_ok hr).symm.trans hT
            refine sC (CallsM.ren (hcon.ok hr) [0, 1] 10 rfl rfl rfl rfl) ?_
            clear hcon
            obtain rfl := mv_room1 hr
            replace hT := asc hT
            repeat' (first | refine tT ?_ | refine tF ?_ | refine ex_dec (fun _ => ?_) (fun _ => ?_) | refine t8 ?_ | refine tI ?_ | refine tU ?_ | refine tA ?_ | refine tB ?_ | refine tL ?_ | refine tN ?_ | fail "no step")
            have hcon := name_c (m := m) ⟨i + 1, xs, ts⟩ hs1.i (by omega)
            rcases hx112 : (nameM L) ⟨i + 1, xs, ts⟩ with ⟨p, s9⟩ | ⟨i9, e9⟩
            rotate_left
            · obtain rfl := (and_err hx112).symm.trans hT
              refine sC (CallsM.ren (hcon.err hx112) [0, 1] 10 rfl rfl rfl rfl) ?_
              first | exact ⟨⟨_, rfl, rfl⟩, rfl, rfl⟩ | exact ⟨by kernel_rfl, ⟨_, rfl, rfl⟩, rfl, rfl⟩
            replace hT := (and_ok hx112).symm.trans hT
            refine sC (CallsM.ren (hcon.ok hx112) [0, 1] 10 rfl rfl rfl rfl) ?_
            clear hcon
            have hs2 := (Up.ok (Up.name hL 0) hs1 hx112).1
            obtain rfl := mv_name1 hx112
            have hi2 := hs2.lt
            repeat' (first | refine tT ?_ | refine tF ?_ | refine ex_dec (fun _ => ?_) (fun _ => ?_) | refine t8 ?_ | refine tI ?_ | refine tU ?_ | refine tA ?_ | refine tB ?_ | refine tL ?_ | refine tN ?_ | fail "no step")
            refine ex_app (l.length) (1) 1000 (by first | rfl | (simp; done) | (simp; omega)) (by first | rfl | (simp; done) | (simp; omega)) rfl (by omega) ?_
            refine ex_is (List.map (fun p : List UInt8 => [ds (bs p)]) (l ++ [p])) (by rw [List.map_append]; rfl) ?_
            repeat' (first | refine tT ?_ | refine tF ?_ | refine ex_dec (fun _ => ?_) (fun _ => ?_) | refine t8 ?_ | refine tI ?_ | refine tU ?_ | refine tA ?_ | refine tB ?_ | refine tL ?_ | refine tN ?_ | fail "no step")
            exact ex_round (i + 1 + 1, l ++ [p], n) ⟨hs2.less (by omega), by omega, by simp <;> omega, hT⟩ (by show L.length - (i + 1 + 1) < L.length - i; omega) (SLe.ren [(0, 0), (1, 1), (2, 2), (3, 3), (4, 4), (5, 5), (6, 6), (7, 7), (11, 9)] ⟨⟨rfl, rfl⟩, ⟨rfl, rfl⟩, ⟨rfl, rfl⟩, trivial⟩ ⟨⟨rfl, rfl⟩, ⟨rfl, rfl⟩, ⟨rfl, rfl⟩, ⟨rfl, rfl⟩, ⟨rfl, rfl⟩, ⟨rfl, rfl⟩, ⟨rfl, rfl⟩, trivial⟩ rfl)
  · clear hT hs2 hs1 hs
    rintro ⟨i, ps⟩ ⟨hs, hT⟩
    repeat' (first | refine tT ?_ | refine tF ?_ | refine ex_dec (fun _ => ?_) (fun _ => ?_) | refine t8 ?_ | refine tI ?_ | refine tU ?_ | refine tA ?_ | refine tB ?_ | refine tL ?_ | refine tN ?_ | fail "no step")
    have hcon := take_c (m := m) ⟨i, xs, ts⟩ hs.i (by omega) t_lcur
    rcases hx122 : (takeM L t_lcur) ⟨i, xs, ts⟩ with ⟨_, s9⟩ | ⟨i9, e9⟩
    rotate_left
    · obtain rfl := (and_err hx122).symm.trans hT
      refine sC (CallsM.ren (hcon.err hx122) [0, 1] 10 rfl rfl rfl rfl) ?_
      first | exact ⟨⟨_, rfl, rfl⟩, rfl, rfl⟩ | exact ⟨by kernel_rfl, ⟨_, rfl, rfl⟩, rfl, rfl⟩
    replace hT := (and_ok hx122).symm.trans hT
    refine sC (CallsM.ren (hcon.ok hx122) [0, 1] 10 rfl rfl rfl rfl) ?_
    clear hcon
    have hs1 := (Up.ok (Up.take hL t_lcur 0) hs hx122).1
    obtain rfl := mv_take1 hx122
    repeat' (first | refine tT ?_ | refine tF ?_ | refine ex_dec (fun _ => ?_) (fun _ => ?_) | refine t8 ?_ | refine tI ?_ | refine tU ?_ | refine tA ?_ | refine tB ?_ | refine tL ?_ | refine tN ?_ | fail "no step")
    replace hT : (itemsN L (L.length - (i + 1) + 1) [] >>= fun is => takeM L t_rcur >>= fun _ => pure (⟨w, ps, is⟩ : RC)) ⟨i + 1, xs, ts⟩ = T := hT
    refine ex_loop (X := Nat × List EX × List TY × List IT × Nat) (fun ⟨i, xs, ts, l, _⟩ => ⟨[(0, .o P0), (2, .o (.c (.ptr 6 0))), (3, .o (.c (.ptr 7 0)))], [(5, .dead), (4, .dead), (0, Qz L m i), (1, Fz 2 3 11 12), (6, .obj [.d (ds ⟨#[]⟩), .d dnil, .d dnil]), (7, .obj [.d (ds (bs w)), .row 9, .row 10]), (9, .row 1 9 (ps.map fun p => [ds (bs p)])), (10, .row 9 177 (l.map itD)), (11, Xz xs), (12, Tz ts)], 13⟩) (fun y => L.length - y.1)
      (fun ⟨i, xs, ts, l, n⟩ => SOk L 0 ⟨i, xs, ts⟩ ∧ L.length < i + n ∧ l.length ≤ i ∧ (itemsN L n l >>= fun is => takeM L t_rcur >>= fun _ => pure (⟨w, ps, is⟩ : RC)) ⟨i, xs, ts⟩ = T) (i + 1, xs, ts, [], L.length - (i + 1) + 1) ⟨hs1.less (by omega), by omega, Nat.zero_le _, hT⟩
      (SLe.kill (nx := 13) 5 (SLe.kill (nx := 13) 4 (SLe.via (SLe.ownCell 7 2 10 9 177 rfl rfl rfl rfl rfl rfl) (SLe.ren [(0, 0), (1, 1), (2, 2), (3, 3), (6, 6), (7, 7), (9, 9), (10, 10), (4, 11), (5, 12)] ⟨⟨rfl, rfl⟩, ⟨rfl, rfl⟩, ⟨rfl, rfl⟩, trivial⟩ ⟨⟨rfl, rfl⟩, ⟨rfl, rfl⟩, ⟨rfl, rfl⟩, ⟨rfl, rfl⟩, ⟨rfl, rfl⟩, ⟨rfl, rfl⟩, ⟨rfl, rfl⟩, ⟨rfl, rfl⟩, trivial⟩ rfl)))) ?_
    clear hT hs1 hs
    rintro ⟨i, xs, ts, l, n⟩ ⟨hs, hf, hll, hT⟩
    have hi := hs.lt
    have hpk := is_c (m := m) i hi w_pack
    have hnm := named_c (m := m) i hi
    cases n with
    | zero => omega
    | succ n =>
      rw [itemsN] at hT
      rcases hv : isV L i w_pack with _ | _ <;> rw [hv] at hpk
      · rcases hv2 : namedV L i with _ | _ <;> rw [hv2] at hnm
        · replace hT := pureT (atnB hT (by rw [hv, hv2]; rfl))
          refine sC (CallsM.ren (hpk) [0, 1] 13 rfl rfl rfl rfl) ?_
          repeat' (first | refine tT ?_ | refine tF ?_ | refine ex_dec (fun _ => ?_) (fun _ => ?_) | refine t8 ?_ | refine tI ?_ | refine tU ?_ | refine tA ?_ | refine tB ?_ | refine tL ?_ | refine tN ?_ | fail "no step")
          refine sC (CallsM.ren (hnm) [0, 1] 13 rfl rfl rfl rfl) ?_
          repeat' (first | refine tT ?_ | refine tF ?_ | refine ex_dec (fun _ => ?_) (fun _ => ?_) | refine t8 ?_ | refine tI ?_ | refine tU ?_ | refine tA ?_ | refine tB ?_ | refine tL ?_ | refine tN ?_ | fail "no step")
          have hcon := take_c (m := m) ⟨i, xs, ts⟩ hs.i (by omega) t_rcur
          rcases hx144 : (takeM L t_rcur) ⟨i, xs, ts⟩ with ⟨_, s9⟩ | ⟨i9, e9⟩
          rotate_left
          · obtain rfl := (and_err hx144).symm.trans hT
            refine sC (CallsM.ren (hcon.err hx144) [0, 1] 13 rfl rfl rfl rfl) ?_
            first | exact ⟨⟨_, rfl, rfl⟩, rfl, rfl⟩ | exact ⟨by kernel_rfl, ⟨_, rfl, rfl⟩, rfl, rfl⟩
          replace hT := (and_ok hx144).symm.trans hT
          refine sC (CallsM.ren (hcon.ok hx144) [0, 1] 13 rfl rfl rfl rfl) ?_
          clear hcon
          have hs1 := (Up.ok (Up.take hL t_rcur 0) hs hx144).1
          obtain rfl := mv_take1 hx144
          obtain rfl : PR.ok (⟨w, ps, l⟩ : RC) ⟨i + 1, xs, ts⟩ = T := hT
          repeat' (first | refine tT ?_ | refine tF ?_ | refine ex_dec (fun _ => ?_) (fun _ => ?_) | refine t8 ?_ | refine tI ?_ | refine tU ?_ | refine tA ?_ | refine tB ?_ | refine tL ?_ | refine tN ?_ | fail "no step")
          exact ⟨rfl, TLe.rfl, rfl, rfl⟩
        · replace hT := asc (atyB hT (by rw [hv, hv2]; rfl))
          refine sC (CallsM.ren (hpk) [0, 1] 13 rfl rfl rfl rfl) ?_
          repeat' (first | refine tT ?_ | refine tF ?_ | refine ex_dec (fun _ => ?_) (fun _ => ?_) | refine t8 ?_ | refine tI ?_ | refine tU ?_ | refine tA ?_ | refine tB ?_ | refine tL ?_ | refine tN ?_ | fail "no step")
          refine sC (CallsM.ren (hnm) [0, 1] 13 rfl rfl rfl rfl) ?_
          repeat' (first | refine ex_is l.length (by simp) ?_ | refine tT ?_ | refine tF ?_ | refine ex_dec (fun _ => ?_) (fun _ => ?_) | refine t8 ?_ | refine tI ?_ | refine tU ?_ | refine tA ?_ | refine tB ?_ | refine tL ?_ | refine tN ?_ | fail "no step")
          have hcon := room_c (m := m) ⟨i, xs, ts⟩ hi l.length (by omega)
          rcases hr : (roomM l.length) ⟨i, xs, ts⟩ with ⟨_, s9⟩ | ⟨i9, e9⟩
          rotate_left
          · obtain rfl := (and_err hr).symm.trans hT
            refine sC (CallsM.ren (hcon.err hr) [0, 1] 13 rfl rfl rfl rfl) ?_
            first | exact ⟨⟨_, rfl, rfl⟩, rfl, rfl⟩ | exact ⟨by kernel_rfl, ⟨_, rfl, rfl⟩, rfl, rfl⟩
          replace hT := (and_ok hr).symm.trans hT
          refine sC (CallsM.ren (hcon.ok hr) [0, 1] 13 rfl rfl rfl rfl) ?_
          clear hcon
          obtain rfl := mv_room1 hr
          replace hT := atnB (asc hT) hv
          repeat' (first | refine tT ?_ | refine tF ?_ | refine ex_dec (fun _ => ?_) (fun _ => ?_) | refine t8 ?_ | refine tI ?_ | refine tU ?_ | refine tA ?_ | refine tB ?_ | refine tL ?_ | refine tN ?_ | fail "no step")
          refine sC (CallsM.ren (hpk) [0, 1] 13 rfl rfl rfl rfl) ?_
          repeat' (first | refine tT ?_ | refine tF ?_ | refine ex_dec (fun _ => ?_) (fun _ => ?_) | refine t8 ?_ | refine tI ?_ | refine tU ?_ | refine tA ?_ | refine tB ?_ | refine tL ?_ | refine tN ?_ | fail "no step")
          have hcon := field_c hL hn hm ⟨i, xs, ts⟩ hs
          rcases hx : (fieldM L) ⟨i, xs, ts⟩ with ⟨x, ⟨i2, xs2, ts2⟩⟩ | ⟨i9, e9⟩
          rotate_left
          · obtain rfl := (and_err hx).symm.trans hT
            refine sC (CallsM.ren (hcon.err hx) [0, 1, 2, 3, 11, 12] 13 rfl rfl rfl rfl) ?_
            first | exact ⟨⟨_, rfl, rfl⟩, rfl, rfl⟩ | exact ⟨by kernel_rfl, ⟨_, rfl, rfl⟩, rfl, rfl⟩
          replace hT := (and_ok hx).symm.trans hT
          refine sC (CallsM.ren (hcon.ok hx) [0, 1, 2, 3, 11, 12] 13 rfl rfl rfl rfl) ?_
          clear hcon
          have hs2 := (Up.ok (up_field hL) hs hx).1
          have hgo : i < i2 := mo_field _ _ _ hx
          repeat' (first | refine tT ?_ | refine tF ?_ | refine ex_dec (fun _ => ?_) (fun _ => ?_) | refine t8 ?_ | refine tI ?_ | refine tU ?_ | refine tA ?_ | refine tB ?_ | refine tL ?_ | refine tN ?_ | fail "no step")
          refine ex_app (l.length) (1) 1000 (by first | rfl | (simp; done) | (simp; omega)) (by first | rfl | (simp; done) | (simp; omega)) rfl (by omega) ?_
          refine ex_is (List.map itD (l ++ [x])) (by rw [List.map_append]; rfl) ?_
          repeat' (first | refine tT ?_ | refine tF ?_ | refine ex_dec (fun _ => ?_) (fun _ => ?_) | refine t8 ?_ | refine tI ?_ | refine tU ?_ | refine tA ?_ | refine tB ?_ | refine tL ?_ | refine tN ?_ | fail "no step")
          exact ex_round (i2, xs2, ts2, l ++ [x], n) ⟨hs2, by omega, by simp <;> omega, hT⟩ (by show L.length - i2 < L.length - i; omega) (SLe.ren [(0, 0), (1, 1), (2, 2), (3, 3), (4, 4), (5, 5), (6, 6), (7, 7), (9, 9), (13, 11), (14, 12), (16, 10)] ⟨⟨rfl, rfl⟩, ⟨rfl, rfl⟩, ⟨rfl, rfl⟩, trivial⟩ ⟨⟨rfl, rfl⟩, ⟨rfl, rfl⟩, ⟨rfl, rfl⟩, ⟨rfl, rfl⟩, ⟨rfl, rfl⟩, ⟨rfl, rfl⟩, ⟨rfl, rfl⟩, ⟨rfl, rfl⟩, ⟨rfl, rfl⟩, ⟨rfl, rfl⟩, trivial⟩ rfl)
      · replace hT := asc (atyB hT (by rw [hv]; rfl))
        refine sC (CallsM.ren (hpk) [0, 1] 13 rfl rfl rfl rfl) ?_
        repeat' (first | refine ex_is l.length (by simp) ?_ | refine tT ?_ | refine tF ?_ | refine ex_dec (fun _ => ?_) (fun _ => ?_) | refine t8 ?_ | refine tI ?_ | refine tU ?_ | refine tA ?_ | refine tB ?_ | refine tL ?_ | refine tN ?_ | fail "no step")
        have hcon := room_c (m := m) ⟨i, xs, ts⟩ hi l.length (by omega)
        rcases hr : (roomM l.length) ⟨i, xs, ts⟩ with ⟨_, s9⟩ | ⟨i9, e9⟩
        rotate_left
        · obtain rfl := (and_err hr).symm.trans hT
          refine sC (CallsM.ren (hcon.err hr) [0, 1] 13 rfl rfl rfl rfl) ?_
          first | exact ⟨⟨_, rfl, rfl⟩, rfl, rfl⟩ | exact ⟨by kernel_rfl, ⟨_, rfl, rfl⟩, rfl, rfl⟩
        replace hT := (and_ok hr).symm.trans hT
        refine sC (CallsM.ren (hcon.ok hr) [0, 1] 13 rfl rfl rfl rfl) ?_
        clear hcon
        obtain rfl := mv_room1 hr
        replace hT := atyB (asc hT) hv
        repeat' (first | refine tT ?_ | refine tF ?_ | refine ex_dec (fun _ => ?_) (fun _ => ?_) | refine t8 ?_ | refine tI ?_ | refine tU ?_ | refine tA ?_ | refine tB ?_ | refine tL ?_ | refine tN ?_ | fail "no step")
        refine sC (CallsM.ren (hpk) [0, 1] 13 rfl rfl rfl rfl) ?_
        repeat' (first | refine tT ?_ | refine tF ?_ | refine ex_dec (fun _ => ?_) (fun _ => ?_) | refine t8 ?_ | refine tI ?_ | refine tU ?_ | refine tA ?_ | refine tB ?_ | refine tL ?_ | refine tN ?_ | fail "no step")
        have hcon := pack_c (m := m) hL hn ⟨i, xs, ts⟩ hs
        rcases hx : (packM L) ⟨i, xs, ts⟩ with ⟨x, ⟨i2, xs2, ts2⟩⟩ | ⟨i9, e9⟩
        rotate_left
        · obtain rfl := (and_err hx).symm.trans hT
          refine sC (CallsM.ren (hcon.err hx) [0, 1] 13 rfl rfl rfl rfl) ?_
          first | exact ⟨⟨_, rfl, rfl⟩, rfl, rfl⟩ | exact ⟨by kernel_rfl, ⟨_, rfl, rfl⟩, rfl, rfl⟩
        replace hT := (and_ok hx).symm.trans hT
        refine sC (CallsM.ren (hcon.ok hx) [0, 1] 13 rfl rfl rfl rfl) ?_
        clear hcon
        have hs2 := (Up.ok (up_pack hL) hs hx).1
        have hgo : i < i2 := mo_pack _ _ _ hx
        obtain ⟨rfl, rfl⟩ := mv_pack hx
        repeat' (first | refine tT ?_ | refine tF ?_ | refine ex_dec (fun _ => ?_) (fun _ => ?_) | refine t8 ?_ | refine tI ?_ | refine tU ?_ | refine tA ?_ | refine tB ?_ | refine tL ?_ | refine tN ?_ | fail "no step")
        refine ex_app (l.length) (1) 1000 (by first | rfl | (simp; done) | (simp; omega)) (by first | rfl | (simp; done) | (simp; omega)) rfl (by omega) ?_
        refine ex_is (List.map itD (l ++ [x])) (by rw [List.map_append]; rfl) ?_
        repeat' (first | refine tT ?_ | refine tF ?_ | refine ex_dec (fun _ => ?_) (fun _ => ?_) | refine t8 ?_ | refine tI ?_ | refine tU ?_ | refine tA ?_ | refine tB ?_ | refine tL ?_ | refine tN ?_ | fail "no step")
        exact ex_round (i2, xs, ts, l ++ [x], n) ⟨hs2, by omega, by simp <;> omega, hT⟩ (by show L.length - i2 < L.length - i; omega) (SLe.ren [(0, 0), (1, 1), (2, 2), (3, 3), (4, 4), (5, 5), (6, 6), (7, 7), (9, 9), (11, 11), (12, 12), (14, 10)] ⟨⟨rfl, rfl⟩, ⟨rfl, rfl⟩, ⟨rfl, rfl⟩, trivial⟩ ⟨⟨rfl, rfl⟩, ⟨rfl, rfl⟩, ⟨rfl, rfl⟩, ⟨rfl, rfl⟩, ⟨rfl, rfl⟩, ⟨rfl, rfl⟩, ⟨rfl, rfl⟩, ⟨rfl, rfl⟩, ⟨rfl, rfl⟩, ⟨rfl, rfl⟩, trivial⟩ rfl)
end
end Go.Proofs.YtoingpafcodojaaGreatDoor

namespace Go.Proofs.YtoingpafcodojaaGreatDoor
open Go.RowKit

section
variable {P : Program} {Γ : Glob} {f : FuncId} {nx : Nat} {xs : List T1} {r : TV} {upd : List (Nat × Blk)} {new : List Blk} {a b c d e g : Nat × Blk} {m : List (Nat × Blk)}
theorem CallsM.moreW (h : CallsM P Γ f [a, b, e, g] nx xs r upd new) : CallsM P Γ f [a, b, c, d, e, g] nx xs r upd new := h.more fun p hp => by
  simp only [List.mem_cons, List.not_mem_nil, or_false] at hp ⊢; rcases hp with hp | hp | hp | hp <;> simp [hp]
end
abbrev Cz (l : List CO) : Blk := .row 2 82 (l.map coD)
abbrev Uz (l : List RC) : Blk := .row 3 146 (l.map rcD)
def PR.uW (L : List TokP) (m : Nat) : PR (List CO × List RC) → List (Nat × Blk)
  | .ok _ s => [(0, Qz L m s.i), (1, Fz 6 7 8 9), (2, .dead), (3, .dead), (4, .dead), (5, .dead)]
  | .err _ _ => [(0, .dead), (1, .dead), (2, .dead), (3, .dead), (4, .dead), (5, .dead)]
def PR.nW : PR (List CO × List RC) → List Blk
  | .ok v s => [Cz v.1, Uz v.2, Xz s.xs, Tz s.ts]
  | .err _ _ => []
theorem ex_pan {P : Program} {Γ : Glob} {f : FuncId} {m : List (Nat × Blk)} {nx : Nat} {xs : List T1} {r : TV} {upd : List (Nat × Blk)} {new : List Blk} (Q : Prop) (h : CallsM P Γ f m nx xs r upd new) {K : TV → List (Nat × Blk) → List Blk → Prop} (e : K r upd new = Q) (hq : Q) : ∃ r upd new, CallsM P Γ f m nx xs r upd new ∧ K r upd new := ⟨r, upd, new, h, e.mpr hq⟩
section
variable {L : List TokP} {m : Nat}
set_option maxHeartbeats 16000000 in
theorem whole_c (hL : TokOk L) (hn : L.length ≤ 100000) (hm : m = 32) (i n0 : Nat) (xs : List EX) (ts : List TY) (cs : List CO) (rs : List RC) (hs : SOk L 0 ⟨i, xs, ts⟩) (hf : L.length < i + n0) (hcl : cs.length ≤ i) (hrl : rs.length ≤ i) (T : PR (List CO × List RC)) (hT : wholeN L n0 cs rs ⟨i, xs, ts⟩ = T) :
    CallsM Tryz.prog ΓL 21 [(0, Qz L m i), (1, Fz 2 3 4 5), (2, Cz cs), (3, Uz rs), (4, Xz xs), (5, Tz ts)] 6 [P0] (T.tv L fun _ => .tup []) (T.uW L m) T.nW := by
  refine fn_ruleP (C := ⟨Tryz.prog, layF, Tryz.f21.ntmps, ΓL, 6, [], []⟩) layF_ok mixed Tryz.func21 rfl (by kernel_rfl) rfl rfl rfl SLe.rfl ?_
  repeat' (first | refine tT ?_ | refine tF ?_ | refine ex_dec (fun _ => ?_) (fun _ => ?_) | refine t8 ?_ | refine tI ?_ | refine tU ?_ | refine tA ?_ | refine tB ?_ | refine tL ?_ | refine tN ?_ | fail "no step")
  refine ex_loop (X := Nat × List EX × List TY × List CO × List RC × Nat) (fun ⟨i, xs, ts, cs, rs, _⟩ => ⟨[(0, .o P0)], [(5, .dead), (4, .dead), (3, .dead), (2, .dead), (0, Qz L m i), (1, Fz 6 7 8 9), (6, Cz cs), (7, Uz rs), (8, Xz xs), (9, Tz ts)], 10⟩) (fun y => L.length - y.1)
    (fun ⟨i, xs, ts, cs, rs, n⟩ => SOk L 0 ⟨i, xs, ts⟩ ∧ L.length < i + n ∧ cs.length ≤ i ∧ rs.length ≤ i ∧ wholeN L n cs rs ⟨i, xs, ts⟩ = T) (i, xs, ts, cs, rs, n0) ⟨hs, hf, hcl, hrl, hT⟩
    (SLe.kill (nx := 10) 5 (SLe.kill (nx := 10) 4 (SLe.kill (nx := 10) 3 (SLe.kill (nx := 10) 2 (SLe.ren [(0, 0), (1, 1), (2, 6), (3, 7), (4, 8), (5, 9)] ⟨⟨rfl, rfl⟩, trivial⟩ ⟨⟨rfl, rfl⟩, ⟨rfl, rfl⟩, ⟨rfl, rfl⟩, ⟨rfl, rfl⟩, ⟨rfl, rfl⟩, ⟨rfl, rfl⟩, trivial⟩ rfl))))) ?_
  clear hT hf hcl hrl hs
  rintro ⟨i, xs, ts, cs, rs, n⟩ ⟨hs, hf, hcl, hrl, hT⟩
  have hi := hs.lt
  have hic := is_c (m := m) i hi w_const
  have hir := is_c (m := m) i hi w_struct
  cases n with
  | zero => omega
  | succ n =>
    rw [wholeN] at hT
    rcases hv : isV L i w_const with _ | _ <;> rw [hv] at hic
    · replace hT := atn hT hv
      rcases hv2 : isV L i w_struct with _ | _ <;> rw [hv2] at hir
      · replace hT := atn hT hv2
        have ha := ahead_c (L := L) (m := m) i hi
        by_cases hk : (tk L i).k = 3
        · obtain rfl : PR.ok (cs, rs) ⟨i, xs, ts⟩ = T := aty hT (by rw [hk]; rfl)
          generalize tk L i = u at *
          refine sC (CallsM.ren (hic) [0, 1] 10 rfl rfl rfl rfl) ?_
          repeat' (first | refine tT ?_ | refine tF ?_ | refine ex_dec (fun _ => ?_) (fun _ => ?_) | refine t8 ?_ | refine tI ?_ | refine tU ?_ | refine tA ?_ | refine tB ?_ | refine tL ?_ | refine tN ?_ | fail "no step")
          refine sC (CallsM.ren (hir) [0, 1] 10 rfl rfl rfl rfl) ?_
          repeat' (first | refine tT ?_ | refine tF ?_ | refine ex_dec (fun _ => ?_) (fun _ => ?_) | refine t8 ?_ | refine tI ?_ | refine tU ?_ | refine tA ?_ | refine tB ?_ | refine tL ?_ | refine tN ?_ | fail "no step")
          refine sC (CallsM.ren (ha) [0, 1] 10 rfl rfl rfl rfl) ?_
          repeat' (first | refine tT ?_ | refine tF ?_ | refine ex_dec (fun _ => ?_) (fun _ => ?_) | refine t8 ?_ | refine tI ?_ | refine tU ?_ | refine tA ?_ | refine tB ?_ | refine tL ?_ | refine tN ?_ | fail "no step")
          exact ⟨rfl, TLe.rfl, rfl, rfl⟩
        · obtain rfl : PR.err i 4 = T := atn hT (by simp [hk])
          have hfl := fail_c (m := m) i 4 hi
          generalize tk L i = u at *
          refine sC (CallsM.ren (hic) [0, 1] 10 rfl rfl rfl rfl) ?_
          repeat' (first | refine tT ?_ | refine tF ?_ | refine ex_dec (fun _ => ?_) (fun _ => ?_) | refine t8 ?_ | refine tI ?_ | refine tU ?_ | refine tA ?_ | refine tB ?_ | refine tL ?_ | refine tN ?_ | fail "no step")
          refine sC (CallsM.ren (hir) [0, 1] 10 rfl rfl rfl rfl) ?_
          repeat' (first | refine tT ?_ | refine tF ?_ | refine ex_dec (fun _ => ?_) (fun _ => ?_) | refine t8 ?_ | refine tI ?_ | refine tU ?_ | refine tA ?_ | refine tB ?_ | refine tL ?_ | refine tN ?_ | fail "no step")
          refine sC (CallsM.ren (ha) [0, 1] 10 rfl rfl rfl rfl) ?_
          repeat' (first | refine tT ?_ | refine tF ?_ | refine ex_dec (fun _ => ?_) (fun _ => ?_) | refine t8 ?_ | refine tI ?_ | refine tU ?_ | refine tA ?_ | refine tB ?_ | refine tL ?_ | refine tN ?_ | fail "no step")
          refine sC (CallsM.ren ((fail_c (m := m) i 4 hi)) [0, 1] 10 rfl rfl rfl rfl) ?_
          exact ⟨⟨_, rfl, rfl⟩, rfl, rfl⟩
      · replace hT := aty hT hv2
        refine sC (CallsM.ren (hic) [0, 1] 10 rfl rfl rfl rfl) ?_
        repeat' (first | refine tT ?_ | refine tF ?_ | refine ex_dec (fun _ => ?_) (fun _ => ?_) | refine t8 ?_ | refine tI ?_ | refine tU ?_ | refine tA ?_ | refine tB ?_ | refine tL ?_ | refine tN ?_ | fail "no step")
        refine sC (CallsM.ren (hir) [0, 1] 10 rfl rfl rfl rfl) ?_
        repeat' (first | refine ex_is rs.length (by simp) ?_ | refine tT ?_ | refine tF ?_ | refine ex_dec (fun _ => ?_) (fun _ => ?_) | refine t8 ?_ | refine tI ?_ | refine tU ?_ | refine tA ?_ | refine tB ?_ | refine tL ?_ | refine tN ?_ | fail "no step")
        have hcon := room_c (m := m) ⟨i, xs, ts⟩ hi rs.length (by omega)
        rcases hr : (roomM rs.length) ⟨i, xs, ts⟩ with ⟨_, s9⟩ | ⟨i9, e9⟩
        rotate_left
        · obtain rfl := (and_err hr).symm.trans hT
          refine sC (CallsM.ren (hcon.err hr) [0, 1] 10 rfl rfl rfl rfl) ?_
          first | exact ⟨⟨_, rfl, rfl⟩, rfl, rfl⟩ | exact ⟨by kernel_rfl, ⟨_, rfl, rfl⟩, rfl, rfl⟩
        replace hT := (and_ok hr).symm.trans hT
        refine sC (CallsM.ren (hcon.ok hr) [0, 1] 10 rfl rfl rfl rfl) ?_
        clear hcon
        obtain rfl := mv_room1 hr
        repeat' (first | refine tT ?_ | refine tF ?_ | refine ex_dec (fun _ => ?_) (fun _ => ?_) | refine t8 ?_ | refine tI ?_ | refine tU ?_ | refine tA ?_ | refine tB ?_ | refine tL ?_ | refine tN ?_ | fail "no step")
        have hcon := record_c (m := m) hL hn hm ⟨i, xs, ts⟩ hs
        rcases hx : recordM L ⟨i, xs, ts⟩ with ⟨r, ⟨i2, xs2, ts2⟩⟩ | ⟨i9, e9⟩
        · replace hT := (and_ok hx).symm.trans hT
          have hs2 := (Up.ok (up_record hL) hs hx).1
          have hgo : i < i2 := mo_record _ _ _ hx
          refine ex_callM (CallsM.moreW (CallsM.ren (hcon.ok hx) [0, 1, 6, 7, 8, 9] 10 rfl rfl rfl rfl)) ?_
          repeat' (first | refine tT ?_ | refine tF ?_ | refine ex_dec (fun _ => ?_) (fun _ => ?_) | refine t8 ?_ | refine tI ?_ | refine tU ?_ | refine tA ?_ | refine tB ?_ | refine tL ?_ | refine tN ?_ | fail "no step")
          refine ex_app (rs.length) (1) 1000 (by first | rfl | (simp; done) | (simp; omega)) (by first | rfl | (simp; done) | (simp; omega)) rfl (by omega) ?_
          refine ex_is (List.map rcD (rs ++ [r])) (by rw [List.map_append]; rfl) ?_
          repeat' (first | refine tT ?_ | refine tF ?_ | refine ex_dec (fun _ => ?_) (fun _ => ?_) | refine t8 ?_ | refine tI ?_ | refine tU ?_ | refine tA ?_ | refine tB ?_ | refine tL ?_ | refine tN ?_ | fail "no step")
          exact ex_round (i2, xs2, ts2, cs, rs ++ [r], n) ⟨hs2, by omega, by omega, by simp <;> omega, hT⟩ (by show L.length - i2 < L.length - i; omega) (SLe.ren [(0, 0), (1, 1), (2, 2), (3, 3), (4, 4), (5, 5), (6, 6), (13, 7), (10, 8), (11, 9)] ⟨⟨rfl, rfl⟩, trivial⟩ ⟨⟨rfl, rfl⟩, ⟨rfl, rfl⟩, ⟨rfl, rfl⟩, ⟨rfl, rfl⟩, ⟨rfl, rfl⟩, ⟨rfl, rfl⟩, ⟨rfl, rfl⟩, ⟨rfl, rfl⟩, ⟨rfl, rfl⟩, ⟨rfl, rfl⟩, trivial⟩ rfl)
        · obtain rfl := (and_err hx).symm.trans hT
          exact ex_pan ((true = true) ∧ panIs (.pan (flt L i9 e9)) (panE (flt L i9 e9)) ∧ (PR.uW L m (.err i9 e9)) = deadM [0, 1, 2, 3, 4, 5] ∧ ([] : List Blk) = []) (CallsM.moreW (CallsM.ren (hcon.err hx) [0, 1, 6, 7, 8, 9] 10 rfl rfl rfl rfl)) (by kernel_rfl) ⟨rfl, ⟨_, rfl, rfl⟩, rfl, rfl⟩
    · replace hT := aty hT hv
      refine sC (CallsM.ren (hic) [0, 1] 10 rfl rfl rfl rfl) ?_
      repeat' (first | refine ex_is cs.length (by simp) ?_ | refine tT ?_ | refine tF ?_ | refine ex_dec (fun _ => ?_) (fun _ => ?_) | refine t8 ?_ | refine tI ?_ | refine tU ?_ | refine tA ?_ | refine tB ?_ | refine tL ?_ | refine tN ?_ | fail "no step")
      have hcon := room_c (m := m) ⟨i, xs, ts⟩ hi cs.length (by omega)
      rcases hr : (roomM cs.length) ⟨i, xs, ts⟩ with ⟨_, s9⟩ | ⟨i9, e9⟩
      rotate_left
      · obtain rfl := (and_err hr).symm.trans hT
        refine sC (CallsM.ren (hcon.err hr) [0, 1] 10 rfl rfl rfl rfl) ?_
        first | exact ⟨⟨_, rfl, rfl⟩, rfl, rfl⟩ | exact ⟨by kernel_rfl, ⟨_, rfl, rfl⟩, rfl, rfl⟩
      replace hT := (and_ok hr).symm.trans hT
      refine sC (CallsM.ren (hcon.ok hr) [0, 1] 10 rfl rfl rfl rfl) ?_
      clear hcon
      obtain rfl := mv_room1 hr
      repeat' (first | refine tT ?_ | refine tF ?_ | refine ex_dec (fun _ => ?_) (fun _ => ?_) | refine t8 ?_ | refine tI ?_ | refine tU ?_ | refine tA ?_ | refine tB ?_ | refine tL ?_ | refine tN ?_ | fail "no step")
      have hcon := const_c (m := m) hL hn ⟨i, xs, ts⟩ hs
      rcases hx : constM L ⟨i, xs, ts⟩ with ⟨c, ⟨i2, xs2, ts2⟩⟩ | ⟨i9, e9⟩
      rotate_left
      · obtain rfl := (and_err hx).symm.trans hT
        exact ex_pan ((true = true) ∧ panIs (.pan (flt L i9 e9)) (panE (flt L i9 e9)) ∧ (PR.uW L m (.err i9 e9)) = deadM [0, 1, 2, 3, 4, 5] ∧ ([] : List Blk) = []) (CallsM.more0 (CallsM.ren (hcon.err hx) [0, 1] 10 rfl rfl rfl rfl)) (by kernel_rfl) ⟨rfl, ⟨_, rfl, rfl⟩, rfl, rfl⟩
      replace hT := (and_ok hx).symm.trans hT
      refine ex_callM (CallsM.more0 (CallsM.ren (hcon.ok hx) [0, 1] 10 rfl rfl rfl rfl)) ?_
      have hs2 := (Up.ok (up_const hL) hs hx).1
      obtain ⟨rfl, rfl⟩ := mv_const hx
      have hgo : i < i2 := mo_const _ _ _ hx
      repeat' (first | refine tT ?_ | refine tF ?_ | refine ex_dec (fun _ => ?_) (fun _ => ?_) | refine t8 ?_ | refine tI ?_ | refine tU ?_ | refine tA ?_ | refine tB ?_ | refine tL ?_ | refine tN ?_ | fail "no step")
      refine ex_app (cs.length) (1) 1000 (by first | rfl | (simp; done) | (simp; omega)) (by first | rfl | (simp; done) | (simp; omega)) rfl (by omega) ?_
      refine ex_is (List.map coD (cs ++ [c])) (by rw [List.map_append]; rfl) ?_
      repeat' (first | refine tT ?_ | refine tF ?_ | refine ex_dec (fun _ => ?_) (fun _ => ?_) | refine t8 ?_ | refine tI ?_ | refine tU ?_ | refine tA ?_ | refine tB ?_ | refine tL ?_ | refine tN ?_ | fail "no step")
      exact ex_round (i2, xs, ts, cs ++ [c], rs, n) ⟨hs2, by omega, by simp <;> omega, by omega, hT⟩ (by show L.length - i2 < L.length - i; omega) (SLe.ren [(0, 0), (1, 1), (2, 2), (3, 3), (4, 4), (5, 5), (11, 6), (7, 7), (8, 8), (9, 9)] ⟨⟨rfl, rfl⟩, trivial⟩ ⟨⟨rfl, rfl⟩, ⟨rfl, rfl⟩, ⟨rfl, rfl⟩, ⟨rfl, rfl⟩, ⟨rfl, rfl⟩, ⟨rfl, rfl⟩, ⟨rfl, rfl⟩, ⟨rfl, rfl⟩, ⟨rfl, rfl⟩, ⟨rfl, rfl⟩, trivial⟩ rfl)
end
end Go.Proofs.YtoingpafcodojaaGreatDoor

namespace Go.Proofs.YtoingpafcodojaaGreatDoor
open Go.RowKit

theorem lexN_len : ∀ (n : Nat) (r : List UInt8) (l c : Nat) (ts : List TokP), r.length < n → lexN n r l c = .ok ts → ts.length ≤ r.length + 1 := by
  intro n
  induction n with
  | zero => intro r l c ts h; omega
  | succ n ih =>
    intro r l c ts hlen h
    rw [lexN] at h
    rcases hs : stp r l c with _ | ⟨r', l', c'⟩ | ⟨k, t, v⟩ | e <;> rw [hs] at h <;> dsimp only at h
    · cases h; simp
    · have := stp_go hs
      have := ih r' l' c' ts (by omega) h
      omega
    · have ht := stp_tok hs
      obtain ⟨⟨X, rfl⟩, h2, h3, -⟩ := tokF_ok ht
      have h4 : 0 < t.length := List.length_pos_iff.2 h2
      rw [List.drop_left] at h
      rw [List.length_append] at hlen ⊢
      rcases hr : lexN n X l (c + t.length) with ts' | _
      · rw [hr] at h
        have h' : [⟨k, t, v, l, c⟩] ++ ts' = ts := by injection h
        have := ih X l (c + t.length) ts' (by omega) hr
        rw [← h']
        simp
        omega
      · rw [hr] at h; cases h
    · cases h
theorem lexV_ok {s : List UInt8} {L : List TokP} (h : lexV s = .ok L) : TokOk L ∧ L.length ≤ 100000 := by
  unfold lexV at h
  split at h
  · rename_i hs
    have hlen := lexN_len _ s 1 1 L (Nat.lt_succ_self _) h
    obtain ⟨us, l', c', rfl, _⟩ := lexF_good h
    refine ⟨⟨by simp, fun i hi => ?_⟩, by omega⟩
    simp only [List.length_append, List.length_cons, List.length_nil] at hi
    have : i = us.length := by omega
    unfold tk
    rw [this, List.getD_eq_getElem?_getD, List.getElem?_append_right (Nat.le_refl _)]
    simp
  · cases h
theorem stp_err {r : List UInt8} {l c e : Nat} (h : stp r l c = .err e) : tokF r = .err e := by
  unfold stp at h
  split at h
  · cases h
  · split at h
    · cases h
    · split at h
      · cases h
      · split at h
        · cases h
        · revert h
          unfold TR.stp
          split <;> intro h <;> cases h
          assumption
theorem lexN_err : ∀ (n : Nat) (r : List UInt8) (l c l' c' e : Nat), r.length < n → lexN n r l c = .err l' c' e → 4 ≤ e ∧ e ≤ 7 := by
  intro n
  induction n with
  | zero => intro r l c l' c' e h; omega
  | succ n ih =>
    intro r l c l' c' e hlen h
    rw [lexN] at h
    rcases hs : stp r l c with _ | ⟨r', l1, c1⟩ | ⟨k, t, v⟩ | e1 <;> rw [hs] at h <;> dsimp only at h
    · cases h
    · have := stp_go hs
      exact ih r' l1 c1 l' c' e (by omega) h
    · have ht := stp_tok hs
      obtain ⟨⟨X, rfl⟩, h2, h3, -⟩ := tokF_ok ht
      have h4 : 0 < t.length := List.length_pos_iff.2 h2
      rw [List.drop_left] at h
      rw [List.length_append] at hlen
      rcases hr : lexN n X l (c + t.length) with ts' | ⟨l2, c2, e2⟩
      · rw [hr] at h; cases h
      · rw [hr] at h
        cases h
        exact ih X l _ _ _ _ (by omega) hr
    · cases h
      exact tokF_err (stp_err hs)
theorem lexV_err {s : List UInt8} {l c e : Nat} (h : lexV s = .err l c e) : 4 ≤ e ∧ e ≤ 7 := by
  unfold lexV at h
  split at h
  · exact lexN_err _ s 1 1 l c e (Nat.lt_succ_self _) h
  · cases h; decide
def fileD (cs : List CO) (rs : List RC) (xs : List EX) (ts : List TY) : List D := [.sl 2 (cs.map coD), .sl 3 (rs.map rcD), .sl 5 (xs.map exD), .sl 8 (ts.map tyD)]
abbrev dnp : D := .v (.pointer none)
def parT : FR → TV
  | .ok cs rs xs ts => .tup [.c (.eptr (fileD cs rs xs ts)), gD [di 0, di 0], c1 (di 0)]
  | .err l c e => .tup [c1 dnp, gD [di l, di c], c1 (di e)]
theorem nil_eq (w : World) : (binOp BinOp.eql 20 .nilIface .nilIface).run Tryz.prog w = .ok (.bool true) w := by kernel_rfl
theorem iface_eq (t : TypeId) (v : Value) (w : World) : (binOp BinOp.eql 20 (.iface t v) .nilIface).run Tryz.prog w = .ok (.bool false) w := by rfl
theorem catch_idle (x y z : Value) (w : World) :
    CallsD Tryz.prog 20 #[x, y, z] .returning w fun e u' w' => e = .returned (.tuple #[]) ∧ u' = .returning ∧ w' = w := by
  refine callsD_of_wpS Tryz.func20 rfl fun c₀ cs hu => ?_
  apply wpS_seq
  apply wpS_region
  simp [wpOpsS, go_sem, recoverD, hu, Tryz.ntmps20, Exit.thenS]
  refine wpS_of_wp ?_
  refine wp_block ?_
  apply wp_seq
  apply wp_region
  simp [wpOps, go_sem, nil_eq, Exit.then]
  repeat apply Or.inl
  refine Go.wp_cond_true ?hc ?h
  · simp [Act.eval]
  apply wp_region
  simp [wpOps, go_sem, Exit.inBlock]
  repeat apply Or.inl
  cases c₀
  simp_all [bodyPostS, results, Tryz.results20, Exit.thenS]
theorem assert_ok (v : Value) (w : World) : (Instr.typeAssert (.iface 89 v) 20 89 true).run Tryz.prog w = .ok (.tuple #[v, .bool true]) w := by
  simp [Instr.typeAssert, run_underlying, Tryz.underlying89]
abbrev pv (l c e : Nat) (r : Bool) : List PanicEntry := [{ v := fltV l c e, recovered := r }]
def hitM (f0 d1 d2 e0 : D) : List (Nat × Blk) := [(0, .obj [.d f0] 23), (1, .obj [.d d1, .d d2]), (2, .obj [.d e0])]
theorem catch_hit (l c e : Nat) (f0 d1 d2 e0 : D) {ι : Nat → Value} {S : Nat → Prop} {w : World} (hS : ∀ b, S b → b < w.heap.size) (hG : ΓL.G S w) (hblk : ∀ p ∈ hitM f0 d1 d2 e0, BlkOk ι S w p.1 p.2)
    (hdst : ∀ p ∈ hitM f0 d1 d2 e0, ∀ q ∈ hitM f0 d1 d2 e0, ∀ g, p.2.live = true → q.2.live = true → blkOf (ι p.1) = some g → blkOf (ι q.1) = some g → p.1 = q.1) :
    CallsD Tryz.prog 20 #[ι 0, ι 1, ι 2] (.panicking (pv l c e false)) w fun e' u' w' => e' = .returned (.tuple #[]) ∧ u' = .panicking (pv l c e true) ∧ ∃ ι' S', After ι S w 3 ⟨.und, [0, 1, 2], hitM dnp (di l) (di c) (di e), []⟩ undef ι' S' w' := by
  have hp : ∀ k, k < 3 → ∃ b, ι k = .pointer (some ⟨b, 0, none⟩) := fun k hk => by
    match k, hk with
    | 0, _ => obtain ⟨b, arr, ty, h1, _⟩ := hblk _ (List.mem_cons_self ..); exact ⟨b, h1⟩
    | 1, _ => obtain ⟨b, arr, ty, h1, _⟩ := hblk _ (List.mem_cons_of_mem _ (List.mem_cons_self ..)); exact ⟨b, h1⟩
    | 2, _ => obtain ⟨b, arr, ty, h1, _⟩ := hblk _ (List.mem_cons_of_mem _ (List.mem_cons_of_mem _ (List.mem_cons_self ..))); exact ⟨b, h1⟩
  obtain ⟨b0, hb0⟩ := hp 0 (by omega)
  obtain ⟨b1, hb1⟩ := hp 1 (by omega)
  obtain ⟨b2, hb2⟩ := hp 2 (by omega)
  refine callsD_of_wpS Tryz.func20 rfl fun c₀ cs hu => ?_
  apply wpS_seq
  apply wpS_region
  simp [wpOpsS, go_sem, recoverD, hu, Tryz.ntmps20, Exit.thenS]
  refine wpS_of_wp ?_
  refine wp_block ?_
  apply wp_seq
  apply wp_region
  simp [wpOps, go_sem, iface_eq, Exit.then]
  apply Or.inl
  refine Go.wp_cond_false ?hc ?h
  · simp [Act.eval]
  apply wp_seq
  apply wp_region
  simp [wpOps, go_sem, assert_ok, Exit.then]
  iterate 3 apply Or.inl
  refine Go.wp_cond_true ?hc2 ?h2
  · simp [Act.eval]
  refine Code.wp_mono (fun e1 a1 w1 h => ?_) (code_after (C := ⟨Tryz.prog, layF, Tryz.f20.ntmps, ΓL, 3, [], []⟩) (tm := [(0, .o (.c (.ptr 0 0))), (1, .o (.c (.ptr 1 0))), (2, .o (.c (.ptr 2 0))), (11, .o (gD [di l, di c, di e]))]) (m := hitM f0 d1 d2 e0) (upd := hitM dnp (di l) (di c) (di e)) (new := []) layF_ok mixed rfl ?hvc hS hG hblk hdst ?htm (by simp [Tryz.ntmps20]) rfl)
  case hvc =>
    repeat' (first | refine tT ?_ | refine tF ?_ | refine ex_dec (fun _ => ?_) (fun _ => ?_) | refine t8 ?_ | refine tI ?_ | refine tU ?_ | refine tA ?_ | refine tB ?_ | refine tL ?_ | refine tN ?_ | fail "no step")
    exact ⟨rfl, rfl, rfl⟩
  case htm =>
    intro t tv ht
    simp only [findL] at ht
    split at ht
    · rename_i h; subst h; cases ht
      exact ⟨b0, hb0, by simp [hb0]⟩
    · split at ht
      · rename_i h; subst h; cases ht
        exact ⟨b1, hb1, by simp [hb1]⟩
      · split at ht
        · rename_i h; subst h; cases ht
          exact ⟨b2, hb2, by simp [hb2]⟩
        · split at ht
          · rename_i h; subst h; cases ht
            exact ⟨[.int .i64 l, .int .i64 c, .int .i64 e], by simp, .cons (Imm.v rfl) (.cons (Imm.v rfl) (.cons (Imm.v rfl) .nil))⟩
          · cases ht
  obtain ⟨rfl, h1, ι', S', A⟩ := h
  simp only [Exit.inBlock, bodyPostS]
  exact ⟨h1, .panicking (pv l c e true), rfl, .tuple #[], by simp [results, Tryz.results20], rfl, rfl, ι', S', A⟩
end Go.Proofs.YtoingpafcodojaaGreatDoor

namespace Go.Proofs.YtoingpafcodojaaGreatDoor
open Go.RowKit

def HitP (v : Value) (st : St) (upd : List (Nat × Blk)) : Prop := ∃ (l c e : Nat) (f0 d1 d2 e0 : D), v = fltV l c e ∧ upd = hitM dnp (di l) (di c) (di e) ∧
  findL st.mem 0 = some (.obj [.d f0] 23) ∧ findL st.mem 1 = some (.obj [.d d1, .d d2]) ∧ findL st.mem 2 = some (.obj [.d e0])
theorem hitP_ok (v : Value) (st : St) (upd : List (Nat × Blk)) (h : HitP v st upd) (ι : Nat → Value) (S : Nat → Prop) (w : World) (hS : ∀ b, S b → b < w.heap.size) (hG : ΓL.G S w) (hblk : ∀ k b, findL st.mem k = some b → BlkOk ι S w k b)
    (hdst : ∀ k k' b b' g, findL st.mem k = some b → findL st.mem k' = some b' → b.live = true → b'.live = true → blkOf (ι k) = some g → blkOf (ι k') = some g → k = k') :
    CallsD Tryz.prog 20 ([0, 1, 2].map ι).toArray (.panicking (panE v)) w fun e' u' w' => e' = .returned (.tuple #[]) ∧ u' = .panicking [{ v, recovered := true }] ∧ ∃ ι' S', After ι S w st.nx ⟨.und, [], upd, []⟩ undef ι' S' w' := by
  obtain ⟨l, c, e, f0, d1, d2, e0, rfl, rfl, h0, h1, h2⟩ := h
  have hf : ∀ p ∈ hitM f0 d1 d2 e0, findL st.mem p.1 = some p.2 := fun p hp => by
    simp only [hitM, List.mem_cons, List.not_mem_nil, or_false] at hp
    rcases hp with rfl | rfl | rfl
    · exact h0
    · exact h1
    · exact h2
  refine (catch_hit l c e f0 d1 d2 e0 hS hG (fun p hp => hblk _ _ (hf p hp)) (fun p hp q hq g => hdst _ _ _ _ g (hf p hp) (hf q hq))).mono ?_
  rintro e' u' w' ⟨he, hu, ι', S', A⟩
  refine ⟨he, hu, ι', S', ⟨A.val, fun k _ => A.keep k (by show k < 3 ∨ 3 + 0 ≤ k; omega), A.smono, A.sgrow, A.slt, A.os, A.tape, A.output, A.size, A.heap, A.updok, fun i b hb => by simp at hb, fun i b hb => by simp at hb, fun i j b b' g hb => by simp at hb⟩⟩
def fileS (s : List UInt8) : FR := fileV (lexV s)
theorem Parse_c (s : List UInt8) : CallsA Tryz.prog ΓL 7 [c1 (ds (bs s))] (parT (fileS s)) := by
  have hlx := lex_c s
  obtain ⟨R, hR⟩ : ∃ R, fileS s = R := ⟨_, rfl⟩
  rw [hR]
  refine fn_ruleE (C := ⟨Tryz.prog, layF, Tryz.f7.ntmps, ΓL, 0, [5], []⟩) (g := 20) (t9 := 17) (nx2 := 3) (caps := [2, 3, 4]) (capN := [0, 1, 2]) layF_ok mixed Tryz.func7 rfl (by kernel_rfl) rfl rfl rfl HitP ?hdef ?henter ?hidle rfl hitP_ok ?h
  case hdef =>
    intro a w Q hsz h
    have h9 : 17 < a.tmps.size := by rw [hsz]; decide
    apply wp_region
    simp [wpOps, go_sem, h9]
    refine .inl (.inl ?_)
    simpa [Oper.upon, Act.put] using h (.func (.func 20) #[] #[a.tmps[2]?.getD undef, a.tmps[3]?.getD undef, a.tmps[4]?.getD undef])
  case henter =>
    intro vs w
    kernel_rfl
  case hidle =>
    intro vs w hl
    match vs, hl with
    | [x, y, z], _ => exact catch_idle x y z w
  case h =>
    rcases hl : lexV s with L | ⟨l, c, e⟩
    · rw [hl] at hlx
      have hlx : CallsA Tryz.prog ΓL 19 [c1 (ds (bs s))] (.tup [c1 (.sl 5 (L.map tokD)), gD [di 0, di 0], c1 (di 0)]) := hlx
      obtain ⟨hL, hn⟩ := lexV_ok hl
      repeat' (first | refine ex_call hlx ?_ | refine tT ?_ | refine tF ?_ | refine ex_dec (fun _ => ?_) (fun _ => ?_) | refine t8 ?_ | refine tI ?_ | refine tU ?_ | refine tA ?_ | refine tB ?_ | refine tL ?_ | refine tN ?_ | fail "no step")
      refine ⟨⟨rfl, rfl, rfl, trivial⟩, rfl, ?_⟩
      refine ex_join (X := Unit) (fun _ => ⟨[(2, .o (.c (.ptr 0 0))), (3, .o (.c (.ptr 1 0))), (4, .o (.c (.ptr 2 0))), (6, .o (.c (.ptr 4 0)))], [(0, .obj [.d dnp] 23), (1, .obj [.d (di 0), .d (di 0)]), (2, .obj [.d (di 0)]), (4, .obj [.d (.sl 5 (L.map tokD)), .d (di ((0 : Nat) : Int)), .d (di (32 - ((32 : Nat) : Int))), .ptr 3 0]), (3, Fz 5 6 7 8), (5, Cz []), (6, Uz []), (7, Xz []), (8, Tz [])], 9⟩) (fun _ => True) ?_ ?_
      · repeat' (first | refine tT ?_ | refine tF ?_ | refine ex_dec (fun _ => ?_) (fun _ => ?_) | refine t8 ?_ | refine tI ?_ | refine tU ?_ | refine tA ?_ | refine tB ?_ | refine tL ?_ | refine tN ?_ | fail "no step")
        exact ex_meet () trivial (SLe.via (SLe.ownCell 3 0 5 2 82 rfl rfl rfl rfl rfl rfl) (SLe.via (SLe.ownCell 3 1 6 3 146 rfl rfl rfl rfl rfl rfl) (SLe.via (SLe.ownCell 3 2 7 5 77 rfl rfl rfl rfl rfl rfl) (SLe.via (SLe.ownCell 3 3 8 8 57 rfl rfl rfl rfl rfl rfl) (SLe.of ⟨⟨rfl, rfl, rfl, rfl, trivial⟩, ⟨rfl, rfl, rfl, rfl, rfl, rfl, rfl, rfl, rfl, trivial⟩⟩)))))
      · intro _ _
        have hlen := hL.1
        have hw := whole_c (m := 32) hL hn rfl 0 (L.length + 1) [] [] [] [] ⟨hlen, by simp, by simp⟩ (by omega) (by simp) (by simp) _ rfl
        rcases hT : wholeN L (L.length + 1) [] [] ⟨0, [], []⟩ with ⟨⟨cs, rs⟩, s1⟩ | ⟨i, e⟩
        · obtain rfl : FR.ok cs rs s1.xs s1.ts = R := by rw [← hR]; unfold fileS fileV; rw [hl]; dsimp only; rw [hT]
          rw [hT] at hw
          have hw : CallsM Tryz.prog ΓL 21 [(0, Qz L 32 0), (1, Fz 2 3 4 5), (2, Cz []), (3, Uz []), (4, Xz []), (5, Tz [])] 6 [P0] (.tup []) [(0, Qz L 32 s1.i), (1, Fz 6 7 8 9), (2, .dead), (3, .dead), (4, .dead), (5, .dead)] [Cz cs, Uz rs, Xz s1.xs, Tz s1.ts] := hw
          repeat' (first | refine tT ?_ | refine tF ?_ | refine ex_dec (fun _ => ?_) (fun _ => ?_) | refine t8 ?_ | refine tI ?_ | refine tU ?_ | refine tA ?_ | refine tB ?_ | refine tL ?_ | refine tN ?_ | fail "no step")
          refine ex_callM (CallsM.ren hw [4, 3, 5, 6, 7, 8] 9 rfl rfl rfl rfl) ?_
          repeat' (first | refine tT ?_ | refine tF ?_ | refine ex_dec (fun _ => ?_) (fun _ => ?_) | refine t8 ?_ | refine tI ?_ | refine tU ?_ | refine tA ?_ | refine tB ?_ | refine tL ?_ | refine tN ?_ | fail "no step")
          exact ⟨_, SLe.via (show SLe 3 ⟨[(2, .o (.c (.ptr 0 0))), (3, .o (.c (.ptr 1 0))), (4, .o (.c (.ptr 2 0)))], [(0, .obj [.ptr 3 0] 23), (1, .obj [.d (di 0), .d (di 0)]), (2, .obj [.d (di 0)]), (3, Fz 9 10 11 12), (9, Cz cs), (10, Uz rs), (11, Xz s1.xs), (12, Tz s1.ts)], 13⟩ _ from (SLe.of ⟨⟨rfl, rfl, rfl, trivial⟩, ⟨rfl, rfl, rfl, rfl, rfl, rfl, rfl, rfl, trivial⟩⟩))
            (SLe.via (SLe.still 9 2 82 (cs.map coD) rfl) (SLe.via (SLe.still 10 3 146 (rs.map rcD) rfl) (SLe.via (SLe.still 11 5 77 (s1.xs.map exD) rfl) (SLe.via (SLe.still 12 8 57 (s1.ts.map tyD) rfl)
              (SLe.via (sle_fixO 0 0 3 (dl := fileD cs rs s1.xs s1.ts) rfl rfl rfl rfl) (show SLe 3 ⟨[(2, .o (.c (.ptr 0 0))), (3, .o (.c (.ptr 1 0))), (4, .o (.c (.ptr 2 0)))], [(0, .obj [.eptr (fileD cs rs s1.xs s1.ts)] 23), (1, .obj [.d (di 0), .d (di 0)]), (2, .obj [.d (di 0)])], 13⟩ _ from (SLe.of ⟨⟨rfl, rfl, rfl, trivial⟩, ⟨rfl, rfl, rfl, trivial⟩⟩))))))), TLe.rfl, rfl⟩
        · obtain rfl : FR.err (tk L i).l (tk L i).c e = R := by rw [← hR]; unfold fileS fileV; rw [hl]; dsimp only; rw [hT]
          rw [hT] at hw
          have hw : CallsM Tryz.prog ΓL 21 [(0, Qz L 32 0), (1, Fz 2 3 4 5), (2, Cz []), (3, Uz []), (4, Xz []), (5, Tz [])] 6 [P0] (.pan (flt L i e)) [(0, .dead), (1, .dead), (2, .dead), (3, .dead), (4, .dead), (5, .dead)] [] := hw
          repeat' (first | refine tT ?_ | refine tF ?_ | refine ex_dec (fun _ => ?_) (fun _ => ?_) | refine t8 ?_ | refine tI ?_ | refine tU ?_ | refine tA ?_ | refine tB ?_ | refine tL ?_ | refine tN ?_ | fail "no step")
          refine ex_callM (CallsM.ren hw [4, 3, 5, 6, 7, 8] 9 rfl rfl rfl rfl) ?_
          exact ⟨flt L i e, _, rfl, ⟨(tk L i).l, (tk L i).c, e, _, _, _, _, rfl, rfl, rfl, rfl, rfl⟩, rfl, rfl, _, fun _ _ _ _ h => h, TLe.rfl, rfl⟩
    · rw [hl] at hlx
      have he := lexV_err hl
      have hlx : CallsA Tryz.prog ΓL 19 [c1 (ds (bs s))] (.tup [c1 (.sl 5 []), gD [di l, di c], c1 (di e)]) := hlx
      obtain rfl : FR.err l c e = R := by rw [← hR]; unfold fileS; rw [hl]; rfl
      repeat' (first | refine ex_call hlx ?_ | refine tT ?_ | refine tF ?_ | refine ex_dec (fun _ => ?_) (fun _ => ?_) | refine t8 ?_ | refine tI ?_ | refine tU ?_ | refine tA ?_ | refine tB ?_ | refine tL ?_ | refine tN ?_ | fail "no step")
      exact ⟨_, fun _ _ _ _ h => h, TLe.rfl, rfl⟩
end Go.Proofs.YtoingpafcodojaaGreatDoor

namespace Go.Proofs.YtoingpafcodojaaGreatDoor
open Go.RowKit

def fnQF (L : Nat → Option Lay) (rs : List ResultVar) (r : TV) : Exit → St → Prop
  | .normal, st | .ret, st => retOkE 0 L rs r st
  | _, _ => False
theorem fn_ruleF {C : Ctx} {f : FuncId} {fn : Func} {c : Code} (hL : LOk C.P C.L) (hm : C.P.follows .mixedOrders = true) (hf : C.P.funcs[f]? = some fn) (hb : fn.body = some c) (hname : (fn.name == "runtime.NumGoroutine") = false)
    (hn : fn.ntmps = C.n) (h0 : C.nx0 = 0) {xs : List T1} (hx : Nat.ble xs.length C.n = true) {r : TV} (h : vc C c ⟨argTm 0 xs, [], 0⟩ (fnQF C.L fn.results.toList r)) : CallsA C.P C.Γ f xs r := by
  refine ⟨⟨fn, hf, hname, by rw [hb]; rfl⟩, fun S w vs hS hG hvs => ?_⟩
  have hxl := Nat.le_of_ble_eq_true hx
  have hlen := hvs.len
  refine calls_of_wp hf hb ?_
  have hR : RS ⟨w, fun _ => False, S, C.n, C.Γ, ι0, 0, []⟩ ⟨argTm 0 xs, [], 0⟩ { tmps := vs.toArray ++ Array.replicate (fn.ntmps - vs.toArray.size) undef, defers := [] } w := by
    refine ⟨ι0, S, rfl, rfl, rfl, Nat.le_refl _, fun _ _ _ => rfl, hS, fun _ h => h, fun _ h => .inl h, fun t tv ht => ?_, (fun k b hk => by cases hk), (fun k b hk => by cases hk), (fun k k' b b' g hk => by cases hk), rfl, ?_, hG, fun _ _ => rfl⟩
    · obtain ⟨x, rfl, _, hx⟩ := argTm_find xs 0 t tv ht
      rw [Nat.sub_zero] at hx
      obtain ⟨u, hu, hv⟩ := hvs.at_left hx
      have hlt := (List.getElem?_eq_some_iff.1 hu).1
      have : (vs.toArray ++ Array.replicate (fn.ntmps - vs.toArray.size) undef).getD t undef = u := by
        simp [Array.getElem?_append, hlt, hu]
        have h2 := (List.getElem?_eq_some_iff.1 hu).2
        exact h2
      show V ι0 S w (.o x) _
      dsimp only
      rw [this]
      exact hv
    · simp; omega
  refine Code.wp_mono (fun e a w' hq => ?_) (vc_ok hL ⟨rfl, rfl, h0.symm⟩ hm c _ _ _ w h hR)
  obtain ⟨st, hR', hq⟩ := hq
  have key : retOkE 0 C.L fn.results.toList r st → a.defers = [] ∧ ∃ v, (results fn a.tmps).run C.P w' = .ok v w' ∧ ∃ x S', Ending.returned v = .returned x ∧ Below w.heap.size w w' ∧ (∀ b, S b → S' b) ∧ (∀ b, S' b → S b ∨ w.heap.size ≤ b) ∧ (∀ b, S' b → b < w'.heap.size) ∧ V ι0 S' w' r x := fun hret => by
    obtain ⟨v, h1, h2⟩ := end_dataE hL hR' hret
    obtain ⟨ι, S1, I⟩ := hR'
    exact ⟨I.dn, v, h1, h2⟩
  cases e with
  | normal => exact key hq
  | ret => exact key hq
  | _ => exact hq.elim
end Go.Proofs.YtoingpafcodojaaGreatDoor

namespace Go.Proofs.YtoingpafcodojaaGreatDoor
def opsL7 : List (List UInt8) := levelsL.map (·.1)
def xsL (a b : List UInt8) : List EX := if levelV a < levelV b then [⟨1, [], 0, [120], []⟩, ⟨1, [], 0, [121], []⟩, ⟨1, [], 0, [122], []⟩, ⟨3, b, 0, [], [1, 2]⟩, ⟨3, a, 0, [], [0, 3]⟩] else [⟨1, [], 0, [120], []⟩, ⟨1, [], 0, [121], []⟩, ⟨3, a, 0, [], [0, 1]⟩, ⟨1, [], 0, [122], []⟩, ⟨3, b, 0, [], [2, 3]⟩]
deriving instance DecidableEq for EX, CA, TY, SB, IT, RC, CO, FR
end Go.Proofs.YtoingpafcodojaaGreatDoor

namespace Go.Proofs.YtoingpafcodojaaGreatDoor
open Go.RowKit

def preA : List UInt8 := [115, 116, 114, 117, 99, 116, 32, 83, 32, 123, 32, 97, 58, 32, 98, 121, 116, 101, 115, 91]
def postA : List UInt8 := [93, 59, 32, 125]
def textA (s : List UInt8) : List UInt8 := preA ++ s ++ postA
theorem of_ok (s : List UInt8) (hs : s.length ≤ 1000000) {cs : List CO} {rs : List RC} {xs : List EX} {t : TY} {ts : List TY} (h : fileS (textA s) = .ok cs rs xs (t :: ts)) (htl : ts.length ≤ 1000000) :
    CallsA Tryz.prog ΓL 13 [c1 (ds (bs s))] (.tup [.c (.eptr (fileD cs rs xs (t :: ts))), c1 (di t.ex)]) := by
  have hp := Parse_c (textA s)
  rw [h] at hp
  have hp : CallsA Tryz.prog ΓL 7 [c1 (ds (bs preA ++ bs s ++ bs postA))] (.tup [.c (.eptr (fileD cs rs xs (t :: ts))), gD [di 0, di 0], c1 (di 0)]) := by
    rw [bs_app, bs_app]
    exact hp
  have hsz : (bs s).size = s.length := by simp [bs, ByteArray.size]
  have hm : ((t :: ts).map tyD).length = ts.length + 1 := by simp
  refine fn_ruleF (C := ⟨Tryz.prog, layF, Tryz.f13.ntmps, ΓL, 0, [], []⟩) layF_ok mixed Tryz.func13 rfl (by kernel_rfl) rfl rfl rfl ?_
  have q1 : (bs preA).size + (bs s).size ≤ 9223372036854775807 := by
    rw [hsz]
    show 20 + s.length ≤ _
    omega
  have q2 : (bs preA ++ bs s).size + (bs postA).size ≤ 9223372036854775807 := by
    rw [ByteArray.size_append, hsz]
    show 20 + s.length + 4 ≤ _
    omega
  repeat' (first | refine tT ?_ | refine tF ?_ | refine ex_dec (fun _ => ?_) (fun _ => ?_) | refine t8 ?_ | refine tI ?_ | refine tU ?_ | refine tA ?_ | refine tB ?_ | refine tL ?_ | refine tN ?_ | fail "no step")
  refine and_mk q1 ?_
  repeat' (first | refine tT ?_ | refine tF ?_ | refine ex_dec (fun _ => ?_) (fun _ => ?_) | refine t8 ?_ | refine tI ?_ | refine tU ?_ | refine tA ?_ | refine tB ?_ | refine tL ?_ | refine tN ?_ | fail "no step")
  refine and_mk q2 ?_
  repeat' (first | refine ex_call hp ?_ | refine (ex_row (l := t :: ts) 0 t rfl rfl) ?_ | refine (ex_is _ hm) ?_ | refine (ex_pn (by kernel_rfl) false (fun _ _ => by kernel_rfl)) ?_ | refine tT ?_ | refine tF ?_ | refine ex_dec (fun _ => ?_) (fun _ => ?_) | refine t8 ?_ | refine tI ?_ | refine tU ?_ | refine tA ?_ | refine tB ?_ | refine tL ?_ | refine tN ?_ | fail "no step")
  exact ⟨_, SLe.rfl, TLe.rfl, rfl⟩
def wkS : List UInt8 := [110, 32, 42, 32, 40, 110, 32, 45, 32, 49, 41]
def wkX : List EX := [⟨1, [], 0, [110], []⟩, ⟨1, [], 0, [110], []⟩, ⟨0, [], 1, [], []⟩, ⟨3, [45], 0, [], [1, 2]⟩, ⟨3, [42], 0, [], [0, 3]⟩]
def wkY : TY := ⟨1, 0, false, [], [], 4, -1, []⟩
def wkR : List RC := [⟨[83], [], [⟨[97], 0, 0, [], [], -1, 0, false, []⟩]⟩]
theorem wk_file : fileS (textA wkS) = .ok [] wkR wkX [wkY] := by decide +kernel
theorem wk_e1 : evalE (wkX.map EX.ei) 4 [([110], 3)] = (6, 0) := by decide +kernel
theorem wk_e2 : evalE (wkX.map EX.ei) 4 [([110], 3), ([110], 0)] = (0, 5) := by decide +kernel
theorem wk_eval (e : EV) (he : EnvOk e) (hel : e.length ≤ 1000000) : CallsA Tryz.prog ΓL 11 [.c (.eptr (fileD [] wkR wkX [wkY])), c1 (di 4), c1 (.sl 2 (e.map evD))] (owT (evalE (wkX.map EX.ei) 4 e)) :=
  (eval_c (wkX.map EX.ei) e (.sl 2 ([].map coD)) (.sl 3 (wkR.map rcD)) (.sl 8 ([wkY].map tyD)) 4 (by unfold XsOk; decide) he hel (by decide) (by decide) (by decide)).gL
set_option maxHeartbeats 2000000 in
theorem wakes10_c : CallsA Tryz.prog ΓL 9 [] (Tb true) := by
  have ho := of_ok wkS (by decide) wk_file (by decide)
  have h1 := wk_eval [([110], 3)] (by unfold EnvOk; decide) (by decide)
  rw [wk_e1] at h1
  have h2 := wk_eval [([110], 3), ([110], 0)] (by unfold EnvOk; decide) (by decide)
  rw [wk_e2] at h2
  have h3 := (eval_nil 0 dnil).gL
  refine fn_rule (C := ⟨Tryz.prog, layF, Tryz.f9.ntmps, ΓL, 0, [], []⟩) layF_ok mixed Tryz.func9 rfl (by kernel_rfl) rfl rfl rfl ?_
  repeat' (first | refine ex_call h3 ?_ | refine ex_call ho ?_ | refine tT ?_ | refine tF ?_ | refine ex_dec (fun _ => ?_) (fun _ => ?_) | refine t8 ?_ | refine tI ?_ | refine tU ?_ | refine tA ?_ | refine tB ?_ | refine tL ?_ | refine tN ?_ | fail "no step")
  refine ex_callM (h1.toM (by kernel_rfl) (by kernel_rfl) _) ?_
  repeat' (first | refine ex_call h3 ?_ | refine ex_call ho ?_ | refine tT ?_ | refine tF ?_ | refine ex_dec (fun _ => ?_) (fun _ => ?_) | refine t8 ?_ | refine tI ?_ | refine tU ?_ | refine tA ?_ | refine tB ?_ | refine tL ?_ | refine tN ?_ | fail "no step")
  refine ex_callM (h2.toM (by kernel_rfl) (by kernel_rfl) _) ?_
  repeat' (first | refine ex_call h3 ?_ | refine ex_call ho ?_ | refine tT ?_ | refine tF ?_ | refine ex_dec (fun _ => ?_) (fun _ => ?_) | refine t8 ?_ | refine tI ?_ | refine tU ?_ | refine tA ?_ | refine tB ?_ | refine tL ?_ | refine tN ?_ | fail "no step")
  exact TLe.rfl
end Go.Proofs.YtoingpafcodojaaGreatDoor

namespace Go.Proofs.YtoingpafcodojaaGreatDoor
open Go.RowKit
section
variable {P : Program}
def EqT (P : Program) (d : Nat) (t : TypeId) (x y : Value) (c : Bool) : Prop := ∀ w, (Op.equalIn d t x y).run P w = .ok c w
def EqFs (P : Program) (d : Nat) (xs ys : List Value) (fs : List Field) (c : Bool) : Prop := ∀ w, (Op.eqFields d xs.toArray ys.toArray fs).run P w = .ok c w
def PartI (P : Program) (t : TypeId) (xs : List Value) (off : Nat) (x : Value) : Prop := ∀ w, (part t xs.toArray off).run P w = .ok x w
theorem EqT.int {d : Nat} {t : TypeId} {k k' : IntKind} {a b : Int} (h : P.underlying t = some (.int k')) : EqT P (d + 1) t (.int k a) (.int k b) (decide (a = b)) := fun w => by
  rw [run_equalIn_int w d t k k' a b h]
  rfl
theorem EqT.str {d : Nat} {t : TypeId} {a b : ByteArray} (h : P.underlying t = some .string) : EqT P (d + 1) t (.string a) (.string b) (decide (a = b)) := fun w => by
  rw [run_equalIn_string w d t a b h, bytes_eq]
theorem EqT.bool {d : Nat} {t : TypeId} {a b : Bool} (h : P.underlying t = some .bool) : EqT P (d + 1) t (.bool a) (.bool b) (decide (a = b)) := fun w => by
  rw [run_equalIn_bool' w d t a b h]
  cases a <;> cases b <;> rfl
theorem EqT.st {d : Nat} {t : TypeId} {fs : Array Field} {xs ys : List Value} {c : Bool} (hu : P.underlying t = some (.struct fs)) (hp : P.stoodInHeld t = false) (h : EqFs P d xs ys fs.toList c) : EqT P (d + 1) t (.agg xs.toArray) (.agg ys.toArray) c := fun w => by
  have hf : P.fieldsOf t = fs := by unfold Program.fieldsOf; rw [hu]
  rw [run_equalIn_struct w d t _ _ (by rw [hf]; exact hu) hp, hf]
  exact h w
def fieldsK (P : Program) (t : TypeId) : List (Bool × Nat × Nat) := (P.fieldsOf t).toList.map fun f => (f.name != "_", f.type, f.offset)
def EqKs (P : Program) (d : Nat) (xs ys : List Value) (ks : List (Bool × Nat × Nat)) (c : Bool) : Prop := ∀ fs : List Field, fs.map (fun f => (f.name != "_", f.type, f.offset)) = ks → EqFs P d xs ys fs c
theorem EqFs.cons {d : Nat} {xs ys : List Value} {f : Field} {fs : List Field} {x y : Value} {b c : Bool} (hn : (f.name != "_") = true) (hx : PartI P f.type xs f.offset x) (hy : PartI P f.type ys f.offset y) (h1 : EqT P d f.type x y b) (h2 : EqFs P d xs ys fs c) : EqFs P d xs ys (f :: fs) (b && c) := fun w => by
  have hn' : f.name ≠ "_" := by simpa using hn
  rw [Op.eqFields, if_pos hn']
  simp only [Sem.run_bind]
  rw [hx w, Result.andThen_ok, hy w, Result.andThen_ok, h1 w, Result.andThen_ok]
  cases b
  · simp
  · simp only [Bool.not_true, Bool.false_eq_true, if_false, Bool.true_and]
    exact h2 w
def isAggB (P : Program) (t : TypeId) : Bool := match P.underlying t with
  | some (.struct _) | some (.array _ _) => true
  | _ => false
theorem PartI.one {t : TypeId} {xs : List Value} {off : Nat} {x : Value} {dsc : TypeDesc} (hu : P.underlying t = some dsc) (ha : isAggB P t = false) (hx : xs[off]? = some x) : PartI P t xs off x := fun w => by
  unfold isAggB at ha
  rw [hu] at ha
  unfold part isAgg
  simp only [Sem.run_bind, run_underlying hu, Result.andThen_ok]
  cases dsc <;> first | (cases ha; done) | (simp [hx]; done)
theorem PartI.agg {t : TypeId} {xs : List Value} {off n : Nat} {ys : List Value} {dsc : TypeDesc} {i : TypeInfo} (hu : P.underlying t = some dsc) (ha : isAggB P t = true) (hi : P.info? t = some i) (hn : i.size = n) (hx : (xs.drop off).take n = ys) : PartI P t xs off (.agg ys.toArray) := fun w => by
  unfold isAggB at ha
  rw [hu] at ha
  have h1 : ∀ w, (isAgg t).run P w = .ok true w := fun w => by
    unfold isAgg
    simp only [Sem.run_bind, run_underlying hu, Result.andThen_ok]
    cases dsc <;> first | (cases ha; done) | rfl
  have h2 : ∀ w, (sizeOf t).run P w = .ok n w := fun w => by
    unfold sizeOf
    simp [typeInfo, hi, hn]
  unfold part
  simp only [Sem.run_bind, h1, h2, Result.andThen_ok, if_true]
  rw [← hx]
  simp [List.extract_eq_take_drop]
def leafI (xs ys : List Value) : Option Bool := match xs, ys with
  | [.int k a], [.int k' b] => if k = k' then some (decide (a = b)) else none
  | _, _ => none
def leafS (xs ys : List Value) : Option Bool := match xs, ys with
  | [.string a], [.string b] => some (decide (a = b))
  | _, _ => none
def leafB (xs ys : List Value) : Option Bool := match xs, ys with
  | [.bool a], [.bool b] => some (decide (a = b))
  | _, _ => none
theorem leafI_ok {xs ys : List Value} {c : Bool} (h : leafI xs ys = some c) : ∃ k a b, xs = [.int k a] ∧ ys = [.int k b] ∧ c = decide (a = b) := by
  unfold leafI at h
  split at h
  · split at h
    · rename_i e; subst e; injection h with h; exact ⟨_, _, _, rfl, rfl, h.symm⟩
    · cases h
  · cases h
theorem leafS_ok {xs ys : List Value} {c : Bool} (h : leafS xs ys = some c) : ∃ a b, xs = [.string a] ∧ ys = [.string b] ∧ c = decide (a = b) := by
  unfold leafS at h
  split at h
  · injection h with h; exact ⟨_, _, rfl, rfl, h.symm⟩
  · cases h
theorem leafB_ok {xs ys : List Value} {c : Bool} (h : leafB xs ys = some c) : ∃ a b, xs = [.bool a] ∧ ys = [.bool b] ∧ c = decide (a = b) := by
  unfold leafB at h
  split at h
  · injection h with h; exact ⟨_, _, rfl, rfl, h.symm⟩
  · cases h
def eqV (P : Program) : Nat → TypeId → List Value → List Value → Option Bool
  | 0, _, _, _ => none
  | d + 1, t, xs, ys => match P.underlying t with
    | some (.int _) => leafI xs ys
    | some .string => leafS xs ys
    | some .bool => leafB xs ys
    | some (.struct fs) => match P.stoodInHeld t, P.info? t with
      | false, some _ => fs.toList.foldr (fun f r => match f.name != "_", eqV P d f.type ((xs.drop f.offset).take (P.cellsOf f.type)) ((ys.drop f.offset).take (P.cellsOf f.type)), r with
        | true, some b, some c => some (b && c)
        | _, _, _ => none) (some true)
      | _, _ => none
    | some (.array n e) => match P.info? e, P.info? t with
      | some _, some _ => (List.range n).foldr (fun i r => match eqV P d e ((xs.drop (i * P.cellsOf e)).take (P.cellsOf e)) ((ys.drop (i * P.cellsOf e)).take (P.cellsOf e)), r with
        | some b, some c => some (b && c)
        | _, _ => none) (some true)
      | _, _ => none
    | _ => none
def packV (P : Program) (t : TypeId) (xs : List Value) : Value := match isAggB P t with
  | true => .agg xs.toArray
  | false => xs.headD undef
theorem part_pack {t : TypeId} {xs : List Value} {off : Nat} {dsc : TypeDesc} {i : TypeInfo} (hu : P.underlying t = some dsc) (hi : P.info? t = some i) (h1 : isAggB P t = true ∨ ((xs.drop off).take (P.cellsOf t)) ≠ []) : PartI P t xs off (packV P t ((xs.drop off).take (P.cellsOf t))) := by
  have hc : P.cellsOf t = i.size := by unfold Program.cellsOf; rw [hi]; rfl
  unfold packV
  cases ha : isAggB P t with
  | true => exact PartI.agg hu ha hi rfl (by rw [hc])
  | false =>
    refine PartI.one hu ha ?_
    rcases h1 with h1 | h1
    · rw [ha] at h1; cases h1
    · cases hd : xs.drop off with
      | nil => rw [hd] at h1; simp at h1
      | cons x l =>
        cases hn : P.cellsOf t with
        | zero => rw [hn] at h1; simp at h1
        | succ n =>
          have := congrArg (·[0]?) hd
          simpa using this
theorem eqV_some {d : Nat} {t : TypeId} {xs ys : List Value} {c : Bool} (h : eqV P d t xs ys = some c) : (∃ dsc i, P.underlying t = some dsc ∧ P.info? t = some i) ∧ (isAggB P t = true ∨ xs ≠ [] ∧ ys ≠ []) := by
  cases d with
  | zero => cases h
  | succ d =>
    have hinf : ∀ dsc, P.underlying t = some dsc → ∃ i, P.info? t = some i := fun dsc hu => info_of_underlying hu
    rw [eqV] at h
    split at h
    · rename_i hu
      obtain ⟨i, hi⟩ := hinf _ hu
      refine ⟨⟨_, i, hu, hi⟩, .inr ?_⟩
      obtain ⟨_, _, _, rfl, rfl, -⟩ := leafI_ok h
      simp
    · rename_i hu
      obtain ⟨i, hi⟩ := hinf _ hu
      refine ⟨⟨_, i, hu, hi⟩, .inr ?_⟩
      obtain ⟨_, _, rfl, rfl, -⟩ := leafS_ok h
      simp
    · rename_i hu
      obtain ⟨i, hi⟩ := hinf _ hu
      refine ⟨⟨_, i, hu, hi⟩, .inr ?_⟩
      obtain ⟨_, _, rfl, rfl, -⟩ := leafB_ok h
      simp
    · rename_i hu
      obtain ⟨i, hi⟩ := hinf _ hu
      exact ⟨⟨_, i, hu, hi⟩, .inl (by unfold isAggB; rw [hu])⟩
    · rename_i hu
      obtain ⟨i, hi⟩ := hinf _ hu
      exact ⟨⟨_, i, hu, hi⟩, .inl (by unfold isAggB; rw [hu])⟩
    · cases h
theorem eqV_ok : ∀ (d : Nat) (t : TypeId) (xs ys : List Value) (c : Bool), eqV P d t xs ys = some c → ∀ dd, d ≤ dd → EqT P dd t (packV P t xs) (packV P t ys) c
  | 0, _, _, _, _, h, _, _ => by cases h
  | d + 1, t, xs, ys, c, h, dd, hdd => by
    obtain ⟨dd, rfl⟩ : ∃ k, dd = k + 1 := ⟨dd - 1, by omega⟩
    have hd : d ≤ dd := by omega
    have step : ∀ (t : TypeId) (off : Nat) (c : Bool), eqV P d t ((xs.drop off).take (P.cellsOf t)) ((ys.drop off).take (P.cellsOf t)) = some c →
        ∃ x y, PartI P t xs off x ∧ PartI P t ys off y ∧ EqT P dd t x y c := fun t off c h => by
      obtain ⟨⟨dsc, i, hu, hi⟩, h2⟩ := eqV_some h
      exact ⟨_, _, part_pack hu hi (h2.imp id (·.1)), part_pack hu hi (h2.imp id (·.2)), eqV_ok d t _ _ c h dd hd⟩
    rw [eqV] at h
    split at h
    · rename_i k hu
      have ha : isAggB P t = false := by unfold isAggB; rw [hu]
      obtain ⟨_, _, _, rfl, rfl, rfl⟩ := leafI_ok h
      unfold packV; rw [ha]
      exact EqT.int hu
    · rename_i hu
      have ha : isAggB P t = false := by unfold isAggB; rw [hu]
      obtain ⟨_, _, rfl, rfl, rfl⟩ := leafS_ok h
      unfold packV; rw [ha]
      exact EqT.str hu
    · rename_i hu
      have ha : isAggB P t = false := by unfold isAggB; rw [hu]
      obtain ⟨_, _, rfl, rfl, rfl⟩ := leafB_ok h
      unfold packV; rw [ha]
      exact EqT.bool hu
    · rename_i fs hu
      have ha : isAggB P t = true := by unfold isAggB; rw [hu]
      unfold packV; rw [ha]
      split at h
      · rename_i hp hi
        refine EqT.st hu hp ?_
        generalize fs.toList = l at h
        induction l generalizing c with
        | nil => injection h with h; subst h; exact fun w => rfl
        | cons f l ih =>
          rw [List.foldr_cons] at h
          split at h
          · rename_i b c' hn hb hc
            injection h with h; subst h
            obtain ⟨x, y, h1, h2, h3⟩ := step f.type f.offset b hb
            exact EqFs.cons hn h1 h2 h3 (ih c' hc)
          · cases h
      · cases h
    · rename_i n e hu
      have ha : isAggB P t = true := by unfold isAggB; rw [hu]
      unfold packV; rw [ha]
      split at h
      · rename_i i i' hi hi'
        intro w
        rw [run_equalIn_array w dd xs.toArray ys.toArray hu hi]
        revert w
        generalize List.range n = l at h
        induction l generalizing c with
        | nil => injection h with h; subst h; exact fun w => rfl
        | cons j l ih =>
          intro w
          rw [List.foldr_cons] at h
          split at h
          · rename_i b c' hb hc
            injection h with h; subst h
            obtain ⟨x, y, h1, h2, h3⟩ := step e (j * P.cellsOf e) b hb
            rw [Op.eqItems]
            simp only [Sem.run_bind]
            rw [h1 w, Result.andThen_ok, h2 w, Result.andThen_ok, h3 w, Result.andThen_ok]
            have := ih c' hc w
            cases b
            · simp
            · simpa using this
          · cases h
      · cases h
    · cases h
theorem eqV_self : ∀ (d : Nat) (t : TypeId) (xs : List Value) (c : Bool), eqV P d t xs xs = some c → c = true
  | 0, _, _, _, h => by cases h
  | d + 1, t, xs, c, h => by
    rw [eqV] at h
    split at h
    · obtain ⟨k, a, b, e1, e2, e3⟩ := leafI_ok h
      rw [e1] at e2
      cases e2
      rw [e3]; simp
    · obtain ⟨a, b, e1, e2, e3⟩ := leafS_ok h
      rw [e1] at e2
      cases e2
      rw [e3]; simp
    · obtain ⟨a, b, e1, e2, e3⟩ := leafB_ok h
      rw [e1] at e2
      cases e2
      rw [e3]; simp
    · split at h
      · rename_i fs _ _ _ _ _ _
        generalize fs.toList = l at h
        induction l generalizing c with
        | nil => injection h with h; exact h.symm
        | cons f l ih =>
          rw [List.foldr_cons] at h
          split at h
          · rename_i b c' hn hb hc
            injection h with h
            rw [← h, eqV_self d _ _ _ hb, ih c' hc]; rfl
          · cases h
      · cases h
    · split at h
      · rename_i n e _ _ _ _ _ _ _
        generalize List.range n = l at h
        induction l generalizing c with
        | nil => injection h with h; exact h.symm
        | cons f l ih =>
          rw [List.foldr_cons] at h
          split at h
          · rename_i b c' hb hc
            injection h with h
            rw [← h, eqV_self d _ _ _ hb, ih c' hc]; rfl
          · cases h
      · cases h
    · cases h
theorem eq_two {t : TypeId} {xs ys : List Value} {c : Bool} (h : eqV P 20 t xs ys = some c) (ha : isAggB P t = true) : ∀ w, (Op.equal t (.agg xs.toArray) (.agg ys.toArray)).run P w = .ok c w := fun w => by
  have := eqV_ok 20 t xs ys c h 10000 (by omega) w
  unfold packV at this
  rw [ha] at this
  exact this
theorem eq_same {t : TypeId} {xs : List Value} (h : (eqV P 20 t xs xs).isSome = true) (ha : isAggB P t = true) : ∀ w, (Op.equal t (.agg xs.toArray) (.agg xs.toArray)).run P w = .ok true w := by
  obtain ⟨c, hc⟩ := Option.isSome_iff_exists.1 h
  have := eqV_self 20 t xs c hc
  subst this
  exact eq_two hc ha
end
theorem ex_agg {g : Prop} {Q K : Bool → Prop} (hg : g) (c : Bool) (he : Q c) (h : K c) : g ∧ ∃ c, Q c ∧ K c := ⟨hg, c, he, h⟩
end Go.Proofs.YtoingpafcodojaaGreatDoor

namespace Go.Proofs.YtoingpafcodojaaGreatDoor
open Go.RowKit

theorem bsz (l : List UInt8) : (bs l).size = l.length := by simp [bs, ByteArray.size]
set_option maxHeartbeats 4000000 in
theorem exprEnv_of (hw : CallsA Tryz.prog ΓL 9 [] (Tb true)) (l : EV) (hll : l.length ≤ 9223372036854775807) (nm : List UInt8) (hnl : nm.length ≤ 140737488351232) (n : Nat) (hn : n < 18446744073709551616) :
    CallsA Tryz.prog ΓL 6 [c1 (.sl 2 (l.map evD)), c1 (ds (bs nm)), c1 (du n)] (Tb true) := by
  have h1 := (envs_c l hll).gL
  have hFl : (l.take 20).length ≤ 20 := by rw [List.length_take]; omega
  generalize l.take 20 = e at *
  have h2 := get_c ΓL e nm (by omega)
  have h3 := (rget_c e nm (by omega)).gL
  have h4 := with_c ΓL e nm n (by omega)
  have h5 := get_c ΓL (e ++ [(nm, n)]) nm (by simp; omega)
  rw [getE_last, if_pos rfl] at h5
  have h5 : CallsA Tryz.prog ΓL 16 [c1 (.sl 2 ((e ++ [(nm, n)]).map evD)), c1 (ds (bs nm))] (.tup [c1 (du n), c1 (db true)]) := h5
  have h6 := (consts_c e (by omega)).of0 (Γ := ΓL)
  have h7 := consts_nil.gL
  have h8 := with_c ΓL e (nm ++ [95]) n (by omega)
  rw [← bs_app] at h8
  have h9 := get_c ΓL (e ++ [(nm ++ [95], n)]) nm (by simp; omega)
  have hne : ¬ nm ++ [95] = nm := fun h => by have := congrArg List.length h; simp at this
  rw [getE_last, if_neg hne] at h9
  have hem : (e.map evD).length = e.length := List.length_map _
  have hem2 : ((e ++ [(nm, n)]).map evD).length = e.length + 1 := by simp
  have hsz := bsz nm
  obtain ⟨o, ho⟩ : ∃ o, getE e nm = o := ⟨_, rfl⟩
  rw [ho] at h2 h3 h9
  have key : ∀ (v : Nat) (b : Bool), getT o = .tup [c1 (du v), c1 (db b)] → CallsA Tryz.prog ΓL 6 [c1 (.sl 2 (l.map evD)), c1 (ds (bs nm)), c1 (du n)] (Tb true) := fun v b hvb => by
    rw [hvb] at h2 h3 h9
    clear hvb ho
    refine fn_rule (C := ⟨Tryz.prog, layF, Tryz.f6.ntmps, ΓL, 0, [], []⟩) layF_ok mixed Tryz.func6 rfl (by kernel_rfl) rfl rfl rfl ?_
    repeat' (first | refine ex_call h5 ?_ | refine ex_call h4 ?_ | refine ex_call h3 ?_ | refine ex_call h2 ?_ | refine ex_call h1 ?_ | refine (ex_is _ hem) ?_ | refine tT ?_ | refine tF ?_ | refine ex_dec (fun _ => ?_) (fun _ => ?_) | refine t8 ?_ | refine tI ?_ | refine tU ?_ | refine tA ?_ | refine tB ?_ | refine tL ?_ | refine tN ?_ | fail "no step")
    refine ex_loop (X := Nat × EV) (fun ⟨q, A⟩ => ⟨[(1, Tstr (bs nm)), (2, .o (c1 (du n))), (7, .o (c1 (.sl 2 (e.map evD)))), (9, .o (c1 (du v))), (10, Tb b), (11, .o (c1 (du v))), (12, Tb b), (13, .o (c1 (du n))), (14, Tb true), (15, .o (.c (.ptr 0 0))), (50, .o (c1 (.sl 2 (e.map evD)))), (51, Ti e.length), (52, Ti q)], [(0, .obj [.row 1, .d dnil, .d dnil, .d dnil]), (1, .row 2 82 (A.map evD))], 2⟩) (fun x => e.length - x.1) (fun ⟨q, A⟩ => q ≤ e.length ∧ A = e.take q) (0, []) ⟨Nat.zero_le _, rfl⟩ (SLe.trans (SLe.of ⟨⟨rfl, rfl, rfl, rfl, rfl, rfl, rfl, rfl, rfl, rfl, rfl, rfl, rfl, trivial⟩, ⟨rfl, rfl, trivial⟩⟩) (SLe.ownCell 0 0 1 2 82 rfl rfl rfl rfl rfl rfl)) ?_
    rintro ⟨q, A⟩ ⟨hq, hA⟩
    refine ex_dec (fun h => ?_) (fun h => ?_)
    · have hql : q < e.length := by omega
      have hc : e[q]? = some e[q] := at_some hql
      have htk : e.take (q + 1) = e.take q ++ [e[q]] := by rw [List.take_add_one, hc]; rfl
      have htl : A.length = q := by rw [hA, List.length_take]; omega
      have hap : A.map evD ++ [evD e[q]] = (e.take (q + 1)).map evD := by rw [htk, List.map_append, hA]; rfl
      generalize e[q] = f at *
      repeat' (first | refine (ex_row q f rfl hc) ?_ | refine tT ?_ | refine tF ?_ | refine ex_dec (fun _ => ?_) (fun _ => ?_) | refine t8 ?_ | refine tI ?_ | refine tU ?_ | refine tA ?_ | refine tB ?_ | refine tL ?_ | refine tN ?_ | fail "no step")
      refine ex_app (q) (1) 1000 (by first | rfl | (simp; done) | (simp; omega)) (by first | rfl | (simp; done) | (simp; omega)) rfl (by omega) ?_
      refine ex_is _ hap ?_
      repeat' (first | refine ex_i64 ((q + 1 : Nat) : Int) (by omega) (by omega) (by omega) ?_ | refine ex_u64 ((q + 1 : Nat) : Int) (by omega) (by omega) (by omega) ?_ | refine ex_u8 ((q + 1 : Nat) : Int) (by omega) (by omega) (by omega) ?_ | refine tT ?_ | refine tF ?_ | refine ex_dec (fun _ => ?_) (fun _ => ?_) | refine t8 ?_ | refine tI ?_ | refine tU ?_ | refine tA ?_ | refine tB ?_ | refine tL ?_ | refine tN ?_ | fail "no step")
      exact ex_round (q + 1, e.take (q + 1)) ⟨by omega, rfl⟩ (by show _ - _ < _ - _; omega) (SLe.ren [(0, 0), (4, 1)] ⟨⟨rfl, rfl⟩, ⟨rfl, rfl⟩, ⟨rfl, rfl⟩, ⟨rfl, rfl⟩, ⟨rfl, rfl⟩, ⟨rfl, rfl⟩, ⟨rfl, rfl⟩, ⟨rfl, rfl⟩, ⟨rfl, rfl⟩, ⟨rfl, rfl⟩, ⟨rfl, rfl⟩, ⟨rfl, rfl⟩, ⟨rfl, rfl⟩, trivial⟩ ⟨⟨rfl, rfl⟩, ⟨rfl, rfl⟩, trivial⟩ rfl)
    obtain rfl : q = e.length := by omega
    rw [List.take_length] at hA
    subst hA
    repeat' (first | refine tT ?_ | refine tF ?_ | refine ex_dec (fun _ => ?_) (fun _ => ?_) | refine t8 ?_ | refine tI ?_ | refine tU ?_ | refine tA ?_ | refine tB ?_ | refine tL ?_ | refine tN ?_ | fail "no step")
    refine sC (CallsM.ren (h6) [0, 1] 2 rfl rfl rfl rfl) ?_
    repeat' (first | refine ex_call h7 ?_ | refine (ex_is _ hem) ?_ | refine tT ?_ | refine tF ?_ | refine ex_dec (fun _ => ?_) (fun _ => ?_) | refine t8 ?_ | refine tI ?_ | refine tU ?_ | refine tA ?_ | refine tB ?_ | refine tL ?_ | refine tN ?_ | fail "no step")
    refine ex_loop (X := Nat) (fun q => ⟨[(1, Tstr (bs nm)), (2, .o (c1 (du n))), (7, .o (c1 (.sl 2 (A.map evD)))), (9, .o (c1 (du v))), (10, Tb b), (11, .o (c1 (du v))), (12, Tb b), (13, .o (c1 (du n))), (14, Tb true), (18, .o (c1 (.sl 2 (A.map evD)))), (80, Ti A.length), (81, Ti q)], [], 2⟩) (fun q => A.length - q) (fun q => q ≤ A.length) 0 (Nat.zero_le _) (SLe.of ⟨⟨rfl, rfl, rfl, rfl, rfl, rfl, rfl, rfl, rfl, rfl, rfl, rfl, trivial⟩, trivial⟩) ?_
    clear hq
    intro q hq
    refine ex_dec (fun h => ?_) (fun h => ?_)
    · have hql : q < A.length := by omega
      have hc : A[q]? = some A[q] := at_some hql
      generalize A[q] = f at *
      obtain ⟨f1, f2⟩ := f
      repeat' (first | refine ex_i64 ((q + 1 : Nat) : Int) (by omega) (by omega) (by omega) ?_ | refine ex_u64 ((q + 1 : Nat) : Int) (by omega) (by omega) (by omega) ?_ | refine ex_u8 ((q + 1 : Nat) : Int) (by omega) (by omega) (by omega) ?_ | refine (ex_agg (by kernel_rfl) true (eq_same (by kernel_rfl) (by kernel_rfl))) ?_ | refine (ex_row q (⟨f1, f2⟩ : BV) rfl hc) ?_ | refine tT ?_ | refine tF ?_ | refine ex_dec (fun _ => ?_) (fun _ => ?_) | refine t8 ?_ | refine tI ?_ | refine tU ?_ | refine tA ?_ | refine tB ?_ | refine tL ?_ | refine tN ?_ | fail "no step")
      exact ex_round (q + 1) (by show q + 1 ≤ A.length; omega) (by show _ - _ < _ - _; omega) (SLe.of ⟨⟨rfl, rfl, rfl, rfl, rfl, rfl, rfl, rfl, rfl, rfl, rfl, rfl, trivial⟩, trivial⟩)
    repeat' (first | refine tT ?_ | refine tF ?_ | refine ex_dec (fun _ => ?_) (fun _ => ?_) | refine t8 ?_ | refine tI ?_ | refine tU ?_ | refine tA ?_ | refine tB ?_ | refine tL ?_ | refine tN ?_ | fail "no step")
    refine and_mk (by show (bs nm).size + 1 ≤ 9223372036854775807; omega) ?_
    cases b
    · repeat' (first | refine ex_call h4 ?_ | refine ex_call hw ?_ | refine ex_call h9 ?_ | refine ex_call h8 ?_ | refine (ex_is _ hem2) ?_ | refine (ex_is _ hem) ?_ | refine tT ?_ | refine tF ?_ | refine ex_dec (fun _ => ?_) (fun _ => ?_) | refine t8 ?_ | refine tI ?_ | refine tU ?_ | refine tA ?_ | refine tB ?_ | refine tL ?_ | refine tN ?_ | fail "no step")
      exact TLe.rfl
    · repeat' (first | refine ex_call h4 ?_ | refine ex_call hw ?_ | refine ex_call h9 ?_ | refine ex_call h8 ?_ | refine (ex_is _ hem2) ?_ | refine (ex_is _ hem) ?_ | refine tT ?_ | refine tF ?_ | refine ex_dec (fun _ => ?_) (fun _ => ?_) | refine t8 ?_ | refine tI ?_ | refine tU ?_ | refine tA ?_ | refine tB ?_ | refine tL ?_ | refine tN ?_ | fail "no step")
      exact TLe.rfl
  cases o with
  | none => exact key 0 false rfl
  | some v => exact key v true rfl
end Go.Proofs.YtoingpafcodojaaGreatDoor

namespace Go.Proofs.YtoingpafcodojaaGreatDoor
open Go.ChangeShapes Go.WideShapes Go.ChangeAt Go.RowKit

def tilesF (P : Program) : Nat → List Field → Nat → Bool
  | o, [], n => Nat.beq o n
  | o, f :: fs, n => Nat.beq f.offset o && tilesF P (o + P.cellsOf f.type) fs n
def okT (P : Program) : Nat → TypeId → Bool
  | 0, _ => false
  | d + 1, t => match P.underlying t with
    | some .bool | some (.int _) | some .string => true
    | some (.slice e) => Nat.blt 0 (P.cellsOf e) && okT P d e
    | some (.array n e) => Nat.beq (n * P.cellsOf e) (P.cellsOf t) && okT P d e
    | some (.struct fs) => tilesF P 0 fs.toList (P.cellsOf t) && fs.toList.all fun f => okT P d f.type
    | _ => false
def DT (P : Program) : Nat → TypeId → List D → Prop
  | 0, _, _ => False
  | d + 1, t, ds => match P.underlying t with
    | some .bool => ∃ b, ds = [.v (.bool b)]
    | some (.int k) => ∃ z, ds = [.v (.int k z)] ∧ (Lit.int k z).wf = true
    | some .string => ∃ s, ds = [.v (.string s)] ∧ s.size ≤ maxLen
    | some (.slice e) => ∃ rows, ds = [.sl (P.cellsOf e) rows] ∧ rows.length ≤ maxLen ∧ ∀ r ∈ rows, DT P d e r
    | some (.array n e) => ∃ ps : List (List D), ps.length = n ∧ ds = ps.flatten ∧ ∀ p ∈ ps, DT P d e p
    | some (.struct fs) => ∃ ps : List (List D), ds = ps.flatten ∧ All2 (fun (f : Field) p => DT P d f.type p) fs.toList ps
    | _ => False
theorem choose_list {α : Type} {Q : Nat → α → Prop} : ∀ {n : Nat}, (∀ i, i < n → ∃ a, Q i a) → ∃ L : List α, L.length = n ∧ ∀ i a, L[i]? = some a → Q i a
  | 0, _ => ⟨[], rfl, fun i a h => by simp at h⟩
  | n + 1, h => by
    obtain ⟨L, h1, h2⟩ := choose_list (n := n) (fun i hi => h i (by omega))
    obtain ⟨a, ha⟩ := h n (by omega)
    refine ⟨L ++ [a], by simp [h1], fun i b hb => ?_⟩
    rw [List.getElem?_append] at hb
    split at hb
    · exact h2 i b hb
    · rename_i hlt
      have hi : i - L.length = 0 := by
        rcases Nat.eq_zero_or_pos (i - L.length) with h | h
        · exact h
        · rw [List.getElem?_eq_none (by simp; omega)] at hb; cases hb
      rw [hi] at hb
      simp at hb
      obtain rfl : i = n := by omega
      rw [← hb]; exact ha
theorem flatten_at {α : Type} {size : Nat} (h0 : 0 < size) : ∀ {rows : List (List α)} (_ : ∀ r ∈ rows, r.length = size) {j : Nat} {d : α}, rows.flatten[j]? = some d → ∃ r, rows[j / size]? = some r ∧ r[j % size]? = some d
  | [], _, j, d, h => by simp at h
  | a :: rows, hr, j, d, h => by
    have ha := hr a (by simp)
    by_cases hj : j < size
    · rw [List.flatten_cons, List.getElem?_append_left (by omega)] at h
      rw [Nat.div_eq_of_lt hj, Nat.mod_eq_of_lt hj]
      exact ⟨a, rfl, h⟩
    · rw [List.flatten_cons, List.getElem?_append_right (by omega), ha] at h
      obtain ⟨r, h1, h2⟩ := flatten_at h0 (fun r hr' => hr r (by simp [hr'])) h
      refine ⟨r, ?_, ?_⟩
      · rw [show j / size = (j - size) / size + 1 by rw [Nat.div_eq_sub_div h0 (by omega)]]
        simpa using h1
      · rw [Nat.mod_eq_sub_mod (by omega)]; exact h2
def Sall (w : World) : Nat → Prop := fun b => b < w.heap.size
theorem cell_lt {w : World} {a : Addr} {u : Value} (h : w.cell? a = some u) : a.block < w.heap.size ∧ a.spot = none := by
  unfold World.cell? at h
  split at h
  · rename_i c t f hc
    refine ⟨(Array.getElem?_eq_some_iff.1 hc).1, ?_⟩
    split at h
    · cases h
    · rename_i hs
      cases hsp : a.spot with
      | none => rfl
      | some k => rw [hsp] at hs; simp at hs
  · cases h
theorem cells_get {w : World} {base : Nat} {a : Addr} {n : Nat} {cs : List Value} (h : w.cells? base a n = some cs) : cs.length = n ∧ ∀ i, i < n → w.cell? (a.add i) = cs[i]? := by
  unfold World.cells? at h
  split at h
  · obtain ⟨h1, h2⟩ := mapM_isSome h
    rw [List.length_range] at h1
    refine ⟨h1.symm, fun i hi => ?_⟩
    obtain ⟨b, hb1, hb2⟩ := h2 i i (by simp [hi])
    rw [hb1, hb2]
  · cases h
section
variable {H : Type} {enc : TypeId × Value → H} {P : Program} {w : World} {base : Nat} {sp : Nat → Bool} {held : Bool}
theorem parts_all {R : D → Value → Prop} {T : Field → List D → Prop} : ∀ (fs : List Field) (o : Nat) (cs : List Value) (n : Nat), cs.length = n → tilesF P o fs n = true → o ≤ n →
    (∀ f ∈ fs, ∃ ds, T f ds ∧ All2 R ds ((cs.drop f.offset).take (P.cellsOf f.type))) → ∃ ps : List (List D), All2 T fs ps ∧ All2 R ps.flatten (cs.drop o)
  | [], o, cs, n, hl, ht, _, _ => by
    have : o = n := Nat.eq_of_beq_eq_true ht
    exact ⟨[], .nil, by rw [List.drop_of_length_le (by omega)]; exact .nil⟩
  | f :: fs, o, cs, n, hl, ht, ho, h => by
    simp only [tilesF, Bool.and_eq_true] at ht
    have ho' : f.offset = o := Nat.eq_of_beq_eq_true ht.1
    obtain ⟨ds, h1, h2⟩ := h f (by simp)
    have hle : o + P.cellsOf f.type ≤ n := by
      have key : ∀ (fs : List Field) (o : Nat), tilesF P o fs n = true → o ≤ n := fun fs => by
        induction fs with
        | nil => intro o h; exact Nat.le_of_eq (Nat.eq_of_beq_eq_true h)
        | cons g gs ih =>
          intro o h
          simp only [tilesF, Bool.and_eq_true] at h
          have := ih _ h.2
          omega
      exact key fs _ ht.2
    obtain ⟨ps, h3, h4⟩ := parts_all fs _ cs n hl ht.2 hle (fun g hg => h g (by simp [hg]))
    refine ⟨ds :: ps, .cons h1 h3, ?_⟩
    rw [List.flatten_cons, ho'] at *
    have := h2.append h4
    rwa [← List.drop_drop, List.take_append_drop] at this
theorem trod_dt : ∀ (d fuel : Nat) (t : TypeId) (cs : List Value) (x : DataW H × List MemPlace), okT P d t = true → DataW.trod enc P w base sp held fuel t cs = some x → ∃ ds, DT P d t ds ∧ All2 (Imm (Sall w) w) ds cs
  | 0, _, _, _, _, h, _ => by cases h
  | d + 1, fuel, t, cs, x, hok, h => by
    unfold okT at hok
    unfold DT
    split at hok
    · rename_i hu
      obtain ⟨b, rfl, _⟩ := DataW.trod_bool hu h
      exact ⟨_, ⟨b, rfl⟩, .cons (Imm.v rfl) .nil⟩
    · rename_i k hu
      obtain ⟨n, rfl, _, hw⟩ := DataW.trod_int hu h
      exact ⟨_, ⟨n, rfl, hw⟩, .cons (Imm.v rfl) .nil⟩
    · rename_i hu
      obtain ⟨s, rfl, _, hs⟩ := DataW.trod_string hu h
      exact ⟨_, ⟨s, rfl, hs⟩, .cons (Imm.v rfl) .nil⟩
    · rename_i e hu
      simp only [Bool.and_eq_true] at hok
      have h0 : 0 < P.cellsOf e := Nat.lt_of_succ_le (Nat.le_of_ble_eq_true hok.1)
      rcases DataW.trod_slice hu h with ⟨rfl, _⟩ | ⟨a, len, cap, elems, rest, n, _, rfl, _, _, hlc, hcm, hel, hel2, _⟩
      · exact ⟨_, ⟨[], rfl, by simp, by simp⟩, .cons Imm.nil .nil⟩
      · have hone : ∀ i, i < len → ∃ ds, DT P d e ds ∧ ∃ cs', w.cells? base (a.add (i * P.cellsOf e)) (P.cellsOf e) = some cs' ∧ All2 (Imm (Sall w) w) ds cs' := fun i hi => by
          have h1 := hel2 i hi
          rw [List.getElem?_eq_getElem (by omega)] at h1
          obtain ⟨cs', h2, h3⟩ := Option.bind_eq_some_iff.1 h1
          obtain ⟨ds, h4, h5⟩ := trod_dt d n e cs' _ hok.2 h3
          exact ⟨ds, h4, cs', h2, h5⟩
        obtain ⟨rows, hr1, hr2⟩ := choose_list hone
        have hrm : ∀ r ∈ rows, ∃ i, i < len ∧ rows[i]? = some r := fun r hr => by
          obtain ⟨i, hi⟩ := List.getElem?_of_mem hr
          exact ⟨i, by have := (List.getElem?_eq_some_iff.1 hi).1; omega, hi⟩
        have hdt : ∀ r ∈ rows, DT P d e r := fun r hr => by
          obtain ⟨i, _, hi⟩ := hrm r hr
          exact (hr2 i r hi).1
        have hrl : ∀ r ∈ rows, r.length = P.cellsOf e := fun r hr => by
          obtain ⟨i, _, hi⟩ := hrm r hr
          obtain ⟨_, cs', h2, h3⟩ := hr2 i r hi
          rw [h3.len, (cells_get h2).1]
        refine ⟨_, ⟨rows, rfl, by omega, hdt⟩, .cons ?_ .nil⟩
        by_cases hz : len = 0
        · subst hz
          obtain rfl := List.eq_nil_of_length_eq_zero hr1
          exact Imm.sl0
        · obtain ⟨r0, _, cs0, h2, _⟩ := hone 0 (by omega)
          have h3 := (cells_get h2).2 0 h0
          rw [Nat.zero_mul] at h3
          have e0 : (a.add 0).add 0 = a := rfl
          rw [e0, List.getElem?_eq_getElem (by rw [(cells_get h2).1]; exact h0)] at h3
          obtain ⟨hb, hs⟩ := cell_lt h3
          obtain ⟨g, f, spot⟩ := a
          simp only at hs hb
          subst hs
          rw [← hr1]
          have hat : ∀ j dd, rows.flatten[j]? = some dd → ∃ u, w.cell? ⟨g, f + j, none⟩ = some u ∧ Imm (Sall w) w dd u := fun j dd hj => by
            obtain ⟨r, e1, e2⟩ := flatten_at h0 hrl hj
            obtain ⟨_, cs', e3, e4⟩ := hr2 _ r e1
            obtain ⟨u, e5, e6⟩ := e4.at_left e2
            refine ⟨u, ?_, e6⟩
            have e7 := (cells_get e3).2 (j % P.cellsOf e) (Nat.mod_lt _ h0)
            rw [Addr.add_lit, Addr.add_lit, e5] at e7
            rw [← e7]
            congr 2
            rw [Nat.add_assoc, Nat.mul_comm, Nat.div_add_mod]
          refine Imm.sl (fun j => (w.cell? ⟨g, f + j, none⟩).getD undef) hb (by omega) hrl (fun j dd hj => ?_) (fun j dd hj => ?_)
          · obtain ⟨u, e1, _⟩ := hat j dd hj
            rw [e1]; rfl
          · obtain ⟨u, e1, e2⟩ := hat j dd hj
            rw [e1]; exact e2
    · rename_i n e hu
      simp only [Bool.and_eq_true] at hok
      have hn : n * P.cellsOf e = P.cellsOf t := Nat.eq_of_beq_eq_true hok.1
      obtain ⟨xs, m, _, _, hl, hx, hall⟩ := DataW.trod_array hu h
      have hone : ∀ i, i < n → ∃ ds, DT P d e ds ∧ All2 (Imm (Sall w) w) ds ((cs.drop (i * P.cellsOf e)).take (P.cellsOf e)) := fun i hi => by
        have h1 := hall i hi
        rw [List.getElem?_eq_getElem (by omega)] at h1
        exact trod_dt d m e _ _ hok.2 h1
      obtain ⟨ps, hp1, hp2⟩ := choose_list hone
      refine ⟨ps.flatten, ⟨ps, hp1, rfl, fun p hp => ?_⟩, ?_⟩
      · obtain ⟨i, hi⟩ := List.getElem?_of_mem hp
        exact (hp2 i p hi).1
      · have key : ∀ (ps : List (List D)) (o : Nat), (∀ i p, ps[i]? = some p → All2 (Imm (Sall w) w) p ((cs.drop ((o + i) * P.cellsOf e)).take (P.cellsOf e))) → (o + ps.length) * P.cellsOf e = cs.length → All2 (Imm (Sall w) w) ps.flatten (cs.drop (o * P.cellsOf e)) := fun ps => by
          induction ps with
          | nil => intro o _ hlen; rw [List.drop_of_length_le (by simp at hlen; omega)]; exact .nil
          | cons p ps ih =>
            intro o hp hlen
            have h1 := hp 0 p rfl
            have h2 := ih (o + 1) (fun i q hq => by have := hp (i + 1) q (by simpa using hq); rwa [show o + 1 + i = o + (i + 1) by omega]) (by rw [← hlen, List.length_cons]; congr 1; omega)
            rw [List.flatten_cons]
            have := h1.append h2
            rwa [Nat.add_zero, Nat.add_mul, Nat.one_mul, ← List.drop_drop, List.take_append_drop] at this
        have := key ps 0 (fun i p hi => by rw [Nat.zero_add]; exact (hp2 i p hi).2) (by rw [Nat.zero_add, hp1, hn, hl])
        simpa using this
    · rename_i fs hu
      simp only [Bool.and_eq_true] at hok
      obtain ⟨xs, m, _, _, hl, hx, hall⟩ := DataW.trod_struct hu h
      obtain ⟨ps, h1, h2⟩ := parts_all (R := Imm (Sall w) w) (T := fun f p => DT P d f.type p) fs.toList 0 cs _ hl hok.1 (Nat.zero_le _) (fun f hf => by
        obtain ⟨i, hi⟩ := List.getElem?_of_mem hf
        have hlt := (List.getElem?_eq_some_iff.1 hi).1
        have h1 := hall i f (by simpa using hi)
        rw [List.getElem?_eq_getElem (by simp at hlt; omega)] at h1
        exact trod_dt d m f.type _ _ (List.all_eq_true.1 hok.2 f hf) h1)
      exact ⟨ps.flatten, ⟨ps, rfl, h1⟩, by simpa using h2⟩
    · cases hok
theorem open_dt {d : Nat} {r : Reach} {b0 : Nat} {t : TypeId} {v : Value} {dd : DataW H} {ps : List MemPlace} (hok : okT P d t = true) (hag : (P.underlying t).map aggD = some false) (hval : Value.okWide P w r b0 t v) (hd : DataW.Trod enc P w base sp held t v dd ps) :
    ∃ x, DT P d t [x] ∧ Imm (Sall w) w x v := by
  obtain ⟨fuel, hf⟩ := hd
  obtain ⟨ds, h1, h2⟩ := trod_dt d fuel t _ _ hok hf
  have hone : v.oneCell' = true := by
    cases d with
    | zero => cases hok
    | succ d =>
      unfold okT at hok
      split at hok
      · rename_i hu; obtain ⟨b, rfl⟩ := okWide_bool hu hval; rfl
      · rename_i hu; obtain ⟨n, rfl⟩ := okWide_int hu hval; rfl
      · rename_i hu; obtain ⟨s, rfl⟩ := okWide_string hu hval; rfl
      · rename_i hu; obtain ⟨a, l, c, rfl⟩ := okWide_slice hu hval; rfl
      · rename_i hu; rw [hu] at hag; cases hag
      · rename_i hu; rw [hu] at hag; cases hag
      · cases hok
  rw [oneCell_cells hone] at h2
  have hl := h2.len
  match ds, h2, hl with
  | [x], h2, _ => exact ⟨x, h1, h2.head⟩
end
end Go.Proofs.YtoingpafcodojaaGreatDoor

namespace Go.Proofs.YtoingpafcodojaaGreatDoor
open Go.ChangeShapes Go.WideShapes Go.ChangeAt Go.RowKit Go.ChangeMaps


theorem iface_open {P : Program} {w : World} {base fuel : Nat} {sp : Nat → Bool} {held : Bool} {enc : TypeId × Value → Unit} {t : TypeId} {l : List Value} {x : DataW Unit × List MemPlace} {ms : Array (String × TypeId)} (hi : P.underlying t = some (.interface ms))
    (hd : DataW.trod enc P w base sp held fuel t l = some x) : l = [.nilIface] ∨ ∃ u v, l = [.iface u v] := by
  cases fuel with
  | zero => cases hd
  | succ f =>
    simp only [DataW.trod, hi] at hd
    split at hd <;> first | exact .inl rfl | exact .inr ⟨_, _, rfl⟩ | (cases hd; done) | (rename_i h1; cases h1; done) | (rename_i h1 h2; cases h1; done) | (rename_i h1 h2 h3; cases h1; done)
theorem errAt_of {W : World} {n : String} {g : Nat} {cs : Array Value} (hg : Tryz.prog.globalNamed n = some g) (hv : W.var? Tryz.prog n = some cs) (h : cs.toList = [.nilIface] ∨ ∃ u v, cs.toList = [.iface u v]) : ErrAt W g ∧ g < W.heap.size := by
  have hc : ∀ ev, cs.toList = [ev] → W.cell? ⟨g, 0, none⟩ = some ev := fun ev he => by
    rw [World.var?_cell hg hv 0]
    have : cs = #[ev] := by cases cs; simpa using he
    rw [this]; rfl
  refine ⟨?_, ?_⟩
  · rcases h with h | ⟨u, v, h⟩
    · exact ⟨_, hc _ h, .inl rfl⟩
    · exact ⟨_, hc _ h, .inr ⟨u, v, rfl⟩⟩
  · unfold World.var? at hv
    rw [hg] at hv
    simp only [Option.bind_some] at hv
    by_cases hl : g < W.heap.size
    · exact hl
    · rw [Array.getElem?_eq_none (by omega)] at hv; cases hv

theorem list_of {α : Type} {f : α → List D} {p : α → Prop} : ∀ {rows : List (List D)}, (∀ r ∈ rows, ∃ x, p x ∧ r = f x) → ∃ l : List α, rows = l.map f ∧ ∀ x ∈ l, p x
  | [], _ => ⟨[], rfl, by simp⟩
  | r :: rows, h => by
    obtain ⟨x, h1, h2⟩ := h r (by simp)
    obtain ⟨l, h3, h4⟩ := list_of (rows := rows) (f := f) (p := p) (fun q hq => h q (List.mem_cons_of_mem _ hq))
    refine ⟨x :: l, by rw [h2, h3]; rfl, fun y hy => ?_⟩
    rcases List.mem_cons.1 hy with rfl | hy
    · exact h1
    · exact h4 y hy
section
variable {P : Program} {d : Nat} {t : TypeId} {ds : List D}
theorem DT_int {k : IntKind} (hu : P.underlying t = some (.int k)) (h : DT P (d + 1) t ds) : ∃ z, ds = [.v (.int k z)] ∧ (Lit.int k z).wf = true := by
  unfold DT at h; rw [hu] at h; exact h
theorem DT_bool (hu : P.underlying t = some .bool) (h : DT P (d + 1) t ds) : ∃ b, ds = [.v (.bool b)] := by
  unfold DT at h; rw [hu] at h; exact h
theorem DT_str (hu : P.underlying t = some .string) (h : DT P (d + 1) t ds) : ∃ s, ds = [.v (.string s)] ∧ s.size ≤ maxLen := by
  unfold DT at h; rw [hu] at h; exact h
theorem DT_slice {e : TypeId} (hu : P.underlying t = some (.slice e)) (h : DT P (d + 1) t ds) : ∃ rows, ds = [.sl (P.cellsOf e) rows] ∧ rows.length ≤ maxLen ∧ ∀ r ∈ rows, DT P d e r := by
  unfold DT at h; rw [hu] at h; exact h
theorem DT_struct {fs : Array Field} (hu : P.underlying t = some (.struct fs)) (h : DT P (d + 1) t ds) : ∃ ps : List (List D), ds = ps.flatten ∧ All2 (fun (f : Field) p => DT P d f.type p) fs.toList ps := by
  unfold DT at h; rw [hu] at h; exact h
theorem DT_array {n : Nat} {e : TypeId} (hu : P.underlying t = some (.array n e)) (h : DT P (d + 1) t ds) : ∃ ps : List (List D), ps.length = n ∧ ds = ps.flatten ∧ ∀ p ∈ ps, DT P d e p := by
  unfold DT at h; rw [hu] at h; exact h
end
theorem cells_of_strs {H : Type} {enc : TypeId × Value → H} {P : Program} {w : World} {base : Nat} {sp : Nat → Bool} {held : Bool} {fuel : Nat} {t e : TypeId} {n : Nat} {cs : List Value} {zs : List (List UInt8)} {p : List MemPlace}
    (ht : P.underlying t = some (.array n e)) (he : P.underlying e = some .string) (hce : P.cellsOf e = 1) (hct : P.cellsOf t = n)
    (h : DataW.trod enc P w base sp held fuel t cs = some (.agg (zs.map fun z => .lit (.string z)), p)) : cs = zs.map fun z => Value.string (bs z) := by
  cases fuel with
  | zero => simp [DataW.trod] at h
  | succ fuel =>
    simp only [DataW.trod, ht, hce, hct, Nat.mul_one] at h
    split at h
    · rename_i hl
      obtain ⟨xs, hm, hx⟩ := Option.map_eq_some_iff.1 h
      have hxs : xs.map (·.1) = zs.map fun z => (DataW.lit (.string z) : DataW H) := by
        have := congrArg Prod.fst hx
        simpa using this
      have hxl : xs.length = n := by simpa using Lib.mapM_length hm
      have hzl : zs.length = n := by
        have := congrArg List.length hxs
        simp at this
        omega
      apply List.ext_getElem?
      intro i
      by_cases hi : i < n
      · obtain ⟨b, hb, hf⟩ := Lib.mapM_at hm i i (by simp [hi])
        obtain ⟨z, hc, rfl, _⟩ := DataW.trod_string he hf
        have h1 : cs[i]? = some (.string z) := by
          have := congrArg (·[0]?) hc
          simpa [List.getElem?_take, List.getElem?_drop] using this
        have h2 : (xs.map (·.1))[i]? = some (DataW.lit (.string z.data.toList) : DataW H) := by simp [hb]
        rw [hxs] at h2
        simp only [List.getElem?_map, Option.map_eq_some_iff, DataW.lit.injEq, Lit.string.injEq] at h2
        obtain ⟨z', hz', rfl⟩ := h2
        simp [h1, hz']
      · rw [List.getElem?_eq_none (by omega), List.getElem?_eq_none (by simp; omega)]
    · cases h
theorem glob_env {W : World} (h : laidMetH Tryz.prog Rows.exprEnvRow.laid W) (hs : W.ShapedOpen Tryz.prog) : ΓL.G (Sall W) W := by
  obtain ⟨m, hm⟩ := Tryz.laysM145.s1_3 W hs
  rw [MakeChecks.laidMetH_plain _ _ _ (by kernel_rfl)] at h
  obtain ⟨ps, h, -⟩ := h
  obtain ⟨g1, t1, c1, f1, p1, q1, -, -, -, -, h, -⟩ := h
  obtain ⟨g2, t2, c2, f2, p2, q2, -, -, -, -, h, -⟩ := h
  obtain ⟨g3, t3, c3, f3, p3, q3, -, -, -, -, h, -⟩ := h
  obtain ⟨g0, t0, c0, f0, p0, q0, -, -, -, -, h, -⟩ := h
  obtain ⟨g4, t4, c4, f4, p4, q4, hg4, ht4, hv4, hd4, h, -⟩ := h
  obtain ⟨g5, t5, c5, f5, p5, q5, hg5, ht5, hv5, hd5, h, -⟩ := h
  obtain ⟨g6, t6, c6, f6, p6, q6, hg6, ht6, hv6, hd6, h, -⟩ := h
  obtain rfl := Option.some.inj ((show Tryz.prog.globalNamed "strconv.ErrRange" = some 3 by kernel_rfl).symm.trans hg4)
  obtain rfl := Option.some.inj ((show Tryz.prog.globalNamed "strconv.ErrSyntax" = some 2 by kernel_rfl).symm.trans hg5)
  obtain rfl := Option.some.inj ((show Tryz.prog.globalNamed "calliper/lex.signs" = some 0 by kernel_rfl).symm.trans hg6)
  obtain rfl := Option.some.inj ((show (Tryz.prog.globals[3]?).map (·.type) = some 193 by kernel_rfl).symm.trans ht4)
  obtain rfl := Option.some.inj ((show (Tryz.prog.globals[2]?).map (·.type) = some 193 by kernel_rfl).symm.trans ht5)
  obtain rfl := Option.some.inj ((show (Tryz.prog.globals[0]?).map (·.type) = some 169 by kernel_rfl).symm.trans ht6)
  have e4 := errAt_of hg4 hv4 (iface_open Tryz.underlying193 hd4)
  have e5 := errAt_of hg5 hv5 (iface_open Tryz.underlying193 hd5)
  have hc := cells_of_strs (zs := signsL) (n := 29) (t := 169) (e := 9) (by kernel_rfl) (by kernel_rfl) (by kernel_rfl) (by kernel_rfl) hd6
  refine ⟨e5, e4, ⟨m, hm, (cell_lt hm).1⟩, fun j l hj => ?_, ?_⟩
  · rw [World.var?_cell hg6 hv6 j]
    have : c6 = ⟨signsL.map fun z => Value.string (bs z)⟩ := by cases c6; simpa using hc
    rw [this]
    rw [show (⟨signsL.map fun z => Value.string (bs z)⟩ : Array Value) = (signsL.map fun z => Value.string (bs z)).toArray from rfl, List.getElem?_toArray, List.getElem?_map, hj]
    rfl
  · have hv := hv6
    unfold World.var? at hv
    rw [hg6] at hv
    simp only [Option.bind_some] at hv
    show 0 < W.heap.size
    by_cases hl : 0 < W.heap.size
    · exact hl
    · rw [Array.getElem?_eq_none (by omega)] at hv; cases hv
theorem dt_vars {d : Nat} {x : D} (h : DT Tryz.prog (d + 3) 22 [x]) : ∃ l : EV, x = .sl 2 (l.map evD) ∧ l.length ≤ 9223372036854775807 ∧ ∀ p ∈ l, p.2 < 18446744073709551616 := by
  obtain ⟨rows, h1, h2, h3⟩ := DT_slice Tryz.underlying22 h
  obtain ⟨l, h4, h5⟩ := list_of (f := evD) (p := fun v : BV => v.2 < 18446744073709551616) (fun r hr => by
    obtain ⟨ps, e1, hp⟩ := DT_struct Tryz.underlying112 (h3 r hr)
    obtain ⟨p0, ps, rfl, q0, hp⟩ := hp.cons_left
    obtain ⟨p1, ps, rfl, q1, hp⟩ := hp.cons_left
    obtain rfl := hp.nil_left
    obtain ⟨s, rfl, -⟩ := DT_str Tryz.underlying9 q0
    obtain ⟨z3, rfl, w3⟩ := DT_int Tryz.underlying50 q1
    have h1 := wf_u64 w3
    obtain ⟨n, rfl⟩ := Int.eq_ofNat_of_zero_le h1.1
    refine ⟨⟨s.data.toList, n⟩, by have := h1.2; show n < _; omega, ?_⟩
    rw [e1]
    show _ = [ds (bs s.data.toList), du n]
    rw [show bs s.data.toList = s by simp [bs]]
    rfl)
  have e : Tryz.prog.cellsOf 112 = 2 := by kernel_rfl
  rw [e, h4] at h1
  cases h1
  rw [h4, List.length_map] at h2
  exact ⟨l, rfl, h2, h5⟩
theorem bs_list (s : ByteArray) : bs s.data.toList = s := by simp [bs]
end Go.Proofs.YtoingpafcodojaaGreatDoor

namespace Go.Proofs.YtoingpafcodojaaGreatDoor
open Go.ChangeShapes Go.WideShapes Go.ChangeAt Go.RowKit Go.ChangeMaps

theorem exprEnv_a (x : D) (hx : DT Tryz.prog 8 22 [x]) (s : ByteArray) (hs : s.size ≤ 140737488351232) (n : Int) (hn : 0 ≤ n ∧ n ≤ 18446744073709551615) : CallsA Tryz.prog ΓL 6 [c1 x, c1 (ds s), c1 (.v (.int .u64 n))] (.o (c1 (db true))) := by
  obtain ⟨l, rfl, h1, -⟩ := dt_vars hx
  obtain ⟨k, rfl⟩ := Int.eq_ofNat_of_zero_le hn.1
  have hsz : s.data.toList.length ≤ 140737488351232 := by
    rw [Array.length_toList]
    exact hs
  have := exprEnv_of wakes10_c l h1 s.data.toList hsz k (by have := hn.2; omega)
  rw [bs_list] at this
  exact this
namespace exprEnv
set_option maxRecDepth 100000 in
theorem lifted (os : Os) (started : os.Started) (H : Type) (enc : TypeId × Value → H) :
    ReturnsInHanded {} Tryz.checked os 6 .any (fun w args => (Rows.exprEnvSpec.pre enc Tryz.prog Tryz.f6 Rows.exprEnvRow.domain false w args ∧ laidMetH Tryz.prog Rows.exprEnvRow.laid w) ∧ sizedMet enc Tryz.prog Tryz.f6 (OpenSpec.ofChange Rows.exprEnvSpec) false w args) (Rows.exprEnvSpec.post enc Tryz.prog Tryz.f6 false true false false) := by
  show ReturnsInHanded {} Tryz.checked os 6 .any ((OpenSpec.ofChange Rows.exprEnvSpec).preRow enc Tryz.prog Tryz.f6 Rows.exprEnvRow.domain false Rows.exprEnvRow.laid) (((OpenSpec.ofChange Rows.exprEnvSpec).at fun _ _ _ => 0).post enc Tryz.prog Tryz.f6 false true false false)
  refine returnsInHanded_of_row (C := Tryz.checked) own started (by kernel_rfl) Tryz.func6
    (ChangeSpec.witness_shaped (enc := enc) (C := Tryz.checked) (os := os) (X := fun w _ => laidMetH Tryz.prog Rows.exprEnvRow.laid w) false (World.laidAll Tryz.prog os Rows.exprEnvRow.laid) #[.slice none 0 0, .string ByteArray.empty, .int .u64 0] 8 (World.laidAll_os _ _ _) (World.shaped_of_ZipB (by kernel_rfl) (by kernel_rfl)) (by kernel_rfl) (by kernel_rfl) (by kernel_rfl)
      (by rw [MakeChecks.laidMetH_plain _ _ _ (by kernel_rfl)]; exact laidMet_laidAll _ (by kernel_rfl) (by kernel_rfl))) ?_
  intro W base args ds gs before hval0 hW _ _ hsz0 hLaid hShaped _
  have hsz : (DataW.weightsEach Tryz.prog (Tryz.f6.params.toList ++ Rows.exprEnvSpec.plain.varTypes Tryz.prog) (ds ++ gs)).all (· ≤ reachBytes) = true := hsz0
  have hval : ∀ (j : Nat) t v, Tryz.f6.params[j]? = some t → args[j]? = some v → Value.okWide Tryz.prog W .any base t v := hval0
  clear hsz0 hval0
  have hW' := hW
  obtain ⟨p, q, hA0, hV, rfl, hfz, hnd⟩ := hW
  have hA : DataW.TrodAll enc Tryz.prog W 0 (fun _ => true) true Tryz.f6.params.toList args.toList ds p := hA0
  clear hA0
  rw [Tryz.params6] at hA hval hsz
  obtain ⟨v0, vs0, d0, ds0, p0, q0, hargs, rfl, rfl, h0, r0⟩ := trodAll_cons hA
  obtain ⟨v1, vs1, d1, ds1, p1, q1, rfl, rfl, rfl, h1, r1⟩ := trodAll_cons r0
  obtain ⟨v2, vs2, d2, ds2, p2, q2, rfl, rfl, rfl, h2, r2⟩ := trodAll_cons r1
  obtain ⟨rfl, rfl, rfl⟩ := trodAll_nil r2
  obtain rfl : args = #[v0, v1, v2] := by cases args; simp_all
  obtain ⟨rfl, rfl⟩ := trodVars_none hV
  obtain ⟨l, l_, m0⟩ := open_dt (d := 8) (by kernel_rfl) (by kernel_rfl) (hval 0 22 v0 rfl rfl) h0
  obtain ⟨s, rfl, rfl, rfl, hm1⟩ := open_string Tryz.underlying9 (hval 1 9 v1 rfl rfl) h1
  have w_s : s.size ≤ 140737488351232 := by simpa [reachBytes] using sized_string hsz (j := 1) rfl rfl
  obtain ⟨n, rfl, rfl, rfl, hw2⟩ := open_int Tryz.underlying50 (hval 2 50 v2 rfl rfl) h2
  have w_n := wf_u64 hw2
  refine ((exprEnv_a l l_ s w_s n w_n).2 (Sall W) W [v0, .string s, .int .u64 n] (fun _ h => h) (glob_env hLaid hShaped) (.cons m0 (.cons (Imm.v rfl) (.cons (Imm.v rfl) .nil)))).mono fun e W' ⟨xr, _, he, hb, _, _, _, hv⟩ => ?_
  obtain rfl := V_v hv
  subst he
  exact ⟨_, rfl, law_post (ds := [_, _, _]) laidOut hW' rfl (by kernel_rfl) rfl Tryz.underlying4 rfl rfl rfl hb⟩

theorem proved : Rows.ExprEnvSaid :=
  OpenClaim.holds_of_wide 6 Tryz.f6 rfl rfl rfl rfl rfl rfl rfl ⟨rfl, rfl, rfl, rfl, rfl⟩ rfl rfl rfl rfl rfl (by kernel_rfl) Tryz.func6 (by kernel_rfl)
    (of_decide_eq_true (by kernel_rfl)) (by unfold Func.isWrapper; first | (rw [if_pos (by decide +kernel)]; kernel_rfl) | (rw [if_neg (by decide +kernel)]; exact ⟨rfl, rfl⟩))
    (fun os started H enc _ => lifted os started H enc)
theorem card : Rows.ExprEnvCardSaid :=
  Claim7.holds_tied_plain_at .later [] [.data, .data, .data, .data, .sentinel, .sentinel, .data, .pinned] true (true, "17becb4bdc0081d553c93ea4c651e4f2393ed5a7f930a22c0fd518b66bd7328d") true proved (fun _ h => by cases h) (by kernel_rfl) (fun _ h => by cases h) exprEnv_row_tie rfl ⟨rfl, rfl⟩ (by kernel_rfl) rfl
    (fun f fn hf hfn => by
      obtain rfl : f = 6 := Option.some.inj ((show Tryz.prog.funcNamed "calliper/calliperlaw10.ExprEnv" = some 6 by kernel_rfl).symm.trans hf) |>.symm
      obtain rfl : fn = Tryz.f6 := (Option.some.inj (Tryz.func6.symm.trans hfn)).symm
      exact ⟨by kernel_rfl, fun j t ht => by
        rw [Tryz.params6] at ht
        have hm : t ∈ [22, 9, 50] := by simpa using Array.mem_of_getElem? ht
        have hall : ([22, 9, 50].all fun u => !Tryz.prog.wantsStandIn u) = true := by kernel_rfl
        exact (show Tryz.prog.wantsStandIn t = false by simpa using List.all_eq_true.1 hall t hm)⟩)
    (by kernel_rfl)
end exprEnv
end Go.Proofs.YtoingpafcodojaaGreatDoor
