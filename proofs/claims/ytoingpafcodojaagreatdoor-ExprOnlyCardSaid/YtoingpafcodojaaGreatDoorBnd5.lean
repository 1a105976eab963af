/- ExprOnly: other names, in any order, and earlier numbers change no expression's value. Condition: the listed package variables hold what the program's text lays. -/
import Derived.WalkKit
import Derived.Laws.StructEq
import Derived.ChangeKeysEq
import Derived.Lib.LaidTab
import Derived.Test.YtoingpafcodojaaGreatDoorRows
import Derived.Lay
import Derived.MakeChecks
import Derived.Test.YtoingpafcodojaaGreatDoorCards
import Derived.Test.YtoingpafcodojaaGreatDoorTie
import Derived.SevenTiedAt
import Derived.Deep.DeepHandedRow
import Derived.Test.YtoingpafcodojaaGreatDoorBnd1
import Derived.Test.YtoingpafcodojaaGreatDoorBnd2
import Derived.Test.YtoingpafcodojaaGreatDoorBnd3
import Derived.Test.YtoingpafcodojaaGreatDoorBnd4
set_option linter.unusedVariables false
set_option linter.unusedSimpArgs false
set_option maxRecDepth 100000
namespace Go.Proofs.YtoingpafcodojaaGreatDoor
open Go.RowKit

section
variable {L : List TokP} {m : Nat}
def Mv {α : Type} (x : PM α) : Prop := ∀ s v s', x s = .ok v s' → s.xs = s'.xs ∧ s.ts = s'.ts
theorem Mv.and {α β : Type} {x : PM α} {f : α → PM β} (hx : Mv x) (hf : ∀ v, Mv (f v)) : Mv (x >>= f) := fun s v s' h => by
  obtain ⟨u, s1, h1, h2⟩ := mo_inv h
  exact ⟨(hx _ _ _ h1).1.trans (hf u _ _ _ h2).1, (hx _ _ _ h1).2.trans (hf u _ _ _ h2).2⟩
theorem Mv.at {α : Type} {p : Nat → Bool} {x y : PM α} (hx : Mv x) (hy : Mv y) : Mv (atM p x y) := fun s v s' h => by
  unfold atM at h
  split at h
  · exact hx _ _ _ h
  · exact hy _ _ _ h
theorem Mv.pure {α : Type} (v : α) : Mv (pure v) := fun s u s' h => by cases h; exact ⟨rfl, rfl⟩
theorem Mv.step : Mv stepM := fun s u s' h => by cases h; exact ⟨rfl, rfl⟩
theorem Mv.take (t : List UInt8) : Mv (takeM L t) := fun s v s' h => by unfold takeM at h; split at h <;> cases h; exact ⟨rfl, rfl⟩
theorem Mv.name : Mv (nameM L) := fun s v s' h => by unfold nameM at h; split at h <;> cases h; exact ⟨rfl, rfl⟩
theorem Mv.num : Mv (numberM L) := fun s v s' h => by unfold numberM at h; split at h <;> cases h; exact ⟨rfl, rfl⟩
theorem Mv.roomIf (p : Nat → Bool) (n : Nat) : Mv (fun s => if p s.i = true then roomM n s else .ok () s) := fun s u s' h => by
  dsimp only at h
  split at h
  · unfold roomM at h; split at h <;> cases h; exact ⟨rfl, rfl⟩
  · cases h; exact ⟨rfl, rfl⟩
theorem mvs_subs : ∀ n l, Mv (subsN L n l)
  | 0, l => Mv.pure _
  | n + 1, l => by
    rw [subsN]
    exact (Mv.roomIf (namedV L ·) _).and fun _ => Mv.name.and fun w => (Mv.take _).and fun _ => Mv.num.and fun b => (Mv.take _).and fun _ => Mv.at (mvs_subs n _) (Mv.pure _)
theorem mvs_pack : Mv (packM L) := (Mv.take _).and fun _ => fun s v s' h => by
  split at h
  · cases h
  · exact (Mv.step.and fun _ => (Mv.take _).and fun _ => (show Mv (fun s => subsN L (L.length - s.i + 1) [] s) from fun s v s' hx => mvs_subs _ _ s v s' hx).and fun l => (Mv.take _).and fun _ => Mv.pure _) _ _ _ h
theorem mv_pack {i i1 : Nat} {xs xs1 : List EX} {ts ts1 : List TY} {v : IT} (h : packM L ⟨i, xs, ts⟩ = .ok v ⟨i1, xs1, ts1⟩) : xs = xs1 ∧ ts = ts1 := mvs_pack _ _ _ h
theorem mvs_const : Mv (constM L) := (Mv.take _).and fun _ => Mv.name.and fun w => (Mv.take _).and fun _ => Mv.num.and fun n => (Mv.take _).and fun _ => Mv.pure _
theorem mv_const {i i1 : Nat} {xs xs1 : List EX} {ts ts1 : List TY} {v : CO} (h : constM L ⟨i, xs, ts⟩ = .ok v ⟨i1, xs1, ts1⟩) : xs = xs1 ∧ ts = ts1 := mvs_const _ _ _ h
set_option maxHeartbeats 16000000 in
theorem record_c (hL : TokOk L) (hn : L.length ≤ 100000) (hm : m = 32) (s : PS) {c : Nat} (hs : SOk L c s) : C2 L m 41 [] (recordM L) (fun v => .o (gD (rcD v))) s := by
  refine C2.of fun T hT => ?_
  unfold recordM at hT
  obtain ⟨i, xs, ts⟩ := s
  refine fn_ruleP (C := ⟨Tryz.prog, layF, Tryz.f41.ntmps, ΓL, 6, [], [10]⟩) layF_ok mixed Tryz.func41 rfl (by kernel_rfl) rfl rfl rfl SLe.rfl ?_
  repeat' (first | refine tT ?_ | refine tF ?_ | refine ex_dec (fun _ => ?_) (fun _ => ?_) | refine t8 ?_ | refine tI ?_ | refine tU ?_ | refine tA ?_ | refine tB ?_ | refine tL ?_ | refine tN ?_ | fail "no step")
  have hcon := take_c (m := m) ⟨i, xs, ts⟩ hs.i (by omega) w_struct
  rcases hx47 : (takeM L w_struct) ⟨i, xs, ts⟩ with ⟨_, s9⟩ | ⟨i9, e9⟩
  rotate_left
  · obtain rfl := (and_err hx47).symm.trans hT
    refine sC (CallsM.ren (hcon.err hx47) [0, 1] 7 rfl rfl rfl rfl) ?_
    first | exact ⟨⟨_, rfl, rfl⟩, rfl, rfl⟩ | exact ⟨by kernel_rfl, ⟨_, rfl, rfl⟩, rfl, rfl⟩
  replace hT := (and_ok hx47).symm.trans hT
  refine sC (CallsM.ren (hcon.ok hx47) [0, 1] 7 rfl rfl rfl rfl) ?_
  clear hcon
  have hs1 := (Up.ok (Up.take hL w_struct 0) hs hx47).1
  obtain rfl := mv_take1 hx47
  repeat' (first | refine tT ?_ | refine tF ?_ | refine ex_dec (fun _ => ?_) (fun _ => ?_) | refine t8 ?_ | refine tI ?_ | refine tU ?_ | refine tA ?_ | refine tB ?_ | refine tL ?_ | refine tN ?_ | fail "no step")
  have hcon := name_c (m := m) ⟨i + 1, xs, ts⟩ hs1.i (by omega)
  rcases hx49 : (nameM L) ⟨i + 1, xs, ts⟩ with ⟨w, s9⟩ | ⟨i9, e9⟩
  rotate_left
  · obtain rfl := (and_err hx49).symm.trans hT
    refine sC (CallsM.ren (hcon.err hx49) [0, 1] 7 rfl rfl rfl rfl) ?_
    first | exact ⟨⟨_, rfl, rfl⟩, rfl, rfl⟩ | exact ⟨by kernel_rfl, ⟨_, rfl, rfl⟩, rfl, rfl⟩
  replace hT := (and_ok hx49).symm.trans hT
  refine sC (CallsM.ren (hcon.ok hx49) [0, 1] 7 rfl rfl rfl rfl) ?_
  clear hcon
  have hs2 := (Up.ok (Up.name hL 0) hs1 hx49).1
  obtain rfl := mv_name1 hx49
  repeat' (first | refine tT ?_ | refine tF ?_ | refine ex_dec (fun _ => ?_) (fun _ => ?_) | refine t8 ?_ | refine tI ?_ | refine tU ?_ | refine tA ?_ | refine tB ?_ | refine tL ?_ | refine tN ?_ | fail "no step")
  refine ex_join (X := Nat × List (List UInt8)) (fun ⟨i, ps⟩ => ⟨[(0, .o P0), (2, .o (.c (.ptr 6 0))), (3, .o (.c (.ptr 7 0)))], [(0, Qz L m i), (1, Fz 2 3 4 5), (4, Xz xs), (5, Tz ts), (6, .obj [.d (ds ⟨#[]⟩), .d dnil, .d dnil]), (7, .obj [.d (ds (bs w)), .row 9, .d dnil]), (9, .row 1 9 (ps.map fun p => [ds (bs p)]))], 10⟩)
    (fun ⟨i, ps⟩ => SOk L c ⟨i, xs, ts⟩ ∧ (takeM L t_lcur >>= fun _ => (fun s => itemsN L (L.length - s.i + 1) [] s) >>= fun is => takeM L t_rcur >>= fun _ => pure (⟨w, ps, is⟩ : RC)) ⟨i, xs, ts⟩ = T) ?_ ?_
  · rcases hv : isV L (i + 1 + 1) t_lpar with _ | _
    · replace hT := pureT (atnB hT hv)
      refine sC (CallsM.ren ((may_no (i + 1 + 1) hs2.lt _ hv)) [0, 1] 8 rfl rfl rfl rfl) ?_
      repeat' (first | refine tT ?_ | refine tF ?_ | refine ex_dec (fun _ => ?_) (fun _ => ?_) | refine t8 ?_ | refine tI ?_ | refine tU ?_ | refine tA ?_ | refine tB ?_ | refine tL ?_ | refine tN ?_ | fail "no step")
      exact ex_meet (i + 1 + 1, []) ⟨hs2.less (by omega), hT⟩ (SLe.trans (SLe.of ⟨⟨rfl, rfl, rfl, trivial⟩, ⟨rfl, rfl, rfl, rfl, rfl, rfl, rfl, trivial⟩⟩) (SLe.ownCell 7 1 9 1 9 rfl rfl rfl rfl rfl rfl))
    · replace hT := asc (stp1 (asc (atyB hT hv)))
      have hs3 := stpS hL hs2 (isV_k hv)
      have hi3 := hs3.lt
      refine sC (CallsM.ren ((may_yes (i + 1 + 1) hs2.lt (by omega) _ hv)) [0, 1] 8 rfl rfl rfl rfl) ?_
      repeat' (first | refine tT ?_ | refine tF ?_ | refine ex_dec (fun _ => ?_) (fun _ => ?_) | refine t8 ?_ | refine tI ?_ | refine tU ?_ | refine tA ?_ | refine tB ?_ | refine tL ?_ | refine tN ?_ | fail "no step")
      have hcon := name_c (m := m) ⟨i + 1 + 1 + 1, xs, ts⟩ hs3.i (by omega)
      rcases hx63 : (nameM L) ⟨i + 1 + 1 + 1, xs, ts⟩ with ⟨p, s9⟩ | ⟨i9, e9⟩
      rotate_left
      · obtain rfl := (and_err hx63).symm.trans hT
        refine sC (CallsM.ren (hcon.err hx63) [0, 1] 8 rfl rfl rfl rfl) ?_
        first | exact ⟨⟨_, rfl, rfl⟩, rfl, rfl⟩ | exact ⟨by kernel_rfl, ⟨_, rfl, rfl⟩, rfl, rfl⟩
      replace hT := (and_ok hx63).symm.trans hT
      refine sC (CallsM.ren (hcon.ok hx63) [0, 1] 8 rfl rfl rfl rfl) ?_
      clear hcon
      have hs4 := (Up.ok (Up.name hL 0) hs3 hx63).1
      obtain rfl := mv_name1 hx63
      have hi4 := hs4.lt
      repeat' (first | refine tT ?_ | refine tF ?_ | refine ex_dec (fun _ => ?_) (fun _ => ?_) | refine t8 ?_ | refine tI ?_ | refine tU ?_ | refine tA ?_ | refine tB ?_ | refine tL ?_ | refine tN ?_ | fail "no step")
      refine ex_app (0) (1) 1000 (by first | rfl | (simp; done) | (simp; omega)) (by first | rfl | (simp; done) | (simp; omega)) rfl (by omega) ?_
      refine ex_is (List.map (fun p : List UInt8 => [ds (bs p)]) [p]) (rfl) ?_
      repeat' (first | refine tT ?_ | refine tF ?_ | refine ex_dec (fun _ => ?_) (fun _ => ?_) | refine t8 ?_ | refine tI ?_ | refine tU ?_ | refine tA ?_ | refine tB ?_ | refine tL ?_ | refine tN ?_ | fail "no step")
      replace hT := asc hT
      replace hT : (parsN L (L.length - (i + 1 + 1 + 1 + 1) + 1) [p] >>= fun l => (takeM L t_rpar >>= fun _ => pure l) >>= fun ps => takeM L t_lcur >>= fun _ => (fun s => itemsN L (L.length - s.i + 1) [] s) >>= fun is => takeM L t_rcur >>= fun _ => pure (⟨w, ps, is⟩ : RC)) ⟨i + 1 + 1 + 1 + 1, xs, ts⟩ = T := hT
      refine ex_loop (X := Nat × List (List UInt8) × Nat) (fun ⟨i, ps, _⟩ => ⟨[(0, .o P0), (2, .o (.c (.ptr 6 0))), (3, .o (.c (.ptr 7 0)))], [(0, Qz L m i), (1, Fz 2 3 4 5), (4, Xz xs), (5, Tz ts), (6, .obj [.d (ds ⟨#[]⟩), .d dnil, .d dnil]), (7, .obj [.d (ds (bs w)), .row 9, .d dnil]), (9, .row 1 9 (ps.map fun p => [ds (bs p)]))], 10⟩) (fun y => L.length - y.1)
        (fun ⟨i, l, n⟩ => SOk L c ⟨i, xs, ts⟩ ∧ L.length < i + n ∧ l.length ≤ i ∧ (parsN L n l >>= fun l => (takeM L t_rpar >>= fun _ => pure l) >>= fun ps => takeM L t_lcur >>= fun _ => (fun s => itemsN L (L.length - s.i + 1) [] s) >>= fun is => takeM L t_rcur >>= fun _ => pure (⟨w, ps, is⟩ : RC)) ⟨i, xs, ts⟩ = T) (i + 1 + 1 + 1 + 1, [p], L.length - (i + 1 + 1 + 1 + 1) + 1) ⟨hs4.less (by omega), by omega, by simp, hT⟩ (SLe.of ⟨⟨rfl, rfl, rfl, trivial⟩, ⟨rfl, rfl, rfl, rfl, rfl, rfl, rfl, trivial⟩⟩) ?_
      clear hT hs4 hs3 hs2 hs1 hs hi3 hi4
      rintro ⟨i, l, n⟩ ⟨hs, hf, hll, hT⟩
      have hi := hs.lt
      cases n with
      | zero => omega
      | succ n =>
        rw [parsN] at hT
        rcases hv : isV L i t_comma with _ | _
        · replace hT := atnB hT hv
          replace hT := pureT hT
          replace hT := asc hT
          refine sC (CallsM.ren ((may_no i hi _ hv)) [0, 1] 10 rfl rfl rfl rfl) ?_
          repeat' (first | refine tT ?_ | refine tF ?_ | refine ex_dec (fun _ => ?_) (fun _ => ?_) | refine t8 ?_ | refine tI ?_ | refine tU ?_ | refine tA ?_ | refine tB ?_ | refine tL ?_ | refine tN ?_ | fail "no step")
          have hcon := take_c (m := m) ⟨i, xs, ts⟩ hs.i (by omega) t_rpar
          rcases hx86 : (takeM L t_rpar) ⟨i, xs, ts⟩ with ⟨_, s9⟩ | ⟨i9, e9⟩
          rotate_left
          · obtain rfl := (and_err hx86).symm.trans hT
            refine sC (CallsM.ren (hcon.err hx86) [0, 1] 10 rfl rfl rfl rfl) ?_
            first | exact ⟨⟨_, rfl, rfl⟩, rfl, rfl⟩ | exact ⟨by kernel_rfl, ⟨_, rfl, rfl⟩, rfl, rfl⟩
          replace hT := (and_ok hx86).symm.trans hT
          refine sC (CallsM.ren (hcon.ok hx86) [0, 1] 10 rfl rfl rfl rfl) ?_
          clear hcon
          have hs1 := (Up.ok (Up.take hL t_rpar 0) hs hx86).1
          obtain rfl := mv_take1 hx86
          replace hT := pureT hT
          repeat' (first | refine tT ?_ | refine tF ?_ | refine ex_dec (fun _ => ?_) (fun _ => ?_) | refine t8 ?_ | refine tI ?_ | refine tU ?_ | refine tA ?_ | refine tB ?_ | refine tL ?_ | refine tN ?_ | fail "no step")
          exact ex_meet (i + 1, l) ⟨hs1.less (by omega), hT⟩ (SLe.of ⟨⟨rfl, rfl, rfl, trivial⟩, ⟨rfl, rfl, rfl, rfl, rfl, rfl, rfl, trivial⟩⟩)
        · replace hT := asc (stp1 (asc (atyB hT hv)))
          have hs1 := stpS hL hs (isV_k hv)
          have hnm := named_c (m := m) (i + 1) hs1.lt
          refine sC (CallsM.ren ((may_yes i hi (by omega) _ hv)) [0, 1] 10 rfl rfl rfl rfl) ?_
          repeat' (first | refine tT ?_ | refine tF ?_ | refine ex_dec (fun _ => ?_) (fun _ => ?_) | refine t8 ?_ | refine tI ?_ | refine tU ?_ | refine tA ?_ | refine tB ?_ | refine tL ?_ | refine tN ?_ | fail "no step")
          rcases hb : namedV L (i + 1) with _ | _ <;> rw [hb] at hnm
          · replace hT := asc (rmF hT hb)
            refine sC (CallsM.ren (hnm) [0, 1] 10 rfl rfl rfl rfl) ?_
            repeat' (first | refine tT ?_ | refine tF ?_ | refine ex_dec (fun _ => ?_) (fun _ => ?_) | refine t8 ?_ | refine tI ?_ | refine tU ?_ | refine tA ?_ | refine tB ?_ | refine tL ?_ | refine tN ?_ | fail "no step")
            have hcon := name_c (m := m) ⟨i + 1, xs, ts⟩ hs1.i (by omega)
            rcases hx99 : (nameM L) ⟨i + 1, xs, ts⟩ with ⟨p, s9⟩ | ⟨i9, e9⟩
            rotate_left
            · obtain rfl := (and_err hx99).symm.trans hT
              refine sC (CallsM.ren (hcon.err hx99) [0, 1] 10 rfl rfl rfl rfl) ?_
              first | exact ⟨⟨_, rfl, rfl⟩, rfl, rfl⟩ | exact ⟨by kernel_rfl, ⟨_, rfl, rfl⟩, rfl, rfl⟩
            replace hT := (and_ok hx99).symm.trans hT
            refine sC (CallsM.ren (hcon.ok hx99) [0, 1] 10 rfl rfl rfl rfl) ?_
            clear hcon
            have hs2 := (Up.ok (Up.name hL 0) hs1 hx99).1
            obtain rfl := mv_name1 hx99
            have hi2 := hs2.lt
            repeat' (first | refine tT ?_ | refine tF ?_ | refine ex_dec (fun _ => ?_) (fun _ => ?_) | refine t8 ?_ | refine tI ?_ | refine tU ?_ | refine tA ?_ | refine tB ?_ | refine tL ?_ | refine tN ?_ | fail "no step")
            refine ex_app (l.length) (1) 1000 (by first | rfl | (simp; done) | (simp; omega)) (by first | rfl | (simp; done) | (simp; omega)) rfl (by omega) ?_
            refine ex_is (List.map (fun p : List UInt8 => [ds (bs p)]) (l ++ [p])) (by rw [List.map_append]; rfl) ?_
            repeat' (first | refine tT ?_ | refine tF ?_ | refine ex_dec (fun _ => ?_) (fun _ => ?_) | refine t8 ?_ | refine tI ?_ | refine tU ?_ | refine tA ?_ | refine tB ?_ | refine tL ?_ | refine tN ?_ | fail "no step")
            exact ex_round (i + 1 + 1, l ++ [p], n) ⟨hs2.less (by omega), by omega, by simp <;> omega, hT⟩ (by show L.length - (i + 1 + 1) < L.length - i; omega) (SLe.ren [(0, 0), (1, 1), (2, 2), (3, 3), (4, 4), (5, 5), (6, 6), (7, 7), (11, 9)] ⟨⟨rfl, rfl⟩, ⟨rfl, rfl⟩, ⟨rfl, rfl⟩, trivial⟩ ⟨⟨rfl, rfl⟩, ⟨rfl, rfl⟩, ⟨rfl, rfl⟩, ⟨rfl, rfl⟩, ⟨rfl, rfl⟩, ⟨rfl, rfl⟩, ⟨rfl, rfl⟩, trivial⟩ rfl)
          · replace hT := rmT hT hb
            refine sC (CallsM.ren (hnm) [0, 1] 10 rfl rfl rfl rfl) ?_
            repeat' (first | refine ex_is l.length (by simp) ?_ | refine tT ?_ | refine tF ?_ | refine ex_dec (fun _ => ?_) (fun _ => ?_) | refine t8 ?_ | refine tI ?_ | refine tU ?_ | refine tA ?_ | refine tB ?_ | refine tL ?_ | refine tN ?_ | fail "no step")
            have hcon := room_c (m := m) ⟨i + 1, xs, ts⟩ hs1.lt l.length (by omega)
            rcases hr : (roomM l.length) ⟨i + 1, xs, ts⟩ with ⟨_, s9⟩ | ⟨i9, e9⟩
            rotate_left
            · obtain rfl := (and_err hr).symm.trans hT
              refine sC (CallsM.ren (hcon.err hr) [0, 1] 10 rfl rfl rfl rfl) ?_
              first | exact ⟨⟨_, rfl, rfl⟩, rfl, rfl⟩ | exact ⟨by kernel_rfl, ⟨_, rfl, rfl⟩, rfl, rfl⟩
            replace hT := (and_ok hr).symm.trans hT
            refine sC (CallsM.ren (hcon.ok hr) [0, 1] 10 rfl rfl rfl rfl) ?_
            clear hcon
            obtain rfl := mv_room1 hr
            replace hT := asc hT
            repeat' (first | refine tT ?_ | refine tF ?_ | refine ex_dec (fun _ => ?_) (fun _ => ?_) | refine t8 ?_ | refine tI ?_ | refine tU ?_ | refine tA ?_ | refine tB ?_ | refine tL ?_ | refine tN ?_ | fail "no step")
            have hcon := name_c (m := m) ⟨i + 1, xs, ts⟩ hs1.i (by omega)
            rcases hx112 : (nameM L) ⟨i + 1, xs, ts⟩ with ⟨p, s9⟩ | ⟨i9, e9⟩
            rotate_left
            · obtain rfl := (and_err hx112).symm.trans hT
              refine sC (CallsM.ren (hcon.err hx112) [0, 1] 10 rfl rfl rfl rfl) ?_
              first | exact ⟨⟨_, rfl, rfl⟩, rfl, rfl⟩ | exact ⟨by kernel_rfl, ⟨_, rfl, rfl⟩, rfl, rfl⟩
            replace hT := (and_ok hx112).symm.trans hT
            refine sC (CallsM.ren (hcon.ok hx112) [0, 1] 10 rfl rfl rfl rfl) ?_
            clear hcon
            have hs2 := (Up.ok (Up.name hL 0) hs1 hx112).1
            obtain rfl := mv_name1 hx112
            have hi2 := hs2.lt
            repeat' (first | refine tT ?_ | refine tF ?_ | refine ex_dec (fun _ => ?_) (fun _ => ?_) | refine t8 ?_ | refine tI ?_ | refine tU ?_ | refine tA ?_ | refine tB ?_ | refine tL ?_ | refine tN ?_ | fail "no step")
            refine ex_app (l.length) (1) 1000 (by first | rfl | (simp; done) | (simp; omega)) (by first | rfl | (simp; done) | (simp; omega)) rfl (by omega) ?_
            refine ex_is (List.map (fun p : List UInt8 => [ds (bs p)]) (l ++ [p])) (by rw [List.map_append]; rfl) ?_
            repeat' (first | refine tT ?_ | refine tF ?_ | refine ex_dec (fun _ => ?_) (fun _ => ?_) | refine t8 ?_ | refine tI ?_ | refine tU ?_ | refine tA ?_ | refine tB ?_ | refine tL ?_ | refine tN ?_ | fail "no step")
            exact ex_round (i + 1 + 1, l ++ [p], n) ⟨hs2.less (by omega), by omega, by simp <;> omega, hT⟩ (by show L.length - (i + 1 + 1) < L.length - i; omega) (SLe.ren [(0, 0), (1, 1), (2, 2), (3, 3), (4, 4), (5, 5), (6, 6), (7, 7), (11, 9)] ⟨⟨rfl, rfl⟩, ⟨rfl, rfl⟩, ⟨rfl, rfl⟩, trivial⟩ ⟨⟨rfl, rfl⟩, ⟨rfl, rfl⟩, ⟨rfl, rfl⟩, ⟨rfl, rfl⟩, ⟨rfl, rfl⟩, ⟨rfl, rfl⟩, ⟨rfl, rfl⟩, trivial⟩ rfl)
  · clear hT hs2 hs1 hs
    rintro ⟨i, ps⟩ ⟨hs, hT⟩
    repeat' (first | refine tT ?_ | refine tF ?_ | refine ex_dec (fun _ => ?_) (fun _ => ?_) | refine t8 ?_ | refine tI ?_ | refine tU ?_ | refine tA ?_ | refine tB ?_ | refine tL ?_ | refine tN ?_ | fail "no step")
    have hcon := take_c (m := m) ⟨i, xs, ts⟩ hs.i (by omega) t_lcur
    rcases hx122 : (takeM L t_lcur) ⟨i, xs, ts⟩ with ⟨_, s9⟩ | ⟨i9, e9⟩
    rotate_left
    · obtain rfl := (and_err hx122).symm.trans hT
      refine sC (CallsM.ren (hcon.err hx122) [0, 1] 10 rfl rfl rfl rfl) ?_
      first | exact ⟨⟨_, rfl, rfl⟩, rfl, rfl⟩ | exact ⟨by kernel_rfl, ⟨_, rfl, rfl⟩, rfl, rfl⟩
    replace hT := (and_ok hx122).symm.trans hT
    refine sC (CallsM.ren (hcon.ok hx122) [0, 1] 10 rfl rfl rfl rfl) ?_
    clear hcon
    have hs1 := (Up.ok (Up.take hL t_lcur 0) hs hx122).1
    obtain rfl := mv_take1 hx122
    repeat' (first | refine tT ?_ | refine tF ?_ | refine ex_dec (fun _ => ?_) (fun _ => ?_) | refine t8 ?_ | refine tI ?_ | refine tU ?_ | refine tA ?_ | refine tB ?_ | refine tL ?_ | refine tN ?_ | fail "no step")
    replace hT : (itemsN L (L.length - (i + 1) + 1) [] >>= fun is => takeM L t_rcur >>= fun _ => pure (⟨w, ps, is⟩ : RC)) ⟨i + 1, xs, ts⟩ = T := hT
    refine ex_loop (X := Nat × List EX × List TY × List IT × Nat) (fun ⟨i, xs, ts, l, _⟩ => ⟨[(0, .o P0), (2, .o (.c (.ptr 6 0))), (3, .o (.c (.ptr 7 0)))], [(5, .dead), (4, .dead), (0, Qz L m i), (1, Fz 2 3 11 12), (6, .obj [.d (ds ⟨#[]⟩), .d dnil, .d dnil]), (7, .obj [.d (ds (bs w)), .row 9, .row 10]), (9, .row 1 9 (ps.map fun p => [ds (bs p)])), (10, .row 9 177 (l.map itD)), (11, Xz xs), (12, Tz ts)], 13⟩) (fun y => L.length - y.1)
      (fun ⟨i, xs, ts, l, n⟩ => SOk L 0 ⟨i, xs, ts⟩ ∧ L.length < i + n ∧ l.length ≤ i ∧ (itemsN L n l >>= fun is => takeM L t_rcur >>= fun _ => pure (⟨w, ps, is⟩ : RC)) ⟨i, xs, ts⟩ = T) (i + 1, xs, ts, [], L.length - (i + 1) + 1) ⟨hs1.less (by omega), by omega, Nat.zero_le _, hT⟩
      (SLe.kill (nx := 13) 5 (SLe.kill (nx := 13) 4 (SLe.via (SLe.ownCell 7 2 10 9 177 rfl rfl rfl rfl rfl rfl) (SLe.ren [(0, 0), (1, 1), (2, 2), (3, 3), (6, 6), (7, 7), (9, 9), (10, 10), (4, 11), (5, 12)] ⟨⟨rfl, rfl⟩, ⟨rfl, rfl⟩, ⟨rfl, rfl⟩, trivial⟩ ⟨⟨rfl, rfl⟩, ⟨rfl, rfl⟩, ⟨rfl, rfl⟩, ⟨rfl, rfl⟩, ⟨rfl, rfl⟩, ⟨rfl, rfl⟩, ⟨rfl, rfl⟩, ⟨rfl, rfl⟩, trivial⟩ rfl)))) ?_
    clear hT hs1 hs
    rintro ⟨i, xs, ts, l, n⟩ ⟨hs, hf, hll, hT⟩
    have hi := hs.lt
    have hpk := is_c (m := m) i hi w_pack
    have hnm := named_c (m := m) i hi
    cases n with
    | zero => omega
    | succ n =>
      rw [itemsN] at hT
      rcases hv : isV L i w_pack with _ | _ <;> rw [hv] at hpk
      · rcases hv2 : namedV L i with _ | _ <;> rw [hv2] at hnm
        · replace hT := pureT (atnB hT (by rw [hv, hv2]; rfl))
          refine sC (CallsM.ren (hpk) [0, 1] 13 rfl rfl rfl rfl) ?_
          repeat' (first | refine tT ?_ | refine tF ?_ | refine ex_dec (fun _ => ?_) (fun _ => ?_) | refine t8 ?_ | refine tI ?_ | refine tU ?_ | refine tA ?_ | refine tB ?_ | refine tL ?_ | refine tN ?_ | fail "no step")
          refine sC (CallsM.ren (hnm) [0, 1] 13 rfl rfl rfl rfl) ?_
          repeat' (first | refine tT ?_ | refine tF ?_ | refine ex_dec (fun _ => ?_) (fun _ => ?_) | refine t8 ?_ | refine tI ?_ | refine tU ?_ | refine tA ?_ | refine tB ?_ | refine tL ?_ | refine tN ?_ | fail "no step")
          have hcon := take_c (m := m) ⟨i, xs, ts⟩ hs.i (by omega) t_rcur
          rcases hx144 : (takeM L t_rcur) ⟨i, xs, ts⟩ with ⟨_, s9⟩ | ⟨i9, e9⟩
          rotate_left
          · obtain rfl := (and_err hx144).symm.trans hT
            refine sC (CallsM.ren (hcon.err hx144) [0, 1] 13 rfl rfl rfl rfl) ?_
            first | exact ⟨⟨_, rfl, rfl⟩, rfl, rfl⟩ | exact ⟨by kernel_rfl, ⟨_, rfl, rfl⟩, rfl, rfl⟩
          replace hT := (and_ok hx144).symm.trans hT
          refine sC (CallsM.ren (hcon.ok hx144) [0, 1] 13 rfl rfl rfl rfl) ?_
          clear hcon
          have hs1 := (Up.ok (Up.take hL t_rcur 0) hs hx144).1
          obtain rfl := mv_take1 hx144
          obtain rfl : PR.ok (⟨w, ps, l⟩ : RC) ⟨i + 1, xs, ts⟩ = T := hT
          repeat' (first | refine tT ?_ | refine tF ?_ | refine ex_dec (fun _ => ?_) (fun _ => ?_) | refine t8 ?_ | refine tI ?_ | refine tU ?_ | refine tA ?_ | refine tB ?_ | refine tL ?_ | refine tN ?_ | fail "no step")
          exact ⟨rfl, TLe.rfl, rfl, rfl⟩
        · replace hT := asc (atyB hT (by rw [hv, hv2]; rfl))
          refine sC (CallsM.ren (hpk) [0, 1] 13 rfl rfl rfl rfl) ?_
          repeat' (first | refine tT ?_ | refine tF ?_ | refine ex_dec (fun _ => ?_) (fun _ => ?_) | refine t8 ?_ | refine tI ?_ | refine tU ?_ | refine tA ?_ | refine tB ?_ | refine tL ?_ | refine tN ?_ | fail "no step")
          refine sC (CallsM.ren (hnm) [0, 1] 13 rfl rfl rfl rfl) ?_
          repeat' (first | refine ex_is l.length (by simp) ?_ | refine tT ?_ | refine tF ?_ | refine ex_dec (fun _ => ?_) (fun _ => ?_) | refine t8 ?_ | refine tI ?_ | refine tU ?_ | refine tA ?_ | refine tB ?_ | refine tL ?_ | refine tN ?_ | fail "no step")
          have hcon := room_c (m := m) ⟨i, xs, ts⟩ hi l.length (by omega)
          rcases hr : (roomM l.length) ⟨i, xs, ts⟩ with ⟨_, s9⟩ | ⟨i9, e9⟩
          rotate_left
          · obtain rfl := (and_err hr).symm.trans hT
            refine sC (CallsM.ren (hcon.err hr) [0, 1] 13 rfl rfl rfl rfl) ?_
            first | exact ⟨⟨_, rfl, rfl⟩, rfl, rfl⟩ | exact ⟨by kernel_rfl, ⟨_, rfl, rfl⟩, rfl, rfl⟩
          replace hT := (and_ok hr).symm.trans hT
          refine sC (CallsM.ren (hcon.ok hr) [0, 1] 13 rfl rfl rfl rfl) ?_
          clear hcon
          obtain rfl := mv_room1 hr
          replace hT := atnB (asc hT) hv
          repeat' (first | refine tT ?_ | refine tF ?_ | refine ex_dec (fun _ => ?_) (fun _ => ?_) | refine t8 ?_ | refine tI ?_ | refine tU ?_ | refine tA ?_ | refine tB ?_ | refine tL ?_ | refine tN ?_ | fail "no step")
          refine sC (CallsM.ren (hpk) [0, 1] 13 rfl rfl rfl rfl) ?_
          repeat' (first | refine tT ?_ | refine tF ?_ | refine ex_dec (fun _ => ?_) (fun _ => ?_) | refine t8 ?_ | refine tI ?_ | refine tU ?_ | refine tA ?_ | refine tB ?_ | refine tL ?_ | refine tN ?_ | fail "no step")
          have hcon := field_c hL hn hm ⟨i, xs, ts⟩ hs
          rcases hx : (fieldM L) ⟨i, xs, ts⟩ with ⟨x, ⟨i2, xs2, ts2⟩⟩ | ⟨i9, e9⟩
          rotate_left
          · obtain rfl := (and_err hx).symm.trans hT
            refine sC (CallsM.ren (hcon.err hx) [0, 1, 2, 3, 11, 12] 13 rfl rfl rfl rfl) ?_
            first | exact ⟨⟨_, rfl, rfl⟩, rfl, rfl⟩ | exact ⟨by kernel_rfl, ⟨_, rfl, rfl⟩, rfl, rfl⟩
          replace hT := (and_ok hx).symm.trans hT
          refine sC (CallsM.ren (hcon.ok hx) [0, 1, 2, 3, 11, 12] 13 rfl rfl rfl rfl) ?_
          clear hcon
          have hs2 := (Up.ok (up_field hL) hs hx).1
          have hgo : i < i2 := mo_field _ _ _ hx
          repeat' (first | refine tT ?_ | refine tF ?_ | refine ex_dec (fun _ => ?_) (fun _ => ?_) | refine t8 ?_ | refine tI ?_ | refine tU ?_ | refine tA ?_ | refine tB ?_ | refine tL ?_ | refine tN ?_ | fail "no step")
          refine ex_app (l.length) (1) 1000 (by first | rfl | (simp; done) | (simp; omega)) (by first | rfl | (simp; done) | (simp; omega)) rfl (by omega) ?_
          refine ex_is (List.map itD (l ++ [x])) (by rw [List.map_append]; rfl) ?_
          repeat' (first | refine tT ?_ | refine tF ?_ | refine ex_dec (fun _ => ?_) (fun _ => ?_) | refine t8 ?_ | refine tI ?_ | refine tU ?_ | refine tA ?_ | refine tB ?_ | refine tL ?_ | refine tN ?_ | fail "no step")
          exact ex_round (i2, xs2, ts2, l ++ [x], n) ⟨hs2, by omega, by simp <;> omega, hT⟩ (by show L.length - i2 < L.length - i; omega) (SLe.ren [(0, 0), (1, 1), (2, 2), (3, 3), (4, 4), (5, 5), (6, 6), (7, 7), (9, 9), (13, 11), (14, 12), (16, 10)] ⟨⟨rfl, rfl⟩, ⟨rfl, rfl⟩, ⟨rfl, rfl⟩, trivial⟩ ⟨⟨rfl, rfl⟩, ⟨rfl, rfl⟩, ⟨rfl, rfl⟩, ⟨rfl, rfl⟩, ⟨rfl, rfl⟩, ⟨rfl, rfl⟩, ⟨rfl, rfl⟩, ⟨rfl, rfl⟩, ⟨rfl, rfl⟩, ⟨rfl, rfl⟩, trivial⟩ rfl)
      · replace hT := asc (atyB hT (by rw [hv]; rfl))
        refine sC (CallsM.ren (hpk) [0, 1] 13 rfl rfl rfl rfl) ?_
        repeat' (first | refine ex_is l.length (by simp) ?_ | refine tT ?_ | refine tF ?_ | refine ex_dec (fun _ => ?_) (fun _ => ?_) | refine t8 ?_ | refine tI ?_ | refine tU ?_ | refine tA ?_ | refine tB ?_ | refine tL ?_ | refine tN ?_ | fail "no step")
        have hcon := room_c (m := m) ⟨i, xs, ts⟩ hi l.length (by omega)
        rcases hr : (roomM l.length) ⟨i, xs, ts⟩ with ⟨_, s9⟩ | ⟨i9, e9⟩
        rotate_left
        · obtain rfl := (and_err hr).symm.trans hT
          refine sC (CallsM.ren (hcon.err hr) [0, 1] 13 rfl rfl rfl rfl) ?_
          first | exact ⟨⟨_, rfl, rfl⟩, rfl, rfl⟩ | exact ⟨by kernel_rfl, ⟨_, rfl, rfl⟩, rfl, rfl⟩
        replace hT := (and_ok hr).symm.trans hT
        refine sC (CallsM.ren (hcon.ok hr) [0, 1] 13 rfl rfl rfl rfl) ?_
        clear hcon
        obtain rfl := mv_room1 hr
        replace hT := atyB (asc hT) hv
        repeat' (first | refine tT ?_ | refine tF ?_ | refine ex_dec (fun _ => ?_) (fun _ => ?_) | refine t8 ?_ | refine tI ?_ | refine tU ?_ | refine tA ?_ | refine tB ?_ | refine tL ?_ | refine tN ?_ | fail "no step")
        refine sC (CallsM.ren (hpk) [0, 1] 13 rfl rfl rfl rfl) ?_
        repeat' (first | refine tT ?_ | refine tF ?_ | refine ex_dec (fun _ => ?_) (fun _ => ?_) | refine t8 ?_ | refine tI ?_ | refine tU ?_ | refine tA ?_ | refine tB ?_ | refine tL ?_ | refine tN ?_ | fail "no step")
        have hcon := pack_c (m := m) hL hn ⟨i, xs, ts⟩ hs
        rcases hx : (packM L) ⟨i, xs, ts⟩ with ⟨x, ⟨i2, xs2, ts2⟩⟩ | ⟨i9, e9⟩
        rotate_left
        · obtain rfl := (and_err hx).symm.trans hT
          refine sC (CallsM.ren (hcon.err hx) [0, 1] 13 rfl rfl rfl rfl) ?_
          first | exact ⟨⟨_, rfl, rfl⟩, rfl, rfl⟩ | exact ⟨by kernel_rfl, ⟨_, rfl, rfl⟩, rfl, rfl⟩
        replace hT := (and_ok hx).symm.trans hT
        refine sC (CallsM.ren (hcon.ok hx) [0, 1] 13 rfl rfl rfl rfl) ?_
        clear hcon
        have hs2 := (Up.ok (up_pack hL) hs hx).1
        have hgo : i < i2 := mo_pack _ _ _ hx
        obtain ⟨rfl, rfl⟩ := mv_pack hx
        repeat' (first | refine tT ?_ | refine tF ?_ | refine ex_dec (fun _ => ?_) (fun _ => ?_) | refine t8 ?_ | refine tI ?_ | refine tU ?_ | refine tA ?_ | refine tB ?_ | refine tL ?_ | refine tN ?_ | fail "no step")
        refine ex_app (l.length) (1) 1000 (by first | rfl | (simp; done) | (simp; omega)) (by first | rfl | (simp; done) | (simp; omega)) rfl (by omega) ?_
        refine ex_is (List.map itD (l ++ [x])) (by rw [List.map_append]; rfl) ?_
        repeat' (first | refine tT ?_ | refine tF ?_ | refine ex_dec (fun _ => ?_) (fun _ => ?_) | refine t8 ?_ | refine tI ?_ | refine tU ?_ | refine tA ?_ | refine tB ?_ | refine tL ?_ | refine tN ?_ | fail "no step")
        exact ex_round (i2, xs, ts, l ++ [x], n) ⟨hs2, by omega, by simp <;> omega, hT⟩ (by show L.length - i2 < L.length - i; omega) (SLe.ren [(0, 0), (1, 1), (2, 2), (3, 3), (4, 4), (5, 5), (6, 6), (7, 7), (9, 9), (11, 11), (12, 12), (14, 10)] ⟨⟨rfl, rfl⟩, ⟨rfl, rfl⟩, ⟨rfl, rfl⟩, trivial⟩ ⟨⟨rfl, rfl⟩, ⟨rfl, rfl⟩, ⟨rfl, rfl⟩, ⟨rfl, rfl⟩, ⟨rfl, rfl⟩, ⟨rfl, rfl⟩, ⟨rfl, rfl⟩, ⟨rfl, rfl⟩, ⟨rfl, rfl⟩, ⟨rfl, rfl⟩, trivial⟩ rfl)
end
end Go.Proofs.YtoingpafcodojaaGreatDoor

namespace Go.Proofs.YtoingpafcodojaaGreatDoor
open Go.RowKit

section
variable {P : Program} {Γ : Glob} {f : FuncId} {nx : Nat} {xs : List T1} {r : TV} {upd : List (Nat × Blk)} {new : List Blk} {a b c d e g : Nat × Blk} {m : List (Nat × Blk)}
theorem CallsM.moreW (h : CallsM P Γ f [a, b, e, g] nx xs r upd new) : CallsM P Γ f [a, b, c, d, e, g] nx xs r upd new := h.more fun p hp => by
  simp only [List.mem_cons, List.not_mem_nil, or_false] at hp ⊢; rcases hp with hp | hp | hp | hp <;> simp [hp]
end
abbrev Cz (l : List CO) : Blk := .row 2 82 (l.map coD)
abbrev Uz (l : List RC) : Blk := .row 3 146 (l.map rcD)
def PR.uW (L : List TokP) (m : Nat) : PR (List CO × List RC) → List (Nat × Blk)
  | .ok _ s => [(0, Qz L m s.i), (1, Fz 6 7 8 9), (2, .dead), (3, .dead), (4, .dead), (5, .dead)]
  | .err _ _ => [(0, .dead), (1, .dead), (2, .dead), (3, .dead), (4, .dead), (5, .dead)]
def PR.nW : PR (List CO × List RC) → List Blk
  | .ok v s => [Cz v.1, Uz v.2, Xz s.xs, Tz s.ts]
  | .err _ _ => []
theorem ex_pan {P : Program} {Γ : Glob} {f : FuncId} {m : List (Nat × Blk)} {nx : Nat} {xs : List T1} {r : TV} {upd : List (Nat × Blk)} {new : List Blk} (Q : Prop) (h : CallsM P Γ f m nx xs r upd new) {K : TV → List (Nat × Blk) → List Blk → Prop} (e : K r upd new = Q) (hq : Q) : ∃ r upd new, CallsM P Γ f m nx xs r upd new ∧ K r upd new := ⟨r, upd, new, h, e.mpr hq⟩
section
variable {L : List TokP} {m : Nat}
set_option maxHeartbeats 16000000 in
theorem whole_c (hL : TokOk L) (hn : L.length ≤ 100000) (hm : m = 32) (i n0 : Nat) (xs : List EX) (ts : List TY) (cs : List CO) (rs : List RC) (hs : SOk L 0 ⟨i, xs, ts⟩) (hf : L.length < i + n0) (hcl : cs.length ≤ i) (hrl : rs.length ≤ i) (T : PR (List CO × List RC)) (hT : wholeN L n0 cs rs ⟨i, xs, ts⟩ = T) :
    CallsM Tryz.prog ΓL 21 [(0, Qz L m i), (1, Fz 2 3 4 5), (2, Cz cs), (3, Uz rs), (4, Xz xs), (5, Tz ts)] 6 [P0] (T.tv L fun _ => .tup []) (T.uW L m) T.nW := by
  refine fn_ruleP (C := ⟨Tryz.prog, layF, Tryz.f21.ntmps, ΓL, 6, [], []⟩) layF_ok mixed Tryz.func21 rfl (by kernel_rfl) rfl rfl rfl SLe.rfl ?_
  repeat' (first | refine tT ?_ | refine tF ?_ | refine ex_dec (fun _ => ?_) (fun _ => ?_) | refine t8 ?_ | refine tI ?_ | refine tU ?_ | refine tA ?_ | refine tB ?_ | refine tL ?_ | refine tN ?_ | fail "no step")
  refine ex_loop (X := Nat × List EX × List TY × List CO × List RC × Nat) (fun ⟨i, xs, ts, cs, rs, _⟩ => ⟨[(0, .o P0)], [(5, .dead), (4, .dead), (3, .dead), (2, .dead), (0, Qz L m i), (1, Fz 6 7 8 9), (6, Cz cs), (7, Uz rs), (8, Xz xs), (9, Tz ts)], 10⟩) (fun y => L.length - y.1)
    (fun ⟨i, xs, ts, cs, rs, n⟩ => SOk L 0 ⟨i, xs, ts⟩ ∧ L.length < i + n ∧ cs.length ≤ i ∧ rs.length ≤ i ∧ wholeN L n cs rs ⟨i, xs, ts⟩ = T) (i, xs, ts, cs, rs, n0) ⟨hs, hf, hcl, hrl, hT⟩
    (SLe.kill (nx := 10) 5 (SLe.kill (nx := 10) 4 (SLe.kill (nx := 10) 3 (SLe.kill (nx := 10) 2 (SLe.ren [(0, 0), (1, 1), (2, 6), (3, 7), (4, 8), (5, 9)] ⟨⟨rfl, rfl⟩, trivial⟩ ⟨⟨rfl, rfl⟩, ⟨rfl, rfl⟩, ⟨rfl, rfl⟩, ⟨rfl, rfl⟩, ⟨rfl, rfl⟩, ⟨rfl, rfl⟩, trivial⟩ rfl))))) ?_
  clear hT hf hcl hrl hs
  rintro ⟨i, xs, ts, cs, rs, n⟩ ⟨hs, hf, hcl, hrl, hT⟩
  have hi := hs.lt
  have hic := is_c (m := m) i hi w_const
  have hir := is_c (m := m) i hi w_struct
  cases n with
  | zero => omega
  | succ n =>
    rw [wholeN] at hT
    rcases hv : isV L i w_const with _ | _ <;> rw [hv] at hic
    · replace hT := atn hT hv
      rcases hv2 : isV L i w_struct with _ | _ <;> rw [hv2] at hir
      · replace hT := atn hT hv2
        have ha := ahead_c (L := L) (m := m) i hi
        by_cases hk : (tk L i).k = 3
        · obtain rfl : PR.ok (cs, rs) ⟨i, xs, ts⟩ = T := aty hT (by rw [hk]; rfl)
          generalize tk L i = u at *
          refine sC (CallsM.ren (hic) [0, 1] 10 rfl rfl rfl rfl) ?_
          repeat' (first | refine tT ?_ | refine tF ?_ | refine ex_dec (fun _ => ?_) (fun _ => ?_) | refine t8 ?_ | refine tI ?_ | refine tU ?_ | refine tA ?_ | refine tB ?_ | refine tL ?_ | refine tN ?_ | fail "no step")
          refine sC (CallsM.ren (hir) [0, 1] 10 rfl rfl rfl rfl) ?_
          repeat' (first | refine tT ?_ | refine tF ?_ | refine ex_dec (fun _ => ?_) (fun _ => ?_) | refine t8 ?_ | refine tI ?_ | refine tU ?_ | refine tA ?_ | refine tB ?_ | refine tL ?_ | refine tN ?_ | fail "no step")
          refine sC (CallsM.ren (ha) [0, 1] 10 rfl rfl rfl rfl) ?_
          repeat' (first | refine tT ?_ | refine tF ?_ | refine ex_dec (fun _ => ?_) (fun _ => ?_) | refine t8 ?_ | refine tI ?_ | refine tU ?_ | refine tA ?_ | refine tB ?_ | refine tL ?_ | refine tN ?_ | fail "no step")
          exact ⟨rfl, TLe.rfl, rfl, rfl⟩
        · obtain rfl : PR.err i 4 = T := atn hT (by simp [hk])
          have hfl := fail_c (m := m) i 4 hi
          generalize tk L i = u at *
          refine sC (CallsM.ren (hic) [0, 1] 10 rfl rfl rfl rfl) ?_
          repeat' (first | refine tT ?_ | refine tF ?_ | refine ex_dec (fun _ => ?_) (fun _ => ?_) | refine t8 ?_ | refine tI ?_ | refine tU ?_ | refine tA ?_ | refine tB ?_ | refine tL ?_ | refine tN ?_ | fail "no step")
          refine sC (CallsM.ren (hir) [0, 1] 10 rfl rfl rfl rfl) ?_
          repeat' (first | refine tT ?_ | refine tF ?_ | refine ex_dec (fun _ => ?_) (fun _ => ?_) | refine t8 ?_ | refine tI ?_ | refine tU ?_ | refine tA ?_ | refine tB ?_ | refine tL ?_ | refine tN ?_ | fail "no step")
          refine sC (CallsM.ren (ha) [0, 1] 10 rfl rfl rfl rfl) ?_
          repeat' (first | refine tT ?_ | refine tF ?_ | refine ex_dec (fun _ => ?_) (fun _ => ?_) | refine t8 ?_ | refine tI ?_ | refine tU ?_ | refine tA ?_ | refine tB ?_ | refine tL ?_ | refine tN ?_ | fail "no step")
          refine sC (CallsM.ren ((fail_c (m := m) i 4 hi)) [0, 1] 10 rfl rfl rfl rfl) ?_
          exact ⟨⟨_, rfl, rfl⟩, rfl, rfl⟩
      · replace hT := aty hT hv2
        refine sC (CallsM.ren (hic) [0, 1] 10 rfl rfl rfl rfl) ?_
        repeat' (first | refine tT ?_ | refine tF ?_ | refine ex_dec (fun _ => ?_) (fun _ => ?_) | refine t8 ?_ | refine tI ?_ | refine tU ?_ | refine tA ?_ | refine tB ?_ | refine tL ?_ | refine tN ?_ | fail "no step")
        refine sC (CallsM.ren (hir) [0, 1] 10 rfl rfl rfl rfl) ?_
        repeat' (first | refine ex_is rs.length (by simp) ?_ | refine tT ?_ | refine tF ?_ | refine ex_dec (fun _ => ?_) (fun _ => ?_) | refine t8 ?_ | refine tI ?_ | refine tU ?_ | refine tA ?_ | refine tB ?_ | refine tL ?_ | refine tN ?_ | fail "no step")
        have hcon := room_c (m := m) ⟨i, xs, ts⟩ hi rs.length (by omega)
        rcases hr : (roomM rs.length) ⟨i, xs, ts⟩ with ⟨_, s9⟩ | ⟨i9, e9⟩
        rotate_left
        · obtain rfl := (and_err hr).symm.trans hT
          refine sC (CallsM.ren (hcon.err hr) [0, 1] 10 rfl rfl rfl rfl) ?_
          first | exact ⟨⟨_, rfl, rfl⟩, rfl, rfl⟩ | exact ⟨by kernel_rfl, ⟨_, rfl, rfl⟩, rfl, rfl⟩
        replace hT := (and_ok hr).symm.trans hT
        refine sC (CallsM.ren (hcon.ok hr) [0, 1] 10 rfl rfl rfl rfl) ?_
        clear hcon
        obtain rfl := mv_room1 hr
        repeat' (first | refine tT ?_ | refine tF ?_ | refine ex_dec (fun _ => ?_) (fun _ => ?_) | refine t8 ?_ | refine tI ?_ | refine tU ?_ | refine tA ?_ | refine tB ?_ | refine tL ?_ | refine tN ?_ | fail "no step")
        have hcon := record_c (m := m) hL hn hm ⟨i, xs, ts⟩ hs
        rcases hx : recordM L ⟨i, xs, ts⟩ with ⟨r, ⟨i2, xs2, ts2⟩⟩ | ⟨i9, e9⟩
        · replace hT := (and_ok hx).symm.trans hT
          have hs2 := (Up.ok (up_record hL) hs hx).1
          have hgo : i < i2 := mo_record _ _ _ hx
          refine ex_callM (CallsM.moreW (CallsM.ren (hcon.ok hx) [0, 1, 6, 7, 8, 9] 10 rfl rfl rfl rfl)) ?_
          repeat' (first | refine tT ?_ | refine tF ?_ | refine ex_dec (fun _ => ?_) (fun _ => ?_) | refine t8 ?_ | refine tI ?_ | refine tU ?_ | refine tA ?_ | refine tB ?_ | refine tL ?_ | refine tN ?_ | fail "no step")
          refine ex_app (rs.length) (1) 1000 (by first | rfl | (simp; done) | (simp; omega)) (by first | rfl | (simp; done) | (simp; omega)) rfl (by omega) ?_
          refine ex_is (List.map rcD (rs ++ [r])) (by rw [List.map_append]; rfl) ?_
          repeat' (first | refine tT ?_ | refine tF ?_ | refine ex_dec (fun _ => ?_) (fun _ => ?_) | refine t8 ?_ | refine tI ?_ | refine tU ?_ | refine tA ?_ | refine tB ?_ | refine tL ?_ | refine tN ?_ | fail "no step")
          exact ex_round (i2, xs2, ts2, cs, rs ++ [r], n) ⟨hs2, by omega, by omega, by simp <;> omega, hT⟩ (by show L.length - i2 < L.length - i; omega) (SLe.ren [(0, 0), (1, 1), (2, 2), (3, 3), (4, 4), (5, 5), (6, 6), (13, 7), (10, 8), (11, 9)] ⟨⟨rfl, rfl⟩, trivial⟩ ⟨⟨rfl, rfl⟩, ⟨rfl, rfl⟩, ⟨rfl, rfl⟩, ⟨rfl, rfl⟩, ⟨rfl, rfl⟩, ⟨rfl, rfl⟩, ⟨rfl, rfl⟩, ⟨rfl, rfl⟩, ⟨rfl, rfl⟩, ⟨rfl, rfl⟩, trivial⟩ rfl)
        · obtain rfl := (and_err hx).symm.trans hT
          exact ex_pan ((true = true) ∧ panIs (.pan (flt L i9 e9)) (panE (flt L i9 e9)) ∧ (PR.uW L m (.err i9 e9)) = deadM [0, 1, 2, 3, 4, 5] ∧ ([] : List Blk) = []) (CallsM.moreW (CallsM.ren (hcon.err hx) [0, 1, 6, 7, 8, 9] 10 rfl rfl rfl rfl)) (by kernel_rfl) ⟨rfl, ⟨_, rfl, rfl⟩, rfl, rfl⟩
    · replace hT := aty hT hv
      refine sC (CallsM.ren (hic) [0, 1] 10 rfl rfl rfl rfl) ?_
      repeat' (first | refine ex_is cs.length (by simp) ?_ | refine tT ?_ | refine tF ?_ | refine ex_dec (fun _ => ?_) (fun _ => ?_) | refine t8 ?_ | refine tI ?_ | refine tU ?_ | refine tA ?_ | refine tB ?_ | refine tL ?_ | refine tN ?_ | fail "no step")
      have hcon := room_c (m := m) ⟨i, xs, ts⟩ hi cs.length (by omega)
      rcases hr : (roomM cs.length) ⟨i, xs, ts⟩ with ⟨_, s9⟩ | ⟨i9, e9⟩
      rotate_left
      · obtain rfl := (and_err hr).symm.trans hT
        refine sC (CallsM.ren (hcon.err hr) [0, 1] 10 rfl rfl rfl rfl) ?_
        first | exact ⟨⟨_, rfl, rfl⟩, rfl, rfl⟩ | exact ⟨by kernel_rfl, ⟨_, rfl, rfl⟩, rfl, rfl⟩
      replace hT := (and_ok hr).symm.trans hT
      refine sC (CallsM.ren (hcon.ok hr) [0, 1] 10 rfl rfl rfl rfl) ?_
      clear hcon
      obtain rfl := mv_room1 hr
      repeat' (first | refine tT ?_ | refine tF ?_ | refine ex_dec (fun _ => ?_) (fun _ => ?_) | refine t8 ?_ | refine tI ?_ | refine tU ?_ | refine tA ?_ | refine tB ?_ | refine tL ?_ | refine tN ?_ | fail "no step")
      have hcon := const_c (m := m) hL hn ⟨i, xs, ts⟩ hs
      rcases hx : constM L ⟨i, xs, ts⟩ with ⟨c, ⟨i2, xs2, ts2⟩⟩ | ⟨i9, e9⟩
      rotate_left
      · obtain rfl := (and_err hx).symm.trans hT
        exact ex_pan ((true = true) ∧ panIs (.pan (flt L i9 e9)) (panE (flt L i9 e9)) ∧ (PR.uW L m (.err i9 e9)) = deadM [0, 1, 2, 3, 4, 5] ∧ ([] : List Blk) = []) (CallsM.more0 (CallsM.ren (hcon.err hx) [0, 1] 10 rfl rfl rfl rfl)) (by kernel_rfl) ⟨rfl, ⟨_, rfl, rfl⟩, rfl, rfl⟩
      replace hT := (and_ok hx).symm.trans hT
      refine ex_callM (CallsM.more0 (CallsM.ren (hcon.ok hx) [0, 1] 10 rfl rfl rfl rfl)) ?_
      have hs2 := (Up.ok (up_const hL) hs hx).1
      obtain ⟨rfl, rfl⟩ := mv_const hx
      have hgo : i < i2 := mo_const _ _ _ hx
      repeat' (first | refine tT ?_ | refine tF ?_ | refine ex_dec (fun _ => ?_) (fun _ => ?_) | refine t8 ?_ | refine tI ?_ | refine tU ?_ | refine tA ?_ | refine tB ?_ | refine tL ?_ | refine tN ?_ | fail "no step")
      refine ex_app (cs.length) (1) 1000 (by first | rfl | (simp; done) | (simp; omega)) (by first | rfl | (simp; done) | (simp; omega)) rfl (by omega) ?_
      refine ex_is (List.map coD (cs ++ [c])) (by rw [List.map_append]; rfl) ?_
      repeat' (first | refine tT ?_ | refine tF ?_ | refine ex_dec (fun _ => ?_) (fun _ => ?_) | refine t8 ?_ | refine tI ?_ | refine tU ?_ | refine tA ?_ | refine tB ?_ | refine tL ?_ | refine tN ?_ | fail "no step")
      exact ex_round (i2, xs, ts, cs ++ [c], rs, n) ⟨hs2, by omega, by simp <;> omega, by omega, hT⟩ (by show L.length - i2 < L.length - i; omega) (SLe.ren [(0, 0), (1, 1), (2, 2), (3, 3), (4, 4), (5, 5), (11, 6), (7, 7), (8, 8), (9, 9)] ⟨⟨rfl, rfl⟩, trivial⟩ ⟨⟨rfl, rfl⟩, ⟨rfl, rfl⟩, ⟨rfl, rfl⟩, ⟨rfl, rfl⟩, ⟨rfl, rfl⟩, ⟨rfl, rfl⟩, ⟨rfl, rfl⟩, ⟨rfl, rfl⟩, ⟨rfl, rfl⟩, ⟨rfl, rfl⟩, trivial⟩ rfl)
end
end Go.Proofs.YtoingpafcodojaaGreatDoor

namespace Go.Proofs.YtoingpafcodojaaGreatDoor
open Go.RowKit

theorem lexN_len : ∀ (n : Nat) (r : List UInt8) (l c : Nat) (ts : List TokP), r.length < n → lexN n r l c = .ok ts → ts.length ≤ r.length + 1 := by
  intro n
  induction n with
  | zero => intro r l c ts h; omega
  | succ n ih =>
    intro r l c ts hlen h
    rw [lexN] at h
    rcases hs : stp r l c with _ | ⟨r', l', c'⟩ | ⟨k, t, v⟩ | e <;> rw [hs] at h <;> dsimp only at h
    · cases h; simp
    · have := stp_go hs
      have := ih r' l' c' ts (by omega) h
      omega
    · have ht := stp_tok hs
      obtain ⟨⟨X, rfl⟩, h2, h3, -⟩ := tokF_ok ht
      have h4 : 0 < t.length := List.length_pos_iff.2 h2
      rw [List.drop_left] at h
      rw [List.length_append] at hlen ⊢
      rcases hr : lexN n X l (c + t.length) with ts' | _
      · rw [hr] at h
        have h' : [⟨k, t, v, l, c⟩] ++ ts' = ts := by injection h
        have := ih X l (c + t.length) ts' (by omega) hr
        rw [← h']
        simp
        omega
      · rw [hr] at h; cases h
    · cases h
theorem lexV_ok {s : List UInt8} {L : List TokP} (h : lexV s = .ok L) : TokOk L ∧ L.length ≤ 100000 := by
  unfold lexV at h
  split at h
  · rename_i hs
    have hlen := lexN_len _ s 1 1 L (Nat.lt_succ_self _) h
    obtain ⟨us, l', c', rfl, _⟩ := lexF_good h
    refine ⟨⟨by simp, fun i hi => ?_⟩, by omega⟩
    simp only [List.length_append, List.length_cons, List.length_nil] at hi
    have : i = us.length := by omega
    unfold tk
    rw [this, List.getD_eq_getElem?_getD, List.getElem?_append_right (Nat.le_refl _)]
    simp
  · cases h
theorem stp_err {r : List UInt8} {l c e : Nat} (h : stp r l c = .err e) : tokF r = .err e := by
  unfold stp at h
  split at h
  · cases h
  · split at h
    · cases h
    · split at h
      · cases h
      · split at h
        · cases h
        · revert h
          unfold TR.stp
          split <;> intro h <;> cases h
          assumption
theorem lexN_err : ∀ (n : Nat) (r : List UInt8) (l c l' c' e : Nat), r.length < n → lexN n r l c = .err l' c' e → 4 ≤ e ∧ e ≤ 7 := by
  intro n
  induction n with
  | zero => intro r l c l' c' e h; omega
  | succ n ih =>
    intro r l c l' c' e hlen h
    rw [lexN] at h
    rcases hs : stp r l c with _ | ⟨r', l1, c1⟩ | ⟨k, t, v⟩ | e1 <;> rw [hs] at h <;> dsimp only at h
    · cases h
    · have := stp_go hs
      exact ih r' l1 c1 l' c' e (by omega) h
    · have ht := stp_tok hs
      obtain ⟨⟨X, rfl⟩, h2, h3, -⟩ := tokF_ok ht
      have h4 : 0 < t.length := List.length_pos_iff.2 h2
      rw [List.drop_left] at h
      rw [List.length_append] at hlen
      rcases hr : lexN n X l (c + t.length) with ts' | ⟨l2, c2, e2⟩
      · rw [hr] at h; cases h
      · rw [hr] at h
        cases h
        exact ih X l _ _ _ _ (by omega) hr
    · cases h
      exact tokF_err (stp_err hs)
theorem lexV_err {s : List UInt8} {l c e : Nat} (h : lexV s = .err l c e) : 4 ≤ e ∧ e ≤ 7 := by
  unfold lexV at h
  split at h
  · exact lexN_err _ s 1 1 l c e (Nat.lt_succ_self _) h
  · cases h; decide
def fileD (cs : List CO) (rs : List RC) (xs : List EX) (ts : List TY) : List D := [.sl 2 (cs.map coD), .sl 3 (rs.map rcD), .sl 5 (xs.map exD), .sl 8 (ts.map tyD)]
abbrev dnp : D := .v (.pointer none)
def parT : FR → TV
  | .ok cs rs xs ts => .tup [.c (.eptr (fileD cs rs xs ts)), gD [di 0, di 0], c1 (di 0)]
  | .err l c e => .tup [c1 dnp, gD [di l, di c], c1 (di e)]
theorem nil_eq (w : World) : (binOp BinOp.eql 20 .nilIface .nilIface).run Tryz.prog w = .ok (.bool true) w := by kernel_rfl
theorem iface_eq (t : TypeId) (v : Value) (w : World) : (binOp BinOp.eql 20 (.iface t v) .nilIface).run Tryz.prog w = .ok (.bool false) w := by rfl
theorem catch_idle (x y z : Value) (w : World) :
    CallsD Tryz.prog 20 #[x, y, z] .returning w fun e u' w' => e = .returned (.tuple #[]) ∧ u' = .returning ∧ w' = w := by
  refine callsD_of_wpS Tryz.func20 rfl fun c₀ cs hu => ?_
  apply wpS_seq
  apply wpS_region
  simp [wpOpsS, go_sem, recoverD, hu, Tryz.ntmps20, Exit.thenS]
  refine wpS_of_wp ?_
  refine wp_block ?_
  apply wp_seq
  apply wp_region
  simp [wpOps, go_sem, nil_eq, Exit.then]
  repeat apply Or.inl
  refine Go.wp_cond_true ?hc ?h
  · simp [Act.eval]
  apply wp_region
  simp [wpOps, go_sem, Exit.inBlock]
  repeat apply Or.inl
  cases c₀
  simp_all [bodyPostS, results, Tryz.results20, Exit.thenS]
theorem assert_ok (v : Value) (w : World) : (Instr.typeAssert (.iface 89 v) 20 89 true).run Tryz.prog w = .ok (.tuple #[v, .bool true]) w := by
  simp [Instr.typeAssert, run_underlying, Tryz.underlying89]
abbrev pv (l c e : Nat) (r : Bool) : List PanicEntry := [{ v := fltV l c e, recovered := r }]
def hitM (f0 d1 d2 e0 : D) : List (Nat × Blk) := [(0, .obj [.d f0] 23), (1, .obj [.d d1, .d d2]), (2, .obj [.d e0])]
theorem catch_hit (l c e : Nat) (f0 d1 d2 e0 : D) {ι : Nat → Value} {S : Nat → Prop} {w : World} (hS : ∀ b, S b → b < w.heap.size) (hG : ΓL.G S w) (hblk : ∀ p ∈ hitM f0 d1 d2 e0, BlkOk ι S w p.1 p.2)
    (hdst : ∀ p ∈ hitM f0 d1 d2 e0, ∀ q ∈ hitM f0 d1 d2 e0, ∀ g, p.2.live = true → q.2.live = true → blkOf (ι p.1) = some g → blkOf (ι q.1) = some g → p.1 = q.1) :
    CallsD Tryz.prog 20 #[ι 0, ι 1, ι 2] (.panicking (pv l c e false)) w fun e' u' w' => e' = .returned (.tuple #[]) ∧ u' = .panicking (pv l c e true) ∧ ∃ ι' S', After ι S w 3 ⟨.und, [0, 1, 2], hitM dnp (di l) (di c) (di e), []⟩ undef ι' S' w' := by
  have hp : ∀ k, k < 3 → ∃ b, ι k = .pointer (some ⟨b, 0, none⟩) := fun k hk => by
    match k, hk with
    | 0, _ => obtain ⟨b, arr, ty, h1, _⟩ := hblk _ (List.mem_cons_self ..); exact ⟨b, h1⟩
    | 1, _ => obtain ⟨b, arr, ty, h1, _⟩ := hblk _ (List.mem_cons_of_mem _ (List.mem_cons_self ..)); exact ⟨b, h1⟩
    | 2, _ => obtain ⟨b, arr, ty, h1, _⟩ := hblk _ (List.mem_cons_of_mem _ (List.mem_cons_of_mem _ (List.mem_cons_self ..))); exact ⟨b, h1⟩
  obtain ⟨b0, hb0⟩ := hp 0 (by omega)
  obtain ⟨b1, hb1⟩ := hp 1 (by omega)
  obtain ⟨b2, hb2⟩ := hp 2 (by omega)
  refine callsD_of_wpS Tryz.func20 rfl fun c₀ cs hu => ?_
  apply wpS_seq
  apply wpS_region
  simp [wpOpsS, go_sem, recoverD, hu, Tryz.ntmps20, Exit.thenS]
  refine wpS_of_wp ?_
  refine wp_block ?_
  apply wp_seq
  apply wp_region
  simp [wpOps, go_sem, iface_eq, Exit.then]
  apply Or.inl
  refine Go.wp_cond_false ?hc ?h
  · simp [Act.eval]
  apply wp_seq
  apply wp_region
  simp [wpOps, go_sem, assert_ok, Exit.then]
  iterate 3 apply Or.inl
  refine Go.wp_cond_true ?hc2 ?h2
  · simp [Act.eval]
  refine Code.wp_mono (fun e1 a1 w1 h => ?_) (code_after (C := ⟨Tryz.prog, layF, Tryz.f20.ntmps, ΓL, 3, [], []⟩) (tm := [(0, .o (.c (.ptr 0 0))), (1, .o (.c (.ptr 1 0))), (2, .o (.c (.ptr 2 0))), (11, .o (gD [di l, di c, di e]))]) (m := hitM f0 d1 d2 e0) (upd := hitM dnp (di l) (di c) (di e)) (new := []) layF_ok mixed rfl ?hvc hS hG hblk hdst ?htm (by simp [Tryz.ntmps20]) rfl)
  case hvc =>
    repeat' (first | refine tT ?_ | refine tF ?_ | refine ex_dec (fun _ => ?_) (fun _ => ?_) | refine t8 ?_ | refine tI ?_ | refine tU ?_ | refine tA ?_ | refine tB ?_ | refine tL ?_ | refine tN ?_ | fail "no step")
    exact ⟨rfl, rfl, rfl⟩
  case htm =>
    intro t tv ht
    simp only [findL] at ht
    split at ht
    · rename_i h; subst h; cases ht
      exact ⟨b0, hb0, by simp [hb0]⟩
    · split at ht
      · rename_i h; subst h; cases ht
        exact ⟨b1, hb1, by simp [hb1]⟩
      · split at ht
        · rename_i h; subst h; cases ht
          exact ⟨b2, hb2, by simp [hb2]⟩
        · split at ht
          · rename_i h; subst h; cases ht
            exact ⟨[.int .i64 l, .int .i64 c, .int .i64 e], by simp, .cons (Imm.v rfl) (.cons (Imm.v rfl) (.cons (Imm.v rfl) .nil))⟩
          · cases ht
  obtain ⟨rfl, h1, ι', S', A⟩ := h
  simp only [Exit.inBlock, bodyPostS]
  exact ⟨h1, .panicking (pv l c e true), rfl, .tuple #[], by simp [results, Tryz.results20], rfl, rfl, ι', S', A⟩
end Go.Proofs.YtoingpafcodojaaGreatDoor

namespace Go.Proofs.YtoingpafcodojaaGreatDoor
open Go.RowKit

def HitP (v : Value) (st : St) (upd : List (Nat × Blk)) : Prop := ∃ (l c e : Nat) (f0 d1 d2 e0 : D), v = fltV l c e ∧ upd = hitM dnp (di l) (di c) (di e) ∧
  findL st.mem 0 = some (.obj [.d f0] 23) ∧ findL st.mem 1 = some (.obj [.d d1, .d d2]) ∧ findL st.mem 2 = some (.obj [.d e0])
theorem hitP_ok (v : Value) (st : St) (upd : List (Nat × Blk)) (h : HitP v st upd) (ι : Nat → Value) (S : Nat → Prop) (w : World) (hS : ∀ b, S b → b < w.heap.size) (hG : ΓL.G S w) (hblk : ∀ k b, findL st.mem k = some b → BlkOk ι S w k b)
    (hdst : ∀ k k' b b' g, findL st.mem k = some b → findL st.mem k' = some b' → b.live = true → b'.live = true → blkOf (ι k) = some g → blkOf (ι k') = some g → k = k') :
    CallsD Tryz.prog 20 ([0, 1, 2].map ι).toArray (.panicking (panE v)) w fun e' u' w' => e' = .returned (.tuple #[]) ∧ u' = .panicking [{ v, recovered := true }] ∧ ∃ ι' S', After ι S w st.nx ⟨.und, [], upd, []⟩ undef ι' S' w' := by
  obtain ⟨l, c, e, f0, d1, d2, e0, rfl, rfl, h0, h1, h2⟩ := h
  have hf : ∀ p ∈ hitM f0 d1 d2 e0, findL st.mem p.1 = some p.2 := fun p hp => by
    simp only [hitM, List.mem_cons, List.not_mem_nil, or_false] at hp
    rcases hp with rfl | rfl | rfl
    · exact h0
    · exact h1
    · exact h2
  refine (catch_hit l c e f0 d1 d2 e0 hS hG (fun p hp => hblk _ _ (hf p hp)) (fun p hp q hq g => hdst _ _ _ _ g (hf p hp) (hf q hq))).mono ?_
  rintro e' u' w' ⟨he, hu, ι', S', A⟩
  refine ⟨he, hu, ι', S', ⟨A.val, fun k _ => A.keep k (by show k < 3 ∨ 3 + 0 ≤ k; omega), A.smono, A.sgrow, A.slt, A.os, A.tape, A.output, A.size, A.heap, A.updok, fun i b hb => by simp at hb, fun i b hb => by simp at hb, fun i j b b' g hb => by simp at hb⟩⟩
def fileS (s : List UInt8) : FR := fileV (lexV s)
theorem Parse_c (s : List UInt8) : CallsA Tryz.prog ΓL 7 [c1 (ds (bs s))] (parT (fileS s)) := by
  have hlx := lex_c s
  obtain ⟨R, hR⟩ : ∃ R, fileS s = R := ⟨_, rfl⟩
  rw [hR]
  refine fn_ruleE (C := ⟨Tryz.prog, layF, Tryz.f7.ntmps, ΓL, 0, [5], []⟩) (g := 20) (t9 := 17) (nx2 := 3) (caps := [2, 3, 4]) (capN := [0, 1, 2]) layF_ok mixed Tryz.func7 rfl (by kernel_rfl) rfl rfl rfl HitP ?hdef ?henter ?hidle rfl hitP_ok ?h
  case hdef =>
    intro a w Q hsz h
    have h9 : 17 < a.tmps.size := by rw [hsz]; decide
    apply wp_region
    simp [wpOps, go_sem, h9]
    refine .inl (.inl ?_)
    simpa [Oper.upon, Act.put] using h (.func (.func 20) #[] #[a.tmps[2]?.getD undef, a.tmps[3]?.getD undef, a.tmps[4]?.getD undef])
  case henter =>
    intro vs w
    kernel_rfl
  case hidle =>
    intro vs w hl
    match vs, hl with
    | [x, y, z], _ => exact catch_idle x y z w
  case h =>
    rcases hl : lexV s with L | ⟨l, c, e⟩
    · rw [hl] at hlx
      have hlx : CallsA Tryz.prog ΓL 19 [c1 (ds (bs s))] (.tup [c1 (.sl 5 (L.map tokD)), gD [di 0, di 0], c1 (di 0)]) := hlx
      obtain ⟨hL, hn⟩ := lexV_ok hl
      repeat' (first | refine ex_call hlx ?_ | refine tT ?_ | refine tF ?_ | refine ex_dec (fun _ => ?_) (fun _ => ?_) | refine t8 ?_ | refine tI ?_ | refine tU ?_ | refine tA ?_ | refine tB ?_ | refine tL ?_ | refine tN ?_ | fail "no step")
      refine ⟨⟨rfl, rfl, rfl, trivial⟩, rfl, ?_⟩
      refine ex_join (X := Unit) (fun _ => ⟨[(2, .o (.c (.ptr 0 0))), (3, .o (.c (.ptr 1 0))), (4, .o (.c (.ptr 2 0))), (6, .o (.c (.ptr 4 0)))], [(0, .obj [.d dnp] 23), (1, .obj [.d (di 0), .d (di 0)]), (2, .obj [.d (di 0)]), (4, .obj [.d (.sl 5 (L.map tokD)), .d (di ((0 : Nat) : Int)), .d (di (32 - ((32 : Nat) : Int))), .ptr 3 0]), (3, Fz 5 6 7 8), (5, Cz []), (6, Uz []), (7, Xz []), (8, Tz [])], 9⟩) (fun _ => True) ?_ ?_
      · repeat' (first | refine tT ?_ | refine tF ?_ | refine ex_dec (fun _ => ?_) (fun _ => ?_) | refine t8 ?_ | refine tI ?_ | refine tU ?_ | refine tA ?_ | refine tB ?_ | refine tL ?_ | refine tN ?_ | fail "no step")
        exact ex_meet () trivial (SLe.via (SLe.ownCell 3 0 5 2 82 rfl rfl rfl rfl rfl rfl) (SLe.via (SLe.ownCell 3 1 6 3 146 rfl rfl rfl rfl rfl rfl) (SLe.via (SLe.ownCell 3 2 7 5 77 rfl rfl rfl rfl rfl rfl) (SLe.via (SLe.ownCell 3 3 8 8 57 rfl rfl rfl rfl rfl rfl) (SLe.of ⟨⟨rfl, rfl, rfl, rfl, trivial⟩, ⟨rfl, rfl, rfl, rfl, rfl, rfl, rfl, rfl, rfl, trivial⟩⟩)))))
      · intro _ _
        have hlen := hL.1
        have hw := whole_c (m := 32) hL hn rfl 0 (L.length + 1) [] [] [] [] ⟨hlen, by simp, by simp⟩ (by omega) (by simp) (by simp) _ rfl
        rcases hT : wholeN L (L.length + 1) [] [] ⟨0, [], []⟩ with ⟨⟨cs, rs⟩, s1⟩ | ⟨i, e⟩
        · obtain rfl : FR.ok cs rs s1.xs s1.ts = R := by rw [← hR]; unfold fileS fileV; rw [hl]; dsimp only; rw [hT]
          rw [hT] at hw
          have hw : CallsM Tryz.prog ΓL 21 [(0, Qz L 32 0), (1, Fz 2 3 4 5), (2, Cz []), (3, Uz []), (4, Xz []), (5, Tz [])] 6 [P0] (.tup []) [(0, Qz L 32 s1.i), (1, Fz 6 7 8 9), (2, .dead), (3, .dead), (4, .dead), (5, .dead)] [Cz cs, Uz rs, Xz s1.xs, Tz s1.ts] := hw
          repeat' (first | refine tT ?_ | refine tF ?_ | refine ex_dec (fun _ => ?_) (fun _ => ?_) | refine t8 ?_ | refine tI ?_ | refine tU ?_ | refine tA ?_ | refine tB ?_ | refine tL ?_ | refine tN ?_ | fail "no step")
          refine ex_callM (CallsM.ren hw [4, 3, 5, 6, 7, 8] 9 rfl rfl rfl rfl) ?_
          repeat' (first | refine tT ?_ | refine tF ?_ | refine ex_dec (fun _ => ?_) (fun _ => ?_) | refine t8 ?_ | refine tI ?_ | refine tU ?_ | refine tA ?_ | refine tB ?_ | refine tL ?_ | refine tN ?_ | fail "no step")
          exact ⟨_, SLe.via (show SLe 3 ⟨[(2, .o (.c (.ptr 0 0))), (3, .o (.c (.ptr 1 0))), (4, .o (.c (.ptr 2 0)))], [(0, .obj [.ptr 3 0] 23), (1, .obj [.d (di 0), .d (di 0)]), (2, .obj [.d (di 0)]), (3, Fz 9 10 11 12), (9, Cz cs), (10, Uz rs), (11, Xz s1.xs), (12, Tz s1.ts)], 13⟩ _ from (SLe.of ⟨⟨rfl, rfl, rfl, trivial⟩, ⟨rfl, rfl, rfl, rfl, rfl, rfl, rfl, rfl, trivial⟩⟩))
            (SLe.via (SLe.still 9 2 82 (cs.map coD) rfl) (SLe.via (SLe.still 10 3 146 (rs.map rcD) rfl) (SLe.via (SLe.still 11 5 77 (s1.xs.map exD) rfl) (SLe.via (SLe.still 12 8 57 (s1.ts.map tyD) rfl)
              (SLe.via (sle_fixO 0 0 3 (dl := fileD cs rs s1.xs s1.ts) rfl rfl rfl rfl) (show SLe 3 ⟨[(2, .o (.c (.ptr 0 0))), (3, .o (.c (.ptr 1 0))), (4, .o (.c (.ptr 2 0)))], [(0, .obj [.eptr (fileD cs rs s1.xs s1.ts)] 23), (1, .obj [.d (di 0), .d (di 0)]), (2, .obj [.d (di 0)])], 13⟩ _ from (SLe.of ⟨⟨rfl, rfl, rfl, trivial⟩, ⟨rfl, rfl, rfl, trivial⟩⟩))))))), TLe.rfl, rfl⟩
        · obtain rfl : FR.err (tk L i).l (tk L i).c e = R := by rw [← hR]; unfold fileS fileV; rw [hl]; dsimp only; rw [hT]
          rw [hT] at hw
          have hw : CallsM Tryz.prog ΓL 21 [(0, Qz L 32 0), (1, Fz 2 3 4 5), (2, Cz []), (3, Uz []), (4, Xz []), (5, Tz [])] 6 [P0] (.pan (flt L i e)) [(0, .dead), (1, .dead), (2, .dead), (3, .dead), (4, .dead), (5, .dead)] [] := hw
          repeat' (first | refine tT ?_ | refine tF ?_ | refine ex_dec (fun _ => ?_) (fun _ => ?_) | refine t8 ?_ | refine tI ?_ | refine tU ?_ | refine tA ?_ | refine tB ?_ | refine tL ?_ | refine tN ?_ | fail "no step")
          refine ex_callM (CallsM.ren hw [4, 3, 5, 6, 7, 8] 9 rfl rfl rfl rfl) ?_
          exact ⟨flt L i e, _, rfl, ⟨(tk L i).l, (tk L i).c, e, _, _, _, _, rfl, rfl, rfl, rfl, rfl⟩, rfl, rfl, _, fun _ _ _ _ h => h, TLe.rfl, rfl⟩
    · rw [hl] at hlx
      have he := lexV_err hl
      have hlx : CallsA Tryz.prog ΓL 19 [c1 (ds (bs s))] (.tup [c1 (.sl 5 []), gD [di l, di c], c1 (di e)]) := hlx
      obtain rfl : FR.err l c e = R := by rw [← hR]; unfold fileS; rw [hl]; rfl
      repeat' (first | refine ex_call hlx ?_ | refine tT ?_ | refine tF ?_ | refine ex_dec (fun _ => ?_) (fun _ => ?_) | refine t8 ?_ | refine tI ?_ | refine tU ?_ | refine tA ?_ | refine tB ?_ | refine tL ?_ | refine tN ?_ | fail "no step")
      exact ⟨_, fun _ _ _ _ h => h, TLe.rfl, rfl⟩
end Go.Proofs.YtoingpafcodojaaGreatDoor

namespace Go.Proofs.YtoingpafcodojaaGreatDoor
open Go.RowKit

def fnQF (L : Nat → Option Lay) (rs : List ResultVar) (r : TV) : Exit → St → Prop
  | .normal, st | .ret, st => retOkE 0 L rs r st
  | _, _ => False
theorem fn_ruleF {C : Ctx} {f : FuncId} {fn : Func} {c : Code} (hL : LOk C.P C.L) (hm : C.P.follows .mixedOrders = true) (hf : C.P.funcs[f]? = some fn) (hb : fn.body = some c) (hname : (fn.name == "runtime.NumGoroutine") = false)
    (hn : fn.ntmps = C.n) (h0 : C.nx0 = 0) {xs : List T1} (hx : Nat.ble xs.length C.n = true) {r : TV} (h : vc C c ⟨argTm 0 xs, [], 0⟩ (fnQF C.L fn.results.toList r)) : CallsA C.P C.Γ f xs r := by
  refine ⟨⟨fn, hf, hname, by rw [hb]; rfl⟩, fun S w vs hS hG hvs => ?_⟩
  have hxl := Nat.le_of_ble_eq_true hx
  have hlen := hvs.len
  refine calls_of_wp hf hb ?_
  have hR : RS ⟨w, fun _ => False, S, C.n, C.Γ, ι0, 0, []⟩ ⟨argTm 0 xs, [], 0⟩ { tmps := vs.toArray ++ Array.replicate (fn.ntmps - vs.toArray.size) undef, defers := [] } w := by
    refine ⟨ι0, S, rfl, rfl, rfl, Nat.le_refl _, fun _ _ _ => rfl, hS, fun _ h => h, fun _ h => .inl h, fun t tv ht => ?_, (fun k b hk => by cases hk), (fun k b hk => by cases hk), (fun k k' b b' g hk => by cases hk), rfl, ?_, hG, fun _ _ => rfl⟩
    · obtain ⟨x, rfl, _, hx⟩ := argTm_find xs 0 t tv ht
      rw [Nat.sub_zero] at hx
      obtain ⟨u, hu, hv⟩ := hvs.at_left hx
      have hlt := (List.getElem?_eq_some_iff.1 hu).1
      have : (vs.toArray ++ Array.replicate (fn.ntmps - vs.toArray.size) undef).getD t undef = u := by
        simp [Array.getElem?_append, hlt, hu]
        have h2 := (List.getElem?_eq_some_iff.1 hu).2
        exact h2
      show V ι0 S w (.o x) _
      dsimp only
      rw [this]
      exact hv
    · simp; omega
  refine Code.wp_mono (fun e a w' hq => ?_) (vc_ok hL ⟨rfl, rfl, h0.symm⟩ hm c _ _ _ w h hR)
  obtain ⟨st, hR', hq⟩ := hq
  have key : retOkE 0 C.L fn.results.toList r st → a.defers = [] ∧ ∃ v, (results fn a.tmps).run C.P w' = .ok v w' ∧ ∃ x S', Ending.returned v = .returned x ∧ Below w.heap.size w w' ∧ (∀ b, S b → S' b) ∧ (∀ b, S' b → S b ∨ w.heap.size ≤ b) ∧ (∀ b, S' b → b < w'.heap.size) ∧ V ι0 S' w' r x := fun hret => by
    obtain ⟨v, h1, h2⟩ := end_dataE hL hR' hret
    obtain ⟨ι, S1, I⟩ := hR'
    exact ⟨I.dn, v, h1, h2⟩
  cases e with
  | normal => exact key hq
  | ret => exact key hq
  | _ => exact hq.elim
theorem sle_fixT {nx0 : Nat} {tm : List (Nat × TV)} {mem : List (Nat × Blk)} {nx : Nat} (t0 k : Nat) {tg : TypeId} {dl : List D} (h0 : findL tm t0 = some (.o (.c (.ptr k 0)))) (hk : findL mem k = some (.obj (dl.map .d) tg)) :
    SLe nx0 ⟨(t0, .o (.c (.eptr dl))) :: tm, (k, .dead) :: mem, nx⟩ ⟨tm, mem, nx⟩ := fun E a w he ⟨ι, S, I⟩ => by
  obtain ⟨b, arr, ty, e1, e2, e3, e4⟩ := I.blk k _ hk
  have hbk : blkOf (ι k) = some b := by rw [e1]; rfl
  obtain ⟨S', hS'⟩ : ∃ S' : Nat → Prop, ∀ g, S' g ↔ S g ∨ g = b := ⟨fun g => S g ∨ g = b, fun _ => Iff.rfl⟩
  have hSS : ∀ g, S g → S' g := fun g h => (hS' g).2 (.inl h)
  have hblt : b < w.heap.size := (Array.getElem?_eq_some_iff.1 e2).1
  have hcase : ∀ n c, findL ((k, Blk.dead) :: mem) n = some c → c.live = true → n ≠ k ∧ findL mem n = some c := fun n c hn hl => by
    simp only [findL] at hn
    split at hn
    · cases hn; cases hl
    · rename_i e; exact ⟨fun h => e h.symm, hn⟩
  have hold : ∀ n c, findL mem n = some c → c.live = true → n ≠ k → BlkOk ι S' w n c := fun n c hn hl hnk => by
    have hc := I.blk n c hn
    refine BlkOk.mono (fun _ _ => rfl) hSS (fun _ => rfl) (fun _ _ => rfl) (fun _ g hg => ⟨rfl, fun hs => ?_⟩) hc
    rcases (hS' g).1 hs with h | h
    · exact ((hc.sep hl hg).2) h
    · subst h
      exact hnk (I.dst n k c _ g hn hk hl rfl hg hbk)
  refine ⟨ι, S', I.os, I.tape, I.output, I.size, I.old, fun g hg => ?_, fun g hg => hSS g (I.s0 g hg), fun g hg => ?_, fun t tv ht => ?_, fun n c hn => ?_, fun n c hn hl g hg => ?_, fun n n' c c' g hn hn' hl hl' hg hg' => ?_, I.dn, I.sz, E.Γ.mono (fun _ _ => rfl) hSS I.gl, I.ik⟩
  · rcases (hS' g).1 hg with h | h
    · exact I.slt g h
    · subst h; exact hblt
  · rcases (hS' g).1 hg with h | h
    · exact I.sg g h
    · subst h
      rcases I.mutb k _ hk rfl g hbk with h | h
      · exact .inr (.inr h)
      · exact .inr (.inl h)
  · simp only [findL] at ht
    split at ht
    · rename_i et
      cases ht
      have h3 : VC ι S w (.ptr k 0) (a.tmps.getD t undef) := et ▸ I.tms t0 _ h0
      obtain ⟨b3, g1, g2⟩ := h3
      rw [e1] at g1
      cases g1
      have e3' : All2 (fun (d : D) u => Imm S w d u) dl arr.toList := (All2.of_map_left (R := VC ι S w) (f := CV.d) e3).mono fun _ _ h => h
      refine ⟨b, 0, fun i => arr.toList.getD i undef, g2, fun _ => (hS' b).2 (.inr rfl), fun i d hd => ?_⟩
      obtain ⟨u1, hu1, hd1⟩ := e3'.at_left hd
      rw [Nat.zero_add, cell_of_row w b i arr ty.1 (0, 0) e2]
      have hg : arr.toList.getD i undef = u1 := by rw [List.getD_eq_getElem?_getD, hu1]; rfl
      refine ⟨?_, ?_⟩
      · show arr[i]? = some (arr.toList.getD i undef)
        rw [hg, ← hu1]; simp
      · show Imm S' w d (arr.toList.getD i undef)
        rw [hg]; exact hd1.mono (fun _ _ => rfl) hSS
    · exact V.mono (fun _ _ => rfl) hSS (fun _ _ => rfl) (I.tms t tv ht)
  · cases hl : c.live with
    | false => cases c <;> first | trivial | cases hl
    | true =>
      obtain ⟨hnk, hn⟩ := hcase n c hn hl
      exact hold n c hn hl hnk
  · obtain ⟨hnk, hn⟩ := hcase n c hn hl
    exact I.mutb n c hn hl g hg
  · obtain ⟨_, hn⟩ := hcase n c hn hl
    obtain ⟨_, hn'⟩ := hcase n' c' hn' hl'
    exact I.dst n n' c c' g hn hn' hl hl' hg hg'
end Go.Proofs.YtoingpafcodojaaGreatDoor

namespace Go.Proofs.YtoingpafcodojaaGreatDoor
def opsL7 : List (List UInt8) := levelsL.map (·.1)
def xsL (a b : List UInt8) : List EX := if levelV a < levelV b then [⟨1, [], 0, [120], []⟩, ⟨1, [], 0, [121], []⟩, ⟨1, [], 0, [122], []⟩, ⟨3, b, 0, [], [1, 2]⟩, ⟨3, a, 0, [], [0, 3]⟩] else [⟨1, [], 0, [120], []⟩, ⟨1, [], 0, [121], []⟩, ⟨3, a, 0, [], [0, 1]⟩, ⟨1, [], 0, [122], []⟩, ⟨3, b, 0, [], [2, 3]⟩]
deriving instance DecidableEq for EX, CA, TY, SB, IT, RC, CO, FR
end Go.Proofs.YtoingpafcodojaaGreatDoor

namespace Go.Proofs.YtoingpafcodojaaGreatDoor
open Go.RowKit

def preA : List UInt8 := [115, 116, 114, 117, 99, 116, 32, 83, 32, 123, 32, 97, 58, 32, 98, 121, 116, 101, 115, 91]
def postA : List UInt8 := [93, 59, 32, 125]
def textA (s : List UInt8) : List UInt8 := preA ++ s ++ postA
theorem of_ok (s : List UInt8) (hs : s.length ≤ 1000000) {cs : List CO} {rs : List RC} {xs : List EX} {t : TY} {ts : List TY} (h : fileS (textA s) = .ok cs rs xs (t :: ts)) (htl : ts.length ≤ 1000000) :
    CallsA Tryz.prog ΓL 13 [c1 (ds (bs s))] (.tup [.c (.eptr (fileD cs rs xs (t :: ts))), c1 (di t.ex)]) := by
  have hp := Parse_c (textA s)
  rw [h] at hp
  have hp : CallsA Tryz.prog ΓL 7 [c1 (ds (bs preA ++ bs s ++ bs postA))] (.tup [.c (.eptr (fileD cs rs xs (t :: ts))), gD [di 0, di 0], c1 (di 0)]) := by
    rw [bs_app, bs_app]
    exact hp
  have hsz : (bs s).size = s.length := by simp [bs, ByteArray.size]
  have hm : ((t :: ts).map tyD).length = ts.length + 1 := by simp
  refine fn_ruleF (C := ⟨Tryz.prog, layF, Tryz.f13.ntmps, ΓL, 0, [], []⟩) layF_ok mixed Tryz.func13 rfl (by kernel_rfl) rfl rfl rfl ?_
  have q1 : (bs preA).size + (bs s).size ≤ 9223372036854775807 := by
    rw [hsz]
    show 20 + s.length ≤ _
    omega
  have q2 : (bs preA ++ bs s).size + (bs postA).size ≤ 9223372036854775807 := by
    rw [ByteArray.size_append, hsz]
    show 20 + s.length + 4 ≤ _
    omega
  repeat' (first | refine tT ?_ | refine tF ?_ | refine ex_dec (fun _ => ?_) (fun _ => ?_) | refine t8 ?_ | refine tI ?_ | refine tU ?_ | refine tA ?_ | refine tB ?_ | refine tL ?_ | refine tN ?_ | fail "no step")
  refine and_mk q1 ?_
  repeat' (first | refine tT ?_ | refine tF ?_ | refine ex_dec (fun _ => ?_) (fun _ => ?_) | refine t8 ?_ | refine tI ?_ | refine tU ?_ | refine tA ?_ | refine tB ?_ | refine tL ?_ | refine tN ?_ | fail "no step")
  refine and_mk q2 ?_
  repeat' (first | refine ex_call hp ?_ | refine (ex_row (l := t :: ts) 0 t rfl rfl) ?_ | refine (ex_is _ hm) ?_ | refine (ex_pn (by kernel_rfl) false (fun _ _ => by kernel_rfl)) ?_ | refine tT ?_ | refine tF ?_ | refine ex_dec (fun _ => ?_) (fun _ => ?_) | refine t8 ?_ | refine tI ?_ | refine tU ?_ | refine tA ?_ | refine tB ?_ | refine tL ?_ | refine tN ?_ | fail "no step")
  exact ⟨_, SLe.rfl, TLe.rfl, rfl⟩
def wkS : List UInt8 := [110, 32, 42, 32, 40, 110, 32, 45, 32, 49, 41]
def wkX : List EX := [⟨1, [], 0, [110], []⟩, ⟨1, [], 0, [110], []⟩, ⟨0, [], 1, [], []⟩, ⟨3, [45], 0, [], [1, 2]⟩, ⟨3, [42], 0, [], [0, 3]⟩]
def wkY : TY := ⟨1, 0, false, [], [], 4, -1, []⟩
def wkR : List RC := [⟨[83], [], [⟨[97], 0, 0, [], [], -1, 0, false, []⟩]⟩]
theorem wk_file : fileS (textA wkS) = .ok [] wkR wkX [wkY] := by decide +kernel
theorem wk_e1 : evalE (wkX.map EX.ei) 4 [([110], 3)] = (6, 0) := by decide +kernel
theorem wk_e2 : evalE (wkX.map EX.ei) 4 [([110], 3), ([110], 0)] = (0, 5) := by decide +kernel
theorem wk_eval (e : EV) (he : EnvOk e) (hel : e.length ≤ 1000000) : CallsA Tryz.prog ΓL 11 [.c (.eptr (fileD [] wkR wkX [wkY])), c1 (di 4), c1 (.sl 2 (e.map evD))] (owT (evalE (wkX.map EX.ei) 4 e)) :=
  (eval_c (wkX.map EX.ei) e (.sl 2 ([].map coD)) (.sl 3 (wkR.map rcD)) (.sl 8 ([wkY].map tyD)) 4 (by unfold XsOk; decide) he hel (by decide) (by decide) (by decide)).gL
set_option maxHeartbeats 2000000 in
theorem wakes10_c : CallsA Tryz.prog ΓL 9 [] (Tb true) := by
  have ho := of_ok wkS (by decide) wk_file (by decide)
  have h1 := wk_eval [([110], 3)] (by unfold EnvOk; decide) (by decide)
  rw [wk_e1] at h1
  have h2 := wk_eval [([110], 3), ([110], 0)] (by unfold EnvOk; decide) (by decide)
  rw [wk_e2] at h2
  have h3 := (eval_nil 0 dnil).gL
  refine fn_rule (C := ⟨Tryz.prog, layF, Tryz.f9.ntmps, ΓL, 0, [], []⟩) layF_ok mixed Tryz.func9 rfl (by kernel_rfl) rfl rfl rfl ?_
  repeat' (first | refine ex_call h3 ?_ | refine ex_call ho ?_ | refine tT ?_ | refine tF ?_ | refine ex_dec (fun _ => ?_) (fun _ => ?_) | refine t8 ?_ | refine tI ?_ | refine tU ?_ | refine tA ?_ | refine tB ?_ | refine tL ?_ | refine tN ?_ | fail "no step")
  refine ex_callM (h1.toM (by kernel_rfl) (by kernel_rfl) _) ?_
  repeat' (first | refine ex_call h3 ?_ | refine ex_call ho ?_ | refine tT ?_ | refine tF ?_ | refine ex_dec (fun _ => ?_) (fun _ => ?_) | refine t8 ?_ | refine tI ?_ | refine tU ?_ | refine tA ?_ | refine tB ?_ | refine tL ?_ | refine tN ?_ | fail "no step")
  refine ex_callM (h2.toM (by kernel_rfl) (by kernel_rfl) _) ?_
  repeat' (first | refine ex_call h3 ?_ | refine ex_call ho ?_ | refine tT ?_ | refine tF ?_ | refine ex_dec (fun _ => ?_) (fun _ => ?_) | refine t8 ?_ | refine tI ?_ | refine tU ?_ | refine tA ?_ | refine tB ?_ | refine tL ?_ | refine tN ?_ | fail "no step")
  exact TLe.rfl
end Go.Proofs.YtoingpafcodojaaGreatDoor

namespace Go.Proofs.YtoingpafcodojaaGreatDoor
open Go.RowKit

def cutK (x : EI) : EI := { x with kids := x.kids.take 4 }
def fxD (xs : List EI) : List D := [dnil, dnil, .sl 5 (xs.map eiD), dnil]
set_option maxHeartbeats 2000000 in
theorem files_c (l : List EI) (hl : l.length ≤ 9223372036854775807) (hk : ∀ x ∈ l, x.kids.length ≤ 9223372036854775807) :
    CallsA Tryz.prog Γ0 14 [c1 (.sl 5 (l.map eiD))] (.tup [.c (.eptr (fxD ((l.take 60).map cutK))), c1 (.sl 5 (((l.take 60).map cutK).map eiD))]) := by
  have hm : (l.map eiD).length = l.length := List.length_map _
  have hF : ((l.map eiD).take (((min 60 l.length : Nat) : Int)).toNat).drop ((0 : Int)).toNat = (l.take 60).map eiD := by
    rw [Int.toNat_natCast, show (0 : Int).toNat = 0 from rfl, List.drop_zero, ← List.map_take, ← List.take_eq_take_min]
  have hFl : (l.take 60).length ≤ 60 := by rw [List.length_take]; omega
  have hFm : ((l.take 60).map eiD).length = (l.take 60).length := List.length_map _
  have hFk : ∀ x ∈ l.take 60, x.kids.length ≤ 9223372036854775807 := fun x hx => hk x (List.mem_of_mem_take hx)
  refine fn_ruleF (C := ⟨Tryz.prog, layF, Tryz.f14.ntmps, Γ0, 0, [], []⟩) layF_ok mixed Tryz.func14 rfl (by kernel_rfl) rfl rfl rfl ?_
  repeat' (first | refine (ex_is _ hm) ?_ | refine tT ?_ | refine tF ?_ | refine ex_dec (fun _ => ?_) (fun _ => ?_) | refine t8 ?_ | refine tI ?_ | refine tU ?_ | refine tA ?_ | refine tB ?_ | refine tL ?_ | refine tN ?_ | fail "no step")
  refine ex_is ((min 60 l.length : Nat) : Int) (by split <;> omega) ?_
  repeat' (first | refine tT ?_ | refine tF ?_ | refine ex_dec (fun _ => ?_) (fun _ => ?_) | refine t8 ?_ | refine tI ?_ | refine tU ?_ | refine tA ?_ | refine tB ?_ | refine tL ?_ | refine tN ?_ | fail "no step")
  refine ex_is _ hF ?_
  generalize l.take 60 = F at *
  repeat' (first | refine (ex_is _ hFm) ?_ | refine tT ?_ | refine tF ?_ | refine ex_dec (fun _ => ?_) (fun _ => ?_) | refine t8 ?_ | refine tI ?_ | refine tU ?_ | refine tA ?_ | refine tB ?_ | refine tL ?_ | refine tN ?_ | fail "no step")
  refine ex_loop (X := Nat × List EI) (fun ⟨q, A⟩ => ⟨[(4, .o (.c (.ptr 0 0))), (5, .o (.c (.row 2))), (14, .o (c1 (.sl 5 (F.map eiD)))), (15, Ti F.length), (16, Ti q)], [(0, .obj [.d dnil, .d dnil, .row 1, .d dnil]), (1, .row 5 77 (A.map eiD)), (2, .row 5 127 (A.map eiD))], 3⟩) (fun x => F.length - x.1) (fun ⟨q, A⟩ => q ≤ F.length ∧ A = (F.take q).map cutK) (0, []) ⟨Nat.zero_le _, rfl⟩ (SLe.via (SLe.ownCell 0 2 1 5 77 rfl rfl rfl rfl rfl rfl) (SLe.via (SLe.own 5 2 5 127 rfl rfl rfl rfl rfl) (SLe.of ⟨⟨rfl, rfl, rfl, rfl, rfl, trivial⟩, ⟨rfl, rfl, rfl, trivial⟩⟩))) ?_
  rintro ⟨q, A⟩ ⟨hq, hA⟩
  refine ex_dec (fun h => ?_) (fun h => ?_)
  · have hql : q < F.length := by omega
    have hc : F[q]? = some F[q] := at_some hql
    have htk : F.take (q + 1) = F.take q ++ [F[q]] := by rw [List.take_add_one, hc]; rfl
    have htl : A.length = q := by rw [hA, List.length_map, List.length_take]; omega
    have hap : A.map eiD ++ [eiD (cutK F[q])] = ((F.take (q + 1)).map cutK).map eiD := by rw [htk, List.map_append, List.map_append, hA]; rfl
    have hkl := hFk F[q] (List.getElem_mem hql)
    generalize F[q] = f at *
    have hkm : (f.kids.map fun k => [di k]).length = f.kids.length := List.length_map _
    have hG : ((f.kids.map fun k => [di k]).take (((min 4 f.kids.length : Nat) : Int)).toNat).drop ((0 : Int)).toNat = (f.kids.take 4).map fun k => [di k] := by
      rw [Int.toNat_natCast, show (0 : Int).toNat = 0 from rfl, List.drop_zero, ← List.map_take, ← List.take_eq_take_min]
    repeat' (first | refine (ex_is _ hkm) ?_ | refine (ex_row q f rfl hc) ?_ | refine tT ?_ | refine tF ?_ | refine ex_dec (fun _ => ?_) (fun _ => ?_) | refine t8 ?_ | refine tI ?_ | refine tU ?_ | refine tA ?_ | refine tB ?_ | refine tL ?_ | refine tN ?_ | fail "no step")
    refine ex_is ((min 4 f.kids.length : Nat) : Int) (by split <;> omega) ?_
    repeat' (first | refine tT ?_ | refine tF ?_ | refine ex_dec (fun _ => ?_) (fun _ => ?_) | refine t8 ?_ | refine tI ?_ | refine tU ?_ | refine tA ?_ | refine tB ?_ | refine tL ?_ | refine tN ?_ | fail "no step")
    refine ex_is _ hG ?_
    repeat' (first | refine tT ?_ | refine tF ?_ | refine ex_dec (fun _ => ?_) (fun _ => ?_) | refine t8 ?_ | refine tI ?_ | refine tU ?_ | refine tA ?_ | refine tB ?_ | refine tL ?_ | refine tN ?_ | fail "no step")
    refine ex_app (q) (1) 1000 (by first | rfl | (simp; done) | (simp; omega)) (by first | rfl | (simp; done) | (simp; omega)) rfl (by omega) ?_
    refine ex_is _ hap ?_
    repeat' (first | refine tT ?_ | refine tF ?_ | refine ex_dec (fun _ => ?_) (fun _ => ?_) | refine t8 ?_ | refine tI ?_ | refine tU ?_ | refine tA ?_ | refine tB ?_ | refine tL ?_ | refine tN ?_ | fail "no step")
    refine ex_app (q) (1) 1000 (by first | rfl | (simp; done) | (simp; omega)) (by first | rfl | (simp; done) | (simp; omega)) rfl (by omega) ?_
    refine ex_is _ hap ?_
    repeat' (first | refine ex_i64 ((q + 1 : Nat) : Int) (by omega) (by omega) (by omega) ?_ | refine ex_u64 ((q + 1 : Nat) : Int) (by omega) (by omega) (by omega) ?_ | refine ex_u8 ((q + 1 : Nat) : Int) (by omega) (by omega) (by omega) ?_ | refine tT ?_ | refine tF ?_ | refine ex_dec (fun _ => ?_) (fun _ => ?_) | refine t8 ?_ | refine tI ?_ | refine tU ?_ | refine tA ?_ | refine tB ?_ | refine tL ?_ | refine tN ?_ | fail "no step")
    exact ex_round (q + 1, (F.take (q + 1)).map cutK) ⟨by omega, rfl⟩ (by show _ - _ < _ - _; omega) (SLe.ren [(0, 0), (5, 1), (7, 2)] ⟨⟨rfl, rfl⟩, ⟨rfl, rfl⟩, ⟨rfl, rfl⟩, ⟨rfl, rfl⟩, ⟨rfl, rfl⟩, trivial⟩ ⟨⟨rfl, rfl⟩, ⟨rfl, rfl⟩, ⟨rfl, rfl⟩, trivial⟩ rfl)
  · obtain rfl : q = F.length := by omega
    rw [List.take_length] at hA
    subst hA
    repeat' (first | refine tT ?_ | refine tF ?_ | refine ex_dec (fun _ => ?_) (fun _ => ?_) | refine t8 ?_ | refine tI ?_ | refine tU ?_ | refine tA ?_ | refine tB ?_ | refine tL ?_ | refine tN ?_ | fail "no step")
    exact ⟨_, SLe.via (SLe.still 1 5 77 ((F.map cutK).map eiD) rfl) (SLe.via (SLe.still 2 5 127 ((F.map cutK).map eiD) rfl) (SLe.via (sle_fixT 2 0 (dl := fxD (F.map cutK)) rfl rfl) (show SLe 0 ⟨[(2, .o (.c (.eptr (fxD (F.map cutK))))), (3, .o (c1 (.sl 5 ((F.map cutK).map eiD))))], [], 3⟩ _ from (SLe.of ⟨⟨rfl, rfl, trivial⟩, trivial⟩)))), TLe.rfl, rfl⟩
end Go.Proofs.YtoingpafcodojaaGreatDoor

namespace Go.Proofs.YtoingpafcodojaaGreatDoor
open Go.RowKit Go.Shelf

theorem with_m (Γ : Glob) (e : EV) (nm : List UInt8) (n : Nat) (hl : e.length ≤ 1000000) (k nx : Nat) (hk : k < nx) :
    CallsM Tryz.prog Γ 15 [(k, .row 2 69 (e.map evD))] nx [.c (.row k), c1 (ds (bs nm)), c1 (du n)] (.o (.c (.row nx))) [] [.row 2 69 ((e ++ [(nm, n)]).map evD)] :=
  ⟨⟨_, Tryz.func15, by kernel_rfl, rfl⟩, fun ι S w vs hS hG hB0 _ hvs => by
    obtain ⟨u, vs, rfl, e0, hvs⟩ := hvs.cons_left
    obtain ⟨v, vs, rfl, e1, hvs⟩ := hvs.cons_left
    obtain ⟨x, rfl, e2⟩ := hvs.one_left
    have hrow := hB0 _ (List.mem_singleton.2 rfl)
    have hrow : BlkOk ι S w k (.row 2 69 (e.map evD)) := hrow
    have e0 : u = ι k ∧ ∃ o n c, u = .slice o n c := e0
    obtain ⟨rfl, -⟩ := e0
    obtain ⟨S1, hS1⟩ : ∃ S1 : Nat → Prop, ∀ g, S1 g ↔ S g ∨ blkOf (ι k) = some g := ⟨fun g => S g ∨ blkOf (ι k) = some g, fun _ => Iff.rfl⟩
    have hS1lt : ∀ b, S1 b → b < w.heap.size := fun b hb => ((hS1 b).1 hb).elim (hS b) fun h => (row_lt hrow b h).1
    obtain ⟨a, cap, hu, hI⟩ := vars_of hS1lt (show V1 ι0 S1 w (c1 (.sl 2 (e.map evD))) (ι k) from row_imm hrow (fun b hb => (hS1 b).2 (.inl hb)) fun g hg => (hS1 g).2 (.inr hg))
    rw [hu]
    have e1 : Imm S w (ds (bs nm)) v := e1
    cases e1
    have e2 : Imm S w (du n) x := e2
    cases e2
    refine (with_in a cap e nm n w hl hI).mono fun r w' ⟨v', hr, hown, hB⟩ => ?_
    have hlen : (e ++ [(nm, n)]).length = e.length + 1 := by simp
    rw [← hlen] at hown
    have hown0 : w'.ownsRow 0 69 2 v' ((e ++ [(nm, n)]).map evD).length (cellsE (e ++ [(nm, n)])) := by
      rw [List.length_map]
      refine ⟨hown.1, ?_⟩
      rcases hown.2 with h | ⟨g, c, cur, h1, _, h3⟩
      · exact .inl h
      · exact .inr ⟨g, c, cur, h1, Nat.zero_le _, h3⟩
    have hblk : ∀ b, blkOf v' = some b → w.heap.size ≤ b ∧ b < w'.heap.size := fun b hb => by
      rcases hown.2 with ⟨h, _⟩ | ⟨g, c, cur, h1, h2, h3, _⟩
      · rw [h] at hb; cases hb
      · rw [h1] at hb
        cases hb
        exact ⟨h2, (Array.getElem?_eq_some_iff.1 h3).1⟩
    obtain ⟨ι', hι'⟩ : ∃ ι' : Nat → Value, ∀ j, ι' j = if j = nx then v' else ι j := ⟨fun j => if j = nx then v' else ι j, fun _ => rfl⟩
    have hnx : ι' nx = v' := by rw [hι', if_pos rfl]
    refine .inl ⟨v', ι', S, hr, ⟨?_, fun j hj => ?_, fun b h => h, fun b h => .inl h, fun b h => Nat.lt_of_lt_of_le (hS b h) hB.size, hB.os, hB.tape, hB.output, hB.size, fun b hb _ => hB.block b hb, fun _ _ h => (by cases h), fun i b hb => ?_, fun i b hb hl' g hg => ?_, fun i j b b' g hb hb' _ _ _ _ => ?_⟩⟩
    · have hsl : ∃ o n c, v' = .slice o n c := by
        rcases hown.2 with ⟨h, _⟩ | ⟨g, c, cur, h1, _⟩
        · exact ⟨_, _, _, h⟩
        · exact ⟨_, _, _, h1⟩
      show v' = ι' nx ∧ ∃ o n c, v' = .slice o n c
      exact ⟨hnx.symm, hsl⟩
    · rw [hι', if_neg]
      have : j < nx ∨ nx + 1 ≤ j := hj
      omega
    · match i, hb with
      | 0, hb =>
        cases hb
        show BlkOk ι' S w' nx _
        refine ⟨_, ?_, imms_of _, evD_len _, fun b hb => ?_⟩
        · rw [hnx]; exact hown0
        · rw [hnx] at hb
          have := (hblk b hb).1
          intro hs
          have := hS b hs
          omega
      | _ + 1, hb => simp at hb
    · match i, hb with
      | 0, hb =>
        have hg : blkOf (ι' nx) = some g := hg
        rw [hnx] at hg
        have := (hblk g hg).1
        exact ⟨fun hs => by have := hS g hs; omega, .inl this⟩
      | _ + 1, hb => simp at hb
    · match i, j, hb, hb' with
      | 0, 0, _, _ => rfl
      | _ + 1, _, hb, _ => simp at hb
      | _, _ + 1, _, hb => simp at hb⟩
def zqO : List UInt8 := [122, 113, 95, 111, 116, 104, 101, 114]
def zqL : List UInt8 := [122, 113, 95, 108, 97, 115, 116]
theorem exprE_names {xs : List EI} : ∀ (t : ET) (i : Nat), exprE xs i = some t → ∀ w ∈ namesET t, ∃ x ∈ xs, x.nm = w := by
  intro t
  induction t with
  | num n => intro i h w hw; cases hw
  | name u =>
    intro i h w hw
    obtain ⟨x, h1, h2⟩ := exprE_inv h
    rcases treeE_inv h2 with ⟨-, e⟩ | ⟨-, e⟩ | ⟨a, u, -, -, -, e⟩ | ⟨a, b, u, v, -, -, -, -, e⟩ <;> cases e
    exact ⟨x, List.mem_of_getElem? h1, (List.mem_singleton.1 hw).symm⟩
  | not a iha =>
    intro i h
    obtain ⟨x, h1, h2⟩ := exprE_inv h
    rcases treeE_inv h2 with ⟨-, e⟩ | ⟨-, e⟩ | ⟨a, u, -, -, hu, e⟩ | ⟨a, b, u, v, -, -, -, -, e⟩ <;> cases e
    obtain ⟨j, -, -, -, hj⟩ := kidE_inv hu
    exact iha j hj
  | bin op a b iha ihb =>
    intro i h w hw
    obtain ⟨x, h1, h2⟩ := exprE_inv h
    rcases treeE_inv h2 with ⟨-, e⟩ | ⟨-, e⟩ | ⟨a, u, -, -, hu, e⟩ | ⟨a, b, u, v, -, -, hu, hv, e⟩ <;> cases e
    obtain ⟨j, -, -, -, hj⟩ := kidE_inv hu
    obtain ⟨j', -, -, -, hj'⟩ := kidE_inv hv
    rcases List.mem_append.1 hw with hw | hw
    · exact iha j hj w hw
    · exact ihb j' hj' w hw
def MoreOk (A M : EV) : Prop := ∀ p ∈ M, (p.1 = zqO ∨ ∃ r ∈ A, r.1 = p.1) ∧ p.2 < 18446744073709551616
theorem get_more {A M : EV} (hM : MoreOk A M) {w : List UInt8} (h1 : w ≠ zqO) (h2 : w ≠ zqL) : getE (M ++ A ++ [(zqL, 7)]) w = getE A w := by
  rw [getE_last, if_neg (fun h => h2 h.symm), getE_app]
  cases hA : getE A w with
  | some n => rfl
  | none =>
    show getE M w = none
    cases hm : getE M w with
    | none => rfl
    | some n =>
      obtain ⟨p, hp, hp1, hp2⟩ := getE_mem hm
      rcases (hM p hp).1 with h | ⟨r, hr, h⟩
      · exact absurd (hp1 ▸ h) h1
      · obtain ⟨m, hm⟩ := getE_some (a := A) (nm := w) ⟨r, hr, h.trans hp1⟩
        rw [hm] at hA; cases hA
theorem only_plain {A M : EV} (hM : MoreOk A M) {xs : List EI} (hx : ∀ x ∈ xs, x.nm ≠ zqO ∧ x.nm ≠ zqL) (z : Int) : evalE xs z (M ++ A ++ [(zqL, 7)]) = evalE xs z A := by
  unfold evalE
  by_cases h0 : 0 ≤ z
  · obtain ⟨i, rfl⟩ := Int.eq_ofNat_of_zero_le h0
    cases ht : exprE xs i with
    | none => rfl
    | some t =>
      refine evalT_same t fun w hw => ?_
      obtain ⟨x, hx1, rfl⟩ := exprE_names t i ht w hw
      exact get_more hM (hx x hx1).1 (hx x hx1).2
  · rw [show exprE xs z = none by unfold exprE kidE; rw [if_neg h0]]
theorem MoreOk.envOk {A M : EV} (hM : MoreOk A M) (hA : EnvOk A) : EnvOk (M ++ A ++ [(zqL, 7)]) := fun p hp => by
  rcases List.mem_append.1 hp with hp | hp
  · rcases List.mem_append.1 hp with hp | hp
    · exact (hM p hp).2
    · exact hA p hp
  · rw [List.mem_singleton.1 hp]; decide
theorem MoreOk.step {A M : EV} (hM : MoreOk A M) (q : Nat) (hq : q < 18446744073709551616) {r : BV} (hr : r ∈ A) : MoreOk A (M ++ [(zqO, q)] ++ [(r.1, 99)]) := fun p hp => by
  rcases List.mem_append.1 hp with hp | hp
  · rcases List.mem_append.1 hp with hp | hp
    · exact hM p hp
    · rw [List.mem_singleton.1 hp]; exact ⟨.inl rfl, hq⟩
  · rw [List.mem_singleton.1 hp]; exact ⟨.inr ⟨r, hr, rfl⟩, show 99 < 18446744073709551616 by decide⟩
end Go.Proofs.YtoingpafcodojaaGreatDoor

namespace Go.Proofs.YtoingpafcodojaaGreatDoor
open Go.RowKit

def ΓW : Glob := ⟨ΓL.G, ΓL.mono, [15], ΓL.gl, ΓL.gok⟩
theorem CallsA.toW {f : FuncId} {xs : List T1} {r : TV} (h : CallsA Tryz.prog ΓL f xs r) : CallsA Tryz.prog ΓW f xs r := ⟨h.1, fun S w vs hS hG hv => h.2 S w vs hS hG hv⟩
theorem CallsA.frW {f : FuncId} {xs : List T1} {r : TV} (h : CallsA Tryz.prog ΓW f xs r) : CallsA Tryz.prog ΓL f xs r := ⟨h.1, fun S w vs hS hG hv => h.2 S w vs hS hG hv⟩
set_option maxHeartbeats 4000000 in
theorem exprOnly_of (hw : CallsA Tryz.prog ΓL 9 [] (Tb true)) (l : List EI) (hl : l.length ≤ 9223372036854775807) (hk : ∀ x ∈ l, x.kids.length ≤ 9223372036854775807) (hn : XsOk l) (at' : Int) (hat : -9223372036854775808 ≤ at' ∧ at' ≤ 9223372036854775807) (e : EV) (hel : e.length ≤ 9223372036854775807) (hE : EnvOk e) :
    CallsA Tryz.prog ΓL 5 [c1 (.sl 5 (l.map eiD)), c1 (di at'), c1 (.sl 2 (e.map evD))] (Tb true) := by
  refine CallsA.frW ?_
  have hw := hw.toW
  have hf := (files_c l hl hk).gL.toW
  have hv := (envs_c e hel).gL.toW
  have hXn : XsOk ((l.take 60).map cutK) := fun x hx => by
    obtain ⟨y, hy, rfl⟩ := List.mem_map.1 hx
    exact hn y (List.mem_of_mem_take hy)
  have hXl : ((l.take 60).map cutK).length ≤ 60 := by rw [List.length_map, List.length_take]; omega
  have hXk : ∀ x ∈ (l.take 60).map cutK, x.kids.length ≤ 1000000 := fun x hx => by
    obtain ⟨y, hy, rfl⟩ := List.mem_map.1 hx
    show (y.kids.take 4).length ≤ _
    rw [List.length_take]; omega
  have hAn : EnvOk (e.take 20) := fun p hp => hE p (List.mem_of_mem_take hp)
  have hAl : (e.take 20).length ≤ 20 := by rw [List.length_take]; omega
  generalize (l.take 60).map cutK = X at *
  generalize e.take 20 = A at *
  have hm : (l.map eiD).length = l.length := List.length_map _
  have hAm : (A.map evD).length = A.length := List.length_map _
  have hXm : (X.map eiD).length = X.length := List.length_map _
  have hev : ∀ (z : Int) (E : EV), EnvOk E → E.length ≤ 1000000 → -9223372036854775808 ≤ z ∧ z ≤ 9223372036854775807 → CallsA Tryz.prog ΓW 11 [.c (.eptr (fxD X)), c1 (di z), c1 (.sl 2 (E.map evD))] (owT (evalE X z E)) := fun z E h1 h2 h3 => (eval_c X E dnil dnil dnil z hXn h1 h2 (by omega) hXk h3).gL.toW
  refine fn_rule (C := ⟨Tryz.prog, layF, Tryz.f5.ntmps, ΓW, 0, [], []⟩) layF_ok mixed Tryz.func5 rfl (by kernel_rfl) rfl rfl rfl ?_
  obtain ⟨mx, hmx, hmxl⟩ : ∃ mx : Nat, (if 0 < at' then at' else 0) = (mx : Int) ∧ mx ≤ 9223372036854775807 := by
    by_cases h0 : 0 < at'
    · exact ⟨at'.toNat, by rw [if_pos h0]; omega, by omega⟩
    · exact ⟨0, by rw [if_neg h0]; rfl, by omega⟩
  repeat' (first | refine ex_call hv ?_ | refine ex_call hf ?_ | refine (ex_is _ hm) ?_ | refine tT ?_ | refine tF ?_ | refine ex_dec (fun _ => ?_) (fun _ => ?_) | refine t8 ?_ | refine tI ?_ | refine tU ?_ | refine tA ?_ | refine tB ?_ | refine tL ?_ | refine tN ?_ | fail "no step")
  refine ex_is _ hmx ?_
  repeat' (first | refine ex_call hv ?_ | refine ex_call hf ?_ | refine (ex_is _ hm) ?_ | refine tT ?_ | refine tF ?_ | refine ex_dec (fun _ => ?_) (fun _ => ?_) | refine t8 ?_ | refine tI ?_ | refine tU ?_ | refine tA ?_ | refine tB ?_ | refine tL ?_ | refine tN ?_ | fail "no step")
  obtain ⟨y, z, hy, hy0, hz, hzl⟩ : ∃ (y : Int) (z : Nat), IntKind.i64.wrap ((l.length : Int) + 1) = y ∧ y ≠ 0 ∧ (mx : Int).tmod y = (z : Int) ∧ z ≤ 9223372036854775807 := by
    by_cases h0 : l.length < 9223372036854775807
    · refine ⟨((l.length + 1 : Nat) : Int), mx % (l.length + 1), ?_, by omega, (Int.ofNat_tmod _ _).symm, Nat.le_trans (Nat.mod_le _ _) hmxl⟩
      rw [show ((l.length : Int) + 1) = ((l.length + 1 : Nat) : Int) by omega]
      exact wrap_i64' (by omega) (by omega)
    · obtain h1 : l.length = 9223372036854775807 := by omega
      rw [h1]
      refine ⟨-9223372036854775808, mx, by decide, by decide, ?_, hmxl⟩
      show ((mx % 9223372036854775808 : Nat) : Int) = mx
      omega
  refine ex_is y hy ?_
  repeat' (first | refine tT ?_ | refine tF ?_ | refine ex_dec (fun _ => ?_) (fun _ => ?_) | refine t8 ?_ | refine tI ?_ | refine tU ?_ | refine tA ?_ | refine tB ?_ | refine tL ?_ | refine tN ?_ | fail "no step")
  refine ex_is _ hz ?_
  obtain ⟨⟨n1, e1⟩, hr1⟩ : ∃ r, evalE X z A = r := ⟨_, rfl⟩
  have hev1 := hev z A hAn (by omega) ⟨by omega, by omega⟩
  rw [hr1] at hev1
  repeat' (first | refine tT ?_ | refine tF ?_ | refine ex_dec (fun _ => ?_) (fun _ => ?_) | refine t8 ?_ | refine tI ?_ | refine tU ?_ | refine tA ?_ | refine tB ?_ | refine tL ?_ | refine tN ?_ | fail "no step")
  refine ex_callM (hev1.toM (by kernel_rfl) (by kernel_rfl) _) ?_
  repeat' (first | refine (ex_is _ hAm) ?_ | refine tT ?_ | refine tF ?_ | refine ex_dec (fun _ => ?_) (fun _ => ?_) | refine t8 ?_ | refine tI ?_ | refine tU ?_ | refine tA ?_ | refine tB ?_ | refine tL ?_ | refine tN ?_ | fail "no step")
  refine ex_loop (X := Nat × EV) (fun ⟨q, M⟩ => ⟨[(6, Tb false), (7, .o (.c (.eptr (fxD X)))), (9, .o (c1 (.sl 2 (A.map evD)))), (11, Ti z), (12, .o (c1 (du n1))), (13, .o (c1 (di e1))), (14, .o (.c (.row 0))), (45, Ti A.length), (46, Ti q)], [(0, .row 2 69 (M.map evD))], 1⟩) (fun x => A.length - x.1) (fun ⟨q, M⟩ => q ≤ A.length ∧ M.length = 2 * q ∧ MoreOk A M) (0, []) ⟨Nat.zero_le _, rfl, fun p hp => by cases hp⟩ (SLe.of ⟨⟨rfl, rfl, rfl, rfl, rfl, rfl, rfl, rfl, rfl, trivial⟩, ⟨rfl, trivial⟩⟩) ?_
  rintro ⟨q, M⟩ ⟨hq, hM, hMo⟩
  refine ex_dec (fun h => ?_) (fun h => ?_)
  · have hql : q < A.length := by omega
    obtain ⟨j, hj⟩ : ∃ j, A.length - 1 - q = j := ⟨_, rfl⟩
    have hjl : j < A.length := by omega
    have hc : A[j]? = some A[j] := at_some hjl
    have hrm : A[j] ∈ A := List.getElem_mem hjl
    have hst := hMo.step q (by omega) hrm
    generalize A[j] = r at *
    repeat' (first | refine ex_i64 ((q : Nat) : Int) (by omega) (by omega) (by omega) ?_ | refine ex_u64 ((q : Nat) : Int) (by omega) (by omega) (by omega) ?_ | refine ex_u8 ((q : Nat) : Int) (by omega) (by omega) (by omega) ?_ | refine tT ?_ | refine tF ?_ | refine ex_dec (fun _ => ?_) (fun _ => ?_) | refine t8 ?_ | refine tI ?_ | refine tU ?_ | refine tA ?_ | refine tB ?_ | refine tL ?_ | refine tN ?_ | fail "no step")
    refine ex_callM (with_m ΓW M zqO q (by omega) 0 1 (by decide)) ?_
    repeat' (first | refine ex_i64 ((j : Nat) : Int) (by omega) (by omega) (by omega) ?_ | refine ex_u64 ((j : Nat) : Int) (by omega) (by omega) (by omega) ?_ | refine ex_u8 ((j : Nat) : Int) (by omega) (by omega) (by omega) ?_ | refine (ex_row j r rfl hc) ?_ | refine (ex_is _ hAm) ?_ | refine tT ?_ | refine tF ?_ | refine ex_dec (fun _ => ?_) (fun _ => ?_) | refine t8 ?_ | refine tI ?_ | refine tU ?_ | refine tA ?_ | refine tB ?_ | refine tL ?_ | refine tN ?_ | fail "no step")
    refine ex_callM (with_m ΓW (M ++ [(zqO, q)]) r.1 99 (by rw [List.length_append]; show _ + 1 ≤ _; omega) 1 2 (by decide)) ?_
    repeat' (first | refine ex_i64 ((q + 1 : Nat) : Int) (by omega) (by omega) (by omega) ?_ | refine ex_u64 ((q + 1 : Nat) : Int) (by omega) (by omega) (by omega) ?_ | refine ex_u8 ((q + 1 : Nat) : Int) (by omega) (by omega) (by omega) ?_ | refine tT ?_ | refine tF ?_ | refine ex_dec (fun _ => ?_) (fun _ => ?_) | refine t8 ?_ | refine tI ?_ | refine tU ?_ | refine tA ?_ | refine tB ?_ | refine tL ?_ | refine tN ?_ | fail "no step")
    exact ex_round (q + 1, M ++ [(zqO, q)] ++ [(r.1, 99)]) ⟨by omega, by rw [List.length_append, List.length_append]; show _ + 1 + 1 = _; omega, hst⟩ (by show _ - _ < _ - _; omega) (SLe.ren [(2, 0)] ⟨⟨rfl, rfl⟩, ⟨rfl, rfl⟩, ⟨rfl, rfl⟩, ⟨rfl, rfl⟩, ⟨rfl, rfl⟩, ⟨rfl, rfl⟩, ⟨rfl, rfl⟩, ⟨rfl, rfl⟩, ⟨rfl, rfl⟩, trivial⟩ ⟨⟨rfl, rfl⟩, trivial⟩ rfl)
  · obtain rfl : q = A.length := by omega
    have hMAl : (M ++ A).length = 3 * A.length := by rw [List.length_append]; omega
    have hap : M.map evD ++ A.map evD = (M ++ A).map evD := List.map_append.symm
    obtain ⟨⟨n2, e2⟩, hr2⟩ : ∃ r, evalE X z (M ++ A ++ [(zqL, 7)]) = r := ⟨_, rfl⟩
    have hsame : (∀ x ∈ X, x.nm ≠ zqO ∧ x.nm ≠ zqL) → n1 = n2 ∧ e1 = e2 := fun hx => by
      have := only_plain hMo hx z
      rw [hr1, hr2] at this
      cases this
      exact ⟨rfl, rfl⟩
    have hev2 := hev z (M ++ A ++ [(zqL, 7)]) (hMo.envOk hAn) (by rw [List.length_append, hMAl]; show _ + 1 ≤ _; omega) ⟨by omega, by omega⟩
    rw [hr2] at hev2
    repeat' (first | refine tT ?_ | refine tF ?_ | refine ex_dec (fun _ => ?_) (fun _ => ?_) | refine t8 ?_ | refine tI ?_ | refine tU ?_ | refine tA ?_ | refine tB ?_ | refine tL ?_ | refine tN ?_ | fail "no step")
    obtain ⟨aL, haL⟩ : ∃ aL, A.length = aL := ⟨_, rfl⟩
    obtain ⟨mL, hmL⟩ : ∃ mL, 2 * A.length = mL := ⟨_, rfl⟩
    refine ex_app (mL) (aL) 1000 (by first | rfl | (simp; done) | (simp; omega)) (by first | rfl | (simp; done) | (simp; omega)) rfl (by omega) ?_
    refine ex_is _ hap ?_
    repeat' (first | refine tT ?_ | refine tF ?_ | refine ex_dec (fun _ => ?_) (fun _ => ?_) | refine t8 ?_ | refine tI ?_ | refine tU ?_ | refine tA ?_ | refine tB ?_ | refine tL ?_ | refine tN ?_ | fail "no step")
    refine ex_callM (with_m ΓW (M ++ A) zqL 7 (by omega) 1 2 (by decide)) ?_
    repeat' (first | refine tT ?_ | refine tF ?_ | refine ex_dec (fun _ => ?_) (fun _ => ?_) | refine t8 ?_ | refine tI ?_ | refine tU ?_ | refine tA ?_ | refine tB ?_ | refine tL ?_ | refine tN ?_ | fail "no step")
    refine ex_callM (hev2.toM (by kernel_rfl) (by kernel_rfl) _) ?_
    clear hev1 hev2 hev hf hv
    by_cases he1 : e1 = 11
    · repeat' (first | refine ex_call hw ?_ | refine tT ?_ | refine tF ?_ | refine ex_dec (fun _ => ?_) (fun _ => ?_) | refine t8 ?_ | refine tI ?_ | refine tU ?_ | refine tA ?_ | refine tB ?_ | refine tL ?_ | refine tN ?_ | fail "no step")
      exact TLe.rfl
    by_cases he2 : e2 = 11
    · repeat' (first | refine ex_call hw ?_ | refine tT ?_ | refine tF ?_ | refine ex_dec (fun _ => ?_) (fun _ => ?_) | refine t8 ?_ | refine tI ?_ | refine tU ?_ | refine tA ?_ | refine tB ?_ | refine tL ?_ | refine tN ?_ | fail "no step")
      exact TLe.rfl
    repeat' (first | refine (ex_is _ hXm) ?_ | refine (ex_pn (by kernel_rfl) false (fun _ _ => by kernel_rfl)) ?_ | refine tT ?_ | refine tF ?_ | refine ex_dec (fun _ => ?_) (fun _ => ?_) | refine t8 ?_ | refine tI ?_ | refine tU ?_ | refine tA ?_ | refine tB ?_ | refine tL ?_ | refine tN ?_ | fail "no step")
    refine ex_loop (X := Nat) (fun q => ⟨[(6, Tb false), (12, .o (c1 (du n1))), (13, .o (c1 (di e1))), (16, .o (c1 (du n2))), (17, .o (c1 (di e2))), (86, .o (c1 (.sl 5 (X.map eiD)))), (87, Ti X.length), (88, Ti q)], [], 0⟩) (fun x => X.length - x) (fun q => q ≤ X.length ∧ ∀ x ∈ X.take q, x.nm ≠ zqO ∧ x.nm ≠ zqL) 0 ⟨Nat.zero_le _, fun x hx => by simp at hx⟩ (SLe.of ⟨⟨rfl, rfl, rfl, rfl, rfl, rfl, rfl, rfl, trivial⟩, trivial⟩) ?_
    rintro q ⟨hq, hnx⟩
    refine ex_dec (fun h => ?_) (fun h => ?_)
    · have hql : q < X.length := by omega
      have hc : X[q]? = some X[q] := at_some hql
      have htk : X.take (q + 1) = X.take q ++ [X[q]] := by rw [List.take_add_one, hc]; rfl
      generalize X[q] = x at *
      by_cases hx1 : x.nm = zqO
      · repeat' (first | refine ex_call hw ?_ | refine (ex_true (congrArg bs hx1)) ?_ | refine (ex_row q x rfl hc) ?_ | refine tT ?_ | refine tF ?_ | refine ex_dec (fun _ => ?_) (fun _ => ?_) | refine t8 ?_ | refine tI ?_ | refine tU ?_ | refine tA ?_ | refine tB ?_ | refine tL ?_ | refine tN ?_ | fail "no step")
        exact TLe.rfl
      by_cases hx2 : x.nm = zqL
      · repeat' (first | refine ex_call hw ?_ | refine (ex_true (congrArg bs hx2)) ?_ | refine (ex_false (fun h => hx1 (bsw h))) ?_ | refine (ex_row q x rfl hc) ?_ | refine tT ?_ | refine tF ?_ | refine ex_dec (fun _ => ?_) (fun _ => ?_) | refine t8 ?_ | refine tI ?_ | refine tU ?_ | refine tA ?_ | refine tB ?_ | refine tL ?_ | refine tN ?_ | fail "no step")
        exact TLe.rfl
      repeat' (first | refine ex_call hw ?_ | refine ex_i64 ((q + 1 : Nat) : Int) (by omega) (by omega) (by omega) ?_ | refine ex_u64 ((q + 1 : Nat) : Int) (by omega) (by omega) (by omega) ?_ | refine ex_u8 ((q + 1 : Nat) : Int) (by omega) (by omega) (by omega) ?_ | refine (ex_false (fun h => hx2 (bsw h))) ?_ | refine (ex_false (fun h => hx1 (bsw h))) ?_ | refine (ex_row q x rfl hc) ?_ | refine tT ?_ | refine tF ?_ | refine ex_dec (fun _ => ?_) (fun _ => ?_) | refine t8 ?_ | refine tI ?_ | refine tU ?_ | refine tA ?_ | refine tB ?_ | refine tL ?_ | refine tN ?_ | fail "no step")
      exact ex_round (q + 1) ⟨by omega, fun y hy => by
        rw [htk] at hy
        rcases List.mem_append.1 hy with hy | hy
        · exact hnx y hy
        · rw [List.mem_singleton.1 hy]; exact ⟨hx1, hx2⟩⟩ (by show _ - _ < _ - _; omega) (SLe.of ⟨⟨rfl, rfl, rfl, rfl, rfl, rfl, rfl, rfl, trivial⟩, trivial⟩)
    · obtain rfl : q = X.length := by omega
      rw [List.take_length] at hnx
      obtain ⟨rfl, rfl⟩ := hsame hnx
      repeat' (first | refine ex_call hw ?_ | refine tT ?_ | refine tF ?_ | refine ex_dec (fun _ => ?_) (fun _ => ?_) | refine t8 ?_ | refine tI ?_ | refine tU ?_ | refine tA ?_ | refine tB ?_ | refine tL ?_ | refine tN ?_ | fail "no step")
      exact TLe.rfl
end Go.Proofs.YtoingpafcodojaaGreatDoor

namespace Go.Proofs.YtoingpafcodojaaGreatDoor
open Go.RowKit
section
variable {P : Program}
def EqT (P : Program) (d : Nat) (t : TypeId) (x y : Value) (c : Bool) : Prop := ∀ w, (Op.equalIn d t x y).run P w = .ok c w
def EqFs (P : Program) (d : Nat) (xs ys : List Value) (fs : List Field) (c : Bool) : Prop := ∀ w, (Op.eqFields d xs.toArray ys.toArray fs).run P w = .ok c w
def PartI (P : Program) (t : TypeId) (xs : List Value) (off : Nat) (x : Value) : Prop := ∀ w, (part t xs.toArray off).run P w = .ok x w
def fieldsK (P : Program) (t : TypeId) : List (Bool × Nat × Nat) := (P.fieldsOf t).toList.map fun f => (f.name != "_", f.type, f.offset)
def EqKs (P : Program) (d : Nat) (xs ys : List Value) (ks : List (Bool × Nat × Nat)) (c : Bool) : Prop := ∀ fs : List Field, fs.map (fun f => (f.name != "_", f.type, f.offset)) = ks → EqFs P d xs ys fs c
def isAggB (P : Program) (t : TypeId) : Bool := match P.underlying t with
  | some (.struct _) | some (.array _ _) => true
  | _ => false
def leafI (xs ys : List Value) : Option Bool := match xs, ys with
  | [.int k a], [.int k' b] => if k = k' then some (decide (a = b)) else none
  | _, _ => none
def leafS (xs ys : List Value) : Option Bool := match xs, ys with
  | [.string a], [.string b] => some (decide (a = b))
  | _, _ => none
def leafB (xs ys : List Value) : Option Bool := match xs, ys with
  | [.bool a], [.bool b] => some (decide (a = b))
  | _, _ => none
def eqV (P : Program) : Nat → TypeId → List Value → List Value → Option Bool
  | 0, _, _, _ => none
  | d + 1, t, xs, ys => match P.underlying t with
    | some (.int _) => leafI xs ys
    | some .string => leafS xs ys
    | some .bool => leafB xs ys
    | some (.struct fs) => match P.stoodInHeld t, P.info? t with
      | false, some _ => fs.toList.foldr (fun f r => match f.name != "_", eqV P d f.type ((xs.drop f.offset).take (P.cellsOf f.type)) ((ys.drop f.offset).take (P.cellsOf f.type)), r with
        | true, some b, some c => some (b && c)
        | _, _, _ => none) (some true)
      | _, _ => none
    | some (.array n e) => match P.info? e, P.info? t with
      | some _, some _ => (List.range n).foldr (fun i r => match eqV P d e ((xs.drop (i * P.cellsOf e)).take (P.cellsOf e)) ((ys.drop (i * P.cellsOf e)).take (P.cellsOf e)), r with
        | some b, some c => some (b && c)
        | _, _ => none) (some true)
      | _, _ => none
    | _ => none
def packV (P : Program) (t : TypeId) (xs : List Value) : Value := match isAggB P t with
  | true => .agg xs.toArray
  | false => xs.headD undef
end
end Go.Proofs.YtoingpafcodojaaGreatDoor

namespace Go.Proofs.YtoingpafcodojaaGreatDoor
open Go.RowKit

end Go.Proofs.YtoingpafcodojaaGreatDoor

namespace Go.Proofs.YtoingpafcodojaaGreatDoor
open Go.ChangeShapes Go.WideShapes Go.ChangeAt Go.RowKit

def tilesF (P : Program) : Nat → List Field → Nat → Bool
  | o, [], n => Nat.beq o n
  | o, f :: fs, n => Nat.beq f.offset o && tilesF P (o + P.cellsOf f.type) fs n
def okT (P : Program) : Nat → TypeId → Bool
  | 0, _ => false
  | d + 1, t => match P.underlying t with
    | some .bool | some (.int _) | some .string => true
    | some (.slice e) => Nat.blt 0 (P.cellsOf e) && okT P d e
    | some (.array n e) => Nat.beq (n * P.cellsOf e) (P.cellsOf t) && okT P d e
    | some (.struct fs) => tilesF P 0 fs.toList (P.cellsOf t) && fs.toList.all fun f => okT P d f.type
    | _ => false
def DT (P : Program) : Nat → TypeId → List D → Prop
  | 0, _, _ => False
  | d + 1, t, ds => match P.underlying t with
    | some .bool => ∃ b, ds = [.v (.bool b)]
    | some (.int k) => ∃ z, ds = [.v (.int k z)] ∧ (Lit.int k z).wf = true
    | some .string => ∃ s, ds = [.v (.string s)] ∧ s.size ≤ maxLen
    | some (.slice e) => ∃ rows, ds = [.sl (P.cellsOf e) rows] ∧ rows.length ≤ maxLen ∧ ∀ r ∈ rows, DT P d e r
    | some (.array n e) => ∃ ps : List (List D), ps.length = n ∧ ds = ps.flatten ∧ ∀ p ∈ ps, DT P d e p
    | some (.struct fs) => ∃ ps : List (List D), ds = ps.flatten ∧ All2 (fun (f : Field) p => DT P d f.type p) fs.toList ps
    | _ => False
theorem choose_list {α : Type} {Q : Nat → α → Prop} : ∀ {n : Nat}, (∀ i, i < n → ∃ a, Q i a) → ∃ L : List α, L.length = n ∧ ∀ i a, L[i]? = some a → Q i a
  | 0, _ => ⟨[], rfl, fun i a h => by simp at h⟩
  | n + 1, h => by
    obtain ⟨L, h1, h2⟩ := choose_list (n := n) (fun i hi => h i (by omega))
    obtain ⟨a, ha⟩ := h n (by omega)
    refine ⟨L ++ [a], by simp [h1], fun i b hb => ?_⟩
    rw [List.getElem?_append] at hb
    split at hb
    · exact h2 i b hb
    · rename_i hlt
      have hi : i - L.length = 0 := by
        rcases Nat.eq_zero_or_pos (i - L.length) with h | h
        · exact h
        · rw [List.getElem?_eq_none (by simp; omega)] at hb; cases hb
      rw [hi] at hb
      simp at hb
      obtain rfl : i = n := by omega
      rw [← hb]; exact ha
theorem flatten_at {α : Type} {size : Nat} (h0 : 0 < size) : ∀ {rows : List (List α)} (_ : ∀ r ∈ rows, r.length = size) {j : Nat} {d : α}, rows.flatten[j]? = some d → ∃ r, rows[j / size]? = some r ∧ r[j % size]? = some d
  | [], _, j, d, h => by simp at h
  | a :: rows, hr, j, d, h => by
    have ha := hr a (by simp)
    by_cases hj : j < size
    · rw [List.flatten_cons, List.getElem?_append_left (by omega)] at h
      rw [Nat.div_eq_of_lt hj, Nat.mod_eq_of_lt hj]
      exact ⟨a, rfl, h⟩
    · rw [List.flatten_cons, List.getElem?_append_right (by omega), ha] at h
      obtain ⟨r, h1, h2⟩ := flatten_at h0 (fun r hr' => hr r (by simp [hr'])) h
      refine ⟨r, ?_, ?_⟩
      · rw [show j / size = (j - size) / size + 1 by rw [Nat.div_eq_sub_div h0 (by omega)]]
        simpa using h1
      · rw [Nat.mod_eq_sub_mod (by omega)]; exact h2
def Sall (w : World) : Nat → Prop := fun b => b < w.heap.size
theorem cell_lt {w : World} {a : Addr} {u : Value} (h : w.cell? a = some u) : a.block < w.heap.size ∧ a.spot = none := by
  unfold World.cell? at h
  split at h
  · rename_i c t f hc
    refine ⟨(Array.getElem?_eq_some_iff.1 hc).1, ?_⟩
    split at h
    · cases h
    · rename_i hs
      cases hsp : a.spot with
      | none => rfl
      | some k => rw [hsp] at hs; simp at hs
  · cases h
theorem cells_get {w : World} {base : Nat} {a : Addr} {n : Nat} {cs : List Value} (h : w.cells? base a n = some cs) : cs.length = n ∧ ∀ i, i < n → w.cell? (a.add i) = cs[i]? := by
  unfold World.cells? at h
  split at h
  · obtain ⟨h1, h2⟩ := mapM_isSome h
    rw [List.length_range] at h1
    refine ⟨h1.symm, fun i hi => ?_⟩
    obtain ⟨b, hb1, hb2⟩ := h2 i i (by simp [hi])
    rw [hb1, hb2]
  · cases h
section
variable {H : Type} {enc : TypeId × Value → H} {P : Program} {w : World} {base : Nat} {sp : Nat → Bool} {held : Bool}
theorem parts_all {R : D → Value → Prop} {T : Field → List D → Prop} : ∀ (fs : List Field) (o : Nat) (cs : List Value) (n : Nat), cs.length = n → tilesF P o fs n = true → o ≤ n →
    (∀ f ∈ fs, ∃ ds, T f ds ∧ All2 R ds ((cs.drop f.offset).take (P.cellsOf f.type))) → ∃ ps : List (List D), All2 T fs ps ∧ All2 R ps.flatten (cs.drop o)
  | [], o, cs, n, hl, ht, _, _ => by
    have : o = n := Nat.eq_of_beq_eq_true ht
    exact ⟨[], .nil, by rw [List.drop_of_length_le (by omega)]; exact .nil⟩
  | f :: fs, o, cs, n, hl, ht, ho, h => by
    simp only [tilesF, Bool.and_eq_true] at ht
    have ho' : f.offset = o := Nat.eq_of_beq_eq_true ht.1
    obtain ⟨ds, h1, h2⟩ := h f (by simp)
    have hle : o + P.cellsOf f.type ≤ n := by
      have key : ∀ (fs : List Field) (o : Nat), tilesF P o fs n = true → o ≤ n := fun fs => by
        induction fs with
        | nil => intro o h; exact Nat.le_of_eq (Nat.eq_of_beq_eq_true h)
        | cons g gs ih =>
          intro o h
          simp only [tilesF, Bool.and_eq_true] at h
          have := ih _ h.2
          omega
      exact key fs _ ht.2
    obtain ⟨ps, h3, h4⟩ := parts_all fs _ cs n hl ht.2 hle (fun g hg => h g (by simp [hg]))
    refine ⟨ds :: ps, .cons h1 h3, ?_⟩
    rw [List.flatten_cons, ho'] at *
    have := h2.append h4
    rwa [← List.drop_drop, List.take_append_drop] at this
theorem trod_dt : ∀ (d fuel : Nat) (t : TypeId) (cs : List Value) (x : DataW H × List MemPlace), okT P d t = true → DataW.trod enc P w base sp held fuel t cs = some x → ∃ ds, DT P d t ds ∧ All2 (Imm (Sall w) w) ds cs
  | 0, _, _, _, _, h, _ => by cases h
  | d + 1, fuel, t, cs, x, hok, h => by
    unfold okT at hok
    unfold DT
    split at hok
    · rename_i hu
      obtain ⟨b, rfl, _⟩ := DataW.trod_bool hu h
      exact ⟨_, ⟨b, rfl⟩, .cons (Imm.v rfl) .nil⟩
    · rename_i k hu
      obtain ⟨n, rfl, _, hw⟩ := DataW.trod_int hu h
      exact ⟨_, ⟨n, rfl, hw⟩, .cons (Imm.v rfl) .nil⟩
    · rename_i hu
      obtain ⟨s, rfl, _, hs⟩ := DataW.trod_string hu h
      exact ⟨_, ⟨s, rfl, hs⟩, .cons (Imm.v rfl) .nil⟩
    · rename_i e hu
      simp only [Bool.and_eq_true] at hok
      have h0 : 0 < P.cellsOf e := Nat.lt_of_succ_le (Nat.le_of_ble_eq_true hok.1)
      rcases DataW.trod_slice hu h with ⟨rfl, _⟩ | ⟨a, len, cap, elems, rest, n, _, rfl, _, _, hlc, hcm, hel, hel2, _⟩
      · exact ⟨_, ⟨[], rfl, by simp, by simp⟩, .cons Imm.nil .nil⟩
      · have hone : ∀ i, i < len → ∃ ds, DT P d e ds ∧ ∃ cs', w.cells? base (a.add (i * P.cellsOf e)) (P.cellsOf e) = some cs' ∧ All2 (Imm (Sall w) w) ds cs' := fun i hi => by
          have h1 := hel2 i hi
          rw [List.getElem?_eq_getElem (by omega)] at h1
          obtain ⟨cs', h2, h3⟩ := Option.bind_eq_some_iff.1 h1
          obtain ⟨ds, h4, h5⟩ := trod_dt d n e cs' _ hok.2 h3
          exact ⟨ds, h4, cs', h2, h5⟩
        obtain ⟨rows, hr1, hr2⟩ := choose_list hone
        have hrm : ∀ r ∈ rows, ∃ i, i < len ∧ rows[i]? = some r := fun r hr => by
          obtain ⟨i, hi⟩ := List.getElem?_of_mem hr
          exact ⟨i, by have := (List.getElem?_eq_some_iff.1 hi).1; omega, hi⟩
        have hdt : ∀ r ∈ rows, DT P d e r := fun r hr => by
          obtain ⟨i, _, hi⟩ := hrm r hr
          exact (hr2 i r hi).1
        have hrl : ∀ r ∈ rows, r.length = P.cellsOf e := fun r hr => by
          obtain ⟨i, _, hi⟩ := hrm r hr
          obtain ⟨_, cs', h2, h3⟩ := hr2 i r hi
          rw [h3.len, (cells_get h2).1]
        refine ⟨_, ⟨rows, rfl, by omega, hdt⟩, .cons ?_ .nil⟩
        by_cases hz : len = 0
        · subst hz
          obtain rfl := List.eq_nil_of_length_eq_zero hr1
          exact Imm.sl0
        · obtain ⟨r0, _, cs0, h2, _⟩ := hone 0 (by omega)
          have h3 := (cells_get h2).2 0 h0
          rw [Nat.zero_mul] at h3
          have e0 : (a.add 0).add 0 = a := rfl
          rw [e0, List.getElem?_eq_getElem (by rw [(cells_get h2).1]; exact h0)] at h3
          obtain ⟨hb, hs⟩ := cell_lt h3
          obtain ⟨g, f, spot⟩ := a
          simp only at hs hb
          subst hs
          rw [← hr1]
          have hat : ∀ j dd, rows.flatten[j]? = some dd → ∃ u, w.cell? ⟨g, f + j, none⟩ = some u ∧ Imm (Sall w) w dd u := fun j dd hj => by
            obtain ⟨r, e1, e2⟩ := flatten_at h0 hrl hj
            obtain ⟨_, cs', e3, e4⟩ := hr2 _ r e1
            obtain ⟨u, e5, e6⟩ := e4.at_left e2
            refine ⟨u, ?_, e6⟩
            have e7 := (cells_get e3).2 (j % P.cellsOf e) (Nat.mod_lt _ h0)
            rw [Addr.add_lit, Addr.add_lit, e5] at e7
            rw [← e7]
            congr 2
            rw [Nat.add_assoc, Nat.mul_comm, Nat.div_add_mod]
          refine Imm.sl (fun j => (w.cell? ⟨g, f + j, none⟩).getD undef) hb (by omega) hrl (fun j dd hj => ?_) (fun j dd hj => ?_)
          · obtain ⟨u, e1, _⟩ := hat j dd hj
            rw [e1]; rfl
          · obtain ⟨u, e1, e2⟩ := hat j dd hj
            rw [e1]; exact e2
    · rename_i n e hu
      simp only [Bool.and_eq_true] at hok
      have hn : n * P.cellsOf e = P.cellsOf t := Nat.eq_of_beq_eq_true hok.1
      obtain ⟨xs, m, _, _, hl, hx, hall⟩ := DataW.trod_array hu h
      have hone : ∀ i, i < n → ∃ ds, DT P d e ds ∧ All2 (Imm (Sall w) w) ds ((cs.drop (i * P.cellsOf e)).take (P.cellsOf e)) := fun i hi => by
        have h1 := hall i hi
        rw [List.getElem?_eq_getElem (by omega)] at h1
        exact trod_dt d m e _ _ hok.2 h1
      obtain ⟨ps, hp1, hp2⟩ := choose_list hone
      refine ⟨ps.flatten, ⟨ps, hp1, rfl, fun p hp => ?_⟩, ?_⟩
      · obtain ⟨i, hi⟩ := List.getElem?_of_mem hp
        exact (hp2 i p hi).1
      · have key : ∀ (ps : List (List D)) (o : Nat), (∀ i p, ps[i]? = some p → All2 (Imm (Sall w) w) p ((cs.drop ((o + i) * P.cellsOf e)).take (P.cellsOf e))) → (o + ps.length) * P.cellsOf e = cs.length → All2 (Imm (Sall w) w) ps.flatten (cs.drop (o * P.cellsOf e)) := fun ps => by
          induction ps with
          | nil => intro o _ hlen; rw [List.drop_of_length_le (by simp at hlen; omega)]; exact .nil
          | cons p ps ih =>
            intro o hp hlen
            have h1 := hp 0 p rfl
            have h2 := ih (o + 1) (fun i q hq => by have := hp (i + 1) q (by simpa using hq); rwa [show o + 1 + i = o + (i + 1) by omega]) (by rw [← hlen, List.length_cons]; congr 1; omega)
            rw [List.flatten_cons]
            have := h1.append h2
            rwa [Nat.add_zero, Nat.add_mul, Nat.one_mul, ← List.drop_drop, List.take_append_drop] at this
        have := key ps 0 (fun i p hi => by rw [Nat.zero_add]; exact (hp2 i p hi).2) (by rw [Nat.zero_add, hp1, hn, hl])
        simpa using this
    · rename_i fs hu
      simp only [Bool.and_eq_true] at hok
      obtain ⟨xs, m, _, _, hl, hx, hall⟩ := DataW.trod_struct hu h
      obtain ⟨ps, h1, h2⟩ := parts_all (R := Imm (Sall w) w) (T := fun f p => DT P d f.type p) fs.toList 0 cs _ hl hok.1 (Nat.zero_le _) (fun f hf => by
        obtain ⟨i, hi⟩ := List.getElem?_of_mem hf
        have hlt := (List.getElem?_eq_some_iff.1 hi).1
        have h1 := hall i f (by simpa using hi)
        rw [List.getElem?_eq_getElem (by simp at hlt; omega)] at h1
        exact trod_dt d m f.type _ _ (List.all_eq_true.1 hok.2 f hf) h1)
      exact ⟨ps.flatten, ⟨ps, rfl, h1⟩, by simpa using h2⟩
    · cases hok
theorem open_dt {d : Nat} {r : Reach} {b0 : Nat} {t : TypeId} {v : Value} {dd : DataW H} {ps : List MemPlace} (hok : okT P d t = true) (hag : (P.underlying t).map aggD = some false) (hval : Value.okWide P w r b0 t v) (hd : DataW.Trod enc P w base sp held t v dd ps) :
    ∃ x, DT P d t [x] ∧ Imm (Sall w) w x v := by
  obtain ⟨fuel, hf⟩ := hd
  obtain ⟨ds, h1, h2⟩ := trod_dt d fuel t _ _ hok hf
  have hone : v.oneCell' = true := by
    cases d with
    | zero => cases hok
    | succ d =>
      unfold okT at hok
      split at hok
      · rename_i hu; obtain ⟨b, rfl⟩ := okWide_bool hu hval; rfl
      · rename_i hu; obtain ⟨n, rfl⟩ := okWide_int hu hval; rfl
      · rename_i hu; obtain ⟨s, rfl⟩ := okWide_string hu hval; rfl
      · rename_i hu; obtain ⟨a, l, c, rfl⟩ := okWide_slice hu hval; rfl
      · rename_i hu; rw [hu] at hag; cases hag
      · rename_i hu; rw [hu] at hag; cases hag
      · cases hok
  rw [oneCell_cells hone] at h2
  have hl := h2.len
  match ds, h2, hl with
  | [x], h2, _ => exact ⟨x, h1, h2.head⟩
end
end Go.Proofs.YtoingpafcodojaaGreatDoor

namespace Go.Proofs.YtoingpafcodojaaGreatDoor
open Go.ChangeShapes Go.WideShapes Go.ChangeAt Go.RowKit Go.ChangeMaps


theorem iface_open {P : Program} {w : World} {base fuel : Nat} {sp : Nat → Bool} {held : Bool} {enc : TypeId × Value → Unit} {t : TypeId} {l : List Value} {x : DataW Unit × List MemPlace} {ms : Array (String × TypeId)} (hi : P.underlying t = some (.interface ms))
    (hd : DataW.trod enc P w base sp held fuel t l = some x) : l = [.nilIface] ∨ ∃ u v, l = [.iface u v] := by
  cases fuel with
  | zero => cases hd
  | succ f =>
    simp only [DataW.trod, hi] at hd
    split at hd <;> first | exact .inl rfl | exact .inr ⟨_, _, rfl⟩ | (cases hd; done) | (rename_i h1; cases h1; done) | (rename_i h1 h2; cases h1; done) | (rename_i h1 h2 h3; cases h1; done)
theorem errAt_of {W : World} {n : String} {g : Nat} {cs : Array Value} (hg : Tryz.prog.globalNamed n = some g) (hv : W.var? Tryz.prog n = some cs) (h : cs.toList = [.nilIface] ∨ ∃ u v, cs.toList = [.iface u v]) : ErrAt W g ∧ g < W.heap.size := by
  have hc : ∀ ev, cs.toList = [ev] → W.cell? ⟨g, 0, none⟩ = some ev := fun ev he => by
    rw [World.var?_cell hg hv 0]
    have : cs = #[ev] := by cases cs; simpa using he
    rw [this]; rfl
  refine ⟨?_, ?_⟩
  · rcases h with h | ⟨u, v, h⟩
    · exact ⟨_, hc _ h, .inl rfl⟩
    · exact ⟨_, hc _ h, .inr ⟨u, v, rfl⟩⟩
  · unfold World.var? at hv
    rw [hg] at hv
    simp only [Option.bind_some] at hv
    by_cases hl : g < W.heap.size
    · exact hl
    · rw [Array.getElem?_eq_none (by omega)] at hv; cases hv

theorem list_of {α : Type} {f : α → List D} {p : α → Prop} : ∀ {rows : List (List D)}, (∀ r ∈ rows, ∃ x, p x ∧ r = f x) → ∃ l : List α, rows = l.map f ∧ ∀ x ∈ l, p x
  | [], _ => ⟨[], rfl, by simp⟩
  | r :: rows, h => by
    obtain ⟨x, h1, h2⟩ := h r (by simp)
    obtain ⟨l, h3, h4⟩ := list_of (rows := rows) (f := f) (p := p) (fun q hq => h q (List.mem_cons_of_mem _ hq))
    refine ⟨x :: l, by rw [h2, h3]; rfl, fun y hy => ?_⟩
    rcases List.mem_cons.1 hy with rfl | hy
    · exact h1
    · exact h4 y hy
section
variable {P : Program} {d : Nat} {t : TypeId} {ds : List D}
theorem DT_int {k : IntKind} (hu : P.underlying t = some (.int k)) (h : DT P (d + 1) t ds) : ∃ z, ds = [.v (.int k z)] ∧ (Lit.int k z).wf = true := by
  unfold DT at h; rw [hu] at h; exact h
theorem DT_bool (hu : P.underlying t = some .bool) (h : DT P (d + 1) t ds) : ∃ b, ds = [.v (.bool b)] := by
  unfold DT at h; rw [hu] at h; exact h
theorem DT_str (hu : P.underlying t = some .string) (h : DT P (d + 1) t ds) : ∃ s, ds = [.v (.string s)] ∧ s.size ≤ maxLen := by
  unfold DT at h; rw [hu] at h; exact h
theorem DT_slice {e : TypeId} (hu : P.underlying t = some (.slice e)) (h : DT P (d + 1) t ds) : ∃ rows, ds = [.sl (P.cellsOf e) rows] ∧ rows.length ≤ maxLen ∧ ∀ r ∈ rows, DT P d e r := by
  unfold DT at h; rw [hu] at h; exact h
theorem DT_struct {fs : Array Field} (hu : P.underlying t = some (.struct fs)) (h : DT P (d + 1) t ds) : ∃ ps : List (List D), ds = ps.flatten ∧ All2 (fun (f : Field) p => DT P d f.type p) fs.toList ps := by
  unfold DT at h; rw [hu] at h; exact h
theorem DT_array {n : Nat} {e : TypeId} (hu : P.underlying t = some (.array n e)) (h : DT P (d + 1) t ds) : ∃ ps : List (List D), ps.length = n ∧ ds = ps.flatten ∧ ∀ p ∈ ps, DT P d e p := by
  unfold DT at h; rw [hu] at h; exact h
end
theorem cells_of_strs {H : Type} {enc : TypeId × Value → H} {P : Program} {w : World} {base : Nat} {sp : Nat → Bool} {held : Bool} {fuel : Nat} {t e : TypeId} {n : Nat} {cs : List Value} {zs : List (List UInt8)} {p : List MemPlace}
    (ht : P.underlying t = some (.array n e)) (he : P.underlying e = some .string) (hce : P.cellsOf e = 1) (hct : P.cellsOf t = n)
    (h : DataW.trod enc P w base sp held fuel t cs = some (.agg (zs.map fun z => .lit (.string z)), p)) : cs = zs.map fun z => Value.string (bs z) := by
  cases fuel with
  | zero => simp [DataW.trod] at h
  | succ fuel =>
    simp only [DataW.trod, ht, hce, hct, Nat.mul_one] at h
    split at h
    · rename_i hl
      obtain ⟨xs, hm, hx⟩ := Option.map_eq_some_iff.1 h
      have hxs : xs.map (·.1) = zs.map fun z => (DataW.lit (.string z) : DataW H) := by
        have := congrArg Prod.fst hx
        simpa using this
      have hxl : xs.length = n := by simpa using Lib.mapM_length hm
      have hzl : zs.length = n := by
        have := congrArg List.length hxs
        simp at this
        omega
      apply List.ext_getElem?
      intro i
      by_cases hi : i < n
      · obtain ⟨b, hb, hf⟩ := Lib.mapM_at hm i i (by simp [hi])
        obtain ⟨z, hc, rfl, _⟩ := DataW.trod_string he hf
        have h1 : cs[i]? = some (.string z) := by
          have := congrArg (·[0]?) hc
          simpa [List.getElem?_take, List.getElem?_drop] using this
        have h2 : (xs.map (·.1))[i]? = some (DataW.lit (.string z.data.toList) : DataW H) := by simp [hb]
        rw [hxs] at h2
        simp only [List.getElem?_map, Option.map_eq_some_iff, DataW.lit.injEq, Lit.string.injEq] at h2
        obtain ⟨z', hz', rfl⟩ := h2
        simp [h1, hz']
      · rw [List.getElem?_eq_none (by omega), List.getElem?_eq_none (by simp; omega)]
    · cases h
theorem glob_env {W : World} (h : laidMetH Tryz.prog Rows.exprEnvRow.laid W) (hs : W.ShapedOpen Tryz.prog) : ΓL.G (Sall W) W := by
  obtain ⟨m, hm⟩ := Tryz.laysM145.s1_3 W hs
  rw [MakeChecks.laidMetH_plain _ _ _ (by kernel_rfl)] at h
  obtain ⟨ps, h, -⟩ := h
  obtain ⟨g1, t1, c1, f1, p1, q1, -, -, -, -, h, -⟩ := h
  obtain ⟨g2, t2, c2, f2, p2, q2, -, -, -, -, h, -⟩ := h
  obtain ⟨g3, t3, c3, f3, p3, q3, -, -, -, -, h, -⟩ := h
  obtain ⟨g0, t0, c0, f0, p0, q0, -, -, -, -, h, -⟩ := h
  obtain ⟨g4, t4, c4, f4, p4, q4, hg4, ht4, hv4, hd4, h, -⟩ := h
  obtain ⟨g5, t5, c5, f5, p5, q5, hg5, ht5, hv5, hd5, h, -⟩ := h
  obtain ⟨g6, t6, c6, f6, p6, q6, hg6, ht6, hv6, hd6, h, -⟩ := h
  obtain rfl := Option.some.inj ((show Tryz.prog.globalNamed "strconv.ErrRange" = some 3 by kernel_rfl).symm.trans hg4)
  obtain rfl := Option.some.inj ((show Tryz.prog.globalNamed "strconv.ErrSyntax" = some 2 by kernel_rfl).symm.trans hg5)
  obtain rfl := Option.some.inj ((show Tryz.prog.globalNamed "calliper/lex.signs" = some 0 by kernel_rfl).symm.trans hg6)
  obtain rfl := Option.some.inj ((show (Tryz.prog.globals[3]?).map (·.type) = some 193 by kernel_rfl).symm.trans ht4)
  obtain rfl := Option.some.inj ((show (Tryz.prog.globals[2]?).map (·.type) = some 193 by kernel_rfl).symm.trans ht5)
  obtain rfl := Option.some.inj ((show (Tryz.prog.globals[0]?).map (·.type) = some 169 by kernel_rfl).symm.trans ht6)
  have e4 := errAt_of hg4 hv4 (iface_open Tryz.underlying193 hd4)
  have e5 := errAt_of hg5 hv5 (iface_open Tryz.underlying193 hd5)
  have hc := cells_of_strs (zs := signsL) (n := 29) (t := 169) (e := 9) (by kernel_rfl) (by kernel_rfl) (by kernel_rfl) (by kernel_rfl) hd6
  refine ⟨e5, e4, ⟨m, hm, (cell_lt hm).1⟩, fun j l hj => ?_, ?_⟩
  · rw [World.var?_cell hg6 hv6 j]
    have : c6 = ⟨signsL.map fun z => Value.string (bs z)⟩ := by cases c6; simpa using hc
    rw [this]
    rw [show (⟨signsL.map fun z => Value.string (bs z)⟩ : Array Value) = (signsL.map fun z => Value.string (bs z)).toArray from rfl, List.getElem?_toArray, List.getElem?_map, hj]
    rfl
  · have hv := hv6
    unfold World.var? at hv
    rw [hg6] at hv
    simp only [Option.bind_some] at hv
    show 0 < W.heap.size
    by_cases hl : 0 < W.heap.size
    · exact hl
    · rw [Array.getElem?_eq_none (by omega)] at hv; cases hv
theorem dt_vars {d : Nat} {x : D} (h : DT Tryz.prog (d + 3) 22 [x]) : ∃ l : EV, x = .sl 2 (l.map evD) ∧ l.length ≤ 9223372036854775807 ∧ ∀ p ∈ l, p.2 < 18446744073709551616 := by
  obtain ⟨rows, h1, h2, h3⟩ := DT_slice Tryz.underlying22 h
  obtain ⟨l, h4, h5⟩ := list_of (f := evD) (p := fun v : BV => v.2 < 18446744073709551616) (fun r hr => by
    obtain ⟨ps, e1, hp⟩ := DT_struct Tryz.underlying112 (h3 r hr)
    obtain ⟨p0, ps, rfl, q0, hp⟩ := hp.cons_left
    obtain ⟨p1, ps, rfl, q1, hp⟩ := hp.cons_left
    obtain rfl := hp.nil_left
    obtain ⟨s, rfl, -⟩ := DT_str Tryz.underlying9 q0
    obtain ⟨z3, rfl, w3⟩ := DT_int Tryz.underlying50 q1
    have h1 := wf_u64 w3
    obtain ⟨n, rfl⟩ := Int.eq_ofNat_of_zero_le h1.1
    refine ⟨⟨s.data.toList, n⟩, by have := h1.2; show n < _; omega, ?_⟩
    rw [e1]
    show _ = [ds (bs s.data.toList), du n]
    rw [show bs s.data.toList = s by simp [bs]]
    rfl)
  have e : Tryz.prog.cellsOf 112 = 2 := by kernel_rfl
  rw [e, h4] at h1
  cases h1
  rw [h4, List.length_map] at h2
  exact ⟨l, rfl, h2, h5⟩
theorem bs_list (s : ByteArray) : bs s.data.toList = s := by simp [bs]
end Go.Proofs.YtoingpafcodojaaGreatDoor

namespace Go.Proofs.YtoingpafcodojaaGreatDoor
open Go.ChangeShapes Go.WideShapes Go.ChangeAt Go.RowKit Go.ChangeMaps

theorem glob_only {W : World} (h : laidMetH Tryz.prog Rows.exprOnlyRow.laid W) (hs : W.ShapedOpen Tryz.prog) : ΓL.G (Sall W) W := glob_env h hs
theorem bs_back (s : ByteArray) : ds (bs s.data.toList) = D.v (.string s) := by rw [bs_list]
theorem dt_exprs {d : Nat} {x : D} (h : DT Tryz.prog (d + 4) 71 [x]) : ∃ l : List EI, x = .sl 5 (l.map eiD) ∧ l.length ≤ 9223372036854775807 ∧ (∀ v ∈ l, v.kids.length ≤ 9223372036854775807) ∧ XsOk l := by
  obtain ⟨rows, h1, h2, h3⟩ := DT_slice Tryz.underlying71 h
  obtain ⟨l, h4, h5⟩ := list_of (f := eiD) (p := fun v : EI => v.kids.length ≤ 9223372036854775807 ∧ v.n < 18446744073709551616) (fun r hr => by
    obtain ⟨ps, e1, hp⟩ := DT_struct Tryz.underlying126 (h3 r hr)
    obtain ⟨p0, ps, rfl, q0, hp⟩ := hp.cons_left
    obtain ⟨p1, ps, rfl, q1, hp⟩ := hp.cons_left
    obtain ⟨p2, ps, rfl, q2, hp⟩ := hp.cons_left
    obtain ⟨p3, ps, rfl, q3, hp⟩ := hp.cons_left
    obtain ⟨p4, ps, rfl, q4, hp⟩ := hp.cons_left
    obtain rfl := hp.nil_left
    obtain ⟨z0, rfl, w0⟩ := DT_int Tryz.underlying3 q0
    obtain ⟨s1, rfl, -⟩ := DT_str Tryz.underlying9 q1
    obtain ⟨z2, rfl, w2⟩ := DT_int Tryz.underlying50 q2
    obtain ⟨s3, rfl, -⟩ := DT_str Tryz.underlying9 q3
    obtain ⟨krows, rfl, k2, k3⟩ := DT_slice Tryz.underlying54 q4
    obtain ⟨ks, rfl, -⟩ := list_of (f := fun z => [di z]) (p := fun _ : Int => True) (rows := krows) (fun r hr => by
      obtain ⟨z, hz, hw⟩ := DT_int Tryz.underlying3 (k3 r hr)
      exact ⟨z, trivial, hz⟩)
    have g1 := wf_u64 w2
    obtain ⟨n, rfl⟩ := Int.eq_ofNat_of_zero_le g1.1
    rw [List.length_map] at k2
    refine ⟨⟨z0, s1.data.toList, n, s3.data.toList, ks⟩, ⟨k2, by have := g1.2; show n < _; omega⟩, ?_⟩
    rw [e1]
    have e : Tryz.prog.cellsOf 3 = 1 := by kernel_rfl
    rw [e]
    show _ = [di z0, ds (bs s1.data.toList), du n, ds (bs s3.data.toList), intsD ks]
    rw [bs_back, bs_back]
    rfl)
  have e : Tryz.prog.cellsOf 126 = 5 := by kernel_rfl
  rw [e, h4] at h1
  cases h1
  rw [h4, List.length_map] at h2
  exact ⟨l, rfl, h2, fun v hv => (h5 v hv).1, fun v hv => (h5 v hv).2⟩
end Go.Proofs.YtoingpafcodojaaGreatDoor

namespace Go.Proofs.YtoingpafcodojaaGreatDoor
open Go.ChangeShapes Go.WideShapes Go.ChangeAt Go.RowKit Go.ChangeMaps

theorem exprOnly_a (x : D) (hx : DT Tryz.prog 8 71 [x]) (n : Int) (hn : -9223372036854775808 ≤ n ∧ n ≤ 9223372036854775807) (y : D) (hy : DT Tryz.prog 8 22 [y]) : CallsA Tryz.prog ΓL 5 [c1 x, c1 (.v (.int .i64 n)), c1 y] (.o (c1 (db true))) := by
  obtain ⟨l, rfl, h1, h2, h3⟩ := dt_exprs hx
  obtain ⟨e, rfl, h4, h5⟩ := dt_vars hy
  exact exprOnly_of wakes10_c l h1 h2 h3 n hn e h4 h5
namespace exprOnly
set_option maxRecDepth 100000 in
theorem lifted (os : Os) (started : os.Started) (H : Type) (enc : TypeId × Value → H) :
    ReturnsInHanded {} Tryz.checked os 5 .any (fun w args => (Rows.exprOnlySpec.pre enc Tryz.prog Tryz.f5 Rows.exprOnlyRow.domain false w args ∧ laidMetH Tryz.prog Rows.exprOnlyRow.laid w) ∧ sizedMet enc Tryz.prog Tryz.f5 (OpenSpec.ofChange Rows.exprOnlySpec) false w args) (Rows.exprOnlySpec.post enc Tryz.prog Tryz.f5 false true false false) := by
  show ReturnsInHanded {} Tryz.checked os 5 .any ((OpenSpec.ofChange Rows.exprOnlySpec).preRow enc Tryz.prog Tryz.f5 Rows.exprOnlyRow.domain false Rows.exprOnlyRow.laid) (((OpenSpec.ofChange Rows.exprOnlySpec).at fun _ _ _ => 0).post enc Tryz.prog Tryz.f5 false true false false)
  refine returnsInHanded_of_row (C := Tryz.checked) own started (by kernel_rfl) Tryz.func5
    (ChangeSpec.witness_shaped (enc := enc) (C := Tryz.checked) (os := os) (X := fun w _ => laidMetH Tryz.prog Rows.exprOnlyRow.laid w) false (World.laidAll Tryz.prog os Rows.exprOnlyRow.laid) #[.slice none 0 0, .int .i64 0, .slice none 0 0] 8 (World.laidAll_os _ _ _) (World.shaped_of_ZipB (by kernel_rfl) (by kernel_rfl)) (by kernel_rfl) (by kernel_rfl) (by kernel_rfl)
      (by rw [MakeChecks.laidMetH_plain _ _ _ (by kernel_rfl)]; exact laidMet_laidAll _ (by kernel_rfl) (by kernel_rfl))) ?_
  intro W base args ds gs before hval0 hW _ _ hsz0 hLaid hShaped _
  have hsz : (DataW.weightsEach Tryz.prog (Tryz.f5.params.toList ++ Rows.exprOnlySpec.plain.varTypes Tryz.prog) (ds ++ gs)).all (· ≤ reachBytes) = true := hsz0
  have hval : ∀ (j : Nat) t v, Tryz.f5.params[j]? = some t → args[j]? = some v → Value.okWide Tryz.prog W .any base t v := hval0
  clear hsz0 hval0
  have hW' := hW
  obtain ⟨p, q, hA0, hV, rfl, hfz, hnd⟩ := hW
  have hA : DataW.TrodAll enc Tryz.prog W 0 (fun _ => true) true Tryz.f5.params.toList args.toList ds p := hA0
  clear hA0
  rw [Tryz.params5] at hA hval hsz
  obtain ⟨v0, vs0, d0, ds0, p0, q0, hargs, rfl, rfl, h0, r0⟩ := trodAll_cons hA
  obtain ⟨v1, vs1, d1, ds1, p1, q1, rfl, rfl, rfl, h1, r1⟩ := trodAll_cons r0
  obtain ⟨v2, vs2, d2, ds2, p2, q2, rfl, rfl, rfl, h2, r2⟩ := trodAll_cons r1
  obtain ⟨rfl, rfl, rfl⟩ := trodAll_nil r2
  obtain rfl : args = #[v0, v1, v2] := by cases args; simp_all
  obtain ⟨rfl, rfl⟩ := trodVars_none hV
  obtain ⟨l, l_, m0⟩ := open_dt (d := 8) (by kernel_rfl) (by kernel_rfl) (hval 0 71 v0 rfl rfl) h0
  obtain ⟨n, rfl, rfl, rfl, hw1⟩ := open_int Tryz.underlying3 (hval 1 3 v1 rfl rfl) h1
  have w_n := wf_i64 hw1
  obtain ⟨e, e_, m2⟩ := open_dt (d := 8) (by kernel_rfl) (by kernel_rfl) (hval 2 22 v2 rfl rfl) h2
  refine ((exprOnly_a l l_ n w_n e e_).2 (Sall W) W [v0, .int .i64 n, v2] (fun _ h => h) (glob_only hLaid hShaped) (.cons m0 (.cons (Imm.v rfl) (.cons m2 .nil)))).mono fun e W' ⟨xr, _, he, hb, _, _, _, hv⟩ => ?_
  obtain rfl := V_v hv
  subst he
  exact ⟨_, rfl, law_post (ds := [_, _, _]) laidOut hW' rfl (by kernel_rfl) rfl Tryz.underlying4 rfl rfl rfl hb⟩

theorem proved : Rows.ExprOnlySaid :=
  OpenClaim.holds_of_wide 5 Tryz.f5 rfl rfl rfl rfl rfl rfl rfl ⟨rfl, rfl, rfl, rfl, rfl⟩ rfl rfl rfl rfl rfl (by kernel_rfl) Tryz.func5 (by kernel_rfl)
    (of_decide_eq_true (by kernel_rfl)) (by unfold Func.isWrapper; first | (rw [if_pos (by decide +kernel)]; kernel_rfl) | (rw [if_neg (by decide +kernel)]; exact ⟨rfl, rfl⟩))
    (fun os started H enc _ => lifted os started H enc)
theorem card : Rows.ExprOnlyCardSaid :=
  Claim7.holds_tied_plain_at .later [] [.data, .data, .data, .data, .sentinel, .sentinel, .data, .pinned] true (true, "17becb4bdc0081d553c93ea4c651e4f2393ed5a7f930a22c0fd518b66bd7328d") true proved (fun _ h => by cases h) (by kernel_rfl) (fun _ h => by cases h) exprOnly_row_tie rfl ⟨rfl, rfl⟩ (by kernel_rfl) rfl
    (fun f fn hf hfn => by
      obtain rfl : f = 5 := Option.some.inj ((show Tryz.prog.funcNamed "calliper/calliperlaw10.ExprOnly" = some 5 by kernel_rfl).symm.trans hf) |>.symm
      obtain rfl : fn = Tryz.f5 := (Option.some.inj (Tryz.func5.symm.trans hfn)).symm
      exact ⟨by kernel_rfl, fun j t ht => by
        rw [Tryz.params5] at ht
        have hm : t ∈ [71, 3, 22] := by simpa using Array.mem_of_getElem? ht
        have hall : ([71, 3, 22].all fun u => !Tryz.prog.wantsStandIn u) = true := by kernel_rfl
        exact (show Tryz.prog.wantsStandIn t = false by simpa using List.all_eq_true.1 hall t hm)⟩)
    (by kernel_rfl)
end exprOnly
end Go.Proofs.YtoingpafcodojaaGreatDoor
