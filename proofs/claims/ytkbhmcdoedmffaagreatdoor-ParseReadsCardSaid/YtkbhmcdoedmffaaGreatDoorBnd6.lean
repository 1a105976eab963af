/- ParseReads: the file of every text is the document's, or the place at which it fails, and the error. Condition: the listed package variables hold what the program's text lays. -/
import Derived.WalkKit
import Derived.Laws.StructEq
import Derived.ChangeKeysEq
import Derived.Lib.LaidTab
import Derived.Test.YtkbhmcdoedmffaaGreatDoorRows
import Derived.Lay
import Derived.MakeChecks
import Derived.Test.YtkbhmcdoedmffaaGreatDoorCards
import Derived.Test.YtkbhmcdoedmffaaGreatDoorTie
import Derived.SevenTiedAt
import Derived.Deep.DeepHandedRow
import Derived.Test.YtkbhmcdoedmffaaGreatDoorBnd1
import Derived.Test.YtkbhmcdoedmffaaGreatDoorBnd2
import Derived.Test.YtkbhmcdoedmffaaGreatDoorBnd3
import Derived.Test.YtkbhmcdoedmffaaGreatDoorBnd4
import Derived.Test.YtkbhmcdoedmffaaGreatDoorBnd5
set_option linter.unusedVariables false
set_option linter.unusedSimpArgs false
set_option maxRecDepth 100000
namespace Go.Proofs.YtkbhmcdoedmffaaGreatDoor
open Go.RowKit

section
variable {L : List TokP} {m : Nat}
theorem const_c (hL : TokOk L) (hn : L.length ≤ 100000) (s : PS) {c : Nat} (hs : SOk L c s) : C0 L m 49 [] (constM L) (fun v => .o (gD (coD v))) s := by
  refine C0.of fun T hT => ?_
  unfold constM at hT
  obtain ⟨i, xs, ts⟩ := s
  refine fn_ruleP (C := ⟨Tryz.prog, layF, Tryz.f49.ntmps, ΓL, 2, [], []⟩) layF_ok mixed Tryz.func49 rfl (by kernel_rfl) rfl rfl rfl SLe.rfl ?_
  repeat' (first | refine tT ?_ | refine tF ?_ | refine ex_dec (fun _ => ?_) (fun _ => ?_) | refine t8 ?_ | refine tI ?_ | refine tU ?_ | refine tA ?_ | refine tB ?_ | refine tL ?_ | refine tN ?_ | fail "no step")
  have hcon := take_c (m := m) ⟨i, xs, ts⟩ hs.i (by omega) w_const
  rcases hx14 : (takeM L w_const) ⟨i, xs, ts⟩ with ⟨_, s9⟩ | ⟨i9, e9⟩
  rotate_left
  · obtain rfl := (and_err hx14).symm.trans hT
    refine sC (CallsM.ren (hcon.err hx14) [0, 1] 3 rfl rfl rfl rfl) ?_
    first | exact ⟨⟨_, rfl, rfl⟩, rfl, rfl⟩ | exact ⟨by kernel_rfl, ⟨_, rfl, rfl⟩, rfl, rfl⟩
  replace hT := (and_ok hx14).symm.trans hT
  refine sC (CallsM.ren (hcon.ok hx14) [0, 1] 3 rfl rfl rfl rfl) ?_
  clear hcon
  have hs1 := (Up.ok (Up.take hL w_const 0) hs hx14).1
  obtain rfl := mv_take1 hx14
  repeat' (first | refine tT ?_ | refine tF ?_ | refine ex_dec (fun _ => ?_) (fun _ => ?_) | refine t8 ?_ | refine tI ?_ | refine tU ?_ | refine tA ?_ | refine tB ?_ | refine tL ?_ | refine tN ?_ | fail "no step")
  have hcon := name_c (m := m) ⟨i + 1, xs, ts⟩ hs1.i (by omega)
  rcases hx16 : (nameM L) ⟨i + 1, xs, ts⟩ with ⟨w, s9⟩ | ⟨i9, e9⟩
  rotate_left
  · obtain rfl := (and_err hx16).symm.trans hT
    refine sC (CallsM.ren (hcon.err hx16) [0, 1] 3 rfl rfl rfl rfl) ?_
    first | exact ⟨⟨_, rfl, rfl⟩, rfl, rfl⟩ | exact ⟨by kernel_rfl, ⟨_, rfl, rfl⟩, rfl, rfl⟩
  replace hT := (and_ok hx16).symm.trans hT
  refine sC (CallsM.ren (hcon.ok hx16) [0, 1] 3 rfl rfl rfl rfl) ?_
  clear hcon
  have hs2 := (Up.ok (Up.name hL 0) hs1 hx16).1
  obtain rfl := mv_name1 hx16
  repeat' (first | refine tT ?_ | refine tF ?_ | refine ex_dec (fun _ => ?_) (fun _ => ?_) | refine t8 ?_ | refine tI ?_ | refine tU ?_ | refine tA ?_ | refine tB ?_ | refine tL ?_ | refine tN ?_ | fail "no step")
  have hcon := take_c (m := m) ⟨i + 1 + 1, xs, ts⟩ hs2.i (by omega) t_eq
  rcases hx18 : (takeM L t_eq) ⟨i + 1 + 1, xs, ts⟩ with ⟨_, s9⟩ | ⟨i9, e9⟩
  rotate_left
  · obtain rfl := (and_err hx18).symm.trans hT
    refine sC (CallsM.ren (hcon.err hx18) [0, 1] 4 rfl rfl rfl rfl) ?_
    first | exact ⟨⟨_, rfl, rfl⟩, rfl, rfl⟩ | exact ⟨by kernel_rfl, ⟨_, rfl, rfl⟩, rfl, rfl⟩
  replace hT := (and_ok hx18).symm.trans hT
  refine sC (CallsM.ren (hcon.ok hx18) [0, 1] 4 rfl rfl rfl rfl) ?_
  clear hcon
  have hs3 := (Up.ok (Up.take hL t_eq 0) hs2 hx18).1
  obtain rfl := mv_take1 hx18
  repeat' (first | refine tT ?_ | refine tF ?_ | refine ex_dec (fun _ => ?_) (fun _ => ?_) | refine t8 ?_ | refine tI ?_ | refine tU ?_ | refine tA ?_ | refine tB ?_ | refine tL ?_ | refine tN ?_ | fail "no step")
  have hcon := num_c (m := m) ⟨i + 1 + 1 + 1, xs, ts⟩ hs3.i (by omega)
  rcases hx20 : (numberM L) ⟨i + 1 + 1 + 1, xs, ts⟩ with ⟨n, s9⟩ | ⟨i9, e9⟩
  rotate_left
  · obtain rfl := (and_err hx20).symm.trans hT
    refine sC (CallsM.ren (hcon.err hx20) [0, 1] 4 rfl rfl rfl rfl) ?_
    first | exact ⟨⟨_, rfl, rfl⟩, rfl, rfl⟩ | exact ⟨by kernel_rfl, ⟨_, rfl, rfl⟩, rfl, rfl⟩
  replace hT := (and_ok hx20).symm.trans hT
  refine sC (CallsM.ren (hcon.ok hx20) [0, 1] 4 rfl rfl rfl rfl) ?_
  clear hcon
  have hs4 := (Up.ok (Up.number hL 0) hs3 hx20).1
  obtain rfl := mv_num1 hx20
  repeat' (first | refine tT ?_ | refine tF ?_ | refine ex_dec (fun _ => ?_) (fun _ => ?_) | refine t8 ?_ | refine tI ?_ | refine tU ?_ | refine tA ?_ | refine tB ?_ | refine tL ?_ | refine tN ?_ | fail "no step")
  have hcon := take_c (m := m) ⟨i + 1 + 1 + 1 + 1, xs, ts⟩ hs4.i (by omega) t_semi
  rcases hx22 : (takeM L t_semi) ⟨i + 1 + 1 + 1 + 1, xs, ts⟩ with ⟨_, s9⟩ | ⟨i9, e9⟩
  rotate_left
  · obtain rfl := (and_err hx22).symm.trans hT
    refine sC (CallsM.ren (hcon.err hx22) [0, 1] 4 rfl rfl rfl rfl) ?_
    first | exact ⟨⟨_, rfl, rfl⟩, rfl, rfl⟩ | exact ⟨by kernel_rfl, ⟨_, rfl, rfl⟩, rfl, rfl⟩
  replace hT := (and_ok hx22).symm.trans hT
  refine sC (CallsM.ren (hcon.ok hx22) [0, 1] 4 rfl rfl rfl rfl) ?_
  clear hcon
  have hs5 := (Up.ok (Up.take hL t_semi 0) hs4 hx22).1
  obtain rfl := mv_take1 hx22
  obtain rfl : PR.ok (⟨w, n⟩ : CO) ⟨i + 1 + 1 + 1 + 1 + 1, xs, ts⟩ = T := hT
  repeat' (first | refine tT ?_ | refine tF ?_ | refine ex_dec (fun _ => ?_) (fun _ => ?_) | refine t8 ?_ | refine tI ?_ | refine tU ?_ | refine tA ?_ | refine tB ?_ | refine tL ?_ | refine tN ?_ | fail "no step")
  exact ⟨rfl, TLe.rfl, rfl, rfl⟩
theorem itLe {nm a b : List UInt8} {ty wh : Int} {der : Nat} : TLe (.o (gD [ds (bs nm), di ty, di der, ds (bs a), ds (bs b), di wh, di 0, db false, dnil])) (.o (gD (itD ⟨nm, ty, der, a, b, wh, 0, false, []⟩))) :=
  TLe.o (T1Le.g (.cons DLe.rfl (.cons DLe.rfl (.cons DLe.rfl (.cons DLe.rfl (.cons DLe.rfl (.cons DLe.rfl (.cons DLe.rfl (.cons DLe.rfl (.cons DLe.nil .nil))))))))))
theorem mv_derived (L : List TokP) : ∀ s v s', derivedM L s = .ok v s' → s'.xs = s.xs ∧ s'.ts = s.ts := fun s v s' h => by
  have mvand : ∀ {α β : Type} {x : PM α} {f : α → PM β}, (∀ s v s', x s = .ok v s' → s'.xs = s.xs ∧ s'.ts = s.ts) → (∀ u s v s', f u s = .ok v s' → s'.xs = s.xs ∧ s'.ts = s.ts) → ∀ s v s', (x >>= f) s = .ok v s' → s'.xs = s.xs ∧ s'.ts = s.ts := fun {α β x f} hx hf s v s' h => by
    have hb : PM.and x f s = .ok v s' := h
    unfold PM.and at hb
    rcases hxs : x s with ⟨u, s1⟩ | ⟨i, e⟩ <;> rw [hxs] at hb
    · have h1 := hx _ _ _ hxs
      have h2 := hf _ _ _ _ hb
      exact ⟨h2.1.trans h1.1, h2.2.trans h1.2⟩
    · cases hb
  have mt : ∀ t s v s', takeM L t s = .ok v s' → s'.xs = s.xs ∧ s'.ts = s.ts := fun t s v s' h => by unfold takeM at h; split at h <;> cases h; exact ⟨rfl, rfl⟩
  have mn : ∀ s v s', nameM L s = .ok v s' → s'.xs = s.xs ∧ s'.ts = s.ts := fun s v s' h => by unfold nameM at h; split at h <;> cases h; exact ⟨rfl, rfl⟩
  unfold derivedM atM at h
  split at h
  · refine mvand (x := stepM) (fun s v s' h => by cases h; exact ⟨rfl, rfl⟩) (fun _ => mvand (mt _) fun _ => mvand mn fun a => mvand ?_ fun b => mvand (mt _) fun _ => fun s v s' h => by cases h; exact ⟨rfl, rfl⟩) s v s' h
    intro s1 v1 s2 h1
    split at h1
    · exact mvand (mt _) (fun _ => mn) _ _ _ h1
    · cases h1; exact ⟨rfl, rfl⟩
  · cases h
set_option maxHeartbeats 8000000 in
theorem field_c (hL : TokOk L) (hn : L.length ≤ 100000) (hm : m = 32) (s : PS) (hs : SOk L 0 s) : C2 L m 71 [] (fieldM L) (fun v => .o (gD (itD v))) s := by
  refine C2.of fun T hT => ?_
  unfold fieldM at hT
  rw [← hm] at hT
  have hm2 : m ≤ 32 := by omega
  obtain ⟨i, xs, ts⟩ := s
  refine fn_ruleP (C := ⟨Tryz.prog, layF, Tryz.f71.ntmps, ΓL, 6, [], [6]⟩) layF_ok mixed Tryz.func71 rfl (by kernel_rfl) rfl rfl rfl SLe.rfl ?_
  repeat' (first | refine tT ?_ | refine tF ?_ | refine ex_dec (fun _ => ?_) (fun _ => ?_) | refine t8 ?_ | refine tI ?_ | refine tU ?_ | refine tA ?_ | refine tB ?_ | refine tL ?_ | refine tN ?_ | fail "no step")
  have hcon := name_c (m := m) ⟨i, xs, ts⟩ hs.i (by omega)
  rcases hx57 : (nameM L) ⟨i, xs, ts⟩ with ⟨w, s9⟩ | ⟨i9, e9⟩
  rotate_left
  · obtain rfl := (and_err hx57).symm.trans hT
    refine sC (CallsM.ren (hcon.err hx57) [0, 1] 7 rfl rfl rfl rfl) ?_
    first | exact ⟨⟨_, rfl, rfl⟩, rfl, rfl⟩ | exact ⟨by kernel_rfl, ⟨_, rfl, rfl⟩, rfl, rfl⟩
  replace hT := (and_ok hx57).symm.trans hT
  refine sC (CallsM.ren (hcon.ok hx57) [0, 1] 7 rfl rfl rfl rfl) ?_
  clear hcon
  have hs1 := (Up.ok (Up.name hL 0) hs hx57).1
  obtain rfl := mv_name1 hx57
  repeat' (first | refine tT ?_ | refine tF ?_ | refine ex_dec (fun _ => ?_) (fun _ => ?_) | refine t8 ?_ | refine tI ?_ | refine tU ?_ | refine tA ?_ | refine tB ?_ | refine tL ?_ | refine tN ?_ | fail "no step")
  have hcon := take_c (m := m) ⟨i + 1, xs, ts⟩ hs1.i (by omega) t_colon
  rcases hx59 : (takeM L t_colon) ⟨i + 1, xs, ts⟩ with ⟨_, s9⟩ | ⟨i9, e9⟩
  rotate_left
  · obtain rfl := (and_err hx59).symm.trans hT
    refine sC (CallsM.ren (hcon.err hx59) [0, 1] 8 rfl rfl rfl rfl) ?_
    first | exact ⟨⟨_, rfl, rfl⟩, rfl, rfl⟩ | exact ⟨by kernel_rfl, ⟨_, rfl, rfl⟩, rfl, rfl⟩
  replace hT := (and_ok hx59).symm.trans hT
  refine sC (CallsM.ren (hcon.ok hx59) [0, 1] 8 rfl rfl rfl rfl) ?_
  clear hcon
  have hs2 := (Up.ok (Up.take hL t_colon 0) hs1 hx59).1
  obtain rfl := mv_take1 hx59
  repeat' (first | refine tT ?_ | refine tF ?_ | refine ex_dec (fun _ => ?_) (fun _ => ?_) | refine t8 ?_ | refine tI ?_ | refine tU ?_ | refine tA ?_ | refine tB ?_ | refine tL ?_ | refine tN ?_ | fail "no step")
  have hcon := kind_c hL hn m hm2 ⟨i + 1 + 1, xs, ts⟩ (hs2.less (by omega))
  rcases hx : (kindM L m) ⟨i + 1 + 1, xs, ts⟩ with ⟨t, ⟨i2, xs2, ts2⟩⟩ | ⟨i9, e9⟩
  rotate_left
  · obtain rfl := (and_err hx).symm.trans hT
    refine sC (CallsM.ren (hcon.err hx) [0, 1, 2, 3, 4, 5] 8 rfl rfl rfl rfl) ?_
    first | exact ⟨⟨_, rfl, rfl⟩, rfl, rfl⟩ | exact ⟨by kernel_rfl, ⟨_, rfl, rfl⟩, rfl, rfl⟩
  replace hT := (and_ok hx).symm.trans hT
  refine sC (CallsM.ren (hcon.ok hx) [0, 1, 2, 3, 4, 5] 8 rfl rfl rfl rfl) ?_
  clear hcon
  have hs3 := (Up.ok (c := 0) ((up_kind hL m).less (a' := 2) (b' := 2) 2 (by omega) (by omega)) hs2 hx).1
  repeat' (first | refine tT ?_ | refine tF ?_ | refine ex_dec (fun _ => ?_) (fun _ => ?_) | refine t8 ?_ | refine tI ?_ | refine tU ?_ | refine tA ?_ | refine tB ?_ | refine tL ?_ | refine tN ?_ | fail "no step")
  refine ex_join (X := Nat × Nat × List UInt8 × List UInt8) (fun ⟨i, e, a, b⟩ => ⟨[(0, .o P0), (2, .o (.c (.ptr 6 0))), (3, .o (.c (.ptr 7 0)))], [(0, Qz L m i), (1, Fz 2 3 8 9), (4, .dead), (5, .dead), (6, .obj [.d (ds ⟨#[]⟩), .d (di 0), .d (di 0), .d (ds ⟨#[]⟩), .d (ds ⟨#[]⟩), .d (di 0), .d (di 0), .d (db false), .d dnil]), (7, Iz w t e a b (-1)), (8, Xz xs2), (9, Tz ts2)], 10⟩)
    (fun ⟨i, e, a, b⟩ => SOk L 2 ⟨i, xs2, ts2⟩ ∧ (atM (isV L · w_where) (stepM >>= fun _ => exprM L m) (pure (-1)) >>= fun x => takeM L t_semi >>= fun _ => pure (⟨w, t, e, a, b, x, 0, false, []⟩ : IT)) ⟨i, xs2, ts2⟩ = T) ?_ ?_
  · rcases hv : isV L i2 t_eq with _ | _
    · replace hT := pureT (atnB hT hv)
      refine sC (CallsM.ren ((may_no i2 hs3.lt _ hv)) [0, 1] 10 rfl rfl rfl rfl) ?_
      repeat' (first | refine tT ?_ | refine tF ?_ | refine ex_dec (fun _ => ?_) (fun _ => ?_) | refine t8 ?_ | refine tI ?_ | refine tU ?_ | refine tA ?_ | refine tB ?_ | refine tL ?_ | refine tN ?_ | fail "no step")
      exact ex_meet (i2, 0, [], []) ⟨hs3.less (by omega), hT⟩ (SLe.of ⟨⟨rfl, rfl, rfl, trivial⟩, ⟨rfl, rfl, rfl, rfl, rfl, rfl, rfl, rfl, trivial⟩⟩)
    · replace hT := stp1 (asc (atyB hT hv))
      have hs4 := stpS hL hs3 (isV_k hv)
      have hd := derived_c (m := m) hL hn w t (-1) ⟨i2 + 1, xs2, ts2⟩ hs4
      refine sC (CallsM.ren ((may_yes i2 hs3.lt (by omega) _ hv)) [0, 1] 10 rfl rfl rfl rfl) ?_
      repeat' (first | refine tT ?_ | refine tF ?_ | refine ex_dec (fun _ => ?_) (fun _ => ?_) | refine t8 ?_ | refine tI ?_ | refine tU ?_ | refine tA ?_ | refine tB ?_ | refine tL ?_ | refine tN ?_ | fail "no step")
      rcases hy : derivedM L ⟨i2 + 1, xs2, ts2⟩ with ⟨⟨e, a, b⟩, ⟨i3, xs3, ts3⟩⟩ | ⟨i9, e9⟩
      · replace hT := (and_ok hy).symm.trans hT
        obtain ⟨h1, h2⟩ : xs3 = xs2 ∧ ts3 = ts2 := mv_derived L _ _ _ hy
        subst h1 h2
        have hs5 := (Up.ok (up_derived hL 3) hs4 hy).1
        rw [hy] at hd
        refine ex_callM (CallsM.moreD (CallsM.ren hd [0, 1, 7] 10 rfl rfl rfl rfl)) ?_
        repeat' (first | refine tT ?_ | refine tF ?_ | refine ex_dec (fun _ => ?_) (fun _ => ?_) | refine t8 ?_ | refine tI ?_ | refine tU ?_ | refine tA ?_ | refine tB ?_ | refine tL ?_ | refine tN ?_ | fail "no step")
        exact ex_meet (i3, e, a, b) ⟨hs5.less (by omega), hT⟩ (SLe.of ⟨⟨rfl, rfl, rfl, trivial⟩, ⟨rfl, rfl, rfl, rfl, rfl, rfl, rfl, rfl, trivial⟩⟩)
      · obtain rfl := (and_err hy).symm.trans hT
        rw [hy] at hd
        refine ex_callM (CallsM.moreD (CallsM.ren hd [0, 1, 7] 10 rfl rfl rfl rfl)) ?_
        exact ⟨⟨_, rfl, rfl⟩, rfl, rfl⟩
  · rintro ⟨i, e, a, b⟩ ⟨hs, hT⟩
    rcases hv : isV L i w_where with _ | _
    · replace hT := pureT (atnB hT hv)
      refine sC (CallsM.ren ((may_no i hs.lt _ hv)) [0, 1] 10 rfl rfl rfl rfl) ?_
      repeat' (first | refine tT ?_ | refine tF ?_ | refine ex_dec (fun _ => ?_) (fun _ => ?_) | refine t8 ?_ | refine tI ?_ | refine tU ?_ | refine tA ?_ | refine tB ?_ | refine tL ?_ | refine tN ?_ | fail "no step")
      have hcon := take_c (m := m) ⟨i, xs2, ts2⟩ hs.i (by omega) t_semi
      rcases hx93 : (takeM L t_semi) ⟨i, xs2, ts2⟩ with ⟨_, s9⟩ | ⟨i9, e9⟩
      rotate_left
      · obtain rfl := (and_err hx93).symm.trans hT
        refine sC (CallsM.ren (hcon.err hx93) [0, 1] 10 rfl rfl rfl rfl) ?_
        first | exact ⟨⟨_, rfl, rfl⟩, rfl, rfl⟩ | exact ⟨by kernel_rfl, ⟨_, rfl, rfl⟩, rfl, rfl⟩
      replace hT := (and_ok hx93).symm.trans hT
      refine sC (CallsM.ren (hcon.ok hx93) [0, 1] 10 rfl rfl rfl rfl) ?_
      clear hcon
      have hs1 := (Up.ok (Up.take hL t_semi 0) hs hx93).1
      obtain rfl := mv_take1 hx93
      obtain rfl : PR.ok (⟨w, t, e, a, b, -1, 0, false, []⟩ : IT) ⟨i + 1, xs2, ts2⟩ = T := hT
      repeat' (first | refine tT ?_ | refine tF ?_ | refine ex_dec (fun _ => ?_) (fun _ => ?_) | refine t8 ?_ | refine tI ?_ | refine tU ?_ | refine tA ?_ | refine tB ?_ | refine tL ?_ | refine tN ?_ | fail "no step")
      exact ⟨rfl, itLe, rfl, rfl⟩
    · replace hT := stp1 (asc (atyB hT hv))
      have hs1 := stpS hL hs (isV_k hv)
      refine sC (CallsM.ren ((may_yes i hs.lt (by omega) _ hv)) [0, 1] 10 rfl rfl rfl rfl) ?_
      repeat' (first | refine tT ?_ | refine tF ?_ | refine ex_dec (fun _ => ?_) (fun _ => ?_) | refine t8 ?_ | refine tI ?_ | refine tU ?_ | refine tA ?_ | refine tB ?_ | refine tL ?_ | refine tN ?_ | fail "no step")
      have hcon := expr_c hL hn m hm2 ⟨i + 1, xs2, ts2⟩ (hs1.less (by omega))
      rcases hx : (exprM L m) ⟨i + 1, xs2, ts2⟩ with ⟨x, ⟨i4, xs4, ts4⟩⟩ | ⟨i9, e9⟩
      rotate_left
      · obtain rfl := (and_err hx).symm.trans hT
        refine sC (CallsM.ren (hcon.err hx) [0, 1, 2, 3, 8, 9] 10 rfl rfl rfl rfl) ?_
        first | exact ⟨⟨_, rfl, rfl⟩, rfl, rfl⟩ | exact ⟨by kernel_rfl, ⟨_, rfl, rfl⟩, rfl, rfl⟩
      replace hT := (and_ok hx).symm.trans hT
      refine sC (CallsM.ren (hcon.ok hx) [0, 1, 2, 3, 8, 9] 10 rfl rfl rfl rfl) ?_
      clear hcon
      have hs2 := (Up.ok (up_expr hL m 3) hs1 hx).1
      obtain rfl := (keep_expr m).eq hx
      repeat' (first | refine tT ?_ | refine tF ?_ | refine ex_dec (fun _ => ?_) (fun _ => ?_) | refine t8 ?_ | refine tI ?_ | refine tU ?_ | refine tA ?_ | refine tB ?_ | refine tL ?_ | refine tN ?_ | fail "no step")
      have hcon := take_c (m := m) ⟨i4, xs4, ts2⟩ hs2.i (by omega) t_semi
      rcases hx103 : (takeM L t_semi) ⟨i4, xs4, ts2⟩ with ⟨_, s9⟩ | ⟨i9, e9⟩
      rotate_left
      · obtain rfl := (and_err hx103).symm.trans hT
        refine sC (CallsM.ren (hcon.err hx103) [0, 1] 11 rfl rfl rfl rfl) ?_
        first | exact ⟨⟨_, rfl, rfl⟩, rfl, rfl⟩ | exact ⟨by kernel_rfl, ⟨_, rfl, rfl⟩, rfl, rfl⟩
      replace hT := (and_ok hx103).symm.trans hT
      refine sC (CallsM.ren (hcon.ok hx103) [0, 1] 11 rfl rfl rfl rfl) ?_
      clear hcon
      have hs3 := (Up.ok (Up.take hL t_semi 0) hs2 hx103).1
      obtain rfl := mv_take1 hx103
      obtain rfl : PR.ok (⟨w, t, e, a, b, x, 0, false, []⟩ : IT) ⟨i4 + 1, xs4, ts2⟩ = T := hT
      repeat' (first | refine tT ?_ | refine tF ?_ | refine ex_dec (fun _ => ?_) (fun _ => ?_) | refine t8 ?_ | refine tI ?_ | refine tU ?_ | refine tA ?_ | refine tB ?_ | refine tL ?_ | refine tN ?_ | fail "no step")
      exact ⟨rfl, itLe, rfl, rfl⟩
end
end Go.Proofs.YtkbhmcdoedmffaaGreatDoor

namespace Go.Proofs.YtkbhmcdoedmffaaGreatDoor
open Go.RowKit

section
variable {L : List TokP} {m : Nat}
def headN (L : List TokP) (n : Nat) (l : List SB) : PM (List SB) := if l = [] then subsN L n l else atM (namedV L ·) (subsN L n l) (pure l)
set_option maxHeartbeats 8000000 in
theorem pack_c (hL : TokOk L) (hn : L.length ≤ 100000) (s : PS) {c : Nat} (hs : SOk L c s) : C0 L m 70 [] (packM L) (fun v => .o (gD (itD v))) s := by
  refine C0.of fun T hT => ?_
  unfold packM at hT
  obtain ⟨i, xs, ts⟩ := s
  refine fn_ruleP (C := ⟨Tryz.prog, layF, Tryz.f70.ntmps, ΓL, 2, [], []⟩) layF_ok mixed Tryz.func70 rfl (by kernel_rfl) rfl rfl rfl SLe.rfl ?_
  repeat' (first | refine tT ?_ | refine tF ?_ | refine ex_dec (fun _ => ?_) (fun _ => ?_) | refine t8 ?_ | refine tI ?_ | refine tU ?_ | refine tA ?_ | refine tB ?_ | refine tL ?_ | refine tN ?_ | fail "no step")
  have hcon := take_c (m := m) ⟨i, xs, ts⟩ hs.i (by omega) w_pack
  rcases hx18 : (takeM L w_pack) ⟨i, xs, ts⟩ with ⟨_, s9⟩ | ⟨i9, e9⟩
  rotate_left
  · obtain rfl := (and_err hx18).symm.trans hT
    refine sC (CallsM.ren (hcon.err hx18) [0, 1] 3 rfl rfl rfl rfl) ?_
    first | exact ⟨⟨_, rfl, rfl⟩, rfl, rfl⟩ | exact ⟨by kernel_rfl, ⟨_, rfl, rfl⟩, rfl, rfl⟩
  replace hT := (and_ok hx18).symm.trans hT
  refine sC (CallsM.ren (hcon.ok hx18) [0, 1] 3 rfl rfl rfl rfl) ?_
  clear hcon
  have hs1 := (Up.ok (Up.take hL w_pack 0) hs hx18).1
  obtain rfl := mv_take1 hx18
  have ha := ahead_c (L := L) (m := m) (i + 1) hs1.lt
  have hT : (match (if (tk L (i + 1)).k = 0 then integerV (tk L (i + 1)).t else none) with
    | none => failM 4 ⟨i + 1, xs, ts⟩
    | some (z, lt) => (stepM >>= fun _ => takeM L t_lcur >>= fun _ => (fun s => subsN L (L.length - s.i + 1) [] s) >>= fun l => takeM L t_rcur >>= fun _ => pure (⟨[], -1, 0, [], [], -1, z, lt, l⟩ : IT)) ⟨i + 1, xs, ts⟩) = T := hT
  have hk3 : (tk L (i + 1)).k = 0 → (tk L (i + 1)).k ≠ 3 := fun h => by omega
  have hs2 := fun h => stpS hL hs1 (hk3 h)
  clear hk3
  generalize tk L (i + 1) = u at *
  have hq := (integer_c u.t).gL
  repeat' (first | refine tT ?_ | refine tF ?_ | refine ex_dec (fun _ => ?_) (fun _ => ?_) | refine t8 ?_ | refine tI ?_ | refine tU ?_ | refine tA ?_ | refine tB ?_ | refine tL ?_ | refine tN ?_ | fail "no step")
  refine sC (CallsM.ren (ha) [0, 1] 4 rfl rfl rfl rfl) ?_
  rcases hz : integerV u.t with _ | ⟨z, lt⟩ <;> rw [hz] at hT hq
  · have hq : CallsA Tryz.prog ΓL 12 [c1 (ds (bs u.t))] (.tup [c1 (di 0), c1 (db false), c1 (db false)]) := hq
    obtain rfl : PR.err (i + 1) 4 = T := by
      rw [← hT]
      by_cases hk : u.k = 0
      · rw [if_pos hk]; rfl
      · rw [if_neg hk]; rfl
    repeat' (first | refine ex_call hq ?_ | refine tT ?_ | refine tF ?_ | refine ex_dec (fun _ => ?_) (fun _ => ?_) | refine t8 ?_ | refine tI ?_ | refine tU ?_ | refine tA ?_ | refine tB ?_ | refine tL ?_ | refine tN ?_ | fail "no step")
    refine sC (CallsM.ren ((fail_c (m := m) (i + 1) 4 hs1.lt)) [0, 1] 4 rfl rfl rfl rfl) ?_
    exact ⟨⟨_, rfl, rfl⟩, rfl, rfl⟩
  · have hq : CallsA Tryz.prog ΓL 12 [c1 (ds (bs u.t))] (.tup [c1 (di z), c1 (db lt), c1 (db true)]) := hq
    by_cases hk : u.k = 0
    · rw [if_pos hk] at hT
      replace hs2 := hs2 hk
      have hi1 := hs1.lt
      have hi2 := hs2.lt
      repeat' (first | refine ex_call hq ?_ | refine tT ?_ | refine tF ?_ | refine ex_dec (fun _ => ?_) (fun _ => ?_) | refine t8 ?_ | refine tI ?_ | refine tU ?_ | refine tA ?_ | refine tB ?_ | refine tL ?_ | refine tN ?_ | fail "no step")
      refine sC (CallsM.ren (ha) [0, 1] 4 rfl rfl rfl rfl) ?_
      repeat' (first | refine ex_i64 ((i + 1 + 1 : Nat) : Int) (by omega) (by omega) (by omega) ?_ | refine ex_u64 ((i + 1 + 1 : Nat) : Int) (by omega) (by omega) (by omega) ?_ | refine ex_u8 ((i + 1 + 1 : Nat) : Int) (by omega) (by omega) (by omega) ?_ | refine tT ?_ | refine tF ?_ | refine ex_dec (fun _ => ?_) (fun _ => ?_) | refine t8 ?_ | refine tI ?_ | refine tU ?_ | refine tA ?_ | refine tB ?_ | refine tL ?_ | refine tN ?_ | fail "no step")
      replace hT : (takeM L t_lcur >>= fun _ => (fun s => subsN L (L.length - s.i + 1) [] s) >>= fun l => takeM L t_rcur >>= fun _ => pure (⟨[], -1, 0, [], [], -1, z, lt, l⟩ : IT)) ⟨i + 1 + 1, xs, ts⟩ = T := hT
      have hcon := take_c (m := m) ⟨i + 1 + 1, xs, ts⟩ hs2.i (by omega) t_lcur
      rcases hx50 : (takeM L t_lcur) ⟨i + 1 + 1, xs, ts⟩ with ⟨_, s9⟩ | ⟨i9, e9⟩
      rotate_left
      · obtain rfl := (and_err hx50).symm.trans hT
        refine sC (CallsM.ren (hcon.err hx50) [0, 1] 4 rfl rfl rfl rfl) ?_
        first | exact ⟨⟨_, rfl, rfl⟩, rfl, rfl⟩ | exact ⟨by kernel_rfl, ⟨_, rfl, rfl⟩, rfl, rfl⟩
      replace hT := (and_ok hx50).symm.trans hT
      refine sC (CallsM.ren (hcon.ok hx50) [0, 1] 4 rfl rfl rfl rfl) ?_
      clear hcon
      have hs3 := (Up.ok (Up.take hL t_lcur 0) hs2 hx50).1
      obtain rfl := mv_take1 hx50
      repeat' (first | refine tT ?_ | refine tF ?_ | refine ex_dec (fun _ => ?_) (fun _ => ?_) | refine t8 ?_ | refine tI ?_ | refine tU ?_ | refine tA ?_ | refine tB ?_ | refine tL ?_ | refine tN ?_ | fail "no step")
      replace hT : (headN L (L.length - (i + 1 + 1 + 1) + 1) [] >>= fun l => takeM L t_rcur >>= fun _ => pure (⟨[], -1, 0, [], [], -1, z, lt, l⟩ : IT)) ⟨i + 1 + 1 + 1, xs, ts⟩ = T := hT
      refine ex_loop (X := Nat × List SB × Nat) (fun ⟨i, l, _⟩ => ⟨[(0, .o P0), (2, .o (.c (.ptr 2 0))), (3, .o (.c (.ptr 3 0)))], [(0, Qz L m i), (2, .obj [.d (ds ⟨#[]⟩), .d (di 0), .d (di 0), .d (ds ⟨#[]⟩), .d (ds ⟨#[]⟩), .d (di 0), .d (di 0), .d (db false), .d dnil]), (3, .obj [.d (ds ⟨#[]⟩), .d (di (-1)), .d (di 0), .d (ds ⟨#[]⟩), .d (ds ⟨#[]⟩), .d (di (-1)), .d (di z), .d (db lt), .row 4]), (4, .row 2 159 (l.map sbD))], 5⟩) (fun y => L.length - y.1)
        (fun ⟨i, l, n⟩ => SOk L c ⟨i, xs, ts⟩ ∧ L.length < i + n ∧ l.length ≤ i ∧ (headN L n l >>= fun l => takeM L t_rcur >>= fun _ => pure (⟨[], -1, 0, [], [], -1, z, lt, l⟩ : IT)) ⟨i, xs, ts⟩ = T) (i + 1 + 1 + 1, [], L.length - (i + 1 + 1 + 1) + 1) ⟨hs3.less (by omega), by omega, Nat.zero_le _, hT⟩ (SLe.trans (SLe.of ⟨⟨rfl, rfl, rfl, trivial⟩, ⟨rfl, rfl, rfl, rfl, trivial⟩⟩) (SLe.ownCell 3 8 4 2 159 rfl rfl rfl rfl rfl rfl)) ?_
      clear hT hs3 hs2 hs1 ha hq hs
      rintro ⟨i, l, n⟩ ⟨hs, hf, hll, hT⟩
      have hi := hs.lt
      have hnm := named_c (m := m) i hi
      cases n with
      | zero => omega
      | succ n =>
        have hbody : (l = [] ∨ namedV L i = true) → (subsN L (n + 1) l >>= fun l => takeM L t_rcur >>= fun _ => pure (⟨[], -1, 0, [], [], -1, z, lt, l⟩ : IT)) ⟨i, xs, ts⟩ = T := fun h => by
          unfold headN at hT
          by_cases hl : l = []
          · rwa [if_pos hl] at hT
          · rw [if_neg hl] at hT
            exact atyB hT (h.resolve_left hl)
        by_cases hgo : l = [] ∨ namedV L i = true
        · replace hT := hbody hgo
          rw [subsN] at hT
          replace hT := asc hT
          by_cases hl : l = []
          · subst hl
            repeat' (first | refine ex_is (α := Nat) 0 rfl ?_ | refine tT ?_ | refine tF ?_ | refine ex_dec (fun _ => ?_) (fun _ => ?_) | refine t8 ?_ | refine tI ?_ | refine tU ?_ | refine tA ?_ | refine tB ?_ | refine tL ?_ | refine tN ?_ | fail "no step")
            rcases hnv : namedV L i with _ | _ <;> rw [hnv] at hnm
            · replace hT := asc (rmF hT hnv)
              refine sC (CallsM.ren (hnm) [0, 1] 5 rfl rfl rfl rfl) ?_
              repeat' (first | refine tT ?_ | refine tF ?_ | refine ex_dec (fun _ => ?_) (fun _ => ?_) | refine t8 ?_ | refine tI ?_ | refine tU ?_ | refine tA ?_ | refine tB ?_ | refine tL ?_ | refine tN ?_ | fail "no step")
              have hcon := name_c (m := m) ⟨i, xs, ts⟩ hs.i (by omega)
              rcases hx79 : (nameM L) ⟨i, xs, ts⟩ with ⟨w, s9⟩ | ⟨i9, e9⟩
              rotate_left
              · obtain rfl := (and_err hx79).symm.trans hT
                refine sC (CallsM.ren (hcon.err hx79) [0, 1] 5 rfl rfl rfl rfl) ?_
                first | exact ⟨⟨_, rfl, rfl⟩, rfl, rfl⟩ | exact ⟨by kernel_rfl, ⟨_, rfl, rfl⟩, rfl, rfl⟩
              replace hT := (and_ok hx79).symm.trans hT
              refine sC (CallsM.ren (hcon.ok hx79) [0, 1] 5 rfl rfl rfl rfl) ?_
              clear hcon
              have hs1 := (Up.ok (Up.name hL 0) hs hx79).1
              obtain rfl := mv_name1 hx79
              replace hT := asc hT
              repeat' (first | refine tT ?_ | refine tF ?_ | refine ex_dec (fun _ => ?_) (fun _ => ?_) | refine t8 ?_ | refine tI ?_ | refine tU ?_ | refine tA ?_ | refine tB ?_ | refine tL ?_ | refine tN ?_ | fail "no step")
              have hcon := take_c (m := m) ⟨i + 1, xs, ts⟩ hs1.i (by omega) t_colon
              rcases hx82 : (takeM L t_colon) ⟨i + 1, xs, ts⟩ with ⟨_, s9⟩ | ⟨i9, e9⟩
              rotate_left
              · obtain rfl := (and_err hx82).symm.trans hT
                refine sC (CallsM.ren (hcon.err hx82) [0, 1] 5 rfl rfl rfl rfl) ?_
                first | exact ⟨⟨_, rfl, rfl⟩, rfl, rfl⟩ | exact ⟨by kernel_rfl, ⟨_, rfl, rfl⟩, rfl, rfl⟩
              replace hT := (and_ok hx82).symm.trans hT
              refine sC (CallsM.ren (hcon.ok hx82) [0, 1] 5 rfl rfl rfl rfl) ?_
              clear hcon
              have hs2 := (Up.ok (Up.take hL t_colon 0) hs1 hx82).1
              obtain rfl := mv_take1 hx82
              replace hT := asc hT
              repeat' (first | refine tT ?_ | refine tF ?_ | refine ex_dec (fun _ => ?_) (fun _ => ?_) | refine t8 ?_ | refine tI ?_ | refine tU ?_ | refine tA ?_ | refine tB ?_ | refine tL ?_ | refine tN ?_ | fail "no step")
              have hcon := num_c (m := m) ⟨i + 1 + 1, xs, ts⟩ hs2.i (by omega)
              rcases hx85 : (numberM L) ⟨i + 1 + 1, xs, ts⟩ with ⟨b, s9⟩ | ⟨i9, e9⟩
              rotate_left
              · obtain rfl := (and_err hx85).symm.trans hT
                refine sC (CallsM.ren (hcon.err hx85) [0, 1] 5 rfl rfl rfl rfl) ?_
                first | exact ⟨⟨_, rfl, rfl⟩, rfl, rfl⟩ | exact ⟨by kernel_rfl, ⟨_, rfl, rfl⟩, rfl, rfl⟩
              replace hT := (and_ok hx85).symm.trans hT
              refine sC (CallsM.ren (hcon.ok hx85) [0, 1] 5 rfl rfl rfl rfl) ?_
              clear hcon
              have hs3 := (Up.ok (Up.number hL 0) hs2 hx85).1
              obtain rfl := mv_num1 hx85
              replace hT := asc hT
              repeat' (first | refine tT ?_ | refine tF ?_ | refine ex_dec (fun _ => ?_) (fun _ => ?_) | refine t8 ?_ | refine tI ?_ | refine tU ?_ | refine tA ?_ | refine tB ?_ | refine tL ?_ | refine tN ?_ | fail "no step")
              have hcon := take_c (m := m) ⟨i + 1 + 1 + 1, xs, ts⟩ hs3.i (by omega) t_semi
              rcases hx88 : (takeM L t_semi) ⟨i + 1 + 1 + 1, xs, ts⟩ with ⟨_, s9⟩ | ⟨i9, e9⟩
              rotate_left
              · obtain rfl := (and_err hx88).symm.trans hT
                refine sC (CallsM.ren (hcon.err hx88) [0, 1] 5 rfl rfl rfl rfl) ?_
                first | exact ⟨⟨_, rfl, rfl⟩, rfl, rfl⟩ | exact ⟨by kernel_rfl, ⟨_, rfl, rfl⟩, rfl, rfl⟩
              replace hT := (and_ok hx88).symm.trans hT
              refine sC (CallsM.ren (hcon.ok hx88) [0, 1] 5 rfl rfl rfl rfl) ?_
              clear hcon
              have hs4 := (Up.ok (Up.take hL t_semi 0) hs3 hx88).1
              obtain rfl := mv_take1 hx88
              have hi4 := hs4.lt
              have hmin : (if (1048576 : Int) < (b : Int) then 1048576 else (b : Int)) = ((min b 1048576 : Nat) : Int) := by split <;> omega
              repeat' (first | refine ex_i64 ((min b 1048576 : Nat) : Int) (by omega) (by omega) (by omega) ?_ | refine ex_u64 ((min b 1048576 : Nat) : Int) (by omega) (by omega) (by omega) ?_ | refine ex_u8 ((min b 1048576 : Nat) : Int) (by omega) (by omega) (by omega) ?_ | refine ex_is ((min b 1048576 : Nat) : Int) hmin ?_ | refine tT ?_ | refine tF ?_ | refine ex_dec (fun _ => ?_) (fun _ => ?_) | refine t8 ?_ | refine tI ?_ | refine tU ?_ | refine tA ?_ | refine tB ?_ | refine tL ?_ | refine tN ?_ | fail "no step")
              refine ex_app (0) (1) 1000 (by first | rfl | (simp; done) | (simp; omega)) (by first | rfl | (simp; done) | (simp; omega)) rfl (by omega) ?_
              refine ex_is (List.map sbD ([] ++ [(⟨w, min b 1048576⟩ : SB)])) (by rw [List.map_append]; rfl) ?_
              repeat' (first | refine tT ?_ | refine tF ?_ | refine ex_dec (fun _ => ?_) (fun _ => ?_) | refine t8 ?_ | refine tI ?_ | refine tU ?_ | refine tA ?_ | refine tB ?_ | refine tL ?_ | refine tN ?_ | fail "no step")
              exact ex_round (i + 1 + 1 + 1 + 1, [] ++ [(⟨w, min b 1048576⟩ : SB)], n) ⟨hs4.less (by omega), by omega, by simp <;> omega, by unfold headN; rw [if_neg (by simp)]; exact hT⟩ (by show L.length - (i + 1 + 1 + 1 + 1) < L.length - i; omega) (SLe.ren [(0, 0), (2, 2), (3, 3), (6, 4), (1, 1)] ⟨⟨rfl, rfl⟩, ⟨rfl, rfl⟩, ⟨rfl, rfl⟩, trivial⟩ ⟨⟨rfl, rfl⟩, ⟨rfl, rfl⟩, ⟨rfl, rfl⟩, ⟨rfl, rfl⟩, trivial⟩ rfl)
            · replace hT := rmT hT hnv
              refine sC (CallsM.ren (hnm) [0, 1] 5 rfl rfl rfl rfl) ?_
              repeat' (first | refine ex_is (α := Nat) 0 rfl ?_ | refine tT ?_ | refine tF ?_ | refine ex_dec (fun _ => ?_) (fun _ => ?_) | refine t8 ?_ | refine tI ?_ | refine tU ?_ | refine tA ?_ | refine tB ?_ | refine tL ?_ | refine tN ?_ | fail "no step")
              have hcon := room_c (m := m) ⟨i, xs, ts⟩ hi 0 (by omega)
              rcases hr : (roomM 0) ⟨i, xs, ts⟩ with ⟨_, s9⟩ | ⟨i9, e9⟩
              rotate_left
              · obtain rfl := (and_err hr).symm.trans hT
                refine sC (CallsM.ren (hcon.err hr) [0, 1] 5 rfl rfl rfl rfl) ?_
                first | exact ⟨⟨_, rfl, rfl⟩, rfl, rfl⟩ | exact ⟨by kernel_rfl, ⟨_, rfl, rfl⟩, rfl, rfl⟩
              replace hT := (and_ok hr).symm.trans hT
              refine sC (CallsM.ren (hcon.ok hr) [0, 1] 5 rfl rfl rfl rfl) ?_
              clear hcon
              obtain rfl := mv_room1 hr
              replace hT := asc hT
              repeat' (first | refine tT ?_ | refine tF ?_ | refine ex_dec (fun _ => ?_) (fun _ => ?_) | refine t8 ?_ | refine tI ?_ | refine tU ?_ | refine tA ?_ | refine tB ?_ | refine tL ?_ | refine tN ?_ | fail "no step")
              have hcon := name_c (m := m) ⟨i, xs, ts⟩ hs.i (by omega)
              rcases hx102 : (nameM L) ⟨i, xs, ts⟩ with ⟨w, s9⟩ | ⟨i9, e9⟩
              rotate_left
              · obtain rfl := (and_err hx102).symm.trans hT
                refine sC (CallsM.ren (hcon.err hx102) [0, 1] 5 rfl rfl rfl rfl) ?_
                first | exact ⟨⟨_, rfl, rfl⟩, rfl, rfl⟩ | exact ⟨by kernel_rfl, ⟨_, rfl, rfl⟩, rfl, rfl⟩
              replace hT := (and_ok hx102).symm.trans hT
              refine sC (CallsM.ren (hcon.ok hx102) [0, 1] 5 rfl rfl rfl rfl) ?_
              clear hcon
              have hs1 := (Up.ok (Up.name hL 0) hs hx102).1
              obtain rfl := mv_name1 hx102
              replace hT := asc hT
              repeat' (first | refine tT ?_ | refine tF ?_ | refine ex_dec (fun _ => ?_) (fun _ => ?_) | refine t8 ?_ | refine tI ?_ | refine tU ?_ | refine tA ?_ | refine tB ?_ | refine tL ?_ | refine tN ?_ | fail "no step")
              have hcon := take_c (m := m) ⟨i + 1, xs, ts⟩ hs1.i (by omega) t_colon
              rcases hx105 : (takeM L t_colon) ⟨i + 1, xs, ts⟩ with ⟨_, s9⟩ | ⟨i9, e9⟩
              rotate_left
              · obtain rfl := (and_err hx105).symm.trans hT
                refine sC (CallsM.ren (hcon.err hx105) [0, 1] 5 rfl rfl rfl rfl) ?_
                first | exact ⟨⟨_, rfl, rfl⟩, rfl, rfl⟩ | exact ⟨by kernel_rfl, ⟨_, rfl, rfl⟩, rfl, rfl⟩
              replace hT := (and_ok hx105).symm.trans hT
              refine sC (CallsM.ren (hcon.ok hx105) [0, 1] 5 rfl rfl rfl rfl) ?_
              clear hcon
              have hs2 := (Up.ok (Up.take hL t_colon 0) hs1 hx105).1
              obtain rfl := mv_take1 hx105
              replace hT := asc hT
              repeat' (first | refine tT ?_ | refine tF ?_ | refine ex_dec (fun _ => ?_) (fun _ => ?_) | refine t8 ?_ | refine tI ?_ | refine tU ?_ | refine tA ?_ | refine tB ?_ | refine tL ?_ | refine tN ?_ | fail "no step")
              have hcon := num_c (m := m) ⟨i + 1 + 1, xs, ts⟩ hs2.i (by omega)
              rcases hx108 : (numberM L) ⟨i + 1 + 1, xs, ts⟩ with ⟨b, s9⟩ | ⟨i9, e9⟩
              rotate_left
              · obtain rfl := (and_err hx108).symm.trans hT
                refine sC (CallsM.ren (hcon.err hx108) [0, 1] 5 rfl rfl rfl rfl) ?_
                first | exact ⟨⟨_, rfl, rfl⟩, rfl, rfl⟩ | exact ⟨by kernel_rfl, ⟨_, rfl, rfl⟩, rfl, rfl⟩
              replace hT := (and_ok hx108).symm.trans hT
              refine sC (CallsM.ren (hcon.ok hx108) [0, 1] 5 rfl rfl rfl rfl) ?_
              clear hcon
              have hs3 := (Up.ok (Up.number hL 0) hs2 hx108).1
              obtain rfl := mv_num1 hx108
              replace hT := asc hT
              repeat' (first | refine tT ?_ | refine tF ?_ | refine ex_dec (fun _ => ?_) (fun _ => ?_) | refine t8 ?_ | refine tI ?_ | refine tU ?_ | refine tA ?_ | refine tB ?_ | refine tL ?_ | refine tN ?_ | fail "no step")
              have hcon := take_c (m := m) ⟨i + 1 + 1 + 1, xs, ts⟩ hs3.i (by omega) t_semi
              rcases hx111 : (takeM L t_semi) ⟨i + 1 + 1 + 1, xs, ts⟩ with ⟨_, s9⟩ | ⟨i9, e9⟩
              rotate_left
              · obtain rfl := (and_err hx111).symm.trans hT
                refine sC (CallsM.ren (hcon.err hx111) [0, 1] 5 rfl rfl rfl rfl) ?_
                first | exact ⟨⟨_, rfl, rfl⟩, rfl, rfl⟩ | exact ⟨by kernel_rfl, ⟨_, rfl, rfl⟩, rfl, rfl⟩
              replace hT := (and_ok hx111).symm.trans hT
              refine sC (CallsM.ren (hcon.ok hx111) [0, 1] 5 rfl rfl rfl rfl) ?_
              clear hcon
              have hs4 := (Up.ok (Up.take hL t_semi 0) hs3 hx111).1
              obtain rfl := mv_take1 hx111
              have hi4 := hs4.lt
              have hmin : (if (1048576 : Int) < (b : Int) then 1048576 else (b : Int)) = ((min b 1048576 : Nat) : Int) := by split <;> omega
              repeat' (first | refine ex_i64 ((min b 1048576 : Nat) : Int) (by omega) (by omega) (by omega) ?_ | refine ex_u64 ((min b 1048576 : Nat) : Int) (by omega) (by omega) (by omega) ?_ | refine ex_u8 ((min b 1048576 : Nat) : Int) (by omega) (by omega) (by omega) ?_ | refine ex_is ((min b 1048576 : Nat) : Int) hmin ?_ | refine tT ?_ | refine tF ?_ | refine ex_dec (fun _ => ?_) (fun _ => ?_) | refine t8 ?_ | refine tI ?_ | refine tU ?_ | refine tA ?_ | refine tB ?_ | refine tL ?_ | refine tN ?_ | fail "no step")
              refine ex_app (0) (1) 1000 (by first | rfl | (simp; done) | (simp; omega)) (by first | rfl | (simp; done) | (simp; omega)) rfl (by omega) ?_
              refine ex_is (List.map sbD ([] ++ [(⟨w, min b 1048576⟩ : SB)])) (by rw [List.map_append]; rfl) ?_
              repeat' (first | refine tT ?_ | refine tF ?_ | refine ex_dec (fun _ => ?_) (fun _ => ?_) | refine t8 ?_ | refine tI ?_ | refine tU ?_ | refine tA ?_ | refine tB ?_ | refine tL ?_ | refine tN ?_ | fail "no step")
              exact ex_round (i + 1 + 1 + 1 + 1, [] ++ [(⟨w, min b 1048576⟩ : SB)], n) ⟨hs4.less (by omega), by omega, by simp <;> omega, by unfold headN; rw [if_neg (by simp)]; exact hT⟩ (by show L.length - (i + 1 + 1 + 1 + 1) < L.length - i; omega) (SLe.ren [(0, 0), (2, 2), (3, 3), (6, 4), (1, 1)] ⟨⟨rfl, rfl⟩, ⟨rfl, rfl⟩, ⟨rfl, rfl⟩, trivial⟩ ⟨⟨rfl, rfl⟩, ⟨rfl, rfl⟩, ⟨rfl, rfl⟩, ⟨rfl, rfl⟩, trivial⟩ rfl)
          · have hnv : namedV L i = true := hgo.resolve_left hl
            have hl0 : l.length ≠ 0 := fun e => hl (List.eq_nil_of_length_eq_zero e)
            rw [hnv] at hnm
            repeat' (first | refine ex_is l.length (by simp) ?_ | refine tT ?_ | refine tF ?_ | refine ex_dec (fun _ => ?_) (fun _ => ?_) | refine t8 ?_ | refine tI ?_ | refine tU ?_ | refine tA ?_ | refine tB ?_ | refine tL ?_ | refine tN ?_ | fail "no step")
            refine sC (CallsM.ren (hnm) [0, 1] 5 rfl rfl rfl rfl) ?_
            repeat' (first | refine tT ?_ | refine tF ?_ | refine ex_dec (fun _ => ?_) (fun _ => ?_) | refine t8 ?_ | refine tI ?_ | refine tU ?_ | refine tA ?_ | refine tB ?_ | refine tL ?_ | refine tN ?_ | fail "no step")
            replace hT := rmT hT hnv
            refine sC (CallsM.ren (hnm) [0, 1] 5 rfl rfl rfl rfl) ?_
            repeat' (first | refine ex_is l.length (by simp) ?_ | refine tT ?_ | refine tF ?_ | refine ex_dec (fun _ => ?_) (fun _ => ?_) | refine t8 ?_ | refine tI ?_ | refine tU ?_ | refine tA ?_ | refine tB ?_ | refine tL ?_ | refine tN ?_ | fail "no step")
            have hcon := room_c (m := m) ⟨i, xs, ts⟩ hi l.length (by omega)
            rcases hr : (roomM l.length) ⟨i, xs, ts⟩ with ⟨_, s9⟩ | ⟨i9, e9⟩
            rotate_left
            · obtain rfl := (and_err hr).symm.trans hT
              refine sC (CallsM.ren (hcon.err hr) [0, 1] 5 rfl rfl rfl rfl) ?_
              first | exact ⟨⟨_, rfl, rfl⟩, rfl, rfl⟩ | exact ⟨by kernel_rfl, ⟨_, rfl, rfl⟩, rfl, rfl⟩
            replace hT := (and_ok hr).symm.trans hT
            refine sC (CallsM.ren (hcon.ok hr) [0, 1] 5 rfl rfl rfl rfl) ?_
            clear hcon
            obtain rfl := mv_room1 hr
            replace hT := asc hT
            repeat' (first | refine tT ?_ | refine tF ?_ | refine ex_dec (fun _ => ?_) (fun _ => ?_) | refine t8 ?_ | refine tI ?_ | refine tU ?_ | refine tA ?_ | refine tB ?_ | refine tL ?_ | refine tN ?_ | fail "no step")
            have hcon := name_c (m := m) ⟨i, xs, ts⟩ hs.i (by omega)
            rcases hx131 : (nameM L) ⟨i, xs, ts⟩ with ⟨w, s9⟩ | ⟨i9, e9⟩
            rotate_left
            · obtain rfl := (and_err hx131).symm.trans hT
              refine sC (CallsM.ren (hcon.err hx131) [0, 1] 5 rfl rfl rfl rfl) ?_
              first | exact ⟨⟨_, rfl, rfl⟩, rfl, rfl⟩ | exact ⟨by kernel_rfl, ⟨_, rfl, rfl⟩, rfl, rfl⟩
            replace hT := (and_ok hx131).symm.trans hT
            refine sC (CallsM.ren (hcon.ok hx131) [0, 1] 5 rfl rfl rfl rfl) ?_
            clear hcon
            have hs1 := (Up.ok (Up.name hL 0) hs hx131).1
            obtain rfl := mv_name1 hx131
            replace hT := asc hT
            repeat' (first | refine tT ?_ | refine tF ?_ | refine ex_dec (fun _ => ?_) (fun _ => ?_) | refine t8 ?_ | refine tI ?_ | refine tU ?_ | refine tA ?_ | refine tB ?_ | refine tL ?_ | refine tN ?_ | fail "no step")
            have hcon := take_c (m := m) ⟨i + 1, xs, ts⟩ hs1.i (by omega) t_colon
            rcases hx134 : (takeM L t_colon) ⟨i + 1, xs, ts⟩ with ⟨_, s9⟩ | ⟨i9, e9⟩
            rotate_left
            · obtain rfl := (and_err hx134).symm.trans hT
              refine sC (CallsM.ren (hcon.err hx134) [0, 1] 5 rfl rfl rfl rfl) ?_
              first | exact ⟨⟨_, rfl, rfl⟩, rfl, rfl⟩ | exact ⟨by kernel_rfl, ⟨_, rfl, rfl⟩, rfl, rfl⟩
            replace hT := (and_ok hx134).symm.trans hT
            refine sC (CallsM.ren (hcon.ok hx134) [0, 1] 5 rfl rfl rfl rfl) ?_
            clear hcon
            have hs2 := (Up.ok (Up.take hL t_colon 0) hs1 hx134).1
            obtain rfl := mv_take1 hx134
            replace hT := asc hT
            repeat' (first | refine tT ?_ | refine tF ?_ | refine ex_dec (fun _ => ?_) (fun _ => ?_) | refine t8 ?_ | refine tI ?_ | refine tU ?_ | refine tA ?_ | refine tB ?_ | refine tL ?_ | refine tN ?_ | fail "no step")
            have hcon := num_c (m := m) ⟨i + 1 + 1, xs, ts⟩ hs2.i (by omega)
            rcases hx137 : (numberM L) ⟨i + 1 + 1, xs, ts⟩ with ⟨b, s9⟩ | ⟨i9, e9⟩
            rotate_left
            · obtain rfl := (and_err hx137).symm.trans hT
              refine sC (CallsM.ren (hcon.err hx137) [0, 1] 5 rfl rfl rfl rfl) ?_
              first | exact ⟨⟨_, rfl, rfl⟩, rfl, rfl⟩ | exact ⟨by kernel_rfl, ⟨_, rfl, rfl⟩, rfl, rfl⟩
            replace hT := (and_ok hx137).symm.trans hT
            refine sC (CallsM.ren (hcon.ok hx137) [0, 1] 5 rfl rfl rfl rfl) ?_
            clear hcon
            have hs3 := (Up.ok (Up.number hL 0) hs2 hx137).1
            obtain rfl := mv_num1 hx137
            replace hT := asc hT
            repeat' (first | refine tT ?_ | refine tF ?_ | refine ex_dec (fun _ => ?_) (fun _ => ?_) | refine t8 ?_ | refine tI ?_ | refine tU ?_ | refine tA ?_ | refine tB ?_ | refine tL ?_ | refine tN ?_ | fail "no step")
            have hcon := take_c (m := m) ⟨i + 1 + 1 + 1, xs, ts⟩ hs3.i (by omega) t_semi
            rcases hx140 : (takeM L t_semi) ⟨i + 1 + 1 + 1, xs, ts⟩ with ⟨_, s9⟩ | ⟨i9, e9⟩
            rotate_left
            · obtain rfl := (and_err hx140).symm.trans hT
              refine sC (CallsM.ren (hcon.err hx140) [0, 1] 5 rfl rfl rfl rfl) ?_
              first | exact ⟨⟨_, rfl, rfl⟩, rfl, rfl⟩ | exact ⟨by kernel_rfl, ⟨_, rfl, rfl⟩, rfl, rfl⟩
            replace hT := (and_ok hx140).symm.trans hT
            refine sC (CallsM.ren (hcon.ok hx140) [0, 1] 5 rfl rfl rfl rfl) ?_
            clear hcon
            have hs4 := (Up.ok (Up.take hL t_semi 0) hs3 hx140).1
            obtain rfl := mv_take1 hx140
            have hi4 := hs4.lt
            have hmin : (if (1048576 : Int) < (b : Int) then 1048576 else (b : Int)) = ((min b 1048576 : Nat) : Int) := by split <;> omega
            repeat' (first | refine ex_i64 ((min b 1048576 : Nat) : Int) (by omega) (by omega) (by omega) ?_ | refine ex_u64 ((min b 1048576 : Nat) : Int) (by omega) (by omega) (by omega) ?_ | refine ex_u8 ((min b 1048576 : Nat) : Int) (by omega) (by omega) (by omega) ?_ | refine ex_is ((min b 1048576 : Nat) : Int) hmin ?_ | refine tT ?_ | refine tF ?_ | refine ex_dec (fun _ => ?_) (fun _ => ?_) | refine t8 ?_ | refine tI ?_ | refine tU ?_ | refine tA ?_ | refine tB ?_ | refine tL ?_ | refine tN ?_ | fail "no step")
            refine ex_app (l.length) (1) 1000 (by first | rfl | (simp; done) | (simp; omega)) (by first | rfl | (simp; done) | (simp; omega)) rfl (by omega) ?_
            refine ex_is (List.map sbD (l ++ [(⟨w, min b 1048576⟩ : SB)])) (by rw [List.map_append]; rfl) ?_
            repeat' (first | refine tT ?_ | refine tF ?_ | refine ex_dec (fun _ => ?_) (fun _ => ?_) | refine t8 ?_ | refine tI ?_ | refine tU ?_ | refine tA ?_ | refine tB ?_ | refine tL ?_ | refine tN ?_ | fail "no step")
            exact ex_round (i + 1 + 1 + 1 + 1, l ++ [(⟨w, min b 1048576⟩ : SB)], n) ⟨hs4.less (by omega), by omega, by simp <;> omega, by unfold headN; rw [if_neg (by simp)]; exact hT⟩ (by show L.length - (i + 1 + 1 + 1 + 1) < L.length - i; omega) (SLe.ren [(0, 0), (2, 2), (3, 3), (6, 4), (1, 1)] ⟨⟨rfl, rfl⟩, ⟨rfl, rfl⟩, ⟨rfl, rfl⟩, trivial⟩ ⟨⟨rfl, rfl⟩, ⟨rfl, rfl⟩, ⟨rfl, rfl⟩, ⟨rfl, rfl⟩, trivial⟩ rfl)
        · have hl : l ≠ [] := fun e => hgo (.inl e)
          have hnv : namedV L i = false := by simpa using fun e => hgo (.inr e)
          rw [hnv] at hnm
          unfold headN at hT
          rw [if_neg hl] at hT
          replace hT := pureT (atnB hT hnv)
          have hl0 : l.length ≠ 0 := fun e => hl (List.eq_nil_of_length_eq_zero e)
          repeat' (first | refine ex_is l.length (by simp) ?_ | refine tT ?_ | refine tF ?_ | refine ex_dec (fun _ => ?_) (fun _ => ?_) | refine t8 ?_ | refine tI ?_ | refine tU ?_ | refine tA ?_ | refine tB ?_ | refine tL ?_ | refine tN ?_ | fail "no step")
          refine sC (CallsM.ren (hnm) [0, 1] 5 rfl rfl rfl rfl) ?_
          repeat' (first | refine tT ?_ | refine tF ?_ | refine ex_dec (fun _ => ?_) (fun _ => ?_) | refine t8 ?_ | refine tI ?_ | refine tU ?_ | refine tA ?_ | refine tB ?_ | refine tL ?_ | refine tN ?_ | fail "no step")
          have hcon := take_c (m := m) ⟨i, xs, ts⟩ hs.i (by omega) t_rcur
          rcases hx158 : (takeM L t_rcur) ⟨i, xs, ts⟩ with ⟨_, s9⟩ | ⟨i9, e9⟩
          rotate_left
          · obtain rfl := (and_err hx158).symm.trans hT
            refine sC (CallsM.ren (hcon.err hx158) [0, 1] 5 rfl rfl rfl rfl) ?_
            first | exact ⟨⟨_, rfl, rfl⟩, rfl, rfl⟩ | exact ⟨by kernel_rfl, ⟨_, rfl, rfl⟩, rfl, rfl⟩
          replace hT := (and_ok hx158).symm.trans hT
          refine sC (CallsM.ren (hcon.ok hx158) [0, 1] 5 rfl rfl rfl rfl) ?_
          clear hcon
          have hs1 := (Up.ok (Up.take hL t_rcur 0) hs hx158).1
          obtain rfl := mv_take1 hx158
          obtain rfl : PR.ok (⟨[], -1, 0, [], [], -1, z, lt, l⟩ : IT) ⟨i + 1, xs, ts⟩ = T := hT
          repeat' (first | refine tT ?_ | refine tF ?_ | refine ex_dec (fun _ => ?_) (fun _ => ?_) | refine t8 ?_ | refine tI ?_ | refine tU ?_ | refine tA ?_ | refine tB ?_ | refine tL ?_ | refine tN ?_ | fail "no step")
          exact ⟨rfl, TLe.rfl, rfl, rfl⟩
    · rw [if_neg hk] at hT
      obtain rfl : PR.err (i + 1) 4 = T := hT
      repeat' (first | refine ex_call hq ?_ | refine tT ?_ | refine tF ?_ | refine ex_dec (fun _ => ?_) (fun _ => ?_) | refine t8 ?_ | refine tI ?_ | refine tU ?_ | refine tA ?_ | refine tB ?_ | refine tL ?_ | refine tN ?_ | fail "no step")
      refine sC (CallsM.ren (ha) [0, 1] 4 rfl rfl rfl rfl) ?_
      repeat' (first | refine tT ?_ | refine tF ?_ | refine ex_dec (fun _ => ?_) (fun _ => ?_) | refine t8 ?_ | refine tI ?_ | refine tU ?_ | refine tA ?_ | refine tB ?_ | refine tL ?_ | refine tN ?_ | fail "no step")
      refine sC (CallsM.ren ((fail_c (m := m) (i + 1) 4 hs1.lt)) [0, 1] 4 rfl rfl rfl rfl) ?_
      exact ⟨⟨_, rfl, rfl⟩, rfl, rfl⟩
end
end Go.Proofs.YtkbhmcdoedmffaaGreatDoor

namespace Go.Proofs.YtkbhmcdoedmffaaGreatDoor
open Go.RowKit

section
variable {L : List TokP} {m : Nat}
def Mv {α : Type} (x : PM α) : Prop := ∀ s v s', x s = .ok v s' → s.xs = s'.xs ∧ s.ts = s'.ts
theorem Mv.and {α β : Type} {x : PM α} {f : α → PM β} (hx : Mv x) (hf : ∀ v, Mv (f v)) : Mv (x >>= f) := fun s v s' h => by
  obtain ⟨u, s1, h1, h2⟩ := mo_inv h
  exact ⟨(hx _ _ _ h1).1.trans (hf u _ _ _ h2).1, (hx _ _ _ h1).2.trans (hf u _ _ _ h2).2⟩
theorem Mv.at {α : Type} {p : Nat → Bool} {x y : PM α} (hx : Mv x) (hy : Mv y) : Mv (atM p x y) := fun s v s' h => by
  unfold atM at h
  split at h
  · exact hx _ _ _ h
  · exact hy _ _ _ h
theorem Mv.pure {α : Type} (v : α) : Mv (pure v) := fun s u s' h => by cases h; exact ⟨rfl, rfl⟩
theorem Mv.step : Mv stepM := fun s u s' h => by cases h; exact ⟨rfl, rfl⟩
theorem Mv.take (t : List UInt8) : Mv (takeM L t) := fun s v s' h => by unfold takeM at h; split at h <;> cases h; exact ⟨rfl, rfl⟩
theorem Mv.name : Mv (nameM L) := fun s v s' h => by unfold nameM at h; split at h <;> cases h; exact ⟨rfl, rfl⟩
theorem Mv.num : Mv (numberM L) := fun s v s' h => by unfold numberM at h; split at h <;> cases h; exact ⟨rfl, rfl⟩
theorem Mv.roomIf (p : Nat → Bool) (n : Nat) : Mv (fun s => if p s.i = true then roomM n s else .ok () s) := fun s u s' h => by
  dsimp only at h
  split at h
  · unfold roomM at h; split at h <;> cases h; exact ⟨rfl, rfl⟩
  · cases h; exact ⟨rfl, rfl⟩
theorem mvs_subs : ∀ n l, Mv (subsN L n l)
  | 0, l => Mv.pure _
  | n + 1, l => by
    rw [subsN]
    exact (Mv.roomIf (namedV L ·) _).and fun _ => Mv.name.and fun w => (Mv.take _).and fun _ => Mv.num.and fun b => (Mv.take _).and fun _ => Mv.at (mvs_subs n _) (Mv.pure _)
theorem mvs_pack : Mv (packM L) := (Mv.take _).and fun _ => fun s v s' h => by
  split at h
  · cases h
  · exact (Mv.step.and fun _ => (Mv.take _).and fun _ => (show Mv (fun s => subsN L (L.length - s.i + 1) [] s) from fun s v s' hx => mvs_subs _ _ s v s' hx).and fun l => (Mv.take _).and fun _ => Mv.pure _) _ _ _ h
theorem mv_pack {i i1 : Nat} {xs xs1 : List EX} {ts ts1 : List TY} {v : IT} (h : packM L ⟨i, xs, ts⟩ = .ok v ⟨i1, xs1, ts1⟩) : xs = xs1 ∧ ts = ts1 := mvs_pack _ _ _ h
theorem mvs_const : Mv (constM L) := (Mv.take _).and fun _ => Mv.name.and fun w => (Mv.take _).and fun _ => Mv.num.and fun n => (Mv.take _).and fun _ => Mv.pure _
theorem mv_const {i i1 : Nat} {xs xs1 : List EX} {ts ts1 : List TY} {v : CO} (h : constM L ⟨i, xs, ts⟩ = .ok v ⟨i1, xs1, ts1⟩) : xs = xs1 ∧ ts = ts1 := mvs_const _ _ _ h
set_option maxHeartbeats 16000000 in
theorem record_c (hL : TokOk L) (hn : L.length ≤ 100000) (hm : m = 32) (s : PS) {c : Nat} (hs : SOk L c s) : C2 L m 50 [] (recordM L) (fun v => .o (gD (rcD v))) s := by
  refine C2.of fun T hT => ?_
  unfold recordM at hT
  obtain ⟨i, xs, ts⟩ := s
  refine fn_ruleP (C := ⟨Tryz.prog, layF, Tryz.f50.ntmps, ΓL, 6, [], [10]⟩) layF_ok mixed Tryz.func50 rfl (by kernel_rfl) rfl rfl rfl SLe.rfl ?_
  repeat' (first | refine tT ?_ | refine tF ?_ | refine ex_dec (fun _ => ?_) (fun _ => ?_) | refine t8 ?_ | refine tI ?_ | refine tU ?_ | refine tA ?_ | refine tB ?_ | refine tL ?_ | refine tN ?_ | fail "no step")
  have hcon := take_c (m := m) ⟨i, xs, ts⟩ hs.i (by omega) w_struct
  rcases hx47 : (takeM L w_struct) ⟨i, xs, ts⟩ with ⟨_, s9⟩ | ⟨i9, e9⟩
  rotate_left
  · obtain rfl := (and_err hx47).symm.trans hT
    refine sC (CallsM.ren (hcon.err hx47) [0, 1] 7 rfl rfl rfl rfl) ?_
    first | exact ⟨⟨_, rfl, rfl⟩, rfl, rfl⟩ | exact ⟨by kernel_rfl, ⟨_, rfl, rfl⟩, rfl, rfl⟩
  replace hT := (and_ok hx47).symm.trans hT
  refine sC (CallsM.ren (hcon.ok hx47) [0, 1] 7 rfl rfl rfl rfl) ?_
  clear hcon
  have hs1 := (Up.ok (Up.take hL w_struct 0) hs hx47).1
  obtain rfl := mv_take1 hx47
  repeat' (first | refine tT ?_ | refine tF ?_ | refine ex_dec (fun _ => ?_) (fun _ => ?_) | refine t8 ?_ | refine tI ?_ | refine tU ?_ | refine tA ?_ | refine tB ?_ | refine tL ?_ | refine tN ?_ | fail "no step")
  have hcon := name_c (m := m) ⟨i + 1, xs, ts⟩ hs1.i (by omega)
  rcases hx49 : (nameM L) ⟨i + 1, xs, ts⟩ with ⟨w, s9⟩ | ⟨i9, e9⟩
  rotate_left
  · obtain rfl := (and_err hx49).symm.trans hT
    refine sC (CallsM.ren (hcon.err hx49) [0, 1] 7 rfl rfl rfl rfl) ?_
    first | exact ⟨⟨_, rfl, rfl⟩, rfl, rfl⟩ | exact ⟨by kernel_rfl, ⟨_, rfl, rfl⟩, rfl, rfl⟩
  replace hT := (and_ok hx49).symm.trans hT
  refine sC (CallsM.ren (hcon.ok hx49) [0, 1] 7 rfl rfl rfl rfl) ?_
  clear hcon
  have hs2 := (Up.ok (Up.name hL 0) hs1 hx49).1
  obtain rfl := mv_name1 hx49
  repeat' (first | refine tT ?_ | refine tF ?_ | refine ex_dec (fun _ => ?_) (fun _ => ?_) | refine t8 ?_ | refine tI ?_ | refine tU ?_ | refine tA ?_ | refine tB ?_ | refine tL ?_ | refine tN ?_ | fail "no step")
  refine ex_join (X := Nat × List (List UInt8)) (fun ⟨i, ps⟩ => ⟨[(0, .o P0), (2, .o (.c (.ptr 6 0))), (3, .o (.c (.ptr 7 0)))], [(0, Qz L m i), (1, Fz 2 3 4 5), (4, Xz xs), (5, Tz ts), (6, .obj [.d (ds ⟨#[]⟩), .d dnil, .d dnil]), (7, .obj [.d (ds (bs w)), .row 9, .d dnil]), (9, .row 1 9 (ps.map fun p => [ds (bs p)]))], 10⟩)
    (fun ⟨i, ps⟩ => SOk L c ⟨i, xs, ts⟩ ∧ (takeM L t_lcur >>= fun _ => (fun s => itemsN L (L.length - s.i + 1) [] s) >>= fun is => takeM L t_rcur >>= fun _ => pure (⟨w, ps, is⟩ : RC)) ⟨i, xs, ts⟩ = T) ?_ ?_
  · rcases hv : isV L (i + 1 + 1) t_lpar with _ | _
    · replace hT := pureT (atnB hT hv)
      refine sC (CallsM.ren ((may_no (i + 1 + 1) hs2.lt _ hv)) [0, 1] 8 rfl rfl rfl rfl) ?_
      repeat' (first | refine tT ?_ | refine tF ?_ | refine ex_dec (fun _ => ?_) (fun _ => ?_) | refine t8 ?_ | refine tI ?_ | refine tU ?_ | refine tA ?_ | refine tB ?_ | refine tL ?_ | refine tN ?_ | fail "no step")
      exact ex_meet (i + 1 + 1, []) ⟨hs2.less (by omega), hT⟩ (SLe.trans (SLe.of ⟨⟨rfl, rfl, rfl, trivial⟩, ⟨rfl, rfl, rfl, rfl, rfl, rfl, rfl, trivial⟩⟩) (SLe.ownCell 7 1 9 1 9 rfl rfl rfl rfl rfl rfl))
    · replace hT := asc (stp1 (asc (atyB hT hv)))
      have hs3 := stpS hL hs2 (isV_k hv)
      have hi3 := hs3.lt
      refine sC (CallsM.ren ((may_yes (i + 1 + 1) hs2.lt (by omega) _ hv)) [0, 1] 8 rfl rfl rfl rfl) ?_
      repeat' (first | refine tT ?_ | refine tF ?_ | refine ex_dec (fun _ => ?_) (fun _ => ?_) | refine t8 ?_ | refine tI ?_ | refine tU ?_ | refine tA ?_ | refine tB ?_ | refine tL ?_ | refine tN ?_ | fail "no step")
      have hcon := name_c (m := m) ⟨i + 1 + 1 + 1, xs, ts⟩ hs3.i (by omega)
      rcases hx63 : (nameM L) ⟨i + 1 + 1 + 1, xs, ts⟩ with ⟨p, s9⟩ | ⟨i9, e9⟩
      rotate_left
      · obtain rfl := (and_err hx63).symm.trans hT
        refine sC (CallsM.ren (hcon.err hx63) [0, 1] 8 rfl rfl rfl rfl) ?_
        first | exact ⟨⟨_, rfl, rfl⟩, rfl, rfl⟩ | exact ⟨by kernel_rfl, ⟨_, rfl, rfl⟩, rfl, rfl⟩
      replace hT := (and_ok hx63).symm.trans hT
      refine sC (CallsM.ren (hcon.ok hx63) [0, 1] 8 rfl rfl rfl rfl) ?_
      clear hcon
      have hs4 := (Up.ok (Up.name hL 0) hs3 hx63).1
      obtain rfl := mv_name1 hx63
      have hi4 := hs4.lt
      repeat' (first | refine tT ?_ | refine tF ?_ | refine ex_dec (fun _ => ?_) (fun _ => ?_) | refine t8 ?_ | refine tI ?_ | refine tU ?_ | refine tA ?_ | refine tB ?_ | refine tL ?_ | refine tN ?_ | fail "no step")
      refine ex_app (0) (1) 1000 (by first | rfl | (simp; done) | (simp; omega)) (by first | rfl | (simp; done) | (simp; omega)) rfl (by omega) ?_
      refine ex_is (List.map (fun p : List UInt8 => [ds (bs p)]) [p]) (rfl) ?_
      repeat' (first | refine tT ?_ | refine tF ?_ | refine ex_dec (fun _ => ?_) (fun _ => ?_) | refine t8 ?_ | refine tI ?_ | refine tU ?_ | refine tA ?_ | refine tB ?_ | refine tL ?_ | refine tN ?_ | fail "no step")
      replace hT := asc hT
      replace hT : (parsN L (L.length - (i + 1 + 1 + 1 + 1) + 1) [p] >>= fun l => (takeM L t_rpar >>= fun _ => pure l) >>= fun ps => takeM L t_lcur >>= fun _ => (fun s => itemsN L (L.length - s.i + 1) [] s) >>= fun is => takeM L t_rcur >>= fun _ => pure (⟨w, ps, is⟩ : RC)) ⟨i + 1 + 1 + 1 + 1, xs, ts⟩ = T := hT
      refine ex_loop (X := Nat × List (List UInt8) × Nat) (fun ⟨i, ps, _⟩ => ⟨[(0, .o P0), (2, .o (.c (.ptr 6 0))), (3, .o (.c (.ptr 7 0)))], [(0, Qz L m i), (1, Fz 2 3 4 5), (4, Xz xs), (5, Tz ts), (6, .obj [.d (ds ⟨#[]⟩), .d dnil, .d dnil]), (7, .obj [.d (ds (bs w)), .row 9, .d dnil]), (9, .row 1 9 (ps.map fun p => [ds (bs p)]))], 10⟩) (fun y => L.length - y.1)
        (fun ⟨i, l, n⟩ => SOk L c ⟨i, xs, ts⟩ ∧ L.length < i + n ∧ l.length ≤ i ∧ (parsN L n l >>= fun l => (takeM L t_rpar >>= fun _ => pure l) >>= fun ps => takeM L t_lcur >>= fun _ => (fun s => itemsN L (L.length - s.i + 1) [] s) >>= fun is => takeM L t_rcur >>= fun _ => pure (⟨w, ps, is⟩ : RC)) ⟨i, xs, ts⟩ = T) (i + 1 + 1 + 1 + 1, [p], L.length - (i + 1 + 1 + 1 + 1) + 1) ⟨hs4.less (by omega), by omega, by simp, hT⟩ (SLe.of ⟨⟨rfl, rfl, rfl, trivial⟩, ⟨rfl, rfl, rfl, rfl, rfl, rfl, rfl, trivial⟩⟩) ?_
      clear hT hs4 hs3 hs2 hs1 hs hi3 hi4
      rintro ⟨i, l, n⟩ ⟨hs, hf, hll, hT⟩
      have hi := hs.lt
      cases n with
      | zero => omega
      | succ n =>
        rw [parsN] at hT
        rcases hv : isV L i t_comma with _ | _
        · replace hT := atnB hT hv
          replace hT := pureT hT
          replace hT := asc hT
          refine sC (CallsM.ren ((may_no i hi _ hv)) [0, 1] 10 rfl rfl rfl rfl) ?_
          repeat' (first | refine tT ?_ | refine tF ?_ | refine ex_dec (fun _ => ?_) (fun _ => ?_) | refine t8 ?_ | refine tI ?_ | refine tU ?_ | refine tA ?_ | refine tB ?_ | refine tL ?_ | refine tN ?_ | fail "no step")
          have hcon := take_c (m := m) ⟨i, xs, ts⟩ hs.i (by omega) t_rpar
          rcases hx86 : (takeM L t_rpar) ⟨i, xs, ts⟩ with ⟨_, s9⟩ | ⟨i9, e9⟩
          rotate_left
          · obtain rfl := (and_err hx86).symm.trans hT
            refine sC (CallsM.ren (hcon.err hx86) [0, 1] 10 rfl rfl rfl rfl) ?_
            first | exact ⟨⟨_, rfl, rfl⟩, rfl, rfl⟩ | exact ⟨by kernel_rfl, ⟨_, rfl, rfl⟩, rfl, rfl⟩
          replace hT := (and_ok hx86).symm.trans hT
          refine sC (CallsM.ren (hcon.ok hx86) [0, 1] 10 rfl rfl rfl rfl) ?_
          clear hcon
          have hs1 := (Up.ok (Up.take hL t_rpar 0) hs hx86).1
          obtain rfl := mv_take1 hx86
          replace hT := pureT hT
          repeat' (first | refine tT ?_ | refine tF ?_ | refine ex_dec (fun _ => ?_) (fun _ => ?_) | refine t8 ?_ | refine tI ?_ | refine tU ?_ | refine tA ?_ | refine tB ?_ | refine tL ?_ | refine tN ?_ | fail "no step")
          exact ex_meet (i + 1, l) ⟨hs1.less (by omega), hT⟩ (SLe.of ⟨⟨rfl, rfl, rfl, trivial⟩, ⟨rfl, rfl, rfl, rfl, rfl, rfl, rfl, trivial⟩⟩)
        · replace hT := asc (stp1 (asc (atyB hT hv)))
          have hs1 := stpS hL hs (isV_k hv)
          have hnm := named_c (m := m) (i + 1) hs1.lt
          refine sC (CallsM.ren ((may_yes i hi (by omega) _ hv)) [0, 1] 10 rfl rfl rfl rfl) ?_
          repeat' (first | refine tT ?_ | refine tF ?_ | refine ex_dec (fun _ => ?_) (fun _ => ?_) | refine t8 ?_ | refine tI ?_ | refine tU ?_ | refine tA ?_ | refine tB ?_ | refine tL ?_ | refine tN ?_ | fail "no step")
          rcases hb : namedV L (i + 1) with _ | _ <;> rw [hb] at hnm
          · replace hT := asc (rmF hT hb)
            refine sC (CallsM.ren (hnm) [0, 1] 10 rfl rfl rfl rfl) ?_
            repeat' (first | refine tT ?_ | refine tF ?_ | refine ex_dec (fun _ => ?_) (fun _ => ?_) | refine t8 ?_ | refine tI ?_ | refine tU ?_ | refine tA ?_ | refine tB ?_ | refine tL ?_ | refine tN ?_ | fail "no step")
            have hcon := name_c (m := m) ⟨i + 1, xs, ts⟩ hs1.i (by omega)
            rcases hx99 : (nameM L) ⟨i + 1, xs, ts⟩ with ⟨p, s9⟩ | ⟨i9, e9⟩
            rotate_left
            · obtain rfl := (and_err hx99).symm.trans hT
              refine sC (CallsM.ren (hcon.err hx99) [0, 1] 10 rfl rfl rfl rfl) ?_
              first | exact ⟨⟨_, rfl, rfl⟩, rfl, rfl⟩ | exact ⟨by kernel_rfl, ⟨_, rfl, rfl⟩, rfl, rfl⟩
            replace hT := (and_ok hx99).symm.trans hT
            refine sC (CallsM.ren (hcon.ok hx99) [0, 1] 10 rfl rfl rfl rfl) ?_
            clear hcon
            have hs2 := (Up.ok (Up.name hL 0) hs1 hx99).1
            obtain rfl := mv_name1 hx99
            have hi2 := hs2.lt
            repeat' (first | refine tT ?_ | refine tF ?_ | refine ex_dec (fun _ => ?_) (fun _ => ?_) | refine t8 ?_ | refine tI ?_ | refine tU ?_ | refine tA ?_ | refine tB ?_ | refine tL ?_ | refine tN ?_ | fail "no step")
            refine ex_app (l.length) (1) 1000 (by first | rfl | (simp; done) | (simp; omega)) (by first | rfl | (simp; done) | (simp; omega)) rfl (by omega) ?_
            refine ex_is (List.map (fun p : List UInt8 => [ds (bs p)]) (l ++ [p])) (by rw [List.map_append]; rfl) ?_
            repeat' (first | refine tT ?_ | refine tF ?_ | refine ex_dec (fun _ => ?_) (fun _ => ?_) | refine t8 ?_ | refine tI ?_ | refine tU ?_ | refine tA ?_ | refine tB ?_ | refine tL ?_ | refine tN ?_ | fail "no step")
            exact ex_round (i + 1 + 1, l ++ [p], n) ⟨hs2.less (by omega), by omega, by simp <;> omega, hT⟩ (by show L.length - (i + 1 + 1) < L.length - i; omega) (SLe.ren [(0, 0), (1, 1), (2, 2), (3, 3), (4, 4), (5, 5), (6, 6), (7, 7), (11, 9)] ⟨⟨rfl, rfl⟩, ⟨rfl, rfl⟩, ⟨rfl, rfl⟩, trivial⟩ ⟨⟨rfl, rfl⟩, ⟨rfl, rfl⟩, ⟨rfl, rfl⟩, ⟨rfl, rfl⟩, ⟨rfl, rfl⟩, ⟨rfl, rfl⟩, ⟨rfl, rfl⟩, trivial⟩ rfl)
          · replace hT := rmT hT hb
            refine sC (CallsM.ren (hnm) [0, 1] 10 rfl rfl rfl rfl) ?_
            repeat' (first | refine ex_is l.length (by simp) ?_ | refine tT ?_ | refine tF ?_ | refine ex_dec (fun _ => ?_) (fun _ => ?_) | refine t8 ?_ | refine tI ?_ | refine tU ?_ | refine tA ?_ | refine tB ?_ | refine tL ?_ | refine tN ?_ | fail "no step")
            have hcon := room_c (m := m) ⟨i + 1, xs, ts⟩ hs1.lt l.length (by omega)
            rcases hr : (roomM l.length) ⟨i + 1, xs, ts⟩ with ⟨_, s9⟩ | ⟨i9, e9⟩
            rotate_left
            · obtain rfl := (and_err hr).symm.trans hT
              refine sC (CallsM.ren (hcon.err hr) [0, 1] 10 rfl rfl rfl rfl) ?_
              first | exact ⟨⟨_, rfl, rfl⟩, rfl, rfl⟩ | exact ⟨by kernel_rfl, ⟨_, rfl, rfl⟩, rfl, rfl⟩
            replace hT := (and_ok hr).symm.trans hT
            refine sC (CallsM.ren (hcon.ok hr) [0, 1] 10 rfl rfl rfl rfl) ?_
            clear hcon
            obtain rfl := mv_room1 hr
            replace hT := asc hT
            repeat' (first | refine tT ?_ | refine tF ?_ | refine ex_dec (fun _ => ?_) (fun _ => ?_) | refine t8 ?_ | refine tI ?_ | refine tU ?_ | refine tA ?_ | refine tB ?_ | refine tL ?_ | refine tN ?_ | fail "no step")
            have hcon := name_c (m := m) ⟨i + 1, xs, ts⟩ hs1.i (by omega)
            rcases hx112 : (nameM L) ⟨i + 1, xs, ts⟩ with ⟨p, s9⟩ | ⟨i9, e9⟩
            rotate_left
            · obtain rfl := (and_err hx112).symm.trans hT
              refine sC (CallsM.ren (hcon.err hx112) [0, 1] 10 rfl rfl rfl rfl) ?_
              first | exact ⟨⟨_, rfl, rfl⟩, rfl, rfl⟩ | exact ⟨by kernel_rfl, ⟨_, rfl, rfl⟩, rfl, rfl⟩
            replace hT := (and_ok hx112).symm.trans hT
            refine sC (CallsM.ren (hcon.ok hx112) [0, 1] 10 rfl rfl rfl rfl) ?_
            clear hcon
            have hs2 := (Up.ok (Up.name hL 0) hs1 hx112).1
            obtain rfl := mv_name1 hx112
            have hi2 := hs2.lt
            repeat' (first | refine tT ?_ | refine tF ?_ | refine ex_dec (fun _ => ?_) (fun _ => ?_) | refine t8 ?_ | refine tI ?_ | refine tU ?_ | refine tA ?_ | refine tB ?_ | refine tL ?_ | refine tN ?_ | fail "no step")
            refine ex_app (l.length) (1) 1000 (by first | rfl | (simp; done) | (simp; omega)) (by first | rfl | (simp; done) | (simp; omega)) rfl (by omega) ?_
            refine ex_is (List.map (fun p : List UInt8 => [ds (bs p)]) (l ++ [p])) (by rw [List.map_append]; rfl) ?_
            repeat' (first | refine tT ?_ | refine tF ?_ | refine ex_dec (fun _ => ?_) (fun _ => ?_) | refine t8 ?_ | refine tI ?_ | refine tU ?_ | refine tA ?_ | refine tB ?_ | refine tL ?_ | refine tN ?_ | fail "no step")
            exact ex_round (i + 1 + 1, l ++ [p], n) ⟨hs2.less (by omega), by omega, by simp <;> omega, hT⟩ (by show L.length - (i + 1 + 1) < L.length - i; omega) (SLe.ren [(0, 0), (1, 1), (2, 2), (3, 3), (4, 4), (5, 5), (6, 6), (7, 7), (11, 9)] ⟨⟨rfl, rfl⟩, ⟨rfl, rfl⟩, ⟨rfl, rfl⟩, trivial⟩ ⟨⟨rfl, rfl⟩, ⟨rfl, rfl⟩, ⟨rfl, rfl⟩, ⟨rfl, rfl⟩, ⟨rfl, rfl⟩, ⟨rfl, rfl⟩, ⟨rfl, rfl⟩, trivial⟩ rfl)
  · clear hT hs2 hs1 hs
    rintro ⟨i, ps⟩ ⟨hs, hT⟩
    repeat' (first | refine tT ?_ | refine tF ?_ | refine ex_dec (fun _ => ?_) (fun _ => ?_) | refine t8 ?_ | refine tI ?_ | refine tU ?_ | refine tA ?_ | refine tB ?_ | refine tL ?_ | refine tN ?_ | fail "no step")
    have hcon := take_c (m := m) ⟨i, xs, ts⟩ hs.i (by omega) t_lcur
    rcases hx122 : (takeM L t_lcur) ⟨i, xs, ts⟩ with ⟨_, s9⟩ | ⟨i9, e9⟩
    rotate_left
    · obtain rfl := (and_err hx122).symm.trans hT
      refine sC (CallsM.ren (hcon.err hx122) [0, 1] 10 rfl rfl rfl rfl) ?_
      first | exact ⟨⟨_, rfl, rfl⟩, rfl, rfl⟩ | exact ⟨by kernel_rfl, ⟨_, rfl, rfl⟩, rfl, rfl⟩
    replace hT := (and_ok hx122).symm.trans hT
    refine sC (CallsM.ren (hcon.ok hx122) [0, 1] 10 rfl rfl rfl rfl) ?_
    clear hcon
    have hs1 := (Up.ok (Up.take hL t_lcur 0) hs hx122).1
    obtain rfl := mv_take1 hx122
    repeat' (first | refine tT ?_ | refine tF ?_ | refine ex_dec (fun _ => ?_) (fun _ => ?_) | refine t8 ?_ | refine tI ?_ | refine tU ?_ | refine tA ?_ | refine tB ?_ | refine tL ?_ | refine tN ?_ | fail "no step")
    replace hT : (itemsN L (L.length - (i + 1) + 1) [] >>= fun is => takeM L t_rcur >>= fun _ => pure (⟨w, ps, is⟩ : RC)) ⟨i + 1, xs, ts⟩ = T := hT
    refine ex_loop (X := Nat × List EX × List TY × List IT × Nat) (fun ⟨i, xs, ts, l, _⟩ => ⟨[(0, .o P0), (2, .o (.c (.ptr 6 0))), (3, .o (.c (.ptr 7 0)))], [(5, .dead), (4, .dead), (0, Qz L m i), (1, Fz 2 3 11 12), (6, .obj [.d (ds ⟨#[]⟩), .d dnil, .d dnil]), (7, .obj [.d (ds (bs w)), .row 9, .row 10]), (9, .row 1 9 (ps.map fun p => [ds (bs p)])), (10, .row 9 73 (l.map itD)), (11, Xz xs), (12, Tz ts)], 13⟩) (fun y => L.length - y.1)
      (fun ⟨i, xs, ts, l, n⟩ => SOk L 0 ⟨i, xs, ts⟩ ∧ L.length < i + n ∧ l.length ≤ i ∧ (itemsN L n l >>= fun is => takeM L t_rcur >>= fun _ => pure (⟨w, ps, is⟩ : RC)) ⟨i, xs, ts⟩ = T) (i + 1, xs, ts, [], L.length - (i + 1) + 1) ⟨hs1.less (by omega), by omega, Nat.zero_le _, hT⟩
      (SLe.kill (nx := 13) 5 (SLe.kill (nx := 13) 4 (SLe.via (SLe.ownCell 7 2 10 9 73 rfl rfl rfl rfl rfl rfl) (SLe.ren [(0, 0), (1, 1), (2, 2), (3, 3), (6, 6), (7, 7), (9, 9), (10, 10), (4, 11), (5, 12)] ⟨⟨rfl, rfl⟩, ⟨rfl, rfl⟩, ⟨rfl, rfl⟩, trivial⟩ ⟨⟨rfl, rfl⟩, ⟨rfl, rfl⟩, ⟨rfl, rfl⟩, ⟨rfl, rfl⟩, ⟨rfl, rfl⟩, ⟨rfl, rfl⟩, ⟨rfl, rfl⟩, ⟨rfl, rfl⟩, trivial⟩ rfl)))) ?_
    clear hT hs1 hs
    rintro ⟨i, xs, ts, l, n⟩ ⟨hs, hf, hll, hT⟩
    have hi := hs.lt
    have hpk := is_c (m := m) i hi w_pack
    have hnm := named_c (m := m) i hi
    cases n with
    | zero => omega
    | succ n =>
      rw [itemsN] at hT
      rcases hv : isV L i w_pack with _ | _ <;> rw [hv] at hpk
      · rcases hv2 : namedV L i with _ | _ <;> rw [hv2] at hnm
        · replace hT := pureT (atnB hT (by rw [hv, hv2]; rfl))
          refine sC (CallsM.ren (hpk) [0, 1] 13 rfl rfl rfl rfl) ?_
          repeat' (first | refine tT ?_ | refine tF ?_ | refine ex_dec (fun _ => ?_) (fun _ => ?_) | refine t8 ?_ | refine tI ?_ | refine tU ?_ | refine tA ?_ | refine tB ?_ | refine tL ?_ | refine tN ?_ | fail "no step")
          refine sC (CallsM.ren (hnm) [0, 1] 13 rfl rfl rfl rfl) ?_
          repeat' (first | refine tT ?_ | refine tF ?_ | refine ex_dec (fun _ => ?_) (fun _ => ?_) | refine t8 ?_ | refine tI ?_ | refine tU ?_ | refine tA ?_ | refine tB ?_ | refine tL ?_ | refine tN ?_ | fail "no step")
          have hcon := take_c (m := m) ⟨i, xs, ts⟩ hs.i (by omega) t_rcur
          rcases hx144 : (takeM L t_rcur) ⟨i, xs, ts⟩ with ⟨_, s9⟩ | ⟨i9, e9⟩
          rotate_left
          · obtain rfl := (and_err hx144).symm.trans hT
            refine sC (CallsM.ren (hcon.err hx144) [0, 1] 13 rfl rfl rfl rfl) ?_
            first | exact ⟨⟨_, rfl, rfl⟩, rfl, rfl⟩ | exact ⟨by kernel_rfl, ⟨_, rfl, rfl⟩, rfl, rfl⟩
          replace hT := (and_ok hx144).symm.trans hT
          refine sC (CallsM.ren (hcon.ok hx144) [0, 1] 13 rfl rfl rfl rfl) ?_
          clear hcon
          have hs1 := (Up.ok (Up.take hL t_rcur 0) hs hx144).1
          obtain rfl := mv_take1 hx144
          obtain rfl : PR.ok (⟨w, ps, l⟩ : RC) ⟨i + 1, xs, ts⟩ = T := hT
          repeat' (first | refine tT ?_ | refine tF ?_ | refine ex_dec (fun _ => ?_) (fun _ => ?_) | refine t8 ?_ | refine tI ?_ | refine tU ?_ | refine tA ?_ | refine tB ?_ | refine tL ?_ | refine tN ?_ | fail "no step")
          exact ⟨rfl, TLe.rfl, rfl, rfl⟩
        · replace hT := asc (atyB hT (by rw [hv, hv2]; rfl))
          refine sC (CallsM.ren (hpk) [0, 1] 13 rfl rfl rfl rfl) ?_
          repeat' (first | refine tT ?_ | refine tF ?_ | refine ex_dec (fun _ => ?_) (fun _ => ?_) | refine t8 ?_ | refine tI ?_ | refine tU ?_ | refine tA ?_ | refine tB ?_ | refine tL ?_ | refine tN ?_ | fail "no step")
          refine sC (CallsM.ren (hnm) [0, 1] 13 rfl rfl rfl rfl) ?_
          repeat' (first | refine ex_is l.length (by simp) ?_ | refine tT ?_ | refine tF ?_ | refine ex_dec (fun _ => ?_) (fun _ => ?_) | refine t8 ?_ | refine tI ?_ | refine tU ?_ | refine tA ?_ | refine tB ?_ | refine tL ?_ | refine tN ?_ | fail "no step")
          have hcon := room_c (m := m) ⟨i, xs, ts⟩ hi l.length (by omega)
          rcases hr : (roomM l.length) ⟨i, xs, ts⟩ with ⟨_, s9⟩ | ⟨i9, e9⟩
          rotate_left
          · obtain rfl := (and_err hr).symm.trans hT
            refine sC (CallsM.ren (hcon.err hr) [0, 1] 13 rfl rfl rfl rfl) ?_
            first | exact ⟨⟨_, rfl, rfl⟩, rfl, rfl⟩ | exact ⟨by kernel_rfl, ⟨_, rfl, rfl⟩, rfl, rfl⟩
          replace hT := (and_ok hr).symm.trans hT
          refine sC (CallsM.ren (hcon.ok hr) [0, 1] 13 rfl rfl rfl rfl) ?_
          clear hcon
          obtain rfl := mv_room1 hr
          replace hT := atnB (asc hT) hv
          repeat' (first | refine tT ?_ | refine tF ?_ | refine ex_dec (fun _ => ?_) (fun _ => ?_) | refine t8 ?_ | refine tI ?_ | refine tU ?_ | refine tA ?_ | refine tB ?_ | refine tL ?_ | refine tN ?_ | fail "no step")
          refine sC (CallsM.ren (hpk) [0, 1] 13 rfl rfl rfl rfl) ?_
          repeat' (first | refine tT ?_ | refine tF ?_ | refine ex_dec (fun _ => ?_) (fun _ => ?_) | refine t8 ?_ | refine tI ?_ | refine tU ?_ | refine tA ?_ | refine tB ?_ | refine tL ?_ | refine tN ?_ | fail "no step")
          have hcon := field_c hL hn hm ⟨i, xs, ts⟩ hs
          rcases hx : (fieldM L) ⟨i, xs, ts⟩ with ⟨x, ⟨i2, xs2, ts2⟩⟩ | ⟨i9, e9⟩
          rotate_left
          · obtain rfl := (and_err hx).symm.trans hT
            refine sC (CallsM.ren (hcon.err hx) [0, 1, 2, 3, 11, 12] 13 rfl rfl rfl rfl) ?_
            first | exact ⟨⟨_, rfl, rfl⟩, rfl, rfl⟩ | exact ⟨by kernel_rfl, ⟨_, rfl, rfl⟩, rfl, rfl⟩
          replace hT := (and_ok hx).symm.trans hT
          refine sC (CallsM.ren (hcon.ok hx) [0, 1, 2, 3, 11, 12] 13 rfl rfl rfl rfl) ?_
          clear hcon
          have hs2 := (Up.ok (up_field hL) hs hx).1
          have hgo : i < i2 := mo_field _ _ _ hx
          repeat' (first | refine tT ?_ | refine tF ?_ | refine ex_dec (fun _ => ?_) (fun _ => ?_) | refine t8 ?_ | refine tI ?_ | refine tU ?_ | refine tA ?_ | refine tB ?_ | refine tL ?_ | refine tN ?_ | fail "no step")
          refine ex_app (l.length) (1) 1000 (by first | rfl | (simp; done) | (simp; omega)) (by first | rfl | (simp; done) | (simp; omega)) rfl (by omega) ?_
          refine ex_is (List.map itD (l ++ [x])) (by rw [List.map_append]; rfl) ?_
          repeat' (first | refine tT ?_ | refine tF ?_ | refine ex_dec (fun _ => ?_) (fun _ => ?_) | refine t8 ?_ | refine tI ?_ | refine tU ?_ | refine tA ?_ | refine tB ?_ | refine tL ?_ | refine tN ?_ | fail "no step")
          exact ex_round (i2, xs2, ts2, l ++ [x], n) ⟨hs2, by omega, by simp <;> omega, hT⟩ (by show L.length - i2 < L.length - i; omega) (SLe.ren [(0, 0), (1, 1), (2, 2), (3, 3), (4, 4), (5, 5), (6, 6), (7, 7), (9, 9), (13, 11), (14, 12), (16, 10)] ⟨⟨rfl, rfl⟩, ⟨rfl, rfl⟩, ⟨rfl, rfl⟩, trivial⟩ ⟨⟨rfl, rfl⟩, ⟨rfl, rfl⟩, ⟨rfl, rfl⟩, ⟨rfl, rfl⟩, ⟨rfl, rfl⟩, ⟨rfl, rfl⟩, ⟨rfl, rfl⟩, ⟨rfl, rfl⟩, ⟨rfl, rfl⟩, ⟨rfl, rfl⟩, trivial⟩ rfl)
      · replace hT := asc (atyB hT (by rw [hv]; rfl))
        refine sC (CallsM.ren (hpk) [0, 1] 13 rfl rfl rfl rfl) ?_
        repeat' (first | refine ex_is l.length (by simp) ?_ | refine tT ?_ | refine tF ?_ | refine ex_dec (fun _ => ?_) (fun _ => ?_) | refine t8 ?_ | refine tI ?_ | refine tU ?_ | refine tA ?_ | refine tB ?_ | refine tL ?_ | refine tN ?_ | fail "no step")
        have hcon := room_c (m := m) ⟨i, xs, ts⟩ hi l.length (by omega)
        rcases hr : (roomM l.length) ⟨i, xs, ts⟩ with ⟨_, s9⟩ | ⟨i9, e9⟩
        rotate_left
        · obtain rfl := (and_err hr).symm.trans hT
          refine sC (CallsM.ren (hcon.err hr) [0, 1] 13 rfl rfl rfl rfl) ?_
          first | exact ⟨⟨_, rfl, rfl⟩, rfl, rfl⟩ | exact ⟨by kernel_rfl, ⟨_, rfl, rfl⟩, rfl, rfl⟩
        replace hT := (and_ok hr).symm.trans hT
        refine sC (CallsM.ren (hcon.ok hr) [0, 1] 13 rfl rfl rfl rfl) ?_
        clear hcon
        obtain rfl := mv_room1 hr
        replace hT := atyB (asc hT) hv
        repeat' (first | refine tT ?_ | refine tF ?_ | refine ex_dec (fun _ => ?_) (fun _ => ?_) | refine t8 ?_ | refine tI ?_ | refine tU ?_ | refine tA ?_ | refine tB ?_ | refine tL ?_ | refine tN ?_ | fail "no step")
        refine sC (CallsM.ren (hpk) [0, 1] 13 rfl rfl rfl rfl) ?_
        repeat' (first | refine tT ?_ | refine tF ?_ | refine ex_dec (fun _ => ?_) (fun _ => ?_) | refine t8 ?_ | refine tI ?_ | refine tU ?_ | refine tA ?_ | refine tB ?_ | refine tL ?_ | refine tN ?_ | fail "no step")
        have hcon := pack_c (m := m) hL hn ⟨i, xs, ts⟩ hs
        rcases hx : (packM L) ⟨i, xs, ts⟩ with ⟨x, ⟨i2, xs2, ts2⟩⟩ | ⟨i9, e9⟩
        rotate_left
        · obtain rfl := (and_err hx).symm.trans hT
          refine sC (CallsM.ren (hcon.err hx) [0, 1] 13 rfl rfl rfl rfl) ?_
          first | exact ⟨⟨_, rfl, rfl⟩, rfl, rfl⟩ | exact ⟨by kernel_rfl, ⟨_, rfl, rfl⟩, rfl, rfl⟩
        replace hT := (and_ok hx).symm.trans hT
        refine sC (CallsM.ren (hcon.ok hx) [0, 1] 13 rfl rfl rfl rfl) ?_
        clear hcon
        have hs2 := (Up.ok (up_pack hL) hs hx).1
        have hgo : i < i2 := mo_pack _ _ _ hx
        obtain ⟨rfl, rfl⟩ := mv_pack hx
        repeat' (first | refine tT ?_ | refine tF ?_ | refine ex_dec (fun _ => ?_) (fun _ => ?_) | refine t8 ?_ | refine tI ?_ | refine tU ?_ | refine tA ?_ | refine tB ?_ | refine tL ?_ | refine tN ?_ | fail "no step")
        refine ex_app (l.length) (1) 1000 (by first | rfl | (simp; done) | (simp; omega)) (by first | rfl | (simp; done) | (simp; omega)) rfl (by omega) ?_
        refine ex_is (List.map itD (l ++ [x])) (by rw [List.map_append]; rfl) ?_
        repeat' (first | refine tT ?_ | refine tF ?_ | refine ex_dec (fun _ => ?_) (fun _ => ?_) | refine t8 ?_ | refine tI ?_ | refine tU ?_ | refine tA ?_ | refine tB ?_ | refine tL ?_ | refine tN ?_ | fail "no step")
        exact ex_round (i2, xs, ts, l ++ [x], n) ⟨hs2, by omega, by simp <;> omega, hT⟩ (by show L.length - i2 < L.length - i; omega) (SLe.ren [(0, 0), (1, 1), (2, 2), (3, 3), (4, 4), (5, 5), (6, 6), (7, 7), (9, 9), (11, 11), (12, 12), (14, 10)] ⟨⟨rfl, rfl⟩, ⟨rfl, rfl⟩, ⟨rfl, rfl⟩, trivial⟩ ⟨⟨rfl, rfl⟩, ⟨rfl, rfl⟩, ⟨rfl, rfl⟩, ⟨rfl, rfl⟩, ⟨rfl, rfl⟩, ⟨rfl, rfl⟩, ⟨rfl, rfl⟩, ⟨rfl, rfl⟩, ⟨rfl, rfl⟩, ⟨rfl, rfl⟩, trivial⟩ rfl)
end
end Go.Proofs.YtkbhmcdoedmffaaGreatDoor

namespace Go.Proofs.YtkbhmcdoedmffaaGreatDoor
open Go.RowKit

section
variable {P : Program} {Γ : Glob} {f : FuncId} {nx : Nat} {xs : List T1} {r : TV} {upd : List (Nat × Blk)} {new : List Blk} {a b c d e g : Nat × Blk} {m : List (Nat × Blk)}
theorem CallsM.moreW (h : CallsM P Γ f [a, b, e, g] nx xs r upd new) : CallsM P Γ f [a, b, c, d, e, g] nx xs r upd new := h.more fun p hp => by
  simp only [List.mem_cons, List.not_mem_nil, or_false] at hp ⊢; rcases hp with hp | hp | hp | hp <;> simp [hp]
end
abbrev Cz (l : List CO) : Blk := .row 2 107 (l.map coD)
abbrev Uz (l : List RC) : Blk := .row 3 69 (l.map rcD)
def PR.uW (L : List TokP) (m : Nat) : PR (List CO × List RC) → List (Nat × Blk)
  | .ok _ s => [(0, Qz L m s.i), (1, Fz 6 7 8 9), (2, .dead), (3, .dead), (4, .dead), (5, .dead)]
  | .err _ _ => [(0, .dead), (1, .dead), (2, .dead), (3, .dead), (4, .dead), (5, .dead)]
def PR.nW : PR (List CO × List RC) → List Blk
  | .ok v s => [Cz v.1, Uz v.2, Xz s.xs, Tz s.ts]
  | .err _ _ => []
theorem ex_pan {P : Program} {Γ : Glob} {f : FuncId} {m : List (Nat × Blk)} {nx : Nat} {xs : List T1} {r : TV} {upd : List (Nat × Blk)} {new : List Blk} (Q : Prop) (h : CallsM P Γ f m nx xs r upd new) {K : TV → List (Nat × Blk) → List Blk → Prop} (e : K r upd new = Q) (hq : Q) : ∃ r upd new, CallsM P Γ f m nx xs r upd new ∧ K r upd new := ⟨r, upd, new, h, e.mpr hq⟩
section
variable {L : List TokP} {m : Nat}
set_option maxHeartbeats 16000000 in
theorem whole_c (hL : TokOk L) (hn : L.length ≤ 100000) (hm : m = 32) (i n0 : Nat) (xs : List EX) (ts : List TY) (cs : List CO) (rs : List RC) (hs : SOk L 0 ⟨i, xs, ts⟩) (hf : L.length < i + n0) (hcl : cs.length ≤ i) (hrl : rs.length ≤ i) (T : PR (List CO × List RC)) (hT : wholeN L n0 cs rs ⟨i, xs, ts⟩ = T) :
    CallsM Tryz.prog ΓL 24 [(0, Qz L m i), (1, Fz 2 3 4 5), (2, Cz cs), (3, Uz rs), (4, Xz xs), (5, Tz ts)] 6 [P0] (T.tv L fun _ => .tup []) (T.uW L m) T.nW := by
  refine fn_ruleP (C := ⟨Tryz.prog, layF, Tryz.f24.ntmps, ΓL, 6, [], []⟩) layF_ok mixed Tryz.func24 rfl (by kernel_rfl) rfl rfl rfl SLe.rfl ?_
  repeat' (first | refine tT ?_ | refine tF ?_ | refine ex_dec (fun _ => ?_) (fun _ => ?_) | refine t8 ?_ | refine tI ?_ | refine tU ?_ | refine tA ?_ | refine tB ?_ | refine tL ?_ | refine tN ?_ | fail "no step")
  refine ex_loop (X := Nat × List EX × List TY × List CO × List RC × Nat) (fun ⟨i, xs, ts, cs, rs, _⟩ => ⟨[(0, .o P0)], [(5, .dead), (4, .dead), (3, .dead), (2, .dead), (0, Qz L m i), (1, Fz 6 7 8 9), (6, Cz cs), (7, Uz rs), (8, Xz xs), (9, Tz ts)], 10⟩) (fun y => L.length - y.1)
    (fun ⟨i, xs, ts, cs, rs, n⟩ => SOk L 0 ⟨i, xs, ts⟩ ∧ L.length < i + n ∧ cs.length ≤ i ∧ rs.length ≤ i ∧ wholeN L n cs rs ⟨i, xs, ts⟩ = T) (i, xs, ts, cs, rs, n0) ⟨hs, hf, hcl, hrl, hT⟩
    (SLe.kill (nx := 10) 5 (SLe.kill (nx := 10) 4 (SLe.kill (nx := 10) 3 (SLe.kill (nx := 10) 2 (SLe.ren [(0, 0), (1, 1), (2, 6), (3, 7), (4, 8), (5, 9)] ⟨⟨rfl, rfl⟩, trivial⟩ ⟨⟨rfl, rfl⟩, ⟨rfl, rfl⟩, ⟨rfl, rfl⟩, ⟨rfl, rfl⟩, ⟨rfl, rfl⟩, ⟨rfl, rfl⟩, trivial⟩ rfl))))) ?_
  clear hT hf hcl hrl hs
  rintro ⟨i, xs, ts, cs, rs, n⟩ ⟨hs, hf, hcl, hrl, hT⟩
  have hi := hs.lt
  have hic := is_c (m := m) i hi w_const
  have hir := is_c (m := m) i hi w_struct
  cases n with
  | zero => omega
  | succ n =>
    rw [wholeN] at hT
    rcases hv : isV L i w_const with _ | _ <;> rw [hv] at hic
    · replace hT := atn hT hv
      rcases hv2 : isV L i w_struct with _ | _ <;> rw [hv2] at hir
      · replace hT := atn hT hv2
        have ha := ahead_c (L := L) (m := m) i hi
        by_cases hk : (tk L i).k = 3
        · obtain rfl : PR.ok (cs, rs) ⟨i, xs, ts⟩ = T := aty hT (by rw [hk]; rfl)
          generalize tk L i = u at *
          refine sC (CallsM.ren (hic) [0, 1] 10 rfl rfl rfl rfl) ?_
          repeat' (first | refine tT ?_ | refine tF ?_ | refine ex_dec (fun _ => ?_) (fun _ => ?_) | refine t8 ?_ | refine tI ?_ | refine tU ?_ | refine tA ?_ | refine tB ?_ | refine tL ?_ | refine tN ?_ | fail "no step")
          refine sC (CallsM.ren (hir) [0, 1] 10 rfl rfl rfl rfl) ?_
          repeat' (first | refine tT ?_ | refine tF ?_ | refine ex_dec (fun _ => ?_) (fun _ => ?_) | refine t8 ?_ | refine tI ?_ | refine tU ?_ | refine tA ?_ | refine tB ?_ | refine tL ?_ | refine tN ?_ | fail "no step")
          refine sC (CallsM.ren (ha) [0, 1] 10 rfl rfl rfl rfl) ?_
          repeat' (first | refine tT ?_ | refine tF ?_ | refine ex_dec (fun _ => ?_) (fun _ => ?_) | refine t8 ?_ | refine tI ?_ | refine tU ?_ | refine tA ?_ | refine tB ?_ | refine tL ?_ | refine tN ?_ | fail "no step")
          exact ⟨rfl, TLe.rfl, rfl, rfl⟩
        · obtain rfl : PR.err i 4 = T := atn hT (by simp [hk])
          have hfl := fail_c (m := m) i 4 hi
          generalize tk L i = u at *
          refine sC (CallsM.ren (hic) [0, 1] 10 rfl rfl rfl rfl) ?_
          repeat' (first | refine tT ?_ | refine tF ?_ | refine ex_dec (fun _ => ?_) (fun _ => ?_) | refine t8 ?_ | refine tI ?_ | refine tU ?_ | refine tA ?_ | refine tB ?_ | refine tL ?_ | refine tN ?_ | fail "no step")
          refine sC (CallsM.ren (hir) [0, 1] 10 rfl rfl rfl rfl) ?_
          repeat' (first | refine tT ?_ | refine tF ?_ | refine ex_dec (fun _ => ?_) (fun _ => ?_) | refine t8 ?_ | refine tI ?_ | refine tU ?_ | refine tA ?_ | refine tB ?_ | refine tL ?_ | refine tN ?_ | fail "no step")
          refine sC (CallsM.ren (ha) [0, 1] 10 rfl rfl rfl rfl) ?_
          repeat' (first | refine tT ?_ | refine tF ?_ | refine ex_dec (fun _ => ?_) (fun _ => ?_) | refine t8 ?_ | refine tI ?_ | refine tU ?_ | refine tA ?_ | refine tB ?_ | refine tL ?_ | refine tN ?_ | fail "no step")
          refine sC (CallsM.ren ((fail_c (m := m) i 4 hi)) [0, 1] 10 rfl rfl rfl rfl) ?_
          exact ⟨⟨_, rfl, rfl⟩, rfl, rfl⟩
      · replace hT := aty hT hv2
        refine sC (CallsM.ren (hic) [0, 1] 10 rfl rfl rfl rfl) ?_
        repeat' (first | refine tT ?_ | refine tF ?_ | refine ex_dec (fun _ => ?_) (fun _ => ?_) | refine t8 ?_ | refine tI ?_ | refine tU ?_ | refine tA ?_ | refine tB ?_ | refine tL ?_ | refine tN ?_ | fail "no step")
        refine sC (CallsM.ren (hir) [0, 1] 10 rfl rfl rfl rfl) ?_
        repeat' (first | refine ex_is rs.length (by simp) ?_ | refine tT ?_ | refine tF ?_ | refine ex_dec (fun _ => ?_) (fun _ => ?_) | refine t8 ?_ | refine tI ?_ | refine tU ?_ | refine tA ?_ | refine tB ?_ | refine tL ?_ | refine tN ?_ | fail "no step")
        have hcon := room_c (m := m) ⟨i, xs, ts⟩ hi rs.length (by omega)
        rcases hr : (roomM rs.length) ⟨i, xs, ts⟩ with ⟨_, s9⟩ | ⟨i9, e9⟩
        rotate_left
        · obtain rfl := (and_err hr).symm.trans hT
          refine sC (CallsM.ren (hcon.err hr) [0, 1] 10 rfl rfl rfl rfl) ?_
          first | exact ⟨⟨_, rfl, rfl⟩, rfl, rfl⟩ | exact ⟨by kernel_rfl, ⟨_, rfl, rfl⟩, rfl, rfl⟩
        replace hT := (and_ok hr).symm.trans hT
        refine sC (CallsM.ren (hcon.ok hr) [0, 1] 10 rfl rfl rfl rfl) ?_
        clear hcon
        obtain rfl := mv_room1 hr
        repeat' (first | refine tT ?_ | refine tF ?_ | refine ex_dec (fun _ => ?_) (fun _ => ?_) | refine t8 ?_ | refine tI ?_ | refine tU ?_ | refine tA ?_ | refine tB ?_ | refine tL ?_ | refine tN ?_ | fail "no step")
        have hcon := record_c (m := m) hL hn hm ⟨i, xs, ts⟩ hs
        rcases hx : recordM L ⟨i, xs, ts⟩ with ⟨r, ⟨i2, xs2, ts2⟩⟩ | ⟨i9, e9⟩
        · replace hT := (and_ok hx).symm.trans hT
          have hs2 := (Up.ok (up_record hL) hs hx).1
          have hgo : i < i2 := mo_record _ _ _ hx
          refine ex_callM (CallsM.moreW (CallsM.ren (hcon.ok hx) [0, 1, 6, 7, 8, 9] 10 rfl rfl rfl rfl)) ?_
          repeat' (first | refine tT ?_ | refine tF ?_ | refine ex_dec (fun _ => ?_) (fun _ => ?_) | refine t8 ?_ | refine tI ?_ | refine tU ?_ | refine tA ?_ | refine tB ?_ | refine tL ?_ | refine tN ?_ | fail "no step")
          refine ex_app (rs.length) (1) 1000 (by first | rfl | (simp; done) | (simp; omega)) (by first | rfl | (simp; done) | (simp; omega)) rfl (by omega) ?_
          refine ex_is (List.map rcD (rs ++ [r])) (by rw [List.map_append]; rfl) ?_
          repeat' (first | refine tT ?_ | refine tF ?_ | refine ex_dec (fun _ => ?_) (fun _ => ?_) | refine t8 ?_ | refine tI ?_ | refine tU ?_ | refine tA ?_ | refine tB ?_ | refine tL ?_ | refine tN ?_ | fail "no step")
          exact ex_round (i2, xs2, ts2, cs, rs ++ [r], n) ⟨hs2, by omega, by omega, by simp <;> omega, hT⟩ (by show L.length - i2 < L.length - i; omega) (SLe.ren [(0, 0), (1, 1), (2, 2), (3, 3), (4, 4), (5, 5), (6, 6), (13, 7), (10, 8), (11, 9)] ⟨⟨rfl, rfl⟩, trivial⟩ ⟨⟨rfl, rfl⟩, ⟨rfl, rfl⟩, ⟨rfl, rfl⟩, ⟨rfl, rfl⟩, ⟨rfl, rfl⟩, ⟨rfl, rfl⟩, ⟨rfl, rfl⟩, ⟨rfl, rfl⟩, ⟨rfl, rfl⟩, ⟨rfl, rfl⟩, trivial⟩ rfl)
        · obtain rfl := (and_err hx).symm.trans hT
          exact ex_pan ((true = true) ∧ panIs (.pan (flt L i9 e9)) (panE (flt L i9 e9)) ∧ (PR.uW L m (.err i9 e9)) = deadM [0, 1, 2, 3, 4, 5] ∧ ([] : List Blk) = []) (CallsM.moreW (CallsM.ren (hcon.err hx) [0, 1, 6, 7, 8, 9] 10 rfl rfl rfl rfl)) (by kernel_rfl) ⟨rfl, ⟨_, rfl, rfl⟩, rfl, rfl⟩
    · replace hT := aty hT hv
      refine sC (CallsM.ren (hic) [0, 1] 10 rfl rfl rfl rfl) ?_
      repeat' (first | refine ex_is cs.length (by simp) ?_ | refine tT ?_ | refine tF ?_ | refine ex_dec (fun _ => ?_) (fun _ => ?_) | refine t8 ?_ | refine tI ?_ | refine tU ?_ | refine tA ?_ | refine tB ?_ | refine tL ?_ | refine tN ?_ | fail "no step")
      have hcon := room_c (m := m) ⟨i, xs, ts⟩ hi cs.length (by omega)
      rcases hr : (roomM cs.length) ⟨i, xs, ts⟩ with ⟨_, s9⟩ | ⟨i9, e9⟩
      rotate_left
      · obtain rfl := (and_err hr).symm.trans hT
        refine sC (CallsM.ren (hcon.err hr) [0, 1] 10 rfl rfl rfl rfl) ?_
        first | exact ⟨⟨_, rfl, rfl⟩, rfl, rfl⟩ | exact ⟨by kernel_rfl, ⟨_, rfl, rfl⟩, rfl, rfl⟩
      replace hT := (and_ok hr).symm.trans hT
      refine sC (CallsM.ren (hcon.ok hr) [0, 1] 10 rfl rfl rfl rfl) ?_
      clear hcon
      obtain rfl := mv_room1 hr
      repeat' (first | refine tT ?_ | refine tF ?_ | refine ex_dec (fun _ => ?_) (fun _ => ?_) | refine t8 ?_ | refine tI ?_ | refine tU ?_ | refine tA ?_ | refine tB ?_ | refine tL ?_ | refine tN ?_ | fail "no step")
      have hcon := const_c (m := m) hL hn ⟨i, xs, ts⟩ hs
      rcases hx : constM L ⟨i, xs, ts⟩ with ⟨c, ⟨i2, xs2, ts2⟩⟩ | ⟨i9, e9⟩
      rotate_left
      · obtain rfl := (and_err hx).symm.trans hT
        exact ex_pan ((true = true) ∧ panIs (.pan (flt L i9 e9)) (panE (flt L i9 e9)) ∧ (PR.uW L m (.err i9 e9)) = deadM [0, 1, 2, 3, 4, 5] ∧ ([] : List Blk) = []) (CallsM.more0 (CallsM.ren (hcon.err hx) [0, 1] 10 rfl rfl rfl rfl)) (by kernel_rfl) ⟨rfl, ⟨_, rfl, rfl⟩, rfl, rfl⟩
      replace hT := (and_ok hx).symm.trans hT
      refine ex_callM (CallsM.more0 (CallsM.ren (hcon.ok hx) [0, 1] 10 rfl rfl rfl rfl)) ?_
      have hs2 := (Up.ok (up_const hL) hs hx).1
      obtain ⟨rfl, rfl⟩ := mv_const hx
      have hgo : i < i2 := mo_const _ _ _ hx
      repeat' (first | refine tT ?_ | refine tF ?_ | refine ex_dec (fun _ => ?_) (fun _ => ?_) | refine t8 ?_ | refine tI ?_ | refine tU ?_ | refine tA ?_ | refine tB ?_ | refine tL ?_ | refine tN ?_ | fail "no step")
      refine ex_app (cs.length) (1) 1000 (by first | rfl | (simp; done) | (simp; omega)) (by first | rfl | (simp; done) | (simp; omega)) rfl (by omega) ?_
      refine ex_is (List.map coD (cs ++ [c])) (by rw [List.map_append]; rfl) ?_
      repeat' (first | refine tT ?_ | refine tF ?_ | refine ex_dec (fun _ => ?_) (fun _ => ?_) | refine t8 ?_ | refine tI ?_ | refine tU ?_ | refine tA ?_ | refine tB ?_ | refine tL ?_ | refine tN ?_ | fail "no step")
      exact ex_round (i2, xs, ts, cs ++ [c], rs, n) ⟨hs2, by omega, by simp <;> omega, by omega, hT⟩ (by show L.length - i2 < L.length - i; omega) (SLe.ren [(0, 0), (1, 1), (2, 2), (3, 3), (4, 4), (5, 5), (11, 6), (7, 7), (8, 8), (9, 9)] ⟨⟨rfl, rfl⟩, trivial⟩ ⟨⟨rfl, rfl⟩, ⟨rfl, rfl⟩, ⟨rfl, rfl⟩, ⟨rfl, rfl⟩, ⟨rfl, rfl⟩, ⟨rfl, rfl⟩, ⟨rfl, rfl⟩, ⟨rfl, rfl⟩, ⟨rfl, rfl⟩, ⟨rfl, rfl⟩, trivial⟩ rfl)
end
end Go.Proofs.YtkbhmcdoedmffaaGreatDoor

namespace Go.Proofs.YtkbhmcdoedmffaaGreatDoor
open Go.RowKit

theorem lexN_len : ∀ (n : Nat) (r : List UInt8) (l c : Nat) (ts : List TokP), r.length < n → lexN n r l c = .ok ts → ts.length ≤ r.length + 1 := by
  intro n
  induction n with
  | zero => intro r l c ts h; omega
  | succ n ih =>
    intro r l c ts hlen h
    rw [lexN] at h
    rcases hs : stp r l c with _ | ⟨r', l', c'⟩ | ⟨k, t, v⟩ | e <;> rw [hs] at h <;> dsimp only at h
    · cases h; simp
    · have := stp_go hs
      have := ih r' l' c' ts (by omega) h
      omega
    · have ht := stp_tok hs
      obtain ⟨⟨X, rfl⟩, h2, h3, -⟩ := tokF_ok ht
      have h4 : 0 < t.length := List.length_pos_iff.2 h2
      rw [List.drop_left] at h
      rw [List.length_append] at hlen ⊢
      rcases hr : lexN n X l (c + t.length) with ts' | _
      · rw [hr] at h
        have h' : [⟨k, t, v, l, c⟩] ++ ts' = ts := by injection h
        have := ih X l (c + t.length) ts' (by omega) hr
        rw [← h']
        simp
        omega
      · rw [hr] at h; cases h
    · cases h
theorem lexV_ok {s : List UInt8} {L : List TokP} (h : lexV s = .ok L) : TokOk L ∧ L.length ≤ 100000 := by
  unfold lexV at h
  split at h
  · rename_i hs
    have hlen := lexN_len _ s 1 1 L (Nat.lt_succ_self _) h
    obtain ⟨us, l', c', rfl, _⟩ := lexF_good h
    refine ⟨⟨by simp, fun i hi => ?_⟩, by omega⟩
    simp only [List.length_append, List.length_cons, List.length_nil] at hi
    have : i = us.length := by omega
    unfold tk
    rw [this, List.getD_eq_getElem?_getD, List.getElem?_append_right (Nat.le_refl _)]
    simp
  · cases h
theorem stp_err {r : List UInt8} {l c e : Nat} (h : stp r l c = .err e) : tokF r = .err e := by
  unfold stp at h
  split at h
  · cases h
  · split at h
    · cases h
    · split at h
      · cases h
      · split at h
        · cases h
        · revert h
          unfold TR.stp
          split <;> intro h <;> cases h
          assumption
theorem lexN_err : ∀ (n : Nat) (r : List UInt8) (l c l' c' e : Nat), r.length < n → lexN n r l c = .err l' c' e → 4 ≤ e ∧ e ≤ 7 := by
  intro n
  induction n with
  | zero => intro r l c l' c' e h; omega
  | succ n ih =>
    intro r l c l' c' e hlen h
    rw [lexN] at h
    rcases hs : stp r l c with _ | ⟨r', l1, c1⟩ | ⟨k, t, v⟩ | e1 <;> rw [hs] at h <;> dsimp only at h
    · cases h
    · have := stp_go hs
      exact ih r' l1 c1 l' c' e (by omega) h
    · have ht := stp_tok hs
      obtain ⟨⟨X, rfl⟩, h2, h3, -⟩ := tokF_ok ht
      have h4 : 0 < t.length := List.length_pos_iff.2 h2
      rw [List.drop_left] at h
      rw [List.length_append] at hlen
      rcases hr : lexN n X l (c + t.length) with ts' | ⟨l2, c2, e2⟩
      · rw [hr] at h; cases h
      · rw [hr] at h
        cases h
        exact ih X l _ _ _ _ (by omega) hr
    · cases h
      exact tokF_err (stp_err hs)
theorem lexV_err {s : List UInt8} {l c e : Nat} (h : lexV s = .err l c e) : 4 ≤ e ∧ e ≤ 7 := by
  unfold lexV at h
  split at h
  · exact lexN_err _ s 1 1 l c e (Nat.lt_succ_self _) h
  · cases h; decide
def fileD (cs : List CO) (rs : List RC) (xs : List EX) (ts : List TY) : List D := [.sl 2 (cs.map coD), .sl 3 (rs.map rcD), .sl 5 (xs.map exD), .sl 8 (ts.map tyD)]
abbrev dnp : D := .v (.pointer none)
def parT : FR → TV
  | .ok cs rs xs ts => .tup [.c (.eptr (fileD cs rs xs ts)), gD [di 0, di 0], c1 (di 0)]
  | .err l c e => .tup [c1 dnp, gD [di l, di c], c1 (di e)]
theorem nil_eq (w : World) : (binOp BinOp.eql 20 .nilIface .nilIface).run Tryz.prog w = .ok (.bool true) w := by kernel_rfl
theorem iface_eq (t : TypeId) (v : Value) (w : World) : (binOp BinOp.eql 20 (.iface t v) .nilIface).run Tryz.prog w = .ok (.bool false) w := by rfl
theorem catch_idle (x y z : Value) (w : World) :
    CallsD Tryz.prog 23 #[x, y, z] .returning w fun e u' w' => e = .returned (.tuple #[]) ∧ u' = .returning ∧ w' = w := by
  refine callsD_of_wpS Tryz.func23 rfl fun c₀ cs hu => ?_
  apply wpS_seq
  apply wpS_region
  simp [wpOpsS, go_sem, recoverD, hu, Tryz.ntmps23, Exit.thenS]
  refine wpS_of_wp ?_
  refine wp_block ?_
  apply wp_seq
  apply wp_region
  simp [wpOps, go_sem, nil_eq, Exit.then]
  repeat apply Or.inl
  refine Go.wp_cond_true ?hc ?h
  · simp [Act.eval]
  apply wp_region
  simp [wpOps, go_sem, Exit.inBlock]
  repeat apply Or.inl
  cases c₀
  simp_all [bodyPostS, results, Tryz.results23, Exit.thenS]
theorem assert_ok (v : Value) (w : World) : (Instr.typeAssert (.iface 83 v) 20 83 true).run Tryz.prog w = .ok (.tuple #[v, .bool true]) w := by
  simp [Instr.typeAssert, run_underlying, Tryz.underlying83]
abbrev pv (l c e : Nat) (r : Bool) : List PanicEntry := [{ v := fltV l c e, recovered := r }]
def hitM (f0 d1 d2 e0 : D) : List (Nat × Blk) := [(0, .obj [.d f0] 22), (1, .obj [.d d1, .d d2]), (2, .obj [.d e0])]
theorem catch_hit (l c e : Nat) (f0 d1 d2 e0 : D) {ι : Nat → Value} {S : Nat → Prop} {w : World} (hS : ∀ b, S b → b < w.heap.size) (hG : ΓL.G S w) (hblk : ∀ p ∈ hitM f0 d1 d2 e0, BlkOk ι S w p.1 p.2)
    (hdst : ∀ p ∈ hitM f0 d1 d2 e0, ∀ q ∈ hitM f0 d1 d2 e0, ∀ g, p.2.live = true → q.2.live = true → blkOf (ι p.1) = some g → blkOf (ι q.1) = some g → p.1 = q.1) :
    CallsD Tryz.prog 23 #[ι 0, ι 1, ι 2] (.panicking (pv l c e false)) w fun e' u' w' => e' = .returned (.tuple #[]) ∧ u' = .panicking (pv l c e true) ∧ ∃ ι' S', After ι S w 3 ⟨.und, [0, 1, 2], hitM dnp (di l) (di c) (di e), []⟩ undef ι' S' w' := by
  have hp : ∀ k, k < 3 → ∃ b, ι k = .pointer (some ⟨b, 0, none⟩) := fun k hk => by
    match k, hk with
    | 0, _ => obtain ⟨b, arr, ty, h1, _⟩ := hblk _ (List.mem_cons_self ..); exact ⟨b, h1⟩
    | 1, _ => obtain ⟨b, arr, ty, h1, _⟩ := hblk _ (List.mem_cons_of_mem _ (List.mem_cons_self ..)); exact ⟨b, h1⟩
    | 2, _ => obtain ⟨b, arr, ty, h1, _⟩ := hblk _ (List.mem_cons_of_mem _ (List.mem_cons_of_mem _ (List.mem_cons_self ..))); exact ⟨b, h1⟩
  obtain ⟨b0, hb0⟩ := hp 0 (by omega)
  obtain ⟨b1, hb1⟩ := hp 1 (by omega)
  obtain ⟨b2, hb2⟩ := hp 2 (by omega)
  refine callsD_of_wpS Tryz.func23 rfl fun c₀ cs hu => ?_
  apply wpS_seq
  apply wpS_region
  simp [wpOpsS, go_sem, recoverD, hu, Tryz.ntmps23, Exit.thenS]
  refine wpS_of_wp ?_
  refine wp_block ?_
  apply wp_seq
  apply wp_region
  simp [wpOps, go_sem, iface_eq, Exit.then]
  apply Or.inl
  refine Go.wp_cond_false ?hc ?h
  · simp [Act.eval]
  apply wp_seq
  apply wp_region
  simp [wpOps, go_sem, assert_ok, Exit.then]
  iterate 3 apply Or.inl
  refine Go.wp_cond_true ?hc2 ?h2
  · simp [Act.eval]
  refine Code.wp_mono (fun e1 a1 w1 h => ?_) (code_after (C := ⟨Tryz.prog, layF, Tryz.f23.ntmps, ΓL, 3, [], []⟩) (tm := [(0, .o (.c (.ptr 0 0))), (1, .o (.c (.ptr 1 0))), (2, .o (.c (.ptr 2 0))), (11, .o (gD [di l, di c, di e]))]) (m := hitM f0 d1 d2 e0) (upd := hitM dnp (di l) (di c) (di e)) (new := []) layF_ok mixed rfl ?hvc hS hG hblk hdst ?htm (by simp [Tryz.ntmps23]) rfl)
  case hvc =>
    repeat' (first | refine tT ?_ | refine tF ?_ | refine ex_dec (fun _ => ?_) (fun _ => ?_) | refine t8 ?_ | refine tI ?_ | refine tU ?_ | refine tA ?_ | refine tB ?_ | refine tL ?_ | refine tN ?_ | fail "no step")
    exact ⟨rfl, rfl, rfl⟩
  case htm =>
    intro t tv ht
    simp only [findL] at ht
    split at ht
    · rename_i h; subst h; cases ht
      exact ⟨b0, hb0, by simp [hb0]⟩
    · split at ht
      · rename_i h; subst h; cases ht
        exact ⟨b1, hb1, by simp [hb1]⟩
      · split at ht
        · rename_i h; subst h; cases ht
          exact ⟨b2, hb2, by simp [hb2]⟩
        · split at ht
          · rename_i h; subst h; cases ht
            exact ⟨[.int .i64 l, .int .i64 c, .int .i64 e], by simp, .cons (Imm.v rfl) (.cons (Imm.v rfl) (.cons (Imm.v rfl) .nil))⟩
          · cases ht
  obtain ⟨rfl, h1, ι', S', A⟩ := h
  simp only [Exit.inBlock, bodyPostS]
  exact ⟨h1, .panicking (pv l c e true), rfl, .tuple #[], by simp [results, Tryz.results23], rfl, rfl, ι', S', A⟩
end Go.Proofs.YtkbhmcdoedmffaaGreatDoor

namespace Go.Proofs.YtkbhmcdoedmffaaGreatDoor
open Go.RowKit

def HitP (v : Value) (st : St) (upd : List (Nat × Blk)) : Prop := ∃ (l c e : Nat) (f0 d1 d2 e0 : D), v = fltV l c e ∧ upd = hitM dnp (di l) (di c) (di e) ∧
  findL st.mem 0 = some (.obj [.d f0] 22) ∧ findL st.mem 1 = some (.obj [.d d1, .d d2]) ∧ findL st.mem 2 = some (.obj [.d e0])
theorem hitP_ok (v : Value) (st : St) (upd : List (Nat × Blk)) (h : HitP v st upd) (ι : Nat → Value) (S : Nat → Prop) (w : World) (hS : ∀ b, S b → b < w.heap.size) (hG : ΓL.G S w) (hblk : ∀ k b, findL st.mem k = some b → BlkOk ι S w k b)
    (hdst : ∀ k k' b b' g, findL st.mem k = some b → findL st.mem k' = some b' → b.live = true → b'.live = true → blkOf (ι k) = some g → blkOf (ι k') = some g → k = k') :
    CallsD Tryz.prog 23 ([0, 1, 2].map ι).toArray (.panicking (panE v)) w fun e' u' w' => e' = .returned (.tuple #[]) ∧ u' = .panicking [{ v, recovered := true }] ∧ ∃ ι' S', After ι S w st.nx ⟨.und, [], upd, []⟩ undef ι' S' w' := by
  obtain ⟨l, c, e, f0, d1, d2, e0, rfl, rfl, h0, h1, h2⟩ := h
  have hf : ∀ p ∈ hitM f0 d1 d2 e0, findL st.mem p.1 = some p.2 := fun p hp => by
    simp only [hitM, List.mem_cons, List.not_mem_nil, or_false] at hp
    rcases hp with rfl | rfl | rfl
    · exact h0
    · exact h1
    · exact h2
  refine (catch_hit l c e f0 d1 d2 e0 hS hG (fun p hp => hblk _ _ (hf p hp)) (fun p hp q hq g => hdst _ _ _ _ g (hf p hp) (hf q hq))).mono ?_
  rintro e' u' w' ⟨he, hu, ι', S', A⟩
  refine ⟨he, hu, ι', S', ⟨A.val, fun k _ => A.keep k (by show k < 3 ∨ 3 + 0 ≤ k; omega), A.smono, A.sgrow, A.slt, A.os, A.tape, A.output, A.size, A.heap, A.updok, fun i b hb => by simp at hb, fun i b hb => by simp at hb, fun i j b b' g hb => by simp at hb⟩⟩
def fileS (s : List UInt8) : FR := fileV (lexV s)
theorem Parse_c (s : List UInt8) : CallsA Tryz.prog ΓL 8 [c1 (ds (bs s))] (parT (fileS s)) := by
  have hlx := lex_c s
  obtain ⟨R, hR⟩ : ∃ R, fileS s = R := ⟨_, rfl⟩
  rw [hR]
  refine fn_ruleE (C := ⟨Tryz.prog, layF, Tryz.f8.ntmps, ΓL, 0, [5], []⟩) (g := 23) (t9 := 17) (nx2 := 3) (caps := [2, 3, 4]) (capN := [0, 1, 2]) layF_ok mixed Tryz.func8 rfl (by kernel_rfl) rfl rfl rfl HitP ?hdef ?henter ?hidle rfl hitP_ok ?h
  case hdef =>
    intro a w Q hsz h
    have h9 : 17 < a.tmps.size := by rw [hsz]; decide
    apply wp_region
    simp [wpOps, go_sem, h9]
    refine .inl (.inl ?_)
    simpa [Oper.upon, Act.put] using h (.func (.func 23) #[] #[a.tmps[2]?.getD undef, a.tmps[3]?.getD undef, a.tmps[4]?.getD undef])
  case henter =>
    intro vs w
    kernel_rfl
  case hidle =>
    intro vs w hl
    match vs, hl with
    | [x, y, z], _ => exact catch_idle x y z w
  case h =>
    rcases hl : lexV s with L | ⟨l, c, e⟩
    · rw [hl] at hlx
      have hlx : CallsA Tryz.prog ΓL 20 [c1 (ds (bs s))] (.tup [c1 (.sl 5 (L.map tokD)), gD [di 0, di 0], c1 (di 0)]) := hlx
      obtain ⟨hL, hn⟩ := lexV_ok hl
      repeat' (first | refine ex_call hlx ?_ | refine tT ?_ | refine tF ?_ | refine ex_dec (fun _ => ?_) (fun _ => ?_) | refine t8 ?_ | refine tI ?_ | refine tU ?_ | refine tA ?_ | refine tB ?_ | refine tL ?_ | refine tN ?_ | fail "no step")
      refine ⟨⟨rfl, rfl, rfl, trivial⟩, rfl, ?_⟩
      refine ex_join (X := Unit) (fun _ => ⟨[(2, .o (.c (.ptr 0 0))), (3, .o (.c (.ptr 1 0))), (4, .o (.c (.ptr 2 0))), (6, .o (.c (.ptr 4 0)))], [(0, .obj [.d dnp] 22), (1, .obj [.d (di 0), .d (di 0)]), (2, .obj [.d (di 0)]), (4, .obj [.d (.sl 5 (L.map tokD)), .d (di ((0 : Nat) : Int)), .d (di (32 - ((32 : Nat) : Int))), .ptr 3 0]), (3, Fz 5 6 7 8), (5, Cz []), (6, Uz []), (7, Xz []), (8, Tz [])], 9⟩) (fun _ => True) ?_ ?_
      · repeat' (first | refine tT ?_ | refine tF ?_ | refine ex_dec (fun _ => ?_) (fun _ => ?_) | refine t8 ?_ | refine tI ?_ | refine tU ?_ | refine tA ?_ | refine tB ?_ | refine tL ?_ | refine tN ?_ | fail "no step")
        exact ex_meet () trivial (SLe.via (SLe.ownCell 3 0 5 2 107 rfl rfl rfl rfl rfl rfl) (SLe.via (SLe.ownCell 3 1 6 3 69 rfl rfl rfl rfl rfl rfl) (SLe.via (SLe.ownCell 3 2 7 5 59 rfl rfl rfl rfl rfl rfl) (SLe.via (SLe.ownCell 3 3 8 8 63 rfl rfl rfl rfl rfl rfl) (SLe.of ⟨⟨rfl, rfl, rfl, rfl, trivial⟩, ⟨rfl, rfl, rfl, rfl, rfl, rfl, rfl, rfl, rfl, trivial⟩⟩)))))
      · intro _ _
        have hlen := hL.1
        have hw := whole_c (m := 32) hL hn rfl 0 (L.length + 1) [] [] [] [] ⟨hlen, by simp, by simp⟩ (by omega) (by simp) (by simp) _ rfl
        rcases hT : wholeN L (L.length + 1) [] [] ⟨0, [], []⟩ with ⟨⟨cs, rs⟩, s1⟩ | ⟨i, e⟩
        · obtain rfl : FR.ok cs rs s1.xs s1.ts = R := by rw [← hR]; unfold fileS fileV; rw [hl]; dsimp only; rw [hT]
          rw [hT] at hw
          have hw : CallsM Tryz.prog ΓL 24 [(0, Qz L 32 0), (1, Fz 2 3 4 5), (2, Cz []), (3, Uz []), (4, Xz []), (5, Tz [])] 6 [P0] (.tup []) [(0, Qz L 32 s1.i), (1, Fz 6 7 8 9), (2, .dead), (3, .dead), (4, .dead), (5, .dead)] [Cz cs, Uz rs, Xz s1.xs, Tz s1.ts] := hw
          repeat' (first | refine tT ?_ | refine tF ?_ | refine ex_dec (fun _ => ?_) (fun _ => ?_) | refine t8 ?_ | refine tI ?_ | refine tU ?_ | refine tA ?_ | refine tB ?_ | refine tL ?_ | refine tN ?_ | fail "no step")
          refine ex_callM (CallsM.ren hw [4, 3, 5, 6, 7, 8] 9 rfl rfl rfl rfl) ?_
          repeat' (first | refine tT ?_ | refine tF ?_ | refine ex_dec (fun _ => ?_) (fun _ => ?_) | refine t8 ?_ | refine tI ?_ | refine tU ?_ | refine tA ?_ | refine tB ?_ | refine tL ?_ | refine tN ?_ | fail "no step")
          exact ⟨_, SLe.via (show SLe 3 ⟨[(2, .o (.c (.ptr 0 0))), (3, .o (.c (.ptr 1 0))), (4, .o (.c (.ptr 2 0)))], [(0, .obj [.ptr 3 0] 22), (1, .obj [.d (di 0), .d (di 0)]), (2, .obj [.d (di 0)]), (3, Fz 9 10 11 12), (9, Cz cs), (10, Uz rs), (11, Xz s1.xs), (12, Tz s1.ts)], 13⟩ _ from (SLe.of ⟨⟨rfl, rfl, rfl, trivial⟩, ⟨rfl, rfl, rfl, rfl, rfl, rfl, rfl, rfl, trivial⟩⟩))
            (SLe.via (SLe.still 9 2 107 (cs.map coD) rfl) (SLe.via (SLe.still 10 3 69 (rs.map rcD) rfl) (SLe.via (SLe.still 11 5 59 (s1.xs.map exD) rfl) (SLe.via (SLe.still 12 8 63 (s1.ts.map tyD) rfl)
              (SLe.via (sle_fixO 0 0 3 (dl := fileD cs rs s1.xs s1.ts) rfl rfl rfl rfl) (show SLe 3 ⟨[(2, .o (.c (.ptr 0 0))), (3, .o (.c (.ptr 1 0))), (4, .o (.c (.ptr 2 0)))], [(0, .obj [.eptr (fileD cs rs s1.xs s1.ts)] 22), (1, .obj [.d (di 0), .d (di 0)]), (2, .obj [.d (di 0)])], 13⟩ _ from (SLe.of ⟨⟨rfl, rfl, rfl, trivial⟩, ⟨rfl, rfl, rfl, trivial⟩⟩))))))), TLe.rfl, rfl⟩
        · obtain rfl : FR.err (tk L i).l (tk L i).c e = R := by rw [← hR]; unfold fileS fileV; rw [hl]; dsimp only; rw [hT]
          rw [hT] at hw
          have hw : CallsM Tryz.prog ΓL 24 [(0, Qz L 32 0), (1, Fz 2 3 4 5), (2, Cz []), (3, Uz []), (4, Xz []), (5, Tz [])] 6 [P0] (.pan (flt L i e)) [(0, .dead), (1, .dead), (2, .dead), (3, .dead), (4, .dead), (5, .dead)] [] := hw
          repeat' (first | refine tT ?_ | refine tF ?_ | refine ex_dec (fun _ => ?_) (fun _ => ?_) | refine t8 ?_ | refine tI ?_ | refine tU ?_ | refine tA ?_ | refine tB ?_ | refine tL ?_ | refine tN ?_ | fail "no step")
          refine ex_callM (CallsM.ren hw [4, 3, 5, 6, 7, 8] 9 rfl rfl rfl rfl) ?_
          exact ⟨flt L i e, _, rfl, ⟨(tk L i).l, (tk L i).c, e, _, _, _, _, rfl, rfl, rfl, rfl, rfl⟩, rfl, rfl, _, fun _ _ _ _ h => h, TLe.rfl, rfl⟩
    · rw [hl] at hlx
      have he := lexV_err hl
      have hlx : CallsA Tryz.prog ΓL 20 [c1 (ds (bs s))] (.tup [c1 (.sl 5 []), gD [di l, di c], c1 (di e)]) := hlx
      obtain rfl : FR.err l c e = R := by rw [← hR]; unfold fileS; rw [hl]; rfl
      repeat' (first | refine ex_call hlx ?_ | refine tT ?_ | refine tF ?_ | refine ex_dec (fun _ => ?_) (fun _ => ?_) | refine t8 ?_ | refine tI ?_ | refine tU ?_ | refine tA ?_ | refine tB ?_ | refine tL ?_ | refine tN ?_ | fail "no step")
      exact ⟨_, fun _ _ _ _ h => h, TLe.rfl, rfl⟩
end Go.Proofs.YtkbhmcdoedmffaaGreatDoor

namespace Go.Proofs.YtkbhmcdoedmffaaGreatDoor
open Go.RowKit


abbrev dstrs (l : List ByteArray) : D := .sl 1 (l.map fun s => [ds s])
def real (u : TokP) : Bool := u.k != 3
end Go.Proofs.YtkbhmcdoedmffaaGreatDoor

namespace Go.Proofs.YtkbhmcdoedmffaaGreatDoor
open Go.RowKit

theorem tailJ_app (a b : List TokP) : tailJ (a ++ b) = tailJ a ++ tailJ b := by unfold tailJ; rw [List.flatMap_append]
theorem lex_bound : ∀ (n : Nat) (r : List UInt8) (l c : Nat) (ts : List TokP), r.length < n → lexN n r l c = .ok ts → ts.length ≤ r.length + 1 ∧ (tailJ (ts.filter real)).length ≤ 2 * r.length := by
  intro n
  induction n with
  | zero => intro r l c ts h; omega
  | succ n ih =>
    intro r l c ts hlen h
    rw [lexN] at h
    rcases hs : stp r l c with _ | ⟨r', l', c'⟩ | ⟨k, t, v⟩ | e <;> rw [hs] at h <;> dsimp only at h
    · cases h
      exact ⟨by simp, by simp [real, tailJ]⟩
    · have h1 := stp_go hs
      obtain ⟨e1, e2⟩ := ih r' l' c' ts (by omega) h
      exact ⟨by omega, by omega⟩
    · obtain ⟨⟨X, rfl⟩, h2, h3, -⟩ := tokF_ok (stp_tok hs)
      have h4 : 0 < t.length := List.length_pos_iff.2 h2
      rw [List.length_append] at hlen ⊢
      rw [List.drop_left] at h
      rcases hr : lexN n X l (c + t.length) with ts' | _
      · rw [hr] at h
        have h' : [⟨k, t, v, l, c⟩] ++ ts' = ts := by injection h
        obtain ⟨e1, e2⟩ := ih X l (c + t.length) ts' (by omega) hr
        subst h'
        refine ⟨by rw [List.length_append]; simp; omega, ?_⟩
        rw [List.filter_append, tailJ_app, List.length_append]
        have : (tailJ (List.filter real [⟨k, t, v, l, c⟩])).length = 1 + t.length := by
          have : real ⟨k, t, v, l, c⟩ = true := by simp [real]; omega
          rw [List.filter_cons, if_pos this]
          simp [tailJ]; omega
        omega
      · rw [hr] at h; cases h
    · cases h
theorem lexV_good {s : List UInt8} {ts : List TokP} (h : lexV s = .ok ts) : s.length ≤ 16384 ∧ ts.length ≤ 16385 ∧ (tailJ (ts.filter real)).length ≤ 32768 ∧ ∃ us l c, ts = us ++ [⟨3, [], 0, l, c⟩] ∧ (∀ u ∈ us, GoodTok u) ∧ ts.filter real = us := by
  unfold lexV at h
  split at h
  · rename_i hl
    obtain ⟨e1, e2⟩ := lex_bound _ s 1 1 ts (Nat.lt_succ_self _) h
    obtain ⟨us, l, c, e3, e4⟩ := lexF_good h
    refine ⟨hl, by omega, by omega, us, l, c, e3, e4, ?_⟩
    rw [e3, List.filter_append, List.filter_cons, if_neg (by simp [real]), List.filter_nil, List.append_nil, List.filter_eq_self.2 (fun u hu => ?_)]
    have := (e4 u hu).1
    simp [real]; omega
  · cases h
end Go.Proofs.YtkbhmcdoedmffaaGreatDoor

namespace Go.Proofs.YtkbhmcdoedmffaaGreatDoor
open Go.RowKit

theorem tb_eq {x y : Bool} (h : x = true ↔ y = true) : Tb x = Tb y := congrArg Tb (Bool.eq_iff_iff.2 h)
theorem rdigit_c (b : UInt8) : CallsA Tryz.prog Γ0 72 [c1 (.v (.int .u8 b.toNat))] (Tb (isDig b)) := by
  have e : isDig b = true ↔ (48 : Int) ≤ b.toNat ∧ (b.toNat : Int) ≤ 57 := by
    simp only [isDig, Bool.and_eq_true, decide_eq_true_eq]; omega
  refine fn_rule (C := ⟨Tryz.prog, layF, Tryz.f72.ntmps, Γ0, 0, [], []⟩) layF_ok mixed Tryz.func72 rfl (by kernel_rfl) rfl rfl rfl ?_
  refine ex_dec (fun h => ?_) (fun h => ?_)
  · refine ex_dec (fun h2 => ?_) (fun h2 => ?_)
    · exact TLe.eq (tb_eq (by rw [e]; simp; omega))
    · exact TLe.eq (tb_eq (by rw [e]; simp; omega))
  · exact TLe.eq (tb_eq (by rw [e]; simp; omega))
theorem rletter_c (b : UInt8) : CallsA Tryz.prog Γ0 73 [c1 (.v (.int .u8 b.toNat))] (Tb (isLet b)) := by
  have e : isLet b = true ↔ ((65 : Int) ≤ b.toNat ∧ (b.toNat : Int) ≤ 90) ∨ (((97 : Int) ≤ b.toNat ∧ (b.toNat : Int) ≤ 122) ∨ (b.toNat : Int) = 95) := by
    simp only [isLet, Bool.and_eq_true, Bool.or_eq_true, decide_eq_true_eq]; omega
  refine fn_rule (C := ⟨Tryz.prog, layF, Tryz.f73.ntmps, Γ0, 0, [], []⟩) layF_ok mixed Tryz.func73 rfl (by kernel_rfl) rfl rfl rfl ?_
  all_goals repeat' (refine ex_dec (fun _ => ?_) (fun _ => ?_))
  all_goals exact TLe.eq (tb_eq (by rw [e]; simp; omega))
def hexI (b : UInt8) : Int := if isHex b then (hexN b : Nat) else -1
theorem rhex_c (b : UInt8) : CallsA Tryz.prog Γ0 88 [c1 (.v (.int .u8 b.toNat))] (Ti (hexI b)) := by
  have hb := b.toNat_lt
  have e : isHex b = true ↔ ((48 : Int) ≤ b.toNat ∧ (b.toNat : Int) ≤ 57) ∨ (((97 : Int) ≤ b.toNat ∧ (b.toNat : Int) ≤ 102) ∨ ((65 : Int) ≤ b.toNat ∧ (b.toNat : Int) ≤ 70)) := by
    simp only [isHex, isDig, Bool.and_eq_true, Bool.or_eq_true, decide_eq_true_eq]; omega
  refine fn_rule (C := ⟨Tryz.prog, layF, Tryz.f88.ntmps, Γ0, 0, [], []⟩) layF_ok mixed Tryz.func88 rfl (by kernel_rfl) rfl rfl rfl ?_
  have fin : ∀ {n : Int}, n = hexI b → TLe (Ti n) (Ti (hexI b)) := fun e => TLe.eq (congrArg Ti e)
  repeat' (first | refine tT ?_ | refine tF ?_ | refine ex_dec (fun _ => ?_) (fun _ => ?_) | refine t8 ?_ | refine tI ?_ | refine tU ?_ | refine tA ?_ | refine tB ?_ | refine tL ?_ | refine tN ?_ | fail "no step")
  all_goals (refine fin ?_; unfold hexI hexN; split <;> rename_i h0 <;> (first | rw [e] at h0 | skip) <;> (try split) <;> (try split) <;> omega)
def tvV : Option Nat → TV
  | some n => .tup [c1 (du n), c1 (di 0)]
  | none => .tup [c1 (du 0), c1 (di 5)]
theorem div_room {base d : Nat} (hb : 0 < base) (hd : d ≤ 18446744073709551615) (n : Nat) : (18446744073709551615 - d) / base < n ↔ 18446744073709551616 ≤ n * base + d := by
  rw [Nat.div_lt_iff_lt_mul hb]
  omega
theorem div_int (d base : Nat) (hd : d ≤ 18446744073709551615) : ((18446744073709551615 : Int) - (d : Nat)).tdiv (base : Nat) = ((18446744073709551615 - d) / base : Nat) := by
  rw [show (18446744073709551615 : Int) - (d : Nat) = ((18446744073709551615 - d : Nat) : Int) by omega]
  rfl
theorem rvalue_c (base : Nat) (hb : base = 10 ∨ base = 16) (l : List UInt8) (hl : l.length ≤ 16384) (hh : ∀ b ∈ l, isHex b = true ∧ hexN b < base) :
    CallsA Tryz.prog Γ0 89 [c1 (ds (bs l)), c1 (du base)] (tvV (valF base 0 l)) := by
  obtain ⟨R, hR⟩ : ∃ R, valF base 0 l = R := ⟨_, rfl⟩
  rw [hR]
  have hsz := bs_size l
  have hb0 : 0 < base := by omega
  refine fn_rule (C := ⟨Tryz.prog, layF, Tryz.f89.ntmps, Γ0, 0, [], []⟩) layF_ok mixed Tryz.func89 rfl (by kernel_rfl) rfl rfl rfl ?_
  refine ex_loop (X := Nat × Nat) (fun ⟨q, n⟩ => ⟨[(0, Tstr (bs l)), (1, Tu base), (6, Tu n), (7, Ti q)], [], 0⟩) (fun x => l.length - x.1) (fun ⟨q, n⟩ => q ≤ l.length ∧ n < 18446744073709551616 ∧ valF base n (l.drop q) = R) (0, 0) ⟨Nat.zero_le _, by decide, hR⟩ (SLe.of ⟨⟨rfl, rfl, rfl, rfl, trivial⟩, trivial⟩) ?_
  rintro ⟨q, n⟩ ⟨hq, hn, hv⟩
  refine ex_dec (fun h => ?_) (fun h => ?_)
  · have hql : q < l.length := by omega
    have hc : l[q]? = some l[q] := at_some hql
    have hm : l[q] ∈ l := List.getElem_mem hql
    rw [List.drop_eq_getElem_cons hql, valF] at hv
    generalize l[q] = c at *
    obtain ⟨h1, h2⟩ := hh c hm
    have hx : hexI c = (hexN c : Nat) := by unfold hexI; rw [if_pos h1]
    refine ex_chr q c rfl hc ?_
    refine ex_call (rhex_c c) ?_
    rw [hx]
    have hd := div_room (d := hexN c) hb0 (by omega) n
    generalize hz : (18446744073709551615 - hexN c) / base = z at hd
    repeat' (first | refine tT ?_ | refine tF ?_ | refine ex_dec (fun _ => ?_) (fun _ => ?_) | refine t8 ?_ | refine tI ?_ | refine tU ?_ | refine tA ?_ | refine tB ?_ | refine tL ?_ | refine tN ?_ | fail "no step")
    refine ex_u64 (z : Int) (by rw [div_int _ _ (by omega), hz]) (by omega) (by have := Nat.div_le_self (18446744073709551615 - hexN c) base; omega) ?_
    refine ex_dec (fun h3 => ?_) (fun h3 => ?_)
    · rw [if_neg (by omega)] at hv
      subst hv
      repeat' (first | refine tT ?_ | refine tF ?_ | refine ex_dec (fun _ => ?_) (fun _ => ?_) | refine t8 ?_ | refine tI ?_ | refine tU ?_ | refine tA ?_ | refine tB ?_ | refine tL ?_ | refine tN ?_ | fail "no step")
      exact TLe.rfl
    · rw [if_pos (by omega)] at hv
      refine ex_u64 ((n * base : Nat) : Int) (Int.natCast_mul n base).symm (by omega) (by omega) ?_
      refine ex_u64 ((n * base + hexN c : Nat) : Int) (by omega) (by omega) (by omega) ?_
      repeat' (first | refine tT ?_ | refine tF ?_ | refine ex_dec (fun _ => ?_) (fun _ => ?_) | refine t8 ?_ | refine tI ?_ | refine tU ?_ | refine tA ?_ | refine tB ?_ | refine tL ?_ | refine tN ?_ | fail "no step")
      exact ex_round (q + 1, n * base + hexN c) ⟨by omega, by omega, hv⟩ (by show _ - _ < _ - _; omega) (SLe.of ⟨⟨rfl, rfl, rfl, rfl, trivial⟩, trivial⟩)
  · rw [List.drop_eq_nil_of_le (by omega), valF] at hv
    subst hv
    repeat' (first | refine tT ?_ | refine tF ?_ | refine ex_dec (fun _ => ?_) (fun _ => ?_) | refine t8 ?_ | refine tI ?_ | refine tU ?_ | refine tA ?_ | refine tB ?_ | refine tL ?_ | refine tN ?_ | fail "no step")
    exact TLe.rfl
end Go.Proofs.YtkbhmcdoedmffaaGreatDoor

namespace Go.Proofs.YtkbhmcdoedmffaaGreatDoor
open Go.RowKit

theorem val_ok {s : List UInt8} {base : Nat} (h : ∀ b ∈ s, isHex b = true ∧ hexN b < base) (hb : base = 10 ∨ base = 16) (hl : s.length ≤ 16384) : CallsA Tryz.prog Γ0 89 [c1 (ds (bs s)), c1 (du base)] (tvV (valF base 0 s)) := rvalue_c base hb s hl h
theorem dig_hex {b : UInt8} (h : isDig b = true) : isHex b = true ∧ hexN b < 10 := by
  have h2 := hex_bound b
  have h3 : isHex b = true := by unfold isHex; rw [h]; rfl
  rw [h3, h] at h2
  simp at h2
  exact ⟨h3, by omega⟩
theorem rnumber_c (s : List UInt8) (hl : s.length ≤ 16384) (h0 : s ≠ []) : CallsA Tryz.prog Γ0 74 [c1 (ds (bs s))] (tvT (numF s)) := by
  have hsz := bs_size s
  obtain ⟨pf, hpf⟩ : ∃ pf, (decide (2 < s.length) && [48, 120].isPrefixOf s) = pf := ⟨_, rfl⟩
  have h6 : sixteen s = (pf && ((s.take s.length).drop 2).all isHex) := by
    rw [← hpf, List.take_length]
    unfold sixteen
    rw [← Bool.and_assoc, Bool.and_comm (decide _) (List.isPrefixOf _ _)]
  have hten : s.all isDig = (s.take s.length).all isDig := by rw [List.take_length]
  have hval16 : sixteen s = true → CallsA Tryz.prog Γ0 89 [c1 (ds (bs (s.drop 2))), c1 (du 16)] (tvV (valF 16 0 (s.drop 2))) := fun h => val_ok (base := 16) (fun b hb => by
    have h7 := h
    unfold sixteen at h7
    simp only [Bool.and_eq_true, decide_eq_true_eq] at h7
    have h1 := List.all_eq_true.1 h7.2.2 b hb
    have h2 := hex_bound b
    rw [h1] at h2
    simp at h2
    exact ⟨h1, h2.1⟩) (.inr rfl) (by rw [List.length_drop]; omega)
  have hval10 : s.all isDig = true → CallsA Tryz.prog Γ0 89 [c1 (ds (bs s)), c1 (du 10)] (tvV (valF 10 0 s)) := fun h => val_ok (base := 10) (fun b hb => dig_hex (List.all_eq_true.1 h b hb)) (.inl rfl) hl
  unfold numF
  refine fn_rule (C := ⟨Tryz.prog, layF, Tryz.f74.ntmps, Γ0, 0, [], [2]⟩) layF_ok mixed Tryz.func74 rfl (by kernel_rfl) rfl rfl rfl ?_
  refine ex_join (X := Bool) (fun p => ⟨[(0, Tstr (bs s)), (2, .o (.c (.ptr 0 0))), (4, Tb p)], [(0, .obj [.d (di 0), .d (ds (bs [])), .d (du 0), .d (di 0), .d (di 0)])], 1⟩) (fun p => p = pf) ?_ ?_
  · by_cases h2 : 2 < s.length
    · obtain ⟨a, b, c, r, rfl⟩ : ∃ a b c r, s = a :: b :: c :: r := by
        match s, h2 with
        | a :: b :: c :: r, _ => exact ⟨a, b, c, r, rfl⟩
      have ha : (bs (a :: b :: c :: r)).data.toList[0]? = some a := rfl
      have hb : (bs (a :: b :: c :: r)).data.toList[1]? = some b := rfl
      have e1 : pf = (decide ((a.toNat : Int) = 48) && decide ((b.toNat : Int) = 120)) := by
        rw [← hpf, decide_eq_true h2, Bool.true_and]
        have hA : (48 == a) = decide ((a.toNat : Int) = 48) := Bool.eq_iff_iff.2 (by rw [beq_iff_eq, decide_eq_true_eq]; exact ⟨fun e => by rw [← e]; rfl, fun e => (UInt8.toNat_inj.1 (Int.ofNat_inj.1 e)).symm⟩)
        have hB : (120 == b) = decide ((b.toNat : Int) = 120) := Bool.eq_iff_iff.2 (by rw [beq_iff_eq, decide_eq_true_eq]; exact ⟨fun e => by rw [← e]; rfl, fun e => (UInt8.toNat_inj.1 (Int.ofNat_inj.1 e)).symm⟩)
        show (48 == a && (120 == b && true)) = _
        rw [hA, hB, Bool.and_true]
      repeat' (first | refine (ex_chr 1 b rfl hb) ?_ | refine (ex_chr 0 a rfl ha) ?_ | refine tT ?_ | refine tF ?_ | refine ex_dec (fun _ => ?_) (fun _ => ?_) | refine t8 ?_ | refine tI ?_ | refine tU ?_ | refine tA ?_ | refine tB ?_ | refine tL ?_ | refine tN ?_ | fail "no step")
      all_goals first
        | exact ex_meet true (by rw [e1]; simp; omega) (SLe.of ⟨⟨rfl, rfl, rfl, trivial⟩, ⟨rfl, trivial⟩⟩)
        | exact ex_meet false (by rw [e1]; simp; omega) (SLe.of ⟨⟨rfl, rfl, rfl, trivial⟩, ⟨rfl, trivial⟩⟩)
    · repeat' (first | refine tT ?_ | refine tF ?_ | refine ex_dec (fun _ => ?_) (fun _ => ?_) | refine t8 ?_ | refine tI ?_ | refine tU ?_ | refine tA ?_ | refine tB ?_ | refine tL ?_ | refine tN ?_ | fail "no step")
      exact ex_meet false (by rw [← hpf, decide_eq_false h2]; rfl) (SLe.of ⟨⟨rfl, rfl, rfl, trivial⟩, ⟨rfl, trivial⟩⟩)
  · intro p hp
    rw [← hp] at h6 hpf
    clear hp
    repeat' (first | refine tT ?_ | refine tF ?_ | refine ex_dec (fun _ => ?_) (fun _ => ?_) | refine t8 ?_ | refine tI ?_ | refine tU ?_ | refine tA ?_ | refine tB ?_ | refine tL ?_ | refine tN ?_ | fail "no step")
    refine ex_loop (X := Nat × Bool × Bool) (fun ⟨q, x, y⟩ => ⟨[(0, Tstr (bs s)), (2, .o (.c (.ptr 0 0))), (4, Tb x), (5, Tb y), (6, Ti q)], [(0, .obj [.d (di 0), .d (ds (bs [])), .d (du 0), .d (di 0), .d (di 0)])], 1⟩) (fun x => s.length - x.1)
      (fun ⟨q, x, y⟩ => q ≤ s.length ∧ x = (p && ((s.take q).drop 2).all isHex) ∧ y = (s.take q).all isDig) (0, p, true) ⟨Nat.zero_le _, by simp, rfl⟩ (SLe.of ⟨⟨rfl, rfl, rfl, rfl, rfl, trivial⟩, ⟨rfl, trivial⟩⟩) ?_
    rintro ⟨q, x, y⟩ ⟨hq, hx, hy⟩
    refine ex_dec (fun h => ?_) (fun h => ?_)
    · have hql : q < s.length := by omega
      have hc : s[q]? = some s[q] := at_some hql
      have htk : s.take (q + 1) = s.take q ++ [s[q]] := by rw [List.take_add_one, hc]; rfl
      have hlen : (s.take q).length = q := by rw [List.length_take]; omega
      have hd2 : ((s.take (q + 1)).drop 2).all isHex = if 1 < q then (((s.take q).drop 2).all isHex && isHex s[q]) else true := by
        rw [htk]
        split
        · rw [List.drop_append_of_le_length (by omega), List.all_append]; simp
        · rw [List.drop_eq_nil_of_le (by rw [List.length_append, hlen]; simp; omega)]; rfl
      have hd2' : ¬ 1 < q → ((s.take q).drop 2).all isHex = true := fun h => by rw [List.drop_eq_nil_of_le (by omega)]; rfl
      have hall : (s.take (q + 1)).all isDig = ((s.take q).all isDig && isDig s[q]) := by rw [htk, List.all_append]; simp
      generalize s[q] = c at *
      have hdg := rdigit_c c
      have hhx := rhex_c c
      have hI : hexI c = if isHex c then ((hexN c : Nat) : Int) else -1 := rfl
      generalize hexI c = z at *
      rcases hD : isDig c with _ | _ <;> rw [hD] at hdg hall <;> rcases hH : isHex c with _ | _ <;> rw [hH] at hI hd2 <;> simp only [if_true, if_false, Bool.false_eq_true] at hI
      all_goals
        repeat' (first | refine ex_call hhx ?_ | refine ex_call hdg ?_ | refine ex_i64 ((q + 1 : Nat) : Int) (by omega) (by omega) (by omega) ?_ | refine ex_u64 ((q + 1 : Nat) : Int) (by omega) (by omega) (by omega) ?_ | refine ex_u8 ((q + 1 : Nat) : Int) (by omega) (by omega) (by omega) ?_ | refine (ex_chr q c rfl hc) ?_ | refine tT ?_ | refine tF ?_ | refine ex_dec (fun _ => ?_) (fun _ => ?_) | refine t8 ?_ | refine tI ?_ | refine tU ?_ | refine tA ?_ | refine tB ?_ | refine tL ?_ | refine tN ?_ | fail "no step")
        all_goals
          rename_i h1q
          first
          | (rw [if_pos (by omega)] at hd2
             exact ex_round (q + 1, _, _) ⟨by omega, by rw [hd2]; simp [hx], by rw [hall]; simp [hy]⟩ (by show _ - _ < _ - _; omega) (SLe.of ⟨⟨rfl, rfl, rfl, rfl, rfl, trivial⟩, ⟨rfl, trivial⟩⟩))
          | (rw [if_neg (by omega)] at hd2
             exact ex_round (q + 1, _, _) ⟨by omega, by rw [hd2]; simp [hx, hd2' (by omega)], by rw [hall]; simp [hy]⟩ (by show _ - _ < _ - _; omega) (SLe.of ⟨⟨rfl, rfl, rfl, rfl, rfl, trivial⟩, ⟨rfl, trivial⟩⟩))
    · have hq' : q = s.length := by omega
      subst hq'
      rw [← h6] at hx
      rw [← hten] at hy
      rcases h16 : sixteen s with _ | _ <;> rw [h16] at hx <;> subst hx
      · rcases h10 : s.all isDig with _ | _ <;> rw [h10] at hy <;> subst hy
        · repeat' (first | refine tT ?_ | refine tF ?_ | refine ex_dec (fun _ => ?_) (fun _ => ?_) | refine t8 ?_ | refine tI ?_ | refine tU ?_ | refine tA ?_ | refine tB ?_ | refine tL ?_ | refine tN ?_ | fail "no step")
          exact TLe.rfl
        · have hv := hval10 h10
          cases he : valF 10 0 s with
          | none =>
            rw [he] at hv
            repeat' (first | refine ex_call hv ?_ | refine tT ?_ | refine tF ?_ | refine ex_dec (fun _ => ?_) (fun _ => ?_) | refine t8 ?_ | refine tI ?_ | refine tU ?_ | refine tA ?_ | refine tB ?_ | refine tL ?_ | refine tN ?_ | fail "no step")
            exact TLe.rfl
          | some n =>
            rw [he] at hv
            repeat' (first | refine ex_call hv ?_ | refine tT ?_ | refine tF ?_ | refine ex_dec (fun _ => ?_) (fun _ => ?_) | refine t8 ?_ | refine tI ?_ | refine tU ?_ | refine tA ?_ | refine tB ?_ | refine tL ?_ | refine tN ?_ | fail "no step")
            exact TLe.rfl
      · have hv := hval16 h16
        have h2l : 2 ≤ s.length := by
          unfold sixteen at h16
          simp only [Bool.and_eq_true, decide_eq_true_eq] at h16
          omega
        have hex2 : (bs s).extract (Int.toNat 2) ((bs s).size : Int).toNat = bs (s.drop 2) := ext_drop s 2 h2l
        cases he : valF 16 0 (s.drop 2) with
        | none =>
          rw [he] at hv
          repeat' (first | refine tT ?_ | refine tF ?_ | refine ex_dec (fun _ => ?_) (fun _ => ?_) | refine t8 ?_ | refine tI ?_ | refine tU ?_ | refine tA ?_ | refine tB ?_ | refine tL ?_ | refine tN ?_ | fail "no step")
          rw [hex2]
          repeat' (first | refine ex_call hv ?_ | refine tT ?_ | refine tF ?_ | refine ex_dec (fun _ => ?_) (fun _ => ?_) | refine t8 ?_ | refine tI ?_ | refine tU ?_ | refine tA ?_ | refine tB ?_ | refine tL ?_ | refine tN ?_ | fail "no step")
          exact TLe.rfl
        | some n =>
          rw [he] at hv
          repeat' (first | refine tT ?_ | refine tF ?_ | refine ex_dec (fun _ => ?_) (fun _ => ?_) | refine t8 ?_ | refine tI ?_ | refine tU ?_ | refine tA ?_ | refine tB ?_ | refine tL ?_ | refine tN ?_ | fail "no step")
          rw [hex2]
          repeat' (first | refine ex_call hv ?_ | refine tT ?_ | refine tF ?_ | refine ex_dec (fun _ => ?_) (fun _ => ?_) | refine t8 ?_ | refine tI ?_ | refine tU ?_ | refine tA ?_ | refine tB ?_ | refine tL ?_ | refine tN ?_ | fail "no step")
          exact TLe.rfl
def optN : Option (List UInt8) → Nat
  | some t => t.length
  | none => 0
theorem bs_inj {a b : List UInt8} : bs a = bs b ↔ a = b := ⟨fun h => by have := congrArg (fun x : ByteArray => x.data.toList) h; simpa using this, fun h => by rw [h]⟩
def ones : List UInt8 := [123, 125, 40, 41, 91, 93, 59, 58, 44, 61, 60, 62, 43, 45, 42, 47, 37, 38, 124, 33]
theorem pre_two {t r : List UInt8} (ht : t.length = 2) (hr : 1 < r.length) : t.isPrefixOf r = true ↔ t = r.take 2 := by
  match t, r, ht, hr with
  | [x, x'], a :: b :: y, _, _ => simp [List.isPrefixOf]
theorem pre_short {t r : List UInt8} (ht : t.length = 2) (hr : r.length ≤ 1) : t.isPrefixOf r = false := by
  match t, r, ht, hr with
  | [x, x'], [], _, _ => rfl
  | [x, x'], [a], _, _ => simp [List.isPrefixOf]
theorem rsign_c (r : List UInt8) (h0 : r ≠ []) (hl : r.length ≤ 16384) : CallsA Tryz.prog Γ0 75 [c1 (ds (bs r))] (Ti (optN (signF r) : Nat)) := by
  have hsz := bs_size r
  obtain ⟨N, hN⟩ : ∃ N, optN (signF r) = N := ⟨_, rfl⟩
  rw [hN]
  have hpos := List.length_pos_iff.2 h0
  have two : ∀ q, q < 9 → (signsL.take 9)[q]? = some (signsL.getD q []) ∧ (signsL.getD q []).length = 2 ∧ signsL.drop q = signsL.getD q [] :: signsL.drop (q + 1) := by decide
  have one : ∀ q, q < 20 → ones[q]? = some (ones.getD q 0) ∧ signsL.drop (9 + q) = [ones.getD q 0] :: signsL.drop (9 + (q + 1)) := by decide
  have two' : ∀ t ∈ signsL.take 9, t.length = 2 := by decide
  have hshort : r.length ≤ 1 → signsL.find? (·.isPrefixOf r) = (signsL.drop 9).find? (·.isPrefixOf r) := fun h => by
    conv => lhs; rw [← List.take_append_drop 9 signsL]
    rw [List.find?_append, List.find?_eq_none.2 (fun t ht => by rw [pre_short (two' t ht) h]; decide), Option.none_or]
  have hE2 : (bs r).extract (Int.toNat 0) (Int.toNat 2) = bs (r.take 2) := ext_take r 2
  refine fn_rule (C := ⟨Tryz.prog, layF, Tryz.f75.ntmps, Γ0, 0, [], [7]⟩) layF_ok mixed Tryz.func75 rfl (by kernel_rfl) rfl rfl rfl ?_
  refine ex_join (X := Nat) (fun _ => ⟨[(0, Tstr (bs r))], [], 0⟩) (fun _ => optN ((signsL.drop 9).find? (·.isPrefixOf r)) = N) ?_ ?_
  · repeat' (first | refine tT ?_ | refine tF ?_ | refine ex_dec (fun _ => ?_) (fun _ => ?_) | refine t8 ?_ | refine tI ?_ | refine tU ?_ | refine tA ?_ | refine tB ?_ | refine tL ?_ | refine tN ?_ | fail "no step")
    refine ex_loop (X := Nat) (fun q => ⟨[(0, Tstr (bs r)), (3, .o (c1 (.sl 1 ((signsL.take 9).map fun t => [ds (bs t)])))), (4, Ti q)], [], 1⟩) (fun q => 9 - q) (fun q => q ≤ 9 ∧ (q = 0 ∨ 1 < r.length) ∧ optN ((signsL.drop q).find? (·.isPrefixOf r)) = N) 0 ⟨by decide, .inl rfl, hN⟩ (SLe.trans (SLe.of ⟨⟨rfl, rfl, rfl, trivial⟩, trivial⟩) (SLe.still 0 1 9 _ rfl)) ?_
    rintro q ⟨hq, hq1, hs⟩
    refine ex_is 9 rfl ?_
    refine ex_dec (fun h => ?_) (fun h => ?_)
    · have hql : q < 9 := by omega
      obtain ⟨hc, ht2, hdr⟩ := two q hql
      rw [hdr, List.find?_cons] at hs
      generalize signsL.getD q [] = t at *
      by_cases h1 : 1 < r.length
      · have hpt := pre_two ht2 h1
        refine ex_true (by omega) ?_
        refine ex_row q t rfl hc ?_
        rcases hp : t.isPrefixOf r with _ | _
        · rw [hp] at hs
          have hne : ¬ bs t = (bs r).extract (Int.toNat 0) (Int.toNat 2) := fun e => by
            rw [hE2] at e
            have := hpt.2 (bs_inj.1 e)
            rw [hp] at this
            cases this
          repeat' (first | refine ex_i64 ((q + 1 : Nat) : Int) (by omega) (by omega) (by omega) ?_ | refine ex_u64 ((q + 1 : Nat) : Int) (by omega) (by omega) (by omega) ?_ | refine ex_u8 ((q + 1 : Nat) : Int) (by omega) (by omega) (by omega) ?_ | refine tT ?_ | refine tF ?_ | refine ex_dec (fun _ => ?_) (fun _ => ?_) | refine t8 ?_ | refine tI ?_ | refine tU ?_ | refine tA ?_ | refine tB ?_ | refine tL ?_ | refine tN ?_ | fail "no step")
          exact ex_round (q + 1) ⟨by omega, .inr h1, hs⟩ (by show _ - _ < _ - _; omega) (SLe.of ⟨⟨rfl, rfl, rfl, trivial⟩, trivial⟩)
        · rw [hp] at hs
          have heq : bs t = (bs r).extract (Int.toNat 0) (Int.toNat 2) := by rw [hE2]; exact bs_inj.2 (hpt.1 hp)
          have hs2 : N = 2 := by rw [← hs, ← ht2]; rfl
          subst hs2
          repeat' (first | refine tT ?_ | refine tF ?_ | refine ex_dec (fun _ => ?_) (fun _ => ?_) | refine t8 ?_ | refine tI ?_ | refine tU ?_ | refine tA ?_ | refine tB ?_ | refine tL ?_ | refine tN ?_ | fail "no step")
          exact TLe.rfl
      · refine ex_false (by omega) ?_
        have hq0 : q = 0 := by omega
        subst hq0
        have hs' : optN ((signsL.drop 9).find? (·.isPrefixOf r)) = N := by rw [← hshort (by omega)]; exact hN
        exact ex_meet 0 hs' (SLe.of ⟨⟨rfl, trivial⟩, trivial⟩)
    · have hq9 : q = 9 := by omega
      subst hq9
      exact ex_meet 0 hs (SLe.of ⟨⟨rfl, trivial⟩, trivial⟩)
  · rintro - hq
    repeat' (first | refine tT ?_ | refine tF ?_ | refine ex_dec (fun _ => ?_) (fun _ => ?_) | refine t8 ?_ | refine tI ?_ | refine tU ?_ | refine tA ?_ | refine tB ?_ | refine tL ?_ | refine tN ?_ | fail "no step")
    refine ex_loop (X := Nat) (fun q => ⟨[(0, Tstr (bs r)), (5, Tstr (bs ones)), (6, Ti q)], [], 0⟩) (fun q => 20 - q) (fun q => q ≤ 20 ∧ optN ((signsL.drop (9 + q)).find? (·.isPrefixOf r)) = N) 0 ⟨by decide, hq⟩ (SLe.of ⟨⟨rfl, rfl, rfl, trivial⟩, trivial⟩) ?_
    rintro q ⟨hq, hs⟩
    have hos : (bs ones).size = 20 := rfl
    refine ex_dec (fun h => ?_) (fun h => ?_)
    · have hql : q < 20 := by omega
      obtain ⟨hc, hdr⟩ := one q hql
      rw [hdr, List.find?_cons] at hs
      generalize ones.getD q 0 = c at *
      obtain ⟨a, y, rfl⟩ : ∃ a y, r = a :: y := by rcases r with _ | ⟨a, y⟩; exact absurd rfl h0; exact ⟨a, y, rfl⟩
      have ha : (bs (a :: y)).data.toList[0]? = some a := rfl
      have hpe : [c].isPrefixOf (a :: y) = decide ((c.toNat : Int) = (a.toNat : Int)) := Bool.eq_iff_iff.2 (by
        rw [decide_eq_true_eq]
        show (c == a && true) = true ↔ _
        rw [Bool.and_true, beq_iff_eq]
        exact ⟨fun e => by rw [e], fun e => UInt8.toNat_inj.1 (Int.ofNat_inj.1 e)⟩)
      rw [hpe] at hs
      refine ex_chr q c rfl hc ?_
      refine ex_chr 0 a rfl ha ?_
      refine ex_dec (fun h2 => ?_) (fun h2 => ?_)
      · rw [decide_eq_true h2] at hs
        have hs2 : N = 1 := hs.symm
        subst hs2
        repeat' (first | refine tT ?_ | refine tF ?_ | refine ex_dec (fun _ => ?_) (fun _ => ?_) | refine t8 ?_ | refine tI ?_ | refine tU ?_ | refine tA ?_ | refine tB ?_ | refine tL ?_ | refine tN ?_ | fail "no step")
        exact TLe.rfl
      · rw [decide_eq_false h2] at hs
        repeat' (first | refine ex_i64 ((q + 1 : Nat) : Int) (by omega) (by omega) (by omega) ?_ | refine ex_u64 ((q + 1 : Nat) : Int) (by omega) (by omega) (by omega) ?_ | refine ex_u8 ((q + 1 : Nat) : Int) (by omega) (by omega) (by omega) ?_ | refine tT ?_ | refine tF ?_ | refine ex_dec (fun _ => ?_) (fun _ => ?_) | refine t8 ?_ | refine tI ?_ | refine tU ?_ | refine tA ?_ | refine tB ?_ | refine tL ?_ | refine tN ?_ | fail "no step")
        exact ex_round (q + 1) ⟨by omega, hs⟩ (by show _ - _ < _ - _; omega) (SLe.of ⟨⟨rfl, rfl, rfl, trivial⟩, trivial⟩)
    · have hq9 : q = 20 := by omega
      subst hq9
      have hs2 : N = 0 := hs.symm
      subst hs2
      exact TLe.rfl
end Go.Proofs.YtkbhmcdoedmffaaGreatDoor

namespace Go.Proofs.YtkbhmcdoedmffaaGreatDoor
open Go.RowKit

theorem tw_get {α} (p : α → Bool) : ∀ (l : List α) (q : Nat) (c : α), l[q]? = some c → q ≤ (l.takeWhile p).length → (q < (l.takeWhile p).length ↔ p c = true)
  | [], q, c, h, _ => by cases h
  | a :: l, 0, c, h, _ => by
    cases h
    rw [List.takeWhile_cons]
    split
    · rename_i h; simp [h]
    · rename_i h; simp [h]
  | a :: l, q + 1, c, h, hq => by
    rw [List.takeWhile_cons] at hq ⊢
    split at hq
    · rename_i ha
      rw [if_pos ha]
      have := tw_get p l q c h (by simpa using hq)
      simp [this]
    · exact absurd hq (by simp)
set_option maxHeartbeats 2000000 in
theorem rone_c (r : List UInt8) (h0 : r ≠ []) (hl : r.length ≤ 16384) : CallsA Tryz.prog Γ0 53 [c1 (ds (bs r))] (tvT (tokF r)) := by
  have hsz := bs_size r
  obtain ⟨T, hT⟩ : ∃ T, (r.takeWhile alnum).length = T := ⟨_, rfl⟩
  have hdl := drop_len alnum r
  have htl := take_len alnum r
  have htw := tw_get alnum r
  rw [hT] at htw hdl htl
  have hE := ext_take r T
  rw [htl] at hE
  refine fn_rule (C := ⟨Tryz.prog, layF, Tryz.f53.ntmps, Γ0, 0, [], [7]⟩) layF_ok mixed Tryz.func53 rfl (by kernel_rfl) rfl rfl rfl ?_
  refine ex_join (X := Nat) (fun q => ⟨[(0, Tstr (bs r)), (2, .o (.c (.ptr 0 0))), (4, Ti q)], [(0, .obj [.d (di 0), .d (ds (bs [])), .d (du 0), .d (di 0), .d (di 0)])], 1⟩) (fun q => q = T) ?_ ?_
  · repeat' (first | refine tT ?_ | refine tF ?_ | refine ex_dec (fun _ => ?_) (fun _ => ?_) | refine t8 ?_ | refine tI ?_ | refine tU ?_ | refine tA ?_ | refine tB ?_ | refine tL ?_ | refine tN ?_ | fail "no step")
    refine ex_loop (X := Nat) (fun q => ⟨[(0, Tstr (bs r)), (2, .o (.c (.ptr 0 0))), (4, Ti q)], [(0, .obj [.d (di 0), .d (ds (bs [])), .d (du 0), .d (di 0), .d (di 0)])], 1⟩) (fun q => T - q) (fun q => q ≤ T) 0 (Nat.zero_le _) (SLe.of ⟨⟨rfl, rfl, rfl, trivial⟩, ⟨rfl, trivial⟩⟩) ?_
    intro q hq
    refine ex_dec (fun h => ?_) (fun h => ?_)
    · have hql : q < r.length := by omega
      have hc : r[q]? = some r[q] := at_some hql
      have hw := htw q _ hc hq
      generalize r[q] = c at *
      have hdg := rdigit_c c
      have hlt := rletter_c c
      unfold alnum at hw
      rcases hD : isDig c with _ | _ <;> rw [hD] at hdg hw <;> rcases hL : isLet c with _ | _ <;> rw [hL] at hlt hw <;> simp at hw
      · repeat' (first | refine ex_call hlt ?_ | refine ex_call hdg ?_ | refine (ex_chr q c rfl hc) ?_ | refine tT ?_ | refine tF ?_ | refine ex_dec (fun _ => ?_) (fun _ => ?_) | refine t8 ?_ | refine tI ?_ | refine tU ?_ | refine tA ?_ | refine tB ?_ | refine tL ?_ | refine tN ?_ | fail "no step")
        exact ex_meet q (by omega) (SLe.of ⟨⟨rfl, rfl, rfl, trivial⟩, ⟨rfl, trivial⟩⟩)
      all_goals
        repeat' (first | refine ex_call hlt ?_ | refine ex_call hdg ?_ | refine ex_i64 ((q + 1 : Nat) : Int) (by omega) (by omega) (by omega) ?_ | refine ex_u64 ((q + 1 : Nat) : Int) (by omega) (by omega) (by omega) ?_ | refine ex_u8 ((q + 1 : Nat) : Int) (by omega) (by omega) (by omega) ?_ | refine (ex_chr q c rfl hc) ?_ | refine tT ?_ | refine tF ?_ | refine ex_dec (fun _ => ?_) (fun _ => ?_) | refine t8 ?_ | refine tI ?_ | refine tU ?_ | refine tA ?_ | refine tB ?_ | refine tL ?_ | refine tN ?_ | fail "no step")
        exact ex_round (q + 1) (by show q + 1 ≤ T; omega) (by show T - _ < T - _; omega) (SLe.of ⟨⟨rfl, rfl, rfl, trivial⟩, ⟨rfl, trivial⟩⟩)
    · exact ex_meet q (by omega) (SLe.of ⟨⟨rfl, rfl, rfl, trivial⟩, ⟨rfl, trivial⟩⟩)
  · intro q hq
    subst hq
    unfold tokF
    rcases hw : r.takeWhile alnum with _ | ⟨b, w⟩ <;> rw [hw] at hT
    · have hT0 : q = 0 := hT.symm
      subst hT0
      have hs := rsign_c r h0 hl
      dsimp only
      rcases hsg : signF r with _ | t <;> rw [hsg] at hs
      · have hs : CallsA Tryz.prog Γ0 75 [c1 (ds (bs r))] (Ti 0) := hs
        repeat' (first | refine ex_call hs ?_ | refine tT ?_ | refine tF ?_ | refine ex_dec (fun _ => ?_) (fun _ => ?_) | refine t8 ?_ | refine tI ?_ | refine tU ?_ | refine tA ?_ | refine tB ?_ | refine tL ?_ | refine tN ?_ | fail "no step")
        exact TLe.rfl
      · obtain ⟨hm, X, hX⟩ := signF_mem hsg
        have hl2 := signs_len t hm
        have hs : CallsA Tryz.prog Γ0 75 [c1 (ds (bs r))] (Ti (t.length : Nat)) := hs
        have hr2 : t.length ≤ r.length := by rw [hX, List.length_append]; omega
        have hE2 := ext_take r t.length
        rw [show r.take t.length = t by rw [hX, List.take_left]] at hE2
        repeat' (first | refine ex_call hs ?_ | refine tT ?_ | refine tF ?_ | refine ex_dec (fun _ => ?_) (fun _ => ?_) | refine t8 ?_ | refine tI ?_ | refine tU ?_ | refine tA ?_ | refine tB ?_ | refine tL ?_ | refine tN ?_ | fail "no step")
        rw [hE2]
        exact TLe.rfl
    · rw [hw] at hE
      have hpos : 0 < q := by rw [← hT]; simp
      have hb0 : r[0]? = some b := by
        obtain ⟨X, hX, -⟩ := takeWhile_split alnum r
        rw [hX, hw]; rfl
      have hdg := rdigit_c b
      have hN := rnumber_c (b :: w) (by omega) (by simp)
      dsimp only
      rcases hD : isDig b with _ | _ <;> rw [hD] at hdg
      · generalize b :: w = y at *
        by_cases h32 : y.length ≤ 32
        · rw [if_neg (by decide), if_pos h32]
          repeat' (first | refine ex_call hdg ?_ | refine (ex_chr 0 b rfl hb0) ?_ | refine tT ?_ | refine tF ?_ | refine ex_dec (fun _ => ?_) (fun _ => ?_) | refine t8 ?_ | refine tI ?_ | refine tU ?_ | refine tA ?_ | refine tB ?_ | refine tL ?_ | refine tN ?_ | fail "no step")
          rw [hE]
          exact TLe.rfl
        · rw [if_neg (by decide), if_neg h32]
          repeat' (first | refine ex_call hdg ?_ | refine (ex_chr 0 b rfl hb0) ?_ | refine tT ?_ | refine tF ?_ | refine ex_dec (fun _ => ?_) (fun _ => ?_) | refine t8 ?_ | refine tI ?_ | refine tU ?_ | refine tA ?_ | refine tB ?_ | refine tL ?_ | refine tN ?_ | fail "no step")
          exact TLe.rfl
      · rw [if_pos rfl]
        generalize b :: w = y at *
        rcases hn : numF y with ⟨k, t, n⟩ | e <;> rw [hn] at hN
        · repeat' (first | refine ex_call hdg ?_ | refine (ex_chr 0 b rfl hb0) ?_ | refine tT ?_ | refine tF ?_ | refine ex_dec (fun _ => ?_) (fun _ => ?_) | refine t8 ?_ | refine tI ?_ | refine tU ?_ | refine tA ?_ | refine tB ?_ | refine tL ?_ | refine tN ?_ | fail "no step")
          rw [hE]
          repeat' (first | refine ex_call hN ?_ | refine tT ?_ | refine tF ?_ | refine ex_dec (fun _ => ?_) (fun _ => ?_) | refine t8 ?_ | refine tI ?_ | refine tU ?_ | refine tA ?_ | refine tB ?_ | refine tL ?_ | refine tN ?_ | fail "no step")
          exact TLe.rfl
        · repeat' (first | refine ex_call hdg ?_ | refine (ex_chr 0 b rfl hb0) ?_ | refine tT ?_ | refine tF ?_ | refine ex_dec (fun _ => ?_) (fun _ => ?_) | refine t8 ?_ | refine tI ?_ | refine tU ?_ | refine tA ?_ | refine tB ?_ | refine tL ?_ | refine tN ?_ | fail "no step")
          rw [hE]
          repeat' (first | refine ex_call hN ?_ | refine tT ?_ | refine tF ?_ | refine ex_dec (fun _ => ?_) (fun _ => ?_) | refine t8 ?_ | refine tI ?_ | refine tU ?_ | refine tA ?_ | refine tB ?_ | refine tL ?_ | refine tN ?_ | fail "no step")
          exact TLe.rfl
end Go.Proofs.YtkbhmcdoedmffaaGreatDoor

namespace Go.Proofs.YtkbhmcdoedmffaaGreatDoor
open Go.RowKit

theorem u8_int {b : UInt8} (n : Nat) (hn : n < 256) : ((b.toNat : Nat) : Int) = (n : Int) ↔ b = UInt8.ofNat n := by
  constructor
  · intro h
    have : b.toNat = n := by omega
    rw [← this]; simp
  · rintro rfl
    rw [UInt8.toNat_ofNat']
    omega
theorem isCom_cons (b c : UInt8) (y : List UInt8) : isCom (b :: c :: y) = (decide (((b.toNat : Nat) : Int) = 47) && decide (((c.toNat : Nat) : Int) = 47)) := by
  have e : ∀ x : UInt8, (47 == x) = decide (((x.toNat : Nat) : Int) = 47) := fun x => Bool.eq_iff_iff.2 (by
    rw [beq_iff_eq, decide_eq_true_eq]
    exact ⟨fun e => by rw [← e]; rfl, fun e => (UInt8.toNat_inj.1 (Int.ofNat_inj.1 e)).symm⟩)
  show (47 == b && (47 == c && true)) = _
  rw [e, e, Bool.and_true]
set_option maxHeartbeats 4000000 in
theorem rlex_c (s : List UInt8) : CallsA Tryz.prog Γ0 25 [c1 (ds (bs s))] (lexT (lexV s)) := by
  have hsz := bs_size s
  unfold lexV
  by_cases hs : s.length ≤ 16384
  · rw [if_pos hs]
    obtain ⟨R, hR⟩ : ∃ R, lexF s 1 1 = R := ⟨_, rfl⟩
    rw [hR]
    refine fn_rule (C := ⟨Tryz.prog, layF, Tryz.f25.ntmps, Γ0, 0, [], []⟩) layF_ok mixed Tryz.func25 rfl (by kernel_rfl) rfl rfl rfl ?_
    repeat' (first | refine tT ?_ | refine tF ?_ | refine ex_dec (fun _ => ?_) (fun _ => ?_) | refine t8 ?_ | refine tI ?_ | refine tU ?_ | refine tA ?_ | refine tB ?_ | refine tL ?_ | refine tN ?_ | fail "no step")
    refine ex_loop (X := Nat × Nat × Nat × List TokP) (fun ⟨i, u, v, o⟩ => ⟨[(0, Tstr (bs s)), (3, .o (.c (.ptr 0 0))), (5, .o (.c (.row 1))), (6, Ti u), (7, Ti v), (8, Ti i)], [(0, Pz), (1, .row 5 105 (o.map tokD))], 2⟩) (fun x => s.length - x.1)
      (fun ⟨i, u, v, o⟩ => i ≤ s.length ∧ Bd (u, v) (s.length - i) ∧ o.length ≤ i ∧ (lexF (s.drop i) u v).pre o = R) (0, 1, 1, []) ⟨Nat.zero_le _, ⟨by decide, by decide, by show 1 + _ ≤ _; omega, by show 1 + _ ≤ _; omega⟩, Nat.le_refl _, by rw [List.drop_zero, hR]; cases R <;> rfl⟩ (SLe.trans (SLe.of ⟨⟨rfl, rfl, rfl, rfl, rfl, rfl, trivial⟩, ⟨rfl, rfl, trivial⟩⟩) (SLe.own 5 1 5 105 rfl rfl rfl rfl rfl)) ?_
    rintro ⟨i, u, v, o⟩ ⟨hi, ⟨hb1, hb2, hb3, hb4⟩, hol, hs2⟩
    dsimp only at hb1 hb2 hb3 hb4
    refine ex_dec (fun h => ?_) (fun h => ?_)
    · have hil : i < s.length := by omega
      have hc : s[i]? = some s[i] := at_some hil
      have hdr : s.drop i = s[i] :: s.drop (i + 1) := List.drop_eq_getElem_cons hil
      rw [hdr] at hs2
      generalize s[i] = b at *
      by_cases h10 : (b.toNat : Int) = 10
      · have hb : b = 10 := (u8_int 10 (by decide)).1 h10
        rw [hb, lexF_eq] at hs2
        repeat' (first | refine ex_i64 ((i + 1 : Nat) : Int) (by omega) (by omega) (by omega) ?_ | refine ex_u64 ((i + 1 : Nat) : Int) (by omega) (by omega) (by omega) ?_ | refine ex_u8 ((i + 1 : Nat) : Int) (by omega) (by omega) (by omega) ?_ | refine ex_i64 ((u + 1 : Nat) : Int) (by omega) (by omega) (by omega) ?_ | refine ex_u64 ((u + 1 : Nat) : Int) (by omega) (by omega) (by omega) ?_ | refine ex_u8 ((u + 1 : Nat) : Int) (by omega) (by omega) (by omega) ?_ | refine (ex_chr i b rfl hc) ?_ | refine tT ?_ | refine tF ?_ | refine ex_dec (fun _ => ?_) (fun _ => ?_) | refine t8 ?_ | refine tI ?_ | refine tU ?_ | refine tA ?_ | refine tB ?_ | refine tL ?_ | refine tN ?_ | fail "no step")
        exact ex_round (i + 1, u + 1, 1, o) ⟨by omega, ⟨by show 1 ≤ u + 1; omega, Nat.le_refl 1, by show u + 1 + _ ≤ _; omega, by show 1 + _ ≤ _; omega⟩, by omega, hs2⟩ (by show _ - _ < _ - _; omega) (SLe.of ⟨⟨rfl, rfl, rfl, rfl, rfl, rfl, trivial⟩, ⟨rfl, rfl, trivial⟩⟩)
      have n10 : b ≠ 10 := fun e => h10 ((u8_int 10 (by decide)).2 e)
      by_cases hbl : (b.toNat : Int) = 32 ∨ (b.toNat : Int) = 9 ∨ (b.toNat : Int) = 13
      · have hb : b = 32 ∨ b = 9 ∨ b = 13 := by
          rcases hbl with h | h | h
          · exact .inl ((u8_int 32 (by decide)).1 h)
          · exact .inr (.inl ((u8_int 9 (by decide)).1 h))
          · exact .inr (.inr ((u8_int 13 (by decide)).1 h))
        rw [lexF_eq, show stp (b :: s.drop (i + 1)) u v = .go (s.drop (i + 1)) u (v + 1) by unfold stp; dsimp only; rw [if_neg n10, if_pos hb]] at hs2
        repeat' (first | refine ex_i64 ((i + 1 : Nat) : Int) (by omega) (by omega) (by omega) ?_ | refine ex_u64 ((i + 1 : Nat) : Int) (by omega) (by omega) (by omega) ?_ | refine ex_u8 ((i + 1 : Nat) : Int) (by omega) (by omega) (by omega) ?_ | refine ex_i64 ((v + 1 : Nat) : Int) (by omega) (by omega) (by omega) ?_ | refine ex_u64 ((v + 1 : Nat) : Int) (by omega) (by omega) (by omega) ?_ | refine ex_u8 ((v + 1 : Nat) : Int) (by omega) (by omega) (by omega) ?_ | refine (ex_chr i b rfl hc) ?_ | refine tT ?_ | refine tF ?_ | refine ex_dec (fun _ => ?_) (fun _ => ?_) | refine t8 ?_ | refine tI ?_ | refine tU ?_ | refine tA ?_ | refine tB ?_ | refine tL ?_ | refine tN ?_ | fail "no step")
        all_goals exact ex_round (i + 1, u, v + 1, o) ⟨by omega, ⟨hb1, by show 1 ≤ v + 1; omega, by show u + _ ≤ _; omega, by show v + 1 + _ ≤ _; omega⟩, by omega, hs2⟩ (by show _ - _ < _ - _; omega) (SLe.of ⟨⟨rfl, rfl, rfl, rfl, rfl, rfl, trivial⟩, ⟨rfl, rfl, trivial⟩⟩)
      have nbl : ¬ (b = 32 ∨ b = 9 ∨ b = 13) := by
        rintro (e | e | e)
        · exact hbl (.inl ((u8_int 32 (by decide)).2 e))
        · exact hbl (.inr (.inl ((u8_int 9 (by decide)).2 e)))
        · exact hbl (.inr (.inr ((u8_int 13 (by decide)).2 e)))
      have n32 : ¬ (b.toNat : Int) = 32 := fun e => hbl (.inl e)
      have n9 : ¬ (b.toNat : Int) = 9 := fun e => hbl (.inr (.inl e))
      have n13 : ¬ (b.toNat : Int) = 13 := fun e => hbl (.inr (.inr e))
      have hx0 : b :: s.drop (i + 1) ≠ [] := by simp
      have hxl : (b :: s.drop (i + 1)).length = s.length - i := by rw [← hdr, List.length_drop]
      have hnb : ∀ d, (b :: s.drop (i + 1))[0]? = some d → blank d = false := fun d hd => by
        cases hd
        rcases hh : blank b with _ | _
        · rfl
        · simp [blank, n10] at hh; rcases hh with hh | hh | hh <;> simp [hh] at nbl
      have ht := rone_c (b :: s.drop (i + 1)) hx0 (by omega)
      have hE := ext_drop s i hi
      rw [hdr] at hE
      have tokC : isCom (b :: s.drop (i + 1)) = false → ∀ {k : Nat} {t : List UInt8} {n : Nat}, tokF (b :: s.drop (i + 1)) = .ok k t n → i + t.length ≤ s.length ∧ 0 < t.length ∧ (lexF (s.drop (i + t.length)) u (v + t.length)).pre (o ++ [⟨k, t, n, u, v⟩]) = R := by
        intro hcm k t n hk
        rw [lexF_tok u v hx0 hnb hcm, hk] at hs2
        obtain ⟨⟨X, hX⟩, ht0, -, -⟩ := tokF_ok hk
        have hpos : 0 < t.length := List.length_pos_iff.2 ht0
        rw [hX, List.length_append] at hxl
        dsimp only at hs2
        rw [LR.pre_pre, ← hdr, List.drop_drop] at hs2
        exact ⟨by omega, hpos, hs2⟩
      have tokE : isCom (b :: s.drop (i + 1)) = false → ∀ {e : Nat}, tokF (b :: s.drop (i + 1)) = .err e → .err u v e = R := by
        intro hcm e hk
        rw [lexF_tok u v hx0 hnb hcm, hk] at hs2
        exact hs2
      have comC : isCom (b :: s.drop (i + 1)) = true → ∀ T, ((b :: s.drop (i + 1)).takeWhile notNl).length = T → i + T ≤ s.length ∧ 2 ≤ T ∧ (lexF (s.drop (i + T)) u (v + T)).pre o = R := by
        intro hcm T hT
        rw [lexF_com (u, v) hcm, skip_line _ _ _ (takeWhile_nl _), dropWhile_eq, hT, ← hdr, List.drop_drop] at hs2
        have h1 := drop_len notNl (b :: s.drop (i + 1))
        obtain ⟨Z, hZ⟩ := isCom_eq hcm
        refine ⟨by omega, ?_, hs2⟩
        rw [← hT, hZ, List.takeWhile_cons, if_pos (by decide), List.takeWhile_cons, if_pos (by decide)]
        simp
      rcases hcm : isCom (b :: s.drop (i + 1)) with _ | _
      · have hcase : ¬ (b.toNat : Int) = 47 ∨ ((b.toNat : Int) = 47 ∧ ¬ i + 1 < s.length) ∨ ((b.toNat : Int) = 47 ∧ i + 1 < s.length ∧ ∃ d : UInt8, s[i + 1]? = some d ∧ ¬ (d.toNat : Int) = 47) := by
          by_cases h47 : (b.toNat : Int) = 47
          · by_cases hi1 : i + 1 < s.length
            · refine .inr (.inr ⟨h47, hi1, s[i + 1], at_some hi1, fun hd => ?_⟩)
              rw [List.drop_eq_getElem_cons hi1, isCom_cons, decide_eq_true h47, decide_eq_true hd] at hcm
              cases hcm
            · exact .inr (.inl ⟨h47, hi1⟩)
          · exact .inl h47
        rcases hk : tokF (b :: s.drop (i + 1)) with ⟨k, t, n⟩ | e <;> rw [hk] at ht
        · obtain ⟨hTl, hpos, hs3⟩ := tokC hcm hk
          have hbt := bs_size t
          rcases hcase with h47 | ⟨h47, hi1⟩ | ⟨h47, hi1, d, hc2, hd⟩
          all_goals
            repeat' (first | refine ex_i64 ((i + 1 : Nat) : Int) (by omega) (by omega) (by omega) ?_ | refine ex_u64 ((i + 1 : Nat) : Int) (by omega) (by omega) (by omega) ?_ | refine ex_u8 ((i + 1 : Nat) : Int) (by omega) (by omega) (by omega) ?_ | refine (ex_chr (i + 1) _ rfl (by assumption)) ?_ | refine (ex_chr i b rfl hc) ?_ | refine tT ?_ | refine tF ?_ | refine ex_dec (fun _ => ?_) (fun _ => ?_) | refine t8 ?_ | refine tI ?_ | refine tU ?_ | refine tA ?_ | refine tB ?_ | refine tL ?_ | refine tN ?_ | fail "no step")
            rw [hE]
            repeat' (first | refine ex_call ht ?_ | refine tT ?_ | refine tF ?_ | refine ex_dec (fun _ => ?_) (fun _ => ?_) | refine t8 ?_ | refine tI ?_ | refine tU ?_ | refine tA ?_ | refine tB ?_ | refine tL ?_ | refine tN ?_ | fail "no step")
            refine ex_app (o.length) (1) 1000 (by first | rfl | (simp; done) | (simp; omega)) (by first | rfl | (simp; done) | (simp; omega)) rfl (by omega) ?_
            refine ex_is (List.map tokD (o ++ [(⟨k, t, n, u, v⟩ : TokP)])) (by rw [List.map_append]; rfl) ?_
            repeat' (first | refine ex_i64 ((v + t.length : Nat) : Int) (by omega) (by omega) (by omega) ?_ | refine ex_u64 ((v + t.length : Nat) : Int) (by omega) (by omega) (by omega) ?_ | refine ex_u8 ((v + t.length : Nat) : Int) (by omega) (by omega) (by omega) ?_ | refine ex_i64 ((i + t.length : Nat) : Int) (by omega) (by omega) (by omega) ?_ | refine ex_u64 ((i + t.length : Nat) : Int) (by omega) (by omega) (by omega) ?_ | refine ex_u8 ((i + t.length : Nat) : Int) (by omega) (by omega) (by omega) ?_ | refine tT ?_ | refine tF ?_ | refine ex_dec (fun _ => ?_) (fun _ => ?_) | refine t8 ?_ | refine tI ?_ | refine tU ?_ | refine tA ?_ | refine tB ?_ | refine tL ?_ | refine tN ?_ | fail "no step")
            exact ex_round (i + t.length, u, v + t.length, o ++ [⟨k, t, n, u, v⟩]) ⟨hTl, ⟨hb1, by show 1 ≤ v + _; omega, by show u + _ ≤ _; omega, by show v + _ + _ ≤ _; omega⟩, by show (o ++ [_]).length ≤ _; rw [List.length_append, List.length_cons, List.length_nil]; omega, hs3⟩ (by show _ - _ < _ - _; omega) (SLe.ren [(0, 0), (4, 1)] ⟨⟨rfl, rfl⟩, ⟨rfl, rfl⟩, ⟨rfl, rfl⟩, ⟨rfl, rfl⟩, ⟨rfl, rfl⟩, ⟨rfl, rfl⟩, trivial⟩ ⟨⟨rfl, rfl⟩, ⟨rfl, rfl⟩, trivial⟩ rfl)
        · have he := tokF_err hk
          have hs3 := tokE hcm hk
          subst hs3
          rcases hcase with h47 | ⟨h47, hi1⟩ | ⟨h47, hi1, d, hc2, hd⟩
          all_goals
            repeat' (first | refine ex_i64 ((i + 1 : Nat) : Int) (by omega) (by omega) (by omega) ?_ | refine ex_u64 ((i + 1 : Nat) : Int) (by omega) (by omega) (by omega) ?_ | refine ex_u8 ((i + 1 : Nat) : Int) (by omega) (by omega) (by omega) ?_ | refine (ex_chr (i + 1) _ rfl (by assumption)) ?_ | refine (ex_chr i b rfl hc) ?_ | refine tT ?_ | refine tF ?_ | refine ex_dec (fun _ => ?_) (fun _ => ?_) | refine t8 ?_ | refine tI ?_ | refine tU ?_ | refine tA ?_ | refine tB ?_ | refine tL ?_ | refine tN ?_ | fail "no step")
            rw [hE]
            repeat' (first | refine ex_call ht ?_ | refine tT ?_ | refine tF ?_ | refine ex_dec (fun _ => ?_) (fun _ => ?_) | refine t8 ?_ | refine tI ?_ | refine tU ?_ | refine tA ?_ | refine tB ?_ | refine tL ?_ | refine tN ?_ | fail "no step")
            exact TLe.nilc
      · obtain ⟨Z, hZ⟩ := isCom_eq hcm
        have hb47 : b = 47 := by injection hZ
        have h47 : (b.toNat : Int) = 47 := (u8_int 47 (by decide)).2 hb47
        have hcm2 := hcm
        have hi1 : i + 1 < s.length := by
          rw [hZ] at hxl
          simp at hxl
          omega
        have hc2 : s[i + 1]? = some s[i + 1] := at_some hi1
        have hcc : isCom (b :: s.drop (i + 1)) = decide ((s[i + 1].toNat : Int) = 47) := by
          rw [List.drop_eq_getElem_cons hi1, isCom_cons, decide_eq_true h47, Bool.true_and]
        generalize s[i + 1] = d at *
        have hd : (d.toNat : Int) = 47 := by rw [hcm] at hcc; exact of_decide_eq_true hcc.symm
        obtain ⟨T, hT⟩ : ∃ T, ((b :: s.drop (i + 1)).takeWhile notNl).length = T := ⟨_, rfl⟩
        obtain ⟨hTl, hT2, hs3⟩ := comC hcm T hT
        have htw := tw_get notNl (b :: s.drop (i + 1))
        rw [hT, ← hdr] at htw
        repeat' (first | refine ex_i64 ((i + 1 : Nat) : Int) (by omega) (by omega) (by omega) ?_ | refine ex_u64 ((i + 1 : Nat) : Int) (by omega) (by omega) (by omega) ?_ | refine ex_u8 ((i + 1 : Nat) : Int) (by omega) (by omega) (by omega) ?_ | refine (ex_chr (i + 1) d rfl hc2) ?_ | refine (ex_chr i b rfl hc) ?_ | refine tT ?_ | refine tF ?_ | refine ex_dec (fun _ => ?_) (fun _ => ?_) | refine t8 ?_ | refine tI ?_ | refine tU ?_ | refine tA ?_ | refine tB ?_ | refine tL ?_ | refine tN ?_ | fail "no step")
        refine ex_loop (X := Nat) (fun k => ⟨[(0, Tstr (bs s)), (3, .o (.c (.ptr 0 0))), (5, .o (.c (.row 1))), (6, Ti u), (7, Ti (v + k : Nat)), (8, Ti (i + k : Nat))], [(0, Pz), (1, .row 5 105 (o.map tokD))], 2⟩) (fun k => T - k) (fun k => k ≤ T) 0 (Nat.zero_le _) (SLe.of ⟨⟨rfl, rfl, rfl, rfl, rfl, rfl, trivial⟩, ⟨rfl, rfl, trivial⟩⟩) ?_
        intro k hk
        by_cases hkl : i + k < s.length
        · have hc3 : s[i + k]? = some s[i + k] := at_some hkl
          have hw := htw k s[i + k] (by rw [List.getElem?_drop]; exact hc3) hk
          generalize s[i + k] = z at *
          by_cases hz : (z.toNat : Int) = 10
          · have hkT : k = T := by
              have : notNl z = false := by rw [(u8_int 10 (by decide)).1 hz]; rfl
              rw [this] at hw
              simp at hw
              omega
            subst hkT
            repeat' (first | refine (ex_chr (i + k) z rfl hc3) ?_ | refine tT ?_ | refine tF ?_ | refine ex_dec (fun _ => ?_) (fun _ => ?_) | refine t8 ?_ | refine tI ?_ | refine tU ?_ | refine tA ?_ | refine tB ?_ | refine tL ?_ | refine tN ?_ | fail "no step")
            exact ex_round (i + k, u, v + k, o) ⟨hTl, ⟨hb1, by show 1 ≤ v + k; omega, by show u + _ ≤ _; omega, by show v + k + _ ≤ _; omega⟩, by omega, hs3⟩ (by show _ - _ < _ - _; omega) (SLe.of ⟨⟨rfl, rfl, rfl, rfl, rfl, rfl, trivial⟩, ⟨rfl, rfl, trivial⟩⟩)
          · have hkT : k < T := hw.2 (by
              rcases hh : notNl z with _ | _
              · exact absurd ((u8_int 10 (by decide)).2 (by unfold notNl at hh; simpa using hh)) hz
              · rfl)
            repeat' (first | refine ex_i64 ((v + (k + 1) : Nat) : Int) (by omega) (by omega) (by omega) ?_ | refine ex_u64 ((v + (k + 1) : Nat) : Int) (by omega) (by omega) (by omega) ?_ | refine ex_u8 ((v + (k + 1) : Nat) : Int) (by omega) (by omega) (by omega) ?_ | refine ex_i64 ((i + (k + 1) : Nat) : Int) (by omega) (by omega) (by omega) ?_ | refine ex_u64 ((i + (k + 1) : Nat) : Int) (by omega) (by omega) (by omega) ?_ | refine ex_u8 ((i + (k + 1) : Nat) : Int) (by omega) (by omega) (by omega) ?_ | refine (ex_chr (i + k) z rfl hc3) ?_ | refine tT ?_ | refine tF ?_ | refine ex_dec (fun _ => ?_) (fun _ => ?_) | refine t8 ?_ | refine tI ?_ | refine tU ?_ | refine tA ?_ | refine tB ?_ | refine tL ?_ | refine tN ?_ | fail "no step")
            exact ex_round (k + 1) (by show k + 1 ≤ T; omega) (by show T - _ < T - _; omega) (SLe.of ⟨⟨rfl, rfl, rfl, rfl, rfl, rfl, trivial⟩, ⟨rfl, rfl, trivial⟩⟩)
        · have hkT : k = T := by omega
          subst hkT
          repeat' (first | refine tT ?_ | refine tF ?_ | refine ex_dec (fun _ => ?_) (fun _ => ?_) | refine t8 ?_ | refine tI ?_ | refine tU ?_ | refine tA ?_ | refine tB ?_ | refine tL ?_ | refine tN ?_ | fail "no step")
          exact ex_round (i + k, u, v + k, o) ⟨hTl, ⟨hb1, by show 1 ≤ v + k; omega, by show u + _ ≤ _; omega, by show v + k + _ ≤ _; omega⟩, by omega, hs3⟩ (by show _ - _ < _ - _; omega) (SLe.of ⟨⟨rfl, rfl, rfl, rfl, rfl, rfl, trivial⟩, ⟨rfl, rfl, trivial⟩⟩)
    · have hil : i = s.length := by omega
      subst hil
      rw [List.drop_length, lexF_nil] at hs2
      subst hs2
      repeat' (first | refine tT ?_ | refine tF ?_ | refine ex_dec (fun _ => ?_) (fun _ => ?_) | refine t8 ?_ | refine tI ?_ | refine tU ?_ | refine tA ?_ | refine tB ?_ | refine tL ?_ | refine tN ?_ | fail "no step")
      refine ex_app (o.length) (1) 1000 (by first | rfl | (simp; done) | (simp; omega)) (by first | rfl | (simp; done) | (simp; omega)) rfl (by omega) ?_
      refine ex_is (List.map tokD (o ++ [(⟨3, [], 0, u, v⟩ : TokP)])) (by rw [List.map_append]; rfl) ?_
      repeat' (first | refine tT ?_ | refine tF ?_ | refine ex_dec (fun _ => ?_) (fun _ => ?_) | refine t8 ?_ | refine tI ?_ | refine tU ?_ | refine tA ?_ | refine tB ?_ | refine tL ?_ | refine tN ?_ | fail "no step")
      exact TLe.rfl
  · rw [if_neg hs]
    refine fn_rule (C := ⟨Tryz.prog, layF, Tryz.f25.ntmps, Γ0, 0, [], []⟩) layF_ok mixed Tryz.func25 rfl (by kernel_rfl) rfl rfl rfl ?_
    repeat' (first | refine tT ?_ | refine tF ?_ | refine ex_dec (fun _ => ?_) (fun _ => ?_) | refine t8 ?_ | refine tI ?_ | refine tU ?_ | refine tA ?_ | refine tB ?_ | refine tL ?_ | refine tN ?_ | fail "no step")
    exact TLe.nilc
end Go.Proofs.YtkbhmcdoedmffaaGreatDoor

namespace Go.Proofs.YtkbhmcdoedmffaaGreatDoor
open Go.RowKit

theorem valF_lt {base : Nat} : ∀ (l : List UInt8) (n m : Nat), n < 18446744073709551616 → valF base n l = some m → m < 18446744073709551616
  | [], n, m, h, e => by rw [valF] at e; injection e with e; omega
  | b :: r, n, m, h, e => by
    rw [valF] at e
    split at e
    · exact valF_lt r _ m (by assumption) e
    · cases e
theorem numR_lt {s t : List UInt8} {o : Option Nat} {k n : Nat} (ho : ∀ m, o = some m → m < 18446744073709551616) (h : numR s o = .ok k t n) : n < 18446744073709551616 := by
  cases o with
  | none => cases h
  | some m => cases h; exact ho _ rfl
theorem tokF_lt {r t : List UInt8} {k n : Nat} (h : tokF r = .ok k t n) : n < 18446744073709551616 := by
  unfold tokF at h
  split at h
  · split at h
    · cases h
    · cases h; decide
  · split at h
    · unfold numF at h
      split at h
      · exact numR_lt (fun m hm => valF_lt _ 0 m (by decide) hm) h
      · split at h
        · exact numR_lt (fun m hm => valF_lt _ 0 m (by decide) hm) h
        · cases h
    · split at h
      · cases h; decide
      · cases h
theorem lexV_tk {s : List UInt8} {L : List TokP} (h : lexV s = .ok L) (i : Nat) : ((tk L i).k < 3 ∧ (tk L i).n < 18446744073709551616) ∨ ((tk L i).t = [] ∧ (tk L i).n = 0) := by
  obtain ⟨_, _, _, us, l, c, rfl, hg, _⟩ := lexV_good h
  by_cases hi : i < us.length
  · left
    have e : tk (us ++ [(⟨3, [], 0, l, c⟩ : TokP)]) i = us[i] := by unfold tk; rw [List.getD_eq_getElem?_getD, List.getElem?_append_left hi, List.getElem?_eq_getElem hi]; rfl
    rw [e]
    obtain ⟨h1, _, r, h2⟩ := hg us[i] (List.getElem_mem hi)
    exact ⟨h1, tokF_lt h2⟩
  · right
    unfold tk
    rw [List.getD_eq_getElem?_getD, List.getElem?_append_right (by omega)]
    by_cases h0 : i - us.length = 0
    · rw [h0]; exact ⟨rfl, rfl⟩
    · rw [List.getElem?_eq_none (by simp; omega)]; exact ⟨rfl, rfl⟩
theorem lexV_end {s : List UInt8} {L : List TokP} (h : lexV s = .ok L) : EndE L := fun i h3 => by
  rcases lexV_tk h i with ⟨h1, _⟩ | ⟨h1, _⟩
  · omega
  · exact h1
theorem lexV_num {s : List UInt8} {L : List TokP} (h : lexV s = .ok L) : NumOk L := fun i => by
  rcases lexV_tk h i with ⟨_, h1⟩ | ⟨_, h1⟩
  · exact h1
  · rw [h1]; decide
def parR (L : List TokP) (T : (List CO × List RC) × RSt) : FR := if T.2.err = 0 then .ok T.1.1 T.1.2 T.2.xs T.2.ts else .err (tk L T.2.i).l (tk L T.2.i).c T.2.err
theorem parR_eq {L : List TokP} (hL : TokOk L) (hE : EndE L) : parR L (wholeR L (L.length + 1) [] [] ⟨0, 0, 0, [], []⟩) = fileV (.ok L) := by
  have h := sim_whole hL hE (L.length + 1) [] []
  have hs : SOk L 0 ⟨0, [], []⟩ := ⟨hL.1, by simp, by simp⟩
  have h1 := h.ok 0 ⟨0, [], []⟩ hs
  have hu := h.up ⟨0, [], []⟩ 0 hs
  have e : emb 32 ⟨0, [], []⟩ = ⟨0, 0, 0, [], []⟩ := rfl
  rw [e] at h1
  unfold fileV
  dsimp only
  revert h1 hu
  rcases wholeN L (L.length + 1) [] [] ⟨0, [], []⟩ with ⟨⟨cs, rs⟩, s⟩ | ⟨i, er⟩
  · intro h1 hu
    dsimp only at h1 ⊢
    rw [h1]
    rfl
  · intro h1 hu
    dsimp only at h1 hu ⊢
    have h1 : Bad L 32 300 i er _ := h1
    unfold parR
    rw [if_neg (by rw [h1.e]; omega), h1.i, h1.e]
def rparT : FR → TV
  | .ok cs rs xs ts => .tup [gD (fileD cs rs xs ts), gD [di 0, di 0], c1 (di 0)]
  | .err l c e => .tup [gD [dnil, dnil, dnil, dnil], gD [di l, di c], c1 (di e)]
abbrev Cr (l : List CO) : Blk := .row 2 99 (l.map coD)
abbrev Ur (l : List RC) : Blk := .row 3 102 (l.map rcD)
theorem wholeR_err {L : List TokP} {s : RSt} (h : s.err ≠ 0) (n : Nat) (cs : List CO) (rs : List RC) : wholeR L n cs rs s = ((cs, rs), s) := by
  cases n with
  | zero => rfl
  | succ n => exact if_neg h
set_option maxHeartbeats 8000000 in
theorem rParse_c (s : List UInt8) : CallsA Tryz.prog ΓL 9 [c1 (ds (bs s))] (rparT (fileS s)) := by
  have hlx := (rlex_c s).of0 (Γ := ΓL)
  rcases hl : lexV s with L | ⟨l, c, e⟩
  · rw [hl] at hlx
    have hlx : CallsA Tryz.prog ΓL 25 [c1 (ds (bs s))] (.tup [c1 (.sl 5 (L.map tokD)), gD [di 0, di 0], c1 (di 0)]) := hlx
    obtain ⟨hL, hn⟩ := lexV_ok hl
    have hE := lexV_end hl
    have hq := lexV_num hl
    obtain ⟨R, hR⟩ : ∃ R, fileS s = R := ⟨_, rfl⟩
    obtain ⟨T, hT⟩ : ∃ T, wholeR L (L.length + 1) [] [] ⟨0, 0, 0, [], []⟩ = T := ⟨_, rfl⟩
    have hP := parR_eq hL hE
    rw [hT, show fileV (.ok L) = R by rw [← hR]; unfold fileS; rw [hl]] at hP
    rw [hR]
    subst hP
    clear hR
    refine fn_rule (C := ⟨Tryz.prog, layF, Tryz.f9.ntmps, ΓL, 0, [], []⟩) layF_ok mixed Tryz.func9 rfl (by kernel_rfl) rfl rfl rfl ?_
    repeat' (first | refine ex_call hlx ?_ | refine tT ?_ | refine tF ?_ | refine ex_dec (fun _ => ?_) (fun _ => ?_) | refine t8 ?_ | refine tI ?_ | refine tU ?_ | refine tA ?_ | refine tB ?_ | refine tL ?_ | refine tN ?_ | fail "no step")
    refine ex_loop (X := RSt × List EX × List TY × List CO × List RC × Nat) (fun ⟨s, xl, tl, cs, rs, _⟩ => ⟨[(2, .o (.c (.ptr 0 0))), (3, .o (.c (.ptr 1 0))), (8, .o (.c (.ptr 3 0)))], [(0, .obj [.d dnil, .d dnil, .d dnil, .d dnil]), (1, .obj [.d (di 0), .d (di 0)]), (3, Rz L s 4 5 6 7), (4, Cr cs), (5, Ur rs), (6, Xr xl), (7, Tr tl)], 8⟩) (fun y => y.2.2.2.2.2)
      (fun ⟨s, xl, tl, cs, rs, n⟩ => Gd L 32 0 400 s ∧ s.xs = xl ∧ s.ts = tl ∧ (s.err = 0 → L.length < s.i + n ∧ cs.length ≤ s.i ∧ rs.length ≤ s.i) ∧ cs.length ≤ L.length + 1 ∧ rs.length ≤ L.length + 1 ∧ wholeR L n cs rs s = T) (⟨0, 0, 0, [], []⟩, [], [], [], [], L.length + 1) ⟨gd_emb (m := 32) (b := 400) (s := ⟨0, [], []⟩) ⟨hL.1, by simp, by simp⟩, rfl, rfl, fun _ => ⟨by show L.length < 0 + (L.length + 1); omega, Nat.zero_le _, Nat.zero_le _⟩, Nat.zero_le _, Nat.zero_le _, hT⟩ ?_ ?_
    · exact SLe.via (SLe.ownCell 3 3 4 2 99 rfl rfl rfl rfl rfl rfl) (SLe.via (SLe.ownCell 3 4 5 3 102 rfl rfl rfl rfl rfl rfl) (SLe.via (SLe.ownCell 3 5 6 5 109 rfl rfl rfl rfl rfl rfl) (SLe.via (SLe.ownCell 3 6 7 8 114 rfl rfl rfl rfl rfl rfl) (SLe.of ⟨⟨rfl, rfl, rfl, trivial⟩, ⟨rfl, rfl, rfl, rfl, rfl, rfl, rfl, trivial⟩⟩))))
    clear hT
    rintro ⟨s, xl, tl, cs, rs, n⟩ ⟨hs, kx_s, kt_s, hf, hcl, hrl, hT⟩
    have hsi := hs.i
    have h10 := hs.e
    by_cases he : s.err = 0
    · obtain ⟨hf, hlc, hlr⟩ := hf he
      cases n with
      | zero => omega
      | succ n =>
        rw [wholeR] at hT
        replace hT := gdRy hT he
        have hic := ris_c s hsi w_const
        have hir := ris_c s hsi w_struct
        rcases hv : isV L s.i w_const with _ | _ <;> rw [hv] at hic
        · replace hT := atRn hT hv
          rcases hv2 : isV L s.i w_struct with _ | _ <;> rw [hv2] at hir
          · replace hT := atRn hT hv2
            have hk := tk_at hsi
            by_cases h3 : (tk L s.i).k = 3
            · replace hT := atRy hT (by rw [h3]; rfl)
              obtain rfl : ((cs, rs), s) = T := hT
              have hres : rparT (parR L ((cs, rs), s)) = .tup [gD (fileD cs rs s.xs s.ts), gD [di 0, di 0], c1 (di 0)] := by unfold parR; rw [if_pos he]; rfl
              rw [hres]
              clear hres
              generalize tk L s.i = u at *
              have hR : ∀ {K : List D → Prop}, K (tokD u) → ∃ r, 0 ≤ ((s.i : Nat) : Int) ∧ (L.map tokD)[((s.i : Nat) : Int).toNat]? = some r ∧ K r := fun h => ex_row s.i u rfl hk h
              repeat' (first | refine tT ?_ | refine tF ?_ | refine ex_dec (fun _ => ?_) (fun _ => ?_) | refine t8 ?_ | refine tI ?_ | refine tU ?_ | refine tA ?_ | refine tB ?_ | refine tL ?_ | refine tN ?_ | fail "no step")
              refine sC (CallsM.ren (hic) [3, 4, 5, 6, 7] 8 rfl rfl rfl rfl) ?_
              repeat' (first | refine tT ?_ | refine tF ?_ | refine ex_dec (fun _ => ?_) (fun _ => ?_) | refine t8 ?_ | refine tI ?_ | refine tU ?_ | refine tA ?_ | refine tB ?_ | refine tL ?_ | refine tN ?_ | fail "no step")
              refine sC (CallsM.ren (hir) [3, 4, 5, 6, 7] 8 rfl rfl rfl rfl) ?_
              repeat' (first | refine hR ?_ | refine tT ?_ | refine tF ?_ | refine ex_dec (fun _ => ?_) (fun _ => ?_) | refine t8 ?_ | refine tI ?_ | refine tU ?_ | refine tA ?_ | refine tB ?_ | refine tL ?_ | refine tN ?_ | fail "no step")
              subst kx_s
              subst kt_s
              exact TLe.rfl
            · replace hT := atRn hT (by simp [h3])
              obtain ⟨s2, hs2⟩ : ∃ s2, failR 4 s = s2 := ⟨_, rfl⟩
              have hfl := rfail_c (L := L) s 4 (by omega)
              rw [hs2] at hfl
              have e2 : s2 = { s with err := 4 } := by rw [← hs2]; exact if_pos he
              have hT : ((cs, rs), s2) = T := by rw [← hs2]; exact hT
              have he2 : s2.err ≠ 0 := by rw [e2]; show (4 : Nat) ≠ 0; omega
              generalize tk L s.i = u at *
              have hR : ∀ {K : List D → Prop}, K (tokD u) → ∃ r, 0 ≤ ((s.i : Nat) : Int) ∧ (L.map tokD)[((s.i : Nat) : Int).toNat]? = some r ∧ K r := fun h => ex_row s.i u rfl hk h
              repeat' (first | refine tT ?_ | refine tF ?_ | refine ex_dec (fun _ => ?_) (fun _ => ?_) | refine t8 ?_ | refine tI ?_ | refine tU ?_ | refine tA ?_ | refine tB ?_ | refine tL ?_ | refine tN ?_ | fail "no step")
              refine sC (CallsM.ren (hic) [3, 4, 5, 6, 7] 8 rfl rfl rfl rfl) ?_
              repeat' (first | refine tT ?_ | refine tF ?_ | refine ex_dec (fun _ => ?_) (fun _ => ?_) | refine t8 ?_ | refine tI ?_ | refine tU ?_ | refine tA ?_ | refine tB ?_ | refine tL ?_ | refine tN ?_ | fail "no step")
              refine sC (CallsM.ren (hir) [3, 4, 5, 6, 7] 8 rfl rfl rfl rfl) ?_
              repeat' (first | refine hR ?_ | refine tT ?_ | refine tF ?_ | refine ex_dec (fun _ => ?_) (fun _ => ?_) | refine t8 ?_ | refine tI ?_ | refine tU ?_ | refine tA ?_ | refine tB ?_ | refine tL ?_ | refine tN ?_ | fail "no step")
              refine sC (CallsM.ren (hfl) [3, 4, 5, 6, 7] 8 rfl rfl rfl rfl) ?_
              repeat' (first | refine tT ?_ | refine tF ?_ | refine ex_dec (fun _ => ?_) (fun _ => ?_) | refine t8 ?_ | refine tI ?_ | refine tU ?_ | refine tA ?_ | refine tB ?_ | refine tL ?_ | refine tN ?_ | fail "no step")
              exact ex_round (s2, xl, tl, cs, rs, n) ⟨by rw [e2]; exact ⟨hs.i, hs.x, hs.t, hs.d1, hs.d2, (by show 4 ≤ 10; omega), fun h => (by cases h), fun h => (by cases h)⟩, by rw [e2]; exact kx_s, by rw [e2]; exact kt_s, fun h => absurd h he2, hcl, hrl, by rw [wholeR_err he2]; exact hT⟩ (by show n < n + 1; omega) (SLe.of ⟨⟨rfl, rfl, rfl, trivial⟩, ⟨rfl, rfl, rfl, rfl, rfl, rfl, rfl, trivial⟩⟩)
          · replace hT := atRy hT hv2
            have hs0 := hs.fresh he 400
            replace hT : (roomR rs.length >>= fun _ => recordR L >>= fun r => wholeR L n cs (rs ++ [r])) s = T := hT
            repeat' (first | refine tT ?_ | refine tF ?_ | refine ex_dec (fun _ => ?_) (fun _ => ?_) | refine t8 ?_ | refine tI ?_ | refine tU ?_ | refine tA ?_ | refine tB ?_ | refine tL ?_ | refine tN ?_ | fail "no step")
            refine sC (CallsM.ren (hic) [3, 4, 5, 6, 7] 8 rfl rfl rfl rfl) ?_
            repeat' (first | refine tT ?_ | refine tF ?_ | refine ex_dec (fun _ => ?_) (fun _ => ?_) | refine t8 ?_ | refine tI ?_ | refine tU ?_ | refine tA ?_ | refine tB ?_ | refine tL ?_ | refine tN ?_ | fail "no step")
            refine sC (CallsM.ren (hir) [3, 4, 5, 6, 7] 8 rfl rfl rfl rfl) ?_
            repeat' (first | refine ex_is rs.length (by simp) ?_ | refine tT ?_ | refine tF ?_ | refine ex_dec (fun _ => ?_) (fun _ => ?_) | refine t8 ?_ | refine tI ?_ | refine tU ?_ | refine tA ?_ | refine tB ?_ | refine tL ?_ | refine tN ?_ | fail "no step")
            rcases q1 : (roomR rs.length) (s) with ⟨_, s1⟩
            replace hT := (rand q1).symm.trans hT
            refine sC (CallsM.ren ((rroom_c s rs.length (by omega)) _ _ q1) [3, 4, 5, 6, 7] 8 rfl rfl rfl rfl) ?_
            have kx_s1 := (keep_room q1).1.trans kx_s
            have kt_s1 := (keep_room q1).2.trans kt_s
            have g1 := (Sim.room (L := L) (m := 32) rs.length 0).gd hs0 (by omega) q1
            have i1 := room_i q1
            repeat' (first | refine tT ?_ | refine tF ?_ | refine ex_dec (fun _ => ?_) (fun _ => ?_) | refine t8 ?_ | refine tI ?_ | refine tU ?_ | refine tA ?_ | refine tB ?_ | refine tL ?_ | refine tN ?_ | fail "no step")
            rcases q2 : (recordR L) (s1) with ⟨r, s2⟩
            replace hT := (rand q2).symm.trans hT
            refine sC (CallsM.ren ((rrecord_c hL hE hn hq s1 (g1.le (by omega) (by omega))) _ _ q2 _ _ kx_s1 kt_s1) [3, 4, 5, 6, 7] 8 rfl rfl rfl rfl) ?_
            have kx_s2 : s2.xs = s2.xs := rfl
            have kt_s2 : s2.ts = s2.ts := rfl
            have g2 := (sim_record hL hE).gd g1 (by omega) q2
            have hgrow : s2.err = 0 → s.i + 1 ≤ s2.i := fun h2 => by
              have := (sim_record hL hE).grow1 mo_record g1 q2 h2
              omega
            have hlc2 : (rs ++ [r]).length = rs.length + 1 := by simp
            repeat' (first | refine tT ?_ | refine tF ?_ | refine ex_dec (fun _ => ?_) (fun _ => ?_) | refine t8 ?_ | refine tI ?_ | refine tU ?_ | refine tA ?_ | refine tB ?_ | refine tL ?_ | refine tN ?_ | fail "no step")
            refine ex_app (rs.length) (1) 1000 (by first | rfl | (simp; done) | (simp; omega)) (by first | rfl | (simp; done) | (simp; omega)) rfl (by omega) ?_
            refine ex_is (List.map rcD (rs ++ [r])) (by rw [List.map_append]; rfl) ?_
            repeat' (first | refine tT ?_ | refine tF ?_ | refine ex_dec (fun _ => ?_) (fun _ => ?_) | refine t8 ?_ | refine tI ?_ | refine tU ?_ | refine tA ?_ | refine tB ?_ | refine tL ?_ | refine tN ?_ | fail "no step")
            exact ex_round (s2, s2.xs, s2.ts, cs, rs ++ [r], n) ⟨g2.le (by omega) (by omega), rfl, rfl, fun h => ⟨by have := hgrow h; omega, by have := hgrow h; omega, by rw [hlc2]; have := hgrow h; omega⟩, hcl, by rw [hlc2]; omega, hT⟩ (by show n < n + 1; omega) (SLe.ren [(0, 0), (1, 1), (3, 3), (4, 4), (12, 5), (8, 6), (9, 7)] ⟨⟨rfl, rfl⟩, ⟨rfl, rfl⟩, ⟨rfl, rfl⟩, trivial⟩ ⟨⟨rfl, rfl⟩, ⟨rfl, rfl⟩, ⟨rfl, rfl⟩, ⟨rfl, rfl⟩, ⟨rfl, rfl⟩, ⟨rfl, rfl⟩, ⟨rfl, rfl⟩, trivial⟩ rfl)
        · replace hT := atRy hT hv
          have hs0 := hs.fresh he 400
          replace hT : (roomR cs.length >>= fun _ => takeR L w_const >>= fun _ => nameR L >>= fun w => takeR L t_eq >>= fun _ => numberR L >>= fun k => takeR L t_semi >>= fun _ => wholeR L n (cs ++ [⟨w, k⟩]) rs) s = T := hT
          obtain ⟨b, hb⟩ : ∃ b, isV L s.i w_struct = b := ⟨_, rfl⟩
          rw [hb] at hir
          repeat' (first | refine tT ?_ | refine tF ?_ | refine ex_dec (fun _ => ?_) (fun _ => ?_) | refine t8 ?_ | refine tI ?_ | refine tU ?_ | refine tA ?_ | refine tB ?_ | refine tL ?_ | refine tN ?_ | fail "no step")
          refine sC (CallsM.ren (hic) [3, 4, 5, 6, 7] 8 rfl rfl rfl rfl) ?_
          repeat' (first | refine tT ?_ | refine tF ?_ | refine ex_dec (fun _ => ?_) (fun _ => ?_) | refine t8 ?_ | refine tI ?_ | refine tU ?_ | refine tA ?_ | refine tB ?_ | refine tL ?_ | refine tN ?_ | fail "no step")
          refine sC (CallsM.ren (hir) [3, 4, 5, 6, 7] 8 rfl rfl rfl rfl) ?_
          repeat' (first | refine ex_is cs.length (by simp) ?_ | refine tT ?_ | refine tF ?_ | refine ex_dec (fun _ => ?_) (fun _ => ?_) | refine t8 ?_ | refine tI ?_ | refine tU ?_ | refine tA ?_ | refine tB ?_ | refine tL ?_ | refine tN ?_ | fail "no step")
          rcases q1 : (roomR cs.length) (s) with ⟨_, s1⟩
          replace hT := (rand q1).symm.trans hT
          refine sC (CallsM.ren ((rroom_c s cs.length (by omega)) _ _ q1) [3, 4, 5, 6, 7] 8 rfl rfl rfl rfl) ?_
          have kx_s1 := (keep_room q1).1.trans kx_s
          have kt_s1 := (keep_room q1).2.trans kt_s
          have g1 := (Sim.room (L := L) (m := 32) cs.length 0).gd hs0 (by omega) q1
          have i1 := room_i q1
          repeat' (first | refine tT ?_ | refine tF ?_ | refine ex_dec (fun _ => ?_) (fun _ => ?_) | refine t8 ?_ | refine tI ?_ | refine tU ?_ | refine tA ?_ | refine tB ?_ | refine tL ?_ | refine tN ?_ | fail "no step")
          rcases q2 : (takeR L w_const) (s1) with ⟨_, s2⟩
          replace hT := (rand q2).symm.trans hT
          refine sC (CallsM.ren ((rtake_c s1 g1.i hn w_const) _ _ q2) [3, 4, 5, 6, 7] 8 rfl rfl rfl rfl) ?_
          have kx_s2 := (keep_take q2).1.trans kx_s1
          have kt_s2 := (keep_take q2).2.trans kt_s1
          have g2 := (Sim.take (m := 32) hL w_const 0).gd g1 (by omega) q2
          repeat' (first | refine tT ?_ | refine tF ?_ | refine ex_dec (fun _ => ?_) (fun _ => ?_) | refine t8 ?_ | refine tI ?_ | refine tU ?_ | refine tA ?_ | refine tB ?_ | refine tL ?_ | refine tN ?_ | fail "no step")
          rcases q3 : (nameR L) (s2) with ⟨w, s3⟩
          replace hT := (rand q3).symm.trans hT
          refine sC (CallsM.ren ((rname_c s2 g2.i hn) _ _ q3) [3, 4, 5, 6, 7] 8 rfl rfl rfl rfl) ?_
          have kx_s3 := (keep_name q3).1.trans kx_s2
          have kt_s3 := (keep_name q3).2.trans kt_s2
          have g3 := (Sim.name (m := 32) hL 1).gd g2 (by omega) q3
          repeat' (first | refine tT ?_ | refine tF ?_ | refine ex_dec (fun _ => ?_) (fun _ => ?_) | refine t8 ?_ | refine tI ?_ | refine tU ?_ | refine tA ?_ | refine tB ?_ | refine tL ?_ | refine tN ?_ | fail "no step")
          rcases q4 : (takeR L t_eq) (s3) with ⟨_, s4⟩
          replace hT := (rand q4).symm.trans hT
          refine sC (CallsM.ren ((rtake_c s3 g3.i hn t_eq) _ _ q4) [3, 4, 5, 6, 7] 8 rfl rfl rfl rfl) ?_
          have kx_s4 := (keep_take q4).1.trans kx_s3
          have kt_s4 := (keep_take q4).2.trans kt_s3
          have g4 := (Sim.take (m := 32) hL t_eq 2).gd g3 (by omega) q4
          repeat' (first | refine tT ?_ | refine tF ?_ | refine ex_dec (fun _ => ?_) (fun _ => ?_) | refine t8 ?_ | refine tI ?_ | refine tU ?_ | refine tA ?_ | refine tB ?_ | refine tL ?_ | refine tN ?_ | fail "no step")
          rcases q5 : (numberR L) (s4) with ⟨k, s5⟩
          replace hT := (rand q5).symm.trans hT
          refine sC (CallsM.ren ((rnum_c s4 g4.i hn) _ _ q5) [3, 4, 5, 6, 7] 8 rfl rfl rfl rfl) ?_
          have kx_s5 := (keep_num q5).1.trans kx_s4
          have kt_s5 := (keep_num q5).2.trans kt_s4
          have g5 := (Sim.number (m := 32) hL 3).gd g4 (by omega) q5
          repeat' (first | refine tT ?_ | refine tF ?_ | refine ex_dec (fun _ => ?_) (fun _ => ?_) | refine t8 ?_ | refine tI ?_ | refine tU ?_ | refine tA ?_ | refine tB ?_ | refine tL ?_ | refine tN ?_ | fail "no step")
          rcases q6 : (takeR L t_semi) (s5) with ⟨_, s6⟩
          replace hT := (rand q6).symm.trans hT
          refine sC (CallsM.ren ((rtake_c s5 g5.i hn t_semi) _ _ q6) [3, 4, 5, 6, 7] 8 rfl rfl rfl rfl) ?_
          have kx_s6 := (keep_take q6).1.trans kx_s5
          have kt_s6 := (keep_take q6).2.trans kt_s5
          have g6 := (Sim.take (m := 32) hL t_semi 4).gd g5 (by omega) q6
          have hgrow : s6.err = 0 → s.i + 1 ≤ s6.i := fun h6 => by
            have a6 := (Sim.take (m := 32) hL t_semi 4).grow g5 q6 h6
            have a5 := (Sim.number (m := 32) hL 3).grow g4 q5 a6.1
            have a4 := (Sim.take (m := 32) hL t_eq 2).grow g3 q4 a5.1
            have a3 := (Sim.name (m := 32) hL 1).grow g2 q3 a4.1
            have a2 := (Sim.take (m := 32) hL w_const 0).grow g1 q2 a3.1
            rw [take_yes a2.1 (by rw [i1]; exact hv)] at q2
            obtain rfl := congrArg Prod.snd q2
            have a3' : s1.i + 1 ≤ s3.i := a3.2
            omega
          have hlc2 : (cs ++ [(⟨w, k⟩ : CO)]).length = cs.length + 1 := by simp
          repeat' (first | refine tT ?_ | refine tF ?_ | refine ex_dec (fun _ => ?_) (fun _ => ?_) | refine t8 ?_ | refine tI ?_ | refine tU ?_ | refine tA ?_ | refine tB ?_ | refine tL ?_ | refine tN ?_ | fail "no step")
          refine ex_app (cs.length) (1) 1000 (by first | rfl | (simp; done) | (simp; omega)) (by first | rfl | (simp; done) | (simp; omega)) rfl (by omega) ?_
          refine ex_is (List.map coD (cs ++ [⟨w, k⟩])) (by rw [List.map_append]; rfl) ?_
          repeat' (first | refine tT ?_ | refine tF ?_ | refine ex_dec (fun _ => ?_) (fun _ => ?_) | refine t8 ?_ | refine tI ?_ | refine tU ?_ | refine tA ?_ | refine tB ?_ | refine tL ?_ | refine tN ?_ | fail "no step")
          exact ex_round (s6, xl, tl, cs ++ [⟨w, k⟩], rs, n) ⟨g6.le (by omega) (by omega), kx_s6, kt_s6, fun h => ⟨by have := hgrow h; omega, by rw [hlc2]; have := hgrow h; omega, by have := hgrow h; omega⟩, by rw [hlc2]; omega, hrl, hT⟩ (by show n < n + 1; omega) (SLe.ren [(0, 0), (1, 1), (3, 3), (9, 4), (5, 5), (6, 6), (7, 7)] ⟨⟨rfl, rfl⟩, ⟨rfl, rfl⟩, ⟨rfl, rfl⟩, trivial⟩ ⟨⟨rfl, rfl⟩, ⟨rfl, rfl⟩, ⟨rfl, rfl⟩, ⟨rfl, rfl⟩, ⟨rfl, rfl⟩, ⟨rfl, rfl⟩, ⟨rfl, rfl⟩, trivial⟩ rfl)
    · obtain rfl : ((cs, rs), s) = T := (wholeR_err he n cs rs).symm.trans hT
      have hres : rparT (parR L ((cs, rs), s)) = .tup [gD [dnil, dnil, dnil, dnil], gD [di (tk L s.i).l, di (tk L s.i).c], c1 (di s.err)] := by unfold parR; rw [if_neg he]; rfl
      rw [hres]
      clear hres
      have hk := tk_at hsi
      generalize tk L s.i = u at *
      have hR : ∀ {K : List D → Prop}, K (tokD u) → ∃ r, 0 ≤ ((s.i : Nat) : Int) ∧ (L.map tokD)[((s.i : Nat) : Int).toNat]? = some r ∧ K r := fun h => ex_row s.i u rfl hk h
      repeat' (first | refine hR ?_ | refine tT ?_ | refine tF ?_ | refine ex_dec (fun _ => ?_) (fun _ => ?_) | refine t8 ?_ | refine tI ?_ | refine tU ?_ | refine tA ?_ | refine tB ?_ | refine tL ?_ | refine tN ?_ | fail "no step")
      exact TLe.rfl
  · rw [hl] at hlx
    have he := lexV_err hl
    have hlx : CallsA Tryz.prog ΓL 25 [c1 (ds (bs s))] (.tup [c1 (.sl 5 []), gD [di l, di c], c1 (di e)]) := hlx
    rw [show fileS s = .err l c e by unfold fileS; rw [hl]; rfl]
    refine fn_rule (C := ⟨Tryz.prog, layF, Tryz.f9.ntmps, ΓL, 0, [], []⟩) layF_ok mixed Tryz.func9 rfl (by kernel_rfl) rfl rfl rfl ?_
    repeat' (first | refine ex_call hlx ?_ | refine tT ?_ | refine tF ?_ | refine ex_dec (fun _ => ?_) (fun _ => ?_) | refine t8 ?_ | refine tI ?_ | refine tU ?_ | refine tA ?_ | refine tB ?_ | refine tL ?_ | refine tN ?_ | fail "no step")
    exact TLe.rfl
end Go.Proofs.YtkbhmcdoedmffaaGreatDoor

namespace Go.Proofs.YtkbhmcdoedmffaaGreatDoor
def opsL7 : List (List UInt8) := levelsL.map (·.1)
def xsL (a b : List UInt8) : List EX := if levelV a < levelV b then [⟨1, [], 0, [120], []⟩, ⟨1, [], 0, [121], []⟩, ⟨1, [], 0, [122], []⟩, ⟨3, b, 0, [], [1, 2]⟩, ⟨3, a, 0, [], [0, 3]⟩] else [⟨1, [], 0, [120], []⟩, ⟨1, [], 0, [121], []⟩, ⟨3, a, 0, [], [0, 1]⟩, ⟨1, [], 0, [122], []⟩, ⟨3, b, 0, [], [2, 3]⟩]
deriving instance DecidableEq for EX, CA, TY, SB, IT, RC, CO, FR
end Go.Proofs.YtkbhmcdoedmffaaGreatDoor

namespace Go.Proofs.YtkbhmcdoedmffaaGreatDoor
open Go.RowKit

def wakeT : List UInt8 := [115, 116, 114, 117, 99, 116, 32, 83, 32, 123, 32, 110, 58, 32, 117, 56, 59, 32, 98, 58, 32, 98, 121, 116, 101, 115, 91, 110, 32, 43, 32, 49, 93, 59, 32, 125]
def wakeX : List EX := [⟨1, [], 0, [110], []⟩, ⟨0, [], 1, [], []⟩, ⟨3, [43], 0, [], [0, 1]⟩]
def wakeY : List TY := [⟨0, 1, false, [], [], -1, -1, []⟩, ⟨1, 0, false, [], [], 2, -1, []⟩]
def wakeR : List RC := [⟨[83], [], [⟨[110], 0, 0, [], [], -1, 0, false, []⟩, ⟨[98], 1, 0, [], [], -1, 0, false, []⟩]⟩]
theorem wake_file : fileS wakeT = .ok [] wakeR wakeX wakeY := by decide +kernel
theorem ex_pn {g : Prop} {Q K : Bool → Prop} (hg : g) (c : Bool) (he : Q c) (h : K c) : g ∧ ∃ c, Q c ∧ K c := ⟨hg, c, he, h⟩
theorem wakes_c : CallsA Tryz.prog ΓL 10 [] (Tb true) := by
  have hp : CallsA Tryz.prog ΓL 8 [c1 (ds (bs wakeT))] (.tup [.c (.eptr (fileD [] wakeR wakeX wakeY)), gD [di 0, di 0], c1 (di 0)]) := by
    have := Parse_c wakeT
    rw [wake_file] at this
    exact this
  have hl := (level_c [43]).gL
  rw [show levelV [43] = 7 by decide +kernel] at hl
  have hk := (key_c [117, 56]).gL
  rw [show keyV [117, 56] = true by decide +kernel] at hk
  refine fn_rule (C := ⟨Tryz.prog, layF, Tryz.f10.ntmps, ΓL, 0, [], []⟩) layF_ok mixed Tryz.func10 rfl (by kernel_rfl) rfl rfl rfl ?_
  repeat' (first | refine ex_call hk ?_ | refine ex_call hl ?_ | refine ex_call hp ?_ | refine (ex_row (l := wakeR) 0 ⟨[83], [], [⟨[110], 0, 0, [], [], -1, 0, false, []⟩, ⟨[98], 1, 0, [], [], -1, 0, false, []⟩]⟩ rfl rfl) ?_ | refine (ex_row (l := wakeY) 1 ⟨1, 0, false, [], [], 2, -1, []⟩ rfl rfl) ?_ | refine (ex_row (l := wakeX) 2 ⟨3, [43], 0, [], [0, 1]⟩ rfl rfl) ?_ | refine (ex_pn (by kernel_rfl) false (fun _ _ => by kernel_rfl)) ?_ | refine tT ?_ | refine tF ?_ | refine ex_dec (fun _ => ?_) (fun _ => ?_) | refine t8 ?_ | refine tI ?_ | refine tU ?_ | refine tA ?_ | refine tB ?_ | refine tL ?_ | refine tN ?_ | fail "no step")
  exact TLe.rfl
end Go.Proofs.YtkbhmcdoedmffaaGreatDoor

namespace Go.Proofs.YtkbhmcdoedmffaaGreatDoor

def TY.subX (t : TY) : List Int := (if t.ex = -1 then [] else [t.ex]) ++ t.args
def TY.subT (t : TY) : List Int := (if t.inn = -1 then [] else [t.inn]) ++ t.cases.map (·.t)
def usesX (s : PS) : List Int := s.xs.flatMap EX.kids ++ s.ts.flatMap TY.subX
def usesT (s : PS) : List Int := s.ts.flatMap TY.subT
structure OInv (s : PS) (a b : List Int) : Prop where
  x : ∀ j : Nat, j < s.xs.length → (usesX s).count (j : Int) + a.count (j : Int) = 1
  xr : ∀ j, j ∈ usesX s ∨ j ∈ a → 0 ≤ j ∧ j < s.xs.length
  xo : ∀ (i : Nat) (x : EX), s.xs[i]? = some x → ∀ k ∈ x.kids, k < i
  t : ∀ j : Nat, j < s.ts.length → (usesT s).count (j : Int) + b.count (j : Int) = 1
  tr : ∀ j, j ∈ usesT s ∨ j ∈ b → 0 ≤ j ∧ j < s.ts.length
  tt : ∀ (i : Nat) (t : TY), s.ts[i]? = some t → ∀ k ∈ t.subT, k < i
def Ht {α : Type} (a b : List Int) (x : PM α) (f g : α → List Int) : Prop := ∀ s p q, OInv s (a ++ p) (b ++ q) → ∀ v s', x s = .ok v s' → OInv s' (f v ++ p) (g v ++ q)
def Moves {α : Type} (x : PM α) : Prop := ∀ s v s', x s = .ok v s' → s'.xs = s.xs ∧ s'.ts = s.ts
section
variable (L : List TokP)
theorem mv_step : Moves stepM := fun s v s' h => by cases h; exact ⟨rfl, rfl⟩
theorem mv_take (t : List UInt8) : Moves (takeM L t) := fun s v s' h => by
  unfold takeM at h; split at h <;> cases h; exact ⟨rfl, rfl⟩
theorem mv_name : Moves (nameM L) := fun s v s' h => by
  unfold nameM at h; split at h <;> cases h; exact ⟨rfl, rfl⟩
theorem mv_number : Moves (numberM L) := fun s v s' h => by
  unfold numberM at h; split at h <;> cases h; exact ⟨rfl, rfl⟩
theorem mv_room (n : Nat) : Moves (roomM n) := fun s v s' h => by
  unfold roomM at h; split at h <;> cases h; exact ⟨rfl, rfl⟩
theorem mv_enter (m : Nat) (b : Bool) : Moves (enterM m b) := fun s v s' h => by
  unfold enterM at h; split at h
  · cases h
  · split at h <;> cases h; exact ⟨rfl, rfl⟩
theorem mv_roomIf (p : Nat → Bool) (n : Nat) : Moves (fun s => if p s.i = true then roomM n s else .ok () s) := fun s v s' h => by
  dsimp only at h
  split at h
  · exact mv_room n s v s' h
  · cases h; exact ⟨rfl, rfl⟩
theorem mv_enterL (m : Nat) (p : Nat → Bool) : Moves (fun s => enterM m (p s.i) s) := fun s v s' h => mv_enter m _ s v s' h
end
section
variable {L : List TokP}
abbrev one : Int → List Int := fun k => [k]
abbrev non {α : Type} : α → List Int := fun _ => []
abbrev tys (l : List CA) : List Int := l.map (·.t)
def may (k : Int) : List Int := if k = -1 then [] else [k]
theorem mv_and {α β : Type} {x : PM α} {y : α → PM β} (hx : Moves x) (hy : ∀ v, Moves (y v)) : Moves (x >>= y) := fun s v s' he => by
  have he : PM.and x y s = .ok v s' := he
  unfold PM.and at he
  cases hxs : x s with
  | err i e => rw [hxs] at he; cases he
  | ok u s1 =>
    rw [hxs] at he
    obtain ⟨h1, h2⟩ := hx s u s1 hxs
    obtain ⟨h3, h4⟩ := hy u s1 v s' he
    exact ⟨h3.trans h1, h4.trans h2⟩
theorem mv_pure {α : Type} (v : α) : Moves (pure v : PM α) := fun s v s' he => by cases he; exact ⟨rfl, rfl⟩
theorem mv_fail {α : Type} (e : Nat) : Moves (failM e : PM α) := fun s v s' he => by cases he
theorem mv_at {α : Type} {p : Nat → Bool} {x y : PM α} (hx : Moves x) (hy : Moves y) : Moves (atM p x y) := fun s v s' he => by
  unfold atM at he
  by_cases hp : p s.i = true
  · rw [if_pos hp] at he; exact hx s v s' he
  · rw [if_neg hp] at he; exact hy s v s' he
theorem mv_look {α : Type} {f : PS → PM α} (h : ∀ s, Moves (f s)) : Moves (fun s => f s s) := fun s v s' he => h s s v s' he
theorem mw_derived : Moves (derivedM L) := mv_at (mv_look (f := fun s => stepM >>= fun _ => takeM L t_lpar >>= fun _ => nameM L >>= fun a =>
      (if 3 ≤ derOf (tk L s.i).t then takeM L t_dots >>= fun _ => nameM L else pure []) >>= fun b => takeM L t_rpar >>= fun _ => pure (derOf (tk L s.i).t, a, b)) fun s => mv_and mv_step fun _ => mv_and (mv_take L _) fun _ => mv_and (mv_name L) fun a => mv_and (by
      by_cases hd : 3 ≤ derOf (tk L s.i).t
      · rw [if_pos hd]; exact mv_and (mv_take L _) fun _ => mv_name L
      · rw [if_neg hd]; exact mv_pure _) fun b => mv_and (mv_take L _) fun _ => mv_pure _) (mv_fail 4)
theorem mw_const : Moves (constM L) := mv_and (mv_take L _) fun _ => mv_and (mv_name L) fun w => mv_and (mv_take L _) fun _ => mv_and (mv_number L) fun n => mv_and (mv_take L _) fun _ => mv_pure _
def itX (x : IT) : List Int := may x.wh
def itT (x : IT) : List Int := may x.ty
def rcX (r : RC) : List Int := r.its.flatMap itX
def rcT (r : RC) : List Int := r.its.flatMap itT
end
end Go.Proofs.YtkbhmcdoedmffaaGreatDoor

namespace Go.Proofs.YtkbhmcdoedmffaaGreatDoor

structure GoodS (B : Nat) (s : PS) : Prop where
  x : ∀ e ∈ s.xs, e.kids.length ≤ B
  t : ∀ t ∈ s.ts, t.args.length ≤ B ∧ t.cases.length ≤ B
def Szd (B : Nat) {α : Type} (x : PM α) (R : α → Prop) : Prop := ∀ s v s', GoodS B s → x s = .ok v s' → GoodS B s' ∧ R v
section
variable {B : Nat} {L : List TokP}
theorem Szd.and {α β : Type} {x : PM α} {f : α → PM β} {R : α → Prop} {Q : β → Prop} (hx : Szd B x R) (hf : ∀ v, R v → Szd B (f v) Q) : Szd B (x >>= f) Q := fun s v s' h he => by
  have he : PM.and x f s = .ok v s' := he
  unfold PM.and at he
  cases hxs : x s with
  | err i e => rw [hxs] at he; cases he
  | ok u s1 =>
    rw [hxs] at he
    obtain ⟨h1, h2⟩ := hx s u s1 h hxs
    exact hf u h2 s1 v s' h1 he
theorem Szd.pure {α : Type} {R : α → Prop} (v : α) (h : R v) : Szd B (pure v) R := fun s v' s' hs he => by cases he; exact ⟨hs, h⟩
theorem Szd.fail {α : Type} {R : α → Prop} (e : Nat) : Szd B (failM e : PM α) R := fun s v s' hs he => by cases he
theorem Szd.at {α : Type} {p : Nat → Bool} {x y : PM α} {R : α → Prop} (hx : Szd B x R) (hy : Szd B y R) : Szd B (atM p x y) R := fun s v s' h he => by
  unfold atM at he
  by_cases hp : p s.i = true
  · rw [if_pos hp] at he; exact hx s v s' h he
  · rw [if_neg hp] at he; exact hy s v s' h he
theorem Szd.look {α : Type} {f : PS → PM α} {R : α → Prop} (h : ∀ s, Szd B (f s) R) : Szd B (fun s => f s s) R := fun s v s' hs he => h s s v s' hs he
theorem Szd.moves {α : Type} {x : PM α} (h : Moves x) : Szd B x (fun _ => True) := fun s v s' hs he => by
  obtain ⟨h1, h2⟩ := h s v s' he
  exact ⟨⟨by rw [h1]; exact hs.x, by rw [h2]; exact hs.t⟩, trivial⟩
theorem Szd.put (x : EX) (h : x.kids.length ≤ B) : Szd B (putM x) (fun _ => True) := fun s v s' hs he => by
  cases he
  refine ⟨⟨fun e hm => ?_, hs.t⟩, trivial⟩
  rcases List.mem_append.1 hm with hm | hm
  · exact hs.x e hm
  · rw [List.mem_singleton.1 hm]; exact h
theorem Szd.lay (t : TY) (h : t.args.length ≤ B) (h2 : t.cases.length ≤ B) : Szd B (layM t) (fun _ => True) := fun s v s' hs he => by
  cases he
  refine ⟨⟨hs.x, fun e hm => ?_⟩, trivial⟩
  rcases List.mem_append.1 hm with hm | hm
  · exact hs.t e hm
  · rw [List.mem_singleton.1 hm]; exact ⟨h, h2⟩
abbrev tru {α : Type} : α → Prop := fun _ => True
theorem sz_un (hB : 2 ≤ B) (m : Nat) {un ex : PM Int} (h1 : Szd B un tru) (h2 : Szd B ex tru) : Szd B (unF L m un ex) tru :=
  Szd.at ((Szd.moves (mv_step)).and fun _ _ => (Szd.moves (mv_enterL m _)).and fun _ _ => h1.and fun k _ => Szd.put _ (by show 1 ≤ B; omega))
  (Szd.at ((Szd.moves (mv_step)).and fun _ _ => (Szd.moves (mv_enterL m _)).and fun _ _ => h2.and fun k _ => (Szd.moves (mv_take L _)).and fun _ _ => Szd.pure _ trivial)
  (Szd.at ((Szd.moves (mv_name L)).and fun w _ => Szd.put _ (Nat.zero_le _)) ((Szd.moves (mv_number L)).and fun w _ => Szd.put _ (Nat.zero_le _))))
theorem sz_line (hB : 2 ≤ B) (lv : Nat) {x : PM Int} (hx : Szd B x tru) : ∀ n left, Szd B (lineN L lv x n left) tru
  | 0, left => Szd.pure _ trivial
  | n + 1, left => Szd.look (f := fun s => atM (opAt L lv) (stepM >>= fun _ => x >>= fun right => putM ⟨3, (tk L s.i).t, 0, [], [left, right]⟩ >>= fun k => lineN L lv x n k) (pure left)) fun s =>
    Szd.at ((Szd.moves mv_step).and fun _ _ => hx.and fun r _ => (Szd.put _ (by show 2 ≤ B; omega)).and fun k _ => sz_line hB lv hx n k) (Szd.pure _ trivial)
theorem sz_lineJ (hB : 2 ≤ B) {un : PM Int} (hx : Szd B un tru) : ∀ j, Szd B (lineJ L un j) tru
  | 0 => hx
  | j + 1 => (sz_lineJ hB hx j).and fun left _ => Szd.look fun s => sz_line hB _ (sz_lineJ hB hx j) _ _
theorem sz_unM (hB : 2 ≤ B) : ∀ m, Szd B (unM L m) tru
  | 0 => sz_un hB 0 (Szd.fail _) (Szd.fail _)
  | m + 1 => sz_un hB _ (sz_unM hB m) (sz_lineJ hB (sz_unM hB m) 8)
theorem sz_expr (hB : 2 ≤ B) (m : Nat) : Szd B (exprM L m) tru := sz_lineJ hB (sz_unM hB m) 8
theorem sz_bracket (hB : 2 ≤ B) (m : Nat) : Szd B (bracketM L m) tru := (Szd.moves (mv_take L _)).and fun _ _ => (sz_expr hB m).and fun k _ => (Szd.moves (mv_take L _)).and fun _ _ => Szd.pure _ trivial
def tyS (B : Nat) (t : TY) : Prop := t.args.length ≤ B ∧ t.cases.length ≤ B
theorem sz_array (hB : 2 ≤ B) (m : Nat) (t : TY) (ht : tyS B t) : Szd B (arrayM L m t) tru :=
  (Szd.lay t ht.1 ht.2).and fun k _ => Szd.at ((sz_bracket hB m).and fun x _ => Szd.lay _ (Nat.zero_le _) (Nat.zero_le _)) (Szd.pure _ trivial)
theorem sz_args (hB : 2 ≤ B) (m : Nat) : ∀ n l, l.length + n ≤ B → Szd B (argsN L m n l) (fun l => l.length ≤ B)
  | 0, l, h => Szd.pure _ (by omega)
  | n + 1, l, h => Szd.at ((Szd.moves mv_step).and fun _ _ => (Szd.moves (mv_roomIf _ _)).and fun _ _ => (sz_expr hB m).and fun x _ => sz_args hB m n (l ++ [x]) (by rw [List.length_append, List.length_singleton]; omega)) (Szd.pure _ (by omega))
theorem sz_ref (hB : L.length + 2 ≤ B) (m : Nat) : Szd B (refM L m) (tyS B) :=
  (Szd.moves (mv_name L)).and fun w _ => Szd.at ((Szd.moves mv_step).and fun _ _ => (sz_expr (by omega) m).and fun x _ => (Szd.look fun s => sz_args (by omega) m _ [x] (by show 1 + (L.length - s.i + 1) ≤ B; omega)).and fun l hl => (Szd.moves (mv_take L _)).and fun _ _ => Szd.pure _ ⟨hl, Nat.zero_le _⟩) (Szd.pure _ ⟨Nat.zero_le _, Nat.zero_le _⟩)
section
variable {kd : PM Int}
theorem sz_inner (m : Nat) (h : Szd B kd tru) : Szd B (innerM L m kd) tru := (Szd.moves (mv_enterL m _)).and fun _ _ => h
theorem sz_cases (m : Nat) (h : Szd B kd tru) : ∀ n l, l.length + n ≤ B → Szd B (casesN L m kd n l) (fun l => l.length ≤ B)
  | 0, l, hl => Szd.pure _ (by omega)
  | n + 1, l, hl => Szd.at ((Szd.moves (mv_room _)).and fun _ _ => (Szd.moves mv_step).and fun _ _ => (Szd.moves (mv_number L)).and fun c _ => (Szd.moves (mv_take L _)).and fun _ _ => (sz_inner m h).and fun k _ => (Szd.moves (mv_take L _)).and fun _ _ => sz_cases m h n (l ++ [⟨c, k⟩]) (by rw [List.length_append, List.length_singleton]; omega)) (Szd.pure _ (by omega))
theorem sz_choice (hB : L.length + 2 ≤ B) (m : Nat) (h : Szd B kd tru) : Szd B (choiceM L m kd) tru :=
  (Szd.moves (mv_take L _)).and fun _ _ => (sz_expr (by omega) m).and fun x _ => (Szd.moves (mv_take L _)).and fun _ _ => (Szd.moves (mv_take L _)).and fun _ _ => (Szd.look fun s => sz_cases m h _ [] (by show 0 + (L.length - s.i + 1) ≤ B; omega)).and fun cs hcs =>
    (Szd.at ((Szd.moves mv_step).and fun _ _ => (Szd.moves (mv_take L _)).and fun _ _ => (sz_inner m h).and fun k _ => (Szd.moves (mv_take L _)).and fun _ _ => Szd.pure _ trivial) (Szd.pure (R := tru) _ trivial)).and fun k _ => (Szd.moves (mv_take L _)).and fun _ _ => Szd.lay _ (Nat.zero_le _) hcs
theorem sz_word (hB : L.length + 2 ≤ B) (m : Nat) (h : Szd B kd tru) (w : List UInt8) : Szd B (wordM L m kd w) tru := by
  unfold wordM
  split
  · refine (sz_bracket (by omega) m).and fun x _ => Szd.and (R := tru) ?_ fun i _ => Szd.lay _ (Nat.zero_le _) (Nat.zero_le _)
    split
    · exact sz_inner m h
    · exact Szd.pure _ trivial
  · repeat' split
    · exact (sz_inner m h).and fun i _ => Szd.lay _ (Nat.zero_le _) (Nat.zero_le _)
    · exact Szd.lay _ (Nat.zero_le _) (Nat.zero_le _)
    · exact Szd.lay _ (Nat.zero_le _) (Nat.zero_le _)
    · exact sz_choice hB m h
    · exact sz_array (by omega) m _ ⟨Nat.zero_le _, Nat.zero_le _⟩
theorem sz_kindF (hB : L.length + 2 ≤ B) (m : Nat) (h : Szd B kd tru) : Szd B (kindF L m kd) tru :=
  Szd.at ((sz_ref hB m).and fun t ht => sz_array (by omega) m t ht) (Szd.look (f := fun s => atM (startsV L ·) (stepM >>= fun _ => wordM L m kd (tk L s.i).t) (failM 4)) fun s => Szd.at ((Szd.moves mv_step).and fun _ _ => sz_word hB m h _) (Szd.fail _))
end
theorem sz_kind (hB : L.length + 2 ≤ B) : ∀ m, Szd B (kindM L m) tru
  | 0 => sz_kindF hB 0 (Szd.fail _)
  | m + 1 => sz_kindF hB _ (sz_kind hB m)
def itS (B : Nat) (x : IT) : Prop := x.subs.length ≤ B
def rcS (B : Nat) (r : RC) : Prop := r.ps.length ≤ B ∧ r.its.length ≤ B ∧ ∀ x ∈ r.its, itS B x
theorem sz_field (hB : L.length + 2 ≤ B) : Szd B (fieldM L) (itS B) :=
  (Szd.moves (mv_name L)).and fun w _ => (Szd.moves (mv_take L _)).and fun _ _ => (sz_kind hB 32).and fun t _ => (Szd.moves (mv_at (mv_and mv_step fun _ => mw_derived (L := L)) (mv_pure _))).and fun d _ =>
    (Szd.at ((Szd.moves mv_step).and fun _ _ => sz_expr (by omega) 32) (Szd.pure (R := tru) _ trivial)).and fun x _ => (Szd.moves (mv_take L _)).and fun _ _ => Szd.pure _ (Nat.zero_le _)
theorem sz_subs : ∀ n l, l.length + n ≤ B → Szd B (subsN L n l) (fun l => l.length ≤ B)
  | 0, l, h => Szd.pure _ (by omega)
  | n + 1, l, h => by
    rw [subsN]
    exact (Szd.moves (mv_roomIf _ _)).and fun _ _ => (Szd.moves (mv_name L)).and fun w _ => (Szd.moves (mv_take L _)).and fun _ _ => (Szd.moves (mv_number L)).and fun b _ => (Szd.moves (mv_take L _)).and fun _ _ =>
      Szd.at (sz_subs n _ (by rw [List.length_append, List.length_singleton]; omega)) (Szd.pure _ (by rw [List.length_append, List.length_singleton]; omega))
theorem sz_pack (hB : L.length + 2 ≤ B) : Szd B (packM L) (itS B) := by
  unfold packM
  refine (Szd.moves (mv_take L _)).and fun _ _ => fun s v s' hs he => ?_
  split at he
  · cases he
  · rename_i z lt _
    exact ((Szd.moves mv_step).and fun _ _ => (Szd.moves (mv_take L t_lcur)).and fun _ _ => (Szd.look fun s => sz_subs (L := L) (L.length - s.i + 1) [] (by show 0 + (L.length - s.i + 1) ≤ B; omega)).and fun l hl => (Szd.moves (mv_take L t_rcur)).and fun _ _ => Szd.pure (⟨[], -1, 0, [], [], -1, z, lt, l⟩ : IT) (R := itS B) hl) s v s' hs he
theorem sz_pars : ∀ n l, l.length + n ≤ B → Szd B (parsN L n l) (fun l => l.length ≤ B)
  | 0, l, h => Szd.pure _ (by omega)
  | n + 1, l, h => Szd.at ((Szd.moves mv_step).and fun _ _ => (Szd.moves (mv_roomIf _ _)).and fun _ _ => (Szd.moves (mv_name L)).and fun x _ => sz_pars n (l ++ [x]) (by rw [List.length_append, List.length_singleton]; omega)) (Szd.pure _ (by omega))
theorem sz_items (hB : L.length + 2 ≤ B) : ∀ n l, l.length + n ≤ B → (∀ x ∈ l, itS B x) → Szd B (itemsN L n l) (fun l => l.length ≤ B ∧ ∀ x ∈ l, itS B x)
  | 0, l, h, hi => Szd.pure _ ⟨by omega, hi⟩
  | n + 1, l, h, hi => Szd.at ((Szd.moves (mv_room _)).and fun _ _ => (Szd.at (sz_pack hB) (sz_field hB)).and fun x hx => sz_items hB n (l ++ [x]) (by rw [List.length_append, List.length_singleton]; omega) (fun y hy => by
      rcases List.mem_append.1 hy with hy | hy
      · exact hi y hy
      · rw [List.mem_singleton.1 hy]; exact hx)) (Szd.pure _ ⟨by omega, hi⟩)
theorem sz_record (hB : L.length + 2 ≤ B) : Szd B (recordM L) (rcS B) := by
  unfold recordM
  exact (Szd.moves (mv_take L _)).and fun _ _ => (Szd.moves (mv_name L)).and fun w _ =>
    (Szd.at ((Szd.moves mv_step).and fun _ _ => (Szd.moves (mv_name L)).and fun x _ => (Szd.look fun s => sz_pars (L := L) _ [x] (by show 1 + (L.length - s.i + 1) ≤ B; omega)).and fun l hl => (Szd.moves (mv_take L _)).and fun _ _ => Szd.pure l (R := fun l => l.length ≤ B) hl) (Szd.pure [] (R := fun l => l.length ≤ B) (Nat.zero_le _))).and fun ps hps =>
    (Szd.moves (mv_take L _)).and fun _ _ => (Szd.look fun s => sz_items hB _ [] (by show 0 + (L.length - s.i + 1) ≤ B; omega) (by simp)).and fun is his => (Szd.moves (mv_take L _)).and fun _ _ => Szd.pure (⟨w, ps, is⟩ : RC) (R := rcS B) ⟨hps, his.1, his.2⟩
theorem sz_whole (hB : L.length + 2 ≤ B) : ∀ n cs rs, cs.length + n ≤ B → rs.length + n ≤ B → (∀ r ∈ rs, rcS B r) → Szd B (wholeN L n cs rs) (fun p => p.1.length ≤ B ∧ p.2.length ≤ B ∧ ∀ r ∈ p.2, rcS B r)
  | 0, cs, rs, h1, h2, h3 => Szd.pure _ ⟨by show cs.length ≤ B; omega, by show rs.length ≤ B; omega, h3⟩
  | n + 1, cs, rs, h1, h2, h3 => Szd.at ((Szd.moves (mv_room _)).and fun _ _ => (Szd.moves (mw_const (L := L))).and fun c _ => sz_whole hB n _ rs (by rw [List.length_append, List.length_singleton]; omega) (by omega) h3)
    (Szd.at ((Szd.moves (mv_room _)).and fun _ _ => (sz_record hB).and fun r hr => sz_whole hB n cs _ (by omega) (by rw [List.length_append, List.length_singleton]; omega) (fun y hy => by
      rcases List.mem_append.1 hy with hy | hy
      · exact h3 y hy
      · rw [List.mem_singleton.1 hy]; exact hr))
    (Szd.at (Szd.pure _ ⟨by show cs.length ≤ B; omega, by show rs.length ≤ B; omega, h3⟩) (Szd.fail _)))
theorem file_sized {cs : List CO} {rs : List RC} {xs : List EX} {ts : List TY} (hB : L.length + 2 ≤ B) (h : fileV (.ok L) = .ok cs rs xs ts) : GoodS B ⟨0, xs, ts⟩ ∧ cs.length ≤ B ∧ rs.length ≤ B ∧ ∀ r ∈ rs, rcS B r := by
  unfold fileV at h
  dsimp only at h
  split at h
  · rename_i c r s hw
    cases h
    obtain ⟨h1, h2⟩ := sz_whole hB (L.length + 1) [] [] (by show 0 + (L.length + 1) ≤ B; omega) (by show 0 + (L.length + 1) ≤ B; omega) (by simp) ⟨0, [], []⟩ _ _ ⟨by simp, by simp⟩ hw
    exact ⟨⟨h1.x, h1.t⟩, h2⟩
  · cases h
end
end Go.Proofs.YtkbhmcdoedmffaaGreatDoor

namespace Go.Proofs.YtkbhmcdoedmffaaGreatDoor
open Go.RowKit
section
variable {P : Program}
def EqT (P : Program) (d : Nat) (t : TypeId) (x y : Value) (c : Bool) : Prop := ∀ w, (Op.equalIn d t x y).run P w = .ok c w
def EqFs (P : Program) (d : Nat) (xs ys : List Value) (fs : List Field) (c : Bool) : Prop := ∀ w, (Op.eqFields d xs.toArray ys.toArray fs).run P w = .ok c w
def PartI (P : Program) (t : TypeId) (xs : List Value) (off : Nat) (x : Value) : Prop := ∀ w, (part t xs.toArray off).run P w = .ok x w
theorem EqT.int {d : Nat} {t : TypeId} {k k' : IntKind} {a b : Int} (h : P.underlying t = some (.int k')) : EqT P (d + 1) t (.int k a) (.int k b) (decide (a = b)) := fun w => by
  rw [run_equalIn_int w d t k k' a b h]
  rfl
theorem EqT.str {d : Nat} {t : TypeId} {a b : ByteArray} (h : P.underlying t = some .string) : EqT P (d + 1) t (.string a) (.string b) (decide (a = b)) := fun w => by
  rw [run_equalIn_string w d t a b h, bytes_eq]
theorem EqT.bool {d : Nat} {t : TypeId} {a b : Bool} (h : P.underlying t = some .bool) : EqT P (d + 1) t (.bool a) (.bool b) (decide (a = b)) := fun w => by
  rw [run_equalIn_bool' w d t a b h]
  cases a <;> cases b <;> rfl
theorem EqT.st {d : Nat} {t : TypeId} {fs : Array Field} {xs ys : List Value} {c : Bool} (hu : P.underlying t = some (.struct fs)) (hp : P.stoodInHeld t = false) (h : EqFs P d xs ys fs.toList c) : EqT P (d + 1) t (.agg xs.toArray) (.agg ys.toArray) c := fun w => by
  have hf : P.fieldsOf t = fs := by unfold Program.fieldsOf; rw [hu]
  rw [run_equalIn_struct w d t _ _ (by rw [hf]; exact hu) hp, hf]
  exact h w
def fieldsK (P : Program) (t : TypeId) : List (Bool × Nat × Nat) := (P.fieldsOf t).toList.map fun f => (f.name != "_", f.type, f.offset)
def EqKs (P : Program) (d : Nat) (xs ys : List Value) (ks : List (Bool × Nat × Nat)) (c : Bool) : Prop := ∀ fs : List Field, fs.map (fun f => (f.name != "_", f.type, f.offset)) = ks → EqFs P d xs ys fs c
theorem EqT.stk {d : Nat} {t : TypeId} {xs ys : List Value} {c : Bool} (ks : List (Bool × Nat × Nat)) (hk : fieldsK P t = ks) (hs : (match P.underlying t with | some (.struct _) => true | _ => false) = true) (hp : P.stoodInHeld t = false) (h : EqKs P d xs ys ks c) : EqT P (d + 1) t (.agg xs.toArray) (.agg ys.toArray) c := by
  split at hs
  · rename_i fs hu
    refine EqT.st hu hp (h _ ?_)
    have hf : P.fieldsOf t = fs := by unfold Program.fieldsOf; rw [hu]
    rw [← hk, ← hf]; rfl
  · cases hs
theorem EqKs.nil {d : Nat} {xs ys : List Value} : EqKs P d xs ys [] true := fun fs h => by
  rw [List.map_eq_nil_iff] at h
  subst h
  exact fun w => rfl
theorem EqFs.cons {d : Nat} {xs ys : List Value} {f : Field} {fs : List Field} {x y : Value} {b c : Bool} (hn : (f.name != "_") = true) (hx : PartI P f.type xs f.offset x) (hy : PartI P f.type ys f.offset y) (h1 : EqT P d f.type x y b) (h2 : EqFs P d xs ys fs c) : EqFs P d xs ys (f :: fs) (b && c) := fun w => by
  have hn' : f.name ≠ "_" := by simpa using hn
  rw [Op.eqFields, if_pos hn']
  simp only [Sem.run_bind]
  rw [hx w, Result.andThen_ok, hy w, Result.andThen_ok, h1 w, Result.andThen_ok]
  cases b
  · simp
  · simp only [Bool.not_true, Bool.false_eq_true, if_false, Bool.true_and]
    exact h2 w
theorem EqKs.cons {d t off : Nat} {xs ys : List Value} {ks : List (Bool × Nat × Nat)} {x y : Value} {b c : Bool} (hx : PartI P t xs off x) (hy : PartI P t ys off y) (h1 : EqT P d t x y b) (h2 : EqKs P d xs ys ks c) : EqKs P d xs ys ((true, t, off) :: ks) (b && c) := fun fs h => by
  rcases fs with _ | ⟨f, fs⟩
  · cases h
  · rw [List.map_cons] at h
    injection h with e h
    injection e with e1 e
    injection e with e2 e3
    subst e2
    subst e3
    exact EqFs.cons e1 hx hy h1 (h2 fs h)
def isAggB (P : Program) (t : TypeId) : Bool := match P.underlying t with
  | some (.struct _) | some (.array _ _) => true
  | _ => false
theorem PartI.one {t : TypeId} {xs : List Value} {off : Nat} {x : Value} {dsc : TypeDesc} (hu : P.underlying t = some dsc) (ha : isAggB P t = false) (hx : xs[off]? = some x) : PartI P t xs off x := fun w => by
  unfold isAggB at ha
  rw [hu] at ha
  unfold part isAgg
  simp only [Sem.run_bind, run_underlying hu, Result.andThen_ok]
  cases dsc <;> first | (cases ha; done) | (simp [hx]; done)
theorem PartI.agg {t : TypeId} {xs : List Value} {off n : Nat} {ys : List Value} {dsc : TypeDesc} {i : TypeInfo} (hu : P.underlying t = some dsc) (ha : isAggB P t = true) (hi : P.info? t = some i) (hn : i.size = n) (hx : (xs.drop off).take n = ys) : PartI P t xs off (.agg ys.toArray) := fun w => by
  unfold isAggB at ha
  rw [hu] at ha
  have h1 : ∀ w, (isAgg t).run P w = .ok true w := fun w => by
    unfold isAgg
    simp only [Sem.run_bind, run_underlying hu, Result.andThen_ok]
    cases dsc <;> first | (cases ha; done) | rfl
  have h2 : ∀ w, (sizeOf t).run P w = .ok n w := fun w => by
    unfold sizeOf
    simp [typeInfo, hi, hn]
  unfold part
  simp only [Sem.run_bind, h1, h2, Result.andThen_ok, if_true]
  rw [← hx]
  simp [List.extract_eq_take_drop]
def leafI (xs ys : List Value) : Option Bool := match xs, ys with
  | [.int k a], [.int k' b] => if k = k' then some (decide (a = b)) else none
  | _, _ => none
def leafS (xs ys : List Value) : Option Bool := match xs, ys with
  | [.string a], [.string b] => some (decide (a = b))
  | _, _ => none
def leafB (xs ys : List Value) : Option Bool := match xs, ys with
  | [.bool a], [.bool b] => some (decide (a = b))
  | _, _ => none
theorem leafI_ok {xs ys : List Value} {c : Bool} (h : leafI xs ys = some c) : ∃ k a b, xs = [.int k a] ∧ ys = [.int k b] ∧ c = decide (a = b) := by
  unfold leafI at h
  split at h
  · split at h
    · rename_i e; subst e; injection h with h; exact ⟨_, _, _, rfl, rfl, h.symm⟩
    · cases h
  · cases h
theorem leafS_ok {xs ys : List Value} {c : Bool} (h : leafS xs ys = some c) : ∃ a b, xs = [.string a] ∧ ys = [.string b] ∧ c = decide (a = b) := by
  unfold leafS at h
  split at h
  · injection h with h; exact ⟨_, _, rfl, rfl, h.symm⟩
  · cases h
theorem leafB_ok {xs ys : List Value} {c : Bool} (h : leafB xs ys = some c) : ∃ a b, xs = [.bool a] ∧ ys = [.bool b] ∧ c = decide (a = b) := by
  unfold leafB at h
  split at h
  · injection h with h; exact ⟨_, _, rfl, rfl, h.symm⟩
  · cases h
def eqV (P : Program) : Nat → TypeId → List Value → List Value → Option Bool
  | 0, _, _, _ => none
  | d + 1, t, xs, ys => match P.underlying t with
    | some (.int _) => leafI xs ys
    | some .string => leafS xs ys
    | some .bool => leafB xs ys
    | some (.struct fs) => match P.stoodInHeld t, P.info? t with
      | false, some _ => fs.toList.foldr (fun f r => match f.name != "_", eqV P d f.type ((xs.drop f.offset).take (P.cellsOf f.type)) ((ys.drop f.offset).take (P.cellsOf f.type)), r with
        | true, some b, some c => some (b && c)
        | _, _, _ => none) (some true)
      | _, _ => none
    | some (.array n e) => match P.info? e, P.info? t with
      | some _, some _ => (List.range n).foldr (fun i r => match eqV P d e ((xs.drop (i * P.cellsOf e)).take (P.cellsOf e)) ((ys.drop (i * P.cellsOf e)).take (P.cellsOf e)), r with
        | some b, some c => some (b && c)
        | _, _ => none) (some true)
      | _, _ => none
    | _ => none
def packV (P : Program) (t : TypeId) (xs : List Value) : Value := match isAggB P t with
  | true => .agg xs.toArray
  | false => xs.headD undef
theorem part_pack {t : TypeId} {xs : List Value} {off : Nat} {dsc : TypeDesc} {i : TypeInfo} (hu : P.underlying t = some dsc) (hi : P.info? t = some i) (h1 : isAggB P t = true ∨ ((xs.drop off).take (P.cellsOf t)) ≠ []) : PartI P t xs off (packV P t ((xs.drop off).take (P.cellsOf t))) := by
  have hc : P.cellsOf t = i.size := by unfold Program.cellsOf; rw [hi]; rfl
  unfold packV
  cases ha : isAggB P t with
  | true => exact PartI.agg hu ha hi rfl (by rw [hc])
  | false =>
    refine PartI.one hu ha ?_
    rcases h1 with h1 | h1
    · rw [ha] at h1; cases h1
    · cases hd : xs.drop off with
      | nil => rw [hd] at h1; simp at h1
      | cons x l =>
        cases hn : P.cellsOf t with
        | zero => rw [hn] at h1; simp at h1
        | succ n =>
          have := congrArg (·[0]?) hd
          simpa using this
theorem eqV_some {d : Nat} {t : TypeId} {xs ys : List Value} {c : Bool} (h : eqV P d t xs ys = some c) : (∃ dsc i, P.underlying t = some dsc ∧ P.info? t = some i) ∧ (isAggB P t = true ∨ xs ≠ [] ∧ ys ≠ []) := by
  cases d with
  | zero => cases h
  | succ d =>
    have hinf : ∀ dsc, P.underlying t = some dsc → ∃ i, P.info? t = some i := fun dsc hu => info_of_underlying hu
    rw [eqV] at h
    split at h
    · rename_i hu
      obtain ⟨i, hi⟩ := hinf _ hu
      refine ⟨⟨_, i, hu, hi⟩, .inr ?_⟩
      obtain ⟨_, _, _, rfl, rfl, -⟩ := leafI_ok h
      simp
    · rename_i hu
      obtain ⟨i, hi⟩ := hinf _ hu
      refine ⟨⟨_, i, hu, hi⟩, .inr ?_⟩
      obtain ⟨_, _, rfl, rfl, -⟩ := leafS_ok h
      simp
    · rename_i hu
      obtain ⟨i, hi⟩ := hinf _ hu
      refine ⟨⟨_, i, hu, hi⟩, .inr ?_⟩
      obtain ⟨_, _, rfl, rfl, -⟩ := leafB_ok h
      simp
    · rename_i hu
      obtain ⟨i, hi⟩ := hinf _ hu
      exact ⟨⟨_, i, hu, hi⟩, .inl (by unfold isAggB; rw [hu])⟩
    · rename_i hu
      obtain ⟨i, hi⟩ := hinf _ hu
      exact ⟨⟨_, i, hu, hi⟩, .inl (by unfold isAggB; rw [hu])⟩
    · cases h
theorem eqV_ok : ∀ (d : Nat) (t : TypeId) (xs ys : List Value) (c : Bool), eqV P d t xs ys = some c → ∀ dd, d ≤ dd → EqT P dd t (packV P t xs) (packV P t ys) c
  | 0, _, _, _, _, h, _, _ => by cases h
  | d + 1, t, xs, ys, c, h, dd, hdd => by
    obtain ⟨dd, rfl⟩ : ∃ k, dd = k + 1 := ⟨dd - 1, by omega⟩
    have hd : d ≤ dd := by omega
    have step : ∀ (t : TypeId) (off : Nat) (c : Bool), eqV P d t ((xs.drop off).take (P.cellsOf t)) ((ys.drop off).take (P.cellsOf t)) = some c →
        ∃ x y, PartI P t xs off x ∧ PartI P t ys off y ∧ EqT P dd t x y c := fun t off c h => by
      obtain ⟨⟨dsc, i, hu, hi⟩, h2⟩ := eqV_some h
      exact ⟨_, _, part_pack hu hi (h2.imp id (·.1)), part_pack hu hi (h2.imp id (·.2)), eqV_ok d t _ _ c h dd hd⟩
    rw [eqV] at h
    split at h
    · rename_i k hu
      have ha : isAggB P t = false := by unfold isAggB; rw [hu]
      obtain ⟨_, _, _, rfl, rfl, rfl⟩ := leafI_ok h
      unfold packV; rw [ha]
      exact EqT.int hu
    · rename_i hu
      have ha : isAggB P t = false := by unfold isAggB; rw [hu]
      obtain ⟨_, _, rfl, rfl, rfl⟩ := leafS_ok h
      unfold packV; rw [ha]
      exact EqT.str hu
    · rename_i hu
      have ha : isAggB P t = false := by unfold isAggB; rw [hu]
      obtain ⟨_, _, rfl, rfl, rfl⟩ := leafB_ok h
      unfold packV; rw [ha]
      exact EqT.bool hu
    · rename_i fs hu
      have ha : isAggB P t = true := by unfold isAggB; rw [hu]
      unfold packV; rw [ha]
      split at h
      · rename_i hp hi
        refine EqT.st hu hp ?_
        generalize fs.toList = l at h
        induction l generalizing c with
        | nil => injection h with h; subst h; exact fun w => rfl
        | cons f l ih =>
          rw [List.foldr_cons] at h
          split at h
          · rename_i b c' hn hb hc
            injection h with h; subst h
            obtain ⟨x, y, h1, h2, h3⟩ := step f.type f.offset b hb
            exact EqFs.cons hn h1 h2 h3 (ih c' hc)
          · cases h
      · cases h
    · rename_i n e hu
      have ha : isAggB P t = true := by unfold isAggB; rw [hu]
      unfold packV; rw [ha]
      split at h
      · rename_i i i' hi hi'
        intro w
        rw [run_equalIn_array w dd xs.toArray ys.toArray hu hi]
        revert w
        generalize List.range n = l at h
        induction l generalizing c with
        | nil => injection h with h; subst h; exact fun w => rfl
        | cons j l ih =>
          intro w
          rw [List.foldr_cons] at h
          split at h
          · rename_i b c' hb hc
            injection h with h; subst h
            obtain ⟨x, y, h1, h2, h3⟩ := step e (j * P.cellsOf e) b hb
            rw [Op.eqItems]
            simp only [Sem.run_bind]
            rw [h1 w, Result.andThen_ok, h2 w, Result.andThen_ok, h3 w, Result.andThen_ok]
            have := ih c' hc w
            cases b
            · simp
            · simpa using this
          · cases h
      · cases h
    · cases h
theorem eqV_self : ∀ (d : Nat) (t : TypeId) (xs : List Value) (c : Bool), eqV P d t xs xs = some c → c = true
  | 0, _, _, _, h => by cases h
  | d + 1, t, xs, c, h => by
    rw [eqV] at h
    split at h
    · obtain ⟨k, a, b, e1, e2, e3⟩ := leafI_ok h
      rw [e1] at e2
      cases e2
      rw [e3]; simp
    · obtain ⟨a, b, e1, e2, e3⟩ := leafS_ok h
      rw [e1] at e2
      cases e2
      rw [e3]; simp
    · obtain ⟨a, b, e1, e2, e3⟩ := leafB_ok h
      rw [e1] at e2
      cases e2
      rw [e3]; simp
    · split at h
      · rename_i fs _ _ _ _ _ _
        generalize fs.toList = l at h
        induction l generalizing c with
        | nil => injection h with h; exact h.symm
        | cons f l ih =>
          rw [List.foldr_cons] at h
          split at h
          · rename_i b c' hn hb hc
            injection h with h
            rw [← h, eqV_self d _ _ _ hb, ih c' hc]; rfl
          · cases h
      · cases h
    · split at h
      · rename_i n e _ _ _ _ _ _ _
        generalize List.range n = l at h
        induction l generalizing c with
        | nil => injection h with h; exact h.symm
        | cons f l ih =>
          rw [List.foldr_cons] at h
          split at h
          · rename_i b c' hb hc
            injection h with h
            rw [← h, eqV_self d _ _ _ hb, ih c' hc]; rfl
          · cases h
      · cases h
    · cases h
theorem eq_two {t : TypeId} {xs ys : List Value} {c : Bool} (h : eqV P 20 t xs ys = some c) (ha : isAggB P t = true) : ∀ w, (Op.equal t (.agg xs.toArray) (.agg ys.toArray)).run P w = .ok c w := fun w => by
  have := eqV_ok 20 t xs ys c h 10000 (by omega) w
  unfold packV at this
  rw [ha] at this
  exact this
theorem eq_same {t : TypeId} {xs : List Value} (h : (eqV P 20 t xs xs).isSome = true) (ha : isAggB P t = true) : ∀ w, (Op.equal t (.agg xs.toArray) (.agg xs.toArray)).run P w = .ok true w := by
  obtain ⟨c, hc⟩ := Option.isSome_iff_exists.1 h
  have := eqV_self 20 t xs c hc
  subst this
  exact eq_two hc ha
end
theorem ex_agg {g : Prop} {Q K : Bool → Prop} (hg : g) (c : Bool) (he : Q c) (h : K c) : g ∧ ∃ c, Q c ∧ K c := ⟨hg, c, he, h⟩
end Go.Proofs.YtkbhmcdoedmffaaGreatDoor

namespace Go.Proofs.YtkbhmcdoedmffaaGreatDoor
open Go.RowKit
theorem eqPos (a b c d : Int) (n : Nat) : EqT Tryz.prog (n + 2) 24 (.agg #[.int .i64 a, .int .i64 b]) (.agg #[.int .i64 c, .int .i64 d]) (decide (a = c) && (decide (b = d) && true)) :=
  EqT.stk (xs := [.int .i64 a, .int .i64 b]) (ys := [.int .i64 c, .int .i64 d]) [(true, 3, 0), (true, 3, 1)] (by kernel_rfl) (by kernel_rfl) (by kernel_rfl)
    (EqKs.cons (PartI.one rfl (by kernel_rfl) rfl) (PartI.one rfl (by kernel_rfl) rfl) (EqT.int rfl) (EqKs.cons (PartI.one rfl (by kernel_rfl) rfl) (PartI.one rfl (by kernel_rfl) rfl) (EqT.int rfl) EqKs.nil))
theorem eqPosT (a b : Int) : ∀ w, (Op.equal 24 (.agg [.int .i64 a, .int .i64 b].toArray) (.agg [.int .i64 a, .int .i64 b].toArray)).run Tryz.prog w = .ok true w := fun w => by
  have h := eqPos a b a b 9998 w
  rw [decide_eq_true rfl, decide_eq_true rfl] at h
  exact h
end Go.Proofs.YtkbhmcdoedmffaaGreatDoor

namespace Go.Proofs.YtkbhmcdoedmffaaGreatDoor
open Go.RowKit

theorem lints_c (l : List Int) (hl : l.length ≤ 1000000) : CallsA Tryz.prog ΓL 33 [c1 (intsD l), c1 (intsD l)] (Tb true) := by
  have hm : (l.map fun k => [di k]).length = l.length := List.length_map _
  unfold intsD
  refine fn_rule (C := ⟨Tryz.prog, layF, Tryz.f33.ntmps, ΓL, 0, [], []⟩) layF_ok mixed Tryz.func33 rfl (by kernel_rfl) rfl rfl rfl ?_
  repeat' (first | refine (ex_is _ hm) ?_ | refine tT ?_ | refine tF ?_ | refine ex_dec (fun _ => ?_) (fun _ => ?_) | refine t8 ?_ | refine tI ?_ | refine tU ?_ | refine tA ?_ | refine tB ?_ | refine tL ?_ | refine tN ?_ | fail "no step")
  refine ex_loop (X := Nat) (fun q => ⟨[(0, .o (c1 (.sl 1 (l.map fun k => [di k])))), (1, .o (c1 (.sl 1 (l.map fun k => [di k])))), (12, Ti l.length), (13, Ti q)], [], 0⟩) (fun q => l.length - q) (fun q => q ≤ l.length) 0 (Nat.zero_le _) (SLe.of ⟨⟨rfl, rfl, rfl, rfl, trivial⟩, trivial⟩) ?_
  intro q hq
  refine ex_dec (fun h => ?_) (fun h => ?_)
  · have hql : q < l.length := by omega
    have hx : l[q]? = some l[q] := at_some hql
    generalize l[q] = x at *
    repeat' (first | refine ex_i64 ((q + 1 : Nat) : Int) (by omega) (by omega) (by omega) ?_ | refine ex_u64 ((q + 1 : Nat) : Int) (by omega) (by omega) (by omega) ?_ | refine ex_u8 ((q + 1 : Nat) : Int) (by omega) (by omega) (by omega) ?_ | refine (ex_row q x rfl hx) ?_ | refine tT ?_ | refine tF ?_ | refine ex_dec (fun _ => ?_) (fun _ => ?_) | refine t8 ?_ | refine tI ?_ | refine tU ?_ | refine tA ?_ | refine tB ?_ | refine tL ?_ | refine tN ?_ | fail "no step")
    exact ex_round (q + 1) (by show q + 1 ≤ l.length; omega) (by show _ - _ < _ - _; omega) (SLe.of ⟨⟨rfl, rfl, rfl, rfl, trivial⟩, trivial⟩)
  · repeat' (first | refine tT ?_ | refine tF ?_ | refine ex_dec (fun _ => ?_) (fun _ => ?_) | refine t8 ?_ | refine tI ?_ | refine tU ?_ | refine tA ?_ | refine tB ?_ | refine tL ?_ | refine tN ?_ | fail "no step")
    exact TLe.rfl
theorem lwords_c (l : List (List UInt8)) (hl : l.length ≤ 1000000) : CallsA Tryz.prog ΓL 35 [c1 (.sl 1 (l.map fun p => [ds (bs p)])), c1 (.sl 1 (l.map fun p => [ds (bs p)]))] (Tb true) := by
  have hm : (l.map fun p => [ds (bs p)]).length = l.length := List.length_map _
  refine fn_rule (C := ⟨Tryz.prog, layF, Tryz.f35.ntmps, ΓL, 0, [], []⟩) layF_ok mixed Tryz.func35 rfl (by kernel_rfl) rfl rfl rfl ?_
  repeat' (first | refine (ex_is _ hm) ?_ | refine tT ?_ | refine tF ?_ | refine ex_dec (fun _ => ?_) (fun _ => ?_) | refine t8 ?_ | refine tI ?_ | refine tU ?_ | refine tA ?_ | refine tB ?_ | refine tL ?_ | refine tN ?_ | fail "no step")
  refine ex_loop (X := Nat) (fun q => ⟨[(0, .o (c1 (.sl 1 (l.map fun p => [ds (bs p)])))), (1, .o (c1 (.sl 1 (l.map fun p => [ds (bs p)])))), (12, Ti l.length), (13, Ti q)], [], 0⟩) (fun q => l.length - q) (fun q => q ≤ l.length) 0 (Nat.zero_le _) (SLe.of ⟨⟨rfl, rfl, rfl, rfl, trivial⟩, trivial⟩) ?_
  intro q hq
  refine ex_dec (fun h => ?_) (fun h => ?_)
  · have hql : q < l.length := by omega
    have hx : l[q]? = some l[q] := at_some hql
    generalize l[q] = x at *
    repeat' (first | refine ex_i64 ((q + 1 : Nat) : Int) (by omega) (by omega) (by omega) ?_ | refine ex_u64 ((q + 1 : Nat) : Int) (by omega) (by omega) (by omega) ?_ | refine ex_u8 ((q + 1 : Nat) : Int) (by omega) (by omega) (by omega) ?_ | refine (ex_row q x rfl hx) ?_ | refine tT ?_ | refine tF ?_ | refine ex_dec (fun _ => ?_) (fun _ => ?_) | refine t8 ?_ | refine tI ?_ | refine tU ?_ | refine tA ?_ | refine tB ?_ | refine tL ?_ | refine tN ?_ | fail "no step")
    exact ex_round (q + 1) (by show q + 1 ≤ l.length; omega) (by show _ - _ < _ - _; omega) (SLe.of ⟨⟨rfl, rfl, rfl, rfl, trivial⟩, trivial⟩)
  · repeat' (first | refine tT ?_ | refine tF ?_ | refine ex_dec (fun _ => ?_) (fun _ => ?_) | refine t8 ?_ | refine tI ?_ | refine tU ?_ | refine tA ?_ | refine tB ?_ | refine tL ?_ | refine tN ?_ | fail "no step")
    exact TLe.rfl
theorem lsameItem_c (x : IT) (hl : itS 1000000 x) : CallsA Tryz.prog ΓL 36 [gD (itD x), gD (itD x)] (Tb true) := by
  obtain ⟨nm, ty, der, a, b, wh, size, little, l⟩ := x
  have hl : l.length ≤ 1000000 := hl
  have hm : (l.map sbD).length = l.length := List.length_map _
  unfold itD
  dsimp only
  obtain ⟨F, hF⟩ : ∃ F : Blk, .obj [.d (ds (bs nm)), .d (di ty), .d (di der), .d (ds (bs a)), .d (ds (bs b)), .d (di wh), .d (di size), .d (db little), .d (.sl 2 (l.map sbD))] = F := ⟨_, rfl⟩
  refine fn_rule (C := ⟨Tryz.prog, layF, Tryz.f36.ntmps, ΓL, 0, [], []⟩) layF_ok mixed Tryz.func36 rfl (by kernel_rfl) rfl rfl rfl ?_
  repeat' (first | refine (ex_is _ hm) ?_ | refine tT ?_ | refine tF ?_ | refine ex_dec (fun _ => ?_) (fun _ => ?_) | refine t8 ?_ | refine tI ?_ | refine tU ?_ | refine tA ?_ | refine tB ?_ | refine tL ?_ | refine tN ?_ | fail "no step")
  refine ex_loop (X := Nat) (fun q => ⟨[(2, .o (.c (.ptr 0 0))), (3, .o (.c (.ptr 1 0))), (71, Ti l.length), (72, Ti q)], [(0, F), (1, F)], 2⟩) (fun q => l.length - q) (fun q => q ≤ l.length) 0 (Nat.zero_le _) (by subst hF; exact (SLe.of ⟨⟨rfl, rfl, rfl, rfl, trivial⟩, ⟨rfl, rfl, trivial⟩⟩)) ?_
  subst hF
  intro q hq
  refine ex_dec (fun h => ?_) (fun h => ?_)
  · have hql : q < l.length := by omega
    have hx : l[q]? = some l[q] := at_some hql
    generalize l[q] = x at *
    obtain ⟨n, k⟩ := x
    repeat' (first | refine ex_i64 ((q + 1 : Nat) : Int) (by omega) (by omega) (by omega) ?_ | refine ex_u64 ((q + 1 : Nat) : Int) (by omega) (by omega) (by omega) ?_ | refine ex_u8 ((q + 1 : Nat) : Int) (by omega) (by omega) (by omega) ?_ | refine (ex_agg (by kernel_rfl) true (eq_same (by kernel_rfl) (by kernel_rfl))) ?_ | refine (ex_row q (⟨n, k⟩ : SB) rfl hx) ?_ | refine tT ?_ | refine tF ?_ | refine ex_dec (fun _ => ?_) (fun _ => ?_) | refine t8 ?_ | refine tI ?_ | refine tU ?_ | refine tA ?_ | refine tB ?_ | refine tL ?_ | refine tN ?_ | fail "no step")
    exact ex_round (q + 1) (by show q + 1 ≤ l.length; omega) (by show _ - _ < _ - _; omega) (SLe.of ⟨⟨rfl, rfl, rfl, rfl, trivial⟩, ⟨rfl, rfl, trivial⟩⟩)
  · repeat' (first | refine tT ?_ | refine tF ?_ | refine ex_dec (fun _ => ?_) (fun _ => ?_) | refine t8 ?_ | refine tI ?_ | refine tU ?_ | refine tA ?_ | refine tB ?_ | refine tL ?_ | refine tN ?_ | fail "no step")
    exact TLe.rfl
theorem lsameType_c (t : TY) (hl : tyS 1000000 t) : CallsA Tryz.prog ΓL 34 [gD (tyD t), gD (tyD t)] (Tb true) := by
  obtain ⟨k, size, little, nm, args, ex, inn, l⟩ := t
  obtain ⟨h1, hl⟩ := hl
  have hl : l.length ≤ 1000000 := hl
  have hm : (l.map caD).length = l.length := List.length_map _
  have hin := lints_c args h1
  unfold tyD
  dsimp only
  obtain ⟨F, hF⟩ : ∃ F : Blk, .obj [.d (di k), .d (di size), .d (db little), .d (ds (bs nm)), .d (intsD args), .d (di ex), .d (di inn), .d (.sl 2 (l.map caD))] = F := ⟨_, rfl⟩
  refine fn_rule (C := ⟨Tryz.prog, layF, Tryz.f34.ntmps, ΓL, 0, [], []⟩) layF_ok mixed Tryz.func34 rfl (by kernel_rfl) rfl rfl rfl ?_
  repeat' (first | refine ex_call hin ?_ | refine (ex_is _ hm) ?_ | refine tT ?_ | refine tF ?_ | refine ex_dec (fun _ => ?_) (fun _ => ?_) | refine t8 ?_ | refine tI ?_ | refine tU ?_ | refine tA ?_ | refine tB ?_ | refine tL ?_ | refine tN ?_ | fail "no step")
  refine ex_loop (X := Nat) (fun q => ⟨[(2, .o (.c (.ptr 0 0))), (3, .o (.c (.ptr 1 0))), (65, Ti l.length), (66, Ti q)], [(0, F), (1, F)], 2⟩) (fun q => l.length - q) (fun q => q ≤ l.length) 0 (Nat.zero_le _) (by subst hF; exact (SLe.of ⟨⟨rfl, rfl, rfl, rfl, trivial⟩, ⟨rfl, rfl, trivial⟩⟩)) ?_
  subst hF
  intro q hq
  refine ex_dec (fun h => ?_) (fun h => ?_)
  · have hql : q < l.length := by omega
    have hx : l[q]? = some l[q] := at_some hql
    generalize l[q] = x at *
    obtain ⟨n, k⟩ := x
    repeat' (first | refine ex_i64 ((q + 1 : Nat) : Int) (by omega) (by omega) (by omega) ?_ | refine ex_u64 ((q + 1 : Nat) : Int) (by omega) (by omega) (by omega) ?_ | refine ex_u8 ((q + 1 : Nat) : Int) (by omega) (by omega) (by omega) ?_ | refine (ex_agg (by kernel_rfl) true (eq_same (by kernel_rfl) (by kernel_rfl))) ?_ | refine (ex_row q (⟨n, k⟩ : CA) rfl hx) ?_ | refine tT ?_ | refine tF ?_ | refine ex_dec (fun _ => ?_) (fun _ => ?_) | refine t8 ?_ | refine tI ?_ | refine tU ?_ | refine tA ?_ | refine tB ?_ | refine tL ?_ | refine tN ?_ | fail "no step")
    exact ex_round (q + 1) (by show q + 1 ≤ l.length; omega) (by show _ - _ < _ - _; omega) (SLe.of ⟨⟨rfl, rfl, rfl, rfl, trivial⟩, ⟨rfl, rfl, trivial⟩⟩)
  · repeat' (first | refine tT ?_ | refine tF ?_ | refine ex_dec (fun _ => ?_) (fun _ => ?_) | refine t8 ?_ | refine tI ?_ | refine tU ?_ | refine tA ?_ | refine tB ?_ | refine tL ?_ | refine tN ?_ | fail "no step")
    exact TLe.rfl
set_option maxHeartbeats 4000000 in
theorem lsameFile_c (cs : List CO) (rs : List RC) (xs : List EX) (ts : List TY) (hc : cs.length ≤ 1000000) (hr : rs.length ≤ 1000000) (hxl : xs.length ≤ 1000000) (htl : ts.length ≤ 1000000) (hx : ∀ e ∈ xs, e.kids.length ≤ 1000000) (ht : ∀ t ∈ ts, tyS 1000000 t) (hrc : ∀ r ∈ rs, rcS 1000000 r) :
    CallsA Tryz.prog ΓL 11 [.c (.eptr (fileD cs rs xs ts)), gD (fileD cs rs xs ts)] (Tb true) := by
  have mc : (cs.map coD).length = cs.length := List.length_map _
  have mr : (rs.map rcD).length = rs.length := List.length_map _
  have mx : (xs.map exD).length = xs.length := List.length_map _
  have mt : (ts.map tyD).length = ts.length := List.length_map _
  obtain ⟨F, hF⟩ : ∃ F : Blk, .obj [.d (.sl 2 (cs.map coD)), .d (.sl 3 (rs.map rcD)), .d (.sl 5 (xs.map exD)), .d (.sl 8 (ts.map tyD))] = F := ⟨_, rfl⟩
  refine fn_rule (C := ⟨Tryz.prog, layF, Tryz.f11.ntmps, ΓL, 0, [], []⟩) layF_ok mixed Tryz.func11 rfl (by kernel_rfl) rfl rfl rfl ?_
  repeat' (first | refine (ex_is _ mt) ?_ | refine (ex_is _ mx) ?_ | refine (ex_is _ mr) ?_ | refine (ex_is _ mc) ?_ | refine (ex_pn (by kernel_rfl) false (fun _ _ => by kernel_rfl)) ?_ | refine tT ?_ | refine tF ?_ | refine ex_dec (fun _ => ?_) (fun _ => ?_) | refine t8 ?_ | refine tI ?_ | refine tU ?_ | refine tA ?_ | refine tB ?_ | refine tL ?_ | refine tN ?_ | fail "no step")
  refine ex_loop (X := Nat) (fun q => ⟨[(0, .o (.c (.eptr (fileD cs rs xs ts)))), (3, .o (.c (.ptr 0 0))), (64, Ti cs.length), (65, Ti q)], [(0, F)], 1⟩) (fun q => cs.length - q) (fun q => q ≤ cs.length) 0 (Nat.zero_le _) (by subst hF; exact (SLe.of ⟨⟨rfl, rfl, rfl, rfl, trivial⟩, ⟨rfl, trivial⟩⟩)) ?_
  intro q hq
  refine ex_dec (fun h => ?_) (fun h => ?_)
  · have hql : q < cs.length := by omega
    have hx : cs[q]? = some cs[q] := at_some hql
    generalize cs[q] = x at *
    obtain ⟨n, k⟩ := x
    subst hF
    repeat' (first | refine ex_i64 ((q + 1 : Nat) : Int) (by omega) (by omega) (by omega) ?_ | refine ex_u64 ((q + 1 : Nat) : Int) (by omega) (by omega) (by omega) ?_ | refine ex_u8 ((q + 1 : Nat) : Int) (by omega) (by omega) (by omega) ?_ | refine (ex_agg (by kernel_rfl) true (eq_same (by kernel_rfl) (by kernel_rfl))) ?_ | refine (ex_row q (⟨n, k⟩ : CO) rfl hx) ?_ | refine tT ?_ | refine tF ?_ | refine ex_dec (fun _ => ?_) (fun _ => ?_) | refine t8 ?_ | refine tI ?_ | refine tU ?_ | refine tA ?_ | refine tB ?_ | refine tL ?_ | refine tN ?_ | fail "no step")
    exact ex_round (q + 1) (by show q + 1 ≤ cs.length; omega) (by show _ - _ < _ - _; omega) (SLe.of ⟨⟨rfl, rfl, rfl, rfl, trivial⟩, ⟨rfl, trivial⟩⟩)
  subst hF
  repeat' (first | refine (ex_is _ mx) ?_ | refine tT ?_ | refine tF ?_ | refine ex_dec (fun _ => ?_) (fun _ => ?_) | refine t8 ?_ | refine tI ?_ | refine tU ?_ | refine tA ?_ | refine tB ?_ | refine tL ?_ | refine tN ?_ | fail "no step")
  refine ex_loop (X := Nat) (fun q => ⟨[(0, .o (.c (.eptr (fileD cs rs xs ts)))), (3, .o (.c (.ptr 0 0))), (85, .o (c1 (.sl 5 (xs.map exD)))), (86, Ti xs.length), (87, Ti q)], [(0, .obj [.d (.sl 2 (cs.map coD)), .d (.sl 3 (rs.map rcD)), .d (.sl 5 (xs.map exD)), .d (.sl 8 (ts.map tyD))])], 1⟩) (fun q => xs.length - q) (fun q => q ≤ xs.length) 0 (Nat.zero_le _) (SLe.of ⟨⟨rfl, rfl, rfl, rfl, rfl, trivial⟩, ⟨rfl, trivial⟩⟩) ?_
  clear hq h
  intro q hq
  refine ex_dec (fun h => ?_) (fun h => ?_)
  · have hql : q < xs.length := by omega
    have he : xs[q]? = some xs[q] := at_some hql
    have hin := lints_c _ (hx xs[q] (List.getElem_mem hql))
    generalize xs[q] = x at *
    repeat' (first | refine ex_call hin ?_ | refine ex_i64 ((q + 1 : Nat) : Int) (by omega) (by omega) (by omega) ?_ | refine ex_u64 ((q + 1 : Nat) : Int) (by omega) (by omega) (by omega) ?_ | refine ex_u8 ((q + 1 : Nat) : Int) (by omega) (by omega) (by omega) ?_ | refine (ex_row q x rfl he) ?_ | refine tT ?_ | refine tF ?_ | refine ex_dec (fun _ => ?_) (fun _ => ?_) | refine t8 ?_ | refine tI ?_ | refine tU ?_ | refine tA ?_ | refine tB ?_ | refine tL ?_ | refine tN ?_ | fail "no step")
    exact ex_round (q + 1) (by show q + 1 ≤ xs.length; omega) (by show _ - _ < _ - _; omega) (SLe.of ⟨⟨rfl, rfl, rfl, rfl, rfl, trivial⟩, ⟨rfl, trivial⟩⟩)
  repeat' (first | refine (ex_is _ mt) ?_ | refine tT ?_ | refine tF ?_ | refine ex_dec (fun _ => ?_) (fun _ => ?_) | refine t8 ?_ | refine tI ?_ | refine tU ?_ | refine tA ?_ | refine tB ?_ | refine tL ?_ | refine tN ?_ | fail "no step")
  refine ex_loop (X := Nat) (fun q => ⟨[(0, .o (.c (.eptr (fileD cs rs xs ts)))), (3, .o (.c (.ptr 0 0))), (136, Ti ts.length), (137, Ti q)], [(0, .obj [.d (.sl 2 (cs.map coD)), .d (.sl 3 (rs.map rcD)), .d (.sl 5 (xs.map exD)), .d (.sl 8 (ts.map tyD))])], 1⟩) (fun q => ts.length - q) (fun q => q ≤ ts.length) 0 (Nat.zero_le _) (SLe.of ⟨⟨rfl, rfl, rfl, rfl, trivial⟩, ⟨rfl, trivial⟩⟩) ?_
  clear hq h
  intro q hq
  refine ex_dec (fun h => ?_) (fun h => ?_)
  · have hql : q < ts.length := by omega
    have he : ts[q]? = some ts[q] := at_some hql
    have hin := lsameType_c _ (ht ts[q] (List.getElem_mem hql))
    generalize ts[q] = x at *
    repeat' (first | refine ex_call hin ?_ | refine ex_i64 ((q + 1 : Nat) : Int) (by omega) (by omega) (by omega) ?_ | refine ex_u64 ((q + 1 : Nat) : Int) (by omega) (by omega) (by omega) ?_ | refine ex_u8 ((q + 1 : Nat) : Int) (by omega) (by omega) (by omega) ?_ | refine (ex_row q x rfl he) ?_ | refine tT ?_ | refine tF ?_ | refine ex_dec (fun _ => ?_) (fun _ => ?_) | refine t8 ?_ | refine tI ?_ | refine tU ?_ | refine tA ?_ | refine tB ?_ | refine tL ?_ | refine tN ?_ | fail "no step")
    exact ex_round (q + 1) (by show q + 1 ≤ ts.length; omega) (by show _ - _ < _ - _; omega) (SLe.of ⟨⟨rfl, rfl, rfl, rfl, trivial⟩, ⟨rfl, trivial⟩⟩)
  repeat' (first | refine (ex_is _ mr) ?_ | refine tT ?_ | refine tF ?_ | refine ex_dec (fun _ => ?_) (fun _ => ?_) | refine t8 ?_ | refine tI ?_ | refine tU ?_ | refine tA ?_ | refine tB ?_ | refine tL ?_ | refine tN ?_ | fail "no step")
  refine ex_loop (X := Nat) (fun q => ⟨[(0, .o (.c (.eptr (fileD cs rs xs ts)))), (3, .o (.c (.ptr 0 0))), (158, .o (c1 (.sl 3 (rs.map rcD)))), (159, Ti rs.length), (160, Ti q)], [(0, .obj [.d (.sl 2 (cs.map coD)), .d (.sl 3 (rs.map rcD)), .d (.sl 5 (xs.map exD)), .d (.sl 8 (ts.map tyD))])], 1⟩) (fun q => rs.length - q) (fun q => q ≤ rs.length) 0 (Nat.zero_le _) (SLe.of ⟨⟨rfl, rfl, rfl, rfl, rfl, trivial⟩, ⟨rfl, trivial⟩⟩) ?_
  clear hq h
  intro q hq
  refine ex_dec (fun h => ?_) (fun h => ?_)
  · have hql : q < rs.length := by omega
    have he : rs[q]? = some rs[q] := at_some hql
    have hrq := hrc rs[q] (List.getElem_mem hql)
    generalize rs[q] = x at *
    obtain ⟨nm, ps, its⟩ := x
    obtain ⟨hps, hil, hi⟩ := hrq
    have hw := lwords_c ps hps
    have mi : (its.map itD).length = its.length := List.length_map _
    have hil : its.length ≤ 1000000 := hil
    repeat' (first | refine ex_call hw ?_ | refine (ex_is _ mi) ?_ | refine (ex_row q (⟨nm, ps, its⟩ : RC) rfl he) ?_ | refine tT ?_ | refine tF ?_ | refine ex_dec (fun _ => ?_) (fun _ => ?_) | refine t8 ?_ | refine tI ?_ | refine tU ?_ | refine tA ?_ | refine tB ?_ | refine tL ?_ | refine tN ?_ | fail "no step")
    refine ex_loop (X := Nat) (fun k => ⟨[(0, .o (.c (.eptr (fileD cs rs xs ts)))), (3, .o (.c (.ptr 0 0))), (158, .o (c1 (.sl 3 (rs.map rcD)))), (159, Ti rs.length), (160, Ti q), (10, Ti q), (11, .o (.c (.ptr 1 0))), (12, .o (.c (.ptr 2 0))), (194, Ti its.length), (195, Ti k)], [(0, .obj [.d (.sl 2 (cs.map coD)), .d (.sl 3 (rs.map rcD)), .d (.sl 5 (xs.map exD)), .d (.sl 8 (ts.map tyD))]), (1, .obj [.d (ds (bs nm)), .d (.sl 1 (ps.map fun p => [ds (bs p)])), .d (.sl 9 (its.map itD))]), (2, .obj [.d (ds (bs nm)), .d (.sl 1 (ps.map fun p => [ds (bs p)])), .d (.sl 9 (its.map itD))])], 3⟩) (fun k => its.length - k) (fun k => k ≤ its.length) 0 (Nat.zero_le _) (SLe.of ⟨⟨rfl, rfl, rfl, rfl, rfl, rfl, rfl, rfl, rfl, rfl, trivial⟩, ⟨rfl, rfl, rfl, trivial⟩⟩) ?_
    intro k hk
    refine ex_dec (fun h2 => ?_) (fun h2 => ?_)
    · have hkl : k < its.length := by omega
      have hei : its[k]? = some its[k] := at_some hkl
      have hin := lsameItem_c _ (hi its[k] (List.getElem_mem hkl))
      generalize its[k] = x at *
      repeat' (first | refine ex_call hin ?_ | refine ex_i64 ((k + 1 : Nat) : Int) (by omega) (by omega) (by omega) ?_ | refine ex_u64 ((k + 1 : Nat) : Int) (by omega) (by omega) (by omega) ?_ | refine ex_u8 ((k + 1 : Nat) : Int) (by omega) (by omega) (by omega) ?_ | refine (ex_row k x rfl hei) ?_ | refine tT ?_ | refine tF ?_ | refine ex_dec (fun _ => ?_) (fun _ => ?_) | refine t8 ?_ | refine tI ?_ | refine tU ?_ | refine tA ?_ | refine tB ?_ | refine tL ?_ | refine tN ?_ | fail "no step")
      exact ex_round (k + 1) (by show k + 1 ≤ its.length; omega) (by show _ - _ < _ - _; omega) (SLe.of ⟨⟨rfl, rfl, rfl, rfl, rfl, rfl, rfl, rfl, rfl, rfl, trivial⟩, ⟨rfl, rfl, rfl, trivial⟩⟩)
    · repeat' (first | refine ex_i64 ((q + 1 : Nat) : Int) (by omega) (by omega) (by omega) ?_ | refine ex_u64 ((q + 1 : Nat) : Int) (by omega) (by omega) (by omega) ?_ | refine ex_u8 ((q + 1 : Nat) : Int) (by omega) (by omega) (by omega) ?_ | refine tT ?_ | refine tF ?_ | refine ex_dec (fun _ => ?_) (fun _ => ?_) | refine t8 ?_ | refine tI ?_ | refine tU ?_ | refine tA ?_ | refine tB ?_ | refine tL ?_ | refine tN ?_ | fail "no step")
      exact ex_round (q + 1) (by show q + 1 ≤ rs.length; omega) (by show _ - _ < _ - _; omega) (SLe.of ⟨⟨rfl, rfl, rfl, rfl, rfl, trivial⟩, ⟨rfl, trivial⟩⟩)
  repeat' (first | refine tT ?_ | refine tF ?_ | refine ex_dec (fun _ => ?_) (fun _ => ?_) | refine t8 ?_ | refine tI ?_ | refine tU ?_ | refine tA ?_ | refine tB ?_ | refine tL ?_ | refine tN ?_ | fail "no step")
  exact TLe.rfl
end Go.Proofs.YtkbhmcdoedmffaaGreatDoor

namespace Go.Proofs.YtkbhmcdoedmffaaGreatDoor
open Go.RowKit

theorem read_err {s : List UInt8} {l c e : Nat} (h : fileS s = .err l c e) : 0 < e ∧ e ≤ 10 := by
  unfold fileS fileV at h
  rcases hl : lexV s with L | ⟨l', c', e'⟩ <;> rw [hl] at h <;> dsimp only at h
  · obtain ⟨hL, hn⟩ := lexV_ok hl
    have := up_whole hL (L.length + 1) [] [] ⟨0, [], []⟩ 0 ⟨hL.1, by simp, by simp⟩
    split at h
    · cases h
    · rename_i i e0 hw
      rw [hw] at this
      cases h
      exact ⟨this.2.2.1, this.2.2.2⟩
  · cases h
    have := lexV_err hl
    omega
theorem read_sized {s : List UInt8} {cs : List CO} {rs : List RC} {xs : List EX} {ts : List TY} (hf : fileS s = .ok cs rs xs ts) :
    (GoodS 1000000 ⟨0, xs, ts⟩ ∧ ∀ r ∈ rs, rcS 1000000 r) ∧ cs.length ≤ 1000000 ∧ rs.length ≤ 1000000 ∧ xs.length ≤ 1000000 ∧ ts.length ≤ 1000000 := by
  unfold fileS at hf
  rcases hl : lexV s with L | ⟨l', c', e'⟩ <;> rw [hl] at hf
  · obtain ⟨hL, hn⟩ := lexV_ok hl
    obtain ⟨h1, h2, h3, h4⟩ := file_sized (L := L) (B := 1000000) (by omega) hf
    have hu := up_whole hL (L.length + 1) [] [] ⟨0, [], []⟩ 0 ⟨hL.1, by simp, by simp⟩
    unfold fileV at hf
    dsimp only at hf
    split at hf
    · rename_i c r s1 hw1
      rw [hw1] at hu
      cases hf
      have := hu.1.x
      have := hu.1.t
      have := hu.1.i
      exact ⟨⟨h1, h4⟩, h2, h3, by omega, by omega⟩
    · cases hf
  · cases hf
def ΓR : Glob := ⟨ΓL.G, ΓL.mono, [11], ΓL.gl, ΓL.gok⟩
theorem CallsA.toR {f : FuncId} {xs : List T1} {r : TV} (h : CallsA Tryz.prog ΓL f xs r) : CallsA Tryz.prog ΓR f xs r := ⟨h.1, fun S w vs hS hG hv => h.2 S w vs hS hG hv⟩
theorem CallsA.frR {f : FuncId} {xs : List T1} {r : TV} (h : CallsA Tryz.prog ΓR f xs r) : CallsA Tryz.prog ΓL f xs r := ⟨h.1, fun S w vs hS hG hv => h.2 S w vs hS hG hv⟩
set_option maxHeartbeats 2000000 in
theorem parseReads_c (s : List UInt8) : CallsA Tryz.prog ΓL 3 [c1 (ds (bs s))] (Tb true) := by
  refine CallsA.frR ?_
  have hp := (Parse_c s).toR
  have hq := (rParse_c s).toR
  have hw := wakes_c.toR
  rcases hf : fileS s with ⟨cs, rs, xs, ts⟩ | ⟨l, c, e⟩ <;> rw [hf] at hp hq
  · have hp : CallsA Tryz.prog ΓR 8 [c1 (ds (bs s))] (.tup [.c (.eptr (fileD cs rs xs ts)), gD [di 0, di 0], c1 (di 0)]) := hp
    have hq : CallsA Tryz.prog ΓR 9 [c1 (ds (bs s))] (.tup [gD (fileD cs rs xs ts), gD [di 0, di 0], c1 (di 0)]) := hq
    obtain ⟨⟨h1, h2⟩, h3, h4, h5, h6⟩ := read_sized hf
    have hs := (lsameFile_c cs rs xs ts h3 h4 h5 h6 h1.x h1.t h2).toR
    refine fn_rule (C := ⟨Tryz.prog, layF, Tryz.f3.ntmps, ΓR, 0, [], []⟩) layF_ok mixed Tryz.func3 rfl (by kernel_rfl) rfl rfl rfl ?_
    repeat' (first | refine ex_call hw ?_ | refine ex_call hq ?_ | refine ex_call hp ?_ | refine (ex_agg (by kernel_rfl) true (eqPosT _ _)) ?_ | refine tT ?_ | refine tF ?_ | refine ex_dec (fun _ => ?_) (fun _ => ?_) | refine t8 ?_ | refine tI ?_ | refine tU ?_ | refine tA ?_ | refine tB ?_ | refine tL ?_ | refine tN ?_ | fail "no step")
    refine ex_callM (hs.toM (by kernel_rfl) (by kernel_rfl) _) ?_
    repeat' (first | refine tT ?_ | refine tF ?_ | refine ex_dec (fun _ => ?_) (fun _ => ?_) | refine t8 ?_ | refine tI ?_ | refine tU ?_ | refine tA ?_ | refine tB ?_ | refine tL ?_ | refine tN ?_ | fail "no step")
    exact TLe.rfl
  · have he := read_err hf
    have hp : CallsA Tryz.prog ΓR 8 [c1 (ds (bs s))] (.tup [c1 dnp, gD [di l, di c], c1 (di e)]) := hp
    have hq : CallsA Tryz.prog ΓR 9 [c1 (ds (bs s))] (.tup [gD [dnil, dnil, dnil, dnil], gD [di l, di c], c1 (di e)]) := hq
    refine fn_rule (C := ⟨Tryz.prog, layF, Tryz.f3.ntmps, ΓR, 0, [], []⟩) layF_ok mixed Tryz.func3 rfl (by kernel_rfl) rfl rfl rfl ?_
    repeat' (first | refine ex_call hw ?_ | refine ex_call hq ?_ | refine ex_call hp ?_ | refine (ex_agg (by kernel_rfl) true (eqPosT _ _)) ?_ | refine tT ?_ | refine tF ?_ | refine ex_dec (fun _ => ?_) (fun _ => ?_) | refine t8 ?_ | refine tI ?_ | refine tU ?_ | refine tA ?_ | refine tB ?_ | refine tL ?_ | refine tN ?_ | fail "no step")
    refine (ex_pn (by kernel_rfl) true (fun _ => by kernel_rfl)) ?_
    repeat' (first | refine tT ?_ | refine tF ?_ | refine ex_dec (fun _ => ?_) (fun _ => ?_) | refine t8 ?_ | refine tI ?_ | refine tU ?_ | refine tA ?_ | refine tB ?_ | refine tL ?_ | refine tN ?_ | fail "no step")
    exact TLe.rfl
end Go.Proofs.YtkbhmcdoedmffaaGreatDoor

namespace Go.Proofs.YtkbhmcdoedmffaaGreatDoor
open Go.ChangeShapes Go.WideShapes Go.ChangeAt Go.RowKit

def tilesF (P : Program) : Nat → List Field → Nat → Bool
  | o, [], n => Nat.beq o n
  | o, f :: fs, n => Nat.beq f.offset o && tilesF P (o + P.cellsOf f.type) fs n
def okT (P : Program) : Nat → TypeId → Bool
  | 0, _ => false
  | d + 1, t => match P.underlying t with
    | some .bool | some (.int _) | some .string => true
    | some (.slice e) => Nat.blt 0 (P.cellsOf e) && okT P d e
    | some (.array n e) => Nat.beq (n * P.cellsOf e) (P.cellsOf t) && okT P d e
    | some (.struct fs) => tilesF P 0 fs.toList (P.cellsOf t) && fs.toList.all fun f => okT P d f.type
    | _ => false
def DT (P : Program) : Nat → TypeId → List D → Prop
  | 0, _, _ => False
  | d + 1, t, ds => match P.underlying t with
    | some .bool => ∃ b, ds = [.v (.bool b)]
    | some (.int k) => ∃ z, ds = [.v (.int k z)] ∧ (Lit.int k z).wf = true
    | some .string => ∃ s, ds = [.v (.string s)] ∧ s.size ≤ maxLen
    | some (.slice e) => ∃ rows, ds = [.sl (P.cellsOf e) rows] ∧ rows.length ≤ maxLen ∧ ∀ r ∈ rows, DT P d e r
    | some (.array n e) => ∃ ps : List (List D), ps.length = n ∧ ds = ps.flatten ∧ ∀ p ∈ ps, DT P d e p
    | some (.struct fs) => ∃ ps : List (List D), ds = ps.flatten ∧ All2 (fun (f : Field) p => DT P d f.type p) fs.toList ps
    | _ => False
def Sall (w : World) : Nat → Prop := fun b => b < w.heap.size
theorem cell_lt {w : World} {a : Addr} {u : Value} (h : w.cell? a = some u) : a.block < w.heap.size ∧ a.spot = none := by
  unfold World.cell? at h
  split at h
  · rename_i c t f hc
    refine ⟨(Array.getElem?_eq_some_iff.1 hc).1, ?_⟩
    split at h
    · cases h
    · rename_i hs
      cases hsp : a.spot with
      | none => rfl
      | some k => rw [hsp] at hs; simp at hs
  · cases h
section
variable {H : Type} {enc : TypeId × Value → H} {P : Program} {w : World} {base : Nat} {sp : Nat → Bool} {held : Bool}
end
end Go.Proofs.YtkbhmcdoedmffaaGreatDoor

namespace Go.Proofs.YtkbhmcdoedmffaaGreatDoor
open Go.ChangeShapes Go.WideShapes Go.ChangeAt Go.RowKit Go.ChangeMaps


theorem iface_open {P : Program} {w : World} {base fuel : Nat} {sp : Nat → Bool} {held : Bool} {enc : TypeId × Value → Unit} {t : TypeId} {l : List Value} {x : DataW Unit × List MemPlace} {ms : Array (String × TypeId)} (hi : P.underlying t = some (.interface ms))
    (hd : DataW.trod enc P w base sp held fuel t l = some x) : l = [.nilIface] ∨ ∃ u v, l = [.iface u v] := by
  cases fuel with
  | zero => cases hd
  | succ f =>
    simp only [DataW.trod, hi] at hd
    split at hd <;> first | exact .inl rfl | exact .inr ⟨_, _, rfl⟩ | (cases hd; done) | (rename_i h1; cases h1; done) | (rename_i h1 h2; cases h1; done) | (rename_i h1 h2 h3; cases h1; done)
theorem errAt_of {W : World} {n : String} {g : Nat} {cs : Array Value} (hg : Tryz.prog.globalNamed n = some g) (hv : W.var? Tryz.prog n = some cs) (h : cs.toList = [.nilIface] ∨ ∃ u v, cs.toList = [.iface u v]) : ErrAt W g ∧ g < W.heap.size := by
  have hc : ∀ ev, cs.toList = [ev] → W.cell? ⟨g, 0, none⟩ = some ev := fun ev he => by
    rw [World.var?_cell hg hv 0]
    have : cs = #[ev] := by cases cs; simpa using he
    rw [this]; rfl
  refine ⟨?_, ?_⟩
  · rcases h with h | ⟨u, v, h⟩
    · exact ⟨_, hc _ h, .inl rfl⟩
    · exact ⟨_, hc _ h, .inr ⟨u, v, rfl⟩⟩
  · unfold World.var? at hv
    rw [hg] at hv
    simp only [Option.bind_some] at hv
    by_cases hl : g < W.heap.size
    · exact hl
    · rw [Array.getElem?_eq_none (by omega)] at hv; cases hv
theorem cells_of_strs {H : Type} {enc : TypeId × Value → H} {P : Program} {w : World} {base : Nat} {sp : Nat → Bool} {held : Bool} {fuel : Nat} {t e : TypeId} {n : Nat} {cs : List Value} {zs : List (List UInt8)} {p : List MemPlace}
    (ht : P.underlying t = some (.array n e)) (he : P.underlying e = some .string) (hce : P.cellsOf e = 1) (hct : P.cellsOf t = n)
    (h : DataW.trod enc P w base sp held fuel t cs = some (.agg (zs.map fun z => .lit (.string z)), p)) : cs = zs.map fun z => Value.string (bs z) := by
  cases fuel with
  | zero => simp [DataW.trod] at h
  | succ fuel =>
    simp only [DataW.trod, ht, hce, hct, Nat.mul_one] at h
    split at h
    · rename_i hl
      obtain ⟨xs, hm, hx⟩ := Option.map_eq_some_iff.1 h
      have hxs : xs.map (·.1) = zs.map fun z => (DataW.lit (.string z) : DataW H) := by
        have := congrArg Prod.fst hx
        simpa using this
      have hxl : xs.length = n := by simpa using Lib.mapM_length hm
      have hzl : zs.length = n := by
        have := congrArg List.length hxs
        simp at this
        omega
      apply List.ext_getElem?
      intro i
      by_cases hi : i < n
      · obtain ⟨b, hb, hf⟩ := Lib.mapM_at hm i i (by simp [hi])
        obtain ⟨z, hc, rfl, _⟩ := DataW.trod_string he hf
        have h1 : cs[i]? = some (.string z) := by
          have := congrArg (·[0]?) hc
          simpa [List.getElem?_take, List.getElem?_drop] using this
        have h2 : (xs.map (·.1))[i]? = some (DataW.lit (.string z.data.toList) : DataW H) := by simp [hb]
        rw [hxs] at h2
        simp only [List.getElem?_map, Option.map_eq_some_iff, DataW.lit.injEq, Lit.string.injEq] at h2
        obtain ⟨z', hz', rfl⟩ := h2
        simp [h1, hz']
      · rw [List.getElem?_eq_none (by omega), List.getElem?_eq_none (by simp; omega)]
    · cases h
theorem glob_reads {W : World} (h : laidMetH Tryz.prog Rows.parseReadsRow.laid W) (hs : W.ShapedOpen Tryz.prog) : ΓL.G (Sall W) W := by
  obtain ⟨m, hm⟩ := Tryz.laysM145.s1_3 W hs
  rw [MakeChecks.laidMetH_plain _ _ _ (by kernel_rfl)] at h
  obtain ⟨ps, h, -⟩ := h
  obtain ⟨g1, t1, c1, f1, p1, q1, -, -, -, -, h, -⟩ := h
  obtain ⟨g2, t2, c2, f2, p2, q2, -, -, -, -, h, -⟩ := h
  obtain ⟨g3, t3, c3, f3, p3, q3, -, -, -, -, h, -⟩ := h
  obtain ⟨g0, t0, c0, f0, p0, q0, -, -, -, -, h, -⟩ := h
  obtain ⟨g4, t4, c4, f4, p4, q4, hg4, ht4, hv4, hd4, h, -⟩ := h
  obtain ⟨g5, t5, c5, f5, p5, q5, hg5, ht5, hv5, hd5, h, -⟩ := h
  obtain ⟨g6, t6, c6, f6, p6, q6, hg6, ht6, hv6, hd6, h, -⟩ := h
  obtain rfl := Option.some.inj ((show Tryz.prog.globalNamed "strconv.ErrRange" = some 3 by kernel_rfl).symm.trans hg4)
  obtain rfl := Option.some.inj ((show Tryz.prog.globalNamed "strconv.ErrSyntax" = some 2 by kernel_rfl).symm.trans hg5)
  obtain rfl := Option.some.inj ((show Tryz.prog.globalNamed "calliper/lex.signs" = some 0 by kernel_rfl).symm.trans hg6)
  obtain rfl := Option.some.inj ((show (Tryz.prog.globals[3]?).map (·.type) = some 142 by kernel_rfl).symm.trans ht4)
  obtain rfl := Option.some.inj ((show (Tryz.prog.globals[2]?).map (·.type) = some 142 by kernel_rfl).symm.trans ht5)
  obtain rfl := Option.some.inj ((show (Tryz.prog.globals[0]?).map (·.type) = some 164 by kernel_rfl).symm.trans ht6)
  have e4 := errAt_of hg4 hv4 (iface_open Tryz.underlying142 hd4)
  have e5 := errAt_of hg5 hv5 (iface_open Tryz.underlying142 hd5)
  have hc := cells_of_strs (zs := signsL) (n := 29) (t := 164) (e := 9) (by kernel_rfl) (by kernel_rfl) (by kernel_rfl) (by kernel_rfl) hd6
  refine ⟨e5, e4, ⟨m, hm, (cell_lt hm).1⟩, fun j l hj => ?_, ?_⟩
  · rw [World.var?_cell hg6 hv6 j]
    have : c6 = ⟨signsL.map fun z => Value.string (bs z)⟩ := by cases c6; simpa using hc
    rw [this]
    rw [show (⟨signsL.map fun z => Value.string (bs z)⟩ : Array Value) = (signsL.map fun z => Value.string (bs z)).toArray from rfl, List.getElem?_toArray, List.getElem?_map, hj]
    rfl
  · have hv := hv6
    unfold World.var? at hv
    rw [hg6] at hv
    simp only [Option.bind_some] at hv
    show 0 < W.heap.size
    by_cases hl : 0 < W.heap.size
    · exact hl
    · rw [Array.getElem?_eq_none (by omega)] at hv; cases hv
theorem bs_list (s : ByteArray) : bs s.data.toList = s := by simp [bs]
end Go.Proofs.YtkbhmcdoedmffaaGreatDoor

namespace Go.Proofs.YtkbhmcdoedmffaaGreatDoor
open Go.ChangeShapes Go.WideShapes Go.ChangeAt Go.RowKit Go.ChangeMaps

theorem parseReads_a (s : ByteArray) (hs : s.size ≤ 140737488351232) : CallsA Tryz.prog ΓL 3 [c1 (ds s)] (.o (c1 (db true))) := by
  have := parseReads_c s.data.toList
  rw [bs_list] at this
  exact this
namespace parseReads
set_option maxRecDepth 100000 in
theorem lifted (os : Os) (started : os.Started) (H : Type) (enc : TypeId × Value → H) :
    ReturnsInHanded {} Tryz.checked os 3 .any (fun w args => (Rows.parseReadsSpec.pre enc Tryz.prog Tryz.f3 Rows.parseReadsRow.domain false w args ∧ laidMetH Tryz.prog Rows.parseReadsRow.laid w) ∧ sizedMet enc Tryz.prog Tryz.f3 (OpenSpec.ofChange Rows.parseReadsSpec) false w args) (Rows.parseReadsSpec.post enc Tryz.prog Tryz.f3 false true false false) := by
  show ReturnsInHanded {} Tryz.checked os 3 .any ((OpenSpec.ofChange Rows.parseReadsSpec).preRow enc Tryz.prog Tryz.f3 Rows.parseReadsRow.domain false Rows.parseReadsRow.laid) (((OpenSpec.ofChange Rows.parseReadsSpec).at fun _ _ _ => 0).post enc Tryz.prog Tryz.f3 false true false false)
  refine returnsInHanded_of_row (C := Tryz.checked) own started (by kernel_rfl) Tryz.func3
    (ChangeSpec.witness_shaped (enc := enc) (C := Tryz.checked) (os := os) (X := fun w _ => laidMetH Tryz.prog Rows.parseReadsRow.laid w) false (World.laidAll Tryz.prog os Rows.parseReadsRow.laid) #[.string ByteArray.empty] 8 (World.laidAll_os _ _ _) (World.shaped_of_ZipB (by kernel_rfl) (by kernel_rfl)) (by kernel_rfl) (by kernel_rfl) (by kernel_rfl)
      (by rw [MakeChecks.laidMetH_plain _ _ _ (by kernel_rfl)]; exact laidMet_laidAll _ (by kernel_rfl) (by kernel_rfl))) ?_
  intro W base args ds gs before hval0 hW _ _ hsz0 hLaid hShaped _
  have hsz : (DataW.weightsEach Tryz.prog (Tryz.f3.params.toList ++ Rows.parseReadsSpec.plain.varTypes Tryz.prog) (ds ++ gs)).all (· ≤ reachBytes) = true := hsz0
  have hval : ∀ (j : Nat) t v, Tryz.f3.params[j]? = some t → args[j]? = some v → Value.okWide Tryz.prog W .any base t v := hval0
  clear hsz0 hval0
  have hW' := hW
  obtain ⟨p, q, hA0, hV, rfl, hfz, hnd⟩ := hW
  have hA : DataW.TrodAll enc Tryz.prog W 0 (fun _ => true) true Tryz.f3.params.toList args.toList ds p := hA0
  clear hA0
  rw [Tryz.params3] at hA hval hsz
  obtain ⟨v0, vs0, d0, ds0, p0, q0, hargs, rfl, rfl, h0, r0⟩ := trodAll_cons hA
  obtain ⟨rfl, rfl, rfl⟩ := trodAll_nil r0
  obtain rfl : args = #[v0] := by cases args; simp_all
  obtain ⟨rfl, rfl⟩ := trodVars_none hV
  obtain ⟨s, rfl, rfl, rfl, hm0⟩ := open_string Tryz.underlying9 (hval 0 9 v0 rfl rfl) h0
  have w_s : s.size ≤ 140737488351232 := by simpa [reachBytes] using sized_string hsz (j := 0) rfl rfl
  refine ((parseReads_a s w_s).2 (Sall W) W [.string s] (fun _ h => h) (glob_reads hLaid hShaped) (.cons (Imm.v rfl) .nil)).mono fun e W' ⟨xr, _, he, hb, _, _, _, hv⟩ => ?_
  obtain rfl := V_v hv
  subst he
  exact ⟨_, rfl, law_post (ds := [_]) laidOut hW' rfl (by kernel_rfl) rfl Tryz.underlying4 rfl rfl rfl hb⟩

theorem proved : Rows.ParseReadsSaid :=
  OpenClaim.holds_of_wide 3 Tryz.f3 rfl rfl rfl rfl rfl rfl rfl ⟨rfl, rfl, rfl, rfl, rfl⟩ rfl rfl rfl rfl rfl (by kernel_rfl) Tryz.func3 (by kernel_rfl)
    (of_decide_eq_true (by kernel_rfl)) (by unfold Func.isWrapper; first | (rw [if_pos (by decide +kernel)]; kernel_rfl) | (rw [if_neg (by decide +kernel)]; exact ⟨rfl, rfl⟩))
    (fun os started H enc _ => lifted os started H enc)
theorem card : Rows.ParseReadsCardSaid :=
  Claim7.holds_tied_plain_at .later [] [.data, .data, .data, .data, .sentinel, .sentinel, .data, .pinned] true (true, "ec5bc6e8b0fb9468024158bd189343d78467342a5495d1a3cd709f154151ef2f") true proved (fun _ h => by cases h) (by kernel_rfl) (fun _ h => by cases h) parseReads_row_tie rfl ⟨rfl, rfl⟩ (by kernel_rfl) rfl
    (fun f fn hf hfn => by
      obtain rfl : f = 3 := Option.some.inj ((show Tryz.prog.funcNamed "calliper/calliperlaw07.ParseReads" = some 3 by kernel_rfl).symm.trans hf) |>.symm
      obtain rfl : fn = Tryz.f3 := (Option.some.inj (Tryz.func3.symm.trans hfn)).symm
      exact ⟨by kernel_rfl, fun j t ht => by
        rw [Tryz.params3] at ht
        have hm : t ∈ [9] := by simpa using Array.mem_of_getElem? ht
        have hall : ([9].all fun u => !Tryz.prog.wantsStandIn u) = true := by kernel_rfl
        exact (show Tryz.prog.wantsStandIn t = false by simpa using List.all_eq_true.1 hall t hm)⟩)
    (by kernel_rfl)
end parseReads
end Go.Proofs.YtkbhmcdoedmffaaGreatDoor
