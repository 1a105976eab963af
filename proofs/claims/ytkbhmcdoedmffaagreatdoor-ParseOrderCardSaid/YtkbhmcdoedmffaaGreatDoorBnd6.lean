/- ParseOrder: in a file each expression and each type is made of such as stand ahead of it, and each is part of just one, or of an item. Condition: the listed package variables hold what the program's text lays. -/
import Derived.WalkKit
import Derived.Lib.LaidTab
import Derived.Test.YtkbhmcdoedmffaaGreatDoorRows
import Derived.Lay
import Derived.MakeChecks
import Derived.Test.YtkbhmcdoedmffaaGreatDoorCards
import Derived.Test.YtkbhmcdoedmffaaGreatDoorTie
import Derived.SevenTiedAt
import Derived.Deep.DeepHandedRow
import Derived.Test.YtkbhmcdoedmffaaGreatDoorBnd1
import Derived.Test.YtkbhmcdoedmffaaGreatDoorBnd2
import Derived.Test.YtkbhmcdoedmffaaGreatDoorBnd3
import Derived.Test.YtkbhmcdoedmffaaGreatDoorBnd4
import Derived.Test.YtkbhmcdoedmffaaGreatDoorBnd5
namespace Go.Proofs.YtkbhmcdoedmffaaGreatDoor
set_option linter.unusedVariables false
set_option linter.unusedSimpArgs false
open Go.RowKit
set_option maxRecDepth 100000

section
variable {L : List TokP} {m : Nat}
/-- What only moves the place. -/
def Mv {α : Type} (x : PM α) : Prop := ∀ s v s', x s = .ok v s' → s.xs = s'.xs ∧ s.ts = s'.ts
theorem Mv.and {α β : Type} {x : PM α} {f : α → PM β} (hx : Mv x) (hf : ∀ v, Mv (f v)) : Mv (x >>= f) := fun s v s' h => by
  obtain ⟨u, s1, h1, h2⟩ := mo_inv h
  exact ⟨(hx _ _ _ h1).1.trans (hf u _ _ _ h2).1, (hx _ _ _ h1).2.trans (hf u _ _ _ h2).2⟩
theorem Mv.at {α : Type} {p : Nat → Bool} {x y : PM α} (hx : Mv x) (hy : Mv y) : Mv (atM p x y) := fun s v s' h => by
  unfold atM at h
  split at h
  · exact hx _ _ _ h
  · exact hy _ _ _ h
theorem Mv.pure {α : Type} (v : α) : Mv (pure v) := fun s u s' h => by cases h; exact ⟨rfl, rfl⟩
theorem Mv.step : Mv stepM := fun s u s' h => by cases h; exact ⟨rfl, rfl⟩
theorem Mv.take (t : List UInt8) : Mv (takeM L t) := fun s v s' h => by unfold takeM at h; split at h <;> cases h; exact ⟨rfl, rfl⟩
theorem Mv.name : Mv (nameM L) := fun s v s' h => by unfold nameM at h; split at h <;> cases h; exact ⟨rfl, rfl⟩
theorem Mv.num : Mv (numberM L) := fun s v s' h => by unfold numberM at h; split at h <;> cases h; exact ⟨rfl, rfl⟩
theorem Mv.roomIf (p : Nat → Bool) (n : Nat) : Mv (fun s => if p s.i = true then roomM n s else .ok () s) := fun s u s' h => by
  dsimp only at h
  split at h
  · unfold roomM at h; split at h <;> cases h; exact ⟨rfl, rfl⟩
  · cases h; exact ⟨rfl, rfl⟩
theorem mvs_subs : ∀ n l, Mv (subsN L n l)
  | 0, l => Mv.pure _
  | n + 1, l => by
    rw [subsN]
    exact (Mv.roomIf (namedV L ·) _).and fun _ => Mv.name.and fun w => (Mv.take _).and fun _ => Mv.num.and fun b => (Mv.take _).and fun _ => Mv.at (mvs_subs n _) (Mv.pure _)
theorem mvs_pack : Mv (packM L) := (Mv.take _).and fun _ => fun s v s' h => by
  split at h
  · cases h
  · exact (Mv.step.and fun _ => (Mv.take _).and fun _ => (show Mv (fun s => subsN L (L.length - s.i + 1) [] s) from fun s v s' hx => mvs_subs _ _ s v s' hx).and fun l => (Mv.take _).and fun _ => Mv.pure _) _ _ _ h
theorem mv_pack {i i1 : Nat} {xs xs1 : List EX} {ts ts1 : List TY} {v : IT} (h : packM L ⟨i, xs, ts⟩ = .ok v ⟨i1, xs1, ts1⟩) : xs = xs1 ∧ ts = ts1 := mvs_pack _ _ _ h
theorem mvs_const : Mv (constM L) := (Mv.take _).and fun _ => Mv.name.and fun w => (Mv.take _).and fun _ => Mv.num.and fun n => (Mv.take _).and fun _ => Mv.pure _
theorem mv_const {i i1 : Nat} {xs xs1 : List EX} {ts ts1 : List TY} {v : CO} (h : constM L ⟨i, xs, ts⟩ = .ok v ⟨i1, xs1, ts1⟩) : xs = xs1 ∧ ts = ts1 := mvs_const _ _ _ h
set_option maxHeartbeats 16000000 in
theorem record_c (hL : TokOk L) (hn : L.length ≤ 100000) (hm : m = 32) (s : PS) {c : Nat} (hs : SOk L c s) : C2 L m 50 [] (recordM L) (fun v => .o (gD (rcD v))) s := by
  refine C2.of fun T hT => ?_
  unfold recordM at hT
  obtain ⟨i, xs, ts⟩ := s
  refine fn_ruleP (C := ⟨Tryz.prog, layF, Tryz.f50.ntmps, ΓL, 6, [], [10]⟩) layF_ok mixed Tryz.func50 rfl (by kernel_rfl) rfl rfl rfl SLe.rfl ?_
  repeat' (first | refine ex_true (by first | decide | omega | assumption | (with_reducible exact rfl)) ?_ | refine ex_false (by first | decide | omega | assumption | exact (fun h => h rfl)) ?_ | refine ex_dec (fun _ => ?_) (fun _ => ?_) | refine ex_u8 _ rfl (by omega) (by omega) ?_ | refine ex_i64 _ rfl (by omega) (by omega) ?_ | refine ex_u64 _ rfl (by omega) (by omega) ?_ | refine and_mk (by first | omega | (with_reducible rfl) | (show drawOk _ _ _ = true; kernel_rfl)) ?_ | refine and_mk ⟨_, rfl⟩ ?_ | refine ex_is _ (List.length_map _) ?_ | refine ex_is _ List.length_nil ?_ | fail "no step")
  have hcon := take_c (m := m) ⟨i, xs, ts⟩ hs.i (by omega) w_struct
  rcases hx47 : (takeM L w_struct) ⟨i, xs, ts⟩ with ⟨_, s9⟩ | ⟨i9, e9⟩
  rotate_left
  · obtain rfl := (and_err hx47).symm.trans hT
    first | refine ex_callM (CallsM.ren (hcon.err hx47) [0, 1] 7 rfl rfl rfl rfl) ?_ | refine ex_callM (CallsM.more0 (CallsM.ren (hcon.err hx47) [0, 1] 7 rfl rfl rfl rfl)) ?_ | refine ex_callM (CallsM.more1 (CallsM.ren (hcon.err hx47) [0, 1] 7 rfl rfl rfl rfl)) ?_ | refine ex_callM (CallsM.moreL (CallsM.ren (hcon.err hx47) [0, 1] 7 rfl rfl rfl rfl)) ?_
    first | exact ⟨⟨_, rfl, rfl⟩, rfl, rfl⟩ | exact ⟨by kernel_rfl, ⟨_, rfl, rfl⟩, rfl, rfl⟩
  replace hT := (and_ok hx47).symm.trans hT
  first | refine ex_callM (CallsM.ren (hcon.ok hx47) [0, 1] 7 rfl rfl rfl rfl) ?_ | refine ex_callM (CallsM.more0 (CallsM.ren (hcon.ok hx47) [0, 1] 7 rfl rfl rfl rfl)) ?_ | refine ex_callM (CallsM.more1 (CallsM.ren (hcon.ok hx47) [0, 1] 7 rfl rfl rfl rfl)) ?_ | refine ex_callM (CallsM.moreL (CallsM.ren (hcon.ok hx47) [0, 1] 7 rfl rfl rfl rfl)) ?_
  clear hcon
  have hs1 := (Up.ok (Up.take hL w_struct 0) hs hx47).1
  obtain rfl := mv_take1 hx47
  repeat' (first | refine ex_true (by first | decide | omega | assumption | (with_reducible exact rfl)) ?_ | refine ex_false (by first | decide | omega | assumption | exact (fun h => h rfl)) ?_ | refine ex_dec (fun _ => ?_) (fun _ => ?_) | refine ex_u8 _ rfl (by omega) (by omega) ?_ | refine ex_i64 _ rfl (by omega) (by omega) ?_ | refine ex_u64 _ rfl (by omega) (by omega) ?_ | refine and_mk (by first | omega | (with_reducible rfl) | (show drawOk _ _ _ = true; kernel_rfl)) ?_ | refine and_mk ⟨_, rfl⟩ ?_ | refine ex_is _ (List.length_map _) ?_ | refine ex_is _ List.length_nil ?_ | fail "no step")
  have hcon := name_c (m := m) ⟨i + 1, xs, ts⟩ hs1.i (by omega)
  rcases hx49 : (nameM L) ⟨i + 1, xs, ts⟩ with ⟨w, s9⟩ | ⟨i9, e9⟩
  rotate_left
  · obtain rfl := (and_err hx49).symm.trans hT
    first | refine ex_callM (CallsM.ren (hcon.err hx49) [0, 1] 7 rfl rfl rfl rfl) ?_ | refine ex_callM (CallsM.more0 (CallsM.ren (hcon.err hx49) [0, 1] 7 rfl rfl rfl rfl)) ?_ | refine ex_callM (CallsM.more1 (CallsM.ren (hcon.err hx49) [0, 1] 7 rfl rfl rfl rfl)) ?_ | refine ex_callM (CallsM.moreL (CallsM.ren (hcon.err hx49) [0, 1] 7 rfl rfl rfl rfl)) ?_
    first | exact ⟨⟨_, rfl, rfl⟩, rfl, rfl⟩ | exact ⟨by kernel_rfl, ⟨_, rfl, rfl⟩, rfl, rfl⟩
  replace hT := (and_ok hx49).symm.trans hT
  first | refine ex_callM (CallsM.ren (hcon.ok hx49) [0, 1] 7 rfl rfl rfl rfl) ?_ | refine ex_callM (CallsM.more0 (CallsM.ren (hcon.ok hx49) [0, 1] 7 rfl rfl rfl rfl)) ?_ | refine ex_callM (CallsM.more1 (CallsM.ren (hcon.ok hx49) [0, 1] 7 rfl rfl rfl rfl)) ?_ | refine ex_callM (CallsM.moreL (CallsM.ren (hcon.ok hx49) [0, 1] 7 rfl rfl rfl rfl)) ?_
  clear hcon
  have hs2 := (Up.ok (Up.name hL 0) hs1 hx49).1
  obtain rfl := mv_name1 hx49
  repeat' (first | refine ex_true (by first | decide | omega | assumption | (with_reducible exact rfl)) ?_ | refine ex_false (by first | decide | omega | assumption | exact (fun h => h rfl)) ?_ | refine ex_dec (fun _ => ?_) (fun _ => ?_) | refine ex_u8 _ rfl (by omega) (by omega) ?_ | refine ex_i64 _ rfl (by omega) (by omega) ?_ | refine ex_u64 _ rfl (by omega) (by omega) ?_ | refine and_mk (by first | omega | (with_reducible rfl) | (show drawOk _ _ _ = true; kernel_rfl)) ?_ | refine and_mk ⟨_, rfl⟩ ?_ | refine ex_is _ (List.length_map _) ?_ | refine ex_is _ List.length_nil ?_ | fail "no step")
  refine ex_join (X := Nat × List (List UInt8)) (fun ⟨i, ps⟩ => ⟨[(0, .o P0), (2, .o (.c (.ptr 6 0))), (3, .o (.c (.ptr 7 0)))], [(0, Qz L m i), (1, Fz 2 3 4 5), (4, Xz xs), (5, Tz ts), (6, .obj [.d (ds ⟨#[]⟩), .d dnil, .d dnil]), (7, .obj [.d (ds (bs w)), .row 9, .d dnil]), (9, .row 1 9 (ps.map fun p => [ds (bs p)]))], 10⟩)
    (fun ⟨i, ps⟩ => SOk L c ⟨i, xs, ts⟩ ∧ (takeM L t_lcur >>= fun _ => (fun s => itemsN L (L.length - s.i + 1) [] s) >>= fun is => takeM L t_rcur >>= fun _ => pure (⟨w, ps, is⟩ : RC)) ⟨i, xs, ts⟩ = T) ?_ ?_
  · rcases hv : isV L (i + 1 + 1) t_lpar with _ | _
    · replace hT := pureT (atnB hT hv)
      first | refine ex_callM (CallsM.ren ((may_no (i + 1 + 1) hs2.lt _ hv)) [0, 1] 8 rfl rfl rfl rfl) ?_ | refine ex_callM (CallsM.more0 (CallsM.ren ((may_no (i + 1 + 1) hs2.lt _ hv)) [0, 1] 8 rfl rfl rfl rfl)) ?_ | refine ex_callM (CallsM.more1 (CallsM.ren ((may_no (i + 1 + 1) hs2.lt _ hv)) [0, 1] 8 rfl rfl rfl rfl)) ?_ | refine ex_callM (CallsM.moreL (CallsM.ren ((may_no (i + 1 + 1) hs2.lt _ hv)) [0, 1] 8 rfl rfl rfl rfl)) ?_
      repeat' (first | refine ex_true (by first | decide | omega | assumption | (with_reducible exact rfl)) ?_ | refine ex_false (by first | decide | omega | assumption | exact (fun h => h rfl)) ?_ | refine ex_dec (fun _ => ?_) (fun _ => ?_) | refine ex_u8 _ rfl (by omega) (by omega) ?_ | refine ex_i64 _ rfl (by omega) (by omega) ?_ | refine ex_u64 _ rfl (by omega) (by omega) ?_ | refine and_mk (by first | omega | (with_reducible rfl) | (show drawOk _ _ _ = true; kernel_rfl)) ?_ | refine and_mk ⟨_, rfl⟩ ?_ | refine ex_is _ (List.length_map _) ?_ | refine ex_is _ List.length_nil ?_ | fail "no step")
      exact ex_meet (i + 1 + 1, []) ⟨hs2.less (by omega), hT⟩ (SLe.trans (SLe.of ⟨⟨rfl, rfl, rfl, trivial⟩, ⟨rfl, rfl, rfl, rfl, rfl, rfl, rfl, trivial⟩⟩) (SLe.ownCell 7 1 9 1 9 rfl rfl rfl rfl rfl rfl))
    · replace hT := asc (stp1 (asc (atyB hT hv)))
      have hs3 := stpS hL hs2 (isV_k hv)
      have hi3 := hs3.lt
      first | refine ex_callM (CallsM.ren ((may_yes (i + 1 + 1) hs2.lt (by omega) _ hv)) [0, 1] 8 rfl rfl rfl rfl) ?_ | refine ex_callM (CallsM.more0 (CallsM.ren ((may_yes (i + 1 + 1) hs2.lt (by omega) _ hv)) [0, 1] 8 rfl rfl rfl rfl)) ?_ | refine ex_callM (CallsM.more1 (CallsM.ren ((may_yes (i + 1 + 1) hs2.lt (by omega) _ hv)) [0, 1] 8 rfl rfl rfl rfl)) ?_ | refine ex_callM (CallsM.moreL (CallsM.ren ((may_yes (i + 1 + 1) hs2.lt (by omega) _ hv)) [0, 1] 8 rfl rfl rfl rfl)) ?_
      repeat' (first | refine ex_true (by first | decide | omega | assumption | (with_reducible exact rfl)) ?_ | refine ex_false (by first | decide | omega | assumption | exact (fun h => h rfl)) ?_ | refine ex_dec (fun _ => ?_) (fun _ => ?_) | refine ex_u8 _ rfl (by omega) (by omega) ?_ | refine ex_i64 _ rfl (by omega) (by omega) ?_ | refine ex_u64 _ rfl (by omega) (by omega) ?_ | refine and_mk (by first | omega | (with_reducible rfl) | (show drawOk _ _ _ = true; kernel_rfl)) ?_ | refine and_mk ⟨_, rfl⟩ ?_ | refine ex_is _ (List.length_map _) ?_ | refine ex_is _ List.length_nil ?_ | fail "no step")
      have hcon := name_c (m := m) ⟨i + 1 + 1 + 1, xs, ts⟩ hs3.i (by omega)
      rcases hx63 : (nameM L) ⟨i + 1 + 1 + 1, xs, ts⟩ with ⟨p, s9⟩ | ⟨i9, e9⟩
      rotate_left
      · obtain rfl := (and_err hx63).symm.trans hT
        first | refine ex_callM (CallsM.ren (hcon.err hx63) [0, 1] 8 rfl rfl rfl rfl) ?_ | refine ex_callM (CallsM.more0 (CallsM.ren (hcon.err hx63) [0, 1] 8 rfl rfl rfl rfl)) ?_ | refine ex_callM (CallsM.more1 (CallsM.ren (hcon.err hx63) [0, 1] 8 rfl rfl rfl rfl)) ?_ | refine ex_callM (CallsM.moreL (CallsM.ren (hcon.err hx63) [0, 1] 8 rfl rfl rfl rfl)) ?_
        first | exact ⟨⟨_, rfl, rfl⟩, rfl, rfl⟩ | exact ⟨by kernel_rfl, ⟨_, rfl, rfl⟩, rfl, rfl⟩
      replace hT := (and_ok hx63).symm.trans hT
      first | refine ex_callM (CallsM.ren (hcon.ok hx63) [0, 1] 8 rfl rfl rfl rfl) ?_ | refine ex_callM (CallsM.more0 (CallsM.ren (hcon.ok hx63) [0, 1] 8 rfl rfl rfl rfl)) ?_ | refine ex_callM (CallsM.more1 (CallsM.ren (hcon.ok hx63) [0, 1] 8 rfl rfl rfl rfl)) ?_ | refine ex_callM (CallsM.moreL (CallsM.ren (hcon.ok hx63) [0, 1] 8 rfl rfl rfl rfl)) ?_
      clear hcon
      have hs4 := (Up.ok (Up.name hL 0) hs3 hx63).1
      obtain rfl := mv_name1 hx63
      have hi4 := hs4.lt
      repeat' (first | refine ex_true (by first | decide | omega | assumption | (with_reducible exact rfl)) ?_ | refine ex_false (by first | decide | omega | assumption | exact (fun h => h rfl)) ?_ | refine ex_dec (fun _ => ?_) (fun _ => ?_) | refine ex_u8 _ rfl (by omega) (by omega) ?_ | refine ex_i64 _ rfl (by omega) (by omega) ?_ | refine ex_u64 _ rfl (by omega) (by omega) ?_ | refine and_mk (by first | omega | (with_reducible rfl) | (show drawOk _ _ _ = true; kernel_rfl)) ?_ | refine and_mk ⟨_, rfl⟩ ?_ | refine ex_is _ (List.length_map _) ?_ | refine ex_is _ List.length_nil ?_ | fail "no step")
      refine ex_app (0) (1) 1000 (by first | rfl | (simp; done) | (simp; omega)) (by first | rfl | (simp; done) | (simp; omega)) rfl (by omega) ?_
      refine ex_is (List.map (fun p : List UInt8 => [ds (bs p)]) [p]) (rfl) ?_
      repeat' (first | refine ex_true (by first | decide | omega | assumption | (with_reducible exact rfl)) ?_ | refine ex_false (by first | decide | omega | assumption | exact (fun h => h rfl)) ?_ | refine ex_dec (fun _ => ?_) (fun _ => ?_) | refine ex_u8 _ rfl (by omega) (by omega) ?_ | refine ex_i64 _ rfl (by omega) (by omega) ?_ | refine ex_u64 _ rfl (by omega) (by omega) ?_ | refine and_mk (by first | omega | (with_reducible rfl) | (show drawOk _ _ _ = true; kernel_rfl)) ?_ | refine and_mk ⟨_, rfl⟩ ?_ | refine ex_is _ (List.length_map _) ?_ | refine ex_is _ List.length_nil ?_ | fail "no step")
      replace hT := asc hT
      replace hT : (parsN L (L.length - (i + 1 + 1 + 1 + 1) + 1) [p] >>= fun l => (takeM L t_rpar >>= fun _ => pure l) >>= fun ps => takeM L t_lcur >>= fun _ => (fun s => itemsN L (L.length - s.i + 1) [] s) >>= fun is => takeM L t_rcur >>= fun _ => pure (⟨w, ps, is⟩ : RC)) ⟨i + 1 + 1 + 1 + 1, xs, ts⟩ = T := hT
      refine ex_loop (X := Nat × List (List UInt8) × Nat) (fun ⟨i, ps, _⟩ => ⟨[(0, .o P0), (2, .o (.c (.ptr 6 0))), (3, .o (.c (.ptr 7 0)))], [(0, Qz L m i), (1, Fz 2 3 4 5), (4, Xz xs), (5, Tz ts), (6, .obj [.d (ds ⟨#[]⟩), .d dnil, .d dnil]), (7, .obj [.d (ds (bs w)), .row 9, .d dnil]), (9, .row 1 9 (ps.map fun p => [ds (bs p)]))], 10⟩) (fun y => L.length - y.1)
        (fun ⟨i, l, n⟩ => SOk L c ⟨i, xs, ts⟩ ∧ L.length < i + n ∧ l.length ≤ i ∧ (parsN L n l >>= fun l => (takeM L t_rpar >>= fun _ => pure l) >>= fun ps => takeM L t_lcur >>= fun _ => (fun s => itemsN L (L.length - s.i + 1) [] s) >>= fun is => takeM L t_rcur >>= fun _ => pure (⟨w, ps, is⟩ : RC)) ⟨i, xs, ts⟩ = T) (i + 1 + 1 + 1 + 1, [p], L.length - (i + 1 + 1 + 1 + 1) + 1) ⟨hs4.less (by omega), by omega, by simp, hT⟩ (SLe.of ⟨⟨rfl, rfl, rfl, trivial⟩, ⟨rfl, rfl, rfl, rfl, rfl, rfl, rfl, trivial⟩⟩) ?_
      clear hT hs4 hs3 hs2 hs1 hs hi3 hi4
      rintro ⟨i, l, n⟩ ⟨hs, hf, hll, hT⟩
      have hi := hs.lt
      cases n with
      | zero => omega
      | succ n =>
        rw [parsN] at hT
        rcases hv : isV L i t_comma with _ | _
        · replace hT := atnB hT hv
          replace hT := pureT hT
          replace hT := asc hT
          first | refine ex_callM (CallsM.ren ((may_no i hi _ hv)) [0, 1] 10 rfl rfl rfl rfl) ?_ | refine ex_callM (CallsM.more0 (CallsM.ren ((may_no i hi _ hv)) [0, 1] 10 rfl rfl rfl rfl)) ?_ | refine ex_callM (CallsM.more1 (CallsM.ren ((may_no i hi _ hv)) [0, 1] 10 rfl rfl rfl rfl)) ?_ | refine ex_callM (CallsM.moreL (CallsM.ren ((may_no i hi _ hv)) [0, 1] 10 rfl rfl rfl rfl)) ?_
          repeat' (first | refine ex_true (by first | decide | omega | assumption | (with_reducible exact rfl)) ?_ | refine ex_false (by first | decide | omega | assumption | exact (fun h => h rfl)) ?_ | refine ex_dec (fun _ => ?_) (fun _ => ?_) | refine ex_u8 _ rfl (by omega) (by omega) ?_ | refine ex_i64 _ rfl (by omega) (by omega) ?_ | refine ex_u64 _ rfl (by omega) (by omega) ?_ | refine and_mk (by first | omega | (with_reducible rfl) | (show drawOk _ _ _ = true; kernel_rfl)) ?_ | refine and_mk ⟨_, rfl⟩ ?_ | refine ex_is _ (List.length_map _) ?_ | refine ex_is _ List.length_nil ?_ | fail "no step")
          have hcon := take_c (m := m) ⟨i, xs, ts⟩ hs.i (by omega) t_rpar
          rcases hx86 : (takeM L t_rpar) ⟨i, xs, ts⟩ with ⟨_, s9⟩ | ⟨i9, e9⟩
          rotate_left
          · obtain rfl := (and_err hx86).symm.trans hT
            first | refine ex_callM (CallsM.ren (hcon.err hx86) [0, 1] 10 rfl rfl rfl rfl) ?_ | refine ex_callM (CallsM.more0 (CallsM.ren (hcon.err hx86) [0, 1] 10 rfl rfl rfl rfl)) ?_ | refine ex_callM (CallsM.more1 (CallsM.ren (hcon.err hx86) [0, 1] 10 rfl rfl rfl rfl)) ?_ | refine ex_callM (CallsM.moreL (CallsM.ren (hcon.err hx86) [0, 1] 10 rfl rfl rfl rfl)) ?_
            first | exact ⟨⟨_, rfl, rfl⟩, rfl, rfl⟩ | exact ⟨by kernel_rfl, ⟨_, rfl, rfl⟩, rfl, rfl⟩
          replace hT := (and_ok hx86).symm.trans hT
          first | refine ex_callM (CallsM.ren (hcon.ok hx86) [0, 1] 10 rfl rfl rfl rfl) ?_ | refine ex_callM (CallsM.more0 (CallsM.ren (hcon.ok hx86) [0, 1] 10 rfl rfl rfl rfl)) ?_ | refine ex_callM (CallsM.more1 (CallsM.ren (hcon.ok hx86) [0, 1] 10 rfl rfl rfl rfl)) ?_ | refine ex_callM (CallsM.moreL (CallsM.ren (hcon.ok hx86) [0, 1] 10 rfl rfl rfl rfl)) ?_
          clear hcon
          have hs1 := (Up.ok (Up.take hL t_rpar 0) hs hx86).1
          obtain rfl := mv_take1 hx86
          replace hT := pureT hT
          repeat' (first | refine ex_true (by first | decide | omega | assumption | (with_reducible exact rfl)) ?_ | refine ex_false (by first | decide | omega | assumption | exact (fun h => h rfl)) ?_ | refine ex_dec (fun _ => ?_) (fun _ => ?_) | refine ex_u8 _ rfl (by omega) (by omega) ?_ | refine ex_i64 _ rfl (by omega) (by omega) ?_ | refine ex_u64 _ rfl (by omega) (by omega) ?_ | refine and_mk (by first | omega | (with_reducible rfl) | (show drawOk _ _ _ = true; kernel_rfl)) ?_ | refine and_mk ⟨_, rfl⟩ ?_ | refine ex_is _ (List.length_map _) ?_ | refine ex_is _ List.length_nil ?_ | fail "no step")
          exact ex_meet (i + 1, l) ⟨hs1.less (by omega), hT⟩ (SLe.of ⟨⟨rfl, rfl, rfl, trivial⟩, ⟨rfl, rfl, rfl, rfl, rfl, rfl, rfl, trivial⟩⟩)
        · replace hT := asc (stp1 (asc (atyB hT hv)))
          have hs1 := stpS hL hs (isV_k hv)
          have hnm := named_c (m := m) (i + 1) hs1.lt
          first | refine ex_callM (CallsM.ren ((may_yes i hi (by omega) _ hv)) [0, 1] 10 rfl rfl rfl rfl) ?_ | refine ex_callM (CallsM.more0 (CallsM.ren ((may_yes i hi (by omega) _ hv)) [0, 1] 10 rfl rfl rfl rfl)) ?_ | refine ex_callM (CallsM.more1 (CallsM.ren ((may_yes i hi (by omega) _ hv)) [0, 1] 10 rfl rfl rfl rfl)) ?_ | refine ex_callM (CallsM.moreL (CallsM.ren ((may_yes i hi (by omega) _ hv)) [0, 1] 10 rfl rfl rfl rfl)) ?_
          repeat' (first | refine ex_true (by first | decide | omega | assumption | (with_reducible exact rfl)) ?_ | refine ex_false (by first | decide | omega | assumption | exact (fun h => h rfl)) ?_ | refine ex_dec (fun _ => ?_) (fun _ => ?_) | refine ex_u8 _ rfl (by omega) (by omega) ?_ | refine ex_i64 _ rfl (by omega) (by omega) ?_ | refine ex_u64 _ rfl (by omega) (by omega) ?_ | refine and_mk (by first | omega | (with_reducible rfl) | (show drawOk _ _ _ = true; kernel_rfl)) ?_ | refine and_mk ⟨_, rfl⟩ ?_ | refine ex_is _ (List.length_map _) ?_ | refine ex_is _ List.length_nil ?_ | fail "no step")
          rcases hb : namedV L (i + 1) with _ | _ <;> rw [hb] at hnm
          · replace hT := asc (rmF hT hb)
            first | refine ex_callM (CallsM.ren (hnm) [0, 1] 10 rfl rfl rfl rfl) ?_ | refine ex_callM (CallsM.more0 (CallsM.ren (hnm) [0, 1] 10 rfl rfl rfl rfl)) ?_ | refine ex_callM (CallsM.more1 (CallsM.ren (hnm) [0, 1] 10 rfl rfl rfl rfl)) ?_ | refine ex_callM (CallsM.moreL (CallsM.ren (hnm) [0, 1] 10 rfl rfl rfl rfl)) ?_
            repeat' (first | refine ex_true (by first | decide | omega | assumption | (with_reducible exact rfl)) ?_ | refine ex_false (by first | decide | omega | assumption | exact (fun h => h rfl)) ?_ | refine ex_dec (fun _ => ?_) (fun _ => ?_) | refine ex_u8 _ rfl (by omega) (by omega) ?_ | refine ex_i64 _ rfl (by omega) (by omega) ?_ | refine ex_u64 _ rfl (by omega) (by omega) ?_ | refine and_mk (by first | omega | (with_reducible rfl) | (show drawOk _ _ _ = true; kernel_rfl)) ?_ | refine and_mk ⟨_, rfl⟩ ?_ | refine ex_is _ (List.length_map _) ?_ | refine ex_is _ List.length_nil ?_ | fail "no step")
            have hcon := name_c (m := m) ⟨i + 1, xs, ts⟩ hs1.i (by omega)
            rcases hx99 : (nameM L) ⟨i + 1, xs, ts⟩ with ⟨p, s9⟩ | ⟨i9, e9⟩
            rotate_left
            · obtain rfl := (and_err hx99).symm.trans hT
              first | refine ex_callM (CallsM.ren (hcon.err hx99) [0, 1] 10 rfl rfl rfl rfl) ?_ | refine ex_callM (CallsM.more0 (CallsM.ren (hcon.err hx99) [0, 1] 10 rfl rfl rfl rfl)) ?_ | refine ex_callM (CallsM.more1 (CallsM.ren (hcon.err hx99) [0, 1] 10 rfl rfl rfl rfl)) ?_ | refine ex_callM (CallsM.moreL (CallsM.ren (hcon.err hx99) [0, 1] 10 rfl rfl rfl rfl)) ?_
              first | exact ⟨⟨_, rfl, rfl⟩, rfl, rfl⟩ | exact ⟨by kernel_rfl, ⟨_, rfl, rfl⟩, rfl, rfl⟩
            replace hT := (and_ok hx99).symm.trans hT
            first | refine ex_callM (CallsM.ren (hcon.ok hx99) [0, 1] 10 rfl rfl rfl rfl) ?_ | refine ex_callM (CallsM.more0 (CallsM.ren (hcon.ok hx99) [0, 1] 10 rfl rfl rfl rfl)) ?_ | refine ex_callM (CallsM.more1 (CallsM.ren (hcon.ok hx99) [0, 1] 10 rfl rfl rfl rfl)) ?_ | refine ex_callM (CallsM.moreL (CallsM.ren (hcon.ok hx99) [0, 1] 10 rfl rfl rfl rfl)) ?_
            clear hcon
            have hs2 := (Up.ok (Up.name hL 0) hs1 hx99).1
            obtain rfl := mv_name1 hx99
            have hi2 := hs2.lt
            repeat' (first | refine ex_true (by first | decide | omega | assumption | (with_reducible exact rfl)) ?_ | refine ex_false (by first | decide | omega | assumption | exact (fun h => h rfl)) ?_ | refine ex_dec (fun _ => ?_) (fun _ => ?_) | refine ex_u8 _ rfl (by omega) (by omega) ?_ | refine ex_i64 _ rfl (by omega) (by omega) ?_ | refine ex_u64 _ rfl (by omega) (by omega) ?_ | refine and_mk (by first | omega | (with_reducible rfl) | (show drawOk _ _ _ = true; kernel_rfl)) ?_ | refine and_mk ⟨_, rfl⟩ ?_ | refine ex_is _ (List.length_map _) ?_ | refine ex_is _ List.length_nil ?_ | fail "no step")
            refine ex_app (l.length) (1) 1000 (by first | rfl | (simp; done) | (simp; omega)) (by first | rfl | (simp; done) | (simp; omega)) rfl (by omega) ?_
            refine ex_is (List.map (fun p : List UInt8 => [ds (bs p)]) (l ++ [p])) (by rw [List.map_append]; rfl) ?_
            repeat' (first | refine ex_true (by first | decide | omega | assumption | (with_reducible exact rfl)) ?_ | refine ex_false (by first | decide | omega | assumption | exact (fun h => h rfl)) ?_ | refine ex_dec (fun _ => ?_) (fun _ => ?_) | refine ex_u8 _ rfl (by omega) (by omega) ?_ | refine ex_i64 _ rfl (by omega) (by omega) ?_ | refine ex_u64 _ rfl (by omega) (by omega) ?_ | refine and_mk (by first | omega | (with_reducible rfl) | (show drawOk _ _ _ = true; kernel_rfl)) ?_ | refine and_mk ⟨_, rfl⟩ ?_ | refine ex_is _ (List.length_map _) ?_ | refine ex_is _ List.length_nil ?_ | fail "no step")
            exact ex_round (i + 1 + 1, l ++ [p], n) ⟨hs2.less (by omega), by omega, by simp <;> omega, hT⟩ (by show L.length - (i + 1 + 1) < L.length - i; omega) (SLe.ren [(0, 0), (1, 1), (2, 2), (3, 3), (4, 4), (5, 5), (6, 6), (7, 7), (11, 9)] ⟨⟨rfl, rfl⟩, ⟨rfl, rfl⟩, ⟨rfl, rfl⟩, trivial⟩ ⟨⟨rfl, rfl⟩, ⟨rfl, rfl⟩, ⟨rfl, rfl⟩, ⟨rfl, rfl⟩, ⟨rfl, rfl⟩, ⟨rfl, rfl⟩, ⟨rfl, rfl⟩, trivial⟩ rfl)
          · replace hT := rmT hT hb
            first | refine ex_callM (CallsM.ren (hnm) [0, 1] 10 rfl rfl rfl rfl) ?_ | refine ex_callM (CallsM.more0 (CallsM.ren (hnm) [0, 1] 10 rfl rfl rfl rfl)) ?_ | refine ex_callM (CallsM.more1 (CallsM.ren (hnm) [0, 1] 10 rfl rfl rfl rfl)) ?_ | refine ex_callM (CallsM.moreL (CallsM.ren (hnm) [0, 1] 10 rfl rfl rfl rfl)) ?_
            repeat' (first | refine ex_is l.length (by simp) ?_ | refine ex_true (by first | decide | omega | assumption | (with_reducible exact rfl)) ?_ | refine ex_false (by first | decide | omega | assumption | exact (fun h => h rfl)) ?_ | refine ex_dec (fun _ => ?_) (fun _ => ?_) | refine ex_u8 _ rfl (by omega) (by omega) ?_ | refine ex_i64 _ rfl (by omega) (by omega) ?_ | refine ex_u64 _ rfl (by omega) (by omega) ?_ | refine and_mk (by first | omega | (with_reducible rfl) | (show drawOk _ _ _ = true; kernel_rfl)) ?_ | refine and_mk ⟨_, rfl⟩ ?_ | refine ex_is _ (List.length_map _) ?_ | refine ex_is _ List.length_nil ?_ | fail "no step")
            have hcon := room_c (m := m) ⟨i + 1, xs, ts⟩ hs1.lt l.length (by omega)
            rcases hr : (roomM l.length) ⟨i + 1, xs, ts⟩ with ⟨_, s9⟩ | ⟨i9, e9⟩
            rotate_left
            · obtain rfl := (and_err hr).symm.trans hT
              first | refine ex_callM (CallsM.ren (hcon.err hr) [0, 1] 10 rfl rfl rfl rfl) ?_ | refine ex_callM (CallsM.more0 (CallsM.ren (hcon.err hr) [0, 1] 10 rfl rfl rfl rfl)) ?_ | refine ex_callM (CallsM.more1 (CallsM.ren (hcon.err hr) [0, 1] 10 rfl rfl rfl rfl)) ?_ | refine ex_callM (CallsM.moreL (CallsM.ren (hcon.err hr) [0, 1] 10 rfl rfl rfl rfl)) ?_
              first | exact ⟨⟨_, rfl, rfl⟩, rfl, rfl⟩ | exact ⟨by kernel_rfl, ⟨_, rfl, rfl⟩, rfl, rfl⟩
            replace hT := (and_ok hr).symm.trans hT
            first | refine ex_callM (CallsM.ren (hcon.ok hr) [0, 1] 10 rfl rfl rfl rfl) ?_ | refine ex_callM (CallsM.more0 (CallsM.ren (hcon.ok hr) [0, 1] 10 rfl rfl rfl rfl)) ?_ | refine ex_callM (CallsM.more1 (CallsM.ren (hcon.ok hr) [0, 1] 10 rfl rfl rfl rfl)) ?_ | refine ex_callM (CallsM.moreL (CallsM.ren (hcon.ok hr) [0, 1] 10 rfl rfl rfl rfl)) ?_
            clear hcon
            obtain rfl := mv_room1 hr
            replace hT := asc hT
            repeat' (first | refine ex_true (by first | decide | omega | assumption | (with_reducible exact rfl)) ?_ | refine ex_false (by first | decide | omega | assumption | exact (fun h => h rfl)) ?_ | refine ex_dec (fun _ => ?_) (fun _ => ?_) | refine ex_u8 _ rfl (by omega) (by omega) ?_ | refine ex_i64 _ rfl (by omega) (by omega) ?_ | refine ex_u64 _ rfl (by omega) (by omega) ?_ | refine and_mk (by first | omega | (with_reducible rfl) | (show drawOk _ _ _ = true; kernel_rfl)) ?_ | refine and_mk ⟨_, rfl⟩ ?_ | refine ex_is _ (List.length_map _) ?_ | refine ex_is _ List.length_nil ?_ | fail "no step")
            have hcon := name_c (m := m) ⟨i + 1, xs, ts⟩ hs1.i (by omega)
            rcases hx112 : (nameM L) ⟨i + 1, xs, ts⟩ with ⟨p, s9⟩ | ⟨i9, e9⟩
            rotate_left
            · obtain rfl := (and_err hx112).symm.trans hT
              first | refine ex_callM (CallsM.ren (hcon.err hx112) [0, 1] 10 rfl rfl rfl rfl) ?_ | refine ex_callM (CallsM.more0 (CallsM.ren (hcon.err hx112) [0, 1] 10 rfl rfl rfl rfl)) ?_ | refine ex_callM (CallsM.more1 (CallsM.ren (hcon.err hx112) [0, 1] 10 rfl rfl rfl rfl)) ?_ | refine ex_callM (CallsM.moreL (CallsM.ren (hcon.err hx112) [0, 1] 10 rfl rfl rfl rfl)) ?_
              first | exact ⟨⟨_, rfl, rfl⟩, rfl, rfl⟩ | exact ⟨by kernel_rfl, ⟨_, rfl, rfl⟩, rfl, rfl⟩
            replace hT := (and_ok hx112).symm.trans hT
            first | refine ex_callM (CallsM.ren (hcon.ok hx112) [0, 1] 10 rfl rfl rfl rfl) ?_ | refine ex_callM (CallsM.more0 (CallsM.ren (hcon.ok hx112) [0, 1] 10 rfl rfl rfl rfl)) ?_ | refine ex_callM (CallsM.more1 (CallsM.ren (hcon.ok hx112) [0, 1] 10 rfl rfl rfl rfl)) ?_ | refine ex_callM (CallsM.moreL (CallsM.ren (hcon.ok hx112) [0, 1] 10 rfl rfl rfl rfl)) ?_
            clear hcon
            have hs2 := (Up.ok (Up.name hL 0) hs1 hx112).1
            obtain rfl := mv_name1 hx112
            have hi2 := hs2.lt
            repeat' (first | refine ex_true (by first | decide | omega | assumption | (with_reducible exact rfl)) ?_ | refine ex_false (by first | decide | omega | assumption | exact (fun h => h rfl)) ?_ | refine ex_dec (fun _ => ?_) (fun _ => ?_) | refine ex_u8 _ rfl (by omega) (by omega) ?_ | refine ex_i64 _ rfl (by omega) (by omega) ?_ | refine ex_u64 _ rfl (by omega) (by omega) ?_ | refine and_mk (by first | omega | (with_reducible rfl) | (show drawOk _ _ _ = true; kernel_rfl)) ?_ | refine and_mk ⟨_, rfl⟩ ?_ | refine ex_is _ (List.length_map _) ?_ | refine ex_is _ List.length_nil ?_ | fail "no step")
            refine ex_app (l.length) (1) 1000 (by first | rfl | (simp; done) | (simp; omega)) (by first | rfl | (simp; done) | (simp; omega)) rfl (by omega) ?_
            refine ex_is (List.map (fun p : List UInt8 => [ds (bs p)]) (l ++ [p])) (by rw [List.map_append]; rfl) ?_
            repeat' (first | refine ex_true (by first | decide | omega | assumption | (with_reducible exact rfl)) ?_ | refine ex_false (by first | decide | omega | assumption | exact (fun h => h rfl)) ?_ | refine ex_dec (fun _ => ?_) (fun _ => ?_) | refine ex_u8 _ rfl (by omega) (by omega) ?_ | refine ex_i64 _ rfl (by omega) (by omega) ?_ | refine ex_u64 _ rfl (by omega) (by omega) ?_ | refine and_mk (by first | omega | (with_reducible rfl) | (show drawOk _ _ _ = true; kernel_rfl)) ?_ | refine and_mk ⟨_, rfl⟩ ?_ | refine ex_is _ (List.length_map _) ?_ | refine ex_is _ List.length_nil ?_ | fail "no step")
            exact ex_round (i + 1 + 1, l ++ [p], n) ⟨hs2.less (by omega), by omega, by simp <;> omega, hT⟩ (by show L.length - (i + 1 + 1) < L.length - i; omega) (SLe.ren [(0, 0), (1, 1), (2, 2), (3, 3), (4, 4), (5, 5), (6, 6), (7, 7), (11, 9)] ⟨⟨rfl, rfl⟩, ⟨rfl, rfl⟩, ⟨rfl, rfl⟩, trivial⟩ ⟨⟨rfl, rfl⟩, ⟨rfl, rfl⟩, ⟨rfl, rfl⟩, ⟨rfl, rfl⟩, ⟨rfl, rfl⟩, ⟨rfl, rfl⟩, ⟨rfl, rfl⟩, trivial⟩ rfl)
  · clear hT hs2 hs1 hs
    rintro ⟨i, ps⟩ ⟨hs, hT⟩
    repeat' (first | refine ex_true (by first | decide | omega | assumption | (with_reducible exact rfl)) ?_ | refine ex_false (by first | decide | omega | assumption | exact (fun h => h rfl)) ?_ | refine ex_dec (fun _ => ?_) (fun _ => ?_) | refine ex_u8 _ rfl (by omega) (by omega) ?_ | refine ex_i64 _ rfl (by omega) (by omega) ?_ | refine ex_u64 _ rfl (by omega) (by omega) ?_ | refine and_mk (by first | omega | (with_reducible rfl) | (show drawOk _ _ _ = true; kernel_rfl)) ?_ | refine and_mk ⟨_, rfl⟩ ?_ | refine ex_is _ (List.length_map _) ?_ | refine ex_is _ List.length_nil ?_ | fail "no step")
    have hcon := take_c (m := m) ⟨i, xs, ts⟩ hs.i (by omega) t_lcur
    rcases hx122 : (takeM L t_lcur) ⟨i, xs, ts⟩ with ⟨_, s9⟩ | ⟨i9, e9⟩
    rotate_left
    · obtain rfl := (and_err hx122).symm.trans hT
      first | refine ex_callM (CallsM.ren (hcon.err hx122) [0, 1] 10 rfl rfl rfl rfl) ?_ | refine ex_callM (CallsM.more0 (CallsM.ren (hcon.err hx122) [0, 1] 10 rfl rfl rfl rfl)) ?_ | refine ex_callM (CallsM.more1 (CallsM.ren (hcon.err hx122) [0, 1] 10 rfl rfl rfl rfl)) ?_ | refine ex_callM (CallsM.moreL (CallsM.ren (hcon.err hx122) [0, 1] 10 rfl rfl rfl rfl)) ?_
      first | exact ⟨⟨_, rfl, rfl⟩, rfl, rfl⟩ | exact ⟨by kernel_rfl, ⟨_, rfl, rfl⟩, rfl, rfl⟩
    replace hT := (and_ok hx122).symm.trans hT
    first | refine ex_callM (CallsM.ren (hcon.ok hx122) [0, 1] 10 rfl rfl rfl rfl) ?_ | refine ex_callM (CallsM.more0 (CallsM.ren (hcon.ok hx122) [0, 1] 10 rfl rfl rfl rfl)) ?_ | refine ex_callM (CallsM.more1 (CallsM.ren (hcon.ok hx122) [0, 1] 10 rfl rfl rfl rfl)) ?_ | refine ex_callM (CallsM.moreL (CallsM.ren (hcon.ok hx122) [0, 1] 10 rfl rfl rfl rfl)) ?_
    clear hcon
    have hs1 := (Up.ok (Up.take hL t_lcur 0) hs hx122).1
    obtain rfl := mv_take1 hx122
    repeat' (first | refine ex_true (by first | decide | omega | assumption | (with_reducible exact rfl)) ?_ | refine ex_false (by first | decide | omega | assumption | exact (fun h => h rfl)) ?_ | refine ex_dec (fun _ => ?_) (fun _ => ?_) | refine ex_u8 _ rfl (by omega) (by omega) ?_ | refine ex_i64 _ rfl (by omega) (by omega) ?_ | refine ex_u64 _ rfl (by omega) (by omega) ?_ | refine and_mk (by first | omega | (with_reducible rfl) | (show drawOk _ _ _ = true; kernel_rfl)) ?_ | refine and_mk ⟨_, rfl⟩ ?_ | refine ex_is _ (List.length_map _) ?_ | refine ex_is _ List.length_nil ?_ | fail "no step")
    replace hT : (itemsN L (L.length - (i + 1) + 1) [] >>= fun is => takeM L t_rcur >>= fun _ => pure (⟨w, ps, is⟩ : RC)) ⟨i + 1, xs, ts⟩ = T := hT
    refine ex_loop (X := Nat × List EX × List TY × List IT × Nat) (fun ⟨i, xs, ts, l, _⟩ => ⟨[(0, .o P0), (2, .o (.c (.ptr 6 0))), (3, .o (.c (.ptr 7 0)))], [(5, .dead), (4, .dead), (0, Qz L m i), (1, Fz 2 3 11 12), (6, .obj [.d (ds ⟨#[]⟩), .d dnil, .d dnil]), (7, .obj [.d (ds (bs w)), .row 9, .row 10]), (9, .row 1 9 (ps.map fun p => [ds (bs p)])), (10, .row 9 73 (l.map itD)), (11, Xz xs), (12, Tz ts)], 13⟩) (fun y => L.length - y.1)
      (fun ⟨i, xs, ts, l, n⟩ => SOk L 0 ⟨i, xs, ts⟩ ∧ L.length < i + n ∧ l.length ≤ i ∧ (itemsN L n l >>= fun is => takeM L t_rcur >>= fun _ => pure (⟨w, ps, is⟩ : RC)) ⟨i, xs, ts⟩ = T) (i + 1, xs, ts, [], L.length - (i + 1) + 1) ⟨hs1.less (by omega), by omega, Nat.zero_le _, hT⟩
      (SLe.kill (nx := 13) 5 (SLe.kill (nx := 13) 4 (SLe.via (SLe.ownCell 7 2 10 9 73 rfl rfl rfl rfl rfl rfl) (SLe.ren [(0, 0), (1, 1), (2, 2), (3, 3), (6, 6), (7, 7), (9, 9), (10, 10), (4, 11), (5, 12)] ⟨⟨rfl, rfl⟩, ⟨rfl, rfl⟩, ⟨rfl, rfl⟩, trivial⟩ ⟨⟨rfl, rfl⟩, ⟨rfl, rfl⟩, ⟨rfl, rfl⟩, ⟨rfl, rfl⟩, ⟨rfl, rfl⟩, ⟨rfl, rfl⟩, ⟨rfl, rfl⟩, ⟨rfl, rfl⟩, trivial⟩ rfl)))) ?_
    clear hT hs1 hs
    rintro ⟨i, xs, ts, l, n⟩ ⟨hs, hf, hll, hT⟩
    have hi := hs.lt
    have hpk := is_c (m := m) i hi w_pack
    have hnm := named_c (m := m) i hi
    cases n with
    | zero => omega
    | succ n =>
      rw [itemsN] at hT
      rcases hv : isV L i w_pack with _ | _ <;> rw [hv] at hpk
      · rcases hv2 : namedV L i with _ | _ <;> rw [hv2] at hnm
        · replace hT := pureT (atnB hT (by rw [hv, hv2]; rfl))
          first | refine ex_callM (CallsM.ren (hpk) [0, 1] 13 rfl rfl rfl rfl) ?_ | refine ex_callM (CallsM.more0 (CallsM.ren (hpk) [0, 1] 13 rfl rfl rfl rfl)) ?_ | refine ex_callM (CallsM.more1 (CallsM.ren (hpk) [0, 1] 13 rfl rfl rfl rfl)) ?_ | refine ex_callM (CallsM.moreL (CallsM.ren (hpk) [0, 1] 13 rfl rfl rfl rfl)) ?_
          repeat' (first | refine ex_true (by first | decide | omega | assumption | (with_reducible exact rfl)) ?_ | refine ex_false (by first | decide | omega | assumption | exact (fun h => h rfl)) ?_ | refine ex_dec (fun _ => ?_) (fun _ => ?_) | refine ex_u8 _ rfl (by omega) (by omega) ?_ | refine ex_i64 _ rfl (by omega) (by omega) ?_ | refine ex_u64 _ rfl (by omega) (by omega) ?_ | refine and_mk (by first | omega | (with_reducible rfl) | (show drawOk _ _ _ = true; kernel_rfl)) ?_ | refine and_mk ⟨_, rfl⟩ ?_ | refine ex_is _ (List.length_map _) ?_ | refine ex_is _ List.length_nil ?_ | fail "no step")
          first | refine ex_callM (CallsM.ren (hnm) [0, 1] 13 rfl rfl rfl rfl) ?_ | refine ex_callM (CallsM.more0 (CallsM.ren (hnm) [0, 1] 13 rfl rfl rfl rfl)) ?_ | refine ex_callM (CallsM.more1 (CallsM.ren (hnm) [0, 1] 13 rfl rfl rfl rfl)) ?_ | refine ex_callM (CallsM.moreL (CallsM.ren (hnm) [0, 1] 13 rfl rfl rfl rfl)) ?_
          repeat' (first | refine ex_true (by first | decide | omega | assumption | (with_reducible exact rfl)) ?_ | refine ex_false (by first | decide | omega | assumption | exact (fun h => h rfl)) ?_ | refine ex_dec (fun _ => ?_) (fun _ => ?_) | refine ex_u8 _ rfl (by omega) (by omega) ?_ | refine ex_i64 _ rfl (by omega) (by omega) ?_ | refine ex_u64 _ rfl (by omega) (by omega) ?_ | refine and_mk (by first | omega | (with_reducible rfl) | (show drawOk _ _ _ = true; kernel_rfl)) ?_ | refine and_mk ⟨_, rfl⟩ ?_ | refine ex_is _ (List.length_map _) ?_ | refine ex_is _ List.length_nil ?_ | fail "no step")
          have hcon := take_c (m := m) ⟨i, xs, ts⟩ hs.i (by omega) t_rcur
          rcases hx144 : (takeM L t_rcur) ⟨i, xs, ts⟩ with ⟨_, s9⟩ | ⟨i9, e9⟩
          rotate_left
          · obtain rfl := (and_err hx144).symm.trans hT
            first | refine ex_callM (CallsM.ren (hcon.err hx144) [0, 1] 13 rfl rfl rfl rfl) ?_ | refine ex_callM (CallsM.more0 (CallsM.ren (hcon.err hx144) [0, 1] 13 rfl rfl rfl rfl)) ?_ | refine ex_callM (CallsM.more1 (CallsM.ren (hcon.err hx144) [0, 1] 13 rfl rfl rfl rfl)) ?_ | refine ex_callM (CallsM.moreL (CallsM.ren (hcon.err hx144) [0, 1] 13 rfl rfl rfl rfl)) ?_
            first | exact ⟨⟨_, rfl, rfl⟩, rfl, rfl⟩ | exact ⟨by kernel_rfl, ⟨_, rfl, rfl⟩, rfl, rfl⟩
          replace hT := (and_ok hx144).symm.trans hT
          first | refine ex_callM (CallsM.ren (hcon.ok hx144) [0, 1] 13 rfl rfl rfl rfl) ?_ | refine ex_callM (CallsM.more0 (CallsM.ren (hcon.ok hx144) [0, 1] 13 rfl rfl rfl rfl)) ?_ | refine ex_callM (CallsM.more1 (CallsM.ren (hcon.ok hx144) [0, 1] 13 rfl rfl rfl rfl)) ?_ | refine ex_callM (CallsM.moreL (CallsM.ren (hcon.ok hx144) [0, 1] 13 rfl rfl rfl rfl)) ?_
          clear hcon
          have hs1 := (Up.ok (Up.take hL t_rcur 0) hs hx144).1
          obtain rfl := mv_take1 hx144
          obtain rfl : PR.ok (⟨w, ps, l⟩ : RC) ⟨i + 1, xs, ts⟩ = T := hT
          repeat' (first | refine ex_true (by first | decide | omega | assumption | (with_reducible exact rfl)) ?_ | refine ex_false (by first | decide | omega | assumption | exact (fun h => h rfl)) ?_ | refine ex_dec (fun _ => ?_) (fun _ => ?_) | refine ex_u8 _ rfl (by omega) (by omega) ?_ | refine ex_i64 _ rfl (by omega) (by omega) ?_ | refine ex_u64 _ rfl (by omega) (by omega) ?_ | refine and_mk (by first | omega | (with_reducible rfl) | (show drawOk _ _ _ = true; kernel_rfl)) ?_ | refine and_mk ⟨_, rfl⟩ ?_ | refine ex_is _ (List.length_map _) ?_ | refine ex_is _ List.length_nil ?_ | fail "no step")
          exact ⟨rfl, TLe.rfl, rfl, rfl⟩
        · replace hT := asc (atyB hT (by rw [hv, hv2]; rfl))
          first | refine ex_callM (CallsM.ren (hpk) [0, 1] 13 rfl rfl rfl rfl) ?_ | refine ex_callM (CallsM.more0 (CallsM.ren (hpk) [0, 1] 13 rfl rfl rfl rfl)) ?_ | refine ex_callM (CallsM.more1 (CallsM.ren (hpk) [0, 1] 13 rfl rfl rfl rfl)) ?_ | refine ex_callM (CallsM.moreL (CallsM.ren (hpk) [0, 1] 13 rfl rfl rfl rfl)) ?_
          repeat' (first | refine ex_true (by first | decide | omega | assumption | (with_reducible exact rfl)) ?_ | refine ex_false (by first | decide | omega | assumption | exact (fun h => h rfl)) ?_ | refine ex_dec (fun _ => ?_) (fun _ => ?_) | refine ex_u8 _ rfl (by omega) (by omega) ?_ | refine ex_i64 _ rfl (by omega) (by omega) ?_ | refine ex_u64 _ rfl (by omega) (by omega) ?_ | refine and_mk (by first | omega | (with_reducible rfl) | (show drawOk _ _ _ = true; kernel_rfl)) ?_ | refine and_mk ⟨_, rfl⟩ ?_ | refine ex_is _ (List.length_map _) ?_ | refine ex_is _ List.length_nil ?_ | fail "no step")
          first | refine ex_callM (CallsM.ren (hnm) [0, 1] 13 rfl rfl rfl rfl) ?_ | refine ex_callM (CallsM.more0 (CallsM.ren (hnm) [0, 1] 13 rfl rfl rfl rfl)) ?_ | refine ex_callM (CallsM.more1 (CallsM.ren (hnm) [0, 1] 13 rfl rfl rfl rfl)) ?_ | refine ex_callM (CallsM.moreL (CallsM.ren (hnm) [0, 1] 13 rfl rfl rfl rfl)) ?_
          repeat' (first | refine ex_is l.length (by simp) ?_ | refine ex_true (by first | decide | omega | assumption | (with_reducible exact rfl)) ?_ | refine ex_false (by first | decide | omega | assumption | exact (fun h => h rfl)) ?_ | refine ex_dec (fun _ => ?_) (fun _ => ?_) | refine ex_u8 _ rfl (by omega) (by omega) ?_ | refine ex_i64 _ rfl (by omega) (by omega) ?_ | refine ex_u64 _ rfl (by omega) (by omega) ?_ | refine and_mk (by first | omega | (with_reducible rfl) | (show drawOk _ _ _ = true; kernel_rfl)) ?_ | refine and_mk ⟨_, rfl⟩ ?_ | refine ex_is _ (List.length_map _) ?_ | refine ex_is _ List.length_nil ?_ | fail "no step")
          have hcon := room_c (m := m) ⟨i, xs, ts⟩ hi l.length (by omega)
          rcases hr : (roomM l.length) ⟨i, xs, ts⟩ with ⟨_, s9⟩ | ⟨i9, e9⟩
          rotate_left
          · obtain rfl := (and_err hr).symm.trans hT
            first | refine ex_callM (CallsM.ren (hcon.err hr) [0, 1] 13 rfl rfl rfl rfl) ?_ | refine ex_callM (CallsM.more0 (CallsM.ren (hcon.err hr) [0, 1] 13 rfl rfl rfl rfl)) ?_ | refine ex_callM (CallsM.more1 (CallsM.ren (hcon.err hr) [0, 1] 13 rfl rfl rfl rfl)) ?_ | refine ex_callM (CallsM.moreL (CallsM.ren (hcon.err hr) [0, 1] 13 rfl rfl rfl rfl)) ?_
            first | exact ⟨⟨_, rfl, rfl⟩, rfl, rfl⟩ | exact ⟨by kernel_rfl, ⟨_, rfl, rfl⟩, rfl, rfl⟩
          replace hT := (and_ok hr).symm.trans hT
          first | refine ex_callM (CallsM.ren (hcon.ok hr) [0, 1] 13 rfl rfl rfl rfl) ?_ | refine ex_callM (CallsM.more0 (CallsM.ren (hcon.ok hr) [0, 1] 13 rfl rfl rfl rfl)) ?_ | refine ex_callM (CallsM.more1 (CallsM.ren (hcon.ok hr) [0, 1] 13 rfl rfl rfl rfl)) ?_ | refine ex_callM (CallsM.moreL (CallsM.ren (hcon.ok hr) [0, 1] 13 rfl rfl rfl rfl)) ?_
          clear hcon
          obtain rfl := mv_room1 hr
          replace hT := atnB (asc hT) hv
          repeat' (first | refine ex_true (by first | decide | omega | assumption | (with_reducible exact rfl)) ?_ | refine ex_false (by first | decide | omega | assumption | exact (fun h => h rfl)) ?_ | refine ex_dec (fun _ => ?_) (fun _ => ?_) | refine ex_u8 _ rfl (by omega) (by omega) ?_ | refine ex_i64 _ rfl (by omega) (by omega) ?_ | refine ex_u64 _ rfl (by omega) (by omega) ?_ | refine and_mk (by first | omega | (with_reducible rfl) | (show drawOk _ _ _ = true; kernel_rfl)) ?_ | refine and_mk ⟨_, rfl⟩ ?_ | refine ex_is _ (List.length_map _) ?_ | refine ex_is _ List.length_nil ?_ | fail "no step")
          first | refine ex_callM (CallsM.ren (hpk) [0, 1] 13 rfl rfl rfl rfl) ?_ | refine ex_callM (CallsM.more0 (CallsM.ren (hpk) [0, 1] 13 rfl rfl rfl rfl)) ?_ | refine ex_callM (CallsM.more1 (CallsM.ren (hpk) [0, 1] 13 rfl rfl rfl rfl)) ?_ | refine ex_callM (CallsM.moreL (CallsM.ren (hpk) [0, 1] 13 rfl rfl rfl rfl)) ?_
          repeat' (first | refine ex_true (by first | decide | omega | assumption | (with_reducible exact rfl)) ?_ | refine ex_false (by first | decide | omega | assumption | exact (fun h => h rfl)) ?_ | refine ex_dec (fun _ => ?_) (fun _ => ?_) | refine ex_u8 _ rfl (by omega) (by omega) ?_ | refine ex_i64 _ rfl (by omega) (by omega) ?_ | refine ex_u64 _ rfl (by omega) (by omega) ?_ | refine and_mk (by first | omega | (with_reducible rfl) | (show drawOk _ _ _ = true; kernel_rfl)) ?_ | refine and_mk ⟨_, rfl⟩ ?_ | refine ex_is _ (List.length_map _) ?_ | refine ex_is _ List.length_nil ?_ | fail "no step")
          have hcon := field_c hL hn hm ⟨i, xs, ts⟩ hs
          rcases hx : (fieldM L) ⟨i, xs, ts⟩ with ⟨x, ⟨i2, xs2, ts2⟩⟩ | ⟨i9, e9⟩
          rotate_left
          · obtain rfl := (and_err hx).symm.trans hT
            first | refine ex_callM (CallsM.ren (hcon.err hx) [0, 1, 2, 3, 11, 12] 13 rfl rfl rfl rfl) ?_ | refine ex_callM (CallsM.more0 (CallsM.ren (hcon.err hx) [0, 1, 2, 3, 11, 12] 13 rfl rfl rfl rfl)) ?_ | refine ex_callM (CallsM.more1 (CallsM.ren (hcon.err hx) [0, 1, 2, 3, 11, 12] 13 rfl rfl rfl rfl)) ?_ | refine ex_callM (CallsM.moreL (CallsM.ren (hcon.err hx) [0, 1, 2, 3, 11, 12] 13 rfl rfl rfl rfl)) ?_
            first | exact ⟨⟨_, rfl, rfl⟩, rfl, rfl⟩ | exact ⟨by kernel_rfl, ⟨_, rfl, rfl⟩, rfl, rfl⟩
          replace hT := (and_ok hx).symm.trans hT
          first | refine ex_callM (CallsM.ren (hcon.ok hx) [0, 1, 2, 3, 11, 12] 13 rfl rfl rfl rfl) ?_ | refine ex_callM (CallsM.more0 (CallsM.ren (hcon.ok hx) [0, 1, 2, 3, 11, 12] 13 rfl rfl rfl rfl)) ?_ | refine ex_callM (CallsM.more1 (CallsM.ren (hcon.ok hx) [0, 1, 2, 3, 11, 12] 13 rfl rfl rfl rfl)) ?_ | refine ex_callM (CallsM.moreL (CallsM.ren (hcon.ok hx) [0, 1, 2, 3, 11, 12] 13 rfl rfl rfl rfl)) ?_
          clear hcon
          have hs2 := (Up.ok (up_field hL) hs hx).1
          have hgo : i < i2 := mo_field _ _ _ hx
          repeat' (first | refine ex_true (by first | decide | omega | assumption | (with_reducible exact rfl)) ?_ | refine ex_false (by first | decide | omega | assumption | exact (fun h => h rfl)) ?_ | refine ex_dec (fun _ => ?_) (fun _ => ?_) | refine ex_u8 _ rfl (by omega) (by omega) ?_ | refine ex_i64 _ rfl (by omega) (by omega) ?_ | refine ex_u64 _ rfl (by omega) (by omega) ?_ | refine and_mk (by first | omega | (with_reducible rfl) | (show drawOk _ _ _ = true; kernel_rfl)) ?_ | refine and_mk ⟨_, rfl⟩ ?_ | refine ex_is _ (List.length_map _) ?_ | refine ex_is _ List.length_nil ?_ | fail "no step")
          refine ex_app (l.length) (1) 1000 (by first | rfl | (simp; done) | (simp; omega)) (by first | rfl | (simp; done) | (simp; omega)) rfl (by omega) ?_
          refine ex_is (List.map itD (l ++ [x])) (by rw [List.map_append]; rfl) ?_
          repeat' (first | refine ex_true (by first | decide | omega | assumption | (with_reducible exact rfl)) ?_ | refine ex_false (by first | decide | omega | assumption | exact (fun h => h rfl)) ?_ | refine ex_dec (fun _ => ?_) (fun _ => ?_) | refine ex_u8 _ rfl (by omega) (by omega) ?_ | refine ex_i64 _ rfl (by omega) (by omega) ?_ | refine ex_u64 _ rfl (by omega) (by omega) ?_ | refine and_mk (by first | omega | (with_reducible rfl) | (show drawOk _ _ _ = true; kernel_rfl)) ?_ | refine and_mk ⟨_, rfl⟩ ?_ | refine ex_is _ (List.length_map _) ?_ | refine ex_is _ List.length_nil ?_ | fail "no step")
          exact ex_round (i2, xs2, ts2, l ++ [x], n) ⟨hs2, by omega, by simp <;> omega, hT⟩ (by show L.length - i2 < L.length - i; omega) (SLe.ren [(0, 0), (1, 1), (2, 2), (3, 3), (4, 4), (5, 5), (6, 6), (7, 7), (9, 9), (13, 11), (14, 12), (16, 10)] ⟨⟨rfl, rfl⟩, ⟨rfl, rfl⟩, ⟨rfl, rfl⟩, trivial⟩ ⟨⟨rfl, rfl⟩, ⟨rfl, rfl⟩, ⟨rfl, rfl⟩, ⟨rfl, rfl⟩, ⟨rfl, rfl⟩, ⟨rfl, rfl⟩, ⟨rfl, rfl⟩, ⟨rfl, rfl⟩, ⟨rfl, rfl⟩, ⟨rfl, rfl⟩, trivial⟩ rfl)
      · replace hT := asc (atyB hT (by rw [hv]; rfl))
        first | refine ex_callM (CallsM.ren (hpk) [0, 1] 13 rfl rfl rfl rfl) ?_ | refine ex_callM (CallsM.more0 (CallsM.ren (hpk) [0, 1] 13 rfl rfl rfl rfl)) ?_ | refine ex_callM (CallsM.more1 (CallsM.ren (hpk) [0, 1] 13 rfl rfl rfl rfl)) ?_ | refine ex_callM (CallsM.moreL (CallsM.ren (hpk) [0, 1] 13 rfl rfl rfl rfl)) ?_
        repeat' (first | refine ex_is l.length (by simp) ?_ | refine ex_true (by first | decide | omega | assumption | (with_reducible exact rfl)) ?_ | refine ex_false (by first | decide | omega | assumption | exact (fun h => h rfl)) ?_ | refine ex_dec (fun _ => ?_) (fun _ => ?_) | refine ex_u8 _ rfl (by omega) (by omega) ?_ | refine ex_i64 _ rfl (by omega) (by omega) ?_ | refine ex_u64 _ rfl (by omega) (by omega) ?_ | refine and_mk (by first | omega | (with_reducible rfl) | (show drawOk _ _ _ = true; kernel_rfl)) ?_ | refine and_mk ⟨_, rfl⟩ ?_ | refine ex_is _ (List.length_map _) ?_ | refine ex_is _ List.length_nil ?_ | fail "no step")
        have hcon := room_c (m := m) ⟨i, xs, ts⟩ hi l.length (by omega)
        rcases hr : (roomM l.length) ⟨i, xs, ts⟩ with ⟨_, s9⟩ | ⟨i9, e9⟩
        rotate_left
        · obtain rfl := (and_err hr).symm.trans hT
          first | refine ex_callM (CallsM.ren (hcon.err hr) [0, 1] 13 rfl rfl rfl rfl) ?_ | refine ex_callM (CallsM.more0 (CallsM.ren (hcon.err hr) [0, 1] 13 rfl rfl rfl rfl)) ?_ | refine ex_callM (CallsM.more1 (CallsM.ren (hcon.err hr) [0, 1] 13 rfl rfl rfl rfl)) ?_ | refine ex_callM (CallsM.moreL (CallsM.ren (hcon.err hr) [0, 1] 13 rfl rfl rfl rfl)) ?_
          first | exact ⟨⟨_, rfl, rfl⟩, rfl, rfl⟩ | exact ⟨by kernel_rfl, ⟨_, rfl, rfl⟩, rfl, rfl⟩
        replace hT := (and_ok hr).symm.trans hT
        first | refine ex_callM (CallsM.ren (hcon.ok hr) [0, 1] 13 rfl rfl rfl rfl) ?_ | refine ex_callM (CallsM.more0 (CallsM.ren (hcon.ok hr) [0, 1] 13 rfl rfl rfl rfl)) ?_ | refine ex_callM (CallsM.more1 (CallsM.ren (hcon.ok hr) [0, 1] 13 rfl rfl rfl rfl)) ?_ | refine ex_callM (CallsM.moreL (CallsM.ren (hcon.ok hr) [0, 1] 13 rfl rfl rfl rfl)) ?_
        clear hcon
        obtain rfl := mv_room1 hr
        replace hT := atyB (asc hT) hv
        repeat' (first | refine ex_true (by first | decide | omega | assumption | (with_reducible exact rfl)) ?_ | refine ex_false (by first | decide | omega | assumption | exact (fun h => h rfl)) ?_ | refine ex_dec (fun _ => ?_) (fun _ => ?_) | refine ex_u8 _ rfl (by omega) (by omega) ?_ | refine ex_i64 _ rfl (by omega) (by omega) ?_ | refine ex_u64 _ rfl (by omega) (by omega) ?_ | refine and_mk (by first | omega | (with_reducible rfl) | (show drawOk _ _ _ = true; kernel_rfl)) ?_ | refine and_mk ⟨_, rfl⟩ ?_ | refine ex_is _ (List.length_map _) ?_ | refine ex_is _ List.length_nil ?_ | fail "no step")
        first | refine ex_callM (CallsM.ren (hpk) [0, 1] 13 rfl rfl rfl rfl) ?_ | refine ex_callM (CallsM.more0 (CallsM.ren (hpk) [0, 1] 13 rfl rfl rfl rfl)) ?_ | refine ex_callM (CallsM.more1 (CallsM.ren (hpk) [0, 1] 13 rfl rfl rfl rfl)) ?_ | refine ex_callM (CallsM.moreL (CallsM.ren (hpk) [0, 1] 13 rfl rfl rfl rfl)) ?_
        repeat' (first | refine ex_true (by first | decide | omega | assumption | (with_reducible exact rfl)) ?_ | refine ex_false (by first | decide | omega | assumption | exact (fun h => h rfl)) ?_ | refine ex_dec (fun _ => ?_) (fun _ => ?_) | refine ex_u8 _ rfl (by omega) (by omega) ?_ | refine ex_i64 _ rfl (by omega) (by omega) ?_ | refine ex_u64 _ rfl (by omega) (by omega) ?_ | refine and_mk (by first | omega | (with_reducible rfl) | (show drawOk _ _ _ = true; kernel_rfl)) ?_ | refine and_mk ⟨_, rfl⟩ ?_ | refine ex_is _ (List.length_map _) ?_ | refine ex_is _ List.length_nil ?_ | fail "no step")
        have hcon := pack_c (m := m) hL hn ⟨i, xs, ts⟩ hs
        rcases hx : (packM L) ⟨i, xs, ts⟩ with ⟨x, ⟨i2, xs2, ts2⟩⟩ | ⟨i9, e9⟩
        rotate_left
        · obtain rfl := (and_err hx).symm.trans hT
          first | refine ex_callM (CallsM.ren (hcon.err hx) [0, 1] 13 rfl rfl rfl rfl) ?_ | refine ex_callM (CallsM.more0 (CallsM.ren (hcon.err hx) [0, 1] 13 rfl rfl rfl rfl)) ?_ | refine ex_callM (CallsM.more1 (CallsM.ren (hcon.err hx) [0, 1] 13 rfl rfl rfl rfl)) ?_ | refine ex_callM (CallsM.moreL (CallsM.ren (hcon.err hx) [0, 1] 13 rfl rfl rfl rfl)) ?_
          first | exact ⟨⟨_, rfl, rfl⟩, rfl, rfl⟩ | exact ⟨by kernel_rfl, ⟨_, rfl, rfl⟩, rfl, rfl⟩
        replace hT := (and_ok hx).symm.trans hT
        first | refine ex_callM (CallsM.ren (hcon.ok hx) [0, 1] 13 rfl rfl rfl rfl) ?_ | refine ex_callM (CallsM.more0 (CallsM.ren (hcon.ok hx) [0, 1] 13 rfl rfl rfl rfl)) ?_ | refine ex_callM (CallsM.more1 (CallsM.ren (hcon.ok hx) [0, 1] 13 rfl rfl rfl rfl)) ?_ | refine ex_callM (CallsM.moreL (CallsM.ren (hcon.ok hx) [0, 1] 13 rfl rfl rfl rfl)) ?_
        clear hcon
        have hs2 := (Up.ok (up_pack hL) hs hx).1
        have hgo : i < i2 := mo_pack _ _ _ hx
        obtain ⟨rfl, rfl⟩ := mv_pack hx
        repeat' (first | refine ex_true (by first | decide | omega | assumption | (with_reducible exact rfl)) ?_ | refine ex_false (by first | decide | omega | assumption | exact (fun h => h rfl)) ?_ | refine ex_dec (fun _ => ?_) (fun _ => ?_) | refine ex_u8 _ rfl (by omega) (by omega) ?_ | refine ex_i64 _ rfl (by omega) (by omega) ?_ | refine ex_u64 _ rfl (by omega) (by omega) ?_ | refine and_mk (by first | omega | (with_reducible rfl) | (show drawOk _ _ _ = true; kernel_rfl)) ?_ | refine and_mk ⟨_, rfl⟩ ?_ | refine ex_is _ (List.length_map _) ?_ | refine ex_is _ List.length_nil ?_ | fail "no step")
        refine ex_app (l.length) (1) 1000 (by first | rfl | (simp; done) | (simp; omega)) (by first | rfl | (simp; done) | (simp; omega)) rfl (by omega) ?_
        refine ex_is (List.map itD (l ++ [x])) (by rw [List.map_append]; rfl) ?_
        repeat' (first | refine ex_true (by first | decide | omega | assumption | (with_reducible exact rfl)) ?_ | refine ex_false (by first | decide | omega | assumption | exact (fun h => h rfl)) ?_ | refine ex_dec (fun _ => ?_) (fun _ => ?_) | refine ex_u8 _ rfl (by omega) (by omega) ?_ | refine ex_i64 _ rfl (by omega) (by omega) ?_ | refine ex_u64 _ rfl (by omega) (by omega) ?_ | refine and_mk (by first | omega | (with_reducible rfl) | (show drawOk _ _ _ = true; kernel_rfl)) ?_ | refine and_mk ⟨_, rfl⟩ ?_ | refine ex_is _ (List.length_map _) ?_ | refine ex_is _ List.length_nil ?_ | fail "no step")
        exact ex_round (i2, xs, ts, l ++ [x], n) ⟨hs2, by omega, by simp <;> omega, hT⟩ (by show L.length - i2 < L.length - i; omega) (SLe.ren [(0, 0), (1, 1), (2, 2), (3, 3), (4, 4), (5, 5), (6, 6), (7, 7), (9, 9), (11, 11), (12, 12), (14, 10)] ⟨⟨rfl, rfl⟩, ⟨rfl, rfl⟩, ⟨rfl, rfl⟩, trivial⟩ ⟨⟨rfl, rfl⟩, ⟨rfl, rfl⟩, ⟨rfl, rfl⟩, ⟨rfl, rfl⟩, ⟨rfl, rfl⟩, ⟨rfl, rfl⟩, ⟨rfl, rfl⟩, ⟨rfl, rfl⟩, ⟨rfl, rfl⟩, ⟨rfl, rfl⟩, trivial⟩ rfl)
end
end Go.Proofs.YtkbhmcdoedmffaaGreatDoor

namespace Go.Proofs.YtkbhmcdoedmffaaGreatDoor
set_option linter.unusedVariables false
set_option linter.unusedSimpArgs false
open Go.RowKit
set_option maxRecDepth 100000

section
variable {P : Program} {Γ : Glob} {f : FuncId} {nx : Nat} {xs : List T1} {r : TV} {upd : List (Nat × Blk)} {new : List Blk} {a b c d e g : Nat × Blk} {m : List (Nat × Blk)}
theorem CallsM.moreW (h : CallsM P Γ f [a, b, e, g] nx xs r upd new) : CallsM P Γ f [a, b, c, d, e, g] nx xs r upd new := h.more fun p hp => by
  simp only [List.mem_cons, List.not_mem_nil, or_false] at hp ⊢; rcases hp with hp | hp | hp | hp <;> simp [hp]
end
abbrev Cz (l : List CO) : Blk := .row 2 107 (l.map coD)
abbrev Uz (l : List RC) : Blk := .row 3 69 (l.map rcD)
def PR.uW (L : List TokP) (m : Nat) : PR (List CO × List RC) → List (Nat × Blk)
  | .ok _ s => [(0, Qz L m s.i), (1, Fz 6 7 8 9), (2, .dead), (3, .dead), (4, .dead), (5, .dead)]
  | .err _ _ => [(0, .dead), (1, .dead), (2, .dead), (3, .dead), (4, .dead), (5, .dead)]
def PR.nW : PR (List CO × List RC) → List Blk
  | .ok v s => [Cz v.1, Uz v.2, Xz s.xs, Tz s.ts]
  | .err _ _ => []
/-- A call that panics where the rest is worked out by the kernel alone. -/
theorem ex_pan {P : Program} {Γ : Glob} {f : FuncId} {m : List (Nat × Blk)} {nx : Nat} {xs : List T1} {r : TV} {upd : List (Nat × Blk)} {new : List Blk} (Q : Prop) (h : CallsM P Γ f m nx xs r upd new) {K : TV → List (Nat × Blk) → List Blk → Prop} (e : K r upd new = Q) (hq : Q) : ∃ r upd new, CallsM P Γ f m nx xs r upd new ∧ K r upd new := ⟨r, upd, new, h, e.mpr hq⟩
section
variable {L : List TokP} {m : Nat}
set_option maxHeartbeats 16000000 in
theorem whole_c (hL : TokOk L) (hn : L.length ≤ 100000) (hm : m = 32) (i n0 : Nat) (xs : List EX) (ts : List TY) (cs : List CO) (rs : List RC) (hs : SOk L 0 ⟨i, xs, ts⟩) (hf : L.length < i + n0) (hcl : cs.length ≤ i) (hrl : rs.length ≤ i) (T : PR (List CO × List RC)) (hT : wholeN L n0 cs rs ⟨i, xs, ts⟩ = T) :
    CallsM Tryz.prog ΓL 24 [(0, Qz L m i), (1, Fz 2 3 4 5), (2, Cz cs), (3, Uz rs), (4, Xz xs), (5, Tz ts)] 6 [P0] (T.tv L fun _ => .tup []) (T.uW L m) T.nW := by
  refine fn_ruleP (C := ⟨Tryz.prog, layF, Tryz.f24.ntmps, ΓL, 6, [], []⟩) layF_ok mixed Tryz.func24 rfl (by kernel_rfl) rfl rfl rfl SLe.rfl ?_
  repeat' (first | refine ex_true (by first | decide | omega | assumption | (with_reducible exact rfl)) ?_ | refine ex_false (by first | decide | omega | assumption | exact (fun h => h rfl)) ?_ | refine ex_dec (fun _ => ?_) (fun _ => ?_) | refine ex_u8 _ rfl (by omega) (by omega) ?_ | refine ex_i64 _ rfl (by omega) (by omega) ?_ | refine ex_u64 _ rfl (by omega) (by omega) ?_ | refine and_mk (by first | omega | (with_reducible rfl) | (show drawOk _ _ _ = true; kernel_rfl)) ?_ | refine and_mk ⟨_, rfl⟩ ?_ | refine ex_is _ (List.length_map _) ?_ | refine ex_is _ List.length_nil ?_ | fail "no step")
  refine ex_loop (X := Nat × List EX × List TY × List CO × List RC × Nat) (fun ⟨i, xs, ts, cs, rs, _⟩ => ⟨[(0, .o P0)], [(5, .dead), (4, .dead), (3, .dead), (2, .dead), (0, Qz L m i), (1, Fz 6 7 8 9), (6, Cz cs), (7, Uz rs), (8, Xz xs), (9, Tz ts)], 10⟩) (fun y => L.length - y.1)
    (fun ⟨i, xs, ts, cs, rs, n⟩ => SOk L 0 ⟨i, xs, ts⟩ ∧ L.length < i + n ∧ cs.length ≤ i ∧ rs.length ≤ i ∧ wholeN L n cs rs ⟨i, xs, ts⟩ = T) (i, xs, ts, cs, rs, n0) ⟨hs, hf, hcl, hrl, hT⟩
    (SLe.kill (nx := 10) 5 (SLe.kill (nx := 10) 4 (SLe.kill (nx := 10) 3 (SLe.kill (nx := 10) 2 (SLe.ren [(0, 0), (1, 1), (2, 6), (3, 7), (4, 8), (5, 9)] ⟨⟨rfl, rfl⟩, trivial⟩ ⟨⟨rfl, rfl⟩, ⟨rfl, rfl⟩, ⟨rfl, rfl⟩, ⟨rfl, rfl⟩, ⟨rfl, rfl⟩, ⟨rfl, rfl⟩, trivial⟩ rfl))))) ?_
  clear hT hf hcl hrl hs
  rintro ⟨i, xs, ts, cs, rs, n⟩ ⟨hs, hf, hcl, hrl, hT⟩
  have hi := hs.lt
  have hic := is_c (m := m) i hi w_const
  have hir := is_c (m := m) i hi w_struct
  cases n with
  | zero => omega
  | succ n =>
    rw [wholeN] at hT
    rcases hv : isV L i w_const with _ | _ <;> rw [hv] at hic
    · replace hT := atn hT hv
      rcases hv2 : isV L i w_struct with _ | _ <;> rw [hv2] at hir
      · replace hT := atn hT hv2
        have ha := ahead_c (L := L) (m := m) i hi
        by_cases hk : (tk L i).k = 3
        · obtain rfl : PR.ok (cs, rs) ⟨i, xs, ts⟩ = T := aty hT (by rw [hk]; rfl)
          generalize tk L i = u at *
          first | refine ex_callM (CallsM.ren (hic) [0, 1] 10 rfl rfl rfl rfl) ?_ | refine ex_callM (CallsM.more0 (CallsM.ren (hic) [0, 1] 10 rfl rfl rfl rfl)) ?_ | refine ex_callM (CallsM.more1 (CallsM.ren (hic) [0, 1] 10 rfl rfl rfl rfl)) ?_ | refine ex_callM (CallsM.moreL (CallsM.ren (hic) [0, 1] 10 rfl rfl rfl rfl)) ?_
          repeat' (first | refine ex_true (by first | decide | omega | assumption | (with_reducible exact rfl)) ?_ | refine ex_false (by first | decide | omega | assumption | exact (fun h => h rfl)) ?_ | refine ex_dec (fun _ => ?_) (fun _ => ?_) | refine ex_u8 _ rfl (by omega) (by omega) ?_ | refine ex_i64 _ rfl (by omega) (by omega) ?_ | refine ex_u64 _ rfl (by omega) (by omega) ?_ | refine and_mk (by first | omega | (with_reducible rfl) | (show drawOk _ _ _ = true; kernel_rfl)) ?_ | refine and_mk ⟨_, rfl⟩ ?_ | refine ex_is _ (List.length_map _) ?_ | refine ex_is _ List.length_nil ?_ | fail "no step")
          first | refine ex_callM (CallsM.ren (hir) [0, 1] 10 rfl rfl rfl rfl) ?_ | refine ex_callM (CallsM.more0 (CallsM.ren (hir) [0, 1] 10 rfl rfl rfl rfl)) ?_ | refine ex_callM (CallsM.more1 (CallsM.ren (hir) [0, 1] 10 rfl rfl rfl rfl)) ?_ | refine ex_callM (CallsM.moreL (CallsM.ren (hir) [0, 1] 10 rfl rfl rfl rfl)) ?_
          repeat' (first | refine ex_true (by first | decide | omega | assumption | (with_reducible exact rfl)) ?_ | refine ex_false (by first | decide | omega | assumption | exact (fun h => h rfl)) ?_ | refine ex_dec (fun _ => ?_) (fun _ => ?_) | refine ex_u8 _ rfl (by omega) (by omega) ?_ | refine ex_i64 _ rfl (by omega) (by omega) ?_ | refine ex_u64 _ rfl (by omega) (by omega) ?_ | refine and_mk (by first | omega | (with_reducible rfl) | (show drawOk _ _ _ = true; kernel_rfl)) ?_ | refine and_mk ⟨_, rfl⟩ ?_ | refine ex_is _ (List.length_map _) ?_ | refine ex_is _ List.length_nil ?_ | fail "no step")
          first | refine ex_callM (CallsM.ren (ha) [0, 1] 10 rfl rfl rfl rfl) ?_ | refine ex_callM (CallsM.more0 (CallsM.ren (ha) [0, 1] 10 rfl rfl rfl rfl)) ?_ | refine ex_callM (CallsM.more1 (CallsM.ren (ha) [0, 1] 10 rfl rfl rfl rfl)) ?_ | refine ex_callM (CallsM.moreL (CallsM.ren (ha) [0, 1] 10 rfl rfl rfl rfl)) ?_
          repeat' (first | refine ex_true (by first | decide | omega | assumption | (with_reducible exact rfl)) ?_ | refine ex_false (by first | decide | omega | assumption | exact (fun h => h rfl)) ?_ | refine ex_dec (fun _ => ?_) (fun _ => ?_) | refine ex_u8 _ rfl (by omega) (by omega) ?_ | refine ex_i64 _ rfl (by omega) (by omega) ?_ | refine ex_u64 _ rfl (by omega) (by omega) ?_ | refine and_mk (by first | omega | (with_reducible rfl) | (show drawOk _ _ _ = true; kernel_rfl)) ?_ | refine and_mk ⟨_, rfl⟩ ?_ | refine ex_is _ (List.length_map _) ?_ | refine ex_is _ List.length_nil ?_ | fail "no step")
          exact ⟨rfl, TLe.rfl, rfl, rfl⟩
        · obtain rfl : PR.err i 4 = T := atn hT (by simp [hk])
          have hfl := fail_c (m := m) i 4 hi
          generalize tk L i = u at *
          first | refine ex_callM (CallsM.ren (hic) [0, 1] 10 rfl rfl rfl rfl) ?_ | refine ex_callM (CallsM.more0 (CallsM.ren (hic) [0, 1] 10 rfl rfl rfl rfl)) ?_ | refine ex_callM (CallsM.more1 (CallsM.ren (hic) [0, 1] 10 rfl rfl rfl rfl)) ?_ | refine ex_callM (CallsM.moreL (CallsM.ren (hic) [0, 1] 10 rfl rfl rfl rfl)) ?_
          repeat' (first | refine ex_true (by first | decide | omega | assumption | (with_reducible exact rfl)) ?_ | refine ex_false (by first | decide | omega | assumption | exact (fun h => h rfl)) ?_ | refine ex_dec (fun _ => ?_) (fun _ => ?_) | refine ex_u8 _ rfl (by omega) (by omega) ?_ | refine ex_i64 _ rfl (by omega) (by omega) ?_ | refine ex_u64 _ rfl (by omega) (by omega) ?_ | refine and_mk (by first | omega | (with_reducible rfl) | (show drawOk _ _ _ = true; kernel_rfl)) ?_ | refine and_mk ⟨_, rfl⟩ ?_ | refine ex_is _ (List.length_map _) ?_ | refine ex_is _ List.length_nil ?_ | fail "no step")
          first | refine ex_callM (CallsM.ren (hir) [0, 1] 10 rfl rfl rfl rfl) ?_ | refine ex_callM (CallsM.more0 (CallsM.ren (hir) [0, 1] 10 rfl rfl rfl rfl)) ?_ | refine ex_callM (CallsM.more1 (CallsM.ren (hir) [0, 1] 10 rfl rfl rfl rfl)) ?_ | refine ex_callM (CallsM.moreL (CallsM.ren (hir) [0, 1] 10 rfl rfl rfl rfl)) ?_
          repeat' (first | refine ex_true (by first | decide | omega | assumption | (with_reducible exact rfl)) ?_ | refine ex_false (by first | decide | omega | assumption | exact (fun h => h rfl)) ?_ | refine ex_dec (fun _ => ?_) (fun _ => ?_) | refine ex_u8 _ rfl (by omega) (by omega) ?_ | refine ex_i64 _ rfl (by omega) (by omega) ?_ | refine ex_u64 _ rfl (by omega) (by omega) ?_ | refine and_mk (by first | omega | (with_reducible rfl) | (show drawOk _ _ _ = true; kernel_rfl)) ?_ | refine and_mk ⟨_, rfl⟩ ?_ | refine ex_is _ (List.length_map _) ?_ | refine ex_is _ List.length_nil ?_ | fail "no step")
          first | refine ex_callM (CallsM.ren (ha) [0, 1] 10 rfl rfl rfl rfl) ?_ | refine ex_callM (CallsM.more0 (CallsM.ren (ha) [0, 1] 10 rfl rfl rfl rfl)) ?_ | refine ex_callM (CallsM.more1 (CallsM.ren (ha) [0, 1] 10 rfl rfl rfl rfl)) ?_ | refine ex_callM (CallsM.moreL (CallsM.ren (ha) [0, 1] 10 rfl rfl rfl rfl)) ?_
          repeat' (first | refine ex_true (by first | decide | omega | assumption | (with_reducible exact rfl)) ?_ | refine ex_false (by first | decide | omega | assumption | exact (fun h => h rfl)) ?_ | refine ex_dec (fun _ => ?_) (fun _ => ?_) | refine ex_u8 _ rfl (by omega) (by omega) ?_ | refine ex_i64 _ rfl (by omega) (by omega) ?_ | refine ex_u64 _ rfl (by omega) (by omega) ?_ | refine and_mk (by first | omega | (with_reducible rfl) | (show drawOk _ _ _ = true; kernel_rfl)) ?_ | refine and_mk ⟨_, rfl⟩ ?_ | refine ex_is _ (List.length_map _) ?_ | refine ex_is _ List.length_nil ?_ | fail "no step")
          first | refine ex_callM (CallsM.ren ((fail_c (m := m) i 4 hi)) [0, 1] 10 rfl rfl rfl rfl) ?_ | refine ex_callM (CallsM.more0 (CallsM.ren ((fail_c (m := m) i 4 hi)) [0, 1] 10 rfl rfl rfl rfl)) ?_ | refine ex_callM (CallsM.more1 (CallsM.ren ((fail_c (m := m) i 4 hi)) [0, 1] 10 rfl rfl rfl rfl)) ?_ | refine ex_callM (CallsM.moreL (CallsM.ren ((fail_c (m := m) i 4 hi)) [0, 1] 10 rfl rfl rfl rfl)) ?_
          exact ⟨⟨_, rfl, rfl⟩, rfl, rfl⟩
      · replace hT := aty hT hv2
        first | refine ex_callM (CallsM.ren (hic) [0, 1] 10 rfl rfl rfl rfl) ?_ | refine ex_callM (CallsM.more0 (CallsM.ren (hic) [0, 1] 10 rfl rfl rfl rfl)) ?_ | refine ex_callM (CallsM.more1 (CallsM.ren (hic) [0, 1] 10 rfl rfl rfl rfl)) ?_ | refine ex_callM (CallsM.moreL (CallsM.ren (hic) [0, 1] 10 rfl rfl rfl rfl)) ?_
        repeat' (first | refine ex_true (by first | decide | omega | assumption | (with_reducible exact rfl)) ?_ | refine ex_false (by first | decide | omega | assumption | exact (fun h => h rfl)) ?_ | refine ex_dec (fun _ => ?_) (fun _ => ?_) | refine ex_u8 _ rfl (by omega) (by omega) ?_ | refine ex_i64 _ rfl (by omega) (by omega) ?_ | refine ex_u64 _ rfl (by omega) (by omega) ?_ | refine and_mk (by first | omega | (with_reducible rfl) | (show drawOk _ _ _ = true; kernel_rfl)) ?_ | refine and_mk ⟨_, rfl⟩ ?_ | refine ex_is _ (List.length_map _) ?_ | refine ex_is _ List.length_nil ?_ | fail "no step")
        first | refine ex_callM (CallsM.ren (hir) [0, 1] 10 rfl rfl rfl rfl) ?_ | refine ex_callM (CallsM.more0 (CallsM.ren (hir) [0, 1] 10 rfl rfl rfl rfl)) ?_ | refine ex_callM (CallsM.more1 (CallsM.ren (hir) [0, 1] 10 rfl rfl rfl rfl)) ?_ | refine ex_callM (CallsM.moreL (CallsM.ren (hir) [0, 1] 10 rfl rfl rfl rfl)) ?_
        repeat' (first | refine ex_is rs.length (by simp) ?_ | refine ex_true (by first | decide | omega | assumption | (with_reducible exact rfl)) ?_ | refine ex_false (by first | decide | omega | assumption | exact (fun h => h rfl)) ?_ | refine ex_dec (fun _ => ?_) (fun _ => ?_) | refine ex_u8 _ rfl (by omega) (by omega) ?_ | refine ex_i64 _ rfl (by omega) (by omega) ?_ | refine ex_u64 _ rfl (by omega) (by omega) ?_ | refine and_mk (by first | omega | (with_reducible rfl) | (show drawOk _ _ _ = true; kernel_rfl)) ?_ | refine and_mk ⟨_, rfl⟩ ?_ | refine ex_is _ (List.length_map _) ?_ | refine ex_is _ List.length_nil ?_ | fail "no step")
        have hcon := room_c (m := m) ⟨i, xs, ts⟩ hi rs.length (by omega)
        rcases hr : (roomM rs.length) ⟨i, xs, ts⟩ with ⟨_, s9⟩ | ⟨i9, e9⟩
        rotate_left
        · obtain rfl := (and_err hr).symm.trans hT
          first | refine ex_callM (CallsM.ren (hcon.err hr) [0, 1] 10 rfl rfl rfl rfl) ?_ | refine ex_callM (CallsM.more0 (CallsM.ren (hcon.err hr) [0, 1] 10 rfl rfl rfl rfl)) ?_ | refine ex_callM (CallsM.more1 (CallsM.ren (hcon.err hr) [0, 1] 10 rfl rfl rfl rfl)) ?_ | refine ex_callM (CallsM.moreL (CallsM.ren (hcon.err hr) [0, 1] 10 rfl rfl rfl rfl)) ?_
          first | exact ⟨⟨_, rfl, rfl⟩, rfl, rfl⟩ | exact ⟨by kernel_rfl, ⟨_, rfl, rfl⟩, rfl, rfl⟩
        replace hT := (and_ok hr).symm.trans hT
        first | refine ex_callM (CallsM.ren (hcon.ok hr) [0, 1] 10 rfl rfl rfl rfl) ?_ | refine ex_callM (CallsM.more0 (CallsM.ren (hcon.ok hr) [0, 1] 10 rfl rfl rfl rfl)) ?_ | refine ex_callM (CallsM.more1 (CallsM.ren (hcon.ok hr) [0, 1] 10 rfl rfl rfl rfl)) ?_ | refine ex_callM (CallsM.moreL (CallsM.ren (hcon.ok hr) [0, 1] 10 rfl rfl rfl rfl)) ?_
        clear hcon
        obtain rfl := mv_room1 hr
        repeat' (first | refine ex_true (by first | decide | omega | assumption | (with_reducible exact rfl)) ?_ | refine ex_false (by first | decide | omega | assumption | exact (fun h => h rfl)) ?_ | refine ex_dec (fun _ => ?_) (fun _ => ?_) | refine ex_u8 _ rfl (by omega) (by omega) ?_ | refine ex_i64 _ rfl (by omega) (by omega) ?_ | refine ex_u64 _ rfl (by omega) (by omega) ?_ | refine and_mk (by first | omega | (with_reducible rfl) | (show drawOk _ _ _ = true; kernel_rfl)) ?_ | refine and_mk ⟨_, rfl⟩ ?_ | refine ex_is _ (List.length_map _) ?_ | refine ex_is _ List.length_nil ?_ | fail "no step")
        have hcon := record_c (m := m) hL hn hm ⟨i, xs, ts⟩ hs
        rcases hx : recordM L ⟨i, xs, ts⟩ with ⟨r, ⟨i2, xs2, ts2⟩⟩ | ⟨i9, e9⟩
        · replace hT := (and_ok hx).symm.trans hT
          have hs2 := (Up.ok (up_record hL) hs hx).1
          have hgo : i < i2 := mo_record _ _ _ hx
          refine ex_callM (CallsM.moreW (CallsM.ren (hcon.ok hx) [0, 1, 6, 7, 8, 9] 10 rfl rfl rfl rfl)) ?_
          repeat' (first | refine ex_true (by first | decide | omega | assumption | (with_reducible exact rfl)) ?_ | refine ex_false (by first | decide | omega | assumption | exact (fun h => h rfl)) ?_ | refine ex_dec (fun _ => ?_) (fun _ => ?_) | refine ex_u8 _ rfl (by omega) (by omega) ?_ | refine ex_i64 _ rfl (by omega) (by omega) ?_ | refine ex_u64 _ rfl (by omega) (by omega) ?_ | refine and_mk (by first | omega | (with_reducible rfl) | (show drawOk _ _ _ = true; kernel_rfl)) ?_ | refine and_mk ⟨_, rfl⟩ ?_ | refine ex_is _ (List.length_map _) ?_ | refine ex_is _ List.length_nil ?_ | fail "no step")
          refine ex_app (rs.length) (1) 1000 (by first | rfl | (simp; done) | (simp; omega)) (by first | rfl | (simp; done) | (simp; omega)) rfl (by omega) ?_
          refine ex_is (List.map rcD (rs ++ [r])) (by rw [List.map_append]; rfl) ?_
          repeat' (first | refine ex_true (by first | decide | omega | assumption | (with_reducible exact rfl)) ?_ | refine ex_false (by first | decide | omega | assumption | exact (fun h => h rfl)) ?_ | refine ex_dec (fun _ => ?_) (fun _ => ?_) | refine ex_u8 _ rfl (by omega) (by omega) ?_ | refine ex_i64 _ rfl (by omega) (by omega) ?_ | refine ex_u64 _ rfl (by omega) (by omega) ?_ | refine and_mk (by first | omega | (with_reducible rfl) | (show drawOk _ _ _ = true; kernel_rfl)) ?_ | refine and_mk ⟨_, rfl⟩ ?_ | refine ex_is _ (List.length_map _) ?_ | refine ex_is _ List.length_nil ?_ | fail "no step")
          exact ex_round (i2, xs2, ts2, cs, rs ++ [r], n) ⟨hs2, by omega, by omega, by simp <;> omega, hT⟩ (by show L.length - i2 < L.length - i; omega) (SLe.ren [(0, 0), (1, 1), (2, 2), (3, 3), (4, 4), (5, 5), (6, 6), (13, 7), (10, 8), (11, 9)] ⟨⟨rfl, rfl⟩, trivial⟩ ⟨⟨rfl, rfl⟩, ⟨rfl, rfl⟩, ⟨rfl, rfl⟩, ⟨rfl, rfl⟩, ⟨rfl, rfl⟩, ⟨rfl, rfl⟩, ⟨rfl, rfl⟩, ⟨rfl, rfl⟩, ⟨rfl, rfl⟩, ⟨rfl, rfl⟩, trivial⟩ rfl)
        · obtain rfl := (and_err hx).symm.trans hT
          exact ex_pan ((true = true) ∧ panIs (.pan (flt L i9 e9)) (panE (flt L i9 e9)) ∧ (PR.uW L m (.err i9 e9)) = deadM [0, 1, 2, 3, 4, 5] ∧ ([] : List Blk) = []) (CallsM.moreW (CallsM.ren (hcon.err hx) [0, 1, 6, 7, 8, 9] 10 rfl rfl rfl rfl)) (by kernel_rfl) ⟨rfl, ⟨_, rfl, rfl⟩, rfl, rfl⟩
    · replace hT := aty hT hv
      first | refine ex_callM (CallsM.ren (hic) [0, 1] 10 rfl rfl rfl rfl) ?_ | refine ex_callM (CallsM.more0 (CallsM.ren (hic) [0, 1] 10 rfl rfl rfl rfl)) ?_ | refine ex_callM (CallsM.more1 (CallsM.ren (hic) [0, 1] 10 rfl rfl rfl rfl)) ?_ | refine ex_callM (CallsM.moreL (CallsM.ren (hic) [0, 1] 10 rfl rfl rfl rfl)) ?_
      repeat' (first | refine ex_is cs.length (by simp) ?_ | refine ex_true (by first | decide | omega | assumption | (with_reducible exact rfl)) ?_ | refine ex_false (by first | decide | omega | assumption | exact (fun h => h rfl)) ?_ | refine ex_dec (fun _ => ?_) (fun _ => ?_) | refine ex_u8 _ rfl (by omega) (by omega) ?_ | refine ex_i64 _ rfl (by omega) (by omega) ?_ | refine ex_u64 _ rfl (by omega) (by omega) ?_ | refine and_mk (by first | omega | (with_reducible rfl) | (show drawOk _ _ _ = true; kernel_rfl)) ?_ | refine and_mk ⟨_, rfl⟩ ?_ | refine ex_is _ (List.length_map _) ?_ | refine ex_is _ List.length_nil ?_ | fail "no step")
      have hcon := room_c (m := m) ⟨i, xs, ts⟩ hi cs.length (by omega)
      rcases hr : (roomM cs.length) ⟨i, xs, ts⟩ with ⟨_, s9⟩ | ⟨i9, e9⟩
      rotate_left
      · obtain rfl := (and_err hr).symm.trans hT
        first | refine ex_callM (CallsM.ren (hcon.err hr) [0, 1] 10 rfl rfl rfl rfl) ?_ | refine ex_callM (CallsM.more0 (CallsM.ren (hcon.err hr) [0, 1] 10 rfl rfl rfl rfl)) ?_ | refine ex_callM (CallsM.more1 (CallsM.ren (hcon.err hr) [0, 1] 10 rfl rfl rfl rfl)) ?_ | refine ex_callM (CallsM.moreL (CallsM.ren (hcon.err hr) [0, 1] 10 rfl rfl rfl rfl)) ?_
        first | exact ⟨⟨_, rfl, rfl⟩, rfl, rfl⟩ | exact ⟨by kernel_rfl, ⟨_, rfl, rfl⟩, rfl, rfl⟩
      replace hT := (and_ok hr).symm.trans hT
      first | refine ex_callM (CallsM.ren (hcon.ok hr) [0, 1] 10 rfl rfl rfl rfl) ?_ | refine ex_callM (CallsM.more0 (CallsM.ren (hcon.ok hr) [0, 1] 10 rfl rfl rfl rfl)) ?_ | refine ex_callM (CallsM.more1 (CallsM.ren (hcon.ok hr) [0, 1] 10 rfl rfl rfl rfl)) ?_ | refine ex_callM (CallsM.moreL (CallsM.ren (hcon.ok hr) [0, 1] 10 rfl rfl rfl rfl)) ?_
      clear hcon
      obtain rfl := mv_room1 hr
      repeat' (first | refine ex_true (by first | decide | omega | assumption | (with_reducible exact rfl)) ?_ | refine ex_false (by first | decide | omega | assumption | exact (fun h => h rfl)) ?_ | refine ex_dec (fun _ => ?_) (fun _ => ?_) | refine ex_u8 _ rfl (by omega) (by omega) ?_ | refine ex_i64 _ rfl (by omega) (by omega) ?_ | refine ex_u64 _ rfl (by omega) (by omega) ?_ | refine and_mk (by first | omega | (with_reducible rfl) | (show drawOk _ _ _ = true; kernel_rfl)) ?_ | refine and_mk ⟨_, rfl⟩ ?_ | refine ex_is _ (List.length_map _) ?_ | refine ex_is _ List.length_nil ?_ | fail "no step")
      have hcon := const_c (m := m) hL hn ⟨i, xs, ts⟩ hs
      rcases hx : constM L ⟨i, xs, ts⟩ with ⟨c, ⟨i2, xs2, ts2⟩⟩ | ⟨i9, e9⟩
      rotate_left
      · obtain rfl := (and_err hx).symm.trans hT
        exact ex_pan ((true = true) ∧ panIs (.pan (flt L i9 e9)) (panE (flt L i9 e9)) ∧ (PR.uW L m (.err i9 e9)) = deadM [0, 1, 2, 3, 4, 5] ∧ ([] : List Blk) = []) (CallsM.more0 (CallsM.ren (hcon.err hx) [0, 1] 10 rfl rfl rfl rfl)) (by kernel_rfl) ⟨rfl, ⟨_, rfl, rfl⟩, rfl, rfl⟩
      replace hT := (and_ok hx).symm.trans hT
      refine ex_callM (CallsM.more0 (CallsM.ren (hcon.ok hx) [0, 1] 10 rfl rfl rfl rfl)) ?_
      have hs2 := (Up.ok (up_const hL) hs hx).1
      obtain ⟨rfl, rfl⟩ := mv_const hx
      have hgo : i < i2 := mo_const _ _ _ hx
      repeat' (first | refine ex_true (by first | decide | omega | assumption | (with_reducible exact rfl)) ?_ | refine ex_false (by first | decide | omega | assumption | exact (fun h => h rfl)) ?_ | refine ex_dec (fun _ => ?_) (fun _ => ?_) | refine ex_u8 _ rfl (by omega) (by omega) ?_ | refine ex_i64 _ rfl (by omega) (by omega) ?_ | refine ex_u64 _ rfl (by omega) (by omega) ?_ | refine and_mk (by first | omega | (with_reducible rfl) | (show drawOk _ _ _ = true; kernel_rfl)) ?_ | refine and_mk ⟨_, rfl⟩ ?_ | refine ex_is _ (List.length_map _) ?_ | refine ex_is _ List.length_nil ?_ | fail "no step")
      refine ex_app (cs.length) (1) 1000 (by first | rfl | (simp; done) | (simp; omega)) (by first | rfl | (simp; done) | (simp; omega)) rfl (by omega) ?_
      refine ex_is (List.map coD (cs ++ [c])) (by rw [List.map_append]; rfl) ?_
      repeat' (first | refine ex_true (by first | decide | omega | assumption | (with_reducible exact rfl)) ?_ | refine ex_false (by first | decide | omega | assumption | exact (fun h => h rfl)) ?_ | refine ex_dec (fun _ => ?_) (fun _ => ?_) | refine ex_u8 _ rfl (by omega) (by omega) ?_ | refine ex_i64 _ rfl (by omega) (by omega) ?_ | refine ex_u64 _ rfl (by omega) (by omega) ?_ | refine and_mk (by first | omega | (with_reducible rfl) | (show drawOk _ _ _ = true; kernel_rfl)) ?_ | refine and_mk ⟨_, rfl⟩ ?_ | refine ex_is _ (List.length_map _) ?_ | refine ex_is _ List.length_nil ?_ | fail "no step")
      exact ex_round (i2, xs, ts, cs ++ [c], rs, n) ⟨hs2, by omega, by simp <;> omega, by omega, hT⟩ (by show L.length - i2 < L.length - i; omega) (SLe.ren [(0, 0), (1, 1), (2, 2), (3, 3), (4, 4), (5, 5), (11, 6), (7, 7), (8, 8), (9, 9)] ⟨⟨rfl, rfl⟩, trivial⟩ ⟨⟨rfl, rfl⟩, ⟨rfl, rfl⟩, ⟨rfl, rfl⟩, ⟨rfl, rfl⟩, ⟨rfl, rfl⟩, ⟨rfl, rfl⟩, ⟨rfl, rfl⟩, ⟨rfl, rfl⟩, ⟨rfl, rfl⟩, ⟨rfl, rfl⟩, trivial⟩ rfl)
end
end Go.Proofs.YtkbhmcdoedmffaaGreatDoor

namespace Go.Proofs.YtkbhmcdoedmffaaGreatDoor
set_option linter.unusedVariables false
set_option linter.unusedSimpArgs false
open Go.RowKit
set_option maxRecDepth 100000

/-! ### The tokens of a text -/
theorem lexN_len : ∀ (n : Nat) (r : List UInt8) (l c : Nat) (ts : List TokP), r.length < n → lexN n r l c = .ok ts → ts.length ≤ r.length + 1 := by
  intro n
  induction n with
  | zero => intro r l c ts h; omega
  | succ n ih =>
    intro r l c ts hlen h
    rw [lexN] at h
    rcases hs : stp r l c with _ | ⟨r', l', c'⟩ | ⟨k, t, v⟩ | e <;> rw [hs] at h <;> dsimp only at h
    · cases h; simp
    · have := stp_go hs
      have := ih r' l' c' ts (by omega) h
      omega
    · have ht := stp_tok hs
      obtain ⟨⟨X, rfl⟩, h2, h3, -⟩ := tokF_ok ht
      have h4 : 0 < t.length := List.length_pos_iff.2 h2
      rw [List.drop_left] at h
      rw [List.length_append] at hlen ⊢
      rcases hr : lexN n X l (c + t.length) with ts' | _
      · rw [hr] at h
        have h' : [⟨k, t, v, l, c⟩] ++ ts' = ts := by injection h
        have := ih X l (c + t.length) ts' (by omega) hr
        rw [← h']
        simp
        omega
      · rw [hr] at h; cases h
    · cases h
theorem lexV_ok {s : List UInt8} {L : List TokP} (h : lexV s = .ok L) : TokOk L ∧ L.length ≤ 100000 := by
  unfold lexV at h
  split at h
  · rename_i hs
    have hlen := lexN_len _ s 1 1 L (Nat.lt_succ_self _) h
    obtain ⟨us, l', c', rfl, _⟩ := lexF_good h
    refine ⟨⟨by simp, fun i hi => ?_⟩, by omega⟩
    simp only [List.length_append, List.length_cons, List.length_nil] at hi
    have : i = us.length := by omega
    unfold tk
    rw [this, List.getD_eq_getElem?_getD, List.getElem?_append_right (Nat.le_refl _)]
    simp
  · cases h
theorem stp_err {r : List UInt8} {l c e : Nat} (h : stp r l c = .err e) : tokF r = .err e := by
  unfold stp at h
  split at h
  · cases h
  · split at h
    · cases h
    · split at h
      · cases h
      · split at h
        · cases h
        · revert h
          unfold TR.stp
          split <;> intro h <;> cases h
          assumption
theorem lexN_err : ∀ (n : Nat) (r : List UInt8) (l c l' c' e : Nat), r.length < n → lexN n r l c = .err l' c' e → 4 ≤ e ∧ e ≤ 7 := by
  intro n
  induction n with
  | zero => intro r l c l' c' e h; omega
  | succ n ih =>
    intro r l c l' c' e hlen h
    rw [lexN] at h
    rcases hs : stp r l c with _ | ⟨r', l1, c1⟩ | ⟨k, t, v⟩ | e1 <;> rw [hs] at h <;> dsimp only at h
    · cases h
    · have := stp_go hs
      exact ih r' l1 c1 l' c' e (by omega) h
    · have ht := stp_tok hs
      obtain ⟨⟨X, rfl⟩, h2, h3, -⟩ := tokF_ok ht
      have h4 : 0 < t.length := List.length_pos_iff.2 h2
      rw [List.drop_left] at h
      rw [List.length_append] at hlen
      rcases hr : lexN n X l (c + t.length) with ts' | ⟨l2, c2, e2⟩
      · rw [hr] at h; cases h
      · rw [hr] at h
        cases h
        exact ih X l _ _ _ _ (by omega) hr
    · cases h
      exact tokF_err (stp_err hs)
theorem lexV_err {s : List UInt8} {l c e : Nat} (h : lexV s = .err l c e) : 4 ≤ e ∧ e ≤ 7 := by
  unfold lexV at h
  split at h
  · exact lexN_err _ s 1 1 l c e (Nat.lt_succ_self _) h
  · cases h; decide
/-- What Parse gives. -/
def fileD (cs : List CO) (rs : List RC) (xs : List EX) (ts : List TY) : List D := [.sl 2 (cs.map coD), .sl 3 (rs.map rcD), .sl 5 (xs.map exD), .sl 8 (ts.map tyD)]
abbrev dnp : D := .v (.pointer none)
def parT : FR → TV
  | .ok cs rs xs ts => .tup [.c (.eptr (fileD cs rs xs ts)), gD [di 0, di 0], c1 (di 0)]
  | .err l c e => .tup [c1 dnp, gD [di l, di c], c1 (di e)]
/-! ### The closure -/
theorem nil_eq (w : World) : (binOp BinOp.eql 20 .nilIface .nilIface).run Tryz.prog w = .ok (.bool true) w := by kernel_rfl
theorem iface_eq (t : TypeId) (v : Value) (w : World) : (binOp BinOp.eql 20 (.iface t v) .nilIface).run Tryz.prog w = .ok (.bool false) w := by rfl
theorem catch_idle (x y z : Value) (w : World) :
    CallsD Tryz.prog 23 #[x, y, z] .returning w fun e u' w' => e = .returned (.tuple #[]) ∧ u' = .returning ∧ w' = w := by
  refine callsD_of_wpS Tryz.func23 rfl fun c₀ cs hu => ?_
  apply wpS_seq
  apply wpS_region
  simp [wpOpsS, go_sem, recoverD, hu, Tryz.ntmps23, Exit.thenS]
  refine wpS_of_wp ?_
  refine wp_block ?_
  apply wp_seq
  apply wp_region
  simp [wpOps, go_sem, nil_eq, Exit.then]
  repeat apply Or.inl
  refine Go.wp_cond_true ?hc ?h
  · simp [Act.eval]
  apply wp_region
  simp [wpOps, go_sem, Exit.inBlock]
  repeat apply Or.inl
  cases c₀
  simp_all [bodyPostS, results, Tryz.results23, Exit.thenS]
theorem assert_ok (v : Value) (w : World) : (Instr.typeAssert (.iface 83 v) 20 83 true).run Tryz.prog w = .ok (.tuple #[v, .bool true]) w := by
  simp [Instr.typeAssert, run_underlying, Tryz.underlying83]
abbrev pv (l c e : Nat) (r : Bool) : List PanicEntry := [{ v := fltV l c e, recovered := r }]
def hitM (f0 d1 d2 e0 : D) : List (Nat × Blk) := [(0, .obj [.d f0] 22), (1, .obj [.d d1, .d d2]), (2, .obj [.d e0])]
theorem catch_hit (l c e : Nat) (f0 d1 d2 e0 : D) {ι : Nat → Value} {S : Nat → Prop} {w : World} (hS : ∀ b, S b → b < w.heap.size) (hG : ΓL.G S w) (hblk : ∀ p ∈ hitM f0 d1 d2 e0, BlkOk ι S w p.1 p.2)
    (hdst : ∀ p ∈ hitM f0 d1 d2 e0, ∀ q ∈ hitM f0 d1 d2 e0, ∀ g, p.2.live = true → q.2.live = true → blkOf (ι p.1) = some g → blkOf (ι q.1) = some g → p.1 = q.1) :
    CallsD Tryz.prog 23 #[ι 0, ι 1, ι 2] (.panicking (pv l c e false)) w fun e' u' w' => e' = .returned (.tuple #[]) ∧ u' = .panicking (pv l c e true) ∧ ∃ ι' S', After ι S w 3 ⟨.und, [0, 1, 2], hitM dnp (di l) (di c) (di e), []⟩ undef ι' S' w' := by
  have hp : ∀ k, k < 3 → ∃ b, ι k = .pointer (some ⟨b, 0, none⟩) := fun k hk => by
    match k, hk with
    | 0, _ => obtain ⟨b, arr, ty, h1, _⟩ := hblk _ (List.mem_cons_self ..); exact ⟨b, h1⟩
    | 1, _ => obtain ⟨b, arr, ty, h1, _⟩ := hblk _ (List.mem_cons_of_mem _ (List.mem_cons_self ..)); exact ⟨b, h1⟩
    | 2, _ => obtain ⟨b, arr, ty, h1, _⟩ := hblk _ (List.mem_cons_of_mem _ (List.mem_cons_of_mem _ (List.mem_cons_self ..))); exact ⟨b, h1⟩
  obtain ⟨b0, hb0⟩ := hp 0 (by omega)
  obtain ⟨b1, hb1⟩ := hp 1 (by omega)
  obtain ⟨b2, hb2⟩ := hp 2 (by omega)
  refine callsD_of_wpS Tryz.func23 rfl fun c₀ cs hu => ?_
  apply wpS_seq
  apply wpS_region
  simp [wpOpsS, go_sem, recoverD, hu, Tryz.ntmps23, Exit.thenS]
  refine wpS_of_wp ?_
  refine wp_block ?_
  apply wp_seq
  apply wp_region
  simp [wpOps, go_sem, iface_eq, Exit.then]
  apply Or.inl
  refine Go.wp_cond_false ?hc ?h
  · simp [Act.eval]
  apply wp_seq
  apply wp_region
  simp [wpOps, go_sem, assert_ok, Exit.then]
  iterate 3 apply Or.inl
  refine Go.wp_cond_true ?hc2 ?h2
  · simp [Act.eval]
  refine Code.wp_mono (fun e1 a1 w1 h => ?_) (code_after (C := ⟨Tryz.prog, layF, Tryz.f23.ntmps, ΓL, 3, [], []⟩) (tm := [(0, .o (.c (.ptr 0 0))), (1, .o (.c (.ptr 1 0))), (2, .o (.c (.ptr 2 0))), (11, .o (gD [di l, di c, di e]))]) (m := hitM f0 d1 d2 e0) (upd := hitM dnp (di l) (di c) (di e)) (new := []) layF_ok mixed rfl ?hvc hS hG hblk hdst ?htm (by simp [Tryz.ntmps23]) rfl)
  case hvc =>
    repeat' (first | refine ex_true (by first | decide | omega | assumption | (with_reducible exact rfl)) ?_ | refine ex_false (by first | decide | omega | assumption | exact (fun h => h rfl)) ?_ | refine ex_dec (fun _ => ?_) (fun _ => ?_) | refine ex_u8 _ rfl (by omega) (by omega) ?_ | refine ex_i64 _ rfl (by omega) (by omega) ?_ | refine ex_u64 _ rfl (by omega) (by omega) ?_ | refine and_mk (by first | omega | (with_reducible rfl) | (show drawOk _ _ _ = true; kernel_rfl)) ?_ | refine and_mk ⟨_, rfl⟩ ?_ | refine ex_is _ (List.length_map _) ?_ | refine ex_is _ List.length_nil ?_ | fail "no step")
    exact ⟨rfl, rfl, rfl⟩
  case htm =>
    intro t tv ht
    simp only [findL] at ht
    split at ht
    · rename_i h; subst h; cases ht
      exact ⟨b0, hb0, by simp [hb0]⟩
    · split at ht
      · rename_i h; subst h; cases ht
        exact ⟨b1, hb1, by simp [hb1]⟩
      · split at ht
        · rename_i h; subst h; cases ht
          exact ⟨b2, hb2, by simp [hb2]⟩
        · split at ht
          · rename_i h; subst h; cases ht
            exact ⟨[.int .i64 l, .int .i64 c, .int .i64 e], by simp, .cons (Imm.v rfl) (.cons (Imm.v rfl) (.cons (Imm.v rfl) .nil))⟩
          · cases ht
  obtain ⟨rfl, h1, ι', S', A⟩ := h
  simp only [Exit.inBlock, bodyPostS]
  exact ⟨h1, .panicking (pv l c e true), rfl, .tuple #[], by simp [results, Tryz.results23], rfl, rfl, ι', S', A⟩
end Go.Proofs.YtkbhmcdoedmffaaGreatDoor

namespace Go.Proofs.YtkbhmcdoedmffaaGreatDoor
set_option linter.unusedVariables false
set_option linter.unusedSimpArgs false
open Go.RowKit
set_option maxRecDepth 100000

def HitP (v : Value) (st : St) (upd : List (Nat × Blk)) : Prop := ∃ (l c e : Nat) (f0 d1 d2 e0 : D), v = fltV l c e ∧ upd = hitM dnp (di l) (di c) (di e) ∧
  findL st.mem 0 = some (.obj [.d f0] 22) ∧ findL st.mem 1 = some (.obj [.d d1, .d d2]) ∧ findL st.mem 2 = some (.obj [.d e0])
theorem hitP_ok (v : Value) (st : St) (upd : List (Nat × Blk)) (h : HitP v st upd) (ι : Nat → Value) (S : Nat → Prop) (w : World) (hS : ∀ b, S b → b < w.heap.size) (hG : ΓL.G S w) (hblk : ∀ k b, findL st.mem k = some b → BlkOk ι S w k b)
    (hdst : ∀ k k' b b' g, findL st.mem k = some b → findL st.mem k' = some b' → b.live = true → b'.live = true → blkOf (ι k) = some g → blkOf (ι k') = some g → k = k') :
    CallsD Tryz.prog 23 ([0, 1, 2].map ι).toArray (.panicking (panE v)) w fun e' u' w' => e' = .returned (.tuple #[]) ∧ u' = .panicking [{ v, recovered := true }] ∧ ∃ ι' S', After ι S w st.nx ⟨.und, [], upd, []⟩ undef ι' S' w' := by
  obtain ⟨l, c, e, f0, d1, d2, e0, rfl, rfl, h0, h1, h2⟩ := h
  have hf : ∀ p ∈ hitM f0 d1 d2 e0, findL st.mem p.1 = some p.2 := fun p hp => by
    simp only [hitM, List.mem_cons, List.not_mem_nil, or_false] at hp
    rcases hp with rfl | rfl | rfl
    · exact h0
    · exact h1
    · exact h2
  refine (catch_hit l c e f0 d1 d2 e0 hS hG (fun p hp => hblk _ _ (hf p hp)) (fun p hp q hq g => hdst _ _ _ _ g (hf p hp) (hf q hq))).mono ?_
  rintro e' u' w' ⟨he, hu, ι', S', A⟩
  refine ⟨he, hu, ι', S', ⟨A.val, fun k _ => A.keep k (by show k < 3 ∨ 3 + 0 ≤ k; omega), A.smono, A.sgrow, A.slt, A.os, A.tape, A.output, A.size, A.heap, A.updok, fun i b hb => by simp at hb, fun i b hb => by simp at hb, fun i j b b' g hb => by simp at hb⟩⟩
def fileS (s : List UInt8) : FR := fileV (lexV s)
theorem Parse_c (s : List UInt8) : CallsA Tryz.prog ΓL 8 [c1 (ds (bs s))] (parT (fileS s)) := by
  have hlx := lex_c s
  obtain ⟨R, hR⟩ : ∃ R, fileS s = R := ⟨_, rfl⟩
  rw [hR]
  refine fn_ruleE (C := ⟨Tryz.prog, layF, Tryz.f8.ntmps, ΓL, 0, [5], []⟩) (g := 23) (t9 := 17) (nx2 := 3) (caps := [2, 3, 4]) (capN := [0, 1, 2]) layF_ok mixed Tryz.func8 rfl (by kernel_rfl) rfl rfl rfl HitP ?hdef ?henter ?hidle rfl hitP_ok ?h
  case hdef =>
    intro a w Q hsz h
    have h9 : 17 < a.tmps.size := by rw [hsz]; decide
    apply wp_region
    simp [wpOps, go_sem, h9]
    refine .inl (.inl ?_)
    simpa [Oper.upon, Act.put] using h (.func (.func 23) #[] #[a.tmps[2]?.getD undef, a.tmps[3]?.getD undef, a.tmps[4]?.getD undef])
  case henter =>
    intro vs w
    kernel_rfl
  case hidle =>
    intro vs w hl
    match vs, hl with
    | [x, y, z], _ => exact catch_idle x y z w
  case h =>
    rcases hl : lexV s with L | ⟨l, c, e⟩
    · rw [hl] at hlx
      have hlx : CallsA Tryz.prog ΓL 20 [c1 (ds (bs s))] (.tup [c1 (.sl 5 (L.map tokD)), gD [di 0, di 0], c1 (di 0)]) := hlx
      obtain ⟨hL, hn⟩ := lexV_ok hl
      repeat' (first | refine ex_call hlx ?_ | refine ex_true (by first | decide | omega | assumption | (with_reducible exact rfl)) ?_ | refine ex_false (by first | decide | omega | assumption | exact (fun h => h rfl)) ?_ | refine ex_dec (fun _ => ?_) (fun _ => ?_) | refine ex_u8 _ rfl (by omega) (by omega) ?_ | refine ex_i64 _ rfl (by omega) (by omega) ?_ | refine ex_u64 _ rfl (by omega) (by omega) ?_ | refine and_mk (by first | omega | (with_reducible rfl) | (show drawOk _ _ _ = true; kernel_rfl)) ?_ | refine and_mk ⟨_, rfl⟩ ?_ | refine ex_is _ (List.length_map _) ?_ | refine ex_is _ List.length_nil ?_ | fail "no step")
      refine ⟨⟨rfl, rfl, rfl, trivial⟩, rfl, ?_⟩
      refine ex_join (X := Unit) (fun _ => ⟨[(2, .o (.c (.ptr 0 0))), (3, .o (.c (.ptr 1 0))), (4, .o (.c (.ptr 2 0))), (6, .o (.c (.ptr 4 0)))], [(0, .obj [.d dnp] 22), (1, .obj [.d (di 0), .d (di 0)]), (2, .obj [.d (di 0)]), (4, .obj [.d (.sl 5 (L.map tokD)), .d (di ((0 : Nat) : Int)), .d (di (32 - ((32 : Nat) : Int))), .ptr 3 0]), (3, Fz 5 6 7 8), (5, Cz []), (6, Uz []), (7, Xz []), (8, Tz [])], 9⟩) (fun _ => True) ?_ ?_
      · repeat' (first | refine ex_true (by first | decide | omega | assumption | (with_reducible exact rfl)) ?_ | refine ex_false (by first | decide | omega | assumption | exact (fun h => h rfl)) ?_ | refine ex_dec (fun _ => ?_) (fun _ => ?_) | refine ex_u8 _ rfl (by omega) (by omega) ?_ | refine ex_i64 _ rfl (by omega) (by omega) ?_ | refine ex_u64 _ rfl (by omega) (by omega) ?_ | refine and_mk (by first | omega | (with_reducible rfl) | (show drawOk _ _ _ = true; kernel_rfl)) ?_ | refine and_mk ⟨_, rfl⟩ ?_ | refine ex_is _ (List.length_map _) ?_ | refine ex_is _ List.length_nil ?_ | fail "no step")
        exact ex_meet () trivial (SLe.via (SLe.ownCell 3 0 5 2 107 rfl rfl rfl rfl rfl rfl) (SLe.via (SLe.ownCell 3 1 6 3 69 rfl rfl rfl rfl rfl rfl) (SLe.via (SLe.ownCell 3 2 7 5 59 rfl rfl rfl rfl rfl rfl) (SLe.via (SLe.ownCell 3 3 8 8 63 rfl rfl rfl rfl rfl rfl) (SLe.of ⟨⟨rfl, rfl, rfl, rfl, trivial⟩, ⟨rfl, rfl, rfl, rfl, rfl, rfl, rfl, rfl, rfl, trivial⟩⟩)))))
      · intro _ _
        have hlen := hL.1
        have hw := whole_c (m := 32) hL hn rfl 0 (L.length + 1) [] [] [] [] ⟨hlen, by simp, by simp⟩ (by omega) (by simp) (by simp) _ rfl
        rcases hT : wholeN L (L.length + 1) [] [] ⟨0, [], []⟩ with ⟨⟨cs, rs⟩, s1⟩ | ⟨i, e⟩
        · obtain rfl : FR.ok cs rs s1.xs s1.ts = R := by rw [← hR]; unfold fileS fileV; rw [hl]; dsimp only; rw [hT]
          rw [hT] at hw
          have hw : CallsM Tryz.prog ΓL 24 [(0, Qz L 32 0), (1, Fz 2 3 4 5), (2, Cz []), (3, Uz []), (4, Xz []), (5, Tz [])] 6 [P0] (.tup []) [(0, Qz L 32 s1.i), (1, Fz 6 7 8 9), (2, .dead), (3, .dead), (4, .dead), (5, .dead)] [Cz cs, Uz rs, Xz s1.xs, Tz s1.ts] := hw
          repeat' (first | refine ex_true (by first | decide | omega | assumption | (with_reducible exact rfl)) ?_ | refine ex_false (by first | decide | omega | assumption | exact (fun h => h rfl)) ?_ | refine ex_dec (fun _ => ?_) (fun _ => ?_) | refine ex_u8 _ rfl (by omega) (by omega) ?_ | refine ex_i64 _ rfl (by omega) (by omega) ?_ | refine ex_u64 _ rfl (by omega) (by omega) ?_ | refine and_mk (by first | omega | (with_reducible rfl) | (show drawOk _ _ _ = true; kernel_rfl)) ?_ | refine and_mk ⟨_, rfl⟩ ?_ | refine ex_is _ (List.length_map _) ?_ | refine ex_is _ List.length_nil ?_ | fail "no step")
          refine ex_callM (CallsM.ren hw [4, 3, 5, 6, 7, 8] 9 rfl rfl rfl rfl) ?_
          repeat' (first | refine ex_true (by first | decide | omega | assumption | (with_reducible exact rfl)) ?_ | refine ex_false (by first | decide | omega | assumption | exact (fun h => h rfl)) ?_ | refine ex_dec (fun _ => ?_) (fun _ => ?_) | refine ex_u8 _ rfl (by omega) (by omega) ?_ | refine ex_i64 _ rfl (by omega) (by omega) ?_ | refine ex_u64 _ rfl (by omega) (by omega) ?_ | refine and_mk (by first | omega | (with_reducible rfl) | (show drawOk _ _ _ = true; kernel_rfl)) ?_ | refine and_mk ⟨_, rfl⟩ ?_ | refine ex_is _ (List.length_map _) ?_ | refine ex_is _ List.length_nil ?_ | fail "no step")
          exact ⟨_, SLe.via (show SLe 3 ⟨[(2, .o (.c (.ptr 0 0))), (3, .o (.c (.ptr 1 0))), (4, .o (.c (.ptr 2 0)))], [(0, .obj [.ptr 3 0] 22), (1, .obj [.d (di 0), .d (di 0)]), (2, .obj [.d (di 0)]), (3, Fz 9 10 11 12), (9, Cz cs), (10, Uz rs), (11, Xz s1.xs), (12, Tz s1.ts)], 13⟩ _ from (SLe.of ⟨⟨rfl, rfl, rfl, trivial⟩, ⟨rfl, rfl, rfl, rfl, rfl, rfl, rfl, rfl, trivial⟩⟩))
            (SLe.via (SLe.still 9 2 107 (cs.map coD) rfl) (SLe.via (SLe.still 10 3 69 (rs.map rcD) rfl) (SLe.via (SLe.still 11 5 59 (s1.xs.map exD) rfl) (SLe.via (SLe.still 12 8 63 (s1.ts.map tyD) rfl)
              (SLe.via (sle_fixO 0 0 3 (dl := fileD cs rs s1.xs s1.ts) rfl rfl rfl rfl) (show SLe 3 ⟨[(2, .o (.c (.ptr 0 0))), (3, .o (.c (.ptr 1 0))), (4, .o (.c (.ptr 2 0)))], [(0, .obj [.eptr (fileD cs rs s1.xs s1.ts)] 22), (1, .obj [.d (di 0), .d (di 0)]), (2, .obj [.d (di 0)])], 13⟩ _ from (SLe.of ⟨⟨rfl, rfl, rfl, trivial⟩, ⟨rfl, rfl, rfl, trivial⟩⟩))))))), TLe.rfl, rfl⟩
        · obtain rfl : FR.err (tk L i).l (tk L i).c e = R := by rw [← hR]; unfold fileS fileV; rw [hl]; dsimp only; rw [hT]
          rw [hT] at hw
          have hw : CallsM Tryz.prog ΓL 24 [(0, Qz L 32 0), (1, Fz 2 3 4 5), (2, Cz []), (3, Uz []), (4, Xz []), (5, Tz [])] 6 [P0] (.pan (flt L i e)) [(0, .dead), (1, .dead), (2, .dead), (3, .dead), (4, .dead), (5, .dead)] [] := hw
          repeat' (first | refine ex_true (by first | decide | omega | assumption | (with_reducible exact rfl)) ?_ | refine ex_false (by first | decide | omega | assumption | exact (fun h => h rfl)) ?_ | refine ex_dec (fun _ => ?_) (fun _ => ?_) | refine ex_u8 _ rfl (by omega) (by omega) ?_ | refine ex_i64 _ rfl (by omega) (by omega) ?_ | refine ex_u64 _ rfl (by omega) (by omega) ?_ | refine and_mk (by first | omega | (with_reducible rfl) | (show drawOk _ _ _ = true; kernel_rfl)) ?_ | refine and_mk ⟨_, rfl⟩ ?_ | refine ex_is _ (List.length_map _) ?_ | refine ex_is _ List.length_nil ?_ | fail "no step")
          refine ex_callM (CallsM.ren hw [4, 3, 5, 6, 7, 8] 9 rfl rfl rfl rfl) ?_
          exact ⟨flt L i e, _, rfl, ⟨(tk L i).l, (tk L i).c, e, _, _, _, _, rfl, rfl, rfl, rfl, rfl⟩, rfl, rfl, _, fun _ _ _ _ h => h, TLe.rfl, rfl⟩
    · rw [hl] at hlx
      have he := lexV_err hl
      have hlx : CallsA Tryz.prog ΓL 20 [c1 (ds (bs s))] (.tup [c1 (.sl 5 []), gD [di l, di c], c1 (di e)]) := hlx
      obtain rfl : FR.err l c e = R := by rw [← hR]; unfold fileS; rw [hl]; rfl
      repeat' (first | refine ex_call hlx ?_ | refine ex_true (by first | decide | omega | assumption | (with_reducible exact rfl)) ?_ | refine ex_false (by first | decide | omega | assumption | exact (fun h => h rfl)) ?_ | refine ex_dec (fun _ => ?_) (fun _ => ?_) | refine ex_u8 _ rfl (by omega) (by omega) ?_ | refine ex_i64 _ rfl (by omega) (by omega) ?_ | refine ex_u64 _ rfl (by omega) (by omega) ?_ | refine and_mk (by first | omega | (with_reducible rfl) | (show drawOk _ _ _ = true; kernel_rfl)) ?_ | refine and_mk ⟨_, rfl⟩ ?_ | refine ex_is _ (List.length_map _) ?_ | refine ex_is _ List.length_nil ?_ | fail "no step")
      exact ⟨_, fun _ _ _ _ h => h, TLe.rfl, rfl⟩
end Go.Proofs.YtkbhmcdoedmffaaGreatDoor

namespace Go.Proofs.YtkbhmcdoedmffaaGreatDoor
set_option linter.unusedVariables false
set_option linter.unusedSimpArgs false
set_option maxRecDepth 100000
def opsL7 : List (List UInt8) := levelsL.map (·.1)
def xsL (a b : List UInt8) : List EX := if levelV a < levelV b then [⟨1, [], 0, [120], []⟩, ⟨1, [], 0, [121], []⟩, ⟨1, [], 0, [122], []⟩, ⟨3, b, 0, [], [1, 2]⟩, ⟨3, a, 0, [], [0, 3]⟩] else [⟨1, [], 0, [120], []⟩, ⟨1, [], 0, [121], []⟩, ⟨3, a, 0, [], [0, 1]⟩, ⟨1, [], 0, [122], []⟩, ⟨3, b, 0, [], [2, 3]⟩]
deriving instance DecidableEq for EX, CA, TY, SB, IT, RC, CO, FR
end Go.Proofs.YtkbhmcdoedmffaaGreatDoor

namespace Go.Proofs.YtkbhmcdoedmffaaGreatDoor
set_option linter.unusedVariables false
set_option linter.unusedSimpArgs false
open Go.RowKit
set_option maxRecDepth 100000

def wakeT : List UInt8 := [115, 116, 114, 117, 99, 116, 32, 83, 32, 123, 32, 110, 58, 32, 117, 56, 59, 32, 98, 58, 32, 98, 121, 116, 101, 115, 91, 110, 32, 43, 32, 49, 93, 59, 32, 125]
def wakeX : List EX := [⟨1, [], 0, [110], []⟩, ⟨0, [], 1, [], []⟩, ⟨3, [43], 0, [], [0, 1]⟩]
def wakeY : List TY := [⟨0, 1, false, [], [], -1, -1, []⟩, ⟨1, 0, false, [], [], 2, -1, []⟩]
def wakeR : List RC := [⟨[83], [], [⟨[110], 0, 0, [], [], -1, 0, false, []⟩, ⟨[98], 1, 0, [], [], -1, 0, false, []⟩]⟩]
theorem wake_file : fileS wakeT = .ok [] wakeR wakeX wakeY := by decide +kernel
/-- A pointer that isn't nil beside nil. -/
theorem ex_pn {g : Prop} {Q K : Bool → Prop} (hg : g) (c : Bool) (he : Q c) (h : K c) : g ∧ ∃ c, Q c ∧ K c := ⟨hg, c, he, h⟩
theorem wakes_c : CallsA Tryz.prog ΓL 10 [] (Tb true) := by
  have hp : CallsA Tryz.prog ΓL 8 [c1 (ds (bs wakeT))] (.tup [.c (.eptr (fileD [] wakeR wakeX wakeY)), gD [di 0, di 0], c1 (di 0)]) := by
    have := Parse_c wakeT
    rw [wake_file] at this
    exact this
  have hl := (level_c [43]).gL
  rw [show levelV [43] = 7 by decide +kernel] at hl
  have hk := (key_c [117, 56]).gL
  rw [show keyV [117, 56] = true by decide +kernel] at hk
  refine fn_rule (C := ⟨Tryz.prog, layF, Tryz.f10.ntmps, ΓL, 0, [], []⟩) layF_ok mixed Tryz.func10 rfl (by kernel_rfl) rfl rfl rfl ?_
  repeat' (first | refine ex_call hk ?_ | refine ex_call hl ?_ | refine ex_call hp ?_ | refine (ex_row (l := wakeR) 0 ⟨[83], [], [⟨[110], 0, 0, [], [], -1, 0, false, []⟩, ⟨[98], 1, 0, [], [], -1, 0, false, []⟩]⟩ rfl rfl) ?_ | refine (ex_row (l := wakeY) 1 ⟨1, 0, false, [], [], 2, -1, []⟩ rfl rfl) ?_ | refine (ex_row (l := wakeX) 2 ⟨3, [43], 0, [], [0, 1]⟩ rfl rfl) ?_ | refine (ex_pn (by kernel_rfl) false (fun _ _ => by kernel_rfl)) ?_ | refine ex_true (by first | decide | omega | assumption | (with_reducible exact rfl)) ?_ | refine ex_false (by first | decide | omega | assumption | exact (fun h => h rfl)) ?_ | refine ex_dec (fun _ => ?_) (fun _ => ?_) | refine ex_u8 _ rfl (by omega) (by omega) ?_ | refine ex_i64 _ rfl (by omega) (by omega) ?_ | refine ex_u64 _ rfl (by omega) (by omega) ?_ | refine and_mk (by first | omega | (with_reducible rfl) | (show drawOk _ _ _ = true; kernel_rfl)) ?_ | refine and_mk ⟨_, rfl⟩ ?_ | refine ex_is _ (List.length_map _) ?_ | refine ex_is _ List.length_nil ?_ | fail "no step")
  exact TLe.rfl
end Go.Proofs.YtkbhmcdoedmffaaGreatDoor

namespace Go.Proofs.YtkbhmcdoedmffaaGreatDoor
set_option linter.unusedVariables false
set_option linter.unusedSimpArgs false
set_option maxRecDepth 100000

def TY.subX (t : TY) : List Int := (if t.ex = -1 then [] else [t.ex]) ++ t.args
def TY.subT (t : TY) : List Int := (if t.inn = -1 then [] else [t.inn]) ++ t.cases.map (·.t)
def usesX (s : PS) : List Int := s.xs.flatMap EX.kids ++ s.ts.flatMap TY.subX
def usesT (s : PS) : List Int := s.ts.flatMap TY.subT
/-- Each is part of just one, or waits to be (a: expressions, b: types). -/
structure OInv (s : PS) (a b : List Int) : Prop where
  x : ∀ j : Nat, j < s.xs.length → (usesX s).count (j : Int) + a.count (j : Int) = 1
  xr : ∀ j, j ∈ usesX s ∨ j ∈ a → 0 ≤ j ∧ j < s.xs.length
  xo : ∀ (i : Nat) (x : EX), s.xs[i]? = some x → ∀ k ∈ x.kids, k < i
  t : ∀ j : Nat, j < s.ts.length → (usesT s).count (j : Int) + b.count (j : Int) = 1
  tr : ∀ j, j ∈ usesT s ∨ j ∈ b → 0 ≤ j ∧ j < s.ts.length
  tt : ∀ (i : Nat) (t : TY), s.ts[i]? = some t → ∀ k ∈ t.subT, k < i
theorem OInv.perm {s : PS} {a b a' b' : List Int} (h : OInv s a b) (ha : a.Perm a') (hb : b.Perm b') : OInv s a' b' :=
  ⟨fun j hj => by rw [← ha.count_eq]; exact h.x j hj, fun j hj => h.xr j (by rwa [ha.mem_iff]), h.xo, fun j hj => by rw [← hb.count_eq]; exact h.t j hj, fun j hj => h.tr j (by rwa [hb.mem_iff]), h.tt⟩
theorem OInv.step {s : PS} {a b : List Int} (h : OInv s a b) (i : Nat) : OInv { s with i := i } a b := ⟨h.x, h.xr, h.xo, h.t, h.tr, h.tt⟩
def Ht {α : Type} (a b : List Int) (x : PM α) (f g : α → List Int) : Prop := ∀ s p q, OInv s (a ++ p) (b ++ q) → ∀ v s', x s = .ok v s' → OInv s' (f v ++ p) (g v ++ q)
theorem Ht.and {α β : Type} {a b : List Int} {x : PM α} {f g : α → List Int} {y : α → PM β} {f' g' : β → List Int} (hx : Ht a b x f g) (hy : ∀ v, Ht (f v) (g v) (y v) f' g') : Ht a b (x >>= y) f' g' := fun s p q h v s' he => by
  have he : PM.and x y s = .ok v s' := he
  unfold PM.and at he
  cases hxs : x s with
  | err i e => rw [hxs] at he; cases he
  | ok u s1 => rw [hxs] at he; exact hy u s1 p q (hx s p q h u s1 hxs) v s' he
theorem Ht.pure {α : Type} (v : α) (f g : α → List Int) : Ht (f v) (g v) (pure v) f g := fun s p q h v' s' he => by cases he; exact h
theorem Ht.fail {α : Type} {e : Nat} {a b : List Int} {f g : α → List Int} : Ht a b (failM e : PM α) f g := fun s p q h v s' he => by cases he
theorem Ht.look {α : Type} {f : PS → PM α} {a b : List Int} {f' g' : α → List Int} (h : ∀ s, Ht a b (f s) f' g') : Ht a b (fun s => f s s) f' g' := fun s p q hs => h s s p q hs
theorem Ht.at {α : Type} {p : Nat → Bool} {x y : PM α} {a b : List Int} {f g : α → List Int} (hx : Ht a b x f g) (hy : Ht a b y f g) : Ht a b (atM p x y) f g := fun s c d h v s' he => by
  unfold atM at he
  by_cases hp : p s.i = true
  · rw [if_pos hp] at he; exact hx s c d h v s' he
  · rw [if_neg hp] at he; exact hy s c d h v s' he
/-- What stands ready beside it stays. -/
theorem Ht.more {α : Type} {a b : List Int} {x : PM α} {f g : α → List Int} (h : Ht a b x f g) (c d : List Int) : Ht (a ++ c) (b ++ d) x (fun v => f v ++ c) (fun v => g v ++ d) := fun s p q hi v s' he => by
  have := h s (c ++ p) (d ++ q) (by rw [← List.append_assoc, ← List.append_assoc]; exact hi) v s' he
  rw [List.append_assoc, List.append_assoc]
  exact this
theorem Ht.perm {α : Type} {a b a' b' : List Int} {x : PM α} {f g f' g' : α → List Int} (h : Ht a b x f g) (ha : a'.Perm a) (hb : b'.Perm b) (hf : ∀ v, (f v).Perm (f' v)) (hg : ∀ v, (g v).Perm (g' v)) : Ht a' b' x f' g' := fun s p q hi v s' he =>
  (h s p q (hi.perm (ha.append_right p) (hb.append_right q)) v s' he).perm ((hf v).append_right p) ((hg v).append_right q)
/-- What only moves the place. -/
def Moves {α : Type} (x : PM α) : Prop := ∀ s v s', x s = .ok v s' → s'.xs = s.xs ∧ s'.ts = s.ts
theorem Moves.ht {α : Type} {x : PM α} (h : Moves x) (a b : List Int) : Ht a b x (fun _ => a) (fun _ => b) := fun s p q hi v s' he => by
  obtain ⟨h1, h2⟩ := h s v s' he
  obtain ⟨i, xs, ts⟩ := s'
  obtain rfl : xs = s.xs := h1
  obtain rfl : ts = s.ts := h2
  exact hi.step i
section
variable (L : List TokP)
theorem mv_step : Moves stepM := fun s v s' h => by cases h; exact ⟨rfl, rfl⟩
theorem mv_take (t : List UInt8) : Moves (takeM L t) := fun s v s' h => by
  unfold takeM at h; split at h <;> cases h; exact ⟨rfl, rfl⟩
theorem mv_name : Moves (nameM L) := fun s v s' h => by
  unfold nameM at h; split at h <;> cases h; exact ⟨rfl, rfl⟩
theorem mv_number : Moves (numberM L) := fun s v s' h => by
  unfold numberM at h; split at h <;> cases h; exact ⟨rfl, rfl⟩
theorem mv_room (n : Nat) : Moves (roomM n) := fun s v s' h => by
  unfold roomM at h; split at h <;> cases h; exact ⟨rfl, rfl⟩
theorem mv_enter (m : Nat) (b : Bool) : Moves (enterM m b) := fun s v s' h => by
  unfold enterM at h; split at h
  · cases h
  · split at h <;> cases h; exact ⟨rfl, rfl⟩
theorem mv_roomIf (p : Nat → Bool) (n : Nat) : Moves (fun s => if p s.i = true then roomM n s else .ok () s) := fun s v s' h => by
  dsimp only at h
  split at h
  · exact mv_room n s v s' h
  · cases h; exact ⟨rfl, rfl⟩
theorem mv_enterL (m : Nat) (p : Nat → Bool) : Moves (fun s => enterM m (p s.i) s) := fun s v s' h => mv_enter m _ s v s' h
end
theorem ht_put (x : EX) : Ht x.kids [] (putM x) (fun k => [k]) (fun _ => []) := fun s p q h v s' he => by
  cases he
  have hu : usesX { s with xs := s.xs ++ [x] } = s.xs.flatMap EX.kids ++ x.kids ++ s.ts.flatMap TY.subX := by unfold usesX; simp
  have hr : ∀ j, j ∈ usesX { s with xs := s.xs ++ [x] } ∨ j ∈ p → 0 ≤ j ∧ j < s.xs.length := fun j hj => h.xr j (by
    rw [hu] at hj
    unfold usesX
    simp only [List.mem_append] at hj ⊢
    grind)
  refine ⟨fun j hj => ?_, fun j hj => ?_, fun i y hy k hk => ?_, h.t, h.tr, h.tt⟩
  · have hj : j < s.xs.length + 1 := by simpa using hj
    rw [List.count_append, List.count_singleton]
    by_cases he : j = s.xs.length
    · subst he
      have h1 : (usesX { s with xs := s.xs ++ [x] }).count (s.xs.length : Int) = 0 := List.count_eq_zero.2 fun hm => by have := (hr _ (.inl hm)).2; omega
      have h2 : p.count (s.xs.length : Int) = 0 := List.count_eq_zero.2 fun hm => by have := (hr _ (.inr hm)).2; omega
      rw [h1, h2]; simp
    · have h1 := h.x j (by omega)
      unfold usesX at h1
      rw [List.count_append, List.count_append] at h1
      rw [hu, List.count_append, List.count_append, if_neg (by simp; omega)]
      omega
  · show 0 ≤ j ∧ j < ((s.xs ++ [x]).length : Nat)
    rw [List.length_append, List.length_singleton]
    by_cases hm : j ∈ usesX { s with xs := s.xs ++ [x] } ∨ j ∈ p
    · have := hr j hm; omega
    · have : j = (s.xs.length : Int) := by
        rcases hj with hj | hj
        · exact absurd (.inl hj) hm
        · rcases List.mem_append.1 hj with hj | hj
          · simpa using hj
          · exact absurd (.inr hj) hm
      omega
  · have hy : (s.xs ++ [x])[i]? = some y := hy
    by_cases hi : i < s.xs.length
    · rw [List.getElem?_append_left hi] at hy
      exact h.xo i y hy k hk
    · have hl : i < (s.xs ++ [x]).length := (List.getElem?_eq_some_iff.1 hy).1
      rw [List.length_append, List.length_singleton] at hl
      obtain rfl : i = s.xs.length := by omega
      rw [List.getElem?_append_right (Nat.le_refl _), Nat.sub_self] at hy
      obtain rfl := Option.some.inj hy
      exact (h.xr k (.inr (List.mem_append_left _ hk))).2
theorem ht_lay (t : TY) : Ht t.subX t.subT (layM t) (fun _ => []) (fun k => [k]) := fun s p q h v s' he => by
  cases he
  have hu : usesX { s with ts := s.ts ++ [t] } = s.xs.flatMap EX.kids ++ s.ts.flatMap TY.subX ++ t.subX := by unfold usesX; simp
  have hv : usesT { s with ts := s.ts ++ [t] } = s.ts.flatMap TY.subT ++ t.subT := by unfold usesT; simp
  have hr : ∀ j, j ∈ usesT { s with ts := s.ts ++ [t] } ∨ j ∈ q → 0 ≤ j ∧ j < s.ts.length := fun j hj => h.tr j (by
    rw [hv] at hj
    unfold usesT
    simp only [List.mem_append] at hj ⊢
    grind)
  refine ⟨fun j hj => ?_, fun j hj => h.xr j ?_, h.xo, fun j hj => ?_, fun j hj => ?_, fun i y hy k hk => ?_⟩
  · have h1 := h.x j hj
    unfold usesX at h1
    rw [List.count_append] at h1
    rw [hu, List.count_append, List.nil_append]
    rw [List.count_append] at h1
    rw [List.count_append]
    omega
  · rw [hu] at hj
    unfold usesX
    simp only [List.mem_append, List.nil_append] at hj ⊢
    grind
  · have hj : j < s.ts.length + 1 := by simpa using hj
    rw [List.count_append, List.count_singleton]
    by_cases he : j = s.ts.length
    · subst he
      have h1 : (usesT { s with ts := s.ts ++ [t] }).count (s.ts.length : Int) = 0 := List.count_eq_zero.2 fun hm => by have := (hr _ (.inl hm)).2; omega
      have h2 : q.count (s.ts.length : Int) = 0 := List.count_eq_zero.2 fun hm => by have := (hr _ (.inr hm)).2; omega
      rw [h1, h2]; simp
    · have h1 := h.t j (by omega)
      unfold usesT at h1
      rw [List.count_append] at h1
      rw [hv, List.count_append, if_neg (by simp; omega)]
      omega
  · show 0 ≤ j ∧ j < ((s.ts ++ [t]).length : Nat)
    rw [List.length_append, List.length_singleton]
    by_cases hm : j ∈ usesT { s with ts := s.ts ++ [t] } ∨ j ∈ q
    · have := hr j hm; omega
    · have : j = (s.ts.length : Int) := by
        rcases hj with hj | hj
        · exact absurd (.inl hj) hm
        · rcases List.mem_append.1 hj with hj | hj
          · simpa using hj
          · exact absurd (.inr hj) hm
      omega
  · have hy : (s.ts ++ [t])[i]? = some y := hy
    by_cases hi : i < s.ts.length
    · rw [List.getElem?_append_left hi] at hy
      exact h.tt i y hy k hk
    · have hl : i < (s.ts ++ [t]).length := (List.getElem?_eq_some_iff.1 hy).1
      rw [List.length_append, List.length_singleton] at hl
      obtain rfl : i = s.ts.length := by omega
      rw [List.getElem?_append_right (Nat.le_refl _), Nat.sub_self] at hy
      obtain rfl := Option.some.inj hy
      exact (h.tr k (.inr (List.mem_append_left _ hk))).2
/-! ### Expressions -/
section
variable {L : List TokP}
abbrev one : Int → List Int := fun k => [k]
abbrev non {α : Type} : α → List Int := fun _ => []
theorem ht_un (m : Nat) {un ex : PM Int} (h1 : Ht [] [] un one non) (h2 : Ht [] [] ex one non) : Ht [] [] (unF L m un ex) one non := by
  unfold unF
  refine Ht.at ?_ (Ht.at ?_ (Ht.at ?_ ?_))
  · exact (mv_step.ht _ _).and fun _ => ((mv_enterL m (beginsV L)).ht _ _).and fun _ => h1.and fun k => ht_put ⟨2, [], 0, [], [k]⟩
  · exact (mv_step.ht _ _).and fun _ => ((mv_enterL m (beginsV L)).ht _ _).and fun _ => h2.and fun k => ((mv_take L _).ht [k] []).and fun _ => Ht.pure k one non
  · exact ((mv_name L).ht _ _).and fun w => ht_put ⟨1, [], 0, w, []⟩
  · exact ((mv_number L).ht _ _).and fun n => ht_put ⟨0, [], n, [], []⟩
theorem ht_line (lv : Nat) {x : PM Int} (hx : Ht [] [] x one non) : ∀ n left, Ht [left] [] (lineN L lv x n left) one non
  | 0, left => Ht.pure left one non
  | n + 1, left => by
    rw [lineN]
    intro s p q h v s' he
    dsimp only at he
    by_cases hp : opAt L lv s.i = true
    · rw [if_pos hp] at he
      refine ((mv_step.ht [left] []).and fun _ => ((hx.more [left] []).perm (a' := [left]) (b' := []) (f' := fun r => [left, r]) (g' := non) (.refl _) (.refl _) (fun r => .swap _ _ _) (fun _ => .refl _)).and fun r => (ht_put ⟨3, (tk L s.i).t, 0, [], [left, r]⟩).and fun k => ht_line lv hx n k) s p q h v s' he
    · rw [if_neg hp] at he
      cases he
      exact h
theorem ht_lineJ {un : PM Int} (hx : Ht [] [] un one non) : ∀ j, Ht [] [] (lineJ L un j) one non
  | 0 => hx
  | j + 1 => (ht_lineJ hx j).and fun left => Ht.look fun s => ht_line _ (ht_lineJ hx j) _ _
theorem ht_unM : ∀ m, Ht [] [] (unM L m) one non
  | 0 => ht_un 0 Ht.fail Ht.fail
  | m + 1 => ht_un _ (ht_unM m) (ht_lineJ (ht_unM m) 8)
theorem ht_expr (m : Nat) : Ht [] [] (exprM L m) one non := ht_lineJ (ht_unM m) 8
theorem ht_bracket (m : Nat) : Ht [] [] (bracketM L m) one non := ((mv_take L _).ht _ _).and fun _ => (ht_expr m).and fun k => ((mv_take L _).ht [k] []).and fun _ => Ht.pure k one non
/-! ### Types -/
theorem ht_array (m : Nat) (t : TY) : Ht t.subX t.subT (arrayM L m t) non one :=
  (ht_lay t).and fun k => Ht.at ((((ht_bracket m).more [] [k]).perm (a' := []) (b' := [k]) (f' := one) (g' := fun _ => [k]) (.refl _) (.refl _) (fun _ => .refl _) (fun _ => .refl _)).and fun x => by
    intro s p q h v s' he
    have h0 := h.xr x (.inr (by simp))
    have h1 := h.tr k (.inr (by simp))
    have e1 : TY.subX { tyP 5 with ex := x, inn := k } = [x] := by unfold TY.subX; rw [if_neg (by show ¬ x = -1; omega)]; rfl
    have e2 : TY.subT { tyP 5 with ex := x, inn := k } = [k] := by unfold TY.subT; rw [if_neg (by show ¬ k = -1; omega)]; rfl
    have := ht_lay { tyP 5 with ex := x, inn := k } s p q
    rw [e1, e2] at this
    exact this h v s' he) (Ht.pure k non one)
theorem ht_args (m : Nat) : ∀ n l, Ht l [] (argsN L m n l) (fun l => l) non
  | 0, l => Ht.pure l (fun l => l) non
  | n + 1, l => Ht.at ((mv_step.ht l []).and fun _ => ((mv_roomIf (beginsV L ·) l.length).ht l []).and fun _ => (((ht_expr m).more l []).perm (a' := l) (b' := []) (f' := fun x => l ++ [x]) (g' := non) (.refl _) (.refl _) (fun x => List.perm_append_comm) (fun _ => .refl _)).and fun x => ht_args m n _) (Ht.pure l (fun l => l) non)
theorem sub_plain {t : TY} (h1 : t.ex = -1) (h2 : t.inn = -1) (h3 : t.cases = []) : t.subX = t.args ∧ t.subT = [] := by
  unfold TY.subX TY.subT
  rw [if_pos h1, if_pos h2, h3]
  exact ⟨rfl, rfl⟩
theorem ht_ret (t : TY) (h1 : t.ex = -1) (h2 : t.inn = -1) (h3 : t.cases = []) : Ht t.args [] (pure t : PM TY) TY.subX TY.subT := by
  have := Ht.pure t TY.subX TY.subT
  rwa [(sub_plain h1 h2 h3).1, (sub_plain h1 h2 h3).2] at this
theorem ht_lay1 (t : TY) (h1 : t.ex = -1) (h2 : t.inn = -1) (h3 : t.cases = []) : Ht t.args [] (layM t) non one := by
  have := ht_lay t
  rwa [(sub_plain h1 h2 h3).1, (sub_plain h1 h2 h3).2] at this
theorem ht_ref (m : Nat) : Ht [] [] (refM L m) TY.subX TY.subT :=
  ((mv_name L).ht _ _).and fun w => Ht.at ((mv_step.ht [] []).and fun _ => (ht_expr m).and fun x => (Ht.look fun s => ht_args m (L.length - s.i + 1) [x]).and fun l => ((mv_take L _).ht l []).and fun _ => ht_ret { tyP 10 with nm := w, args := l } rfl rfl rfl) (ht_ret { tyP 10 with nm := w } rfl rfl rfl)
theorem ht_inner (m : Nat) {kd : PM Int} (h : Ht [] [] kd non one) : Ht [] [] (innerM L m kd) non one := ((mv_enterL m (startsV L)).ht _ _).and fun _ => h
abbrev tys (l : List CA) : List Int := l.map (·.t)
theorem ht_cases (m : Nat) {kd : PM Int} (h : Ht [] [] kd non one) : ∀ n l, Ht [] (tys l) (casesN L m kd n l) non tys
  | 0, l => Ht.pure l non tys
  | n + 1, l => Ht.at (((mv_room _).ht [] (tys l)).and fun _ => (mv_step.ht [] (tys l)).and fun _ => ((mv_number L).ht [] (tys l)).and fun c => ((mv_take L _).ht [] (tys l)).and fun _ =>
      (((ht_inner m h).more [] (tys l)).perm (a' := []) (b' := tys l) (f' := non) (g' := fun k => tys (l ++ [⟨c, k⟩])) (.refl _) (.refl _) (fun _ => .refl _) (fun k => by unfold tys; rw [List.map_append]; exact List.perm_append_comm)).and fun k =>
      ((mv_take L _).ht [] (tys (l ++ [⟨c, k⟩]))).and fun _ => ht_cases m h n _) (Ht.pure l non tys)
def may (k : Int) : List Int := if k = -1 then [] else [k]
theorem ht_choice (m : Nat) {kd : PM Int} (h : Ht [] [] kd non one) : Ht [] [] (choiceM L m kd) non one := by
  unfold choiceM
  refine ((mv_take L _).ht _ _).and fun _ => (ht_expr m).and fun x => ((mv_take L _).ht [x] []).and fun _ => ((mv_take L _).ht [x] []).and fun _ =>
    (((Ht.look fun s => ht_cases m h (L.length - s.i + 1) []).more [x] []).perm (a' := [x]) (b' := []) (f' := fun _ => [x]) (g' := tys) (.refl _) (.refl _) (fun _ => .refl _) (fun l => by rw [List.append_nil])).and fun cs =>
    Ht.and (f := fun _ => [x]) (g := fun k => may k ++ tys cs) (Ht.at ((mv_step.ht [x] (tys cs)).and fun _ => ((mv_take L _).ht [x] (tys cs)).and fun _ => Ht.and (f := fun _ => [x]) (g := fun k => may k ++ tys cs) ?_ fun k => ((mv_take L _).ht [x] (may k ++ tys cs)).and fun _ => Ht.pure k (fun _ => [x]) (fun k => may k ++ tys cs)) (Ht.pure (-1) (fun _ => [x]) (fun k => may k ++ tys cs))) fun k => ((mv_take L _).ht [x] (may k ++ tys cs)).and fun _ => ?_
  · intro s p q hi v s' he
    have := (ht_inner m h).more [x] (tys cs) s p q hi v s' he
    have h1 := this.tr v (.inr (by simp))
    have e : may v = [v] := by unfold may; rw [if_neg (by omega)]
    dsimp only
    rw [e]
    exact this
  · intro s p q hi v s' he
    have h0 := hi.xr x (.inr (by simp))
    have e1 : TY.subX { tyP 9 with ex := x, inn := k, cases := cs } = [x] := by unfold TY.subX; rw [if_neg (by show ¬ x = -1; omega)]; rfl
    have := ht_lay { tyP 9 with ex := x, inn := k, cases := cs } s p q
    rw [e1] at this
    exact this hi v s' he
theorem ht_word (m : Nat) {kd : PM Int} (h : Ht [] [] kd non one) (w : List UInt8) : Ht [] [] (wordM L m kd w) non one := by
  unfold wordM
  split
  · rename_i k _
    refine (ht_bracket m).and fun x => Ht.and (f := fun _ => [x]) (g := may) ?_ fun i => ?_
    · by_cases hk : k = 7 ∨ k = 8
      · rw [if_pos hk]
        intro s p q hi v s' he
        have := (ht_inner m h).more [x] [] s p q hi v s' he
        have h1 := this.tr v (.inr (by simp))
        have e : may v = [v] := by unfold may; rw [if_neg (by omega)]
        rw [e]
        exact this
      · rw [if_neg hk]; exact Ht.pure (-1) (fun _ => [x]) may
    · intro s p q hi v s' he
      have h0 := hi.xr x (.inr (by simp))
      have e1 : TY.subX { tyP k with ex := x, inn := i } = [x] := by unfold TY.subX; rw [if_neg (by show ¬ x = -1; omega)]; rfl
      have e2 : TY.subT { tyP k with ex := x, inn := i } = may i := by unfold TY.subT may; simp [tyP]
      have := ht_lay { tyP k with ex := x, inn := i } s p q
      rw [e1, e2] at this
      exact this hi v s' he
  · repeat' split
    · refine (ht_inner m h).and fun i => ?_
      intro s p q hi v s' he
      have h1 := hi.tr i (.inr (by simp))
      have e2 : TY.subT { tyP 6 with inn := i } = [i] := by unfold TY.subT; rw [if_neg (by show ¬ i = -1; omega)]; rfl
      have := ht_lay { tyP 6 with inn := i } s p q
      rw [e2] at this
      exact this hi v s' he
    · exact ht_lay1 (tyP 4) rfl rfl rfl
    · exact ht_lay1 (tyP 11) rfl rfl rfl
    · exact ht_choice m h
    · have := ht_array (L := L) m { tyP 0 with size := ((integerV w).getD (0, false)).1, little := ((integerV w).getD (0, false)).2 }
      rwa [(sub_plain rfl rfl rfl).1, (sub_plain rfl rfl rfl).2] at this
theorem ht_kindF (m : Nat) {kd : PM Int} (h : Ht [] [] kd non one) : Ht [] [] (kindF L m kd) non one := by
  unfold kindF
  exact Ht.at ((ht_ref m).and fun t => ht_array m t) (Ht.at (Ht.look (f := fun s => stepM >>= fun _ => wordM L m kd (tk L s.i).t) fun s => (mv_step.ht _ _).and fun _ => ht_word m h _) Ht.fail)
theorem ht_kind : ∀ m, Ht [] [] (kindM L m) non one
  | 0 => ht_kindF 0 Ht.fail
  | m + 1 => ht_kindF _ (ht_kind m)
/-! ### Items -/
theorem mv_and {α β : Type} {x : PM α} {y : α → PM β} (hx : Moves x) (hy : ∀ v, Moves (y v)) : Moves (x >>= y) := fun s v s' he => by
  have he : PM.and x y s = .ok v s' := he
  unfold PM.and at he
  cases hxs : x s with
  | err i e => rw [hxs] at he; cases he
  | ok u s1 =>
    rw [hxs] at he
    obtain ⟨h1, h2⟩ := hx s u s1 hxs
    obtain ⟨h3, h4⟩ := hy u s1 v s' he
    exact ⟨h3.trans h1, h4.trans h2⟩
theorem mv_pure {α : Type} (v : α) : Moves (pure v : PM α) := fun s v s' he => by cases he; exact ⟨rfl, rfl⟩
theorem mv_fail {α : Type} (e : Nat) : Moves (failM e : PM α) := fun s v s' he => by cases he
theorem mv_at {α : Type} {p : Nat → Bool} {x y : PM α} (hx : Moves x) (hy : Moves y) : Moves (atM p x y) := fun s v s' he => by
  unfold atM at he
  by_cases hp : p s.i = true
  · rw [if_pos hp] at he; exact hx s v s' he
  · rw [if_neg hp] at he; exact hy s v s' he
theorem mv_look {α : Type} {f : PS → PM α} (h : ∀ s, Moves (f s)) : Moves (fun s => f s s) := fun s v s' he => h s s v s' he
theorem mw_derived : Moves (derivedM L) := mv_at (mv_look (f := fun s => stepM >>= fun _ => takeM L t_lpar >>= fun _ => nameM L >>= fun a =>
      (if 3 ≤ derOf (tk L s.i).t then takeM L t_dots >>= fun _ => nameM L else pure []) >>= fun b => takeM L t_rpar >>= fun _ => pure (derOf (tk L s.i).t, a, b)) fun s => mv_and mv_step fun _ => mv_and (mv_take L _) fun _ => mv_and (mv_name L) fun a => mv_and (by
      by_cases hd : 3 ≤ derOf (tk L s.i).t
      · rw [if_pos hd]; exact mv_and (mv_take L _) fun _ => mv_name L
      · rw [if_neg hd]; exact mv_pure _) fun b => mv_and (mv_take L _) fun _ => mv_pure _) (mv_fail 4)
theorem mv_subs : ∀ n l, Moves (subsN L n l)
  | 0, l => mv_pure _
  | n + 1, l => by
    rw [subsN]
    exact mv_and (mv_roomIf (namedV L ·) _) fun _ => mv_and (mv_name L) fun w => mv_and (mv_take L _) fun _ => mv_and (mv_number L) fun b => mv_and (mv_take L _) fun _ => mv_at (mv_subs n _) (mv_pure _)
theorem mv_pars : ∀ n l, Moves (parsN L n l)
  | 0, l => mv_pure _
  | n + 1, l => mv_at (mv_and mv_step fun _ => mv_and (mv_roomIf (namedV L ·) _) fun _ => mv_and (mv_name L) fun x => mv_pars n _) (mv_pure _)
theorem mw_const : Moves (constM L) := mv_and (mv_take L _) fun _ => mv_and (mv_name L) fun w => mv_and (mv_take L _) fun _ => mv_and (mv_number L) fun n => mv_and (mv_take L _) fun _ => mv_pure _
def itX (x : IT) : List Int := may x.wh
def itT (x : IT) : List Int := may x.ty
theorem ht_field : Ht [] [] (fieldM L) itX itT := by
  unfold fieldM
  refine ((mv_name L).ht _ _).and fun w => ((mv_take L _).ht _ _).and fun _ => (ht_kind 32).and fun t => Ht.and (f := fun _ => []) (g := fun _ => [t]) (Ht.at ((mv_step.ht _ _).and fun _ => mw_derived.ht [] [t]) ((mv_pure _).ht [] [t])) fun d =>
    Ht.and (f := may) (g := fun _ => [t]) (Ht.at ((mv_step.ht [] [t]).and fun _ => ?_) (by have := Ht.pure (-1) may (fun _ => [t]); rwa [show may (-1) = [] from if_pos rfl] at this)) fun x => ((mv_take L _).ht (may x) [t]).and fun _ => ?_
  · intro s p q hi v s' he
    have := (ht_expr 32).more [] [t] s p q hi v s' he
    have h1 := this.xr v (.inr (by simp))
    have e : may v = [v] := by unfold may; rw [if_neg (by omega)]
    rw [e]
    exact this
  · intro s p q hi v s' he
    have h1 := hi.tr t (.inr (by simp))
    cases he
    have e : itT ⟨w, t, d.1, d.2.1, d.2.2, x, 0, false, []⟩ = [t] := by unfold itT may; rw [if_neg (by show ¬ t = -1; omega)]
    rw [e]
    exact hi
theorem ht_pack : Ht [] [] (packM L) itX itT := by
  unfold packM
  refine ((mv_take L _).ht _ _).and fun _ => ?_
  intro s p q hi v s' he
  dsimp only at he
  split at he
  · cases he
  · rename_i z lt _
    have h1 : Moves (stepM >>= fun _ => takeM L t_lcur >>= fun _ => (fun s => subsN L (L.length - s.i + 1) [] s) >>= fun l => takeM L t_rcur >>= fun _ => pure (⟨[], -1, 0, [], [], -1, z, lt, l⟩ : IT)) :=
      mv_and mv_step fun _ => mv_and (mv_take L _) fun _ => mv_and (mv_look fun s => mv_subs _ _) fun l => mv_and (mv_take L _) fun _ => mv_pure _
    have h3 : v.ty = -1 ∧ v.wh = -1 := by
      have he : PM.and stepM (fun _ => takeM L t_lcur >>= fun _ => (fun s => subsN L (L.length - s.i + 1) [] s) >>= fun l => takeM L t_rcur >>= fun _ => pure (⟨[], -1, 0, [], [], -1, z, lt, l⟩ : IT)) s = .ok v s' := he
      unfold PM.and stepM at he
      dsimp only at he
      have he : PM.and (takeM L t_lcur) (fun _ => (fun s => subsN L (L.length - s.i + 1) [] s) >>= fun l => takeM L t_rcur >>= fun _ => pure (⟨[], -1, 0, [], [], -1, z, lt, l⟩ : IT)) _ = .ok v s' := he
      unfold PM.and at he
      split at he
      · have he : PM.and (fun s => subsN L (L.length - s.i + 1) [] s) (fun l => takeM L t_rcur >>= fun _ => pure (⟨[], -1, 0, [], [], -1, z, lt, l⟩ : IT)) _ = .ok v s' := he
        unfold PM.and at he
        split at he
        · have he : PM.and (takeM L t_rcur) (fun _ => pure (⟨[], -1, 0, [], [], -1, z, lt, _⟩ : IT)) _ = .ok v s' := he
          unfold PM.and at he
          split at he
          · cases he; exact ⟨rfl, rfl⟩
          · cases he
        · cases he
      · cases he
    have := h1.ht [] [] s p q hi v s' he
    have e1 : itX v = [] := by unfold itX may; rw [if_pos h3.2]
    have e2 : itT v = [] := by unfold itT may; rw [if_pos h3.1]
    rw [e1, e2]
    exact this
theorem ht_items : ∀ n l, Ht (l.flatMap itX) (l.flatMap itT) (itemsN L n l) (fun l => l.flatMap itX) (fun l => l.flatMap itT)
  | 0, l => Ht.pure l (fun l => l.flatMap itX) (fun l => l.flatMap itT)
  | n + 1, l => Ht.at (((mv_room _).ht _ _).and fun _ => (((Ht.at ht_pack ht_field).more (l.flatMap itX) (l.flatMap itT)).perm (a' := l.flatMap itX) (b' := l.flatMap itT) (f' := fun x => (l ++ [x]).flatMap itX) (g' := fun x => (l ++ [x]).flatMap itT) (.refl _) (.refl _)
      (fun x => by rw [List.flatMap_append, List.flatMap_singleton]; exact List.perm_append_comm) (fun x => by rw [List.flatMap_append, List.flatMap_singleton]; exact List.perm_append_comm)).and fun x => ht_items n _) (Ht.pure l (fun l => l.flatMap itX) (fun l => l.flatMap itT))
def rcX (r : RC) : List Int := r.its.flatMap itX
def rcT (r : RC) : List Int := r.its.flatMap itT
theorem ht_record : Ht [] [] (recordM L) rcX rcT := by
  unfold recordM
  exact ((mv_take L _).ht _ _).and fun _ => ((mv_name L).ht _ _).and fun w =>
    ((mv_at (mv_and mv_step fun _ => mv_and (mv_name L) fun x => mv_and (mv_look fun s => mv_pars _ _) fun l => mv_and (mv_take L _) fun _ => mv_pure _) (mv_pure _)).ht [] []).and fun ps =>
    ((mv_take L _).ht _ _).and fun _ => (Ht.look fun s => ht_items _ []).and fun is => ((mv_take L _).ht (is.flatMap itX) (is.flatMap itT)).and fun _ => Ht.pure (⟨w, ps, is⟩ : RC) rcX rcT
theorem ht_whole : ∀ n cs (rs : List RC), Ht (rs.flatMap rcX) (rs.flatMap rcT) (wholeN L n cs rs) (fun p => p.2.flatMap rcX) (fun p => p.2.flatMap rcT)
  | 0, cs, rs => Ht.pure (cs, rs) (fun p => p.2.flatMap rcX) (fun p => p.2.flatMap rcT)
  | n + 1, cs, rs => Ht.at (((mv_room _).ht _ _).and fun _ => (mw_const.ht _ _).and fun c => ht_whole n _ rs)
    (Ht.at (((mv_room _).ht _ _).and fun _ => ((ht_record.more (rs.flatMap rcX) (rs.flatMap rcT)).perm (a' := rs.flatMap rcX) (b' := rs.flatMap rcT) (f' := fun x => (rs ++ [x]).flatMap rcX) (g' := fun x => (rs ++ [x]).flatMap rcT) (.refl _) (.refl _)
      (fun x => by rw [List.flatMap_append, List.flatMap_singleton]; exact List.perm_append_comm) (fun x => by rw [List.flatMap_append, List.flatMap_singleton]; exact List.perm_append_comm)).and fun x => ht_whole n _ _)
    (Ht.at (Ht.pure (cs, rs) (fun p => p.2.flatMap rcX) (fun p => p.2.flatMap rcT)) Ht.fail))
/-- The law ParseOrder: in a file each stands ahead of what it is part of, and is part of just one. -/
theorem file_order {R : LR} {cs : List CO} {rs : List RC} {xs : List EX} {ts : List TY} (h : fileV R = .ok cs rs xs ts) : OInv ⟨0, xs, ts⟩ (rs.flatMap rcX) (rs.flatMap rcT) := by
  unfold fileV at h
  split at h
  · cases h
  · rename_i L
    split at h
    · rename_i c r s hw
      cases h
      have h0 : OInv ⟨0, [], []⟩ [] [] := ⟨fun j h => absurd h (Nat.not_lt_zero _), fun j h => by simp [usesX] at h, fun i x h => by simp at h, fun j h => absurd h (Nat.not_lt_zero _), fun j h => by simp [usesT] at h, fun i x h => by simp at h⟩
      have := ht_whole (L := L) (L.length + 1) [] [] ⟨0, [], []⟩ [] [] h0 _ _ hw
      rw [List.append_nil, List.append_nil] at this
      exact this.step 0
    · cases h
end
end Go.Proofs.YtkbhmcdoedmffaaGreatDoor

namespace Go.Proofs.YtkbhmcdoedmffaaGreatDoor
set_option linter.unusedVariables false
set_option linter.unusedSimpArgs false
set_option maxRecDepth 100000

structure GoodS (B : Nat) (s : PS) : Prop where
  x : ∀ e ∈ s.xs, e.kids.length ≤ B
  t : ∀ t ∈ s.ts, t.args.length ≤ B ∧ t.cases.length ≤ B
def Szd (B : Nat) {α : Type} (x : PM α) (R : α → Prop) : Prop := ∀ s v s', GoodS B s → x s = .ok v s' → GoodS B s' ∧ R v
section
variable {B : Nat} {L : List TokP}
theorem Szd.and {α β : Type} {x : PM α} {f : α → PM β} {R : α → Prop} {Q : β → Prop} (hx : Szd B x R) (hf : ∀ v, R v → Szd B (f v) Q) : Szd B (x >>= f) Q := fun s v s' h he => by
  have he : PM.and x f s = .ok v s' := he
  unfold PM.and at he
  cases hxs : x s with
  | err i e => rw [hxs] at he; cases he
  | ok u s1 =>
    rw [hxs] at he
    obtain ⟨h1, h2⟩ := hx s u s1 h hxs
    exact hf u h2 s1 v s' h1 he
theorem Szd.pure {α : Type} {R : α → Prop} (v : α) (h : R v) : Szd B (pure v) R := fun s v' s' hs he => by cases he; exact ⟨hs, h⟩
theorem Szd.fail {α : Type} {R : α → Prop} (e : Nat) : Szd B (failM e : PM α) R := fun s v s' hs he => by cases he
theorem Szd.at {α : Type} {p : Nat → Bool} {x y : PM α} {R : α → Prop} (hx : Szd B x R) (hy : Szd B y R) : Szd B (atM p x y) R := fun s v s' h he => by
  unfold atM at he
  by_cases hp : p s.i = true
  · rw [if_pos hp] at he; exact hx s v s' h he
  · rw [if_neg hp] at he; exact hy s v s' h he
theorem Szd.look {α : Type} {f : PS → PM α} {R : α → Prop} (h : ∀ s, Szd B (f s) R) : Szd B (fun s => f s s) R := fun s v s' hs he => h s s v s' hs he
theorem Szd.moves {α : Type} {x : PM α} (h : Moves x) : Szd B x (fun _ => True) := fun s v s' hs he => by
  obtain ⟨h1, h2⟩ := h s v s' he
  exact ⟨⟨by rw [h1]; exact hs.x, by rw [h2]; exact hs.t⟩, trivial⟩
theorem Szd.imp {α : Type} {x : PM α} {R Q : α → Prop} (h : Szd B x R) (hi : ∀ v, R v → Q v) : Szd B x Q := fun s v s' hs he => ⟨(h s v s' hs he).1, hi _ (h s v s' hs he).2⟩
theorem Szd.put (x : EX) (h : x.kids.length ≤ B) : Szd B (putM x) (fun _ => True) := fun s v s' hs he => by
  cases he
  refine ⟨⟨fun e hm => ?_, hs.t⟩, trivial⟩
  rcases List.mem_append.1 hm with hm | hm
  · exact hs.x e hm
  · rw [List.mem_singleton.1 hm]; exact h
theorem Szd.lay (t : TY) (h : t.args.length ≤ B) (h2 : t.cases.length ≤ B) : Szd B (layM t) (fun _ => True) := fun s v s' hs he => by
  cases he
  refine ⟨⟨hs.x, fun e hm => ?_⟩, trivial⟩
  rcases List.mem_append.1 hm with hm | hm
  · exact hs.t e hm
  · rw [List.mem_singleton.1 hm]; exact ⟨h, h2⟩
abbrev tru {α : Type} : α → Prop := fun _ => True
theorem sz_un (hB : 2 ≤ B) (m : Nat) {un ex : PM Int} (h1 : Szd B un tru) (h2 : Szd B ex tru) : Szd B (unF L m un ex) tru :=
  Szd.at ((Szd.moves (mv_step)).and fun _ _ => (Szd.moves (mv_enterL m _)).and fun _ _ => h1.and fun k _ => Szd.put _ (by show 1 ≤ B; omega))
  (Szd.at ((Szd.moves (mv_step)).and fun _ _ => (Szd.moves (mv_enterL m _)).and fun _ _ => h2.and fun k _ => (Szd.moves (mv_take L _)).and fun _ _ => Szd.pure _ trivial)
  (Szd.at ((Szd.moves (mv_name L)).and fun w _ => Szd.put _ (Nat.zero_le _)) ((Szd.moves (mv_number L)).and fun w _ => Szd.put _ (Nat.zero_le _))))
theorem sz_line (hB : 2 ≤ B) (lv : Nat) {x : PM Int} (hx : Szd B x tru) : ∀ n left, Szd B (lineN L lv x n left) tru
  | 0, left => Szd.pure _ trivial
  | n + 1, left => Szd.look (f := fun s => atM (opAt L lv) (stepM >>= fun _ => x >>= fun right => putM ⟨3, (tk L s.i).t, 0, [], [left, right]⟩ >>= fun k => lineN L lv x n k) (pure left)) fun s =>
    Szd.at ((Szd.moves mv_step).and fun _ _ => hx.and fun r _ => (Szd.put _ (by show 2 ≤ B; omega)).and fun k _ => sz_line hB lv hx n k) (Szd.pure _ trivial)
theorem sz_lineJ (hB : 2 ≤ B) {un : PM Int} (hx : Szd B un tru) : ∀ j, Szd B (lineJ L un j) tru
  | 0 => hx
  | j + 1 => (sz_lineJ hB hx j).and fun left _ => Szd.look fun s => sz_line hB _ (sz_lineJ hB hx j) _ _
theorem sz_unM (hB : 2 ≤ B) : ∀ m, Szd B (unM L m) tru
  | 0 => sz_un hB 0 (Szd.fail _) (Szd.fail _)
  | m + 1 => sz_un hB _ (sz_unM hB m) (sz_lineJ hB (sz_unM hB m) 8)
theorem sz_expr (hB : 2 ≤ B) (m : Nat) : Szd B (exprM L m) tru := sz_lineJ hB (sz_unM hB m) 8
theorem sz_bracket (hB : 2 ≤ B) (m : Nat) : Szd B (bracketM L m) tru := (Szd.moves (mv_take L _)).and fun _ _ => (sz_expr hB m).and fun k _ => (Szd.moves (mv_take L _)).and fun _ _ => Szd.pure _ trivial
def tyS (B : Nat) (t : TY) : Prop := t.args.length ≤ B ∧ t.cases.length ≤ B
theorem sz_array (hB : 2 ≤ B) (m : Nat) (t : TY) (ht : tyS B t) : Szd B (arrayM L m t) tru :=
  (Szd.lay t ht.1 ht.2).and fun k _ => Szd.at ((sz_bracket hB m).and fun x _ => Szd.lay _ (Nat.zero_le _) (Nat.zero_le _)) (Szd.pure _ trivial)
theorem sz_args (hB : 2 ≤ B) (m : Nat) : ∀ n l, l.length + n ≤ B → Szd B (argsN L m n l) (fun l => l.length ≤ B)
  | 0, l, h => Szd.pure _ (by omega)
  | n + 1, l, h => Szd.at ((Szd.moves mv_step).and fun _ _ => (Szd.moves (mv_roomIf _ _)).and fun _ _ => (sz_expr hB m).and fun x _ => sz_args hB m n (l ++ [x]) (by rw [List.length_append, List.length_singleton]; omega)) (Szd.pure _ (by omega))
theorem sz_ref (hB : L.length + 2 ≤ B) (m : Nat) : Szd B (refM L m) (tyS B) :=
  (Szd.moves (mv_name L)).and fun w _ => Szd.at ((Szd.moves mv_step).and fun _ _ => (sz_expr (by omega) m).and fun x _ => (Szd.look fun s => sz_args (by omega) m _ [x] (by show 1 + (L.length - s.i + 1) ≤ B; omega)).and fun l hl => (Szd.moves (mv_take L _)).and fun _ _ => Szd.pure _ ⟨hl, Nat.zero_le _⟩) (Szd.pure _ ⟨Nat.zero_le _, Nat.zero_le _⟩)
section
variable {kd : PM Int}
theorem sz_inner (m : Nat) (h : Szd B kd tru) : Szd B (innerM L m kd) tru := (Szd.moves (mv_enterL m _)).and fun _ _ => h
theorem sz_cases (m : Nat) (h : Szd B kd tru) : ∀ n l, l.length + n ≤ B → Szd B (casesN L m kd n l) (fun l => l.length ≤ B)
  | 0, l, hl => Szd.pure _ (by omega)
  | n + 1, l, hl => Szd.at ((Szd.moves (mv_room _)).and fun _ _ => (Szd.moves mv_step).and fun _ _ => (Szd.moves (mv_number L)).and fun c _ => (Szd.moves (mv_take L _)).and fun _ _ => (sz_inner m h).and fun k _ => (Szd.moves (mv_take L _)).and fun _ _ => sz_cases m h n (l ++ [⟨c, k⟩]) (by rw [List.length_append, List.length_singleton]; omega)) (Szd.pure _ (by omega))
theorem sz_choice (hB : L.length + 2 ≤ B) (m : Nat) (h : Szd B kd tru) : Szd B (choiceM L m kd) tru :=
  (Szd.moves (mv_take L _)).and fun _ _ => (sz_expr (by omega) m).and fun x _ => (Szd.moves (mv_take L _)).and fun _ _ => (Szd.moves (mv_take L _)).and fun _ _ => (Szd.look fun s => sz_cases m h _ [] (by show 0 + (L.length - s.i + 1) ≤ B; omega)).and fun cs hcs =>
    (Szd.at ((Szd.moves mv_step).and fun _ _ => (Szd.moves (mv_take L _)).and fun _ _ => (sz_inner m h).and fun k _ => (Szd.moves (mv_take L _)).and fun _ _ => Szd.pure _ trivial) (Szd.pure (R := tru) _ trivial)).and fun k _ => (Szd.moves (mv_take L _)).and fun _ _ => Szd.lay _ (Nat.zero_le _) hcs
theorem sz_word (hB : L.length + 2 ≤ B) (m : Nat) (h : Szd B kd tru) (w : List UInt8) : Szd B (wordM L m kd w) tru := by
  unfold wordM
  split
  · refine (sz_bracket (by omega) m).and fun x _ => Szd.and (R := tru) ?_ fun i _ => Szd.lay _ (Nat.zero_le _) (Nat.zero_le _)
    split
    · exact sz_inner m h
    · exact Szd.pure _ trivial
  · repeat' split
    · exact (sz_inner m h).and fun i _ => Szd.lay _ (Nat.zero_le _) (Nat.zero_le _)
    · exact Szd.lay _ (Nat.zero_le _) (Nat.zero_le _)
    · exact Szd.lay _ (Nat.zero_le _) (Nat.zero_le _)
    · exact sz_choice hB m h
    · exact sz_array (by omega) m _ ⟨Nat.zero_le _, Nat.zero_le _⟩
theorem sz_kindF (hB : L.length + 2 ≤ B) (m : Nat) (h : Szd B kd tru) : Szd B (kindF L m kd) tru :=
  Szd.at ((sz_ref hB m).and fun t ht => sz_array (by omega) m t ht) (Szd.look (f := fun s => atM (startsV L ·) (stepM >>= fun _ => wordM L m kd (tk L s.i).t) (failM 4)) fun s => Szd.at ((Szd.moves mv_step).and fun _ _ => sz_word hB m h _) (Szd.fail _))
end
theorem sz_kind (hB : L.length + 2 ≤ B) : ∀ m, Szd B (kindM L m) tru
  | 0 => sz_kindF hB 0 (Szd.fail _)
  | m + 1 => sz_kindF hB _ (sz_kind hB m)
def itS (B : Nat) (x : IT) : Prop := x.subs.length ≤ B
def rcS (B : Nat) (r : RC) : Prop := r.ps.length ≤ B ∧ r.its.length ≤ B ∧ ∀ x ∈ r.its, itS B x
theorem sz_field (hB : L.length + 2 ≤ B) : Szd B (fieldM L) (itS B) :=
  (Szd.moves (mv_name L)).and fun w _ => (Szd.moves (mv_take L _)).and fun _ _ => (sz_kind hB 32).and fun t _ => (Szd.moves (mv_at (mv_and mv_step fun _ => mw_derived (L := L)) (mv_pure _))).and fun d _ =>
    (Szd.at ((Szd.moves mv_step).and fun _ _ => sz_expr (by omega) 32) (Szd.pure (R := tru) _ trivial)).and fun x _ => (Szd.moves (mv_take L _)).and fun _ _ => Szd.pure _ (Nat.zero_le _)
theorem sz_subs : ∀ n l, l.length + n ≤ B → Szd B (subsN L n l) (fun l => l.length ≤ B)
  | 0, l, h => Szd.pure _ (by omega)
  | n + 1, l, h => by
    rw [subsN]
    exact (Szd.moves (mv_roomIf _ _)).and fun _ _ => (Szd.moves (mv_name L)).and fun w _ => (Szd.moves (mv_take L _)).and fun _ _ => (Szd.moves (mv_number L)).and fun b _ => (Szd.moves (mv_take L _)).and fun _ _ =>
      Szd.at (sz_subs n _ (by rw [List.length_append, List.length_singleton]; omega)) (Szd.pure _ (by rw [List.length_append, List.length_singleton]; omega))
theorem sz_pack (hB : L.length + 2 ≤ B) : Szd B (packM L) (itS B) := by
  unfold packM
  refine (Szd.moves (mv_take L _)).and fun _ _ => fun s v s' hs he => ?_
  split at he
  · cases he
  · rename_i z lt _
    exact ((Szd.moves mv_step).and fun _ _ => (Szd.moves (mv_take L t_lcur)).and fun _ _ => (Szd.look fun s => sz_subs (L := L) (L.length - s.i + 1) [] (by show 0 + (L.length - s.i + 1) ≤ B; omega)).and fun l hl => (Szd.moves (mv_take L t_rcur)).and fun _ _ => Szd.pure (⟨[], -1, 0, [], [], -1, z, lt, l⟩ : IT) (R := itS B) hl) s v s' hs he
theorem sz_pars : ∀ n l, l.length + n ≤ B → Szd B (parsN L n l) (fun l => l.length ≤ B)
  | 0, l, h => Szd.pure _ (by omega)
  | n + 1, l, h => Szd.at ((Szd.moves mv_step).and fun _ _ => (Szd.moves (mv_roomIf _ _)).and fun _ _ => (Szd.moves (mv_name L)).and fun x _ => sz_pars n (l ++ [x]) (by rw [List.length_append, List.length_singleton]; omega)) (Szd.pure _ (by omega))
theorem sz_items (hB : L.length + 2 ≤ B) : ∀ n l, l.length + n ≤ B → (∀ x ∈ l, itS B x) → Szd B (itemsN L n l) (fun l => l.length ≤ B ∧ ∀ x ∈ l, itS B x)
  | 0, l, h, hi => Szd.pure _ ⟨by omega, hi⟩
  | n + 1, l, h, hi => Szd.at ((Szd.moves (mv_room _)).and fun _ _ => (Szd.at (sz_pack hB) (sz_field hB)).and fun x hx => sz_items hB n (l ++ [x]) (by rw [List.length_append, List.length_singleton]; omega) (fun y hy => by
      rcases List.mem_append.1 hy with hy | hy
      · exact hi y hy
      · rw [List.mem_singleton.1 hy]; exact hx)) (Szd.pure _ ⟨by omega, hi⟩)
theorem sz_record (hB : L.length + 2 ≤ B) : Szd B (recordM L) (rcS B) := by
  unfold recordM
  exact (Szd.moves (mv_take L _)).and fun _ _ => (Szd.moves (mv_name L)).and fun w _ =>
    (Szd.at ((Szd.moves mv_step).and fun _ _ => (Szd.moves (mv_name L)).and fun x _ => (Szd.look fun s => sz_pars (L := L) _ [x] (by show 1 + (L.length - s.i + 1) ≤ B; omega)).and fun l hl => (Szd.moves (mv_take L _)).and fun _ _ => Szd.pure l (R := fun l => l.length ≤ B) hl) (Szd.pure [] (R := fun l => l.length ≤ B) (Nat.zero_le _))).and fun ps hps =>
    (Szd.moves (mv_take L _)).and fun _ _ => (Szd.look fun s => sz_items hB _ [] (by show 0 + (L.length - s.i + 1) ≤ B; omega) (by simp)).and fun is his => (Szd.moves (mv_take L _)).and fun _ _ => Szd.pure (⟨w, ps, is⟩ : RC) (R := rcS B) ⟨hps, his.1, his.2⟩
theorem sz_whole (hB : L.length + 2 ≤ B) : ∀ n cs rs, cs.length + n ≤ B → rs.length + n ≤ B → (∀ r ∈ rs, rcS B r) → Szd B (wholeN L n cs rs) (fun p => p.1.length ≤ B ∧ p.2.length ≤ B ∧ ∀ r ∈ p.2, rcS B r)
  | 0, cs, rs, h1, h2, h3 => Szd.pure _ ⟨by show cs.length ≤ B; omega, by show rs.length ≤ B; omega, h3⟩
  | n + 1, cs, rs, h1, h2, h3 => Szd.at ((Szd.moves (mv_room _)).and fun _ _ => (Szd.moves (mw_const (L := L))).and fun c _ => sz_whole hB n _ rs (by rw [List.length_append, List.length_singleton]; omega) (by omega) h3)
    (Szd.at ((Szd.moves (mv_room _)).and fun _ _ => (sz_record hB).and fun r hr => sz_whole hB n cs _ (by omega) (by rw [List.length_append, List.length_singleton]; omega) (fun y hy => by
      rcases List.mem_append.1 hy with hy | hy
      · exact h3 y hy
      · rw [List.mem_singleton.1 hy]; exact hr))
    (Szd.at (Szd.pure _ ⟨by show cs.length ≤ B; omega, by show rs.length ≤ B; omega, h3⟩) (Szd.fail _)))
/-- The lists of a file are no longer than its tokens, nearly. -/
theorem file_sized {cs : List CO} {rs : List RC} {xs : List EX} {ts : List TY} (hB : L.length + 2 ≤ B) (h : fileV (.ok L) = .ok cs rs xs ts) : GoodS B ⟨0, xs, ts⟩ ∧ cs.length ≤ B ∧ rs.length ≤ B ∧ ∀ r ∈ rs, rcS B r := by
  unfold fileV at h
  dsimp only at h
  split at h
  · rename_i c r s hw
    cases h
    obtain ⟨h1, h2⟩ := sz_whole hB (L.length + 1) [] [] (by show 0 + (L.length + 1) ≤ B; omega) (by show 0 + (L.length + 1) ≤ B; omega) (by simp) ⟨0, [], []⟩ _ _ ⟨by simp, by simp⟩ hw
    exact ⟨⟨h1.x, h1.t⟩, h2⟩
  · cases h
end
end Go.Proofs.YtkbhmcdoedmffaaGreatDoor

namespace Go.Proofs.YtkbhmcdoedmffaaGreatDoor
set_option linter.unusedVariables false
set_option linter.unusedSimpArgs false
open Go.RowKit
set_option maxRecDepth 100000

/-! ### What is known of variables, with the closure that writes into a row it is handed -/
def ΓO : Glob := ⟨ΓL.G, ΓL.mono, [19], ΓL.gl, ΓL.gok⟩
theorem CallsA.toO {f : FuncId} {xs : List T1} {r : TV} (h : CallsA Tryz.prog ΓL f xs r) : CallsA Tryz.prog ΓO f xs r := ⟨h.1, fun S w vs hS hG hv => h.2 S w vs hS hG hv⟩
theorem CallsA.frO {f : FuncId} {xs : List T1} {r : TV} (h : CallsA Tryz.prog ΓO f xs r) : CallsA Tryz.prog ΓL f xs r := ⟨h.1, fun S w vs hS hG hv => h.2 S w vs hS hG hv⟩
/-! ### Counts -/
def ntR (l : List Nat) : List (List D) := l.map fun n : Nat => [di (n : Int)]
abbrev Nr (l : List Nat) : Blk := .row 1 3 (ntR l)
def cntL (n : Nat) (U : List Int) : List Nat := (List.range n).map fun j : Nat => U.count (j : Int)
def bump (l : List Nat) (k : Int) : List Nat := if k = -1 then l else l.set k.toNat (l.getD k.toNat 0 + 1)
theorem cntL_len (n : Nat) (U : List Int) : (cntL n U).length = n := by simp [cntL]
theorem cntL_at {n j : Nat} (h : j < n) (U : List Int) : (cntL n U)[j]? = some (U.count (j : Int)) := by simp [cntL, h]
theorem cnt_bump {n : Nat} {U : List Int} {k : Int} (h : 0 ≤ k) (hk : k < n) : bump (cntL n U) k = cntL n (U ++ [k]) := by
  obtain ⟨j, rfl⟩ : ∃ j : Nat, k = j := ⟨k.toNat, by omega⟩
  unfold bump
  rw [if_neg (by omega), Int.toNat_natCast]
  apply List.ext_getElem?
  intro i
  by_cases hi : i < n
  · rw [cntL_at hi, List.count_append, List.count_singleton]
    by_cases e : i = j
    · subst e
      rw [List.getElem?_set_self (by rw [cntL_len]; exact hi), List.getD_eq_getElem?_getD, cntL_at hi]
      simp
    · rw [List.getElem?_set_ne (fun h => e h.symm), cntL_at hi, if_neg (by simp; omega), Nat.add_zero]
  · rw [List.getElem?_eq_none (by rw [List.length_set, cntL_len]; omega), List.getElem?_eq_none (by rw [cntL_len]; omega)]
theorem ex_atI {rows : List (List D)} {r : List D} {j : Nat} {K : List D → Prop} (h : rows[j]? = some r) (k : K r) : ∃ r, rows[((j : Nat) : Int).toNat]? = some r ∧ K r := ⟨r, h, k⟩
theorem bump_no (l : List Nat) : bump l (-1) = l := if_pos rfl
set_option maxHeartbeats 2000000 in
theorem use_c (l : List Nat) (k : Int) (b : Nat) (h1 : -1 ≤ k) (h2 : k < b) (hk : k < l.length) (hl : ∀ x ∈ l, x ≤ 1000000) (hb : b ≤ 1000000) (hll : l.length ≤ 1000000) :
    CallsM Tryz.prog ΓO 19 [(0, Nr l), (1, .obj [.d (db true)])] 2 [.c (.row 0), c1 (di k), c1 (di b), .c (.ptr 1 0)] (.tup []) [(0, Nr (bump l k)), (1, .obj [.d (db true)])] [] := by
  by_cases h0 : k = -1
  · subst h0
    rw [bump_no]
    refine fn_ruleM (C := ⟨Tryz.prog, layF, Tryz.f19.ntmps, ΓO, 2, [], []⟩) layF_ok mixed Tryz.func19 rfl (by kernel_rfl) rfl rfl rfl ?_
    repeat' (first | refine ex_true (by first | decide | omega | assumption | (with_reducible exact rfl)) ?_ | refine ex_false (by first | decide | omega | assumption | exact (fun h => h rfl)) ?_ | refine ex_dec (fun _ => ?_) (fun _ => ?_) | refine ex_u8 _ rfl (by omega) (by omega) ?_ | refine ex_i64 _ rfl (by omega) (by omega) ?_ | refine ex_u64 _ rfl (by omega) (by omega) ?_ | refine and_mk (by first | omega | (with_reducible rfl) | (show drawOk _ _ _ = true; kernel_rfl)) ?_ | refine and_mk ⟨_, rfl⟩ ?_ | refine ex_is _ (List.length_map _) ?_ | refine ex_is _ List.length_nil ?_ | fail "no step")
    exact ⟨rfl, TLe.rfl, rfl, rfl⟩
  · obtain ⟨j, rfl⟩ : ∃ j : Nat, k = j := ⟨k.toNat, by omega⟩
    have hj : j < l.length := by omega
    obtain ⟨c, hc⟩ : ∃ c, l[j]? = some c := ⟨_, List.getElem?_eq_getElem hj⟩
    have hcl := hl c (List.mem_of_getElem? hc)
    have hcr : (ntR l)[j]? = some [di c] := by unfold ntR; rw [List.getElem?_map, hc]; rfl
    have hlr : (ntR l).length = l.length := List.length_map _
    have hbu : bump l (j : Int) = l.set j (c + 1) := by
      unfold bump
      rw [if_neg (by omega), Int.toNat_natCast, List.getD_eq_getElem?_getD, hc]
      rfl
    have hset : (ntR l).set ((j : Nat) : Int).toNat [di ((c + 1 : Nat) : Int)] = ntR (l.set j (c + 1)) := by unfold ntR; rw [Int.toNat_natCast, List.map_set]
    rw [hbu]
    refine fn_ruleM (C := ⟨Tryz.prog, layF, Tryz.f19.ntmps, ΓO, 2, [], []⟩) layF_ok mixed Tryz.func19 rfl (by kernel_rfl) rfl rfl rfl ?_
    repeat' (first | refine ex_i64 ((c + 1 : Nat) : Int) (by omega) (by omega) (by omega) ?_ | refine ex_u64 ((c + 1 : Nat) : Int) (by omega) (by omega) (by omega) ?_ | refine ex_u8 ((c + 1 : Nat) : Int) (by omega) (by omega) (by omega) ?_ | refine (ex_is (ntR (l.set j (c + 1))) hset) ?_ | refine (ex_atI hcr) ?_ | refine ex_true (by first | decide | omega | assumption | (with_reducible exact rfl)) ?_ | refine ex_false (by first | decide | omega | assumption | exact (fun h => h rfl)) ?_ | refine ex_dec (fun _ => ?_) (fun _ => ?_) | refine ex_u8 _ rfl (by omega) (by omega) ?_ | refine ex_i64 _ rfl (by omega) (by omega) ?_ | refine ex_u64 _ rfl (by omega) (by omega) ?_ | refine and_mk (by first | omega | (with_reducible rfl) | (show drawOk _ _ _ = true; kernel_rfl)) ?_ | refine and_mk ⟨_, rfl⟩ ?_ | refine ex_is _ (List.length_map _) ?_ | refine ex_is _ List.length_nil ?_ | fail "no step")
    exact ⟨rfl, TLe.rfl, rfl, rfl⟩
theorem useA_c {A : List Int} {N : Nat} (hA1 : ∀ j : Nat, j < N → A.count (j : Int) = 1) (hAr : ∀ j ∈ A, 0 ≤ j ∧ j < N) (hN : N ≤ 1000000) (U R : List Int) (k : Int) (b : Nat) (h : U ++ (may k ++ R) = A) (hk : k < b) (hb : b ≤ 1000000) :
    CallsM Tryz.prog ΓO 19 [(0, Nr (cntL N U)), (1, .obj [.d (db true)])] 2 [.c (.row 0), c1 (di k), c1 (di b), .c (.ptr 1 0)] (.tup []) [(0, Nr (cntL N (U ++ may k))), (1, .obj [.d (db true)])] [] := by
  have hcl : ∀ x ∈ cntL N U, x ≤ 1000000 := fun x hx => by
    obtain ⟨j, hj, rfl⟩ := List.mem_map.1 hx
    have h1 := hA1 j (List.mem_range.1 hj)
    rw [← h, List.count_append] at h1
    omega
  by_cases h0 : k = -1
  · subst h0
    have := use_c (cntL N U) (-1) b (by omega) hk (by omega) hcl hb (by rw [cntL_len]; exact hN)
    rw [bump_no] at this
    rw [show U ++ may (-1) = U by unfold may; rw [if_pos rfl, List.append_nil]]
    exact this
  · have hm : may k = [k] := by unfold may; rw [if_neg h0]
    have hr := hAr k (by rw [← h, hm]; simp)
    have := use_c (cntL N U) k b (by omega) hk (by rw [cntL_len]; exact hr.2) hcl hb (by rw [cntL_len]; exact hN)
    rw [cnt_bump hr.1 hr.2] at this
    rw [hm]
    exact this
theorem may_of {k : Int} (h : 0 ≤ k) : may k = [k] := by unfold may; rw [if_neg (by omega)]
theorem may_lt {A U R : List Int} {N : Nat} {k : Int} (h : U ++ (may k ++ R) = A) (hr : ∀ j ∈ A, 0 ≤ j ∧ j < N) : k < N := by
  by_cases e : k = -1
  · omega
  · exact (hr k (by rw [← h]; unfold may; rw [if_neg e]; simp)).2
theorem cnt_ones {A : List Int} {N : Nat} (h : ∀ j : Nat, j < N → A.count (j : Int) = 1) : cntL N A = List.replicate N 1 := by
  apply List.ext_getElem?
  intro i
  by_cases hi : i < N
  · rw [cntL_at hi, List.getElem?_replicate, if_pos hi, h i hi]
  · rw [List.getElem?_eq_none (by rw [cntL_len]; omega), List.getElem?_eq_none (by rw [List.length_replicate]; omega)]
theorem drop_at {α : Type} {l : List α} {q : Nat} {x : α} (h : l[q]? = some x) : l.drop q = x :: l.drop (q + 1) := by
  have hl := (List.getElem?_eq_some_iff.1 h)
  rw [List.drop_eq_getElem_cons hl.1, hl.2]
theorem cnt_zero (n : Nat) : List.replicate ((n : Nat) : Int).toNat [D.v (.int .i64 0)] = ntR (cntL n []) := by
  rw [Int.toNat_natCast]
  apply List.ext_getElem?
  intro i
  unfold ntR
  rw [List.getElem?_map]
  by_cases hi : i < n
  · rw [cntL_at hi, List.getElem?_replicate, if_pos hi]; rfl
  · rw [List.getElem?_eq_none (by rw [List.length_replicate]; omega), List.getElem?_eq_none (by rw [cntL_len]; omega)]; rfl
theorem file_err9 {s : List UInt8} {l c e : Nat} (h : fileS s = .err l c e) : 0 < e ∧ e ≤ 10 := by
  unfold fileS fileV at h
  rcases hl : lexV s with L | ⟨l', c', e'⟩ <;> rw [hl] at h <;> dsimp only at h
  · obtain ⟨hL, hn⟩ := lexV_ok hl
    have := up_whole hL (L.length + 1) [] [] ⟨0, [], []⟩ 0 ⟨hL.1, by simp, by simp⟩
    split at h
    · cases h
    · rename_i i e0 hw
      rw [hw] at this
      cases h
      exact ⟨this.2.2.1, this.2.2.2⟩
  · cases h
    have := lexV_err hl
    omega
set_option maxHeartbeats 8000000 in
theorem parseOrder_c (s : List UInt8) : CallsA Tryz.prog ΓL 5 [c1 (ds (bs s))] (Tb true) := by
  refine CallsA.frO ?_
  have hp := (Parse_c s).toO
  have hw := wakes_c.toO
  rcases hf : fileS s with ⟨cs, rs, xs, ts⟩ | ⟨l, c, e⟩ <;> rw [hf] at hp
  · have hp : CallsA Tryz.prog ΓO 8 [c1 (ds (bs s))] (.tup [.c (.eptr (fileD cs rs xs ts)), gD [di 0, di 0], c1 (di 0)]) := hp
    have hO := file_order (R := lexV s) (cs := cs) hf
    obtain ⟨hsz, hrl, hN, hM⟩ : (GoodS 200000 ⟨0, xs, ts⟩ ∧ ∀ r ∈ rs, rcS 200000 r) ∧ rs.length ≤ 200000 ∧ xs.length ≤ 200000 ∧ ts.length ≤ 200000 := by
      unfold fileS at hf
      rcases hl : lexV s with L | ⟨l', c', e'⟩ <;> rw [hl] at hf
      · obtain ⟨hL, hn⟩ := lexV_ok hl
        obtain ⟨h1, h2, h3, h4⟩ := file_sized (L := L) (B := 200000) (by omega) hf
        have hu := up_whole hL (L.length + 1) [] [] ⟨0, [], []⟩ 0 ⟨hL.1, by simp, by simp⟩
        unfold fileV at hf
        dsimp only at hf
        split at hf
        · rename_i c r s1 hw1
          rw [hw1] at hu
          cases hf
          have := hu.1.x
          have := hu.1.t
          have := hu.1.i
          exact ⟨⟨h1, h4⟩, h3, by omega, by omega⟩
        · cases hf
      · cases hf
    obtain ⟨AX, hAX⟩ : ∃ A, xs.flatMap EX.kids ++ (ts.flatMap TY.subX ++ rs.flatMap rcX) = A := ⟨_, rfl⟩
    obtain ⟨AT, hAT⟩ : ∃ A, ts.flatMap TY.subT ++ rs.flatMap rcT = A := ⟨_, rfl⟩
    have eX : usesX ⟨0, xs, ts⟩ ++ rs.flatMap rcX = AX := by rw [← hAX, ← List.append_assoc]; rfl
    have x1 : ∀ j : Nat, j < xs.length → AX.count (j : Int) = 1 := fun j hj => by rw [← eX, List.count_append]; exact hO.x j hj
    have xr : ∀ j ∈ AX, 0 ≤ j ∧ j < xs.length := fun j hj => hO.xr j (by rw [← eX] at hj; exact List.mem_append.1 hj)
    have t1 : ∀ j : Nat, j < ts.length → AT.count (j : Int) = 1 := fun j hj => by rw [← hAT, List.count_append]; exact hO.t j hj
    have tr : ∀ j ∈ AT, 0 ≤ j ∧ j < ts.length := fun j hj => hO.tr j (by rw [← hAT] at hj; exact List.mem_append.1 hj)
    have xo := hO.xo
    have to9 := hO.tt
    have hkx := hsz.1.x
    have hkt := hsz.1.t
    have hkr := hsz.2
    clear hO hsz eX hf
    have useX := fun U R k b h hk hb => useA_c x1 xr (by omega) U R k b h hk hb
    have useT := fun U R k b h hk hb => useA_c t1 tr (by omega) U R k b h hk hb
    have z1 := cnt_zero xs.length
    have z2 := cnt_zero ts.length
    have lenX : ∀ U, (ntR (cntL xs.length U)).length = xs.length := fun U => by unfold ntR; rw [List.length_map, cntL_len]
    have lenT : ∀ U, (ntR (cntL ts.length U)).length = ts.length := fun U => by unfold ntR; rw [List.length_map, cntL_len]
    obtain ⟨N, hNe⟩ : ∃ N, xs.length = N := ⟨_, rfl⟩
    obtain ⟨M, hMe⟩ : ∃ M, ts.length = M := ⟨_, rfl⟩
    refine fn_rule (C := ⟨Tryz.prog, layF, Tryz.f5.ntmps, ΓO, 0, [6], [42]⟩) layF_ok mixed Tryz.func5 rfl (by kernel_rfl) rfl rfl rfl ?_
    repeat' (first | refine ex_call hw ?_ | refine ex_call hp ?_ | refine (ex_pn (by kernel_rfl) false (fun _ _ => by kernel_rfl)) ?_ | refine (ex_is (ntR (cntL ts.length [])) z2) ?_ | refine (ex_is (ntR (cntL xs.length [])) z1) ?_ | refine (and_mk (by show ts.length * 9 ≤ 140737488355328; omega)) ?_ | refine (and_mk (by show xs.length * 9 ≤ 140737488355328; omega)) ?_ | refine ex_true (by first | decide | omega | assumption | (with_reducible exact rfl)) ?_ | refine ex_false (by first | decide | omega | assumption | exact (fun h => h rfl)) ?_ | refine ex_dec (fun _ => ?_) (fun _ => ?_) | refine ex_u8 _ rfl (by omega) (by omega) ?_ | refine ex_i64 _ rfl (by omega) (by omega) ?_ | refine ex_u64 _ rfl (by omega) (by omega) ?_ | refine and_mk (by first | omega | (with_reducible rfl) | (show drawOk _ _ _ = true; kernel_rfl)) ?_ | refine and_mk ⟨_, rfl⟩ ?_ | refine ex_is _ (List.length_map _) ?_ | refine ex_is _ List.length_nil ?_ | fail "no step")
    refine ex_join (X := Unit) (fun _ => ⟨[(3, .o (.c (.eptr (fileD cs rs xs ts)))), (6, .o (.c (.row 1))), (7, .o (.c (.row 2))), (8, .o (.c (.ptr 3 0))), (9, .o (.f 19 0 [.ptr 3 0]))], [(1, Nr (cntL xs.length [])), (2, Nr (cntL ts.length [])), (3, .obj [.d (db true)])], 4⟩) (fun _ => True) ?_ ?_
    · repeat' (first | refine ex_true (by first | decide | omega | assumption | (with_reducible exact rfl)) ?_ | refine ex_false (by first | decide | omega | assumption | exact (fun h => h rfl)) ?_ | refine ex_dec (fun _ => ?_) (fun _ => ?_) | refine ex_u8 _ rfl (by omega) (by omega) ?_ | refine ex_i64 _ rfl (by omega) (by omega) ?_ | refine ex_u64 _ rfl (by omega) (by omega) ?_ | refine and_mk (by first | omega | (with_reducible rfl) | (show drawOk _ _ _ = true; kernel_rfl)) ?_ | refine and_mk ⟨_, rfl⟩ ?_ | refine ex_is _ (List.length_map _) ?_ | refine ex_is _ List.length_nil ?_ | fail "no step")
      exact ex_meet () trivial (SLe.of ⟨⟨rfl, rfl, rfl, rfl, rfl, trivial⟩, ⟨rfl, rfl, rfl, trivial⟩⟩)
    intro _ _
    clear hp z1 z2
    repeat' (first | refine ex_true (by first | decide | omega | assumption | (with_reducible exact rfl)) ?_ | refine ex_false (by first | decide | omega | assumption | exact (fun h => h rfl)) ?_ | refine ex_dec (fun _ => ?_) (fun _ => ?_) | refine ex_u8 _ rfl (by omega) (by omega) ?_ | refine ex_i64 _ rfl (by omega) (by omega) ?_ | refine ex_u64 _ rfl (by omega) (by omega) ?_ | refine and_mk (by first | omega | (with_reducible rfl) | (show drawOk _ _ _ = true; kernel_rfl)) ?_ | refine and_mk ⟨_, rfl⟩ ?_ | refine ex_is _ (List.length_map _) ?_ | refine ex_is _ List.length_nil ?_ | fail "no step")
    refine ex_loop (X := Nat × List Int) (fun ⟨q, U⟩ => ⟨[(3, .o (.c (.eptr (fileD cs rs xs ts)))), (6, .o (.c (.row 1))), (7, .o (.c (.row 2))), (8, .o (.c (.ptr 3 0))), (9, .o (.f 19 0 [.ptr 3 0])), (63, .o (c1 (.sl 5 (xs.map exD)))), (64, Ti xs.length), (65, Ti q)], [(1, Nr (cntL xs.length U)), (2, Nr (cntL ts.length [])), (3, .obj [.d (db true)])], 4⟩) (fun y => xs.length - y.1) (fun ⟨q, U⟩ => q ≤ xs.length ∧ U ++ ((xs.drop q).flatMap EX.kids ++ (ts.flatMap TY.subX ++ rs.flatMap rcX)) = AX) (0, []) ⟨Nat.zero_le _, hAX⟩ (SLe.of ⟨⟨rfl, rfl, rfl, rfl, rfl, rfl, rfl, rfl, trivial⟩, ⟨rfl, rfl, rfl, trivial⟩⟩) ?_
    rintro ⟨q, U⟩ ⟨hq, hU⟩
    refine ex_dec (fun h => ?_) (fun h => ?_)
    · have hql : q < xs.length := by omega
      obtain ⟨x, hx⟩ : ∃ x, xs[q]? = some x := ⟨_, at_some hql⟩
      have hxk := xo q x hx
      have hkl := hkx x (List.mem_of_getElem? hx)
      rw [drop_at hx, List.flatMap_cons, List.append_assoc] at hU
      clear hw
      repeat' (first | refine (ex_row q x rfl hx) ?_ | refine ex_true (by first | decide | omega | assumption | (with_reducible exact rfl)) ?_ | refine ex_false (by first | decide | omega | assumption | exact (fun h => h rfl)) ?_ | refine ex_dec (fun _ => ?_) (fun _ => ?_) | refine ex_u8 _ rfl (by omega) (by omega) ?_ | refine ex_i64 _ rfl (by omega) (by omega) ?_ | refine ex_u64 _ rfl (by omega) (by omega) ?_ | refine and_mk (by first | omega | (with_reducible rfl) | (show drawOk _ _ _ = true; kernel_rfl)) ?_ | refine and_mk ⟨_, rfl⟩ ?_ | refine ex_is _ (List.length_map _) ?_ | refine ex_is _ List.length_nil ?_ | fail "no step")
      refine ex_loop (X := Nat × List Int) (fun ⟨r, U⟩ => ⟨[(3, .o (.c (.eptr (fileD cs rs xs ts)))), (6, .o (.c (.row 1))), (7, .o (.c (.row 2))), (8, .o (.c (.ptr 3 0))), (9, .o (.f 19 0 [.ptr 3 0])), (63, .o (c1 (.sl 5 (xs.map exD)))), (64, Ti xs.length), (65, Ti q), (10, Ti q), (71, .o (c1 (intsD x.kids))), (72, Ti x.kids.length), (73, Ti r)], [(1, Nr (cntL xs.length U)), (2, Nr (cntL ts.length [])), (3, .obj [.d (db true)])], 5⟩) (fun y => x.kids.length - y.1) (fun ⟨r, U⟩ => r ≤ x.kids.length ∧ U ++ (x.kids.drop r ++ ((xs.drop (q + 1)).flatMap EX.kids ++ (ts.flatMap TY.subX ++ rs.flatMap rcX))) = AX) (0, U) ⟨Nat.zero_le _, hU⟩ (SLe.of ⟨⟨rfl, rfl, rfl, rfl, rfl, rfl, rfl, rfl, rfl, rfl, rfl, rfl, trivial⟩, ⟨rfl, rfl, rfl, trivial⟩⟩) ?_
      clear hU
      rintro ⟨r, U⟩ ⟨hr, hU⟩
      refine ex_dec (fun h2 => ?_) (fun h2 => ?_)
      · have hrl : r < x.kids.length := by omega
        obtain ⟨k, hk⟩ : ∃ k, x.kids[r]? = some k := ⟨_, at_some hrl⟩
        rw [drop_at hk] at hU
        have hkr2 := xr k (by rw [← hU]; simp)
        have hlt := hxk k (List.mem_of_getElem? hk)
        have hm := may_of hkr2.1
        have hcl := useX U (x.kids.drop (r + 1) ++ ((xs.drop (q + 1)).flatMap EX.kids ++ (ts.flatMap TY.subX ++ rs.flatMap rcX))) k q (by rw [hm]; exact hU) hlt (by omega)
        rw [hm] at hcl
        repeat' (first | refine ex_i64 ((r + 1 : Nat) : Int) (by omega) (by omega) (by omega) ?_ | refine ex_u64 ((r + 1 : Nat) : Int) (by omega) (by omega) (by omega) ?_ | refine ex_u8 ((r + 1 : Nat) : Int) (by omega) (by omega) (by omega) ?_ | refine (ex_callM (CallsM.ren hcl [1, 3] 5 rfl rfl rfl rfl)) ?_ | refine (ex_row r k rfl hk) ?_ | refine ex_true (by first | decide | omega | assumption | (with_reducible exact rfl)) ?_ | refine ex_false (by first | decide | omega | assumption | exact (fun h => h rfl)) ?_ | refine ex_dec (fun _ => ?_) (fun _ => ?_) | refine ex_u8 _ rfl (by omega) (by omega) ?_ | refine ex_i64 _ rfl (by omega) (by omega) ?_ | refine ex_u64 _ rfl (by omega) (by omega) ?_ | refine and_mk (by first | omega | (with_reducible rfl) | (show drawOk _ _ _ = true; kernel_rfl)) ?_ | refine and_mk ⟨_, rfl⟩ ?_ | refine ex_is _ (List.length_map _) ?_ | refine ex_is _ List.length_nil ?_ | fail "no step")
        exact ex_round (r + 1, U ++ [k]) ⟨by omega, by rw [List.append_assoc]; exact hU⟩ (by show _ - _ < _ - _; omega) (SLe.of ⟨⟨rfl, rfl, rfl, rfl, rfl, rfl, rfl, rfl, rfl, rfl, rfl, rfl, trivial⟩, ⟨rfl, rfl, rfl, trivial⟩⟩)
      · have hre : r = x.kids.length := by omega
        subst hre
        rw [List.drop_length, List.nil_append] at hU
        repeat' (first | refine ex_i64 ((q + 1 : Nat) : Int) (by omega) (by omega) (by omega) ?_ | refine ex_u64 ((q + 1 : Nat) : Int) (by omega) (by omega) (by omega) ?_ | refine ex_u8 ((q + 1 : Nat) : Int) (by omega) (by omega) (by omega) ?_ | refine ex_true (by first | decide | omega | assumption | (with_reducible exact rfl)) ?_ | refine ex_false (by first | decide | omega | assumption | exact (fun h => h rfl)) ?_ | refine ex_dec (fun _ => ?_) (fun _ => ?_) | refine ex_u8 _ rfl (by omega) (by omega) ?_ | refine ex_i64 _ rfl (by omega) (by omega) ?_ | refine ex_u64 _ rfl (by omega) (by omega) ?_ | refine and_mk (by first | omega | (with_reducible rfl) | (show drawOk _ _ _ = true; kernel_rfl)) ?_ | refine and_mk ⟨_, rfl⟩ ?_ | refine ex_is _ (List.length_map _) ?_ | refine ex_is _ List.length_nil ?_ | fail "no step")
        exact ex_round (q + 1, U) ⟨by omega, hU⟩ (by show _ - _ < _ - _; omega) (SLe.of ⟨⟨rfl, rfl, rfl, rfl, rfl, rfl, rfl, rfl, trivial⟩, ⟨rfl, rfl, rfl, trivial⟩⟩)
    · have hqe : q = xs.length := by omega
      subst hqe
      rw [List.drop_length, List.flatMap_nil, List.nil_append] at hU
      repeat' (first | refine ex_true (by first | decide | omega | assumption | (with_reducible exact rfl)) ?_ | refine ex_false (by first | decide | omega | assumption | exact (fun h => h rfl)) ?_ | refine ex_dec (fun _ => ?_) (fun _ => ?_) | refine ex_u8 _ rfl (by omega) (by omega) ?_ | refine ex_i64 _ rfl (by omega) (by omega) ?_ | refine ex_u64 _ rfl (by omega) (by omega) ?_ | refine and_mk (by first | omega | (with_reducible rfl) | (show drawOk _ _ _ = true; kernel_rfl)) ?_ | refine and_mk ⟨_, rfl⟩ ?_ | refine ex_is _ (List.length_map _) ?_ | refine ex_is _ List.length_nil ?_ | fail "no step")
      clear hq hkx
      refine ex_loop (X := Nat × List Int × List Int) (fun ⟨q, U, V⟩ => ⟨[(3, .o (.c (.eptr (fileD cs rs xs ts)))), (6, .o (.c (.row 1))), (7, .o (.c (.row 2))), (8, .o (.c (.ptr 3 0))), (9, .o (.f 19 0 [.ptr 3 0])), (87, .o (c1 (.sl 8 (ts.map tyD)))), (88, Ti ts.length), (89, Ti q)], [(1, Nr (cntL xs.length U)), (2, Nr (cntL ts.length V)), (3, .obj [.d (db true)])], 4⟩) (fun y => ts.length - y.1) (fun ⟨q, U, V⟩ => q ≤ ts.length ∧ U ++ ((ts.drop q).flatMap TY.subX ++ rs.flatMap rcX) = AX ∧ V ++ ((ts.drop q).flatMap TY.subT ++ rs.flatMap rcT) = AT) (0, U, []) ⟨Nat.zero_le _, hU, hAT⟩ (SLe.of ⟨⟨rfl, rfl, rfl, rfl, rfl, rfl, rfl, rfl, trivial⟩, ⟨rfl, rfl, rfl, trivial⟩⟩) ?_
      clear hU hAT hAX h U
      rintro ⟨q, U, V⟩ ⟨hq, hU, hV⟩
      refine ex_dec (fun h => ?_) (fun h => ?_)
      · have hql : q < ts.length := by omega
        obtain ⟨t, ht⟩ : ∃ t, ts[q]? = some t := ⟨_, at_some hql⟩
        have hto := to9 q t ht
        obtain ⟨hta, htc⟩ := hkt t (List.mem_of_getElem? ht)
        rw [drop_at ht, List.flatMap_cons, show t.subX = may t.ex ++ t.args from rfl, List.append_assoc, List.append_assoc] at hU
        rw [drop_at ht, List.flatMap_cons, show t.subT = may t.inn ++ t.cases.map (·.t) from rfl, List.append_assoc, List.append_assoc] at hV
        have hex : t.ex < xs.length := may_lt hU xr
        have hin : t.inn < q := by
          by_cases e : t.inn = -1
          · omega
          · exact hto t.inn (List.mem_append_left _ (by rw [if_neg e]; exact List.mem_singleton.2 rfl))
        have hcs : ∀ c ∈ t.cases, c.t < q := fun c hc => hto c.t (List.mem_append_right _ (List.mem_map.2 ⟨c, hc, rfl⟩))
        have c1' := CallsM.ren (useX U _ t.ex xs.length hU hex (by omega)) [1, 3] 5 rfl rfl rfl rfl
        have c2' := CallsM.ren (useT V _ t.inn q hV hin (by omega)) [2, 3] 5 rfl rfl rfl rfl
        rw [← List.append_assoc] at hU hV
        clear hw hto
        have l1 := lenX U
        repeat' (first | refine (ex_callM c2') ?_ | refine (ex_callM c1') ?_ | refine (ex_is xs.length l1) ?_ | refine (ex_row q t rfl ht) ?_ | refine ex_true (by first | decide | omega | assumption | (with_reducible exact rfl)) ?_ | refine ex_false (by first | decide | omega | assumption | exact (fun h => h rfl)) ?_ | refine ex_dec (fun _ => ?_) (fun _ => ?_) | refine ex_u8 _ rfl (by omega) (by omega) ?_ | refine ex_i64 _ rfl (by omega) (by omega) ?_ | refine ex_u64 _ rfl (by omega) (by omega) ?_ | refine and_mk (by first | omega | (with_reducible rfl) | (show drawOk _ _ _ = true; kernel_rfl)) ?_ | refine and_mk ⟨_, rfl⟩ ?_ | refine ex_is _ (List.length_map _) ?_ | refine ex_is _ List.length_nil ?_ | fail "no step")
        generalize U ++ may t.ex = U at *
        generalize V ++ may t.inn = V at *
        refine ex_loop (X := Nat × List Int) (fun ⟨r, U⟩ => ⟨[(3, .o (.c (.eptr (fileD cs rs xs ts)))), (6, .o (.c (.row 1))), (7, .o (.c (.row 2))), (8, .o (.c (.ptr 3 0))), (9, .o (.f 19 0 [.ptr 3 0])), (87, .o (c1 (.sl 8 (ts.map tyD)))), (88, Ti ts.length), (89, Ti q), (14, Ti q), (15, .o (.c (.ptr 4 0))), (108, .o (c1 (intsD t.args))), (109, Ti t.args.length), (110, Ti r)], [(1, Nr (cntL xs.length U)), (2, Nr (cntL ts.length V)), (3, .obj [.d (db true)]), (4, .obj [.d (di t.k), .d (di t.size), .d (db t.little), .d (ds (bs t.nm)), .d (intsD t.args), .d (di t.ex), .d (di t.inn), .d (.sl 2 (t.cases.map caD))])], 5⟩) (fun y => t.args.length - y.1) (fun ⟨r, U⟩ => r ≤ t.args.length ∧ U ++ (t.args.drop r ++ ((ts.drop (q + 1)).flatMap TY.subX ++ rs.flatMap rcX)) = AX) (0, U) ⟨Nat.zero_le _, hU⟩ (SLe.of ⟨⟨rfl, rfl, rfl, rfl, rfl, rfl, rfl, rfl, rfl, rfl, rfl, rfl, rfl, trivial⟩, ⟨rfl, rfl, rfl, rfl, trivial⟩⟩) ?_
        clear hU c1' c2' l1
        rintro ⟨r, U⟩ ⟨hr, hU⟩
        refine ex_dec (fun h2 => ?_) (fun h2 => ?_)
        · have hrl : r < t.args.length := by omega
          obtain ⟨k, hk⟩ : ∃ k, t.args[r]? = some k := ⟨_, at_some hrl⟩
          rw [drop_at hk] at hU
          have hkr2 := xr k (by rw [← hU]; simp)
          have hm := may_of hkr2.1
          have hcl := useX U (t.args.drop (r + 1) ++ ((ts.drop (q + 1)).flatMap TY.subX ++ rs.flatMap rcX)) k xs.length (by rw [hm]; exact hU) hkr2.2 (by omega)
          rw [hm] at hcl
          have l1 := lenX U
          repeat' (first | refine ex_i64 ((r + 1 : Nat) : Int) (by omega) (by omega) (by omega) ?_ | refine ex_u64 ((r + 1 : Nat) : Int) (by omega) (by omega) (by omega) ?_ | refine ex_u8 ((r + 1 : Nat) : Int) (by omega) (by omega) (by omega) ?_ | refine (ex_callM (CallsM.ren hcl [1, 3] 5 rfl rfl rfl rfl)) ?_ | refine (ex_is xs.length l1) ?_ | refine (ex_row r k rfl hk) ?_ | refine ex_true (by first | decide | omega | assumption | (with_reducible exact rfl)) ?_ | refine ex_false (by first | decide | omega | assumption | exact (fun h => h rfl)) ?_ | refine ex_dec (fun _ => ?_) (fun _ => ?_) | refine ex_u8 _ rfl (by omega) (by omega) ?_ | refine ex_i64 _ rfl (by omega) (by omega) ?_ | refine ex_u64 _ rfl (by omega) (by omega) ?_ | refine and_mk (by first | omega | (with_reducible rfl) | (show drawOk _ _ _ = true; kernel_rfl)) ?_ | refine and_mk ⟨_, rfl⟩ ?_ | refine ex_is _ (List.length_map _) ?_ | refine ex_is _ List.length_nil ?_ | fail "no step")
          exact ex_round (r + 1, U ++ [k]) ⟨by omega, by rw [List.append_assoc]; exact hU⟩ (by show _ - _ < _ - _; omega) (SLe.of ⟨⟨rfl, rfl, rfl, rfl, rfl, rfl, rfl, rfl, rfl, rfl, rfl, rfl, rfl, trivial⟩, ⟨rfl, rfl, rfl, rfl, trivial⟩⟩)
        · have hre : r = t.args.length := by omega
          subst hre
          rw [List.drop_length, List.nil_append] at hU
          repeat' (first | refine ex_true (by first | decide | omega | assumption | (with_reducible exact rfl)) ?_ | refine ex_false (by first | decide | omega | assumption | exact (fun h => h rfl)) ?_ | refine ex_dec (fun _ => ?_) (fun _ => ?_) | refine ex_u8 _ rfl (by omega) (by omega) ?_ | refine ex_i64 _ rfl (by omega) (by omega) ?_ | refine ex_u64 _ rfl (by omega) (by omega) ?_ | refine and_mk (by first | omega | (with_reducible rfl) | (show drawOk _ _ _ = true; kernel_rfl)) ?_ | refine and_mk ⟨_, rfl⟩ ?_ | refine ex_is _ (List.length_map _) ?_ | refine ex_is _ List.length_nil ?_ | fail "no step")
          refine ex_loop (X := Nat × List Int) (fun ⟨r, V⟩ => ⟨[(3, .o (.c (.eptr (fileD cs rs xs ts)))), (6, .o (.c (.row 1))), (7, .o (.c (.row 2))), (8, .o (.c (.ptr 3 0))), (9, .o (.f 19 0 [.ptr 3 0])), (87, .o (c1 (.sl 8 (ts.map tyD)))), (88, Ti ts.length), (89, Ti q), (14, Ti q), (15, .o (.c (.ptr 4 0))), (122, .o (c1 (.sl 2 (t.cases.map caD)))), (123, Ti t.cases.length), (124, Ti r)], [(1, Nr (cntL xs.length U)), (2, Nr (cntL ts.length V)), (3, .obj [.d (db true)]), (4, .obj [.d (di t.k), .d (di t.size), .d (db t.little), .d (ds (bs t.nm)), .d (intsD t.args), .d (di t.ex), .d (di t.inn), .d (.sl 2 (t.cases.map caD))])], 5⟩) (fun y => t.cases.length - y.1) (fun ⟨r, V⟩ => r ≤ t.cases.length ∧ V ++ ((t.cases.drop r).map (·.t) ++ ((ts.drop (q + 1)).flatMap TY.subT ++ rs.flatMap rcT)) = AT) (0, V) ⟨Nat.zero_le _, hV⟩ (SLe.of ⟨⟨rfl, rfl, rfl, rfl, rfl, rfl, rfl, rfl, rfl, rfl, rfl, rfl, rfl, trivial⟩, ⟨rfl, rfl, rfl, rfl, trivial⟩⟩) ?_
          clear hV h2 hr V
          rintro ⟨r, V⟩ ⟨hr, hV⟩
          refine ex_dec (fun h3 => ?_) (fun h3 => ?_)
          · have hrl : r < t.cases.length := by omega
            obtain ⟨c, hc⟩ : ∃ c, t.cases[r]? = some c := ⟨_, at_some hrl⟩
            rw [drop_at hc, List.map_cons] at hV
            have hkr2 := tr c.t (by rw [← hV]; simp)
            have hlt := hcs c (List.mem_of_getElem? hc)
            have hm := may_of hkr2.1
            have hcl := useT V ((t.cases.drop (r + 1)).map (·.t) ++ ((ts.drop (q + 1)).flatMap TY.subT ++ rs.flatMap rcT)) c.t q (by rw [hm]; exact hV) hlt (by omega)
            rw [hm] at hcl
            repeat' (first | refine ex_i64 ((r + 1 : Nat) : Int) (by omega) (by omega) (by omega) ?_ | refine ex_u64 ((r + 1 : Nat) : Int) (by omega) (by omega) (by omega) ?_ | refine ex_u8 ((r + 1 : Nat) : Int) (by omega) (by omega) (by omega) ?_ | refine (ex_callM (CallsM.ren hcl [2, 3] 6 rfl rfl rfl rfl)) ?_ | refine (ex_row r c rfl hc) ?_ | refine ex_true (by first | decide | omega | assumption | (with_reducible exact rfl)) ?_ | refine ex_false (by first | decide | omega | assumption | exact (fun h => h rfl)) ?_ | refine ex_dec (fun _ => ?_) (fun _ => ?_) | refine ex_u8 _ rfl (by omega) (by omega) ?_ | refine ex_i64 _ rfl (by omega) (by omega) ?_ | refine ex_u64 _ rfl (by omega) (by omega) ?_ | refine and_mk (by first | omega | (with_reducible rfl) | (show drawOk _ _ _ = true; kernel_rfl)) ?_ | refine and_mk ⟨_, rfl⟩ ?_ | refine ex_is _ (List.length_map _) ?_ | refine ex_is _ List.length_nil ?_ | fail "no step")
            exact ex_round (r + 1, V ++ [c.t]) ⟨by omega, by rw [List.append_assoc]; exact hV⟩ (by show _ - _ < _ - _; omega) (SLe.of ⟨⟨rfl, rfl, rfl, rfl, rfl, rfl, rfl, rfl, rfl, rfl, rfl, rfl, rfl, trivial⟩, ⟨rfl, rfl, rfl, rfl, trivial⟩⟩)
          · have hre : r = t.cases.length := by omega
            subst hre
            rw [List.drop_length, List.map_nil, List.nil_append] at hV
            repeat' (first | refine ex_i64 ((q + 1 : Nat) : Int) (by omega) (by omega) (by omega) ?_ | refine ex_u64 ((q + 1 : Nat) : Int) (by omega) (by omega) (by omega) ?_ | refine ex_u8 ((q + 1 : Nat) : Int) (by omega) (by omega) (by omega) ?_ | refine ex_true (by first | decide | omega | assumption | (with_reducible exact rfl)) ?_ | refine ex_false (by first | decide | omega | assumption | exact (fun h => h rfl)) ?_ | refine ex_dec (fun _ => ?_) (fun _ => ?_) | refine ex_u8 _ rfl (by omega) (by omega) ?_ | refine ex_i64 _ rfl (by omega) (by omega) ?_ | refine ex_u64 _ rfl (by omega) (by omega) ?_ | refine and_mk (by first | omega | (with_reducible rfl) | (show drawOk _ _ _ = true; kernel_rfl)) ?_ | refine and_mk ⟨_, rfl⟩ ?_ | refine ex_is _ (List.length_map _) ?_ | refine ex_is _ List.length_nil ?_ | fail "no step")
            exact ex_round (q + 1, U, V) ⟨by omega, hU, hV⟩ (by show _ - _ < _ - _; omega) (SLe.of ⟨⟨rfl, rfl, rfl, rfl, rfl, rfl, rfl, rfl, trivial⟩, ⟨rfl, rfl, rfl, trivial⟩⟩)
      · have hqe : q = ts.length := by omega
        subst hqe
        rw [List.drop_length, List.flatMap_nil, List.nil_append] at hU hV
        repeat' (first | refine ex_true (by first | decide | omega | assumption | (with_reducible exact rfl)) ?_ | refine ex_false (by first | decide | omega | assumption | exact (fun h => h rfl)) ?_ | refine ex_dec (fun _ => ?_) (fun _ => ?_) | refine ex_u8 _ rfl (by omega) (by omega) ?_ | refine ex_i64 _ rfl (by omega) (by omega) ?_ | refine ex_u64 _ rfl (by omega) (by omega) ?_ | refine and_mk (by first | omega | (with_reducible rfl) | (show drawOk _ _ _ = true; kernel_rfl)) ?_ | refine and_mk ⟨_, rfl⟩ ?_ | refine ex_is _ (List.length_map _) ?_ | refine ex_is _ List.length_nil ?_ | fail "no step")
        clear hkt to9 xo hq
        have o1 := cnt_ones x1
        have o2 := cnt_ones t1
        refine ex_join (X := Unit) (fun _ => ⟨[(6, .o (.c (.row 1))), (7, .o (c1 (.sl 1 (ntR (cntL ts.length AT))))), (8, .o (.c (.ptr 3 0)))], [(1, Nr (cntL xs.length AX)), (3, .obj [.d (db true)])], 4⟩) (fun _ => True) ?_ ?_
        · repeat' (first | refine ex_true (by first | decide | omega | assumption | (with_reducible exact rfl)) ?_ | refine ex_false (by first | decide | omega | assumption | exact (fun h => h rfl)) ?_ | refine ex_dec (fun _ => ?_) (fun _ => ?_) | refine ex_u8 _ rfl (by omega) (by omega) ?_ | refine ex_i64 _ rfl (by omega) (by omega) ?_ | refine ex_u64 _ rfl (by omega) (by omega) ?_ | refine and_mk (by first | omega | (with_reducible rfl) | (show drawOk _ _ _ = true; kernel_rfl)) ?_ | refine and_mk ⟨_, rfl⟩ ?_ | refine ex_is _ (List.length_map _) ?_ | refine ex_is _ List.length_nil ?_ | fail "no step")
          refine ex_loop (X := Nat × List Int × List Int) (fun ⟨q, U, V⟩ => ⟨[(3, .o (.c (.eptr (fileD cs rs xs ts)))), (6, .o (.c (.row 1))), (7, .o (.c (.row 2))), (8, .o (.c (.ptr 3 0))), (9, .o (.f 19 0 [.ptr 3 0])), (139, .o (c1 (.sl 3 (rs.map rcD)))), (140, Ti rs.length), (141, Ti q)], [(1, Nr (cntL xs.length U)), (2, Nr (cntL ts.length V)), (3, .obj [.d (db true)])], 4⟩) (fun y => rs.length - y.1) (fun ⟨q, U, V⟩ => q ≤ rs.length ∧ U ++ (rs.drop q).flatMap rcX = AX ∧ V ++ (rs.drop q).flatMap rcT = AT) (0, U, V) ⟨Nat.zero_le _, hU, hV⟩ (SLe.of ⟨⟨rfl, rfl, rfl, rfl, rfl, rfl, rfl, rfl, trivial⟩, ⟨rfl, rfl, rfl, trivial⟩⟩) ?_
          clear hU hV h
          rintro ⟨q, U, V⟩ ⟨hq, hU, hV⟩
          refine ex_dec (fun h => ?_) (fun h => ?_)
          · have hql : q < rs.length := by omega
            obtain ⟨z, hz⟩ : ∃ z, rs[q]? = some z := ⟨_, at_some hql⟩
            obtain ⟨-, hzi, -⟩ := hkr z (List.mem_of_getElem? hz)
            rw [drop_at hz, List.flatMap_cons] at hU hV
            clear hw
            repeat' (first | refine (ex_row q z rfl hz) ?_ | refine ex_true (by first | decide | omega | assumption | (with_reducible exact rfl)) ?_ | refine ex_false (by first | decide | omega | assumption | exact (fun h => h rfl)) ?_ | refine ex_dec (fun _ => ?_) (fun _ => ?_) | refine ex_u8 _ rfl (by omega) (by omega) ?_ | refine ex_i64 _ rfl (by omega) (by omega) ?_ | refine ex_u64 _ rfl (by omega) (by omega) ?_ | refine and_mk (by first | omega | (with_reducible rfl) | (show drawOk _ _ _ = true; kernel_rfl)) ?_ | refine and_mk ⟨_, rfl⟩ ?_ | refine ex_is _ (List.length_map _) ?_ | refine ex_is _ List.length_nil ?_ | fail "no step")
            refine ex_loop (X := Nat × List Int × List Int) (fun ⟨r, U, V⟩ => ⟨[(3, .o (.c (.eptr (fileD cs rs xs ts)))), (6, .o (.c (.row 1))), (7, .o (.c (.row 2))), (8, .o (.c (.ptr 3 0))), (9, .o (.f 19 0 [.ptr 3 0])), (139, .o (c1 (.sl 3 (rs.map rcD)))), (140, Ti rs.length), (141, Ti q), (146, .o (c1 (.sl 9 (z.its.map itD)))), (147, Ti z.its.length), (148, Ti r)], [(1, Nr (cntL xs.length U)), (2, Nr (cntL ts.length V)), (3, .obj [.d (db true)])], 5⟩) (fun y => z.its.length - y.1) (fun ⟨r, U, V⟩ => r ≤ z.its.length ∧ U ++ ((z.its.drop r).flatMap itX ++ (rs.drop (q + 1)).flatMap rcX) = AX ∧ V ++ ((z.its.drop r).flatMap itT ++ (rs.drop (q + 1)).flatMap rcT) = AT) (0, U, V) ⟨Nat.zero_le _, hU, hV⟩ (SLe.of ⟨⟨rfl, rfl, rfl, rfl, rfl, rfl, rfl, rfl, rfl, rfl, rfl, trivial⟩, ⟨rfl, rfl, rfl, trivial⟩⟩) ?_
            clear hU hV
            rintro ⟨r, U, V⟩ ⟨hr, hU, hV⟩
            refine ex_dec (fun h2 => ?_) (fun h2 => ?_)
            · have hrl : r < z.its.length := by omega
              obtain ⟨x, hx⟩ : ∃ x, z.its[r]? = some x := ⟨_, at_some hrl⟩
              rw [drop_at hx, List.flatMap_cons, show itX x = may x.wh from rfl, List.append_assoc] at hU
              rw [drop_at hx, List.flatMap_cons, show itT x = may x.ty from rfl, List.append_assoc] at hV
              have hwh : x.wh < xs.length := may_lt hU xr
              have hty : x.ty < ts.length := may_lt hV tr
              have c1' := CallsM.ren (useX U _ x.wh xs.length hU hwh (by omega)) [1, 3] 6 rfl rfl rfl rfl
              have c2' := CallsM.ren (useT V _ x.ty ts.length hV hty (by omega)) [2, 3] 6 rfl rfl rfl rfl
              rw [← List.append_assoc] at hU hV
              have l1 := lenX U
              have l2 := lenT V
              repeat' (first | refine ex_i64 ((r + 1 : Nat) : Int) (by omega) (by omega) (by omega) ?_ | refine ex_u64 ((r + 1 : Nat) : Int) (by omega) (by omega) (by omega) ?_ | refine ex_u8 ((r + 1 : Nat) : Int) (by omega) (by omega) (by omega) ?_ | refine (ex_callM c2') ?_ | refine (ex_callM c1') ?_ | refine (ex_is ts.length l2) ?_ | refine (ex_is xs.length l1) ?_ | refine (ex_row r x rfl hx) ?_ | refine ex_true (by first | decide | omega | assumption | (with_reducible exact rfl)) ?_ | refine ex_false (by first | decide | omega | assumption | exact (fun h => h rfl)) ?_ | refine ex_dec (fun _ => ?_) (fun _ => ?_) | refine ex_u8 _ rfl (by omega) (by omega) ?_ | refine ex_i64 _ rfl (by omega) (by omega) ?_ | refine ex_u64 _ rfl (by omega) (by omega) ?_ | refine and_mk (by first | omega | (with_reducible rfl) | (show drawOk _ _ _ = true; kernel_rfl)) ?_ | refine and_mk ⟨_, rfl⟩ ?_ | refine ex_is _ (List.length_map _) ?_ | refine ex_is _ List.length_nil ?_ | fail "no step")
              exact ex_round (r + 1, U ++ may x.wh, V ++ may x.ty) ⟨by omega, hU, hV⟩ (by show _ - _ < _ - _; omega) (SLe.of ⟨⟨rfl, rfl, rfl, rfl, rfl, rfl, rfl, rfl, rfl, rfl, rfl, trivial⟩, ⟨rfl, rfl, rfl, trivial⟩⟩)
            · have hre : r = z.its.length := by omega
              subst hre
              rw [List.drop_length, List.flatMap_nil, List.nil_append] at hU hV
              repeat' (first | refine ex_i64 ((q + 1 : Nat) : Int) (by omega) (by omega) (by omega) ?_ | refine ex_u64 ((q + 1 : Nat) : Int) (by omega) (by omega) (by omega) ?_ | refine ex_u8 ((q + 1 : Nat) : Int) (by omega) (by omega) (by omega) ?_ | refine ex_true (by first | decide | omega | assumption | (with_reducible exact rfl)) ?_ | refine ex_false (by first | decide | omega | assumption | exact (fun h => h rfl)) ?_ | refine ex_dec (fun _ => ?_) (fun _ => ?_) | refine ex_u8 _ rfl (by omega) (by omega) ?_ | refine ex_i64 _ rfl (by omega) (by omega) ?_ | refine ex_u64 _ rfl (by omega) (by omega) ?_ | refine and_mk (by first | omega | (with_reducible rfl) | (show drawOk _ _ _ = true; kernel_rfl)) ?_ | refine and_mk ⟨_, rfl⟩ ?_ | refine ex_is _ (List.length_map _) ?_ | refine ex_is _ List.length_nil ?_ | fail "no step")
              exact ex_round (q + 1, U, V) ⟨by omega, hU, hV⟩ (by show _ - _ < _ - _; omega) (SLe.of ⟨⟨rfl, rfl, rfl, rfl, rfl, rfl, rfl, rfl, trivial⟩, ⟨rfl, rfl, rfl, trivial⟩⟩)
          · have hqe : q = rs.length := by omega
            subst hqe
            rw [List.drop_length, List.flatMap_nil, List.append_nil] at hU hV
            subst hU hV
            repeat' (first | refine ex_true (by first | decide | omega | assumption | (with_reducible exact rfl)) ?_ | refine ex_false (by first | decide | omega | assumption | exact (fun h => h rfl)) ?_ | refine ex_dec (fun _ => ?_) (fun _ => ?_) | refine ex_u8 _ rfl (by omega) (by omega) ?_ | refine ex_i64 _ rfl (by omega) (by omega) ?_ | refine ex_u64 _ rfl (by omega) (by omega) ?_ | refine and_mk (by first | omega | (with_reducible rfl) | (show drawOk _ _ _ = true; kernel_rfl)) ?_ | refine and_mk ⟨_, rfl⟩ ?_ | refine ex_is _ (List.length_map _) ?_ | refine ex_is _ List.length_nil ?_ | fail "no step")
            exact ex_meet () trivial (SLe.via (SLe.still 2 1 3 (ntR (cntL ts.length _)) rfl) (SLe.of ⟨⟨rfl, rfl, rfl, trivial⟩, ⟨rfl, rfl, trivial⟩⟩))
        intro _ _
        have lX := lenX AX
        have lT := lenT AT
        obtain ⟨K, hK⟩ : ∃ K, xs.length + ts.length = K := ⟨_, rfl⟩
        have hro : ntR (cntL xs.length AX) ++ ntR (cntL ts.length AT) = ntR (List.replicate K 1) := by rw [o1, o2, ← hK]; unfold ntR; rw [← List.map_append, List.replicate_append_replicate]
        have hKl : (ntR (List.replicate K 1)).length = K := by unfold ntR; rw [List.length_map, List.length_replicate]
        clear useX useT lenX lenT o1 o2 x1 t1 xr tr
        repeat' (first | refine ex_true (by first | decide | omega | assumption | (with_reducible exact rfl)) ?_ | refine ex_false (by first | decide | omega | assumption | exact (fun h => h rfl)) ?_ | refine ex_dec (fun _ => ?_) (fun _ => ?_) | refine ex_u8 _ rfl (by omega) (by omega) ?_ | refine ex_i64 _ rfl (by omega) (by omega) ?_ | refine ex_u64 _ rfl (by omega) (by omega) ?_ | refine and_mk (by first | omega | (with_reducible rfl) | (show drawOk _ _ _ = true; kernel_rfl)) ?_ | refine and_mk ⟨_, rfl⟩ ?_ | refine ex_is _ (List.length_map _) ?_ | refine ex_is _ List.length_nil ?_ | fail "no step")
        refine ⟨by rw [lX, lT]; show (xs.length + ts.length) * 9 ≤ 140737488355328; omega, ?_⟩
        refine ex_is (ntR (List.replicate K 1)) hro ?_
        repeat' (first | refine (ex_is K hKl) ?_ | refine ex_true (by first | decide | omega | assumption | (with_reducible exact rfl)) ?_ | refine ex_false (by first | decide | omega | assumption | exact (fun h => h rfl)) ?_ | refine ex_dec (fun _ => ?_) (fun _ => ?_) | refine ex_u8 _ rfl (by omega) (by omega) ?_ | refine ex_i64 _ rfl (by omega) (by omega) ?_ | refine ex_u64 _ rfl (by omega) (by omega) ?_ | refine and_mk (by first | omega | (with_reducible rfl) | (show drawOk _ _ _ = true; kernel_rfl)) ?_ | refine and_mk ⟨_, rfl⟩ ?_ | refine ex_is _ (List.length_map _) ?_ | refine ex_is _ List.length_nil ?_ | fail "no step")
        refine ex_loop (X := Nat) (fun q => ⟨[(170, .o (c1 (.sl 1 (ntR (List.replicate K 1))))), (171, Ti K), (172, Ti q), (8, .o (.c (.ptr 3 0)))], [(3, .obj [.d (db true)])], 5⟩) (fun q => K - q) (fun q => q ≤ K) 0 (Nat.zero_le _) ?_ ?_
        · exact SLe.via (SLe.still 4 1 3 (ntR (List.replicate K 1)) rfl) (SLe.of ⟨⟨rfl, rfl, rfl, rfl, trivial⟩, ⟨rfl, trivial⟩⟩)
        intro q hq
        refine ex_dec (fun h => ?_) (fun h => ?_)
        · have hql : q < K := by omega
          have hx : (List.replicate K 1)[q]? = some 1 := by rw [List.getElem?_replicate, if_pos hql]
          clear hw
          repeat' (first | refine ex_i64 ((q + 1 : Nat) : Int) (by omega) (by omega) (by omega) ?_ | refine ex_u64 ((q + 1 : Nat) : Int) (by omega) (by omega) (by omega) ?_ | refine ex_u8 ((q + 1 : Nat) : Int) (by omega) (by omega) (by omega) ?_ | refine (ex_row q 1 rfl hx) ?_ | refine ex_true (by first | decide | omega | assumption | (with_reducible exact rfl)) ?_ | refine ex_false (by first | decide | omega | assumption | exact (fun h => h rfl)) ?_ | refine ex_dec (fun _ => ?_) (fun _ => ?_) | refine ex_u8 _ rfl (by omega) (by omega) ?_ | refine ex_i64 _ rfl (by omega) (by omega) ?_ | refine ex_u64 _ rfl (by omega) (by omega) ?_ | refine and_mk (by first | omega | (with_reducible rfl) | (show drawOk _ _ _ = true; kernel_rfl)) ?_ | refine and_mk ⟨_, rfl⟩ ?_ | refine ex_is _ (List.length_map _) ?_ | refine ex_is _ List.length_nil ?_ | fail "no step")
          exact ex_round (q + 1) (by show q + 1 ≤ K; omega) (by show _ - _ < _ - _; omega) (SLe.of ⟨⟨rfl, rfl, rfl, rfl, trivial⟩, ⟨rfl, trivial⟩⟩)
        · repeat' (first | refine ex_true (by first | decide | omega | assumption | (with_reducible exact rfl)) ?_ | refine ex_false (by first | decide | omega | assumption | exact (fun h => h rfl)) ?_ | refine ex_dec (fun _ => ?_) (fun _ => ?_) | refine ex_u8 _ rfl (by omega) (by omega) ?_ | refine ex_i64 _ rfl (by omega) (by omega) ?_ | refine ex_u64 _ rfl (by omega) (by omega) ?_ | refine and_mk (by first | omega | (with_reducible rfl) | (show drawOk _ _ _ = true; kernel_rfl)) ?_ | refine and_mk ⟨_, rfl⟩ ?_ | refine ex_is _ (List.length_map _) ?_ | refine ex_is _ List.length_nil ?_ | fail "no step")
          exact TLe.rfl
  · have he := file_err9 hf
    have hp : CallsA Tryz.prog ΓO 8 [c1 (ds (bs s))] (.tup [c1 dnp, gD [di l, di c], c1 (di e)]) := hp
    refine fn_rule (C := ⟨Tryz.prog, layF, Tryz.f5.ntmps, ΓO, 0, [], []⟩) layF_ok mixed Tryz.func5 rfl (by kernel_rfl) rfl rfl rfl ?_
    repeat' (first | refine ex_call hw ?_ | refine ex_call hp ?_ | refine ex_true (by first | decide | omega | assumption | (with_reducible exact rfl)) ?_ | refine ex_false (by first | decide | omega | assumption | exact (fun h => h rfl)) ?_ | refine ex_dec (fun _ => ?_) (fun _ => ?_) | refine ex_u8 _ rfl (by omega) (by omega) ?_ | refine ex_i64 _ rfl (by omega) (by omega) ?_ | refine ex_u64 _ rfl (by omega) (by omega) ?_ | refine and_mk (by first | omega | (with_reducible rfl) | (show drawOk _ _ _ = true; kernel_rfl)) ?_ | refine and_mk ⟨_, rfl⟩ ?_ | refine ex_is _ (List.length_map _) ?_ | refine ex_is _ List.length_nil ?_ | fail "no step")
    exact TLe.rfl
end Go.Proofs.YtkbhmcdoedmffaaGreatDoor

namespace Go.Proofs.YtkbhmcdoedmffaaGreatDoor
set_option linter.unusedVariables false
set_option linter.unusedSimpArgs false
open Go.ChangeShapes Go.WideShapes Go.ChangeAt Go.RowKit

def tilesF (P : Program) : Nat → List Field → Nat → Bool
  | o, [], n => Nat.beq o n
  | o, f :: fs, n => Nat.beq f.offset o && tilesF P (o + P.cellsOf f.type) fs n
/-- Is a type one that is read, to so many levels? -/
def okT (P : Program) : Nat → TypeId → Bool
  | 0, _ => false
  | d + 1, t => match P.underlying t with
    | some .bool | some (.int _) | some .string => true
    | some (.slice e) => Nat.blt 0 (P.cellsOf e) && okT P d e
    | some (.array n e) => Nat.beq (n * P.cellsOf e) (P.cellsOf t) && okT P d e
    | some (.struct fs) => tilesF P 0 fs.toList (P.cellsOf t) && fs.toList.all fun f => okT P d f.type
    | _ => false
/-- What the cells of a value of a type read as. -/
def DT (P : Program) : Nat → TypeId → List D → Prop
  | 0, _, _ => False
  | d + 1, t, ds => match P.underlying t with
    | some .bool => ∃ b, ds = [.v (.bool b)]
    | some (.int k) => ∃ z, ds = [.v (.int k z)] ∧ (Lit.int k z).wf = true
    | some .string => ∃ s, ds = [.v (.string s)] ∧ s.size ≤ maxLen
    | some (.slice e) => ∃ rows, ds = [.sl (P.cellsOf e) rows] ∧ rows.length ≤ maxLen ∧ ∀ r ∈ rows, DT P d e r
    | some (.array n e) => ∃ ps : List (List D), ps.length = n ∧ ds = ps.flatten ∧ ∀ p ∈ ps, DT P d e p
    | some (.struct fs) => ∃ ps : List (List D), ds = ps.flatten ∧ All2 (fun (f : Field) p => DT P d f.type p) fs.toList ps
    | _ => False
theorem choose_list {α : Type} {Q : Nat → α → Prop} : ∀ {n : Nat}, (∀ i, i < n → ∃ a, Q i a) → ∃ L : List α, L.length = n ∧ ∀ i a, L[i]? = some a → Q i a
  | 0, _ => ⟨[], rfl, fun i a h => by simp at h⟩
  | n + 1, h => by
    obtain ⟨L, h1, h2⟩ := choose_list (n := n) (fun i hi => h i (by omega))
    obtain ⟨a, ha⟩ := h n (by omega)
    refine ⟨L ++ [a], by simp [h1], fun i b hb => ?_⟩
    rw [List.getElem?_append] at hb
    split at hb
    · exact h2 i b hb
    · rename_i hlt
      have hi : i - L.length = 0 := by
        rcases Nat.eq_zero_or_pos (i - L.length) with h | h
        · exact h
        · rw [List.getElem?_eq_none (by simp; omega)] at hb; cases hb
      rw [hi] at hb
      simp at hb
      obtain rfl : i = n := by omega
      rw [← hb]; exact ha
theorem flatten_at {α : Type} {size : Nat} (h0 : 0 < size) : ∀ {rows : List (List α)} (_ : ∀ r ∈ rows, r.length = size) {j : Nat} {d : α}, rows.flatten[j]? = some d → ∃ r, rows[j / size]? = some r ∧ r[j % size]? = some d
  | [], _, j, d, h => by simp at h
  | a :: rows, hr, j, d, h => by
    have ha := hr a (by simp)
    by_cases hj : j < size
    · rw [List.flatten_cons, List.getElem?_append_left (by omega)] at h
      rw [Nat.div_eq_of_lt hj, Nat.mod_eq_of_lt hj]
      exact ⟨a, rfl, h⟩
    · rw [List.flatten_cons, List.getElem?_append_right (by omega), ha] at h
      obtain ⟨r, h1, h2⟩ := flatten_at h0 (fun r hr' => hr r (by simp [hr'])) h
      refine ⟨r, ?_, ?_⟩
      · rw [show j / size = (j - size) / size + 1 by rw [Nat.div_eq_sub_div h0 (by omega)]]
        simpa using h1
      · rw [Nat.mod_eq_sub_mod (by omega)]; exact h2
/-- All memory of a world. -/
def Sall (w : World) : Nat → Prop := fun b => b < w.heap.size
theorem cell_lt {w : World} {a : Addr} {u : Value} (h : w.cell? a = some u) : a.block < w.heap.size ∧ a.spot = none := by
  unfold World.cell? at h
  split at h
  · rename_i c t f hc
    refine ⟨(Array.getElem?_eq_some_iff.1 hc).1, ?_⟩
    split at h
    · cases h
    · rename_i hs
      cases hsp : a.spot with
      | none => rfl
      | some k => rw [hsp] at hs; simp at hs
  · cases h
theorem cells_get {w : World} {base : Nat} {a : Addr} {n : Nat} {cs : List Value} (h : w.cells? base a n = some cs) : cs.length = n ∧ ∀ i, i < n → w.cell? (a.add i) = cs[i]? := by
  unfold World.cells? at h
  split at h
  · obtain ⟨h1, h2⟩ := mapM_isSome h
    rw [List.length_range] at h1
    refine ⟨h1.symm, fun i hi => ?_⟩
    obtain ⟨b, hb1, hb2⟩ := h2 i i (by simp [hi])
    rw [hb1, hb2]
  · cases h
section
variable {H : Type} {enc : TypeId × Value → H} {P : Program} {w : World} {base : Nat} {sp : Nat → Bool} {held : Bool}
theorem parts_all {R : D → Value → Prop} {T : Field → List D → Prop} : ∀ (fs : List Field) (o : Nat) (cs : List Value) (n : Nat), cs.length = n → tilesF P o fs n = true → o ≤ n →
    (∀ f ∈ fs, ∃ ds, T f ds ∧ All2 R ds ((cs.drop f.offset).take (P.cellsOf f.type))) → ∃ ps : List (List D), All2 T fs ps ∧ All2 R ps.flatten (cs.drop o)
  | [], o, cs, n, hl, ht, _, _ => by
    have : o = n := Nat.eq_of_beq_eq_true ht
    exact ⟨[], .nil, by rw [List.drop_of_length_le (by omega)]; exact .nil⟩
  | f :: fs, o, cs, n, hl, ht, ho, h => by
    simp only [tilesF, Bool.and_eq_true] at ht
    have ho' : f.offset = o := Nat.eq_of_beq_eq_true ht.1
    obtain ⟨ds, h1, h2⟩ := h f (by simp)
    have hle : o + P.cellsOf f.type ≤ n := by
      have key : ∀ (fs : List Field) (o : Nat), tilesF P o fs n = true → o ≤ n := fun fs => by
        induction fs with
        | nil => intro o h; exact Nat.le_of_eq (Nat.eq_of_beq_eq_true h)
        | cons g gs ih =>
          intro o h
          simp only [tilesF, Bool.and_eq_true] at h
          have := ih _ h.2
          omega
      exact key fs _ ht.2
    obtain ⟨ps, h3, h4⟩ := parts_all fs _ cs n hl ht.2 hle (fun g hg => h g (by simp [hg]))
    refine ⟨ds :: ps, .cons h1 h3, ?_⟩
    rw [List.flatten_cons, ho'] at *
    have := h2.append h4
    rwa [← List.drop_drop, List.take_append_drop] at this
theorem trod_dt : ∀ (d fuel : Nat) (t : TypeId) (cs : List Value) (x : DataW H × List MemPlace), okT P d t = true → DataW.trod enc P w base sp held fuel t cs = some x → ∃ ds, DT P d t ds ∧ All2 (Imm (Sall w) w) ds cs
  | 0, _, _, _, _, h, _ => by cases h
  | d + 1, fuel, t, cs, x, hok, h => by
    unfold okT at hok
    unfold DT
    split at hok
    · rename_i hu
      obtain ⟨b, rfl, _⟩ := DataW.trod_bool hu h
      exact ⟨_, ⟨b, rfl⟩, .cons (Imm.v rfl) .nil⟩
    · rename_i k hu
      obtain ⟨n, rfl, _, hw⟩ := DataW.trod_int hu h
      exact ⟨_, ⟨n, rfl, hw⟩, .cons (Imm.v rfl) .nil⟩
    · rename_i hu
      obtain ⟨s, rfl, _, hs⟩ := DataW.trod_string hu h
      exact ⟨_, ⟨s, rfl, hs⟩, .cons (Imm.v rfl) .nil⟩
    · rename_i e hu
      simp only [Bool.and_eq_true] at hok
      have h0 : 0 < P.cellsOf e := Nat.lt_of_succ_le (Nat.le_of_ble_eq_true hok.1)
      rcases DataW.trod_slice hu h with ⟨rfl, _⟩ | ⟨a, len, cap, elems, rest, n, _, rfl, _, _, hlc, hcm, hel, hel2, _⟩
      · exact ⟨_, ⟨[], rfl, by simp, by simp⟩, .cons Imm.nil .nil⟩
      · have hone : ∀ i, i < len → ∃ ds, DT P d e ds ∧ ∃ cs', w.cells? base (a.add (i * P.cellsOf e)) (P.cellsOf e) = some cs' ∧ All2 (Imm (Sall w) w) ds cs' := fun i hi => by
          have h1 := hel2 i hi
          rw [List.getElem?_eq_getElem (by omega)] at h1
          obtain ⟨cs', h2, h3⟩ := Option.bind_eq_some_iff.1 h1
          obtain ⟨ds, h4, h5⟩ := trod_dt d n e cs' _ hok.2 h3
          exact ⟨ds, h4, cs', h2, h5⟩
        obtain ⟨rows, hr1, hr2⟩ := choose_list hone
        have hrm : ∀ r ∈ rows, ∃ i, i < len ∧ rows[i]? = some r := fun r hr => by
          obtain ⟨i, hi⟩ := List.getElem?_of_mem hr
          exact ⟨i, by have := (List.getElem?_eq_some_iff.1 hi).1; omega, hi⟩
        have hdt : ∀ r ∈ rows, DT P d e r := fun r hr => by
          obtain ⟨i, _, hi⟩ := hrm r hr
          exact (hr2 i r hi).1
        have hrl : ∀ r ∈ rows, r.length = P.cellsOf e := fun r hr => by
          obtain ⟨i, _, hi⟩ := hrm r hr
          obtain ⟨_, cs', h2, h3⟩ := hr2 i r hi
          rw [h3.len, (cells_get h2).1]
        refine ⟨_, ⟨rows, rfl, by omega, hdt⟩, .cons ?_ .nil⟩
        by_cases hz : len = 0
        · subst hz
          obtain rfl := List.eq_nil_of_length_eq_zero hr1
          exact Imm.sl0
        · obtain ⟨r0, _, cs0, h2, _⟩ := hone 0 (by omega)
          have h3 := (cells_get h2).2 0 h0
          rw [Nat.zero_mul] at h3
          have e0 : (a.add 0).add 0 = a := rfl
          rw [e0, List.getElem?_eq_getElem (by rw [(cells_get h2).1]; exact h0)] at h3
          obtain ⟨hb, hs⟩ := cell_lt h3
          obtain ⟨g, f, spot⟩ := a
          simp only at hs hb
          subst hs
          rw [← hr1]
          have hat : ∀ j dd, rows.flatten[j]? = some dd → ∃ u, w.cell? ⟨g, f + j, none⟩ = some u ∧ Imm (Sall w) w dd u := fun j dd hj => by
            obtain ⟨r, e1, e2⟩ := flatten_at h0 hrl hj
            obtain ⟨_, cs', e3, e4⟩ := hr2 _ r e1
            obtain ⟨u, e5, e6⟩ := e4.at_left e2
            refine ⟨u, ?_, e6⟩
            have e7 := (cells_get e3).2 (j % P.cellsOf e) (Nat.mod_lt _ h0)
            rw [Addr.add_lit, Addr.add_lit, e5] at e7
            rw [← e7]
            congr 2
            rw [Nat.add_assoc, Nat.mul_comm, Nat.div_add_mod]
          refine Imm.sl (fun j => (w.cell? ⟨g, f + j, none⟩).getD undef) hb (by omega) hrl (fun j dd hj => ?_) (fun j dd hj => ?_)
          · obtain ⟨u, e1, _⟩ := hat j dd hj
            rw [e1]; rfl
          · obtain ⟨u, e1, e2⟩ := hat j dd hj
            rw [e1]; exact e2
    · rename_i n e hu
      simp only [Bool.and_eq_true] at hok
      have hn : n * P.cellsOf e = P.cellsOf t := Nat.eq_of_beq_eq_true hok.1
      obtain ⟨xs, m, _, _, hl, hx, hall⟩ := DataW.trod_array hu h
      have hone : ∀ i, i < n → ∃ ds, DT P d e ds ∧ All2 (Imm (Sall w) w) ds ((cs.drop (i * P.cellsOf e)).take (P.cellsOf e)) := fun i hi => by
        have h1 := hall i hi
        rw [List.getElem?_eq_getElem (by omega)] at h1
        exact trod_dt d m e _ _ hok.2 h1
      obtain ⟨ps, hp1, hp2⟩ := choose_list hone
      refine ⟨ps.flatten, ⟨ps, hp1, rfl, fun p hp => ?_⟩, ?_⟩
      · obtain ⟨i, hi⟩ := List.getElem?_of_mem hp
        exact (hp2 i p hi).1
      · have key : ∀ (ps : List (List D)) (o : Nat), (∀ i p, ps[i]? = some p → All2 (Imm (Sall w) w) p ((cs.drop ((o + i) * P.cellsOf e)).take (P.cellsOf e))) → (o + ps.length) * P.cellsOf e = cs.length → All2 (Imm (Sall w) w) ps.flatten (cs.drop (o * P.cellsOf e)) := fun ps => by
          induction ps with
          | nil => intro o _ hlen; rw [List.drop_of_length_le (by simp at hlen; omega)]; exact .nil
          | cons p ps ih =>
            intro o hp hlen
            have h1 := hp 0 p rfl
            have h2 := ih (o + 1) (fun i q hq => by have := hp (i + 1) q (by simpa using hq); rwa [show o + 1 + i = o + (i + 1) by omega]) (by rw [← hlen, List.length_cons]; congr 1; omega)
            rw [List.flatten_cons]
            have := h1.append h2
            rwa [Nat.add_zero, Nat.add_mul, Nat.one_mul, ← List.drop_drop, List.take_append_drop] at this
        have := key ps 0 (fun i p hi => by rw [Nat.zero_add]; exact (hp2 i p hi).2) (by rw [Nat.zero_add, hp1, hn, hl])
        simpa using this
    · rename_i fs hu
      simp only [Bool.and_eq_true] at hok
      obtain ⟨xs, m, _, _, hl, hx, hall⟩ := DataW.trod_struct hu h
      obtain ⟨ps, h1, h2⟩ := parts_all (R := Imm (Sall w) w) (T := fun f p => DT P d f.type p) fs.toList 0 cs _ hl hok.1 (Nat.zero_le _) (fun f hf => by
        obtain ⟨i, hi⟩ := List.getElem?_of_mem hf
        have hlt := (List.getElem?_eq_some_iff.1 hi).1
        have h1 := hall i f (by simpa using hi)
        rw [List.getElem?_eq_getElem (by simp at hlt; omega)] at h1
        exact trod_dt d m f.type _ _ (List.all_eq_true.1 hok.2 f hf) h1)
      exact ⟨ps.flatten, ⟨ps, rfl, h1⟩, by simpa using h2⟩
    · cases hok
/-- An argument that came in reads as data of its type. -/
theorem open_dt {d : Nat} {r : Reach} {b0 : Nat} {t : TypeId} {v : Value} {dd : DataW H} {ps : List MemPlace} (hok : okT P d t = true) (hag : (P.underlying t).map aggD = some false) (hval : Value.okWide P w r b0 t v) (hd : DataW.Trod enc P w base sp held t v dd ps) :
    ∃ x, DT P d t [x] ∧ Imm (Sall w) w x v := by
  obtain ⟨fuel, hf⟩ := hd
  obtain ⟨ds, h1, h2⟩ := trod_dt d fuel t _ _ hok hf
  have hone : v.oneCell' = true := by
    cases d with
    | zero => cases hok
    | succ d =>
      unfold okT at hok
      split at hok
      · rename_i hu; obtain ⟨b, rfl⟩ := okWide_bool hu hval; rfl
      · rename_i hu; obtain ⟨n, rfl⟩ := okWide_int hu hval; rfl
      · rename_i hu; obtain ⟨s, rfl⟩ := okWide_string hu hval; rfl
      · rename_i hu; obtain ⟨a, l, c, rfl⟩ := okWide_slice hu hval; rfl
      · rename_i hu; rw [hu] at hag; cases hag
      · rename_i hu; rw [hu] at hag; cases hag
      · cases hok
  rw [oneCell_cells hone] at h2
  have hl := h2.len
  match ds, h2, hl with
  | [x], h2, _ => exact ⟨x, h1, h2.head⟩
end
end Go.Proofs.YtkbhmcdoedmffaaGreatDoor

namespace Go.Proofs.YtkbhmcdoedmffaaGreatDoor
set_option linter.unusedVariables false
set_option linter.unusedSimpArgs false
open Go.ChangeShapes Go.WideShapes Go.ChangeAt Go.RowKit Go.ChangeMaps
set_option maxRecDepth 100000

set_option maxRecDepth 100000

theorem iface_open {P : Program} {w : World} {base fuel : Nat} {sp : Nat → Bool} {held : Bool} {enc : TypeId × Value → Unit} {t : TypeId} {l : List Value} {x : DataW Unit × List MemPlace} {ms : Array (String × TypeId)} (hi : P.underlying t = some (.interface ms))
    (hd : DataW.trod enc P w base sp held fuel t l = some x) : l = [.nilIface] ∨ ∃ u v, l = [.iface u v] := by
  cases fuel with
  | zero => cases hd
  | succ f =>
    simp only [DataW.trod, hi] at hd
    split at hd <;> first | exact .inl rfl | exact .inr ⟨_, _, rfl⟩ | (cases hd; done) | (rename_i h1; cases h1; done) | (rename_i h1 h2; cases h1; done) | (rename_i h1 h2 h3; cases h1; done)
theorem errAt_of {W : World} {n : String} {g : Nat} {cs : Array Value} (hg : Tryz.prog.globalNamed n = some g) (hv : W.var? Tryz.prog n = some cs) (h : cs.toList = [.nilIface] ∨ ∃ u v, cs.toList = [.iface u v]) : ErrAt W g ∧ g < W.heap.size := by
  have hc : ∀ ev, cs.toList = [ev] → W.cell? ⟨g, 0, none⟩ = some ev := fun ev he => by
    rw [World.var?_cell hg hv 0]
    have : cs = #[ev] := by cases cs; simpa using he
    rw [this]; rfl
  refine ⟨?_, ?_⟩
  · rcases h with h | ⟨u, v, h⟩
    · exact ⟨_, hc _ h, .inl rfl⟩
    · exact ⟨_, hc _ h, .inr ⟨u, v, rfl⟩⟩
  · unfold World.var? at hv
    rw [hg] at hv
    simp only [Option.bind_some] at hv
    by_cases hl : g < W.heap.size
    · exact hl
    · rw [Array.getElem?_eq_none (by omega)] at hv; cases hv
/-- An array of strings that reads as the table holds the table's strings, cell for cell. -/
theorem cells_of_strs {H : Type} {enc : TypeId × Value → H} {P : Program} {w : World} {base : Nat} {sp : Nat → Bool} {held : Bool} {fuel : Nat} {t e : TypeId} {n : Nat} {cs : List Value} {zs : List (List UInt8)} {p : List MemPlace}
    (ht : P.underlying t = some (.array n e)) (he : P.underlying e = some .string) (hce : P.cellsOf e = 1) (hct : P.cellsOf t = n)
    (h : DataW.trod enc P w base sp held fuel t cs = some (.agg (zs.map fun z => .lit (.string z)), p)) : cs = zs.map fun z => Value.string (bs z) := by
  cases fuel with
  | zero => simp [DataW.trod] at h
  | succ fuel =>
    simp only [DataW.trod, ht, hce, hct, Nat.mul_one] at h
    split at h
    · rename_i hl
      obtain ⟨xs, hm, hx⟩ := Option.map_eq_some_iff.1 h
      have hxs : xs.map (·.1) = zs.map fun z => (DataW.lit (.string z) : DataW H) := by
        have := congrArg Prod.fst hx
        simpa using this
      have hxl : xs.length = n := by simpa using Lib.mapM_length hm
      have hzl : zs.length = n := by
        have := congrArg List.length hxs
        simp at this
        omega
      apply List.ext_getElem?
      intro i
      by_cases hi : i < n
      · obtain ⟨b, hb, hf⟩ := Lib.mapM_at hm i i (by simp [hi])
        obtain ⟨z, hc, rfl, _⟩ := DataW.trod_string he hf
        have h1 : cs[i]? = some (.string z) := by
          have := congrArg (·[0]?) hc
          simpa [List.getElem?_take, List.getElem?_drop] using this
        have h2 : (xs.map (·.1))[i]? = some (DataW.lit (.string z.data.toList) : DataW H) := by simp [hb]
        rw [hxs] at h2
        simp only [List.getElem?_map, Option.map_eq_some_iff, DataW.lit.injEq, Lit.string.injEq] at h2
        obtain ⟨z', hz', rfl⟩ := h2
        simp [h1, hz']
      · rw [List.getElem?_eq_none (by omega), List.getElem?_eq_none (by simp; omega)]
    · cases h
theorem glob_order {W : World} (h : laidMetH Tryz.prog Rows.parseOrderRow.laid W) (hs : W.ShapedOpen Tryz.prog) : ΓL.G (Sall W) W := by
  obtain ⟨m, hm⟩ := Tryz.laysM145.s1_3 W hs
  rw [MakeChecks.laidMetH_plain _ _ _ (by kernel_rfl)] at h
  obtain ⟨ps, h, -⟩ := h
  obtain ⟨g1, t1, c1, f1, p1, q1, -, -, -, -, h, -⟩ := h
  obtain ⟨g2, t2, c2, f2, p2, q2, -, -, -, -, h, -⟩ := h
  obtain ⟨g3, t3, c3, f3, p3, q3, -, -, -, -, h, -⟩ := h
  obtain ⟨g0, t0, c0, f0, p0, q0, -, -, -, -, h, -⟩ := h
  obtain ⟨g4, t4, c4, f4, p4, q4, hg4, ht4, hv4, hd4, h, -⟩ := h
  obtain ⟨g5, t5, c5, f5, p5, q5, hg5, ht5, hv5, hd5, h, -⟩ := h
  obtain ⟨g6, t6, c6, f6, p6, q6, hg6, ht6, hv6, hd6, h, -⟩ := h
  obtain rfl := Option.some.inj ((show Tryz.prog.globalNamed "strconv.ErrRange" = some 3 by kernel_rfl).symm.trans hg4)
  obtain rfl := Option.some.inj ((show Tryz.prog.globalNamed "strconv.ErrSyntax" = some 2 by kernel_rfl).symm.trans hg5)
  obtain rfl := Option.some.inj ((show Tryz.prog.globalNamed "calliper/lex.signs" = some 0 by kernel_rfl).symm.trans hg6)
  obtain rfl := Option.some.inj ((show (Tryz.prog.globals[3]?).map (·.type) = some 142 by kernel_rfl).symm.trans ht4)
  obtain rfl := Option.some.inj ((show (Tryz.prog.globals[2]?).map (·.type) = some 142 by kernel_rfl).symm.trans ht5)
  obtain rfl := Option.some.inj ((show (Tryz.prog.globals[0]?).map (·.type) = some 164 by kernel_rfl).symm.trans ht6)
  have e4 := errAt_of hg4 hv4 (iface_open Tryz.underlying142 hd4)
  have e5 := errAt_of hg5 hv5 (iface_open Tryz.underlying142 hd5)
  have hc := cells_of_strs (zs := signsL) (n := 29) (t := 164) (e := 9) (by kernel_rfl) (by kernel_rfl) (by kernel_rfl) (by kernel_rfl) hd6
  refine ⟨e5, e4, ⟨m, hm, (cell_lt hm).1⟩, fun j l hj => ?_, ?_⟩
  · rw [World.var?_cell hg6 hv6 j]
    have : c6 = ⟨signsL.map fun z => Value.string (bs z)⟩ := by cases c6; simpa using hc
    rw [this]
    rw [show (⟨signsL.map fun z => Value.string (bs z)⟩ : Array Value) = (signsL.map fun z => Value.string (bs z)).toArray from rfl, List.getElem?_toArray, List.getElem?_map, hj]
    rfl
  · have hv := hv6
    unfold World.var? at hv
    rw [hg6] at hv
    simp only [Option.bind_some] at hv
    show 0 < W.heap.size
    by_cases hl : 0 < W.heap.size
    · exact hl
    · rw [Array.getElem?_eq_none (by omega)] at hv; cases hv
theorem bs_list (s : ByteArray) : bs s.data.toList = s := by simp [bs]
end Go.Proofs.YtkbhmcdoedmffaaGreatDoor

namespace Go.Proofs.YtkbhmcdoedmffaaGreatDoor
set_option linter.unusedVariables false
set_option linter.unusedSimpArgs false
open Go.ChangeShapes Go.WideShapes Go.ChangeAt Go.RowKit Go.ChangeMaps
set_option maxRecDepth 100000

theorem parseOrder_a (s : ByteArray) (hs : s.size ≤ 140737488351232) : CallsA Tryz.prog ΓL 5 [c1 (ds s)] (.o (c1 (db true))) := by
  have := parseOrder_c s.data.toList
  rw [bs_list] at this
  exact this
namespace parseOrder
set_option maxRecDepth 100000 in
theorem lifted (os : Os) (started : os.Started) (H : Type) (enc : TypeId × Value → H) :
    ReturnsInHanded {} Tryz.checked os 5 .any (fun w args => (Rows.parseOrderSpec.pre enc Tryz.prog Tryz.f5 Rows.parseOrderRow.domain false w args ∧ laidMetH Tryz.prog Rows.parseOrderRow.laid w) ∧ sizedMet enc Tryz.prog Tryz.f5 (OpenSpec.ofChange Rows.parseOrderSpec) false w args) (Rows.parseOrderSpec.post enc Tryz.prog Tryz.f5 false true false false) := by
  show ReturnsInHanded {} Tryz.checked os 5 .any ((OpenSpec.ofChange Rows.parseOrderSpec).preRow enc Tryz.prog Tryz.f5 Rows.parseOrderRow.domain false Rows.parseOrderRow.laid) (((OpenSpec.ofChange Rows.parseOrderSpec).at fun _ _ _ => 0).post enc Tryz.prog Tryz.f5 false true false false)
  refine returnsInHanded_of_row (C := Tryz.checked) own started (by kernel_rfl) Tryz.func5
    (ChangeSpec.witness_shaped (enc := enc) (C := Tryz.checked) (os := os) (X := fun w _ => laidMetH Tryz.prog Rows.parseOrderRow.laid w) false (World.laidAll Tryz.prog os Rows.parseOrderRow.laid) #[.string ByteArray.empty] 8 (World.laidAll_os _ _ _) (World.shaped_of_ZipB (by kernel_rfl) (by kernel_rfl)) (by kernel_rfl) (by kernel_rfl) (by kernel_rfl)
      (by rw [MakeChecks.laidMetH_plain _ _ _ (by kernel_rfl)]; exact laidMet_laidAll _ (by kernel_rfl) (by kernel_rfl))) ?_
  intro W base args ds gs before hval0 hW _ _ hsz0 hLaid hShaped _
  have hsz : (DataW.weightsEach Tryz.prog (Tryz.f5.params.toList ++ Rows.parseOrderSpec.plain.varTypes Tryz.prog) (ds ++ gs)).all (· ≤ reachBytes) = true := hsz0
  have hval : ∀ (j : Nat) t v, Tryz.f5.params[j]? = some t → args[j]? = some v → Value.okWide Tryz.prog W .any base t v := hval0
  clear hsz0 hval0
  have hW' := hW
  obtain ⟨p, q, hA0, hV, rfl, hfz, hnd⟩ := hW
  have hA : DataW.TrodAll enc Tryz.prog W 0 (fun _ => true) true Tryz.f5.params.toList args.toList ds p := hA0
  clear hA0
  rw [Tryz.params5] at hA hval hsz
  obtain ⟨v0, vs0, d0, ds0, p0, q0, hargs, rfl, rfl, h0, r0⟩ := trodAll_cons hA
  obtain ⟨rfl, rfl, rfl⟩ := trodAll_nil r0
  obtain rfl : args = #[v0] := by cases args; simp_all
  obtain ⟨rfl, rfl⟩ := trodVars_none hV
  obtain ⟨s, rfl, rfl, rfl, hm0⟩ := open_string Tryz.underlying9 (hval 0 9 v0 rfl rfl) h0
  have w_s : s.size ≤ 140737488351232 := by simpa [reachBytes] using sized_string hsz (j := 0) rfl rfl
  refine ((parseOrder_a s w_s).2 (Sall W) W [.string s] (fun _ h => h) (glob_order hLaid hShaped) (.cons (Imm.v rfl) .nil)).mono fun e W' ⟨xr, _, he, hb, _, _, _, hv⟩ => ?_
  obtain rfl := V_v hv
  subst he
  exact ⟨_, rfl, law_post (ds := [_]) laidOut hW' rfl (by kernel_rfl) rfl Tryz.underlying4 rfl rfl rfl hb⟩

theorem proved : Rows.ParseOrderSaid :=
  OpenClaim.holds_of_wide 5 Tryz.f5 rfl rfl rfl rfl rfl rfl rfl ⟨rfl, rfl, rfl, rfl, rfl⟩ rfl rfl rfl rfl rfl (by kernel_rfl) Tryz.func5 (by kernel_rfl)
    (of_decide_eq_true (by kernel_rfl)) (by unfold Func.isWrapper; first | (rw [if_pos (by decide +kernel)]; kernel_rfl) | (rw [if_neg (by decide +kernel)]; exact ⟨rfl, rfl⟩))
    (fun os started H enc _ => lifted os started H enc)
theorem card : Rows.ParseOrderCardSaid :=
  Claim7.holds_tied_plain_at .later [] [.data, .data, .data, .data, .sentinel, .sentinel, .data, .pinned] true (true, "ec5bc6e8b0fb9468024158bd189343d78467342a5495d1a3cd709f154151ef2f") true proved (fun _ h => by cases h) (by kernel_rfl) (fun _ h => by cases h) parseOrder_row_tie rfl ⟨rfl, rfl⟩ (by kernel_rfl) rfl
    (fun f fn hf hfn => by
      obtain rfl : f = 5 := Option.some.inj ((show Tryz.prog.funcNamed "calliper/calliperlaw07.ParseOrder" = some 5 by kernel_rfl).symm.trans hf) |>.symm
      obtain rfl : fn = Tryz.f5 := (Option.some.inj (Tryz.func5.symm.trans hfn)).symm
      exact ⟨by kernel_rfl, fun j t ht => by
        rw [Tryz.params5] at ht
        have hm : t ∈ [9] := by simpa using Array.mem_of_getElem? ht
        have hall : ([9].all fun u => !Tryz.prog.wantsStandIn u) = true := by kernel_rfl
        exact (show Tryz.prog.wantsStandIn t = false by simpa using List.all_eq_true.1 hall t hm)⟩)
    (by kernel_rfl)
end parseOrder
end Go.Proofs.YtkbhmcdoedmffaaGreatDoor
