/- ParseJoins: two descriptions, one behind the other, have the consts and structs of both, and as many expressions and types, if there aren't too many. Condition: the listed package variables hold what the program's text lays. -/
import Derived.WalkKit
import Derived.Laws.StructEq
import Derived.ChangeKeysEq
import Derived.Lib.LaidTab
import Derived.Test.YtkbhmcdoedmffaaDoorRows
import Derived.Lay
import Derived.MakeChecks
import Derived.Test.YtkbhmcdoedmffaaDoorCards
import Derived.Test.YtkbhmcdoedmffaaDoorTie
import Derived.SevenTiedAt
import Derived.Deep.DeepHandedRow
import Derived.Test.YtkbhmcdoedmffaaDoorZ1
import Derived.Test.YtkbhmcdoedmffaaDoorZ2
import Derived.Test.YtkbhmcdoedmffaaDoorZ3
import Derived.Test.YtkbhmcdoedmffaaDoorZ4
import Derived.Test.YtkbhmcdoedmffaaDoorZ5
namespace Go.Proofs.YtkbhmcdoedmffaaDoor
set_option linter.unusedVariables false
set_option linter.unusedSimpArgs false
open Go.RowKit
set_option maxRecDepth 100000

section
variable {L : List TokP} {m : Nat}
/-- What only moves the place. -/
def Mv {α : Type} (x : PM α) : Prop := ∀ s v s', x s = .ok v s' → s.xs = s'.xs ∧ s.ts = s'.ts
theorem Mv.and {α β : Type} {x : PM α} {f : α → PM β} (hx : Mv x) (hf : ∀ v, Mv (f v)) : Mv (x >>= f) := fun s v s' h => by
  obtain ⟨u, s1, h1, h2⟩ := mo_inv h
  exact ⟨(hx _ _ _ h1).1.trans (hf u _ _ _ h2).1, (hx _ _ _ h1).2.trans (hf u _ _ _ h2).2⟩
theorem Mv.at {α : Type} {p : Nat → Bool} {x y : PM α} (hx : Mv x) (hy : Mv y) : Mv (atM p x y) := fun s v s' h => by
  unfold atM at h
  split at h
  · exact hx _ _ _ h
  · exact hy _ _ _ h
theorem Mv.pure {α : Type} (v : α) : Mv (pure v) := fun s u s' h => by cases h; exact ⟨rfl, rfl⟩
theorem Mv.step : Mv stepM := fun s u s' h => by cases h; exact ⟨rfl, rfl⟩
theorem Mv.take (t : List UInt8) : Mv (takeM L t) := fun s v s' h => by unfold takeM at h; split at h <;> cases h; exact ⟨rfl, rfl⟩
theorem Mv.name : Mv (nameM L) := fun s v s' h => by unfold nameM at h; split at h <;> cases h; exact ⟨rfl, rfl⟩
theorem Mv.num : Mv (numberM L) := fun s v s' h => by unfold numberM at h; split at h <;> cases h; exact ⟨rfl, rfl⟩
theorem Mv.roomIf (p : Nat → Bool) (n : Nat) : Mv (fun s => if p s.i = true then roomM n s else .ok () s) := fun s u s' h => by
  dsimp only at h
  split at h
  · unfold roomM at h; split at h <;> cases h; exact ⟨rfl, rfl⟩
  · cases h; exact ⟨rfl, rfl⟩
theorem mvs_subs : ∀ n l, Mv (subsN L n l)
  | 0, l => Mv.pure _
  | n + 1, l => by
    rw [subsN]
    exact (Mv.roomIf (namedV L ·) _).and fun _ => Mv.name.and fun w => (Mv.take _).and fun _ => Mv.num.and fun b => (Mv.take _).and fun _ => Mv.at (mvs_subs n _) (Mv.pure _)
theorem mvs_pack : Mv (packM L) := (Mv.take _).and fun _ => fun s v s' h => by
  split at h
  · cases h
  · exact (Mv.step.and fun _ => (Mv.take _).and fun _ => (show Mv (fun s => subsN L (L.length - s.i + 1) [] s) from fun s v s' hx => mvs_subs _ _ s v s' hx).and fun l => (Mv.take _).and fun _ => Mv.pure _) _ _ _ h
theorem mv_pack {i i1 : Nat} {xs xs1 : List EX} {ts ts1 : List TY} {v : IT} (h : packM L ⟨i, xs, ts⟩ = .ok v ⟨i1, xs1, ts1⟩) : xs = xs1 ∧ ts = ts1 := mvs_pack _ _ _ h
theorem mvs_const : Mv (constM L) := (Mv.take _).and fun _ => Mv.name.and fun w => (Mv.take _).and fun _ => Mv.num.and fun n => (Mv.take _).and fun _ => Mv.pure _
theorem mv_const {i i1 : Nat} {xs xs1 : List EX} {ts ts1 : List TY} {v : CO} (h : constM L ⟨i, xs, ts⟩ = .ok v ⟨i1, xs1, ts1⟩) : xs = xs1 ∧ ts = ts1 := mvs_const _ _ _ h
set_option maxHeartbeats 16000000 in
theorem record_c (hL : TokOk L) (hn : L.length ≤ 100000) (hm : m = 32) (s : PS) {c : Nat} (hs : SOk L c s) : C2 L m 18 [] (recordM L) (fun v => .o (gD (rcD v))) s := by
  refine C2.of fun T hT => ?_
  unfold recordM at hT
  obtain ⟨i, xs, ts⟩ := s
  refine fn_ruleP (C := ⟨Tryd.prog, layF, Tryd.f18.ntmps, ΓL, 6, [], [10]⟩) layF_ok mixed Tryd.func18 rfl (by kernel_rfl) rfl rfl rfl SLe.rfl ?_
  repeat' (first | refine ex_true (by first | decide | omega | assumption | (with_reducible exact rfl)) ?_ | refine ex_false (by first | decide | omega | assumption | exact (fun h => h rfl)) ?_ | refine ex_dec (fun _ => ?_) (fun _ => ?_) | refine ex_u8 _ rfl (by omega) (by omega) ?_ | refine ex_i64 _ rfl (by omega) (by omega) ?_ | refine ex_u64 _ rfl (by omega) (by omega) ?_ | refine and_mk (by first | omega | (with_reducible rfl) | (show drawOk _ _ _ = true; kernel_rfl)) ?_ | refine and_mk ⟨_, rfl⟩ ?_ | refine ex_is _ (List.length_map _) ?_ | refine ex_is _ List.length_nil ?_ | fail "no step")
  have hcon := take_c (m := m) ⟨i, xs, ts⟩ hs.i (by omega) w_struct
  rcases hx47 : (takeM L w_struct) ⟨i, xs, ts⟩ with ⟨_, s9⟩ | ⟨i9, e9⟩
  rotate_left
  · obtain rfl := (and_err hx47).symm.trans hT
    first | refine ex_callM (CallsM.ren (hcon.err hx47) [0, 1] 7 rfl rfl rfl rfl) ?_ | refine ex_callM (CallsM.more0 (CallsM.ren (hcon.err hx47) [0, 1] 7 rfl rfl rfl rfl)) ?_ | refine ex_callM (CallsM.more1 (CallsM.ren (hcon.err hx47) [0, 1] 7 rfl rfl rfl rfl)) ?_ | refine ex_callM (CallsM.moreL (CallsM.ren (hcon.err hx47) [0, 1] 7 rfl rfl rfl rfl)) ?_
    first | exact ⟨⟨_, rfl, rfl⟩, rfl, rfl⟩ | exact ⟨by kernel_rfl, ⟨_, rfl, rfl⟩, rfl, rfl⟩
  replace hT := (and_ok hx47).symm.trans hT
  first | refine ex_callM (CallsM.ren (hcon.ok hx47) [0, 1] 7 rfl rfl rfl rfl) ?_ | refine ex_callM (CallsM.more0 (CallsM.ren (hcon.ok hx47) [0, 1] 7 rfl rfl rfl rfl)) ?_ | refine ex_callM (CallsM.more1 (CallsM.ren (hcon.ok hx47) [0, 1] 7 rfl rfl rfl rfl)) ?_ | refine ex_callM (CallsM.moreL (CallsM.ren (hcon.ok hx47) [0, 1] 7 rfl rfl rfl rfl)) ?_
  clear hcon
  have hs1 := (Up.ok (Up.take hL w_struct 0) hs hx47).1
  obtain rfl := mv_take1 hx47
  repeat' (first | refine ex_true (by first | decide | omega | assumption | (with_reducible exact rfl)) ?_ | refine ex_false (by first | decide | omega | assumption | exact (fun h => h rfl)) ?_ | refine ex_dec (fun _ => ?_) (fun _ => ?_) | refine ex_u8 _ rfl (by omega) (by omega) ?_ | refine ex_i64 _ rfl (by omega) (by omega) ?_ | refine ex_u64 _ rfl (by omega) (by omega) ?_ | refine and_mk (by first | omega | (with_reducible rfl) | (show drawOk _ _ _ = true; kernel_rfl)) ?_ | refine and_mk ⟨_, rfl⟩ ?_ | refine ex_is _ (List.length_map _) ?_ | refine ex_is _ List.length_nil ?_ | fail "no step")
  have hcon := name_c (m := m) ⟨i + 1, xs, ts⟩ hs1.i (by omega)
  rcases hx49 : (nameM L) ⟨i + 1, xs, ts⟩ with ⟨w, s9⟩ | ⟨i9, e9⟩
  rotate_left
  · obtain rfl := (and_err hx49).symm.trans hT
    first | refine ex_callM (CallsM.ren (hcon.err hx49) [0, 1] 7 rfl rfl rfl rfl) ?_ | refine ex_callM (CallsM.more0 (CallsM.ren (hcon.err hx49) [0, 1] 7 rfl rfl rfl rfl)) ?_ | refine ex_callM (CallsM.more1 (CallsM.ren (hcon.err hx49) [0, 1] 7 rfl rfl rfl rfl)) ?_ | refine ex_callM (CallsM.moreL (CallsM.ren (hcon.err hx49) [0, 1] 7 rfl rfl rfl rfl)) ?_
    first | exact ⟨⟨_, rfl, rfl⟩, rfl, rfl⟩ | exact ⟨by kernel_rfl, ⟨_, rfl, rfl⟩, rfl, rfl⟩
  replace hT := (and_ok hx49).symm.trans hT
  first | refine ex_callM (CallsM.ren (hcon.ok hx49) [0, 1] 7 rfl rfl rfl rfl) ?_ | refine ex_callM (CallsM.more0 (CallsM.ren (hcon.ok hx49) [0, 1] 7 rfl rfl rfl rfl)) ?_ | refine ex_callM (CallsM.more1 (CallsM.ren (hcon.ok hx49) [0, 1] 7 rfl rfl rfl rfl)) ?_ | refine ex_callM (CallsM.moreL (CallsM.ren (hcon.ok hx49) [0, 1] 7 rfl rfl rfl rfl)) ?_
  clear hcon
  have hs2 := (Up.ok (Up.name hL 0) hs1 hx49).1
  obtain rfl := mv_name1 hx49
  repeat' (first | refine ex_true (by first | decide | omega | assumption | (with_reducible exact rfl)) ?_ | refine ex_false (by first | decide | omega | assumption | exact (fun h => h rfl)) ?_ | refine ex_dec (fun _ => ?_) (fun _ => ?_) | refine ex_u8 _ rfl (by omega) (by omega) ?_ | refine ex_i64 _ rfl (by omega) (by omega) ?_ | refine ex_u64 _ rfl (by omega) (by omega) ?_ | refine and_mk (by first | omega | (with_reducible rfl) | (show drawOk _ _ _ = true; kernel_rfl)) ?_ | refine and_mk ⟨_, rfl⟩ ?_ | refine ex_is _ (List.length_map _) ?_ | refine ex_is _ List.length_nil ?_ | fail "no step")
  refine ex_join (X := Nat × List (List UInt8)) (fun ⟨i, ps⟩ => ⟨[(0, .o P0), (2, .o (.c (.ptr 6 0))), (3, .o (.c (.ptr 7 0)))], [(0, Qz L m i), (1, Fz 2 3 4 5), (4, Xz xs), (5, Tz ts), (6, .obj [.d (ds ⟨#[]⟩), .d dnil, .d dnil]), (7, .obj [.d (ds (bs w)), .row 9, .d dnil]), (9, .row 1 9 (ps.map fun p => [ds (bs p)]))], 10⟩)
    (fun ⟨i, ps⟩ => SOk L c ⟨i, xs, ts⟩ ∧ (takeM L t_lcur >>= fun _ => (fun s => itemsN L (L.length - s.i + 1) [] s) >>= fun is => takeM L t_rcur >>= fun _ => pure (⟨w, ps, is⟩ : RC)) ⟨i, xs, ts⟩ = T) ?_ ?_
  · rcases hv : isV L (i + 1 + 1) t_lpar with _ | _
    · replace hT := pureT (atnB hT hv)
      first | refine ex_callM (CallsM.ren ((may_no (i + 1 + 1) hs2.lt _ hv)) [0, 1] 8 rfl rfl rfl rfl) ?_ | refine ex_callM (CallsM.more0 (CallsM.ren ((may_no (i + 1 + 1) hs2.lt _ hv)) [0, 1] 8 rfl rfl rfl rfl)) ?_ | refine ex_callM (CallsM.more1 (CallsM.ren ((may_no (i + 1 + 1) hs2.lt _ hv)) [0, 1] 8 rfl rfl rfl rfl)) ?_ | refine ex_callM (CallsM.moreL (CallsM.ren ((may_no (i + 1 + 1) hs2.lt _ hv)) [0, 1] 8 rfl rfl rfl rfl)) ?_
      repeat' (first | refine ex_true (by first | decide | omega | assumption | (with_reducible exact rfl)) ?_ | refine ex_false (by first | decide | omega | assumption | exact (fun h => h rfl)) ?_ | refine ex_dec (fun _ => ?_) (fun _ => ?_) | refine ex_u8 _ rfl (by omega) (by omega) ?_ | refine ex_i64 _ rfl (by omega) (by omega) ?_ | refine ex_u64 _ rfl (by omega) (by omega) ?_ | refine and_mk (by first | omega | (with_reducible rfl) | (show drawOk _ _ _ = true; kernel_rfl)) ?_ | refine and_mk ⟨_, rfl⟩ ?_ | refine ex_is _ (List.length_map _) ?_ | refine ex_is _ List.length_nil ?_ | fail "no step")
      exact ex_meet (i + 1 + 1, []) ⟨hs2.less (by omega), hT⟩ (SLe.trans (SLe.of ⟨⟨rfl, rfl, rfl, trivial⟩, ⟨rfl, rfl, rfl, rfl, rfl, rfl, rfl, trivial⟩⟩) (SLe.ownCell 7 1 9 1 9 rfl rfl rfl rfl rfl rfl))
    · replace hT := asc (stp1 (asc (atyB hT hv)))
      have hs3 := stpS hL hs2 (isV_k hv)
      have hi3 := hs3.lt
      first | refine ex_callM (CallsM.ren ((may_yes (i + 1 + 1) hs2.lt (by omega) _ hv)) [0, 1] 8 rfl rfl rfl rfl) ?_ | refine ex_callM (CallsM.more0 (CallsM.ren ((may_yes (i + 1 + 1) hs2.lt (by omega) _ hv)) [0, 1] 8 rfl rfl rfl rfl)) ?_ | refine ex_callM (CallsM.more1 (CallsM.ren ((may_yes (i + 1 + 1) hs2.lt (by omega) _ hv)) [0, 1] 8 rfl rfl rfl rfl)) ?_ | refine ex_callM (CallsM.moreL (CallsM.ren ((may_yes (i + 1 + 1) hs2.lt (by omega) _ hv)) [0, 1] 8 rfl rfl rfl rfl)) ?_
      repeat' (first | refine ex_true (by first | decide | omega | assumption | (with_reducible exact rfl)) ?_ | refine ex_false (by first | decide | omega | assumption | exact (fun h => h rfl)) ?_ | refine ex_dec (fun _ => ?_) (fun _ => ?_) | refine ex_u8 _ rfl (by omega) (by omega) ?_ | refine ex_i64 _ rfl (by omega) (by omega) ?_ | refine ex_u64 _ rfl (by omega) (by omega) ?_ | refine and_mk (by first | omega | (with_reducible rfl) | (show drawOk _ _ _ = true; kernel_rfl)) ?_ | refine and_mk ⟨_, rfl⟩ ?_ | refine ex_is _ (List.length_map _) ?_ | refine ex_is _ List.length_nil ?_ | fail "no step")
      have hcon := name_c (m := m) ⟨i + 1 + 1 + 1, xs, ts⟩ hs3.i (by omega)
      rcases hx63 : (nameM L) ⟨i + 1 + 1 + 1, xs, ts⟩ with ⟨p, s9⟩ | ⟨i9, e9⟩
      rotate_left
      · obtain rfl := (and_err hx63).symm.trans hT
        first | refine ex_callM (CallsM.ren (hcon.err hx63) [0, 1] 8 rfl rfl rfl rfl) ?_ | refine ex_callM (CallsM.more0 (CallsM.ren (hcon.err hx63) [0, 1] 8 rfl rfl rfl rfl)) ?_ | refine ex_callM (CallsM.more1 (CallsM.ren (hcon.err hx63) [0, 1] 8 rfl rfl rfl rfl)) ?_ | refine ex_callM (CallsM.moreL (CallsM.ren (hcon.err hx63) [0, 1] 8 rfl rfl rfl rfl)) ?_
        first | exact ⟨⟨_, rfl, rfl⟩, rfl, rfl⟩ | exact ⟨by kernel_rfl, ⟨_, rfl, rfl⟩, rfl, rfl⟩
      replace hT := (and_ok hx63).symm.trans hT
      first | refine ex_callM (CallsM.ren (hcon.ok hx63) [0, 1] 8 rfl rfl rfl rfl) ?_ | refine ex_callM (CallsM.more0 (CallsM.ren (hcon.ok hx63) [0, 1] 8 rfl rfl rfl rfl)) ?_ | refine ex_callM (CallsM.more1 (CallsM.ren (hcon.ok hx63) [0, 1] 8 rfl rfl rfl rfl)) ?_ | refine ex_callM (CallsM.moreL (CallsM.ren (hcon.ok hx63) [0, 1] 8 rfl rfl rfl rfl)) ?_
      clear hcon
      have hs4 := (Up.ok (Up.name hL 0) hs3 hx63).1
      obtain rfl := mv_name1 hx63
      have hi4 := hs4.lt
      repeat' (first | refine ex_true (by first | decide | omega | assumption | (with_reducible exact rfl)) ?_ | refine ex_false (by first | decide | omega | assumption | exact (fun h => h rfl)) ?_ | refine ex_dec (fun _ => ?_) (fun _ => ?_) | refine ex_u8 _ rfl (by omega) (by omega) ?_ | refine ex_i64 _ rfl (by omega) (by omega) ?_ | refine ex_u64 _ rfl (by omega) (by omega) ?_ | refine and_mk (by first | omega | (with_reducible rfl) | (show drawOk _ _ _ = true; kernel_rfl)) ?_ | refine and_mk ⟨_, rfl⟩ ?_ | refine ex_is _ (List.length_map _) ?_ | refine ex_is _ List.length_nil ?_ | fail "no step")
      refine ex_app (0) (1) 1000 (by first | rfl | (simp; done) | (simp; omega)) (by first | rfl | (simp; done) | (simp; omega)) rfl (by omega) ?_
      refine ex_is (List.map (fun p : List UInt8 => [ds (bs p)]) [p]) (rfl) ?_
      repeat' (first | refine ex_true (by first | decide | omega | assumption | (with_reducible exact rfl)) ?_ | refine ex_false (by first | decide | omega | assumption | exact (fun h => h rfl)) ?_ | refine ex_dec (fun _ => ?_) (fun _ => ?_) | refine ex_u8 _ rfl (by omega) (by omega) ?_ | refine ex_i64 _ rfl (by omega) (by omega) ?_ | refine ex_u64 _ rfl (by omega) (by omega) ?_ | refine and_mk (by first | omega | (with_reducible rfl) | (show drawOk _ _ _ = true; kernel_rfl)) ?_ | refine and_mk ⟨_, rfl⟩ ?_ | refine ex_is _ (List.length_map _) ?_ | refine ex_is _ List.length_nil ?_ | fail "no step")
      replace hT := asc hT
      replace hT : (parsN L (L.length - (i + 1 + 1 + 1 + 1) + 1) [p] >>= fun l => (takeM L t_rpar >>= fun _ => pure l) >>= fun ps => takeM L t_lcur >>= fun _ => (fun s => itemsN L (L.length - s.i + 1) [] s) >>= fun is => takeM L t_rcur >>= fun _ => pure (⟨w, ps, is⟩ : RC)) ⟨i + 1 + 1 + 1 + 1, xs, ts⟩ = T := hT
      refine ex_loop (X := Nat × List (List UInt8) × Nat) (fun ⟨i, ps, _⟩ => ⟨[(0, .o P0), (2, .o (.c (.ptr 6 0))), (3, .o (.c (.ptr 7 0)))], [(0, Qz L m i), (1, Fz 2 3 4 5), (4, Xz xs), (5, Tz ts), (6, .obj [.d (ds ⟨#[]⟩), .d dnil, .d dnil]), (7, .obj [.d (ds (bs w)), .row 9, .d dnil]), (9, .row 1 9 (ps.map fun p => [ds (bs p)]))], 10⟩) (fun y => L.length - y.1)
        (fun ⟨i, l, n⟩ => SOk L c ⟨i, xs, ts⟩ ∧ L.length < i + n ∧ l.length ≤ i ∧ (parsN L n l >>= fun l => (takeM L t_rpar >>= fun _ => pure l) >>= fun ps => takeM L t_lcur >>= fun _ => (fun s => itemsN L (L.length - s.i + 1) [] s) >>= fun is => takeM L t_rcur >>= fun _ => pure (⟨w, ps, is⟩ : RC)) ⟨i, xs, ts⟩ = T) (i + 1 + 1 + 1 + 1, [p], L.length - (i + 1 + 1 + 1 + 1) + 1) ⟨hs4.less (by omega), by omega, by simp, hT⟩ (SLe.of ⟨⟨rfl, rfl, rfl, trivial⟩, ⟨rfl, rfl, rfl, rfl, rfl, rfl, rfl, trivial⟩⟩) ?_
      clear hT hs4 hs3 hs2 hs1 hs hi3 hi4
      rintro ⟨i, l, n⟩ ⟨hs, hf, hll, hT⟩
      have hi := hs.lt
      cases n with
      | zero => omega
      | succ n =>
        rw [parsN] at hT
        rcases hv : isV L i t_comma with _ | _
        · replace hT := atnB hT hv
          replace hT := pureT hT
          replace hT := asc hT
          first | refine ex_callM (CallsM.ren ((may_no i hi _ hv)) [0, 1] 10 rfl rfl rfl rfl) ?_ | refine ex_callM (CallsM.more0 (CallsM.ren ((may_no i hi _ hv)) [0, 1] 10 rfl rfl rfl rfl)) ?_ | refine ex_callM (CallsM.more1 (CallsM.ren ((may_no i hi _ hv)) [0, 1] 10 rfl rfl rfl rfl)) ?_ | refine ex_callM (CallsM.moreL (CallsM.ren ((may_no i hi _ hv)) [0, 1] 10 rfl rfl rfl rfl)) ?_
          repeat' (first | refine ex_true (by first | decide | omega | assumption | (with_reducible exact rfl)) ?_ | refine ex_false (by first | decide | omega | assumption | exact (fun h => h rfl)) ?_ | refine ex_dec (fun _ => ?_) (fun _ => ?_) | refine ex_u8 _ rfl (by omega) (by omega) ?_ | refine ex_i64 _ rfl (by omega) (by omega) ?_ | refine ex_u64 _ rfl (by omega) (by omega) ?_ | refine and_mk (by first | omega | (with_reducible rfl) | (show drawOk _ _ _ = true; kernel_rfl)) ?_ | refine and_mk ⟨_, rfl⟩ ?_ | refine ex_is _ (List.length_map _) ?_ | refine ex_is _ List.length_nil ?_ | fail "no step")
          have hcon := take_c (m := m) ⟨i, xs, ts⟩ hs.i (by omega) t_rpar
          rcases hx86 : (takeM L t_rpar) ⟨i, xs, ts⟩ with ⟨_, s9⟩ | ⟨i9, e9⟩
          rotate_left
          · obtain rfl := (and_err hx86).symm.trans hT
            first | refine ex_callM (CallsM.ren (hcon.err hx86) [0, 1] 10 rfl rfl rfl rfl) ?_ | refine ex_callM (CallsM.more0 (CallsM.ren (hcon.err hx86) [0, 1] 10 rfl rfl rfl rfl)) ?_ | refine ex_callM (CallsM.more1 (CallsM.ren (hcon.err hx86) [0, 1] 10 rfl rfl rfl rfl)) ?_ | refine ex_callM (CallsM.moreL (CallsM.ren (hcon.err hx86) [0, 1] 10 rfl rfl rfl rfl)) ?_
            first | exact ⟨⟨_, rfl, rfl⟩, rfl, rfl⟩ | exact ⟨by kernel_rfl, ⟨_, rfl, rfl⟩, rfl, rfl⟩
          replace hT := (and_ok hx86).symm.trans hT
          first | refine ex_callM (CallsM.ren (hcon.ok hx86) [0, 1] 10 rfl rfl rfl rfl) ?_ | refine ex_callM (CallsM.more0 (CallsM.ren (hcon.ok hx86) [0, 1] 10 rfl rfl rfl rfl)) ?_ | refine ex_callM (CallsM.more1 (CallsM.ren (hcon.ok hx86) [0, 1] 10 rfl rfl rfl rfl)) ?_ | refine ex_callM (CallsM.moreL (CallsM.ren (hcon.ok hx86) [0, 1] 10 rfl rfl rfl rfl)) ?_
          clear hcon
          have hs1 := (Up.ok (Up.take hL t_rpar 0) hs hx86).1
          obtain rfl := mv_take1 hx86
          replace hT := pureT hT
          repeat' (first | refine ex_true (by first | decide | omega | assumption | (with_reducible exact rfl)) ?_ | refine ex_false (by first | decide | omega | assumption | exact (fun h => h rfl)) ?_ | refine ex_dec (fun _ => ?_) (fun _ => ?_) | refine ex_u8 _ rfl (by omega) (by omega) ?_ | refine ex_i64 _ rfl (by omega) (by omega) ?_ | refine ex_u64 _ rfl (by omega) (by omega) ?_ | refine and_mk (by first | omega | (with_reducible rfl) | (show drawOk _ _ _ = true; kernel_rfl)) ?_ | refine and_mk ⟨_, rfl⟩ ?_ | refine ex_is _ (List.length_map _) ?_ | refine ex_is _ List.length_nil ?_ | fail "no step")
          exact ex_meet (i + 1, l) ⟨hs1.less (by omega), hT⟩ (SLe.of ⟨⟨rfl, rfl, rfl, trivial⟩, ⟨rfl, rfl, rfl, rfl, rfl, rfl, rfl, trivial⟩⟩)
        · replace hT := asc (stp1 (asc (atyB hT hv)))
          have hs1 := stpS hL hs (isV_k hv)
          have hnm := named_c (m := m) (i + 1) hs1.lt
          first | refine ex_callM (CallsM.ren ((may_yes i hi (by omega) _ hv)) [0, 1] 10 rfl rfl rfl rfl) ?_ | refine ex_callM (CallsM.more0 (CallsM.ren ((may_yes i hi (by omega) _ hv)) [0, 1] 10 rfl rfl rfl rfl)) ?_ | refine ex_callM (CallsM.more1 (CallsM.ren ((may_yes i hi (by omega) _ hv)) [0, 1] 10 rfl rfl rfl rfl)) ?_ | refine ex_callM (CallsM.moreL (CallsM.ren ((may_yes i hi (by omega) _ hv)) [0, 1] 10 rfl rfl rfl rfl)) ?_
          repeat' (first | refine ex_true (by first | decide | omega | assumption | (with_reducible exact rfl)) ?_ | refine ex_false (by first | decide | omega | assumption | exact (fun h => h rfl)) ?_ | refine ex_dec (fun _ => ?_) (fun _ => ?_) | refine ex_u8 _ rfl (by omega) (by omega) ?_ | refine ex_i64 _ rfl (by omega) (by omega) ?_ | refine ex_u64 _ rfl (by omega) (by omega) ?_ | refine and_mk (by first | omega | (with_reducible rfl) | (show drawOk _ _ _ = true; kernel_rfl)) ?_ | refine and_mk ⟨_, rfl⟩ ?_ | refine ex_is _ (List.length_map _) ?_ | refine ex_is _ List.length_nil ?_ | fail "no step")
          rcases hb : namedV L (i + 1) with _ | _ <;> rw [hb] at hnm
          · replace hT := asc (rmF hT hb)
            first | refine ex_callM (CallsM.ren (hnm) [0, 1] 10 rfl rfl rfl rfl) ?_ | refine ex_callM (CallsM.more0 (CallsM.ren (hnm) [0, 1] 10 rfl rfl rfl rfl)) ?_ | refine ex_callM (CallsM.more1 (CallsM.ren (hnm) [0, 1] 10 rfl rfl rfl rfl)) ?_ | refine ex_callM (CallsM.moreL (CallsM.ren (hnm) [0, 1] 10 rfl rfl rfl rfl)) ?_
            repeat' (first | refine ex_true (by first | decide | omega | assumption | (with_reducible exact rfl)) ?_ | refine ex_false (by first | decide | omega | assumption | exact (fun h => h rfl)) ?_ | refine ex_dec (fun _ => ?_) (fun _ => ?_) | refine ex_u8 _ rfl (by omega) (by omega) ?_ | refine ex_i64 _ rfl (by omega) (by omega) ?_ | refine ex_u64 _ rfl (by omega) (by omega) ?_ | refine and_mk (by first | omega | (with_reducible rfl) | (show drawOk _ _ _ = true; kernel_rfl)) ?_ | refine and_mk ⟨_, rfl⟩ ?_ | refine ex_is _ (List.length_map _) ?_ | refine ex_is _ List.length_nil ?_ | fail "no step")
            have hcon := name_c (m := m) ⟨i + 1, xs, ts⟩ hs1.i (by omega)
            rcases hx99 : (nameM L) ⟨i + 1, xs, ts⟩ with ⟨p, s9⟩ | ⟨i9, e9⟩
            rotate_left
            · obtain rfl := (and_err hx99).symm.trans hT
              first | refine ex_callM (CallsM.ren (hcon.err hx99) [0, 1] 10 rfl rfl rfl rfl) ?_ | refine ex_callM (CallsM.more0 (CallsM.ren (hcon.err hx99) [0, 1] 10 rfl rfl rfl rfl)) ?_ | refine ex_callM (CallsM.more1 (CallsM.ren (hcon.err hx99) [0, 1] 10 rfl rfl rfl rfl)) ?_ | refine ex_callM (CallsM.moreL (CallsM.ren (hcon.err hx99) [0, 1] 10 rfl rfl rfl rfl)) ?_
              first | exact ⟨⟨_, rfl, rfl⟩, rfl, rfl⟩ | exact ⟨by kernel_rfl, ⟨_, rfl, rfl⟩, rfl, rfl⟩
            replace hT := (and_ok hx99).symm.trans hT
            first | refine ex_callM (CallsM.ren (hcon.ok hx99) [0, 1] 10 rfl rfl rfl rfl) ?_ | refine ex_callM (CallsM.more0 (CallsM.ren (hcon.ok hx99) [0, 1] 10 rfl rfl rfl rfl)) ?_ | refine ex_callM (CallsM.more1 (CallsM.ren (hcon.ok hx99) [0, 1] 10 rfl rfl rfl rfl)) ?_ | refine ex_callM (CallsM.moreL (CallsM.ren (hcon.ok hx99) [0, 1] 10 rfl rfl rfl rfl)) ?_
            clear hcon
            have hs2 := (Up.ok (Up.name hL 0) hs1 hx99).1
            obtain rfl := mv_name1 hx99
            have hi2 := hs2.lt
            repeat' (first | refine ex_true (by first | decide | omega | assumption | (with_reducible exact rfl)) ?_ | refine ex_false (by first | decide | omega | assumption | exact (fun h => h rfl)) ?_ | refine ex_dec (fun _ => ?_) (fun _ => ?_) | refine ex_u8 _ rfl (by omega) (by omega) ?_ | refine ex_i64 _ rfl (by omega) (by omega) ?_ | refine ex_u64 _ rfl (by omega) (by omega) ?_ | refine and_mk (by first | omega | (with_reducible rfl) | (show drawOk _ _ _ = true; kernel_rfl)) ?_ | refine and_mk ⟨_, rfl⟩ ?_ | refine ex_is _ (List.length_map _) ?_ | refine ex_is _ List.length_nil ?_ | fail "no step")
            refine ex_app (l.length) (1) 1000 (by first | rfl | (simp; done) | (simp; omega)) (by first | rfl | (simp; done) | (simp; omega)) rfl (by omega) ?_
            refine ex_is (List.map (fun p : List UInt8 => [ds (bs p)]) (l ++ [p])) (by rw [List.map_append]; rfl) ?_
            repeat' (first | refine ex_true (by first | decide | omega | assumption | (with_reducible exact rfl)) ?_ | refine ex_false (by first | decide | omega | assumption | exact (fun h => h rfl)) ?_ | refine ex_dec (fun _ => ?_) (fun _ => ?_) | refine ex_u8 _ rfl (by omega) (by omega) ?_ | refine ex_i64 _ rfl (by omega) (by omega) ?_ | refine ex_u64 _ rfl (by omega) (by omega) ?_ | refine and_mk (by first | omega | (with_reducible rfl) | (show drawOk _ _ _ = true; kernel_rfl)) ?_ | refine and_mk ⟨_, rfl⟩ ?_ | refine ex_is _ (List.length_map _) ?_ | refine ex_is _ List.length_nil ?_ | fail "no step")
            exact ex_round (i + 1 + 1, l ++ [p], n) ⟨hs2.less (by omega), by omega, by simp <;> omega, hT⟩ (by show L.length - (i + 1 + 1) < L.length - i; omega) (SLe.ren [(0, 0), (1, 1), (2, 2), (3, 3), (4, 4), (5, 5), (6, 6), (7, 7), (11, 9)] ⟨⟨rfl, rfl⟩, ⟨rfl, rfl⟩, ⟨rfl, rfl⟩, trivial⟩ ⟨⟨rfl, rfl⟩, ⟨rfl, rfl⟩, ⟨rfl, rfl⟩, ⟨rfl, rfl⟩, ⟨rfl, rfl⟩, ⟨rfl, rfl⟩, ⟨rfl, rfl⟩, trivial⟩ rfl)
          · replace hT := rmT hT hb
            first | refine ex_callM (CallsM.ren (hnm) [0, 1] 10 rfl rfl rfl rfl) ?_ | refine ex_callM (CallsM.more0 (CallsM.ren (hnm) [0, 1] 10 rfl rfl rfl rfl)) ?_ | refine ex_callM (CallsM.more1 (CallsM.ren (hnm) [0, 1] 10 rfl rfl rfl rfl)) ?_ | refine ex_callM (CallsM.moreL (CallsM.ren (hnm) [0, 1] 10 rfl rfl rfl rfl)) ?_
            repeat' (first | refine ex_is l.length (by simp) ?_ | refine ex_true (by first | decide | omega | assumption | (with_reducible exact rfl)) ?_ | refine ex_false (by first | decide | omega | assumption | exact (fun h => h rfl)) ?_ | refine ex_dec (fun _ => ?_) (fun _ => ?_) | refine ex_u8 _ rfl (by omega) (by omega) ?_ | refine ex_i64 _ rfl (by omega) (by omega) ?_ | refine ex_u64 _ rfl (by omega) (by omega) ?_ | refine and_mk (by first | omega | (with_reducible rfl) | (show drawOk _ _ _ = true; kernel_rfl)) ?_ | refine and_mk ⟨_, rfl⟩ ?_ | refine ex_is _ (List.length_map _) ?_ | refine ex_is _ List.length_nil ?_ | fail "no step")
            have hcon := room_c (m := m) ⟨i + 1, xs, ts⟩ hs1.lt l.length (by omega)
            rcases hr : (roomM l.length) ⟨i + 1, xs, ts⟩ with ⟨_, s9⟩ | ⟨i9, e9⟩
            rotate_left
            · obtain rfl := (and_err hr).symm.trans hT
              first | refine ex_callM (CallsM.ren (hcon.err hr) [0, 1] 10 rfl rfl rfl rfl) ?_ | refine ex_callM (CallsM.more0 (CallsM.ren (hcon.err hr) [0, 1] 10 rfl rfl rfl rfl)) ?_ | refine ex_callM (CallsM.more1 (CallsM.ren (hcon.err hr) [0, 1] 10 rfl rfl rfl rfl)) ?_ | refine ex_callM (CallsM.moreL (CallsM.ren (hcon.err hr) [0, 1] 10 rfl rfl rfl rfl)) ?_
              first | exact ⟨⟨_, rfl, rfl⟩, rfl, rfl⟩ | exact ⟨by kernel_rfl, ⟨_, rfl, rfl⟩, rfl, rfl⟩
            replace hT := (and_ok hr).symm.trans hT
            first | refine ex_callM (CallsM.ren (hcon.ok hr) [0, 1] 10 rfl rfl rfl rfl) ?_ | refine ex_callM (CallsM.more0 (CallsM.ren (hcon.ok hr) [0, 1] 10 rfl rfl rfl rfl)) ?_ | refine ex_callM (CallsM.more1 (CallsM.ren (hcon.ok hr) [0, 1] 10 rfl rfl rfl rfl)) ?_ | refine ex_callM (CallsM.moreL (CallsM.ren (hcon.ok hr) [0, 1] 10 rfl rfl rfl rfl)) ?_
            clear hcon
            obtain rfl := mv_room1 hr
            replace hT := asc hT
            repeat' (first | refine ex_true (by first | decide | omega | assumption | (with_reducible exact rfl)) ?_ | refine ex_false (by first | decide | omega | assumption | exact (fun h => h rfl)) ?_ | refine ex_dec (fun _ => ?_) (fun _ => ?_) | refine ex_u8 _ rfl (by omega) (by omega) ?_ | refine ex_i64 _ rfl (by omega) (by omega) ?_ | refine ex_u64 _ rfl (by omega) (by omega) ?_ | refine and_mk (by first | omega | (with_reducible rfl) | (show drawOk _ _ _ = true; kernel_rfl)) ?_ | refine and_mk ⟨_, rfl⟩ ?_ | refine ex_is _ (List.length_map _) ?_ | refine ex_is _ List.length_nil ?_ | fail "no step")
            have hcon := name_c (m := m) ⟨i + 1, xs, ts⟩ hs1.i (by omega)
            rcases hx112 : (nameM L) ⟨i + 1, xs, ts⟩ with ⟨p, s9⟩ | ⟨i9, e9⟩
            rotate_left
            · obtain rfl := (and_err hx112).symm.trans hT
              first | refine ex_callM (CallsM.ren (hcon.err hx112) [0, 1] 10 rfl rfl rfl rfl) ?_ | refine ex_callM (CallsM.more0 (CallsM.ren (hcon.err hx112) [0, 1] 10 rfl rfl rfl rfl)) ?_ | refine ex_callM (CallsM.more1 (CallsM.ren (hcon.err hx112) [0, 1] 10 rfl rfl rfl rfl)) ?_ | refine ex_callM (CallsM.moreL (CallsM.ren (hcon.err hx112) [0, 1] 10 rfl rfl rfl rfl)) ?_
              first | exact ⟨⟨_, rfl, rfl⟩, rfl, rfl⟩ | exact ⟨by kernel_rfl, ⟨_, rfl, rfl⟩, rfl, rfl⟩
            replace hT := (and_ok hx112).symm.trans hT
            first | refine ex_callM (CallsM.ren (hcon.ok hx112) [0, 1] 10 rfl rfl rfl rfl) ?_ | refine ex_callM (CallsM.more0 (CallsM.ren (hcon.ok hx112) [0, 1] 10 rfl rfl rfl rfl)) ?_ | refine ex_callM (CallsM.more1 (CallsM.ren (hcon.ok hx112) [0, 1] 10 rfl rfl rfl rfl)) ?_ | refine ex_callM (CallsM.moreL (CallsM.ren (hcon.ok hx112) [0, 1] 10 rfl rfl rfl rfl)) ?_
            clear hcon
            have hs2 := (Up.ok (Up.name hL 0) hs1 hx112).1
            obtain rfl := mv_name1 hx112
            have hi2 := hs2.lt
            repeat' (first | refine ex_true (by first | decide | omega | assumption | (with_reducible exact rfl)) ?_ | refine ex_false (by first | decide | omega | assumption | exact (fun h => h rfl)) ?_ | refine ex_dec (fun _ => ?_) (fun _ => ?_) | refine ex_u8 _ rfl (by omega) (by omega) ?_ | refine ex_i64 _ rfl (by omega) (by omega) ?_ | refine ex_u64 _ rfl (by omega) (by omega) ?_ | refine and_mk (by first | omega | (with_reducible rfl) | (show drawOk _ _ _ = true; kernel_rfl)) ?_ | refine and_mk ⟨_, rfl⟩ ?_ | refine ex_is _ (List.length_map _) ?_ | refine ex_is _ List.length_nil ?_ | fail "no step")
            refine ex_app (l.length) (1) 1000 (by first | rfl | (simp; done) | (simp; omega)) (by first | rfl | (simp; done) | (simp; omega)) rfl (by omega) ?_
            refine ex_is (List.map (fun p : List UInt8 => [ds (bs p)]) (l ++ [p])) (by rw [List.map_append]; rfl) ?_
            repeat' (first | refine ex_true (by first | decide | omega | assumption | (with_reducible exact rfl)) ?_ | refine ex_false (by first | decide | omega | assumption | exact (fun h => h rfl)) ?_ | refine ex_dec (fun _ => ?_) (fun _ => ?_) | refine ex_u8 _ rfl (by omega) (by omega) ?_ | refine ex_i64 _ rfl (by omega) (by omega) ?_ | refine ex_u64 _ rfl (by omega) (by omega) ?_ | refine and_mk (by first | omega | (with_reducible rfl) | (show drawOk _ _ _ = true; kernel_rfl)) ?_ | refine and_mk ⟨_, rfl⟩ ?_ | refine ex_is _ (List.length_map _) ?_ | refine ex_is _ List.length_nil ?_ | fail "no step")
            exact ex_round (i + 1 + 1, l ++ [p], n) ⟨hs2.less (by omega), by omega, by simp <;> omega, hT⟩ (by show L.length - (i + 1 + 1) < L.length - i; omega) (SLe.ren [(0, 0), (1, 1), (2, 2), (3, 3), (4, 4), (5, 5), (6, 6), (7, 7), (11, 9)] ⟨⟨rfl, rfl⟩, ⟨rfl, rfl⟩, ⟨rfl, rfl⟩, trivial⟩ ⟨⟨rfl, rfl⟩, ⟨rfl, rfl⟩, ⟨rfl, rfl⟩, ⟨rfl, rfl⟩, ⟨rfl, rfl⟩, ⟨rfl, rfl⟩, ⟨rfl, rfl⟩, trivial⟩ rfl)
  · clear hT hs2 hs1 hs
    rintro ⟨i, ps⟩ ⟨hs, hT⟩
    repeat' (first | refine ex_true (by first | decide | omega | assumption | (with_reducible exact rfl)) ?_ | refine ex_false (by first | decide | omega | assumption | exact (fun h => h rfl)) ?_ | refine ex_dec (fun _ => ?_) (fun _ => ?_) | refine ex_u8 _ rfl (by omega) (by omega) ?_ | refine ex_i64 _ rfl (by omega) (by omega) ?_ | refine ex_u64 _ rfl (by omega) (by omega) ?_ | refine and_mk (by first | omega | (with_reducible rfl) | (show drawOk _ _ _ = true; kernel_rfl)) ?_ | refine and_mk ⟨_, rfl⟩ ?_ | refine ex_is _ (List.length_map _) ?_ | refine ex_is _ List.length_nil ?_ | fail "no step")
    have hcon := take_c (m := m) ⟨i, xs, ts⟩ hs.i (by omega) t_lcur
    rcases hx122 : (takeM L t_lcur) ⟨i, xs, ts⟩ with ⟨_, s9⟩ | ⟨i9, e9⟩
    rotate_left
    · obtain rfl := (and_err hx122).symm.trans hT
      first | refine ex_callM (CallsM.ren (hcon.err hx122) [0, 1] 10 rfl rfl rfl rfl) ?_ | refine ex_callM (CallsM.more0 (CallsM.ren (hcon.err hx122) [0, 1] 10 rfl rfl rfl rfl)) ?_ | refine ex_callM (CallsM.more1 (CallsM.ren (hcon.err hx122) [0, 1] 10 rfl rfl rfl rfl)) ?_ | refine ex_callM (CallsM.moreL (CallsM.ren (hcon.err hx122) [0, 1] 10 rfl rfl rfl rfl)) ?_
      first | exact ⟨⟨_, rfl, rfl⟩, rfl, rfl⟩ | exact ⟨by kernel_rfl, ⟨_, rfl, rfl⟩, rfl, rfl⟩
    replace hT := (and_ok hx122).symm.trans hT
    first | refine ex_callM (CallsM.ren (hcon.ok hx122) [0, 1] 10 rfl rfl rfl rfl) ?_ | refine ex_callM (CallsM.more0 (CallsM.ren (hcon.ok hx122) [0, 1] 10 rfl rfl rfl rfl)) ?_ | refine ex_callM (CallsM.more1 (CallsM.ren (hcon.ok hx122) [0, 1] 10 rfl rfl rfl rfl)) ?_ | refine ex_callM (CallsM.moreL (CallsM.ren (hcon.ok hx122) [0, 1] 10 rfl rfl rfl rfl)) ?_
    clear hcon
    have hs1 := (Up.ok (Up.take hL t_lcur 0) hs hx122).1
    obtain rfl := mv_take1 hx122
    repeat' (first | refine ex_true (by first | decide | omega | assumption | (with_reducible exact rfl)) ?_ | refine ex_false (by first | decide | omega | assumption | exact (fun h => h rfl)) ?_ | refine ex_dec (fun _ => ?_) (fun _ => ?_) | refine ex_u8 _ rfl (by omega) (by omega) ?_ | refine ex_i64 _ rfl (by omega) (by omega) ?_ | refine ex_u64 _ rfl (by omega) (by omega) ?_ | refine and_mk (by first | omega | (with_reducible rfl) | (show drawOk _ _ _ = true; kernel_rfl)) ?_ | refine and_mk ⟨_, rfl⟩ ?_ | refine ex_is _ (List.length_map _) ?_ | refine ex_is _ List.length_nil ?_ | fail "no step")
    replace hT : (itemsN L (L.length - (i + 1) + 1) [] >>= fun is => takeM L t_rcur >>= fun _ => pure (⟨w, ps, is⟩ : RC)) ⟨i + 1, xs, ts⟩ = T := hT
    refine ex_loop (X := Nat × List EX × List TY × List IT × Nat) (fun ⟨i, xs, ts, l, _⟩ => ⟨[(0, .o P0), (2, .o (.c (.ptr 6 0))), (3, .o (.c (.ptr 7 0)))], [(5, .dead), (4, .dead), (0, Qz L m i), (1, Fz 2 3 11 12), (6, .obj [.d (ds ⟨#[]⟩), .d dnil, .d dnil]), (7, .obj [.d (ds (bs w)), .row 9, .row 10]), (9, .row 1 9 (ps.map fun p => [ds (bs p)])), (10, .row 9 90 (l.map itD)), (11, Xz xs), (12, Tz ts)], 13⟩) (fun y => L.length - y.1)
      (fun ⟨i, xs, ts, l, n⟩ => SOk L 0 ⟨i, xs, ts⟩ ∧ L.length < i + n ∧ l.length ≤ i ∧ (itemsN L n l >>= fun is => takeM L t_rcur >>= fun _ => pure (⟨w, ps, is⟩ : RC)) ⟨i, xs, ts⟩ = T) (i + 1, xs, ts, [], L.length - (i + 1) + 1) ⟨hs1.less (by omega), by omega, Nat.zero_le _, hT⟩
      (SLe.kill (nx := 13) 5 (SLe.kill (nx := 13) 4 (SLe.via (SLe.ownCell 7 2 10 9 90 rfl rfl rfl rfl rfl rfl) (SLe.ren [(0, 0), (1, 1), (2, 2), (3, 3), (6, 6), (7, 7), (9, 9), (10, 10), (4, 11), (5, 12)] ⟨⟨rfl, rfl⟩, ⟨rfl, rfl⟩, ⟨rfl, rfl⟩, trivial⟩ ⟨⟨rfl, rfl⟩, ⟨rfl, rfl⟩, ⟨rfl, rfl⟩, ⟨rfl, rfl⟩, ⟨rfl, rfl⟩, ⟨rfl, rfl⟩, ⟨rfl, rfl⟩, ⟨rfl, rfl⟩, trivial⟩ rfl)))) ?_
    clear hT hs1 hs
    rintro ⟨i, xs, ts, l, n⟩ ⟨hs, hf, hll, hT⟩
    have hi := hs.lt
    have hpk := is_c (m := m) i hi w_pack
    have hnm := named_c (m := m) i hi
    cases n with
    | zero => omega
    | succ n =>
      rw [itemsN] at hT
      rcases hv : isV L i w_pack with _ | _ <;> rw [hv] at hpk
      · rcases hv2 : namedV L i with _ | _ <;> rw [hv2] at hnm
        · replace hT := pureT (atnB hT (by rw [hv, hv2]; rfl))
          first | refine ex_callM (CallsM.ren (hpk) [0, 1] 13 rfl rfl rfl rfl) ?_ | refine ex_callM (CallsM.more0 (CallsM.ren (hpk) [0, 1] 13 rfl rfl rfl rfl)) ?_ | refine ex_callM (CallsM.more1 (CallsM.ren (hpk) [0, 1] 13 rfl rfl rfl rfl)) ?_ | refine ex_callM (CallsM.moreL (CallsM.ren (hpk) [0, 1] 13 rfl rfl rfl rfl)) ?_
          repeat' (first | refine ex_true (by first | decide | omega | assumption | (with_reducible exact rfl)) ?_ | refine ex_false (by first | decide | omega | assumption | exact (fun h => h rfl)) ?_ | refine ex_dec (fun _ => ?_) (fun _ => ?_) | refine ex_u8 _ rfl (by omega) (by omega) ?_ | refine ex_i64 _ rfl (by omega) (by omega) ?_ | refine ex_u64 _ rfl (by omega) (by omega) ?_ | refine and_mk (by first | omega | (with_reducible rfl) | (show drawOk _ _ _ = true; kernel_rfl)) ?_ | refine and_mk ⟨_, rfl⟩ ?_ | refine ex_is _ (List.length_map _) ?_ | refine ex_is _ List.length_nil ?_ | fail "no step")
          first | refine ex_callM (CallsM.ren (hnm) [0, 1] 13 rfl rfl rfl rfl) ?_ | refine ex_callM (CallsM.more0 (CallsM.ren (hnm) [0, 1] 13 rfl rfl rfl rfl)) ?_ | refine ex_callM (CallsM.more1 (CallsM.ren (hnm) [0, 1] 13 rfl rfl rfl rfl)) ?_ | refine ex_callM (CallsM.moreL (CallsM.ren (hnm) [0, 1] 13 rfl rfl rfl rfl)) ?_
          repeat' (first | refine ex_true (by first | decide | omega | assumption | (with_reducible exact rfl)) ?_ | refine ex_false (by first | decide | omega | assumption | exact (fun h => h rfl)) ?_ | refine ex_dec (fun _ => ?_) (fun _ => ?_) | refine ex_u8 _ rfl (by omega) (by omega) ?_ | refine ex_i64 _ rfl (by omega) (by omega) ?_ | refine ex_u64 _ rfl (by omega) (by omega) ?_ | refine and_mk (by first | omega | (with_reducible rfl) | (show drawOk _ _ _ = true; kernel_rfl)) ?_ | refine and_mk ⟨_, rfl⟩ ?_ | refine ex_is _ (List.length_map _) ?_ | refine ex_is _ List.length_nil ?_ | fail "no step")
          have hcon := take_c (m := m) ⟨i, xs, ts⟩ hs.i (by omega) t_rcur
          rcases hx144 : (takeM L t_rcur) ⟨i, xs, ts⟩ with ⟨_, s9⟩ | ⟨i9, e9⟩
          rotate_left
          · obtain rfl := (and_err hx144).symm.trans hT
            first | refine ex_callM (CallsM.ren (hcon.err hx144) [0, 1] 13 rfl rfl rfl rfl) ?_ | refine ex_callM (CallsM.more0 (CallsM.ren (hcon.err hx144) [0, 1] 13 rfl rfl rfl rfl)) ?_ | refine ex_callM (CallsM.more1 (CallsM.ren (hcon.err hx144) [0, 1] 13 rfl rfl rfl rfl)) ?_ | refine ex_callM (CallsM.moreL (CallsM.ren (hcon.err hx144) [0, 1] 13 rfl rfl rfl rfl)) ?_
            first | exact ⟨⟨_, rfl, rfl⟩, rfl, rfl⟩ | exact ⟨by kernel_rfl, ⟨_, rfl, rfl⟩, rfl, rfl⟩
          replace hT := (and_ok hx144).symm.trans hT
          first | refine ex_callM (CallsM.ren (hcon.ok hx144) [0, 1] 13 rfl rfl rfl rfl) ?_ | refine ex_callM (CallsM.more0 (CallsM.ren (hcon.ok hx144) [0, 1] 13 rfl rfl rfl rfl)) ?_ | refine ex_callM (CallsM.more1 (CallsM.ren (hcon.ok hx144) [0, 1] 13 rfl rfl rfl rfl)) ?_ | refine ex_callM (CallsM.moreL (CallsM.ren (hcon.ok hx144) [0, 1] 13 rfl rfl rfl rfl)) ?_
          clear hcon
          have hs1 := (Up.ok (Up.take hL t_rcur 0) hs hx144).1
          obtain rfl := mv_take1 hx144
          obtain rfl : PR.ok (⟨w, ps, l⟩ : RC) ⟨i + 1, xs, ts⟩ = T := hT
          repeat' (first | refine ex_true (by first | decide | omega | assumption | (with_reducible exact rfl)) ?_ | refine ex_false (by first | decide | omega | assumption | exact (fun h => h rfl)) ?_ | refine ex_dec (fun _ => ?_) (fun _ => ?_) | refine ex_u8 _ rfl (by omega) (by omega) ?_ | refine ex_i64 _ rfl (by omega) (by omega) ?_ | refine ex_u64 _ rfl (by omega) (by omega) ?_ | refine and_mk (by first | omega | (with_reducible rfl) | (show drawOk _ _ _ = true; kernel_rfl)) ?_ | refine and_mk ⟨_, rfl⟩ ?_ | refine ex_is _ (List.length_map _) ?_ | refine ex_is _ List.length_nil ?_ | fail "no step")
          exact ⟨rfl, TLe.rfl, rfl, rfl⟩
        · replace hT := asc (atyB hT (by rw [hv, hv2]; rfl))
          first | refine ex_callM (CallsM.ren (hpk) [0, 1] 13 rfl rfl rfl rfl) ?_ | refine ex_callM (CallsM.more0 (CallsM.ren (hpk) [0, 1] 13 rfl rfl rfl rfl)) ?_ | refine ex_callM (CallsM.more1 (CallsM.ren (hpk) [0, 1] 13 rfl rfl rfl rfl)) ?_ | refine ex_callM (CallsM.moreL (CallsM.ren (hpk) [0, 1] 13 rfl rfl rfl rfl)) ?_
          repeat' (first | refine ex_true (by first | decide | omega | assumption | (with_reducible exact rfl)) ?_ | refine ex_false (by first | decide | omega | assumption | exact (fun h => h rfl)) ?_ | refine ex_dec (fun _ => ?_) (fun _ => ?_) | refine ex_u8 _ rfl (by omega) (by omega) ?_ | refine ex_i64 _ rfl (by omega) (by omega) ?_ | refine ex_u64 _ rfl (by omega) (by omega) ?_ | refine and_mk (by first | omega | (with_reducible rfl) | (show drawOk _ _ _ = true; kernel_rfl)) ?_ | refine and_mk ⟨_, rfl⟩ ?_ | refine ex_is _ (List.length_map _) ?_ | refine ex_is _ List.length_nil ?_ | fail "no step")
          first | refine ex_callM (CallsM.ren (hnm) [0, 1] 13 rfl rfl rfl rfl) ?_ | refine ex_callM (CallsM.more0 (CallsM.ren (hnm) [0, 1] 13 rfl rfl rfl rfl)) ?_ | refine ex_callM (CallsM.more1 (CallsM.ren (hnm) [0, 1] 13 rfl rfl rfl rfl)) ?_ | refine ex_callM (CallsM.moreL (CallsM.ren (hnm) [0, 1] 13 rfl rfl rfl rfl)) ?_
          repeat' (first | refine ex_is l.length (by simp) ?_ | refine ex_true (by first | decide | omega | assumption | (with_reducible exact rfl)) ?_ | refine ex_false (by first | decide | omega | assumption | exact (fun h => h rfl)) ?_ | refine ex_dec (fun _ => ?_) (fun _ => ?_) | refine ex_u8 _ rfl (by omega) (by omega) ?_ | refine ex_i64 _ rfl (by omega) (by omega) ?_ | refine ex_u64 _ rfl (by omega) (by omega) ?_ | refine and_mk (by first | omega | (with_reducible rfl) | (show drawOk _ _ _ = true; kernel_rfl)) ?_ | refine and_mk ⟨_, rfl⟩ ?_ | refine ex_is _ (List.length_map _) ?_ | refine ex_is _ List.length_nil ?_ | fail "no step")
          have hcon := room_c (m := m) ⟨i, xs, ts⟩ hi l.length (by omega)
          rcases hr : (roomM l.length) ⟨i, xs, ts⟩ with ⟨_, s9⟩ | ⟨i9, e9⟩
          rotate_left
          · obtain rfl := (and_err hr).symm.trans hT
            first | refine ex_callM (CallsM.ren (hcon.err hr) [0, 1] 13 rfl rfl rfl rfl) ?_ | refine ex_callM (CallsM.more0 (CallsM.ren (hcon.err hr) [0, 1] 13 rfl rfl rfl rfl)) ?_ | refine ex_callM (CallsM.more1 (CallsM.ren (hcon.err hr) [0, 1] 13 rfl rfl rfl rfl)) ?_ | refine ex_callM (CallsM.moreL (CallsM.ren (hcon.err hr) [0, 1] 13 rfl rfl rfl rfl)) ?_
            first | exact ⟨⟨_, rfl, rfl⟩, rfl, rfl⟩ | exact ⟨by kernel_rfl, ⟨_, rfl, rfl⟩, rfl, rfl⟩
          replace hT := (and_ok hr).symm.trans hT
          first | refine ex_callM (CallsM.ren (hcon.ok hr) [0, 1] 13 rfl rfl rfl rfl) ?_ | refine ex_callM (CallsM.more0 (CallsM.ren (hcon.ok hr) [0, 1] 13 rfl rfl rfl rfl)) ?_ | refine ex_callM (CallsM.more1 (CallsM.ren (hcon.ok hr) [0, 1] 13 rfl rfl rfl rfl)) ?_ | refine ex_callM (CallsM.moreL (CallsM.ren (hcon.ok hr) [0, 1] 13 rfl rfl rfl rfl)) ?_
          clear hcon
          obtain rfl := mv_room1 hr
          replace hT := atnB (asc hT) hv
          repeat' (first | refine ex_true (by first | decide | omega | assumption | (with_reducible exact rfl)) ?_ | refine ex_false (by first | decide | omega | assumption | exact (fun h => h rfl)) ?_ | refine ex_dec (fun _ => ?_) (fun _ => ?_) | refine ex_u8 _ rfl (by omega) (by omega) ?_ | refine ex_i64 _ rfl (by omega) (by omega) ?_ | refine ex_u64 _ rfl (by omega) (by omega) ?_ | refine and_mk (by first | omega | (with_reducible rfl) | (show drawOk _ _ _ = true; kernel_rfl)) ?_ | refine and_mk ⟨_, rfl⟩ ?_ | refine ex_is _ (List.length_map _) ?_ | refine ex_is _ List.length_nil ?_ | fail "no step")
          first | refine ex_callM (CallsM.ren (hpk) [0, 1] 13 rfl rfl rfl rfl) ?_ | refine ex_callM (CallsM.more0 (CallsM.ren (hpk) [0, 1] 13 rfl rfl rfl rfl)) ?_ | refine ex_callM (CallsM.more1 (CallsM.ren (hpk) [0, 1] 13 rfl rfl rfl rfl)) ?_ | refine ex_callM (CallsM.moreL (CallsM.ren (hpk) [0, 1] 13 rfl rfl rfl rfl)) ?_
          repeat' (first | refine ex_true (by first | decide | omega | assumption | (with_reducible exact rfl)) ?_ | refine ex_false (by first | decide | omega | assumption | exact (fun h => h rfl)) ?_ | refine ex_dec (fun _ => ?_) (fun _ => ?_) | refine ex_u8 _ rfl (by omega) (by omega) ?_ | refine ex_i64 _ rfl (by omega) (by omega) ?_ | refine ex_u64 _ rfl (by omega) (by omega) ?_ | refine and_mk (by first | omega | (with_reducible rfl) | (show drawOk _ _ _ = true; kernel_rfl)) ?_ | refine and_mk ⟨_, rfl⟩ ?_ | refine ex_is _ (List.length_map _) ?_ | refine ex_is _ List.length_nil ?_ | fail "no step")
          have hcon := field_c hL hn hm ⟨i, xs, ts⟩ hs
          rcases hx : (fieldM L) ⟨i, xs, ts⟩ with ⟨x, ⟨i2, xs2, ts2⟩⟩ | ⟨i9, e9⟩
          rotate_left
          · obtain rfl := (and_err hx).symm.trans hT
            first | refine ex_callM (CallsM.ren (hcon.err hx) [0, 1, 2, 3, 11, 12] 13 rfl rfl rfl rfl) ?_ | refine ex_callM (CallsM.more0 (CallsM.ren (hcon.err hx) [0, 1, 2, 3, 11, 12] 13 rfl rfl rfl rfl)) ?_ | refine ex_callM (CallsM.more1 (CallsM.ren (hcon.err hx) [0, 1, 2, 3, 11, 12] 13 rfl rfl rfl rfl)) ?_ | refine ex_callM (CallsM.moreL (CallsM.ren (hcon.err hx) [0, 1, 2, 3, 11, 12] 13 rfl rfl rfl rfl)) ?_
            first | exact ⟨⟨_, rfl, rfl⟩, rfl, rfl⟩ | exact ⟨by kernel_rfl, ⟨_, rfl, rfl⟩, rfl, rfl⟩
          replace hT := (and_ok hx).symm.trans hT
          first | refine ex_callM (CallsM.ren (hcon.ok hx) [0, 1, 2, 3, 11, 12] 13 rfl rfl rfl rfl) ?_ | refine ex_callM (CallsM.more0 (CallsM.ren (hcon.ok hx) [0, 1, 2, 3, 11, 12] 13 rfl rfl rfl rfl)) ?_ | refine ex_callM (CallsM.more1 (CallsM.ren (hcon.ok hx) [0, 1, 2, 3, 11, 12] 13 rfl rfl rfl rfl)) ?_ | refine ex_callM (CallsM.moreL (CallsM.ren (hcon.ok hx) [0, 1, 2, 3, 11, 12] 13 rfl rfl rfl rfl)) ?_
          clear hcon
          have hs2 := (Up.ok (up_field hL) hs hx).1
          have hgo : i < i2 := mo_field _ _ _ hx
          repeat' (first | refine ex_true (by first | decide | omega | assumption | (with_reducible exact rfl)) ?_ | refine ex_false (by first | decide | omega | assumption | exact (fun h => h rfl)) ?_ | refine ex_dec (fun _ => ?_) (fun _ => ?_) | refine ex_u8 _ rfl (by omega) (by omega) ?_ | refine ex_i64 _ rfl (by omega) (by omega) ?_ | refine ex_u64 _ rfl (by omega) (by omega) ?_ | refine and_mk (by first | omega | (with_reducible rfl) | (show drawOk _ _ _ = true; kernel_rfl)) ?_ | refine and_mk ⟨_, rfl⟩ ?_ | refine ex_is _ (List.length_map _) ?_ | refine ex_is _ List.length_nil ?_ | fail "no step")
          refine ex_app (l.length) (1) 1000 (by first | rfl | (simp; done) | (simp; omega)) (by first | rfl | (simp; done) | (simp; omega)) rfl (by omega) ?_
          refine ex_is (List.map itD (l ++ [x])) (by rw [List.map_append]; rfl) ?_
          repeat' (first | refine ex_true (by first | decide | omega | assumption | (with_reducible exact rfl)) ?_ | refine ex_false (by first | decide | omega | assumption | exact (fun h => h rfl)) ?_ | refine ex_dec (fun _ => ?_) (fun _ => ?_) | refine ex_u8 _ rfl (by omega) (by omega) ?_ | refine ex_i64 _ rfl (by omega) (by omega) ?_ | refine ex_u64 _ rfl (by omega) (by omega) ?_ | refine and_mk (by first | omega | (with_reducible rfl) | (show drawOk _ _ _ = true; kernel_rfl)) ?_ | refine and_mk ⟨_, rfl⟩ ?_ | refine ex_is _ (List.length_map _) ?_ | refine ex_is _ List.length_nil ?_ | fail "no step")
          exact ex_round (i2, xs2, ts2, l ++ [x], n) ⟨hs2, by omega, by simp <;> omega, hT⟩ (by show L.length - i2 < L.length - i; omega) (SLe.ren [(0, 0), (1, 1), (2, 2), (3, 3), (4, 4), (5, 5), (6, 6), (7, 7), (9, 9), (13, 11), (14, 12), (16, 10)] ⟨⟨rfl, rfl⟩, ⟨rfl, rfl⟩, ⟨rfl, rfl⟩, trivial⟩ ⟨⟨rfl, rfl⟩, ⟨rfl, rfl⟩, ⟨rfl, rfl⟩, ⟨rfl, rfl⟩, ⟨rfl, rfl⟩, ⟨rfl, rfl⟩, ⟨rfl, rfl⟩, ⟨rfl, rfl⟩, ⟨rfl, rfl⟩, ⟨rfl, rfl⟩, trivial⟩ rfl)
      · replace hT := asc (atyB hT (by rw [hv]; rfl))
        first | refine ex_callM (CallsM.ren (hpk) [0, 1] 13 rfl rfl rfl rfl) ?_ | refine ex_callM (CallsM.more0 (CallsM.ren (hpk) [0, 1] 13 rfl rfl rfl rfl)) ?_ | refine ex_callM (CallsM.more1 (CallsM.ren (hpk) [0, 1] 13 rfl rfl rfl rfl)) ?_ | refine ex_callM (CallsM.moreL (CallsM.ren (hpk) [0, 1] 13 rfl rfl rfl rfl)) ?_
        repeat' (first | refine ex_is l.length (by simp) ?_ | refine ex_true (by first | decide | omega | assumption | (with_reducible exact rfl)) ?_ | refine ex_false (by first | decide | omega | assumption | exact (fun h => h rfl)) ?_ | refine ex_dec (fun _ => ?_) (fun _ => ?_) | refine ex_u8 _ rfl (by omega) (by omega) ?_ | refine ex_i64 _ rfl (by omega) (by omega) ?_ | refine ex_u64 _ rfl (by omega) (by omega) ?_ | refine and_mk (by first | omega | (with_reducible rfl) | (show drawOk _ _ _ = true; kernel_rfl)) ?_ | refine and_mk ⟨_, rfl⟩ ?_ | refine ex_is _ (List.length_map _) ?_ | refine ex_is _ List.length_nil ?_ | fail "no step")
        have hcon := room_c (m := m) ⟨i, xs, ts⟩ hi l.length (by omega)
        rcases hr : (roomM l.length) ⟨i, xs, ts⟩ with ⟨_, s9⟩ | ⟨i9, e9⟩
        rotate_left
        · obtain rfl := (and_err hr).symm.trans hT
          first | refine ex_callM (CallsM.ren (hcon.err hr) [0, 1] 13 rfl rfl rfl rfl) ?_ | refine ex_callM (CallsM.more0 (CallsM.ren (hcon.err hr) [0, 1] 13 rfl rfl rfl rfl)) ?_ | refine ex_callM (CallsM.more1 (CallsM.ren (hcon.err hr) [0, 1] 13 rfl rfl rfl rfl)) ?_ | refine ex_callM (CallsM.moreL (CallsM.ren (hcon.err hr) [0, 1] 13 rfl rfl rfl rfl)) ?_
          first | exact ⟨⟨_, rfl, rfl⟩, rfl, rfl⟩ | exact ⟨by kernel_rfl, ⟨_, rfl, rfl⟩, rfl, rfl⟩
        replace hT := (and_ok hr).symm.trans hT
        first | refine ex_callM (CallsM.ren (hcon.ok hr) [0, 1] 13 rfl rfl rfl rfl) ?_ | refine ex_callM (CallsM.more0 (CallsM.ren (hcon.ok hr) [0, 1] 13 rfl rfl rfl rfl)) ?_ | refine ex_callM (CallsM.more1 (CallsM.ren (hcon.ok hr) [0, 1] 13 rfl rfl rfl rfl)) ?_ | refine ex_callM (CallsM.moreL (CallsM.ren (hcon.ok hr) [0, 1] 13 rfl rfl rfl rfl)) ?_
        clear hcon
        obtain rfl := mv_room1 hr
        replace hT := atyB (asc hT) hv
        repeat' (first | refine ex_true (by first | decide | omega | assumption | (with_reducible exact rfl)) ?_ | refine ex_false (by first | decide | omega | assumption | exact (fun h => h rfl)) ?_ | refine ex_dec (fun _ => ?_) (fun _ => ?_) | refine ex_u8 _ rfl (by omega) (by omega) ?_ | refine ex_i64 _ rfl (by omega) (by omega) ?_ | refine ex_u64 _ rfl (by omega) (by omega) ?_ | refine and_mk (by first | omega | (with_reducible rfl) | (show drawOk _ _ _ = true; kernel_rfl)) ?_ | refine and_mk ⟨_, rfl⟩ ?_ | refine ex_is _ (List.length_map _) ?_ | refine ex_is _ List.length_nil ?_ | fail "no step")
        first | refine ex_callM (CallsM.ren (hpk) [0, 1] 13 rfl rfl rfl rfl) ?_ | refine ex_callM (CallsM.more0 (CallsM.ren (hpk) [0, 1] 13 rfl rfl rfl rfl)) ?_ | refine ex_callM (CallsM.more1 (CallsM.ren (hpk) [0, 1] 13 rfl rfl rfl rfl)) ?_ | refine ex_callM (CallsM.moreL (CallsM.ren (hpk) [0, 1] 13 rfl rfl rfl rfl)) ?_
        repeat' (first | refine ex_true (by first | decide | omega | assumption | (with_reducible exact rfl)) ?_ | refine ex_false (by first | decide | omega | assumption | exact (fun h => h rfl)) ?_ | refine ex_dec (fun _ => ?_) (fun _ => ?_) | refine ex_u8 _ rfl (by omega) (by omega) ?_ | refine ex_i64 _ rfl (by omega) (by omega) ?_ | refine ex_u64 _ rfl (by omega) (by omega) ?_ | refine and_mk (by first | omega | (with_reducible rfl) | (show drawOk _ _ _ = true; kernel_rfl)) ?_ | refine and_mk ⟨_, rfl⟩ ?_ | refine ex_is _ (List.length_map _) ?_ | refine ex_is _ List.length_nil ?_ | fail "no step")
        have hcon := pack_c (m := m) hL hn ⟨i, xs, ts⟩ hs
        rcases hx : (packM L) ⟨i, xs, ts⟩ with ⟨x, ⟨i2, xs2, ts2⟩⟩ | ⟨i9, e9⟩
        rotate_left
        · obtain rfl := (and_err hx).symm.trans hT
          first | refine ex_callM (CallsM.ren (hcon.err hx) [0, 1] 13 rfl rfl rfl rfl) ?_ | refine ex_callM (CallsM.more0 (CallsM.ren (hcon.err hx) [0, 1] 13 rfl rfl rfl rfl)) ?_ | refine ex_callM (CallsM.more1 (CallsM.ren (hcon.err hx) [0, 1] 13 rfl rfl rfl rfl)) ?_ | refine ex_callM (CallsM.moreL (CallsM.ren (hcon.err hx) [0, 1] 13 rfl rfl rfl rfl)) ?_
          first | exact ⟨⟨_, rfl, rfl⟩, rfl, rfl⟩ | exact ⟨by kernel_rfl, ⟨_, rfl, rfl⟩, rfl, rfl⟩
        replace hT := (and_ok hx).symm.trans hT
        first | refine ex_callM (CallsM.ren (hcon.ok hx) [0, 1] 13 rfl rfl rfl rfl) ?_ | refine ex_callM (CallsM.more0 (CallsM.ren (hcon.ok hx) [0, 1] 13 rfl rfl rfl rfl)) ?_ | refine ex_callM (CallsM.more1 (CallsM.ren (hcon.ok hx) [0, 1] 13 rfl rfl rfl rfl)) ?_ | refine ex_callM (CallsM.moreL (CallsM.ren (hcon.ok hx) [0, 1] 13 rfl rfl rfl rfl)) ?_
        clear hcon
        have hs2 := (Up.ok (up_pack hL) hs hx).1
        have hgo : i < i2 := mo_pack _ _ _ hx
        obtain ⟨rfl, rfl⟩ := mv_pack hx
        repeat' (first | refine ex_true (by first | decide | omega | assumption | (with_reducible exact rfl)) ?_ | refine ex_false (by first | decide | omega | assumption | exact (fun h => h rfl)) ?_ | refine ex_dec (fun _ => ?_) (fun _ => ?_) | refine ex_u8 _ rfl (by omega) (by omega) ?_ | refine ex_i64 _ rfl (by omega) (by omega) ?_ | refine ex_u64 _ rfl (by omega) (by omega) ?_ | refine and_mk (by first | omega | (with_reducible rfl) | (show drawOk _ _ _ = true; kernel_rfl)) ?_ | refine and_mk ⟨_, rfl⟩ ?_ | refine ex_is _ (List.length_map _) ?_ | refine ex_is _ List.length_nil ?_ | fail "no step")
        refine ex_app (l.length) (1) 1000 (by first | rfl | (simp; done) | (simp; omega)) (by first | rfl | (simp; done) | (simp; omega)) rfl (by omega) ?_
        refine ex_is (List.map itD (l ++ [x])) (by rw [List.map_append]; rfl) ?_
        repeat' (first | refine ex_true (by first | decide | omega | assumption | (with_reducible exact rfl)) ?_ | refine ex_false (by first | decide | omega | assumption | exact (fun h => h rfl)) ?_ | refine ex_dec (fun _ => ?_) (fun _ => ?_) | refine ex_u8 _ rfl (by omega) (by omega) ?_ | refine ex_i64 _ rfl (by omega) (by omega) ?_ | refine ex_u64 _ rfl (by omega) (by omega) ?_ | refine and_mk (by first | omega | (with_reducible rfl) | (show drawOk _ _ _ = true; kernel_rfl)) ?_ | refine and_mk ⟨_, rfl⟩ ?_ | refine ex_is _ (List.length_map _) ?_ | refine ex_is _ List.length_nil ?_ | fail "no step")
        exact ex_round (i2, xs, ts, l ++ [x], n) ⟨hs2, by omega, by simp <;> omega, hT⟩ (by show L.length - i2 < L.length - i; omega) (SLe.ren [(0, 0), (1, 1), (2, 2), (3, 3), (4, 4), (5, 5), (6, 6), (7, 7), (9, 9), (11, 11), (12, 12), (14, 10)] ⟨⟨rfl, rfl⟩, ⟨rfl, rfl⟩, ⟨rfl, rfl⟩, trivial⟩ ⟨⟨rfl, rfl⟩, ⟨rfl, rfl⟩, ⟨rfl, rfl⟩, ⟨rfl, rfl⟩, ⟨rfl, rfl⟩, ⟨rfl, rfl⟩, ⟨rfl, rfl⟩, ⟨rfl, rfl⟩, ⟨rfl, rfl⟩, ⟨rfl, rfl⟩, trivial⟩ rfl)
end
end Go.Proofs.YtkbhmcdoedmffaaDoor

namespace Go.Proofs.YtkbhmcdoedmffaaDoor
set_option linter.unusedVariables false
set_option linter.unusedSimpArgs false
open Go.RowKit
set_option maxRecDepth 100000

section
variable {P : Program} {Γ : Glob} {f : FuncId} {nx : Nat} {xs : List T1} {r : TV} {upd : List (Nat × Blk)} {new : List Blk} {a b c d e g : Nat × Blk} {m : List (Nat × Blk)}
theorem CallsM.moreW (h : CallsM P Γ f [a, b, e, g] nx xs r upd new) : CallsM P Γ f [a, b, c, d, e, g] nx xs r upd new := h.more fun p hp => by
  simp only [List.mem_cons, List.not_mem_nil, or_false] at hp ⊢; rcases hp with hp | hp | hp | hp <;> simp [hp]
end
abbrev Cz (l : List CO) : Blk := .row 2 37 (l.map coD)
abbrev Uz (l : List RC) : Blk := .row 3 41 (l.map rcD)
def PR.uW (L : List TokP) (m : Nat) : PR (List CO × List RC) → List (Nat × Blk)
  | .ok _ s => [(0, Qz L m s.i), (1, Fz 6 7 8 9), (2, .dead), (3, .dead), (4, .dead), (5, .dead)]
  | .err _ _ => [(0, .dead), (1, .dead), (2, .dead), (3, .dead), (4, .dead), (5, .dead)]
def PR.nW : PR (List CO × List RC) → List Blk
  | .ok v s => [Cz v.1, Uz v.2, Xz s.xs, Tz s.ts]
  | .err _ _ => []
/-- A call that panics where the rest is worked out by the kernel alone. -/
theorem ex_pan {P : Program} {Γ : Glob} {f : FuncId} {m : List (Nat × Blk)} {nx : Nat} {xs : List T1} {r : TV} {upd : List (Nat × Blk)} {new : List Blk} (Q : Prop) (h : CallsM P Γ f m nx xs r upd new) {K : TV → List (Nat × Blk) → List Blk → Prop} (e : K r upd new = Q) (hq : Q) : ∃ r upd new, CallsM P Γ f m nx xs r upd new ∧ K r upd new := ⟨r, upd, new, h, e.mpr hq⟩
section
variable {L : List TokP} {m : Nat}
set_option maxHeartbeats 16000000 in
theorem whole_c (hL : TokOk L) (hn : L.length ≤ 100000) (hm : m = 32) (i n0 : Nat) (xs : List EX) (ts : List TY) (cs : List CO) (rs : List RC) (hs : SOk L 0 ⟨i, xs, ts⟩) (hf : L.length < i + n0) (hcl : cs.length ≤ i) (hrl : rs.length ≤ i) (T : PR (List CO × List RC)) (hT : wholeN L n0 cs rs ⟨i, xs, ts⟩ = T) :
    CallsM Tryd.prog ΓL 10 [(0, Qz L m i), (1, Fz 2 3 4 5), (2, Cz cs), (3, Uz rs), (4, Xz xs), (5, Tz ts)] 6 [P0] (T.tv L fun _ => .tup []) (T.uW L m) T.nW := by
  refine fn_ruleP (C := ⟨Tryd.prog, layF, Tryd.f10.ntmps, ΓL, 6, [], []⟩) layF_ok mixed Tryd.func10 rfl (by kernel_rfl) rfl rfl rfl SLe.rfl ?_
  repeat' (first | refine ex_true (by first | decide | omega | assumption | (with_reducible exact rfl)) ?_ | refine ex_false (by first | decide | omega | assumption | exact (fun h => h rfl)) ?_ | refine ex_dec (fun _ => ?_) (fun _ => ?_) | refine ex_u8 _ rfl (by omega) (by omega) ?_ | refine ex_i64 _ rfl (by omega) (by omega) ?_ | refine ex_u64 _ rfl (by omega) (by omega) ?_ | refine and_mk (by first | omega | (with_reducible rfl) | (show drawOk _ _ _ = true; kernel_rfl)) ?_ | refine and_mk ⟨_, rfl⟩ ?_ | refine ex_is _ (List.length_map _) ?_ | refine ex_is _ List.length_nil ?_ | fail "no step")
  refine ex_loop (X := Nat × List EX × List TY × List CO × List RC × Nat) (fun ⟨i, xs, ts, cs, rs, _⟩ => ⟨[(0, .o P0)], [(5, .dead), (4, .dead), (3, .dead), (2, .dead), (0, Qz L m i), (1, Fz 6 7 8 9), (6, Cz cs), (7, Uz rs), (8, Xz xs), (9, Tz ts)], 10⟩) (fun y => L.length - y.1)
    (fun ⟨i, xs, ts, cs, rs, n⟩ => SOk L 0 ⟨i, xs, ts⟩ ∧ L.length < i + n ∧ cs.length ≤ i ∧ rs.length ≤ i ∧ wholeN L n cs rs ⟨i, xs, ts⟩ = T) (i, xs, ts, cs, rs, n0) ⟨hs, hf, hcl, hrl, hT⟩
    (SLe.kill (nx := 10) 5 (SLe.kill (nx := 10) 4 (SLe.kill (nx := 10) 3 (SLe.kill (nx := 10) 2 (SLe.ren [(0, 0), (1, 1), (2, 6), (3, 7), (4, 8), (5, 9)] ⟨⟨rfl, rfl⟩, trivial⟩ ⟨⟨rfl, rfl⟩, ⟨rfl, rfl⟩, ⟨rfl, rfl⟩, ⟨rfl, rfl⟩, ⟨rfl, rfl⟩, ⟨rfl, rfl⟩, trivial⟩ rfl))))) ?_
  clear hT hf hcl hrl hs
  rintro ⟨i, xs, ts, cs, rs, n⟩ ⟨hs, hf, hcl, hrl, hT⟩
  have hi := hs.lt
  have hic := is_c (m := m) i hi w_const
  have hir := is_c (m := m) i hi w_struct
  cases n with
  | zero => omega
  | succ n =>
    rw [wholeN] at hT
    rcases hv : isV L i w_const with _ | _ <;> rw [hv] at hic
    · replace hT := atn hT hv
      rcases hv2 : isV L i w_struct with _ | _ <;> rw [hv2] at hir
      · replace hT := atn hT hv2
        have ha := ahead_c (L := L) (m := m) i hi
        by_cases hk : (tk L i).k = 3
        · obtain rfl : PR.ok (cs, rs) ⟨i, xs, ts⟩ = T := aty hT (by rw [hk]; rfl)
          generalize tk L i = u at *
          first | refine ex_callM (CallsM.ren (hic) [0, 1] 10 rfl rfl rfl rfl) ?_ | refine ex_callM (CallsM.more0 (CallsM.ren (hic) [0, 1] 10 rfl rfl rfl rfl)) ?_ | refine ex_callM (CallsM.more1 (CallsM.ren (hic) [0, 1] 10 rfl rfl rfl rfl)) ?_ | refine ex_callM (CallsM.moreL (CallsM.ren (hic) [0, 1] 10 rfl rfl rfl rfl)) ?_
          repeat' (first | refine ex_true (by first | decide | omega | assumption | (with_reducible exact rfl)) ?_ | refine ex_false (by first | decide | omega | assumption | exact (fun h => h rfl)) ?_ | refine ex_dec (fun _ => ?_) (fun _ => ?_) | refine ex_u8 _ rfl (by omega) (by omega) ?_ | refine ex_i64 _ rfl (by omega) (by omega) ?_ | refine ex_u64 _ rfl (by omega) (by omega) ?_ | refine and_mk (by first | omega | (with_reducible rfl) | (show drawOk _ _ _ = true; kernel_rfl)) ?_ | refine and_mk ⟨_, rfl⟩ ?_ | refine ex_is _ (List.length_map _) ?_ | refine ex_is _ List.length_nil ?_ | fail "no step")
          first | refine ex_callM (CallsM.ren (hir) [0, 1] 10 rfl rfl rfl rfl) ?_ | refine ex_callM (CallsM.more0 (CallsM.ren (hir) [0, 1] 10 rfl rfl rfl rfl)) ?_ | refine ex_callM (CallsM.more1 (CallsM.ren (hir) [0, 1] 10 rfl rfl rfl rfl)) ?_ | refine ex_callM (CallsM.moreL (CallsM.ren (hir) [0, 1] 10 rfl rfl rfl rfl)) ?_
          repeat' (first | refine ex_true (by first | decide | omega | assumption | (with_reducible exact rfl)) ?_ | refine ex_false (by first | decide | omega | assumption | exact (fun h => h rfl)) ?_ | refine ex_dec (fun _ => ?_) (fun _ => ?_) | refine ex_u8 _ rfl (by omega) (by omega) ?_ | refine ex_i64 _ rfl (by omega) (by omega) ?_ | refine ex_u64 _ rfl (by omega) (by omega) ?_ | refine and_mk (by first | omega | (with_reducible rfl) | (show drawOk _ _ _ = true; kernel_rfl)) ?_ | refine and_mk ⟨_, rfl⟩ ?_ | refine ex_is _ (List.length_map _) ?_ | refine ex_is _ List.length_nil ?_ | fail "no step")
          first | refine ex_callM (CallsM.ren (ha) [0, 1] 10 rfl rfl rfl rfl) ?_ | refine ex_callM (CallsM.more0 (CallsM.ren (ha) [0, 1] 10 rfl rfl rfl rfl)) ?_ | refine ex_callM (CallsM.more1 (CallsM.ren (ha) [0, 1] 10 rfl rfl rfl rfl)) ?_ | refine ex_callM (CallsM.moreL (CallsM.ren (ha) [0, 1] 10 rfl rfl rfl rfl)) ?_
          repeat' (first | refine ex_true (by first | decide | omega | assumption | (with_reducible exact rfl)) ?_ | refine ex_false (by first | decide | omega | assumption | exact (fun h => h rfl)) ?_ | refine ex_dec (fun _ => ?_) (fun _ => ?_) | refine ex_u8 _ rfl (by omega) (by omega) ?_ | refine ex_i64 _ rfl (by omega) (by omega) ?_ | refine ex_u64 _ rfl (by omega) (by omega) ?_ | refine and_mk (by first | omega | (with_reducible rfl) | (show drawOk _ _ _ = true; kernel_rfl)) ?_ | refine and_mk ⟨_, rfl⟩ ?_ | refine ex_is _ (List.length_map _) ?_ | refine ex_is _ List.length_nil ?_ | fail "no step")
          exact ⟨rfl, TLe.rfl, rfl, rfl⟩
        · obtain rfl : PR.err i 4 = T := atn hT (by simp [hk])
          have hfl := fail_c (m := m) i 4 hi
          generalize tk L i = u at *
          first | refine ex_callM (CallsM.ren (hic) [0, 1] 10 rfl rfl rfl rfl) ?_ | refine ex_callM (CallsM.more0 (CallsM.ren (hic) [0, 1] 10 rfl rfl rfl rfl)) ?_ | refine ex_callM (CallsM.more1 (CallsM.ren (hic) [0, 1] 10 rfl rfl rfl rfl)) ?_ | refine ex_callM (CallsM.moreL (CallsM.ren (hic) [0, 1] 10 rfl rfl rfl rfl)) ?_
          repeat' (first | refine ex_true (by first | decide | omega | assumption | (with_reducible exact rfl)) ?_ | refine ex_false (by first | decide | omega | assumption | exact (fun h => h rfl)) ?_ | refine ex_dec (fun _ => ?_) (fun _ => ?_) | refine ex_u8 _ rfl (by omega) (by omega) ?_ | refine ex_i64 _ rfl (by omega) (by omega) ?_ | refine ex_u64 _ rfl (by omega) (by omega) ?_ | refine and_mk (by first | omega | (with_reducible rfl) | (show drawOk _ _ _ = true; kernel_rfl)) ?_ | refine and_mk ⟨_, rfl⟩ ?_ | refine ex_is _ (List.length_map _) ?_ | refine ex_is _ List.length_nil ?_ | fail "no step")
          first | refine ex_callM (CallsM.ren (hir) [0, 1] 10 rfl rfl rfl rfl) ?_ | refine ex_callM (CallsM.more0 (CallsM.ren (hir) [0, 1] 10 rfl rfl rfl rfl)) ?_ | refine ex_callM (CallsM.more1 (CallsM.ren (hir) [0, 1] 10 rfl rfl rfl rfl)) ?_ | refine ex_callM (CallsM.moreL (CallsM.ren (hir) [0, 1] 10 rfl rfl rfl rfl)) ?_
          repeat' (first | refine ex_true (by first | decide | omega | assumption | (with_reducible exact rfl)) ?_ | refine ex_false (by first | decide | omega | assumption | exact (fun h => h rfl)) ?_ | refine ex_dec (fun _ => ?_) (fun _ => ?_) | refine ex_u8 _ rfl (by omega) (by omega) ?_ | refine ex_i64 _ rfl (by omega) (by omega) ?_ | refine ex_u64 _ rfl (by omega) (by omega) ?_ | refine and_mk (by first | omega | (with_reducible rfl) | (show drawOk _ _ _ = true; kernel_rfl)) ?_ | refine and_mk ⟨_, rfl⟩ ?_ | refine ex_is _ (List.length_map _) ?_ | refine ex_is _ List.length_nil ?_ | fail "no step")
          first | refine ex_callM (CallsM.ren (ha) [0, 1] 10 rfl rfl rfl rfl) ?_ | refine ex_callM (CallsM.more0 (CallsM.ren (ha) [0, 1] 10 rfl rfl rfl rfl)) ?_ | refine ex_callM (CallsM.more1 (CallsM.ren (ha) [0, 1] 10 rfl rfl rfl rfl)) ?_ | refine ex_callM (CallsM.moreL (CallsM.ren (ha) [0, 1] 10 rfl rfl rfl rfl)) ?_
          repeat' (first | refine ex_true (by first | decide | omega | assumption | (with_reducible exact rfl)) ?_ | refine ex_false (by first | decide | omega | assumption | exact (fun h => h rfl)) ?_ | refine ex_dec (fun _ => ?_) (fun _ => ?_) | refine ex_u8 _ rfl (by omega) (by omega) ?_ | refine ex_i64 _ rfl (by omega) (by omega) ?_ | refine ex_u64 _ rfl (by omega) (by omega) ?_ | refine and_mk (by first | omega | (with_reducible rfl) | (show drawOk _ _ _ = true; kernel_rfl)) ?_ | refine and_mk ⟨_, rfl⟩ ?_ | refine ex_is _ (List.length_map _) ?_ | refine ex_is _ List.length_nil ?_ | fail "no step")
          first | refine ex_callM (CallsM.ren ((fail_c (m := m) i 4 hi)) [0, 1] 10 rfl rfl rfl rfl) ?_ | refine ex_callM (CallsM.more0 (CallsM.ren ((fail_c (m := m) i 4 hi)) [0, 1] 10 rfl rfl rfl rfl)) ?_ | refine ex_callM (CallsM.more1 (CallsM.ren ((fail_c (m := m) i 4 hi)) [0, 1] 10 rfl rfl rfl rfl)) ?_ | refine ex_callM (CallsM.moreL (CallsM.ren ((fail_c (m := m) i 4 hi)) [0, 1] 10 rfl rfl rfl rfl)) ?_
          exact ⟨⟨_, rfl, rfl⟩, rfl, rfl⟩
      · replace hT := aty hT hv2
        first | refine ex_callM (CallsM.ren (hic) [0, 1] 10 rfl rfl rfl rfl) ?_ | refine ex_callM (CallsM.more0 (CallsM.ren (hic) [0, 1] 10 rfl rfl rfl rfl)) ?_ | refine ex_callM (CallsM.more1 (CallsM.ren (hic) [0, 1] 10 rfl rfl rfl rfl)) ?_ | refine ex_callM (CallsM.moreL (CallsM.ren (hic) [0, 1] 10 rfl rfl rfl rfl)) ?_
        repeat' (first | refine ex_true (by first | decide | omega | assumption | (with_reducible exact rfl)) ?_ | refine ex_false (by first | decide | omega | assumption | exact (fun h => h rfl)) ?_ | refine ex_dec (fun _ => ?_) (fun _ => ?_) | refine ex_u8 _ rfl (by omega) (by omega) ?_ | refine ex_i64 _ rfl (by omega) (by omega) ?_ | refine ex_u64 _ rfl (by omega) (by omega) ?_ | refine and_mk (by first | omega | (with_reducible rfl) | (show drawOk _ _ _ = true; kernel_rfl)) ?_ | refine and_mk ⟨_, rfl⟩ ?_ | refine ex_is _ (List.length_map _) ?_ | refine ex_is _ List.length_nil ?_ | fail "no step")
        first | refine ex_callM (CallsM.ren (hir) [0, 1] 10 rfl rfl rfl rfl) ?_ | refine ex_callM (CallsM.more0 (CallsM.ren (hir) [0, 1] 10 rfl rfl rfl rfl)) ?_ | refine ex_callM (CallsM.more1 (CallsM.ren (hir) [0, 1] 10 rfl rfl rfl rfl)) ?_ | refine ex_callM (CallsM.moreL (CallsM.ren (hir) [0, 1] 10 rfl rfl rfl rfl)) ?_
        repeat' (first | refine ex_is rs.length (by simp) ?_ | refine ex_true (by first | decide | omega | assumption | (with_reducible exact rfl)) ?_ | refine ex_false (by first | decide | omega | assumption | exact (fun h => h rfl)) ?_ | refine ex_dec (fun _ => ?_) (fun _ => ?_) | refine ex_u8 _ rfl (by omega) (by omega) ?_ | refine ex_i64 _ rfl (by omega) (by omega) ?_ | refine ex_u64 _ rfl (by omega) (by omega) ?_ | refine and_mk (by first | omega | (with_reducible rfl) | (show drawOk _ _ _ = true; kernel_rfl)) ?_ | refine and_mk ⟨_, rfl⟩ ?_ | refine ex_is _ (List.length_map _) ?_ | refine ex_is _ List.length_nil ?_ | fail "no step")
        have hcon := room_c (m := m) ⟨i, xs, ts⟩ hi rs.length (by omega)
        rcases hr : (roomM rs.length) ⟨i, xs, ts⟩ with ⟨_, s9⟩ | ⟨i9, e9⟩
        rotate_left
        · obtain rfl := (and_err hr).symm.trans hT
          first | refine ex_callM (CallsM.ren (hcon.err hr) [0, 1] 10 rfl rfl rfl rfl) ?_ | refine ex_callM (CallsM.more0 (CallsM.ren (hcon.err hr) [0, 1] 10 rfl rfl rfl rfl)) ?_ | refine ex_callM (CallsM.more1 (CallsM.ren (hcon.err hr) [0, 1] 10 rfl rfl rfl rfl)) ?_ | refine ex_callM (CallsM.moreL (CallsM.ren (hcon.err hr) [0, 1] 10 rfl rfl rfl rfl)) ?_
          first | exact ⟨⟨_, rfl, rfl⟩, rfl, rfl⟩ | exact ⟨by kernel_rfl, ⟨_, rfl, rfl⟩, rfl, rfl⟩
        replace hT := (and_ok hr).symm.trans hT
        first | refine ex_callM (CallsM.ren (hcon.ok hr) [0, 1] 10 rfl rfl rfl rfl) ?_ | refine ex_callM (CallsM.more0 (CallsM.ren (hcon.ok hr) [0, 1] 10 rfl rfl rfl rfl)) ?_ | refine ex_callM (CallsM.more1 (CallsM.ren (hcon.ok hr) [0, 1] 10 rfl rfl rfl rfl)) ?_ | refine ex_callM (CallsM.moreL (CallsM.ren (hcon.ok hr) [0, 1] 10 rfl rfl rfl rfl)) ?_
        clear hcon
        obtain rfl := mv_room1 hr
        repeat' (first | refine ex_true (by first | decide | omega | assumption | (with_reducible exact rfl)) ?_ | refine ex_false (by first | decide | omega | assumption | exact (fun h => h rfl)) ?_ | refine ex_dec (fun _ => ?_) (fun _ => ?_) | refine ex_u8 _ rfl (by omega) (by omega) ?_ | refine ex_i64 _ rfl (by omega) (by omega) ?_ | refine ex_u64 _ rfl (by omega) (by omega) ?_ | refine and_mk (by first | omega | (with_reducible rfl) | (show drawOk _ _ _ = true; kernel_rfl)) ?_ | refine and_mk ⟨_, rfl⟩ ?_ | refine ex_is _ (List.length_map _) ?_ | refine ex_is _ List.length_nil ?_ | fail "no step")
        have hcon := record_c (m := m) hL hn hm ⟨i, xs, ts⟩ hs
        rcases hx : recordM L ⟨i, xs, ts⟩ with ⟨r, ⟨i2, xs2, ts2⟩⟩ | ⟨i9, e9⟩
        · replace hT := (and_ok hx).symm.trans hT
          have hs2 := (Up.ok (up_record hL) hs hx).1
          have hgo : i < i2 := mo_record _ _ _ hx
          refine ex_callM (CallsM.moreW (CallsM.ren (hcon.ok hx) [0, 1, 6, 7, 8, 9] 10 rfl rfl rfl rfl)) ?_
          repeat' (first | refine ex_true (by first | decide | omega | assumption | (with_reducible exact rfl)) ?_ | refine ex_false (by first | decide | omega | assumption | exact (fun h => h rfl)) ?_ | refine ex_dec (fun _ => ?_) (fun _ => ?_) | refine ex_u8 _ rfl (by omega) (by omega) ?_ | refine ex_i64 _ rfl (by omega) (by omega) ?_ | refine ex_u64 _ rfl (by omega) (by omega) ?_ | refine and_mk (by first | omega | (with_reducible rfl) | (show drawOk _ _ _ = true; kernel_rfl)) ?_ | refine and_mk ⟨_, rfl⟩ ?_ | refine ex_is _ (List.length_map _) ?_ | refine ex_is _ List.length_nil ?_ | fail "no step")
          refine ex_app (rs.length) (1) 1000 (by first | rfl | (simp; done) | (simp; omega)) (by first | rfl | (simp; done) | (simp; omega)) rfl (by omega) ?_
          refine ex_is (List.map rcD (rs ++ [r])) (by rw [List.map_append]; rfl) ?_
          repeat' (first | refine ex_true (by first | decide | omega | assumption | (with_reducible exact rfl)) ?_ | refine ex_false (by first | decide | omega | assumption | exact (fun h => h rfl)) ?_ | refine ex_dec (fun _ => ?_) (fun _ => ?_) | refine ex_u8 _ rfl (by omega) (by omega) ?_ | refine ex_i64 _ rfl (by omega) (by omega) ?_ | refine ex_u64 _ rfl (by omega) (by omega) ?_ | refine and_mk (by first | omega | (with_reducible rfl) | (show drawOk _ _ _ = true; kernel_rfl)) ?_ | refine and_mk ⟨_, rfl⟩ ?_ | refine ex_is _ (List.length_map _) ?_ | refine ex_is _ List.length_nil ?_ | fail "no step")
          exact ex_round (i2, xs2, ts2, cs, rs ++ [r], n) ⟨hs2, by omega, by omega, by simp <;> omega, hT⟩ (by show L.length - i2 < L.length - i; omega) (SLe.ren [(0, 0), (1, 1), (2, 2), (3, 3), (4, 4), (5, 5), (6, 6), (13, 7), (10, 8), (11, 9)] ⟨⟨rfl, rfl⟩, trivial⟩ ⟨⟨rfl, rfl⟩, ⟨rfl, rfl⟩, ⟨rfl, rfl⟩, ⟨rfl, rfl⟩, ⟨rfl, rfl⟩, ⟨rfl, rfl⟩, ⟨rfl, rfl⟩, ⟨rfl, rfl⟩, ⟨rfl, rfl⟩, ⟨rfl, rfl⟩, trivial⟩ rfl)
        · obtain rfl := (and_err hx).symm.trans hT
          exact ex_pan ((true = true) ∧ panIs (.pan (flt L i9 e9)) (panE (flt L i9 e9)) ∧ (PR.uW L m (.err i9 e9)) = deadM [0, 1, 2, 3, 4, 5] ∧ ([] : List Blk) = []) (CallsM.moreW (CallsM.ren (hcon.err hx) [0, 1, 6, 7, 8, 9] 10 rfl rfl rfl rfl)) (by kernel_rfl) ⟨rfl, ⟨_, rfl, rfl⟩, rfl, rfl⟩
    · replace hT := aty hT hv
      first | refine ex_callM (CallsM.ren (hic) [0, 1] 10 rfl rfl rfl rfl) ?_ | refine ex_callM (CallsM.more0 (CallsM.ren (hic) [0, 1] 10 rfl rfl rfl rfl)) ?_ | refine ex_callM (CallsM.more1 (CallsM.ren (hic) [0, 1] 10 rfl rfl rfl rfl)) ?_ | refine ex_callM (CallsM.moreL (CallsM.ren (hic) [0, 1] 10 rfl rfl rfl rfl)) ?_
      repeat' (first | refine ex_is cs.length (by simp) ?_ | refine ex_true (by first | decide | omega | assumption | (with_reducible exact rfl)) ?_ | refine ex_false (by first | decide | omega | assumption | exact (fun h => h rfl)) ?_ | refine ex_dec (fun _ => ?_) (fun _ => ?_) | refine ex_u8 _ rfl (by omega) (by omega) ?_ | refine ex_i64 _ rfl (by omega) (by omega) ?_ | refine ex_u64 _ rfl (by omega) (by omega) ?_ | refine and_mk (by first | omega | (with_reducible rfl) | (show drawOk _ _ _ = true; kernel_rfl)) ?_ | refine and_mk ⟨_, rfl⟩ ?_ | refine ex_is _ (List.length_map _) ?_ | refine ex_is _ List.length_nil ?_ | fail "no step")
      have hcon := room_c (m := m) ⟨i, xs, ts⟩ hi cs.length (by omega)
      rcases hr : (roomM cs.length) ⟨i, xs, ts⟩ with ⟨_, s9⟩ | ⟨i9, e9⟩
      rotate_left
      · obtain rfl := (and_err hr).symm.trans hT
        first | refine ex_callM (CallsM.ren (hcon.err hr) [0, 1] 10 rfl rfl rfl rfl) ?_ | refine ex_callM (CallsM.more0 (CallsM.ren (hcon.err hr) [0, 1] 10 rfl rfl rfl rfl)) ?_ | refine ex_callM (CallsM.more1 (CallsM.ren (hcon.err hr) [0, 1] 10 rfl rfl rfl rfl)) ?_ | refine ex_callM (CallsM.moreL (CallsM.ren (hcon.err hr) [0, 1] 10 rfl rfl rfl rfl)) ?_
        first | exact ⟨⟨_, rfl, rfl⟩, rfl, rfl⟩ | exact ⟨by kernel_rfl, ⟨_, rfl, rfl⟩, rfl, rfl⟩
      replace hT := (and_ok hr).symm.trans hT
      first | refine ex_callM (CallsM.ren (hcon.ok hr) [0, 1] 10 rfl rfl rfl rfl) ?_ | refine ex_callM (CallsM.more0 (CallsM.ren (hcon.ok hr) [0, 1] 10 rfl rfl rfl rfl)) ?_ | refine ex_callM (CallsM.more1 (CallsM.ren (hcon.ok hr) [0, 1] 10 rfl rfl rfl rfl)) ?_ | refine ex_callM (CallsM.moreL (CallsM.ren (hcon.ok hr) [0, 1] 10 rfl rfl rfl rfl)) ?_
      clear hcon
      obtain rfl := mv_room1 hr
      repeat' (first | refine ex_true (by first | decide | omega | assumption | (with_reducible exact rfl)) ?_ | refine ex_false (by first | decide | omega | assumption | exact (fun h => h rfl)) ?_ | refine ex_dec (fun _ => ?_) (fun _ => ?_) | refine ex_u8 _ rfl (by omega) (by omega) ?_ | refine ex_i64 _ rfl (by omega) (by omega) ?_ | refine ex_u64 _ rfl (by omega) (by omega) ?_ | refine and_mk (by first | omega | (with_reducible rfl) | (show drawOk _ _ _ = true; kernel_rfl)) ?_ | refine and_mk ⟨_, rfl⟩ ?_ | refine ex_is _ (List.length_map _) ?_ | refine ex_is _ List.length_nil ?_ | fail "no step")
      have hcon := const_c (m := m) hL hn ⟨i, xs, ts⟩ hs
      rcases hx : constM L ⟨i, xs, ts⟩ with ⟨c, ⟨i2, xs2, ts2⟩⟩ | ⟨i9, e9⟩
      rotate_left
      · obtain rfl := (and_err hx).symm.trans hT
        exact ex_pan ((true = true) ∧ panIs (.pan (flt L i9 e9)) (panE (flt L i9 e9)) ∧ (PR.uW L m (.err i9 e9)) = deadM [0, 1, 2, 3, 4, 5] ∧ ([] : List Blk) = []) (CallsM.more0 (CallsM.ren (hcon.err hx) [0, 1] 10 rfl rfl rfl rfl)) (by kernel_rfl) ⟨rfl, ⟨_, rfl, rfl⟩, rfl, rfl⟩
      replace hT := (and_ok hx).symm.trans hT
      refine ex_callM (CallsM.more0 (CallsM.ren (hcon.ok hx) [0, 1] 10 rfl rfl rfl rfl)) ?_
      have hs2 := (Up.ok (up_const hL) hs hx).1
      obtain ⟨rfl, rfl⟩ := mv_const hx
      have hgo : i < i2 := mo_const _ _ _ hx
      repeat' (first | refine ex_true (by first | decide | omega | assumption | (with_reducible exact rfl)) ?_ | refine ex_false (by first | decide | omega | assumption | exact (fun h => h rfl)) ?_ | refine ex_dec (fun _ => ?_) (fun _ => ?_) | refine ex_u8 _ rfl (by omega) (by omega) ?_ | refine ex_i64 _ rfl (by omega) (by omega) ?_ | refine ex_u64 _ rfl (by omega) (by omega) ?_ | refine and_mk (by first | omega | (with_reducible rfl) | (show drawOk _ _ _ = true; kernel_rfl)) ?_ | refine and_mk ⟨_, rfl⟩ ?_ | refine ex_is _ (List.length_map _) ?_ | refine ex_is _ List.length_nil ?_ | fail "no step")
      refine ex_app (cs.length) (1) 1000 (by first | rfl | (simp; done) | (simp; omega)) (by first | rfl | (simp; done) | (simp; omega)) rfl (by omega) ?_
      refine ex_is (List.map coD (cs ++ [c])) (by rw [List.map_append]; rfl) ?_
      repeat' (first | refine ex_true (by first | decide | omega | assumption | (with_reducible exact rfl)) ?_ | refine ex_false (by first | decide | omega | assumption | exact (fun h => h rfl)) ?_ | refine ex_dec (fun _ => ?_) (fun _ => ?_) | refine ex_u8 _ rfl (by omega) (by omega) ?_ | refine ex_i64 _ rfl (by omega) (by omega) ?_ | refine ex_u64 _ rfl (by omega) (by omega) ?_ | refine and_mk (by first | omega | (with_reducible rfl) | (show drawOk _ _ _ = true; kernel_rfl)) ?_ | refine and_mk ⟨_, rfl⟩ ?_ | refine ex_is _ (List.length_map _) ?_ | refine ex_is _ List.length_nil ?_ | fail "no step")
      exact ex_round (i2, xs, ts, cs ++ [c], rs, n) ⟨hs2, by omega, by simp <;> omega, by omega, hT⟩ (by show L.length - i2 < L.length - i; omega) (SLe.ren [(0, 0), (1, 1), (2, 2), (3, 3), (4, 4), (5, 5), (11, 6), (7, 7), (8, 8), (9, 9)] ⟨⟨rfl, rfl⟩, trivial⟩ ⟨⟨rfl, rfl⟩, ⟨rfl, rfl⟩, ⟨rfl, rfl⟩, ⟨rfl, rfl⟩, ⟨rfl, rfl⟩, ⟨rfl, rfl⟩, ⟨rfl, rfl⟩, ⟨rfl, rfl⟩, ⟨rfl, rfl⟩, ⟨rfl, rfl⟩, trivial⟩ rfl)
end
end Go.Proofs.YtkbhmcdoedmffaaDoor

namespace Go.Proofs.YtkbhmcdoedmffaaDoor
set_option linter.unusedVariables false
set_option linter.unusedSimpArgs false
open Go.RowKit
set_option maxRecDepth 100000

/-! ### The tokens of a text -/
theorem lexN_len : ∀ (n : Nat) (r : List UInt8) (l c : Nat) (ts : List TokP), r.length < n → lexN n r l c = .ok ts → ts.length ≤ r.length + 1 := by
  intro n
  induction n with
  | zero => intro r l c ts h; omega
  | succ n ih =>
    intro r l c ts hlen h
    rw [lexN] at h
    rcases hs : stp r l c with _ | ⟨r', l', c'⟩ | ⟨k, t, v⟩ | e <;> rw [hs] at h <;> dsimp only at h
    · cases h; simp
    · have := stp_go hs
      have := ih r' l' c' ts (by omega) h
      omega
    · have ht := stp_tok hs
      obtain ⟨⟨X, rfl⟩, h2, h3, -⟩ := tokF_ok ht
      have h4 : 0 < t.length := List.length_pos_iff.2 h2
      rw [List.drop_left] at h
      rw [List.length_append] at hlen ⊢
      rcases hr : lexN n X l (c + t.length) with ts' | _
      · rw [hr] at h
        have h' : [⟨k, t, v, l, c⟩] ++ ts' = ts := by injection h
        have := ih X l (c + t.length) ts' (by omega) hr
        rw [← h']
        simp
        omega
      · rw [hr] at h; cases h
    · cases h
theorem lexV_ok {s : List UInt8} {L : List TokP} (h : lexV s = .ok L) : TokOk L ∧ L.length ≤ 100000 := by
  unfold lexV at h
  split at h
  · rename_i hs
    have hlen := lexN_len _ s 1 1 L (Nat.lt_succ_self _) h
    obtain ⟨us, l', c', rfl, _⟩ := lexF_good h
    refine ⟨⟨by simp, fun i hi => ?_⟩, by omega⟩
    simp only [List.length_append, List.length_cons, List.length_nil] at hi
    have : i = us.length := by omega
    unfold tk
    rw [this, List.getD_eq_getElem?_getD, List.getElem?_append_right (Nat.le_refl _)]
    simp
  · cases h
theorem stp_err {r : List UInt8} {l c e : Nat} (h : stp r l c = .err e) : tokF r = .err e := by
  unfold stp at h
  split at h
  · cases h
  · split at h
    · cases h
    · split at h
      · cases h
      · split at h
        · cases h
        · revert h
          unfold TR.stp
          split <;> intro h <;> cases h
          assumption
theorem lexN_err : ∀ (n : Nat) (r : List UInt8) (l c l' c' e : Nat), r.length < n → lexN n r l c = .err l' c' e → 4 ≤ e ∧ e ≤ 7 := by
  intro n
  induction n with
  | zero => intro r l c l' c' e h; omega
  | succ n ih =>
    intro r l c l' c' e hlen h
    rw [lexN] at h
    rcases hs : stp r l c with _ | ⟨r', l1, c1⟩ | ⟨k, t, v⟩ | e1 <;> rw [hs] at h <;> dsimp only at h
    · cases h
    · have := stp_go hs
      exact ih r' l1 c1 l' c' e (by omega) h
    · have ht := stp_tok hs
      obtain ⟨⟨X, rfl⟩, h2, h3, -⟩ := tokF_ok ht
      have h4 : 0 < t.length := List.length_pos_iff.2 h2
      rw [List.drop_left] at h
      rw [List.length_append] at hlen
      rcases hr : lexN n X l (c + t.length) with ts' | ⟨l2, c2, e2⟩
      · rw [hr] at h; cases h
      · rw [hr] at h
        cases h
        exact ih X l _ _ _ _ (by omega) hr
    · cases h
      exact tokF_err (stp_err hs)
theorem lexV_err {s : List UInt8} {l c e : Nat} (h : lexV s = .err l c e) : 4 ≤ e ∧ e ≤ 7 := by
  unfold lexV at h
  split at h
  · exact lexN_err _ s 1 1 l c e (Nat.lt_succ_self _) h
  · cases h; decide
/-- What Parse gives. -/
def fileD (cs : List CO) (rs : List RC) (xs : List EX) (ts : List TY) : List D := [.sl 2 (cs.map coD), .sl 3 (rs.map rcD), .sl 5 (xs.map exD), .sl 8 (ts.map tyD)]
abbrev dnp : D := .v (.pointer none)
def parT : FR → TV
  | .ok cs rs xs ts => .tup [.c (.eptr (fileD cs rs xs ts)), gD [di 0, di 0], c1 (di 0)]
  | .err l c e => .tup [c1 dnp, gD [di l, di c], c1 (di e)]
/-! ### The closure -/
theorem nil_eq (w : World) : (binOp BinOp.eql 20 .nilIface .nilIface).run Tryd.prog w = .ok (.bool true) w := by kernel_rfl
theorem iface_eq (t : TypeId) (v : Value) (w : World) : (binOp BinOp.eql 20 (.iface t v) .nilIface).run Tryd.prog w = .ok (.bool false) w := by rfl
theorem catch_idle (x y z : Value) (w : World) :
    CallsD Tryd.prog 9 #[x, y, z] .returning w fun e u' w' => e = .returned (.tuple #[]) ∧ u' = .returning ∧ w' = w := by
  refine callsD_of_wpS Tryd.func9 rfl fun c₀ cs hu => ?_
  apply wpS_seq
  apply wpS_region
  simp [wpOpsS, go_sem, recoverD, hu, Tryd.ntmps9, Exit.thenS]
  refine wpS_of_wp ?_
  refine wp_block ?_
  apply wp_seq
  apply wp_region
  simp [wpOps, go_sem, nil_eq, Exit.then]
  repeat apply Or.inl
  refine Go.wp_cond_true ?hc ?h
  · simp [Act.eval]
  apply wp_region
  simp [wpOps, go_sem, Exit.inBlock]
  repeat apply Or.inl
  cases c₀
  simp_all [bodyPostS, results, Tryd.results9, Exit.thenS]
theorem assert_ok (v : Value) (w : World) : (Instr.typeAssert (.iface 57 v) 20 57 true).run Tryd.prog w = .ok (.tuple #[v, .bool true]) w := by
  simp [Instr.typeAssert, run_underlying, Tryd.underlying57]
abbrev pv (l c e : Nat) (r : Bool) : List PanicEntry := [{ v := fltV l c e, recovered := r }]
def hitM (f0 d1 d2 e0 : D) : List (Nat × Blk) := [(0, .obj [.d f0] 22), (1, .obj [.d d1, .d d2]), (2, .obj [.d e0])]
theorem catch_hit (l c e : Nat) (f0 d1 d2 e0 : D) {ι : Nat → Value} {S : Nat → Prop} {w : World} (hS : ∀ b, S b → b < w.heap.size) (hG : ΓL.G S w) (hblk : ∀ p ∈ hitM f0 d1 d2 e0, BlkOk ι S w p.1 p.2)
    (hdst : ∀ p ∈ hitM f0 d1 d2 e0, ∀ q ∈ hitM f0 d1 d2 e0, ∀ g, p.2.live = true → q.2.live = true → blkOf (ι p.1) = some g → blkOf (ι q.1) = some g → p.1 = q.1) :
    CallsD Tryd.prog 9 #[ι 0, ι 1, ι 2] (.panicking (pv l c e false)) w fun e' u' w' => e' = .returned (.tuple #[]) ∧ u' = .panicking (pv l c e true) ∧ ∃ ι' S', After ι S w 3 ⟨.und, [0, 1, 2], hitM dnp (di l) (di c) (di e), []⟩ undef ι' S' w' := by
  have hp : ∀ k, k < 3 → ∃ b, ι k = .pointer (some ⟨b, 0, none⟩) := fun k hk => by
    match k, hk with
    | 0, _ => obtain ⟨b, arr, ty, h1, _⟩ := hblk _ (List.mem_cons_self ..); exact ⟨b, h1⟩
    | 1, _ => obtain ⟨b, arr, ty, h1, _⟩ := hblk _ (List.mem_cons_of_mem _ (List.mem_cons_self ..)); exact ⟨b, h1⟩
    | 2, _ => obtain ⟨b, arr, ty, h1, _⟩ := hblk _ (List.mem_cons_of_mem _ (List.mem_cons_of_mem _ (List.mem_cons_self ..))); exact ⟨b, h1⟩
  obtain ⟨b0, hb0⟩ := hp 0 (by omega)
  obtain ⟨b1, hb1⟩ := hp 1 (by omega)
  obtain ⟨b2, hb2⟩ := hp 2 (by omega)
  refine callsD_of_wpS Tryd.func9 rfl fun c₀ cs hu => ?_
  apply wpS_seq
  apply wpS_region
  simp [wpOpsS, go_sem, recoverD, hu, Tryd.ntmps9, Exit.thenS]
  refine wpS_of_wp ?_
  refine wp_block ?_
  apply wp_seq
  apply wp_region
  simp [wpOps, go_sem, iface_eq, Exit.then]
  apply Or.inl
  refine Go.wp_cond_false ?hc ?h
  · simp [Act.eval]
  apply wp_seq
  apply wp_region
  simp [wpOps, go_sem, assert_ok, Exit.then]
  iterate 3 apply Or.inl
  refine Go.wp_cond_true ?hc2 ?h2
  · simp [Act.eval]
  refine Code.wp_mono (fun e1 a1 w1 h => ?_) (code_after (C := ⟨Tryd.prog, layF, Tryd.f9.ntmps, ΓL, 3, [], []⟩) (tm := [(0, .o (.c (.ptr 0 0))), (1, .o (.c (.ptr 1 0))), (2, .o (.c (.ptr 2 0))), (11, .o (gD [di l, di c, di e]))]) (m := hitM f0 d1 d2 e0) (upd := hitM dnp (di l) (di c) (di e)) (new := []) layF_ok mixed rfl ?hvc hS hG hblk hdst ?htm (by simp [Tryd.ntmps9]) rfl)
  case hvc =>
    repeat' (first | refine ex_true (by first | decide | omega | assumption | (with_reducible exact rfl)) ?_ | refine ex_false (by first | decide | omega | assumption | exact (fun h => h rfl)) ?_ | refine ex_dec (fun _ => ?_) (fun _ => ?_) | refine ex_u8 _ rfl (by omega) (by omega) ?_ | refine ex_i64 _ rfl (by omega) (by omega) ?_ | refine ex_u64 _ rfl (by omega) (by omega) ?_ | refine and_mk (by first | omega | (with_reducible rfl) | (show drawOk _ _ _ = true; kernel_rfl)) ?_ | refine and_mk ⟨_, rfl⟩ ?_ | refine ex_is _ (List.length_map _) ?_ | refine ex_is _ List.length_nil ?_ | fail "no step")
    exact ⟨rfl, rfl, rfl⟩
  case htm =>
    intro t tv ht
    simp only [findL] at ht
    split at ht
    · rename_i h; subst h; cases ht
      exact ⟨b0, hb0, by simp [hb0]⟩
    · split at ht
      · rename_i h; subst h; cases ht
        exact ⟨b1, hb1, by simp [hb1]⟩
      · split at ht
        · rename_i h; subst h; cases ht
          exact ⟨b2, hb2, by simp [hb2]⟩
        · split at ht
          · rename_i h; subst h; cases ht
            exact ⟨[.int .i64 l, .int .i64 c, .int .i64 e], by simp, .cons (Imm.v rfl) (.cons (Imm.v rfl) (.cons (Imm.v rfl) .nil))⟩
          · cases ht
  obtain ⟨rfl, h1, ι', S', A⟩ := h
  simp only [Exit.inBlock, bodyPostS]
  exact ⟨h1, .panicking (pv l c e true), rfl, .tuple #[], by simp [results, Tryd.results9], rfl, rfl, ι', S', A⟩
end Go.Proofs.YtkbhmcdoedmffaaDoor

namespace Go.Proofs.YtkbhmcdoedmffaaDoor
set_option linter.unusedVariables false
set_option linter.unusedSimpArgs false
open Go.RowKit
set_option maxRecDepth 100000

def HitP (v : Value) (st : St) (upd : List (Nat × Blk)) : Prop := ∃ (l c e : Nat) (f0 d1 d2 e0 : D), v = fltV l c e ∧ upd = hitM dnp (di l) (di c) (di e) ∧
  findL st.mem 0 = some (.obj [.d f0] 22) ∧ findL st.mem 1 = some (.obj [.d d1, .d d2]) ∧ findL st.mem 2 = some (.obj [.d e0])
theorem hitP_ok (v : Value) (st : St) (upd : List (Nat × Blk)) (h : HitP v st upd) (ι : Nat → Value) (S : Nat → Prop) (w : World) (hS : ∀ b, S b → b < w.heap.size) (hG : ΓL.G S w) (hblk : ∀ k b, findL st.mem k = some b → BlkOk ι S w k b)
    (hdst : ∀ k k' b b' g, findL st.mem k = some b → findL st.mem k' = some b' → b.live = true → b'.live = true → blkOf (ι k) = some g → blkOf (ι k') = some g → k = k') :
    CallsD Tryd.prog 9 ([0, 1, 2].map ι).toArray (.panicking (panE v)) w fun e' u' w' => e' = .returned (.tuple #[]) ∧ u' = .panicking [{ v, recovered := true }] ∧ ∃ ι' S', After ι S w st.nx ⟨.und, [], upd, []⟩ undef ι' S' w' := by
  obtain ⟨l, c, e, f0, d1, d2, e0, rfl, rfl, h0, h1, h2⟩ := h
  have hf : ∀ p ∈ hitM f0 d1 d2 e0, findL st.mem p.1 = some p.2 := fun p hp => by
    simp only [hitM, List.mem_cons, List.not_mem_nil, or_false] at hp
    rcases hp with rfl | rfl | rfl
    · exact h0
    · exact h1
    · exact h2
  refine (catch_hit l c e f0 d1 d2 e0 hS hG (fun p hp => hblk _ _ (hf p hp)) (fun p hp q hq g => hdst _ _ _ _ g (hf p hp) (hf q hq))).mono ?_
  rintro e' u' w' ⟨he, hu, ι', S', A⟩
  refine ⟨he, hu, ι', S', ⟨A.val, fun k _ => A.keep k (by show k < 3 ∨ 3 + 0 ≤ k; omega), A.smono, A.sgrow, A.slt, A.os, A.tape, A.output, A.size, A.heap, A.updok, fun i b hb => by simp at hb, fun i b hb => by simp at hb, fun i j b b' g hb => by simp at hb⟩⟩
def fileS (s : List UInt8) : FR := fileV (lexV s)
theorem Parse_c (s : List UInt8) : CallsA Tryd.prog ΓL 5 [c1 (ds (bs s))] (parT (fileS s)) := by
  have hlx := lex_c s
  obtain ⟨R, hR⟩ : ∃ R, fileS s = R := ⟨_, rfl⟩
  rw [hR]
  refine fn_ruleE (C := ⟨Tryd.prog, layF, Tryd.f5.ntmps, ΓL, 0, [5], []⟩) (g := 9) (t9 := 17) (nx2 := 3) (caps := [2, 3, 4]) (capN := [0, 1, 2]) layF_ok mixed Tryd.func5 rfl (by kernel_rfl) rfl rfl rfl HitP ?hdef ?henter ?hidle rfl hitP_ok ?h
  case hdef =>
    intro a w Q hsz h
    have h9 : 17 < a.tmps.size := by rw [hsz]; decide
    apply wp_region
    simp [wpOps, go_sem, h9]
    refine .inl (.inl ?_)
    simpa [Oper.upon, Act.put] using h (.func (.func 9) #[] #[a.tmps[2]?.getD undef, a.tmps[3]?.getD undef, a.tmps[4]?.getD undef])
  case henter =>
    intro vs w
    kernel_rfl
  case hidle =>
    intro vs w hl
    match vs, hl with
    | [x, y, z], _ => exact catch_idle x y z w
  case h =>
    rcases hl : lexV s with L | ⟨l, c, e⟩
    · rw [hl] at hlx
      have hlx : CallsA Tryd.prog ΓL 8 [c1 (ds (bs s))] (.tup [c1 (.sl 5 (L.map tokD)), gD [di 0, di 0], c1 (di 0)]) := hlx
      obtain ⟨hL, hn⟩ := lexV_ok hl
      repeat' (first | refine ex_call hlx ?_ | refine ex_true (by first | decide | omega | assumption | (with_reducible exact rfl)) ?_ | refine ex_false (by first | decide | omega | assumption | exact (fun h => h rfl)) ?_ | refine ex_dec (fun _ => ?_) (fun _ => ?_) | refine ex_u8 _ rfl (by omega) (by omega) ?_ | refine ex_i64 _ rfl (by omega) (by omega) ?_ | refine ex_u64 _ rfl (by omega) (by omega) ?_ | refine and_mk (by first | omega | (with_reducible rfl) | (show drawOk _ _ _ = true; kernel_rfl)) ?_ | refine and_mk ⟨_, rfl⟩ ?_ | refine ex_is _ (List.length_map _) ?_ | refine ex_is _ List.length_nil ?_ | fail "no step")
      refine ⟨⟨rfl, rfl, rfl, trivial⟩, rfl, ?_⟩
      refine ex_join (X := Unit) (fun _ => ⟨[(2, .o (.c (.ptr 0 0))), (3, .o (.c (.ptr 1 0))), (4, .o (.c (.ptr 2 0))), (6, .o (.c (.ptr 4 0)))], [(0, .obj [.d dnp] 22), (1, .obj [.d (di 0), .d (di 0)]), (2, .obj [.d (di 0)]), (4, .obj [.d (.sl 5 (L.map tokD)), .d (di ((0 : Nat) : Int)), .d (di (32 - ((32 : Nat) : Int))), .ptr 3 0]), (3, Fz 5 6 7 8), (5, Cz []), (6, Uz []), (7, Xz []), (8, Tz [])], 9⟩) (fun _ => True) ?_ ?_
      · repeat' (first | refine ex_true (by first | decide | omega | assumption | (with_reducible exact rfl)) ?_ | refine ex_false (by first | decide | omega | assumption | exact (fun h => h rfl)) ?_ | refine ex_dec (fun _ => ?_) (fun _ => ?_) | refine ex_u8 _ rfl (by omega) (by omega) ?_ | refine ex_i64 _ rfl (by omega) (by omega) ?_ | refine ex_u64 _ rfl (by omega) (by omega) ?_ | refine and_mk (by first | omega | (with_reducible rfl) | (show drawOk _ _ _ = true; kernel_rfl)) ?_ | refine and_mk ⟨_, rfl⟩ ?_ | refine ex_is _ (List.length_map _) ?_ | refine ex_is _ List.length_nil ?_ | fail "no step")
        exact ex_meet () trivial (SLe.via (SLe.ownCell 3 0 5 2 37 rfl rfl rfl rfl rfl rfl) (SLe.via (SLe.ownCell 3 1 6 3 41 rfl rfl rfl rfl rfl rfl) (SLe.via (SLe.ownCell 3 2 7 5 50 rfl rfl rfl rfl rfl rfl) (SLe.via (SLe.ownCell 3 3 8 8 47 rfl rfl rfl rfl rfl rfl) (SLe.of ⟨⟨rfl, rfl, rfl, rfl, trivial⟩, ⟨rfl, rfl, rfl, rfl, rfl, rfl, rfl, rfl, rfl, trivial⟩⟩)))))
      · intro _ _
        have hlen := hL.1
        have hw := whole_c (m := 32) hL hn rfl 0 (L.length + 1) [] [] [] [] ⟨hlen, by simp, by simp⟩ (by omega) (by simp) (by simp) _ rfl
        rcases hT : wholeN L (L.length + 1) [] [] ⟨0, [], []⟩ with ⟨⟨cs, rs⟩, s1⟩ | ⟨i, e⟩
        · obtain rfl : FR.ok cs rs s1.xs s1.ts = R := by rw [← hR]; unfold fileS fileV; rw [hl]; dsimp only; rw [hT]
          rw [hT] at hw
          have hw : CallsM Tryd.prog ΓL 10 [(0, Qz L 32 0), (1, Fz 2 3 4 5), (2, Cz []), (3, Uz []), (4, Xz []), (5, Tz [])] 6 [P0] (.tup []) [(0, Qz L 32 s1.i), (1, Fz 6 7 8 9), (2, .dead), (3, .dead), (4, .dead), (5, .dead)] [Cz cs, Uz rs, Xz s1.xs, Tz s1.ts] := hw
          repeat' (first | refine ex_true (by first | decide | omega | assumption | (with_reducible exact rfl)) ?_ | refine ex_false (by first | decide | omega | assumption | exact (fun h => h rfl)) ?_ | refine ex_dec (fun _ => ?_) (fun _ => ?_) | refine ex_u8 _ rfl (by omega) (by omega) ?_ | refine ex_i64 _ rfl (by omega) (by omega) ?_ | refine ex_u64 _ rfl (by omega) (by omega) ?_ | refine and_mk (by first | omega | (with_reducible rfl) | (show drawOk _ _ _ = true; kernel_rfl)) ?_ | refine and_mk ⟨_, rfl⟩ ?_ | refine ex_is _ (List.length_map _) ?_ | refine ex_is _ List.length_nil ?_ | fail "no step")
          refine ex_callM (CallsM.ren hw [4, 3, 5, 6, 7, 8] 9 rfl rfl rfl rfl) ?_
          repeat' (first | refine ex_true (by first | decide | omega | assumption | (with_reducible exact rfl)) ?_ | refine ex_false (by first | decide | omega | assumption | exact (fun h => h rfl)) ?_ | refine ex_dec (fun _ => ?_) (fun _ => ?_) | refine ex_u8 _ rfl (by omega) (by omega) ?_ | refine ex_i64 _ rfl (by omega) (by omega) ?_ | refine ex_u64 _ rfl (by omega) (by omega) ?_ | refine and_mk (by first | omega | (with_reducible rfl) | (show drawOk _ _ _ = true; kernel_rfl)) ?_ | refine and_mk ⟨_, rfl⟩ ?_ | refine ex_is _ (List.length_map _) ?_ | refine ex_is _ List.length_nil ?_ | fail "no step")
          exact ⟨_, SLe.via (show SLe 3 ⟨[(2, .o (.c (.ptr 0 0))), (3, .o (.c (.ptr 1 0))), (4, .o (.c (.ptr 2 0)))], [(0, .obj [.ptr 3 0] 22), (1, .obj [.d (di 0), .d (di 0)]), (2, .obj [.d (di 0)]), (3, Fz 9 10 11 12), (9, Cz cs), (10, Uz rs), (11, Xz s1.xs), (12, Tz s1.ts)], 13⟩ _ from (SLe.of ⟨⟨rfl, rfl, rfl, trivial⟩, ⟨rfl, rfl, rfl, rfl, rfl, rfl, rfl, rfl, trivial⟩⟩))
            (SLe.via (SLe.still 9 2 37 (cs.map coD) rfl) (SLe.via (SLe.still 10 3 41 (rs.map rcD) rfl) (SLe.via (SLe.still 11 5 50 (s1.xs.map exD) rfl) (SLe.via (SLe.still 12 8 47 (s1.ts.map tyD) rfl)
              (SLe.via (sle_fixO 0 0 3 (dl := fileD cs rs s1.xs s1.ts) rfl rfl rfl rfl) (show SLe 3 ⟨[(2, .o (.c (.ptr 0 0))), (3, .o (.c (.ptr 1 0))), (4, .o (.c (.ptr 2 0)))], [(0, .obj [.eptr (fileD cs rs s1.xs s1.ts)] 22), (1, .obj [.d (di 0), .d (di 0)]), (2, .obj [.d (di 0)])], 13⟩ _ from (SLe.of ⟨⟨rfl, rfl, rfl, trivial⟩, ⟨rfl, rfl, rfl, trivial⟩⟩))))))), TLe.rfl, rfl⟩
        · obtain rfl : FR.err (tk L i).l (tk L i).c e = R := by rw [← hR]; unfold fileS fileV; rw [hl]; dsimp only; rw [hT]
          rw [hT] at hw
          have hw : CallsM Tryd.prog ΓL 10 [(0, Qz L 32 0), (1, Fz 2 3 4 5), (2, Cz []), (3, Uz []), (4, Xz []), (5, Tz [])] 6 [P0] (.pan (flt L i e)) [(0, .dead), (1, .dead), (2, .dead), (3, .dead), (4, .dead), (5, .dead)] [] := hw
          repeat' (first | refine ex_true (by first | decide | omega | assumption | (with_reducible exact rfl)) ?_ | refine ex_false (by first | decide | omega | assumption | exact (fun h => h rfl)) ?_ | refine ex_dec (fun _ => ?_) (fun _ => ?_) | refine ex_u8 _ rfl (by omega) (by omega) ?_ | refine ex_i64 _ rfl (by omega) (by omega) ?_ | refine ex_u64 _ rfl (by omega) (by omega) ?_ | refine and_mk (by first | omega | (with_reducible rfl) | (show drawOk _ _ _ = true; kernel_rfl)) ?_ | refine and_mk ⟨_, rfl⟩ ?_ | refine ex_is _ (List.length_map _) ?_ | refine ex_is _ List.length_nil ?_ | fail "no step")
          refine ex_callM (CallsM.ren hw [4, 3, 5, 6, 7, 8] 9 rfl rfl rfl rfl) ?_
          exact ⟨flt L i e, _, rfl, ⟨(tk L i).l, (tk L i).c, e, _, _, _, _, rfl, rfl, rfl, rfl, rfl⟩, rfl, rfl, _, fun _ _ _ _ h => h, TLe.rfl, rfl⟩
    · rw [hl] at hlx
      have he := lexV_err hl
      have hlx : CallsA Tryd.prog ΓL 8 [c1 (ds (bs s))] (.tup [c1 (.sl 5 []), gD [di l, di c], c1 (di e)]) := hlx
      obtain rfl : FR.err l c e = R := by rw [← hR]; unfold fileS; rw [hl]; rfl
      repeat' (first | refine ex_call hlx ?_ | refine ex_true (by first | decide | omega | assumption | (with_reducible exact rfl)) ?_ | refine ex_false (by first | decide | omega | assumption | exact (fun h => h rfl)) ?_ | refine ex_dec (fun _ => ?_) (fun _ => ?_) | refine ex_u8 _ rfl (by omega) (by omega) ?_ | refine ex_i64 _ rfl (by omega) (by omega) ?_ | refine ex_u64 _ rfl (by omega) (by omega) ?_ | refine and_mk (by first | omega | (with_reducible rfl) | (show drawOk _ _ _ = true; kernel_rfl)) ?_ | refine and_mk ⟨_, rfl⟩ ?_ | refine ex_is _ (List.length_map _) ?_ | refine ex_is _ List.length_nil ?_ | fail "no step")
      exact ⟨_, fun _ _ _ _ h => h, TLe.rfl, rfl⟩
end Go.Proofs.YtkbhmcdoedmffaaDoor

namespace Go.Proofs.YtkbhmcdoedmffaaDoor
set_option linter.unusedVariables false
set_option linter.unusedSimpArgs false
set_option maxRecDepth 100000
def opsL7 : List (List UInt8) := levelsL.map (·.1)
def xsL (a b : List UInt8) : List EX := if levelV a < levelV b then [⟨1, [], 0, [120], []⟩, ⟨1, [], 0, [121], []⟩, ⟨1, [], 0, [122], []⟩, ⟨3, b, 0, [], [1, 2]⟩, ⟨3, a, 0, [], [0, 3]⟩] else [⟨1, [], 0, [120], []⟩, ⟨1, [], 0, [121], []⟩, ⟨3, a, 0, [], [0, 1]⟩, ⟨1, [], 0, [122], []⟩, ⟨3, b, 0, [], [2, 3]⟩]
deriving instance DecidableEq for EX, CA, TY, SB, IT, RC, CO, FR
end Go.Proofs.YtkbhmcdoedmffaaDoor

namespace Go.Proofs.YtkbhmcdoedmffaaDoor
set_option linter.unusedVariables false
set_option linter.unusedSimpArgs false
open Go.RowKit
set_option maxRecDepth 100000

def wakeT : List UInt8 := [115, 116, 114, 117, 99, 116, 32, 83, 32, 123, 32, 110, 58, 32, 117, 56, 59, 32, 98, 58, 32, 98, 121, 116, 101, 115, 91, 110, 32, 43, 32, 49, 93, 59, 32, 125]
def wakeX : List EX := [⟨1, [], 0, [110], []⟩, ⟨0, [], 1, [], []⟩, ⟨3, [43], 0, [], [0, 1]⟩]
def wakeY : List TY := [⟨0, 1, false, [], [], -1, -1, []⟩, ⟨1, 0, false, [], [], 2, -1, []⟩]
def wakeR : List RC := [⟨[83], [], [⟨[110], 0, 0, [], [], -1, 0, false, []⟩, ⟨[98], 1, 0, [], [], -1, 0, false, []⟩]⟩]
theorem wake_file : fileS wakeT = .ok [] wakeR wakeX wakeY := by decide +kernel
/-- A pointer that isn't nil beside nil. -/
theorem ex_pn {g : Prop} {Q K : Bool → Prop} (hg : g) (c : Bool) (he : Q c) (h : K c) : g ∧ ∃ c, Q c ∧ K c := ⟨hg, c, he, h⟩
theorem wakes_c : CallsA Tryd.prog ΓL 6 [] (Tb true) := by
  have hp : CallsA Tryd.prog ΓL 5 [c1 (ds (bs wakeT))] (.tup [.c (.eptr (fileD [] wakeR wakeX wakeY)), gD [di 0, di 0], c1 (di 0)]) := by
    have := Parse_c wakeT
    rw [wake_file] at this
    exact this
  have hl := (level_c [43]).gL
  rw [show levelV [43] = 7 by decide +kernel] at hl
  have hk := (key_c [117, 56]).gL
  rw [show keyV [117, 56] = true by decide +kernel] at hk
  refine fn_rule (C := ⟨Tryd.prog, layF, Tryd.f6.ntmps, ΓL, 0, [], []⟩) layF_ok mixed Tryd.func6 rfl (by kernel_rfl) rfl rfl rfl ?_
  repeat' (first | refine ex_call hk ?_ | refine ex_call hl ?_ | refine ex_call hp ?_ | refine (ex_row (l := wakeR) 0 ⟨[83], [], [⟨[110], 0, 0, [], [], -1, 0, false, []⟩, ⟨[98], 1, 0, [], [], -1, 0, false, []⟩]⟩ rfl rfl) ?_ | refine (ex_row (l := wakeY) 1 ⟨1, 0, false, [], [], 2, -1, []⟩ rfl rfl) ?_ | refine (ex_row (l := wakeX) 2 ⟨3, [43], 0, [], [0, 1]⟩ rfl rfl) ?_ | refine (ex_pn (by kernel_rfl) false (fun _ _ => by kernel_rfl)) ?_ | refine ex_true (by first | decide | omega | assumption | (with_reducible exact rfl)) ?_ | refine ex_false (by first | decide | omega | assumption | exact (fun h => h rfl)) ?_ | refine ex_dec (fun _ => ?_) (fun _ => ?_) | refine ex_u8 _ rfl (by omega) (by omega) ?_ | refine ex_i64 _ rfl (by omega) (by omega) ?_ | refine ex_u64 _ rfl (by omega) (by omega) ?_ | refine and_mk (by first | omega | (with_reducible rfl) | (show drawOk _ _ _ = true; kernel_rfl)) ?_ | refine and_mk ⟨_, rfl⟩ ?_ | refine ex_is _ (List.length_map _) ?_ | refine ex_is _ List.length_nil ?_ | fail "no step")
  exact TLe.rfl
end Go.Proofs.YtkbhmcdoedmffaaDoor

namespace Go.Proofs.YtkbhmcdoedmffaaDoor
set_option linter.unusedVariables false
set_option linter.unusedSimpArgs false
set_option maxRecDepth 100000

theorem signs_nl : ∀ p ∈ signsL, p[1]? ≠ some 10 := by decide +kernel
theorem isPre_nl {p s Y : List UInt8} (hp : 0 < p.length) (hl : p.length ≤ 2) (h1 : p[1]? ≠ some 10) (hs : s ≠ []) (hY : Y[0]? = some 10) : p.isPrefixOf (s ++ Y) = p.isPrefixOf s := by
  rcases Y with _ | ⟨y, Y⟩
  · cases hY
  cases hY
  match p, s, hp, hl, hs with
  | [a], b :: s, _, _, _ => simp [List.isPrefixOf]
  | [a, a'], [b], _, _, _ => simp [List.isPrefixOf]; intro _ e; exact absurd (by rw [← e]; rfl) h1
  | [a, a'], b :: b' :: s, _, _, _ => simp [List.isPrefixOf]
theorem signF_nl {s Y : List UInt8} (hs : s ≠ []) (hY : Y[0]? = some 10) : signF (s ++ Y) = signF s :=
  find_congr fun p hp => isPre_nl (signs_len p hp).1 (signs_len p hp).2.1 (signs_nl p hp) hs hY
theorem tokF_nl {s Y : List UInt8} (hs : s ≠ []) (hY : Y[0]? = some 10) : tokF (s ++ Y) = tokF s := by
  unfold tokF
  rw [takeWhile_end (fun c hc => by rw [hY] at hc; cases hc; decide), signF_nl hs hY]
theorem isCom_nl {s : List UInt8} (hs : s ≠ []) (t : List UInt8) : isCom (s ++ 10 :: t) = isCom s := by
  match s, hs with
  | [b], _ => simp [isCom, List.isPrefixOf]
  | b :: b' :: s, _ => simp [isCom, List.isPrefixOf]
theorem lexF_nl (t : List UInt8) : ∀ (n : Nat) (s : List UInt8) (l c : Nat) (ts : List TokP), s.length < n → lexF s l c = .ok ts →
    ∃ us l' c', ts = us ++ [⟨3, [], 0, l', c'⟩] ∧ l' = l + s.count 10 ∧ lexF (s ++ 10 :: t) l c = (lexF t (l' + 1) 1).pre us := by
  intro n
  induction n with
  | zero => intro s l c ts h; omega
  | succ n ih =>
    intro s l c ts hlen h
    rcases s with _ | ⟨b, x⟩
    · rw [lexF_nil] at h
      cases h
      refine ⟨[], l, c, rfl, rfl, ?_⟩
      rw [List.nil_append, lexF_eq]
      show lexF t (l + 1) 1 = _
      cases lexF t (l + 1) 1 <;> rfl
    by_cases h10 : b = 10
    · subst h10
      rw [lexF_eq] at h
      obtain ⟨us, l', c', e1, e2, e3⟩ := ih x (l + 1) 1 ts (by simp at hlen; omega) h
      refine ⟨us, l', c', e1, by rw [e2, List.count_cons]; simp; omega, ?_⟩
      rw [List.cons_append, lexF_eq]
      exact e3
    by_cases hbl : b = 32 ∨ b = 9 ∨ b = 13
    · have hst : ∀ y, stp (b :: y) l c = .go y l (c + 1) := fun y => by unfold stp; dsimp only; rw [if_neg h10, if_pos hbl]
      rw [lexF_eq, hst] at h
      obtain ⟨us, l', c', e1, e2, e3⟩ := ih x l (c + 1) ts (by simp at hlen; omega) h
      refine ⟨us, l', c', e1, by rw [e2, List.count_cons]; simp [h10], ?_⟩
      rw [List.cons_append, lexF_eq, hst]
      exact e3
    have hnb : ∀ d, (b :: x)[0]? = some d → blank d = false := fun d hd => by
      cases hd
      rcases hh : blank b with _ | _
      · rfl
      · simp [blank, h10] at hh; rcases hh with hh | hh | hh <;> simp [hh] at hbl
    rcases hc : isCom (b :: x) with _ | _
    · rw [lexF_tok l c (by simp) hnb hc] at h
      rw [lexF_tok l c (by simp) (fun d hd => hnb d (by simpa using hd)) (by rw [isCom_nl (by simp)]; exact hc), tokF_nl (by simp) rfl]
      rcases ht : tokF (b :: x) with ⟨k, w, v⟩ | e
      · rw [ht] at h
        dsimp only at h ⊢
        obtain ⟨⟨X, hX⟩, hw, -, hw10⟩ := tokF_ok ht
        have hw0 : 0 < w.length := List.length_pos_iff.2 hw
        rw [hX, List.append_assoc, List.drop_left]
        rw [hX, List.drop_left] at h
        rcases hr : lexF X l (c + w.length) with ts' | _
        · rw [hr] at h
          have h' : [⟨k, w, v, l, c⟩] ++ ts' = ts := by injection h
          obtain ⟨us, l', c', e1, e2, e3⟩ := ih X l (c + w.length) ts' (by rw [hX, List.length_append] at hlen; omega) hr
          refine ⟨[⟨k, w, v, l, c⟩] ++ us, l', c', by rw [← h', e1, List.append_assoc], by rw [e2, List.count_append, List.count_eq_zero.2 hw10, Nat.zero_add], ?_⟩
          rw [e3, LR.pre_pre]
        · rw [hr] at h; cases h
      · rw [ht] at h; cases h
    · obtain ⟨Z, hZ⟩ := isCom_eq hc
      obtain ⟨X, hX, hX0⟩ := takeWhile_split notNl (b :: x)
      have hd : (b :: x).dropWhile notNl = X := by
        rw [dropWhile_eq]
        conv => lhs; rw [hX, List.takeWhile_append_of_pos (takeWhile_all _ _)]
        have : X.takeWhile notNl = [] := by
          rcases X with _ | ⟨d, X⟩
          · rfl
          · rw [List.takeWhile_cons, if_neg (by rw [hX0 d rfl]; decide)]
        rw [this, List.append_nil, List.drop_left]
      have htw := takeWhile_nl (b :: x)
      have hcY : isCom (b :: x ++ 10 :: t) = true := by rw [hZ]; rfl
      have hs2 : b :: x ++ 10 :: t = (b :: x).takeWhile notNl ++ (X ++ 10 :: t) := by
        rw [← List.append_assoc, ← hX]
      have ht2 : (b :: x ++ 10 :: t).takeWhile notNl = (b :: x).takeWhile notNl := by
        rw [hs2]
        refine takeWhile_app (takeWhile_all _ _) (fun d hd => ?_)
        rcases X with _ | ⟨d', X⟩
        · cases hd; decide
        · cases hd; exact hX0 _ rfl
      have hd2 : (b :: x ++ 10 :: t).dropWhile notNl = X ++ 10 :: t := by
        rw [dropWhile_eq, ht2, hs2, List.drop_left]
      rw [lexF_com (l, c) hc, hd, skip_line _ _ _ htw] at h
      rw [lexF_com (l, c) hcY, ht2, hd2, skip_line _ _ _ htw]
      obtain ⟨us, l', c', e1, e2, e3⟩ := ih X l _ ts (by
        have := congrArg List.length hX
        rw [List.length_append] at this
        have h2 : 0 < ((b :: x).takeWhile notNl).length := by
          rw [hZ, List.takeWhile_cons, if_pos (by decide)]
          simp
        omega) h
      refine ⟨us, l', c', e1, by rw [e2]; conv => rhs; rw [hX, List.count_append, List.count_eq_zero.2 htw, Nat.zero_add], e3⟩
end Go.Proofs.YtkbhmcdoedmffaaDoor

namespace Go.Proofs.YtkbhmcdoedmffaaDoor
set_option linter.unusedVariables false
set_option linter.unusedSimpArgs false
set_option maxRecDepth 100000

/-- The same token but for its place. -/
def TokP.same (u t : TokP) : Prop := u.k = t.k ∧ u.t = t.t ∧ u.n = t.n
/-! ### What only looks ahead of a place -/
theorem atY {α : Type} {p : Nat → Bool} {x y : PM α} {s : PS} (h : p s.i = true) : atM p x y s = x s := if_pos h
theorem atN {α : Type} {p : Nat → Bool} {x y : PM α} {s : PS} (h : p s.i = false) : atM p x y s = y s := if_neg (by rw [h]; decide)
theorem room_inv {α : Type} {n : Nat} {f : Unit → PM α} {s s' : PS} {v : α} (h : (roomM n >>= f) s = .ok v s') : n < 64 ∧ f () s = .ok v s' := by
  obtain ⟨u, s1, h1, h2⟩ := mo_inv h
  unfold roomM at h1
  split at h1
  · cases h1
  · cases h1; exact ⟨by omega, h2⟩
theorem room_lt {α : Type} {n : Nat} {f : Unit → PM α} {s : PS} (h : n < 64) : (roomM n >>= f) s = f () s := and_ok (by unfold roomM; rw [if_neg (by omega)])
structure Lc (K lo : Nat) {α : Type} (x x' : PM α) : Prop where
  mo : Mo x
  lc : ∀ s v s', lo ≤ s.i → x s = .ok v s' → s'.i < K → x' s = .ok v s'
structure LcE (K : Nat) {α : Type} (x x' : PM α) : Prop where
  mo : Mo1 x
  lc : ∀ s v s', x s = .ok v s' → s'.i ≤ K → x' s = .ok v s'
section
variable {K lo : Nat} {L L' : List TokP} {α β : Type}
theorem Lc.and {x x' : PM α} {f f' : α → PM β} (hx : Lc K lo x x') (hf : ∀ v, Lc K lo (f v) (f' v)) : Lc K lo (x >>= f) (x' >>= f') :=
  ⟨hx.mo.and fun v => (hf v).mo, fun s v s' l1 h hk => by
    obtain ⟨u, s1, h1, h2⟩ := mo_inv h
    have m1 := hx.mo _ _ _ h1
    have m2 := (hf u).mo _ _ _ h2
    rw [and_ok (hx.lc s u s1 l1 h1 (by omega))]
    exact (hf u).lc s1 v s' (by omega) h2 hk⟩
theorem Lc.and1 {x x' : PM α} {f f' : α → PM β} (hx : Lc K lo x x') (h1 : Mo1 x) (hf : ∀ v, Lc K (lo + 1) (f v) (f' v)) : Lc K lo (x >>= f) (x' >>= f') :=
  ⟨hx.mo.and fun v => (hf v).mo, fun s v s' l1 h hk => by
    obtain ⟨u, s1, e1, e2⟩ := mo_inv h
    have m1 := h1 _ _ _ e1
    have m2 := (hf u).mo _ _ _ e2
    rw [and_ok (hx.lc s u s1 l1 e1 (by omega))]
    exact (hf u).lc s1 v s' (by omega) e2 hk⟩
theorem LcE.and {x x' : PM α} {f f' : α → PM β} (hx : Lc K 0 x x') (hf : ∀ v, LcE K (f v) (f' v)) : LcE K (x >>= f) (x' >>= f') :=
  ⟨fun s v s' h => by
    obtain ⟨u, s1, h1, h2⟩ := mo_inv h
    have m1 := hx.mo _ _ _ h1
    have m2 := (hf u).mo _ _ _ h2
    omega, fun s v s' h hk => by
    obtain ⟨u, s1, h1, h2⟩ := mo_inv h
    have m2 := (hf u).mo _ _ _ h2
    rw [and_ok (hx.lc s u s1 (Nat.zero_le _) h1 (by omega))]
    exact (hf u).lc s1 v s' h2 hk⟩
theorem Lc.pure (v : α) : Lc K lo (pure v) (pure v) := ⟨Mo.pure v, fun s u s' _ h _ => h⟩
theorem Lc.put (x : EX) : Lc K lo (putM x) (putM x) := ⟨Mo.put x, fun s u s' _ h _ => h⟩
theorem Lc.lay (x : TY) : Lc K lo (layM x) (layM x) := ⟨Mo.lay x, fun s u s' _ h _ => h⟩
theorem Lc.fail {x' : PM α} {e : Nat} : Lc K lo (failM e : PM α) x' := ⟨Mo.fail e, fun s u s' _ h _ => by cases h⟩
theorem Lc.step : Lc K lo stepM stepM := ⟨Mo1.step.mo, fun s u s' _ h _ => h⟩
theorem Lc.room (n : Nat) : Lc K lo (roomM n) (roomM n) := ⟨Mo.room n, fun s u s' _ h _ => h⟩
theorem Lc.less {lo' : Nat} {x x' : PM α} (h : Lc K lo x x') (hl : lo ≤ lo') : Lc K lo' x x' := ⟨h.mo, fun s v s' l => h.lc s v s' (by omega)⟩
def AskB (K : Nat) (p p' : Nat → Bool) : Prop := ∀ i, i < K → p' i = p i
theorem Lc.at {p p' : Nat → Bool} {x x' y y' : PM α} (hp : AskB K p p') (hx : Lc K lo x x') (hy : Lc K lo y y') : Lc K lo (atM p x y) (atM p' x' y') :=
  ⟨Mo.at hx.mo hy.mo, fun s v s' l1 h hk => by
    have m := Mo.at (p := p) hx.mo hy.mo _ _ _ h
    have e := hp s.i (by omega)
    unfold atM at h ⊢
    rw [e]
    split at h
    · rename_i h0; rw [if_pos h0]; exact hx.lc s v s' l1 h hk
    · rename_i h0; rw [if_neg h0]; exact hy.lc s v s' l1 h hk⟩
theorem Lc.stepAt {p p' : Nat → Bool} {f f' : Unit → PM α} {y y' : PM α} (hp : AskB K p p') (hx : Lc K (lo + 1) (f ()) (f' ())) (hy : Lc K lo y y') : Lc K lo (atM p (stepM >>= f) y) (atM p' (stepM >>= f') y') :=
  Lc.at hp (Lc.step.and1 Mo1.step fun _ => hx) hy
theorem Lc.enter (m : Nat) {p p' : Nat → Bool} (hp : AskB K p p') : Lc K lo (fun s => enterM m (p s.i) s) (fun s => enterM m (p' s.i) s) :=
  ⟨Mo.enter m p, fun s v s' _ h hk => by
    have m1 := Mo.enter m p _ _ _ h
    show enterM m (p' s.i) s = _
    rw [hp s.i (by omega)]; exact h⟩
theorem Lc.roomIf (n : Nat) {p p' : Nat → Bool} (hp : AskB K p p') : Lc K lo (fun s => if p s.i = true then roomM n s else .ok () s) (fun s => if p' s.i = true then roomM n s else .ok () s) :=
  ⟨Mo.roomIf p n, fun s v s' _ h hk => by
    have m1 := Mo.roomIf p n _ _ _ h
    show (if p' s.i = true then roomM n s else .ok () s) = _
    rw [hp s.i (by omega)]; exact h⟩
theorem Lc.look {f f' : PS → PM α} (hm : ∀ s, Mo (f s)) (h : ∀ s, Lc K s.i (f s) (f' s)) : Lc K lo (fun s => f s s) (fun s => f' s s) :=
  ⟨fun s v s' hx => hm s _ _ _ hx, fun s v s' _ hx hk => (h s).lc s v s' (Nat.le_refl _) hx hk⟩
theorem Lc.dry {x x' : PM α} (hm : Mo x) (h : K ≤ lo) : Lc K lo x x' := ⟨hm, fun s v s' l1 hx hk => by have := hm _ _ _ hx; omega⟩
/-- The same tokens ahead of K. -/
structure Ag (L L' : List TokP) (K : Nat) : Prop where
  lo : ∀ i, i < K → (tk L' i).same (tk L i)
  l1 : K ≤ L.length
  l2 : K ≤ L'.length
variable (hc : Ag L L' K)
include hc
theorem tk_askB {q : TokP → Bool} (h1 : ∀ t u : TokP, u.k = t.k → u.t = t.t → u.n = t.n → q u = q t) : AskB K (fun i => q (tk L i)) (fun i => q (tk L' i)) := fun i hi => by
  obtain ⟨a, b, c⟩ := hc.lo i hi; exact h1 _ _ a b c
theorem isV_askB (t : List UInt8) : AskB K (isV L · t) (isV L' · t) := tk_askB hc (q := fun u => !decide (u.k = 3) && decide (u.t = t)) (fun u w h1 h2 _ => by simp [h1, h2])
theorem namedV_askB : AskB K (namedV L ·) (namedV L' ·) := tk_askB hc (q := fun u => decide (u.k = 0) && !keyV u.t) (fun u w h1 h2 _ => by simp [h1, h2])
theorem numb_askB : AskB K (fun i => decide ((tk L i).k = 1)) (fun i => decide ((tk L' i).k = 1)) := tk_askB hc (q := fun u => decide (u.k = 1)) (fun u w h1 h2 _ => by simp [h1])
theorem beginsV_askB : AskB K (beginsV L ·) (beginsV L' ·) := fun i hi => by
  have a1 : isV L' i t_bang = isV L i t_bang := isV_askB hc t_bang i hi
  have a2 : isV L' i t_lpar = isV L i t_lpar := isV_askB hc t_lpar i hi
  have a3 : namedV L' i = namedV L i := namedV_askB hc i hi
  have a4 : (tk L' i).k = (tk L i).k := (hc.lo i hi).1
  show beginsV L' i = beginsV L i
  unfold beginsV
  rw [a1, a2, a3, a4]
theorem startsV_askB : AskB K (startsV L ·) (startsV L' ·) := tk_askB hc (q := fun u => (decide (u.k = 0) && !keyV u.t) || (decide (u.k = 0) && (typesL.contains u.t || (integerV u.t).isSome))) (fun u w h1 h2 _ => by simp [h1, h2])
theorem opAt_askB (lv : Nat) : AskB K (opAt L lv ·) (opAt L' lv ·) := tk_askB hc (q := fun u => decide (u.k = 2) && decide (levelV u.t = lv)) (fun u w h1 h2 _ => by simp [h1, h2])
theorem Lc.take (t : List UInt8) : Lc K lo (takeM L t) (takeM L' t) := Lc.at (x := stepM) (y := failM 4) (x' := stepM) (y' := failM 4) (isV_askB hc t) Lc.step Lc.fail
theorem Lc.name : Lc K lo (nameM L) (nameM L') :=
  ⟨Mo1.name.mo, fun s v s' _ h hk => by
    have m := Mo1.name _ _ _ h
    have e : namedV L' s.i = namedV L s.i := namedV_askB hc s.i (by omega)
    unfold nameM at h ⊢
    rw [e, (hc.lo s.i (by omega)).2.1]
    exact h⟩
theorem Lc.num : Lc K lo (numberM L) (numberM L') :=
  ⟨Mo1.num.mo, fun s v s' _ h hk => by
    have m := Mo1.num _ _ _ h
    unfold numberM at h ⊢
    rw [(hc.lo s.i (by omega)).1, (hc.lo s.i (by omega)).2.2]
    exact h⟩
/-- A step that takes the token's text along. -/
theorem Lc.stepL {p p' : Nat → Bool} {F F' : List UInt8 → PM α} {y y' : PM α} (hp : AskB K p p') (hm : ∀ t, Mo (F t)) (hx : ∀ t, Lc K (lo + 1) (F t) (F' t)) (hy : Lc K lo y y') :
    Lc K lo (atM p (fun s => F (tk L s.i).t { s with i := s.i + 1 }) y) (atM p' (fun s => F' (tk L' s.i).t { s with i := s.i + 1 }) y') := by
  have hmx : Mo (fun s => F (tk L s.i).t { s with i := s.i + 1 } : PM α) := fun s v s' h => Nat.le_of_succ_le (hm _ { s with i := s.i + 1 } v s' h)
  refine Lc.at hp ⟨hmx, fun s v s' l1 h hk => ?_⟩ hy
  have m : s.i + 1 ≤ s'.i := hm _ { s with i := s.i + 1 } v s' h
  show F' (tk L' s.i).t _ = _
  rw [(hc.lo s.i (by omega)).2.1]
  exact (hx _).lc { s with i := s.i + 1 } v s' (by show lo + 1 ≤ s.i + 1; omega) h hk
theorem fuel_a (s : PS) : K ≤ s.i + (L.length - s.i + 1) := by have := hc.l1; omega
theorem fuel_b (s : PS) : K ≤ s.i + (L'.length - s.i + 1) := by have := hc.l2; omega
/-! ### Parts -/
theorem lc_un (m : Nat) {un un' ex ex' : PM Int} (h1 : ∀ lo, Lc K lo un un') (h2 : ∀ lo, Lc K lo ex ex') (lo : Nat) : Lc K lo (unF L m un ex) (unF L' m un' ex') :=
  Lc.stepAt (isV_askB hc _) ((Lc.enter m (beginsV_askB hc)).and fun _ => (h1 _).and fun q => Lc.put _) (Lc.stepAt (isV_askB hc _) ((Lc.enter m (beginsV_askB hc)).and fun _ => (h2 _).and fun q => (Lc.take hc _).and fun _ => Lc.pure _) (Lc.at (namedV_askB hc) ((Lc.name hc).and fun w => Lc.put _) ((Lc.num hc).and fun w => Lc.put _)))
theorem lc_line (lv : Nat) {x x' : PM Int} (hx : ∀ lo, Lc K lo x x') : ∀ n n' lo left, K ≤ lo + n → K ≤ lo + n' → Lc K lo (lineN L lv x n left) (lineN L' lv x' n' left)
  | 0, n', lo, left, h1, h2 => Lc.dry (mo_line lv (hx 0).mo 0 left) (by omega)
  | n + 1, 0, lo, left, h1, h2 => Lc.dry (mo_line lv (hx 0).mo _ left) (by omega)
  | n + 1, n' + 1, lo, left, h1, h2 =>
    Lc.stepL hc (F := fun t => x >>= fun right => putM ⟨3, t, 0, [], [left, right]⟩ >>= fun k => lineN L lv x n k) (F' := fun t => x' >>= fun right => putM ⟨3, t, 0, [], [left, right]⟩ >>= fun k => lineN L' lv x' n' k) (opAt_askB hc lv) (fun t => (hx 0).mo.and fun r => (Mo.put _).and fun k => mo_line lv (hx 0).mo n k)
      (fun t => (hx _).and fun r => (Lc.put _).and fun q => lc_line lv hx n n' (lo + 1) q (by omega) (by omega)) (Lc.pure left)
theorem lc_lineJ {un un' : PM Int} (hx : ∀ lo, Lc K lo un un') : ∀ j lo, Lc K lo (lineJ L un j) (lineJ L' un' j)
  | 0, lo => hx lo
  | j + 1, lo => (lc_lineJ hx j lo).and fun left => Lc.look (fun s => mo_line _ (lc_lineJ hx j 0).mo _ _) fun s => lc_line hc _ (lc_lineJ hx j) _ _ _ _ (fuel_a hc s) (fuel_b hc s)
theorem lc_unM : ∀ m lo, Lc K lo (unM L m) (unM L' m)
  | 0, lo => lc_un hc 0 (fun _ => Lc.fail) (fun _ => Lc.fail) lo
  | m + 1, lo => lc_un hc _ (lc_unM m) (lc_lineJ hc (lc_unM m) 8) lo
theorem lc_expr (m lo : Nat) : Lc K lo (exprM L m) (exprM L' m) := lc_lineJ hc (lc_unM hc m) 8 lo
theorem lc_bracket (m lo : Nat) : Lc K lo (bracketM L m) (bracketM L' m) := (Lc.take hc _).and fun _ => (lc_expr hc m _).and fun q => (Lc.take hc _).and fun _ => Lc.pure _
theorem lc_array (m : Nat) (t : TY) (lo : Nat) : Lc K lo (arrayM L m t) (arrayM L' m t) := (Lc.lay t).and fun q => Lc.at (isV_askB hc _) ((lc_bracket hc m _).and fun x => Lc.lay _) (Lc.pure _)
theorem lc_args (m : Nat) : ∀ n n' lo l, K ≤ lo + n → K ≤ lo + n' → Lc K lo (argsN L m n l) (argsN L' m n' l)
  | 0, n', lo, l, h1, h2 => Lc.dry (mo_args m 0 l) (by omega)
  | n + 1, 0, lo, l, h1, h2 => Lc.dry (mo_args m _ l) (by omega)
  | n + 1, n' + 1, lo, l, h1, h2 => Lc.stepAt (isV_askB hc _) ((Lc.roomIf _ (beginsV_askB hc)).and fun _ => (lc_expr hc m _).and fun x => lc_args m n n' (lo + 1) _ (by omega) (by omega)) (Lc.pure _)
theorem lc_ref (m lo : Nat) : Lc K lo (refM L m) (refM L' m) :=
  (Lc.name hc).and fun w => Lc.stepAt (isV_askB hc _) ((lc_expr hc m _).and fun x => (Lc.look (fun s => mo_args m _ _) fun s => lc_args hc m _ _ _ _ (fuel_a hc s) (fuel_b hc s)).and fun l => (Lc.take hc _).and fun _ => Lc.pure _) (Lc.pure _)
theorem lc_inner (m : Nat) {kd kd' : PM Int} (h : ∀ lo, Lc K lo kd kd') (lo : Nat) : Lc K lo (innerM L m kd) (innerM L' m kd') := (Lc.enter m (startsV_askB hc)).and fun _ => h lo
theorem lc_cases (m : Nat) {kd kd' : PM Int} (h : ∀ lo, Lc K lo kd kd') : ∀ n n' lo l, K ≤ lo + n → K ≤ lo + n' → Lc K lo (casesN L m kd n l) (casesN L' m kd' n' l)
  | 0, n', lo, l, h1, h2 => Lc.dry (mo_cases m (h 0).mo 0 l) (by omega)
  | n + 1, 0, lo, l, h1, h2 => Lc.dry (mo_cases m (h 0).mo _ l) (by omega)
  | n + 1, n' + 1, lo, l, h1, h2 => Lc.at (isV_askB hc _) ((Lc.room _).and fun _ => Lc.step.and1 Mo1.step fun _ => (Lc.num hc).and fun c => (Lc.take hc _).and fun _ => (lc_inner hc m h _).and fun q => (Lc.take hc _).and fun _ => lc_cases m h n n' (lo + 1) _ (by omega) (by omega)) (Lc.pure _)
theorem lc_choice (m : Nat) {kd kd' : PM Int} (h : ∀ lo, Lc K lo kd kd') (lo : Nat) : Lc K lo (choiceM L m kd) (choiceM L' m kd') := by
  unfold choiceM
  exact (Lc.take hc _).and fun _ => (lc_expr hc m _).and fun x => (Lc.take hc _).and fun _ => (Lc.take hc _).and fun _ => (Lc.look (fun s => mo_cases m (h 0).mo _ _) fun s => lc_cases hc m h _ _ _ _ (fuel_a hc s) (fuel_b hc s)).and fun cs =>
    (Lc.stepAt (isV_askB hc _) ((Lc.take hc _).and fun _ => (lc_inner hc m h _).and fun q => (Lc.take hc _).and fun _ => Lc.pure _) (Lc.pure _)).and fun q => (Lc.take hc _).and fun _ => Lc.lay _
theorem lc_word (m : Nat) {kd kd' : PM Int} (h : ∀ lo, Lc K lo kd kd') (w : List UInt8) (lo : Nat) : Lc K lo (wordM L m kd w) (wordM L' m kd' w) := by
  unfold wordM
  split
  · refine (lc_bracket hc m _).and fun x => ?_
    split
    · exact (lc_inner hc m h _).and fun i => Lc.lay _
    · exact (Lc.pure _).and fun i => Lc.lay _
  · repeat' split
    · exact (lc_inner hc m h _).and fun i => Lc.lay _
    · exact Lc.lay _
    · exact Lc.lay _
    · exact lc_choice hc m h _
    · exact lc_array hc m _ _
theorem lc_kindF (m : Nat) {kd kd' : PM Int} (h : ∀ lo, Lc K lo kd kd') (lo : Nat) : Lc K lo (kindF L m kd) (kindF L' m kd') :=
  Lc.at (namedV_askB hc) ((lc_ref hc m _).and fun t => lc_array hc m t _) (Lc.stepL hc (F := fun t => wordM L m kd t) (F' := fun t => wordM L' m kd' t) (startsV_askB hc) (fun t => mo_word m (h 0).mo t) (fun t => lc_word hc m h t _) Lc.fail)
theorem lc_kind : ∀ m lo, Lc K lo (kindM L m) (kindM L' m)
  | 0, lo => lc_kindF hc 0 (fun _ => Lc.fail) lo
  | m + 1, lo => lc_kindF hc _ (lc_kind m) lo
/-! ### Items -/
def derB2 (L : List TokP) (t : List UInt8) : PM (Nat × List UInt8 × List UInt8) := takeM L t_lpar >>= fun _ => nameM L >>= fun a => (if 3 ≤ derOf t then takeM L t_dots >>= fun _ => nameM L else pure []) >>= fun b => takeM L t_rpar >>= fun _ => pure (derOf t, a, b)
theorem lc_derB (t : List UInt8) (lo : Nat) : Lc K lo (derB2 L t) (derB2 L' t) := by
  unfold derB2
  refine (Lc.take hc _).and fun _ => (Lc.name hc).and fun a => Lc.and ?_ fun b => (Lc.take hc _).and fun _ => Lc.pure _
  split
  · exact (Lc.take hc _).and fun _ => Lc.name hc
  · exact Lc.pure _
theorem lc_derived (lo : Nat) : Lc K lo (derivedM L) (derivedM L') :=
  Lc.stepL hc (F := derB2 L) (F' := derB2 L') (tk_askB hc (q := fun u => !decide (u.k = 3) && !decide (derOf u.t = 0)) (fun u w h1 h2 _ => by simp [h1, h2])) (fun t => (lc_derB hc t 0).mo) (fun t => lc_derB hc t _) Lc.fail
theorem lc_field (lo : Nat) : Lc K lo (fieldM L) (fieldM L') :=
  (Lc.name hc).and fun w => (Lc.take hc _).and fun _ => (lc_kind hc 32 _).and fun t => (Lc.stepAt (isV_askB hc _) (lc_derived hc _) (Lc.pure _)).and fun d => (Lc.stepAt (isV_askB hc _) (lc_expr hc 32 _) (Lc.pure _)).and fun x => (Lc.take hc _).and fun _ => Lc.pure _
theorem lc_subs : ∀ n n' lo l, K ≤ lo + n → K ≤ lo + n' → Lc K lo (subsN L n l) (subsN L' n' l)
  | 0, n', lo, l, h1, h2 => Lc.dry (mo_subs 0 l) (by omega)
  | n + 1, 0, lo, l, h1, h2 => Lc.dry (mo_subs _ l) (by omega)
  | n + 1, n' + 1, lo, l, h1, h2 => by
    rw [subsN, subsN]
    exact (Lc.roomIf _ (namedV_askB hc)).and fun _ => (Lc.name hc).and1 Mo1.name fun w => (Lc.take hc _).and fun _ => (Lc.num hc).and fun b => (Lc.take hc _).and fun _ => Lc.at (namedV_askB hc) (lc_subs n n' (lo + 1) _ (by omega) (by omega)) (Lc.pure _)
theorem lc_pack (lo : Nat) : Lc K lo (packM L) (packM L') :=
  (Lc.take hc _).and fun _ => by
    have hb : ∀ (z : Nat) (lt : Bool) lo, Lc K lo (takeM L t_lcur >>= fun _ => (fun s => subsN L (L.length - s.i + 1) [] s) >>= fun l => takeM L t_rcur >>= fun _ => pure (⟨[], -1, 0, [], [], -1, z, lt, l⟩ : IT)) (takeM L' t_lcur >>= fun _ => (fun s => subsN L' (L'.length - s.i + 1) [] s) >>= fun l => takeM L' t_rcur >>= fun _ => pure (⟨[], -1, 0, [], [], -1, z, lt, l⟩ : IT)) := fun z lt lo =>
      (Lc.take hc _).and fun _ => (Lc.look (fun s => mo_subs _ _) fun s => lc_subs hc _ _ _ _ (fuel_a hc s) (fuel_b hc s)).and fun l => (Lc.take hc _).and fun _ => Lc.pure _
    refine ⟨fun s v s' h => ?_, fun s v s' l1 h hk => ?_⟩
    · split at h
      · cases h
      · exact (Mo1.step.mo.and fun _ => (hb _ _ 0).mo) _ _ _ h
    · split at h
      · cases h
      · rename_i z lt hm
        have m := (Mo1.step.and fun _ => (hb z lt 0).mo) _ _ _ h
        rw [(hc.lo s.i (by omega)).1, (hc.lo s.i (by omega)).2.1, hm]
        exact ((Lc.step (lo := lo)).and fun _ => hb z lt lo).lc s v s' l1 h hk
theorem lc_pars : ∀ n n' lo l, K ≤ lo + n → K ≤ lo + n' → Lc K lo (parsN L n l) (parsN L' n' l)
  | 0, n', lo, l, h1, h2 => Lc.dry (mo_pars 0 l) (by omega)
  | n + 1, 0, lo, l, h1, h2 => Lc.dry (mo_pars _ l) (by omega)
  | n + 1, n' + 1, lo, l, h1, h2 => Lc.stepAt (isV_askB hc _) ((Lc.roomIf _ (namedV_askB hc)).and fun _ => (Lc.name hc).and fun x => lc_pars n n' (lo + 1) _ (by omega) (by omega)) (Lc.pure _)
theorem item_askB : AskB K (fun i => isV L i w_pack || namedV L i) (fun i => isV L' i w_pack || namedV L' i) := fun i hi => by
  have a1 : isV L' i w_pack = isV L i w_pack := isV_askB hc w_pack i hi
  have a3 : namedV L' i = namedV L i := namedV_askB hc i hi
  dsimp only
  rw [a1, a3]
theorem lc_items : ∀ n n' lo l, K ≤ lo + n → K ≤ lo + n' → Lc K lo (itemsN L n l) (itemsN L' n' l)
  | 0, n', lo, l, h1, h2 => Lc.dry (mo_items 0 l) (by omega)
  | n + 1, 0, lo, l, h1, h2 => Lc.dry (mo_items _ l) (by omega)
  | n + 1, n' + 1, lo, l, h1, h2 => Lc.at (item_askB hc) ((Lc.room _).and fun _ => (Lc.at (isV_askB hc w_pack) (lc_pack hc lo) (lc_field hc lo)).and1 (fun s v s' h => by
      unfold atM at h
      split at h
      · exact mo_pack _ _ _ h
      · exact mo_field _ _ _ h) fun x => lc_items n n' (lo + 1) _ (by omega) (by omega)) (Lc.pure _)
theorem LcE.last {α : Type} (t : List UInt8) (v : α) : LcE K (takeM L t >>= fun _ => pure v) (takeM L' t >>= fun _ => pure v) :=
  ⟨(Mo1.take t).and fun _ => Mo.pure v, fun s u s' h hk => by
    have m := ((Mo1.take t).and fun _ => Mo.pure v) _ _ _ h
    obtain ⟨w, s1, h1, h2⟩ := mo_inv h
    have e : isV L' s.i t = isV L s.i t := isV_askB hc t s.i (by omega)
    have : takeM L' t s = .ok w s1 := by
      unfold takeM at h1 ⊢
      rw [e]; exact h1
    rw [and_ok this]
    exact h2⟩
theorem lc_record : LcE K (recordM L) (recordM L') :=
  LcE.and (Lc.take hc _) fun _ => LcE.and (Lc.name hc) fun w => LcE.and (Lc.stepAt (isV_askB hc _) ((Lc.name hc).and fun x => (Lc.look (fun s => mo_pars _ _) fun s => lc_pars hc _ _ _ _ (fuel_a hc s) (fuel_b hc s)).and fun l => (Lc.take hc _).and fun _ => Lc.pure _) (Lc.pure _)) fun ps =>
    LcE.and (Lc.take hc _) fun _ => LcE.and (Lc.look (fun s => mo_items _ _) fun s => lc_items hc _ _ _ _ (fuel_a hc s) (fuel_b hc s)) fun is => LcE.last hc _ _
theorem lc_const : LcE K (constM L) (constM L') := LcE.and (Lc.take hc _) fun _ => LcE.and (Lc.name hc) fun w => LcE.and (Lc.take hc _) fun _ => LcE.and (Lc.num hc) fun n => LcE.last hc _ _
/-- The first description, read at the beginning of both: up to its end. -/
theorem lc_whole (hL : TokOk L) (hlen : L.length = K + 1) (hk3 : ∀ i, i < K → (tk L i).k ≠ 3) : ∀ n n' cs rs s v s', SOk L 0 s → L.length < s.i + n → L'.length < s.i + n' → wholeN L n cs rs s = .ok v s' → s'.i = K ∧ SOk L 0 s' ∧ ∃ n'', L'.length < s'.i + n'' ∧ wholeN L' n' cs rs s = wholeN L' n'' v.1 v.2 s'
  | 0, n', cs, rs, s, v, s', hs, h1, h2, h => by have := hs.i; omega
  | n + 1, 0, cs, rs, s, v, s', hs, h1, h2, h => by have := hs.i; have := hc.l2; omega
  | n + 1, n' + 1, cs, rs, s, v, s', hs, h1, h2, h => by
    have hi := hs.i
    have moW : ∀ n cs rs, Mo (wholeN L n cs rs) := fun n => by
      induction n with
      | zero => exact fun cs rs => Mo.pure _
      | succ n ih => exact fun cs rs => Mo.at ((Mo.room _).and fun _ => mo_const.mo.and fun c => ih _ _) (Mo.at ((Mo.room _).and fun _ => mo_record.mo.and fun c => ih _ _) (Mo.at (Mo.pure _) (Mo.fail _)))
    rw [wholeN] at h
    by_cases hKi : s.i = K
    · have h3 := hL.2 K (by omega)
      have f1 : isV L s.i w_const = false := by rw [hKi]; unfold isV; simp [h3]
      have f2 : isV L s.i w_struct = false := by rw [hKi]; unfold isV; simp [h3]
      rw [atN (p := (isV L · w_const)) f1, atN (p := (isV L · w_struct)) f2, atY (p := fun i => decide ((tk L i).k = 3)) (by rw [hKi]; exact decide_eq_true h3)] at h
      cases h
      exact ⟨hKi, hs, n' + 1, h2, rfl⟩
    · have hlt : s.i < K := by omega
      have e1 : isV L' s.i w_const = isV L s.i w_const := isV_askB hc w_const s.i hlt
      have e2 : isV L' s.i w_struct = isV L s.i w_struct := isV_askB hc w_struct s.i hlt
      rw [wholeN]
      rcases f1 : isV L s.i w_const with _ | _
      · rw [f1] at e1
        rw [atN (p := (isV L · w_const)) f1] at h
        rw [atN (p := (isV L' · w_const)) e1]
        rcases f2 : isV L s.i w_struct with _ | _
        · rw [atN (p := (isV L · w_struct)) f2, atN (p := fun i => decide ((tk L i).k = 3)) (decide_eq_false (hk3 s.i hlt))] at h
          cases h
        · rw [f2] at e2
          rw [atY (p := (isV L · w_struct)) f2] at h
          rw [atY (p := (isV L' · w_struct)) e2]
          obtain ⟨hr, h⟩ := room_inv h
          obtain ⟨r, s1, q1, q2⟩ := mo_inv h
          have m1 := mo_record _ _ _ q1
          have hs1 := up_record hL s 0 hs
          rw [q1] at hs1
          obtain ⟨a1, a2, n'', a3, a4⟩ := lc_whole hL hlen hk3 n n' cs (rs ++ [r]) s1 v s' hs1.1 (by omega) (by omega) q2
          have m2 := moW _ _ _ _ _ _ q2
          refine ⟨a1, a2, n'', a3, ?_⟩
          rw [room_lt hr, and_ok ((lc_record hc).lc _ _ _ q1 (by omega))]
          exact a4
      · rw [f1] at e1
        rw [atY (p := (isV L · w_const)) f1] at h
        rw [atY (p := (isV L' · w_const)) e1]
        obtain ⟨hr, h⟩ := room_inv h
        obtain ⟨c, s1, q1, q2⟩ := mo_inv h
        have m1 := mo_const _ _ _ q1
        have hs1 := up_const hL s 0 hs
        rw [q1] at hs1
        obtain ⟨a1, a2, n'', a3, a4⟩ := lc_whole hL hlen hk3 n n' (cs ++ [c]) rs s1 v s' hs1.1 (by omega) (by omega) q2
        have m2 := moW _ _ _ _ _ _ q2
        refine ⟨a1, a2, n'', a3, ?_⟩
        rw [room_lt hr, and_ok ((lc_const hc).lc _ _ _ q1 (by omega))]
        exact a4
end
end Go.Proofs.YtkbhmcdoedmffaaDoor

namespace Go.Proofs.YtkbhmcdoedmffaaDoor
set_option linter.unusedVariables false
set_option linter.unusedSimpArgs false
set_option maxRecDepth 100000

def mvI (a : Nat) (k : Int) : Int := if k = -1 then -1 else k + a
def EX.mv (a : Nat) (x : EX) : EX := { x with kids := x.kids.map (mvI a) }
def CA.mv (b : Nat) (c : CA) : CA := { c with t := mvI b c.t }
def TY.mv (a b : Nat) (t : TY) : TY := { t with args := t.args.map (mvI a), ex := mvI a t.ex, inn := mvI b t.inn, cases := t.cases.map (CA.mv b) }
def IT.mv (a b : Nat) (x : IT) : IT := { x with ty := mvI b x.ty, wh := mvI a x.wh }
def RC.mv (a b : Nat) (r : RC) : RC := { r with its := r.its.map (IT.mv a b) }
section
variable (d : Nat) (X0 : List EX) (T0 : List TY)
/-- The state, moved. -/
def mvS (s : PS) : PS := ⟨d + s.i, X0 ++ s.xs.map (EX.mv X0.length), T0 ++ s.ts.map (TY.mv X0.length T0.length)⟩
def Sh {α : Type} (x x' : PM α) (g : α → α) : Prop := ∀ s v s', x s = .ok v s' → x' (mvS d X0 T0 s) = .ok (g v) (mvS d X0 T0 s')
end
section
variable {d : Nat} {X0 : List EX} {T0 : List TY} {α β : Type}
theorem Sh.and {x x' : PM α} {g : α → α} {f f' : α → PM β} {h : β → β} (hx : Sh d X0 T0 x x' g) (hf : ∀ v, Sh d X0 T0 (f v) (f' (g v)) h) : Sh d X0 T0 (x >>= f) (x' >>= f') h := fun s v s' he => by
  obtain ⟨u, s1, h1, h2⟩ := mo_inv he
  rw [and_ok (hx s u s1 h1)]
  exact hf u s1 v s' h2
theorem Sh.pure {g : α → α} (v : α) : Sh d X0 T0 (pure v) (pure (g v)) g := fun s u s' h => by cases h; rfl
theorem Sh.ret {g : α → α} {v v' : α} (h : g v = v') : Sh d X0 T0 (Pure.pure v) (Pure.pure v') g := fun s u s' hx => by cases hx; rw [h]; rfl
theorem Sh.fail {x' : PM α} {g : α → α} {e : Nat} : Sh d X0 T0 (failM e : PM α) x' g := fun s u s' h => by cases h
theorem Sh.step : Sh d X0 T0 stepM stepM id := fun s u s' h => by cases h; rfl
theorem Sh.room (n : Nat) : Sh d X0 T0 (roomM n) (roomM n) id := fun s u s' h => by
  unfold roomM at h ⊢
  split at h
  · cases h
  · rename_i hn; cases h; rw [if_neg hn]
theorem mvI_len (l : Nat) (a : Nat) : mvI a (l : Int) = ((a + l : Nat) : Int) := by
  unfold mvI; split <;> omega
theorem Sh.put (x : EX) : Sh d X0 T0 (putM x) (putM (x.mv X0.length)) (mvI X0.length) := fun s u s' h => by
  cases h
  show PR.ok ((X0 ++ s.xs.map (EX.mv X0.length)).length : Int) _ = _
  rw [mvI_len, List.length_append, List.length_map]
  unfold mvS
  simp
theorem Sh.lay (x : TY) : Sh d X0 T0 (layM x) (layM (x.mv X0.length T0.length)) (mvI T0.length) := fun s u s' h => by
  cases h
  show PR.ok ((T0 ++ s.ts.map (TY.mv X0.length T0.length)).length : Int) _ = _
  rw [mvI_len, List.length_append, List.length_map]
  unfold mvS
  simp
def AskM (d : Nat) (p p' : Nat → Bool) : Prop := ∀ i, p' (d + i) = p i
theorem Sh.at {p p' : Nat → Bool} {x x' y y' : PM α} {g : α → α} (hp : AskM d p p') (hx : Sh d X0 T0 x x' g) (hy : Sh d X0 T0 y y' g) : Sh d X0 T0 (atM p x y) (atM p' x' y') g := fun s v s' h => by
  have e : p' (mvS d X0 T0 s).i = p s.i := hp s.i
  unfold atM at h ⊢
  rw [e]
  split at h
  · rename_i h0; rw [if_pos h0]; exact hx s v s' h
  · rename_i h0; rw [if_neg h0]; exact hy s v s' h
theorem Sh.enter (m : Nat) {p p' : Nat → Bool} (hp : AskM d p p') : Sh d X0 T0 (fun s => enterM m (p s.i) s) (fun s => enterM m (p' s.i) s) id := fun s v s' h => by
  have e : p' (mvS d X0 T0 s).i = p s.i := hp s.i
  show enterM m (p' (mvS d X0 T0 s).i) _ = _
  rw [e]
  have h : enterM m (p s.i) s = .ok v s' := h
  unfold enterM at h ⊢
  split at h
  · cases h
  · rename_i h0
    rw [if_neg h0]
    split at h
    · cases h
    · rename_i h1; rw [if_neg h1]; cases h; rfl
theorem Sh.roomIf (n : Nat) {p p' : Nat → Bool} (hp : AskM d p p') : Sh d X0 T0 (fun s => if p s.i = true then roomM n s else .ok () s) (fun s => if p' s.i = true then roomM n s else .ok () s) id := fun s v s' h => by
  have e : p' (mvS d X0 T0 s).i = p s.i := hp s.i
  show (if p' (mvS d X0 T0 s).i = true then roomM n _ else _) = _
  rw [e]
  have h : (if p s.i = true then roomM n s else .ok () s) = .ok v s' := h
  split at h
  · rename_i h0; rw [if_pos h0]; exact Sh.room n s v s' h
  · rename_i h0; rw [if_neg h0]; cases h; rfl
theorem Sh.look {f f' : PS → PM α} {g : α → α} (h : ∀ s, Sh d X0 T0 (f s) (f' (mvS d X0 T0 s)) g) : Sh d X0 T0 (fun s => f s s) (fun s => f' s s) g := fun s v s' hx => h s s v s' hx
variable {L L' : List TokP}
/-- The same tokens, moved. -/
structure Mvd (L L' : List TokP) (d : Nat) : Prop where
  lo : ∀ i, (tk L' (d + i)).same (tk L i)
  len : L'.length = d + L.length
variable (hc : Mvd L L' d)
include hc
theorem tk_askM {q : TokP → Bool} (h1 : ∀ t u : TokP, u.k = t.k → u.t = t.t → u.n = t.n → q u = q t) : AskM d (fun i => q (tk L i)) (fun i => q (tk L' i)) := fun i => by
  obtain ⟨a, b, c⟩ := hc.lo i; exact h1 _ _ a b c
theorem isV_askM (t : List UInt8) : AskM d (isV L · t) (isV L' · t) := tk_askM hc (q := fun u => !decide (u.k = 3) && decide (u.t = t)) (fun u w h1 h2 _ => by simp [h1, h2])
theorem namedV_askM : AskM d (namedV L ·) (namedV L' ·) := tk_askM hc (q := fun u => decide (u.k = 0) && !keyV u.t) (fun u w h1 h2 _ => by simp [h1, h2])
theorem beginsV_askM : AskM d (beginsV L ·) (beginsV L' ·) := fun i => by
  have a1 : isV L' (d + i) t_bang = isV L i t_bang := isV_askM hc t_bang i
  have a2 : isV L' (d + i) t_lpar = isV L i t_lpar := isV_askM hc t_lpar i
  have a3 : namedV L' (d + i) = namedV L i := namedV_askM hc i
  have a4 : (tk L' (d + i)).k = (tk L i).k := (hc.lo i).1
  show beginsV L' (d + i) = beginsV L i
  unfold beginsV
  rw [a1, a2, a3, a4]
theorem startsV_askM : AskM d (startsV L ·) (startsV L' ·) := tk_askM hc (q := fun u => (decide (u.k = 0) && !keyV u.t) || (decide (u.k = 0) && (typesL.contains u.t || (integerV u.t).isSome))) (fun u w h1 h2 _ => by simp [h1, h2])
theorem opAt_askM (lv : Nat) : AskM d (opAt L lv ·) (opAt L' lv ·) := tk_askM hc (q := fun u => decide (u.k = 2) && decide (levelV u.t = lv)) (fun u w h1 h2 _ => by simp [h1, h2])
theorem Sh.take (t : List UInt8) : Sh d X0 T0 (takeM L t) (takeM L' t) id := Sh.at (x := stepM) (y := failM 4) (x' := stepM) (y' := failM 4) (isV_askM hc t) Sh.step Sh.fail
theorem Sh.name : Sh d X0 T0 (nameM L) (nameM L') id := fun s v s' h => by
  have e : namedV L' (mvS d X0 T0 s).i = namedV L s.i := namedV_askM hc s.i
  have e2 : (tk L' (mvS d X0 T0 s).i).t = (tk L s.i).t := (hc.lo s.i).2.1
  unfold nameM at h ⊢
  rw [e, e2]
  split at h
  · rename_i h0; cases h; rw [if_pos h0]; rfl
  · cases h
theorem Sh.num : Sh d X0 T0 (numberM L) (numberM L') id := fun s v s' h => by
  have e : (tk L' (mvS d X0 T0 s).i).k = (tk L s.i).k := (hc.lo s.i).1
  have e2 : (tk L' (mvS d X0 T0 s).i).n = (tk L s.i).n := (hc.lo s.i).2.2
  unfold numberM at h ⊢
  rw [e, e2]
  split at h
  · rename_i h0; cases h; rw [if_pos h0]; rfl
  · cases h
/-- A step that takes the token's text along. -/
theorem Sh.stepL {p p' : Nat → Bool} {F F' : List UInt8 → PM α} {y y' : PM α} {g : α → α} (hp : AskM d p p') (hx : ∀ t, Sh d X0 T0 (F t) (F' t) g) (hy : Sh d X0 T0 y y' g) :
    Sh d X0 T0 (atM p (fun s => F (tk L s.i).t { s with i := s.i + 1 }) y) (atM p' (fun s => F' (tk L' s.i).t { s with i := s.i + 1 }) y') g := by
  refine Sh.at hp (fun s v s' h => ?_) hy
  have e2 : (tk L' (mvS d X0 T0 s).i).t = (tk L s.i).t := (hc.lo s.i).2.1
  show F' (tk L' (mvS d X0 T0 s).i).t _ = _
  rw [e2]
  exact hx _ { s with i := s.i + 1 } v s' h
theorem fuel_m (s : PS) : L'.length - (mvS d X0 T0 s).i + 1 = L.length - s.i + 1 := by
  have := hc.len
  show L'.length - (d + s.i) + 1 = _
  omega
/-! ### Parts -/
theorem sh_un (m : Nat) {un un' ex ex' : PM Int} (h1 : Sh d X0 T0 un un' (mvI X0.length)) (h2 : Sh d X0 T0 ex ex' (mvI X0.length)) : Sh d X0 T0 (unF L m un ex) (unF L' m un' ex') (mvI X0.length) :=
  Sh.at (isV_askM hc _) (Sh.step.and fun _ => (Sh.enter m (beginsV_askM hc)).and fun _ => h1.and fun k => Sh.put ⟨2, [], 0, [], [k]⟩)
    (Sh.at (isV_askM hc _) (Sh.step.and fun _ => (Sh.enter m (beginsV_askM hc)).and fun _ => h2.and fun q => (Sh.take hc _).and fun _ => Sh.pure q)
      (Sh.at (namedV_askM hc) ((Sh.name hc).and fun w => Sh.put ⟨1, [], 0, w, []⟩) ((Sh.num hc).and fun n => Sh.put ⟨0, [], n, [], []⟩)))
theorem sh_line (lv : Nat) {x x' : PM Int} (hx : Sh d X0 T0 x x' (mvI X0.length)) : ∀ n left, Sh d X0 T0 (lineN L lv x n left) (lineN L' lv x' n (mvI X0.length left)) (mvI X0.length)
  | 0, left => Sh.pure left
  | n + 1, left => Sh.stepL hc (F := fun t => x >>= fun right => putM ⟨3, t, 0, [], [left, right]⟩ >>= fun k => lineN L lv x n k) (F' := fun t => x' >>= fun right => putM ⟨3, t, 0, [], [mvI X0.length left, right]⟩ >>= fun k => lineN L' lv x' n k) (opAt_askM hc lv)
      (fun t => hx.and fun r => (Sh.put ⟨3, t, 0, [], [left, r]⟩).and fun q => sh_line lv hx n q) (Sh.pure left)
theorem sh_lineJ {un un' : PM Int} (hx : Sh d X0 T0 un un' (mvI X0.length)) : ∀ j, Sh d X0 T0 (lineJ L un j) (lineJ L' un' j) (mvI X0.length)
  | 0 => hx
  | j + 1 => (sh_lineJ hx j).and fun left => fun s v s' h => by
    have := sh_line hc (8 - j) (sh_lineJ hx j) (L.length - s.i + 1) left s v s' h
    show lineN L' (8 - j) _ (L'.length - (mvS d X0 T0 s).i + 1) _ _ = _
    rw [fuel_m hc]
    exact this
theorem sh_unM : ∀ m, Sh d X0 T0 (unM L m) (unM L' m) (mvI X0.length)
  | 0 => sh_un hc 0 Sh.fail Sh.fail
  | m + 1 => sh_un hc _ (sh_unM m) (sh_lineJ hc (sh_unM m) 8)
theorem sh_expr (m : Nat) : Sh d X0 T0 (exprM L m) (exprM L' m) (mvI X0.length) := sh_lineJ hc (sh_unM hc m) 8
theorem sh_bracket (m : Nat) : Sh d X0 T0 (bracketM L m) (bracketM L' m) (mvI X0.length) := (Sh.take hc _).and fun _ => (sh_expr hc m).and fun q => (Sh.take hc _).and fun _ => Sh.pure q
theorem sh_array (m : Nat) (t : TY) : Sh d X0 T0 (arrayM L m t) (arrayM L' m (t.mv X0.length T0.length)) (mvI T0.length) :=
  (Sh.lay t).and fun k => Sh.at (isV_askM hc _) ((sh_bracket hc m).and fun x => Sh.lay { tyP 5 with ex := x, inn := k }) (Sh.pure k)
theorem sh_args (m : Nat) : ∀ n l, Sh d X0 T0 (argsN L m n l) (argsN L' m n (l.map (mvI X0.length))) (List.map (mvI X0.length))
  | 0, l => Sh.pure l
  | n + 1, l => Sh.at (isV_askM hc _) (Sh.step.and fun _ => Sh.and (g := id) (by rw [List.length_map]; exact Sh.roomIf _ (beginsV_askM hc)) fun _ => (sh_expr hc m).and fun x => by
      have := sh_args m n (l ++ [x])
      rw [List.map_append] at this
      exact this) (Sh.pure l)
theorem sh_ref (m : Nat) : Sh d X0 T0 (refM L m) (refM L' m) (TY.mv X0.length T0.length) :=
  (Sh.name hc).and fun w => Sh.at (isV_askM hc _) (Sh.step.and fun _ => (sh_expr hc m).and fun x => Sh.and (g := List.map (mvI X0.length)) (fun s v s' h => by
      have := sh_args (X0 := X0) (T0 := T0) hc m (L.length - s.i + 1) [x] s v s' h
      show argsN L' m (L'.length - (mvS d X0 T0 s).i + 1) _ _ = _
      rw [fuel_m hc]
      exact this) fun l => (Sh.take hc _).and fun _ => Sh.ret rfl) (Sh.ret rfl)
theorem sh_inner (m : Nat) {kd kd' : PM Int} (h : Sh d X0 T0 kd kd' (mvI T0.length)) : Sh d X0 T0 (innerM L m kd) (innerM L' m kd') (mvI T0.length) := (Sh.enter m (startsV_askM hc)).and fun _ => h
theorem sh_cases (m : Nat) {kd kd' : PM Int} (h : Sh d X0 T0 kd kd' (mvI T0.length)) : ∀ n l, Sh d X0 T0 (casesN L m kd n l) (casesN L' m kd' n (l.map (CA.mv T0.length))) (List.map (CA.mv T0.length))
  | 0, l => Sh.pure l
  | n + 1, l => Sh.at (isV_askM hc _) (Sh.and (g := id) (by rw [List.length_map]; exact Sh.room _) fun _ => Sh.step.and fun _ => (Sh.num hc).and fun c => (Sh.take hc _).and fun _ => (sh_inner hc m h).and fun q => (Sh.take hc _).and fun _ => by
      have := sh_cases m h n (l ++ [⟨c, q⟩])
      rw [List.map_append] at this
      exact this) (Sh.pure l)
theorem sh_choice (m : Nat) {kd kd' : PM Int} (h : Sh d X0 T0 kd kd' (mvI T0.length)) : Sh d X0 T0 (choiceM L m kd) (choiceM L' m kd') (mvI T0.length) := by
  unfold choiceM
  exact (Sh.take hc _).and fun _ => (sh_expr hc m).and fun x => (Sh.take hc _).and fun _ => (Sh.take hc _).and fun _ => Sh.and (g := List.map (CA.mv T0.length)) (fun s v s' hx => by
      have := sh_cases (X0 := X0) (T0 := T0) hc m h (L.length - s.i + 1) [] s v s' hx
      show casesN L' m kd' (L'.length - (mvS d X0 T0 s).i + 1) _ _ = _
      rw [fuel_m hc]
      exact this) fun cs =>
    Sh.and (g := mvI T0.length) (Sh.at (isV_askM hc _) (Sh.step.and fun _ => (Sh.take hc _).and fun _ => (sh_inner hc m h).and fun q => (Sh.take hc _).and fun _ => Sh.pure q) (Sh.ret rfl)) fun q => (Sh.take hc _).and fun _ => Sh.lay { tyP 9 with ex := x, inn := q, cases := cs }
theorem sh_word (m : Nat) {kd kd' : PM Int} (h : Sh d X0 T0 kd kd' (mvI T0.length)) (w : List UInt8) : Sh d X0 T0 (wordM L m kd w) (wordM L' m kd' w) (mvI T0.length) := by
  unfold wordM
  split
  · rename_i k _
    refine (sh_bracket hc m).and fun x => Sh.and (g := mvI T0.length) ?_ fun i => Sh.lay { tyP k with ex := x, inn := i }
    split
    · exact sh_inner hc m h
    · exact Sh.ret rfl
  · repeat' split
    · exact (sh_inner hc m h).and fun i => Sh.lay { tyP 6 with inn := i }
    · exact Sh.lay (tyP 4)
    · exact Sh.lay (tyP 11)
    · exact sh_choice hc m h
    · exact sh_array hc m { tyP 0 with size := ((integerV w).getD (0, false)).1, little := ((integerV w).getD (0, false)).2 }
theorem sh_kindF (m : Nat) {kd kd' : PM Int} (h : Sh d X0 T0 kd kd' (mvI T0.length)) : Sh d X0 T0 (kindF L m kd) (kindF L' m kd') (mvI T0.length) :=
  Sh.at (namedV_askM hc) ((sh_ref hc m).and fun t => sh_array hc m t) (Sh.stepL hc (F := fun t => wordM L m kd t) (F' := fun t => wordM L' m kd' t) (startsV_askM hc) (fun t => sh_word hc m h t) Sh.fail)
theorem sh_kind : ∀ m, Sh d X0 T0 (kindM L m) (kindM L' m) (mvI T0.length)
  | 0 => sh_kindF hc 0 Sh.fail
  | m + 1 => sh_kindF hc _ (sh_kind m)
/-! ### Items -/
theorem sh_derived : Sh d X0 T0 (derivedM L) (derivedM L') id :=
  Sh.stepL hc (F := derB2 L) (F' := derB2 L') (tk_askM hc (q := fun u => !decide (u.k = 3) && !decide (derOf u.t = 0)) (fun u w h1 h2 _ => by simp [h1, h2])) (fun t => by
    unfold derB2
    refine (Sh.take hc _).and fun _ => (Sh.name hc).and fun a => Sh.and (g := id) ?_ fun b => (Sh.take hc _).and fun _ => Sh.pure (g := id) (derOf t, a, b)
    split
    · exact (Sh.take hc _).and fun _ => Sh.name hc
    · exact Sh.pure (g := id) []) Sh.fail
theorem sh_field : Sh d X0 T0 (fieldM L) (fieldM L') (IT.mv X0.length T0.length) :=
  (Sh.name hc).and fun w => (Sh.take hc _).and fun _ => (sh_kind hc 32).and fun t => Sh.and (g := id) (Sh.at (isV_askM hc _) (Sh.step.and fun _ => sh_derived hc) (Sh.pure (g := id) (0, [], []))) fun e =>
    Sh.and (g := mvI X0.length) (Sh.at (isV_askM hc _) (Sh.step.and fun _ => sh_expr hc 32) (Sh.ret rfl)) fun x => (Sh.take hc _).and fun _ => Sh.ret rfl
theorem sh_subs : ∀ n l, Sh d X0 T0 (subsN L n l) (subsN L' n l) id
  | 0, l => Sh.pure (g := id) l
  | n + 1, l => by
    rw [subsN, subsN]
    exact (Sh.roomIf _ (namedV_askM hc)).and fun _ => (Sh.name hc).and fun w => (Sh.take hc _).and fun _ => (Sh.num hc).and fun b => (Sh.take hc _).and fun _ => Sh.at (namedV_askM hc) (sh_subs n _) (Sh.pure (g := id) _)
theorem sh_pack : Sh d X0 T0 (packM L) (packM L') (IT.mv X0.length T0.length) :=
  (Sh.take hc _).and fun _ => fun s v s' h => by
    have e1 : (tk L' (mvS d X0 T0 s).i).k = (tk L s.i).k := (hc.lo s.i).1
    have e2 : (tk L' (mvS d X0 T0 s).i).t = (tk L s.i).t := (hc.lo s.i).2.1
    have hb : ∀ (z : Nat) (lt : Bool), Sh d X0 T0 (stepM >>= fun _ => takeM L t_lcur >>= fun _ => (fun s => subsN L (L.length - s.i + 1) [] s) >>= fun l => takeM L t_rcur >>= fun _ => pure (⟨[], -1, 0, [], [], -1, z, lt, l⟩ : IT)) (stepM >>= fun _ => takeM L' t_lcur >>= fun _ => (fun s => subsN L' (L'.length - s.i + 1) [] s) >>= fun l => takeM L' t_rcur >>= fun _ => pure (⟨[], -1, 0, [], [], -1, z, lt, l⟩ : IT)) (IT.mv X0.length T0.length) := fun z lt =>
      Sh.step.and fun _ => (Sh.take hc _).and fun _ => Sh.and (g := id) (fun s v s' hx => by
        have := sh_subs (X0 := X0) (T0 := T0) hc (L.length - s.i + 1) [] s v s' hx
        show subsN L' (L'.length - (mvS d X0 T0 s).i + 1) _ _ = _
        rw [fuel_m hc]
        exact this) fun l => (Sh.take hc _).and fun _ => Sh.ret rfl
    split at h
    · cases h
    · rename_i z lt hm
      rw [e1, e2, hm]
      exact hb z lt s v s' h
theorem sh_pars : ∀ n l, Sh d X0 T0 (parsN L n l) (parsN L' n l) id
  | 0, l => Sh.pure (g := id) l
  | n + 1, l => Sh.at (isV_askM hc _) (Sh.step.and fun _ => (Sh.roomIf _ (namedV_askM hc)).and fun _ => (Sh.name hc).and fun x => sh_pars n _) (Sh.pure (g := id) l)
theorem sh_items : ∀ n l, Sh d X0 T0 (itemsN L n l) (itemsN L' n (l.map (IT.mv X0.length T0.length))) (List.map (IT.mv X0.length T0.length))
  | 0, l => Sh.pure l
  | n + 1, l => Sh.at (fun i => by
      have a1 : isV L' (d + i) w_pack = isV L i w_pack := isV_askM hc w_pack i
      have a3 : namedV L' (d + i) = namedV L i := namedV_askM hc i
      show (isV L' (d + i) w_pack || namedV L' (d + i)) = (isV L i w_pack || namedV L i)
      rw [a1, a3]) (Sh.and (g := id) (by rw [List.length_map]; exact Sh.room _) fun _ => (Sh.at (isV_askM hc _) (sh_pack hc) (sh_field hc)).and fun x => by
      have := sh_items n (l ++ [x])
      rw [List.map_append] at this
      exact this) (Sh.pure l)
theorem sh_record : Sh d X0 T0 (recordM L) (recordM L') (RC.mv X0.length T0.length) :=
  (Sh.take hc _).and fun _ => (Sh.name hc).and fun w => Sh.and (g := id) (Sh.at (isV_askM hc _) (Sh.step.and fun _ => (Sh.name hc).and fun x => Sh.and (g := id) (fun s v s' hx => by
      have := sh_pars (X0 := X0) (T0 := T0) hc (L.length - s.i + 1) [x] s v s' hx
      show parsN L' (L'.length - (mvS d X0 T0 s).i + 1) _ _ = _
      rw [fuel_m hc]
      exact this) fun l => (Sh.take hc _).and fun _ => Sh.pure (g := id) l) (Sh.pure (g := id) [])) fun ps =>
    (Sh.take hc _).and fun _ => Sh.and (g := List.map (IT.mv X0.length T0.length)) (fun s v s' hx => by
      have := sh_items (X0 := X0) (T0 := T0) hc (L.length - s.i + 1) [] s v s' hx
      show itemsN L' (L'.length - (mvS d X0 T0 s).i + 1) _ _ = _
      rw [fuel_m hc]
      exact this) fun is => (Sh.take hc _).and fun _ => Sh.ret rfl
theorem sh_const : Sh d X0 T0 (constM L) (constM L') id := (Sh.take hc _).and fun _ => (Sh.name hc).and fun w => (Sh.take hc _).and fun _ => (Sh.num hc).and fun n => (Sh.take hc _).and fun _ => Sh.ret rfl
/-- The second description, read behind the first one. -/
theorem sh_whole (hL : TokOk L) (cs1 : List CO) (rs1 : List RC) : ∀ n n' cs rs s v s', SOk L 0 s → L.length < s.i + n → L.length < s.i + n' → wholeN L n cs rs s = .ok v s' →
    (cs.length ≤ v.1.length ∧ rs.length ≤ v.2.length ∧ (cs.length ≤ 64 → v.1.length ≤ 64) ∧ (rs.length ≤ 64 → v.2.length ≤ 64)) ∧
    (cs1.length + v.1.length ≤ 64 → rs1.length + v.2.length ≤ 64 → wholeN L' n' (cs1 ++ cs) (rs1 ++ rs.map (RC.mv X0.length T0.length)) (mvS d X0 T0 s) = .ok (cs1 ++ v.1, rs1 ++ v.2.map (RC.mv X0.length T0.length)) (mvS d X0 T0 s')) ∧
    (64 < cs1.length + v.1.length ∨ 64 < rs1.length + v.2.length → cs1.length + cs.length ≤ 64 → rs1.length + rs.length ≤ 64 → ∃ i, wholeN L' n' (cs1 ++ cs) (rs1 ++ rs.map (RC.mv X0.length T0.length)) (mvS d X0 T0 s) = .err i 10)
  | 0, n', cs, rs, s, v, s', hs, h1, h2, h => by have := hs.i; omega
  | n + 1, 0, cs, rs, s, v, s', hs, h1, h2, h => by have := hs.i; omega
  | n + 1, n' + 1, cs, rs, s, v, s', hs, h1, h2, h => by
    rw [wholeN] at h
    have e1 : isV L' (mvS d X0 T0 s).i w_const = isV L s.i w_const := isV_askM hc w_const s.i
    have e2 : isV L' (mvS d X0 T0 s).i w_struct = isV L s.i w_struct := isV_askM hc w_struct s.i
    have e3 : (tk L' (mvS d X0 T0 s).i).k = (tk L s.i).k := (hc.lo s.i).1
    rw [wholeN]
    have full : ∀ {α : Type} {m : Nat} {f : Unit → PM α} {s : PS}, 64 ≤ m → (roomM m >>= f) s = .err s.i 10 := fun {α m f s} hm => and_err (by unfold roomM; rw [if_pos hm]; rfl)
    rcases f1 : isV L s.i w_const with _ | _
    · rw [f1] at e1
      rw [atN (p := (isV L · w_const)) f1] at h
      rw [atN (p := (isV L' · w_const)) e1]
      rcases f2 : isV L s.i w_struct with _ | _
      · rw [f2] at e2
        rw [atN (p := (isV L · w_struct)) f2] at h
        rw [atN (p := (isV L' · w_struct)) e2]
        by_cases h3 : (tk L s.i).k = 3
        · rw [atY (p := fun i => decide ((tk L i).k = 3)) (decide_eq_true h3)] at h
          rw [atY (p := fun i => decide ((tk L' i).k = 3)) (decide_eq_true (e3.trans h3))]
          cases h
          refine ⟨⟨Nat.le_refl _, Nat.le_refl _, id, id⟩, fun _ _ => rfl, fun hov h5 h6 => ?_⟩
          dsimp only at hov
          omega
        · rw [atN (p := fun i => decide ((tk L i).k = 3)) (decide_eq_false h3)] at h
          cases h
      · rw [f2] at e2
        rw [atY (p := (isV L · w_struct)) f2] at h
        rw [atY (p := (isV L' · w_struct)) e2]
        obtain ⟨hr, h⟩ := room_inv h
        obtain ⟨r, s1, q1, q2⟩ := mo_inv h
        have m1 := mo_record _ _ _ q1
        have hs1 := up_record hL s 0 hs
        rw [q1] at hs1
        obtain ⟨⟨a1, a2, a3, a4⟩, a5, a6⟩ := sh_whole hL cs1 rs1 n n' cs (rs ++ [r]) s1 v s' hs1.1 (by omega) (by omega) q2
        have q3 := sh_record (X0 := X0) (T0 := T0) hc s r s1 q1
        have hl2 : (rs1 ++ rs.map (RC.mv X0.length T0.length)).length = rs1.length + rs.length := by simp
        have hap : rs1 ++ (rs ++ [r]).map (RC.mv X0.length T0.length) = rs1 ++ rs.map (RC.mv X0.length T0.length) ++ [r.mv X0.length T0.length] := by simp
        rw [List.length_append, List.length_singleton] at a2 a4
        refine ⟨⟨a1, by omega, a3, fun _ => a4 (by omega)⟩, fun b1 b2 => ?_, fun hov b1 b2 => ?_⟩
        · rw [room_lt (by rw [hl2]; omega), and_ok q3, ← hap]
          exact a5 b1 b2
        · by_cases hfull : 64 ≤ rs1.length + rs.length
          · exact ⟨_, full (by rw [hl2]; exact hfull)⟩
          · rw [room_lt (by rw [hl2]; omega), and_ok q3, ← hap]
            exact a6 hov b1 (by rw [List.length_append, List.length_singleton]; omega)
    · rw [f1] at e1
      rw [atY (p := (isV L · w_const)) f1] at h
      rw [atY (p := (isV L' · w_const)) e1]
      obtain ⟨hr, h⟩ := room_inv h
      obtain ⟨c, s1, q1, q2⟩ := mo_inv h
      have m1 := mo_const _ _ _ q1
      have hs1 := up_const hL s 0 hs
      rw [q1] at hs1
      obtain ⟨⟨a1, a2, a3, a4⟩, a5, a6⟩ := sh_whole hL cs1 rs1 n n' (cs ++ [c]) rs s1 v s' hs1.1 (by omega) (by omega) q2
      have q3 := sh_const (X0 := X0) (T0 := T0) hc s c s1 q1
      have hl2 : (cs1 ++ cs).length = cs1.length + cs.length := by simp
      rw [List.length_append, List.length_singleton] at a1 a3
      refine ⟨⟨by omega, a2, fun _ => a3 (by omega), a4⟩, fun b1 b2 => ?_, fun hov b1 b2 => ?_⟩
      · rw [room_lt (by rw [hl2]; omega), and_ok q3]
        show wholeN L' n' (cs1 ++ cs ++ [c]) _ _ = _
        rw [List.append_assoc]
        exact a5 b1 b2
      · by_cases hfull : 64 ≤ cs1.length + cs.length
        · exact ⟨_, full (by rw [hl2]; exact hfull)⟩
        · rw [room_lt (by rw [hl2]; omega), and_ok q3]
          show ∃ i, wholeN L' n' (cs1 ++ cs ++ [c]) _ _ = _
          rw [List.append_assoc]
          exact a6 hov (by rw [List.length_append, List.length_singleton]; omega) b2
end
end Go.Proofs.YtkbhmcdoedmffaaDoor

namespace Go.Proofs.YtkbhmcdoedmffaaDoor
set_option linter.unusedVariables false
set_option linter.unusedSimpArgs false
set_option maxRecDepth 100000

def lineT (k : Nat) (t : TokP) : TokP := ⟨t.k, t.t, t.n, t.l + k, t.c⟩
theorem joins_tok {s t : List UInt8} {L1 L2 : List TokP} (h1 : lexF s 1 1 = .ok L1) (h2 : lexF t 1 1 = .ok L2) : ∃ us l0 c0 k, L1 = us ++ [⟨3, [], 0, l0, c0⟩] ∧ lexF (s ++ 10 :: t) 1 1 = .ok (us ++ L2.map (lineT k)) := by
  obtain ⟨us, l', c', e1, -, e3⟩ := lexF_nl t _ s 1 1 L1 (Nat.lt_succ_self _) h1
  refine ⟨us, l', c', l', e1, ?_⟩
  rw [e3, Nat.add_comm l' 1, lexF_shift, h2]
  rfl
theorem tk_of {L : List TokP} {i : Nat} {u : TokP} (h : L[i]? = some u) : tk L i = u := by unfold tk; rw [List.getD_eq_getElem?_getD, h]; rfl
theorem lex_ok1 {s : List UInt8} {l c : Nat} {L : List TokP} (h : lexF s l c = .ok L) : TokOk L := by
  obtain ⟨us, l', c', rfl, _⟩ := lexF_good h
  refine ⟨by simp, fun i hi => ?_⟩
  simp only [List.length_append, List.length_cons, List.length_nil] at hi
  have : i = us.length := by omega
  rw [tk_of (by rw [this, List.getElem?_append_right (Nat.le_refl _), Nat.sub_self]; rfl)]
theorem joins_whole {s t : List UInt8} {L1 L2 : List TokP} (h1 : lexF s 1 1 = .ok L1) (h2 : lexF t 1 1 = .ok L2)
    {cs1 cs2 : List CO} {rs1 rs2 : List RC} {s1 s2 : PS} (f1 : wholeN L1 (L1.length + 1) [] [] ⟨0, [], []⟩ = .ok (cs1, rs1) s1) (f2 : wholeN L2 (L2.length + 1) [] [] ⟨0, [], []⟩ = .ok (cs2, rs2) s2) :
    (cs1.length ≤ 64 ∧ cs2.length ≤ 64 ∧ rs1.length ≤ 64 ∧ rs2.length ≤ 64) ∧ ∃ L, lexF (s ++ 10 :: t) 1 1 = .ok L ∧
    (cs1.length + cs2.length ≤ 64 → rs1.length + rs2.length ≤ 64 → wholeN L (L.length + 1) [] [] ⟨0, [], []⟩ = .ok (cs1 ++ cs2, rs1 ++ rs2.map (RC.mv s1.xs.length s1.ts.length)) (mvS s1.i s1.xs s1.ts s2)) ∧
    (64 < cs1.length + cs2.length ∨ 64 < rs1.length + rs2.length → ∃ i, wholeN L (L.length + 1) [] [] ⟨0, [], []⟩ = .err i 10) := by
  obtain ⟨us, l0, c0, k, rfl, hL⟩ := joins_tok h1 h2
  have ok1 := lex_ok1 h1
  have ok2 := lex_ok1 h2
  have hk3 : ∀ i, i < us.length → (tk (us ++ [(⟨3, [], 0, l0, c0⟩ : TokP)]) i).k ≠ 3 := fun i hi => by
    obtain ⟨us', l', c', e, hg⟩ := lexF_good h1
    obtain ⟨rfl, -⟩ := List.append_inj' e rfl
    rw [tk_of (by rw [List.getElem?_append_left hi, List.getElem?_eq_getElem hi])]
    have := (hg us[i] (by simp)).1
    omega
  have init : ∀ {L : List TokP}, TokOk L → SOk L 0 ⟨0, [], []⟩ := fun h => ⟨h.1, by simp, by simp⟩
  have ag : Ag (us ++ [(⟨3, [], 0, l0, c0⟩ : TokP)]) (us ++ L2.map (lineT k)) us.length := by
    refine ⟨fun i hi => ?_, by simp, by simp⟩
    rw [tk_of (u := us[i]) (by rw [List.getElem?_append_left hi, List.getElem?_eq_getElem hi]), tk_of (u := us[i]) (by rw [List.getElem?_append_left hi, List.getElem?_eq_getElem hi])]
    exact ⟨rfl, rfl, rfl⟩
  have mv : Mvd L2 (us ++ L2.map (lineT k)) us.length := by
    refine ⟨fun i => ?_, by simp⟩
    have e : (us ++ L2.map (lineT k))[us.length + i]? = (L2[i]?).map (lineT k) := by
      rw [List.getElem?_append_right (by omega), Nat.add_sub_cancel_left, List.getElem?_map]
    unfold tk
    rw [List.getD_eq_getElem?_getD, List.getD_eq_getElem?_getD, e]
    cases L2[i]? <;> exact ⟨rfl, rfl, rfl⟩
  have mv0 : Mvd (us ++ [(⟨3, [], 0, l0, c0⟩ : TokP)]) (us ++ [(⟨3, [], 0, l0, c0⟩ : TokP)]) 0 := ⟨fun i => by rw [Nat.zero_add]; exact ⟨rfl, rfl, rfl⟩, by simp⟩
  obtain ⟨⟨-, -, a1, a2⟩, -⟩ := sh_whole (X0 := []) (T0 := []) mv0 ok1 [] [] _ (us.length + 2) _ _ _ _ _ (init ok1) (by simp) (by simp) f1
  obtain ⟨b1, b2, n'', b3, b4⟩ := lc_whole ag ok1 (by simp) hk3 _ ((us ++ L2.map (lineT k)).length + 1) _ _ _ _ _ (init ok1) (by simp) (by simp) f1
  have hst : mvS us.length s1.xs s1.ts ⟨0, [], []⟩ = s1 := by
    unfold mvS
    rw [← b1]
    simp
  obtain ⟨⟨-, -, a3, a4⟩, c1, c2⟩ := sh_whole (X0 := s1.xs) (T0 := s1.ts) mv ok2 cs1 rs1 _ n'' _ _ _ _ _ (init ok2) (by simp) (by
    have := mv.len
    rw [b1, this] at b3
    show L2.length < 0 + n''
    omega) f2
  rw [hst, List.append_nil, List.map_nil, List.append_nil] at c1 c2
  have a1 := a1 (Nat.zero_le _)
  have a2 := a2 (Nat.zero_le _)
  refine ⟨⟨a1, a3 (Nat.zero_le _), a2, a4 (Nat.zero_le _)⟩, _, hL, fun q1 q2 => ?_, fun q => ?_⟩
  · rw [b4, b1]
    exact c1 q1 q2
  · obtain ⟨i, e⟩ := c2 q (by simpa using a1) (by simpa using a2)
    exact ⟨i, b4.trans e⟩
end Go.Proofs.YtkbhmcdoedmffaaDoor

namespace Go.Proofs.YtkbhmcdoedmffaaDoor
set_option linter.unusedVariables false
set_option linter.unusedSimpArgs false
open Go.RowKit
set_option maxRecDepth 100000

theorem file_inv {s : List UInt8} {cs : List CO} {rs : List RC} {xs : List EX} {ts : List TY} (h : fileS s = .ok cs rs xs ts) : s.length ≤ 16384 ∧ ∃ L i, lexF s 1 1 = .ok L ∧ wholeN L (L.length + 1) [] [] ⟨0, [], []⟩ = .ok (cs, rs) ⟨i, xs, ts⟩ := by
  unfold fileS fileV lexV at h
  by_cases hl : s.length ≤ 16384
  · refine ⟨hl, ?_⟩
    rw [if_pos hl] at h
    rcases hL : lexF s 1 1 with L | ⟨l, c, e⟩ <;> rw [hL] at h <;> dsimp only at h
    · split at h
      · rename_i hw
        cases h
        exact ⟨L, _, rfl, hw⟩
      · cases h
    · cases h
  · rw [if_neg hl] at h
    cases h
theorem joins_file {s t : List UInt8} (hs : s.length ≤ 8000) (ht : t.length ≤ 8000) {cs1 cs2 : List CO} {rs1 rs2 : List RC} {xs1 xs2 : List EX} {ts1 ts2 : List TY} (f1 : fileS s = .ok cs1 rs1 xs1 ts1) (f2 : fileS t = .ok cs2 rs2 xs2 ts2) :
    (cs1.length ≤ 64 ∧ cs2.length ≤ 64 ∧ rs1.length ≤ 64 ∧ rs2.length ≤ 64) ∧
    (cs1.length + cs2.length ≤ 64 → rs1.length + rs2.length ≤ 64 → ∃ rs xs ts, fileS (s ++ 10 :: t) = .ok (cs1 ++ cs2) (rs1 ++ rs) xs ts ∧ rs.map RC.nm = rs2.map RC.nm ∧ xs.length = xs1.length + xs2.length ∧ ts.length = ts1.length + ts2.length) ∧
    (64 < cs1.length + cs2.length ∨ 64 < rs1.length + rs2.length → ∃ l c, fileS (s ++ 10 :: t) = .err l c 10) := by
  obtain ⟨-, L1, i1, g1, w1⟩ := file_inv f1
  obtain ⟨-, L2, i2, g2, w2⟩ := file_inv f2
  obtain ⟨hb, L, hL, ha, hn⟩ := joins_whole g1 g2 w1 w2
  have hlex : lexV (s ++ 10 :: t) = .ok L := by unfold lexV; rw [if_pos (by simp only [List.length_append, List.length_cons]; omega), hL]
  refine ⟨hb, fun q1 q2 => ?_, fun q => ?_⟩
  · refine ⟨rs2.map (RC.mv xs1.length ts1.length), xs1 ++ xs2.map (EX.mv xs1.length), ts1 ++ ts2.map (TY.mv xs1.length ts1.length), ?_, ?_, by simp, by simp⟩
    · unfold fileS fileV
      rw [hlex]
      dsimp only
      rw [ha q1 q2]
      rfl
    · rw [List.map_map]
      rfl
  · obtain ⟨i, e⟩ := hn q
    refine ⟨(tk L i).l, (tk L i).c, ?_⟩
    unfold fileS fileV
    rw [hlex]
    dsimp only
    rw [e]
theorem file_len {s : List UInt8} {cs : List CO} {rs : List RC} {xs : List EX} {ts : List TY} (h : fileS s = .ok cs rs xs ts) : xs.length ≤ 100000 ∧ ts.length ≤ 100000 := by
  obtain ⟨hs, L, i, hL, hw⟩ := file_inv h
  have hlx : lexV s = .ok L := by unfold lexV; rw [if_pos hs, hL]
  obtain ⟨hT, hn⟩ := lexV_ok hlx
  have := up_whole hT (L.length + 1) [] [] ⟨0, [], []⟩ 0 ⟨hT.1, by simp, by simp⟩
  rw [hw] at this
  have := this.1
  have h1 := this.i
  have h2 := this.x
  have h3 := this.t
  dsimp only at h1 h2 h3
  omega
end Go.Proofs.YtkbhmcdoedmffaaDoor

namespace Go.Proofs.YtkbhmcdoedmffaaDoor
set_option linter.unusedVariables false
set_option linter.unusedSimpArgs false
open Go.RowKit
set_option maxRecDepth 100000
section
variable {P : Program}
def EqT (P : Program) (d : Nat) (t : TypeId) (x y : Value) (c : Bool) : Prop := ∀ w, (Op.equalIn d t x y).run P w = .ok c w
def EqFs (P : Program) (d : Nat) (xs ys : List Value) (fs : List Field) (c : Bool) : Prop := ∀ w, (Op.eqFields d xs.toArray ys.toArray fs).run P w = .ok c w
def PartI (P : Program) (t : TypeId) (xs : List Value) (off : Nat) (x : Value) : Prop := ∀ w, (part t xs.toArray off).run P w = .ok x w
theorem EqT.int {d : Nat} {t : TypeId} {k k' : IntKind} {a b : Int} (h : P.underlying t = some (.int k')) : EqT P (d + 1) t (.int k a) (.int k b) (decide (a = b)) := fun w => by
  rw [run_equalIn_int w d t k k' a b h]
  rfl
theorem EqT.str {d : Nat} {t : TypeId} {a b : ByteArray} (h : P.underlying t = some .string) : EqT P (d + 1) t (.string a) (.string b) (decide (a = b)) := fun w => by
  rw [run_equalIn_string w d t a b h, bytes_eq]
theorem EqT.bool {d : Nat} {t : TypeId} {a b : Bool} (h : P.underlying t = some .bool) : EqT P (d + 1) t (.bool a) (.bool b) (decide (a = b)) := fun w => by
  rw [run_equalIn_bool' w d t a b h]
  cases a <;> cases b <;> rfl
theorem EqT.st {d : Nat} {t : TypeId} {fs : Array Field} {xs ys : List Value} {c : Bool} (hu : P.underlying t = some (.struct fs)) (hp : P.stoodInHeld t = false) (h : EqFs P d xs ys fs.toList c) : EqT P (d + 1) t (.agg xs.toArray) (.agg ys.toArray) c := fun w => by
  have hf : P.fieldsOf t = fs := by unfold Program.fieldsOf; rw [hu]
  rw [run_equalIn_struct w d t _ _ (by rw [hf]; exact hu) hp, hf]
  exact h w
/-- A struct's fields: is it named? its type, its place. -/
def fieldsK (P : Program) (t : TypeId) : List (Bool × Nat × Nat) := (P.fieldsOf t).toList.map fun f => (f.name != "_", f.type, f.offset)
def EqKs (P : Program) (d : Nat) (xs ys : List Value) (ks : List (Bool × Nat × Nat)) (c : Bool) : Prop := ∀ fs : List Field, fs.map (fun f => (f.name != "_", f.type, f.offset)) = ks → EqFs P d xs ys fs c
theorem EqT.stk {d : Nat} {t : TypeId} {xs ys : List Value} {c : Bool} (ks : List (Bool × Nat × Nat)) (hk : fieldsK P t = ks) (hs : (match P.underlying t with | some (.struct _) => true | _ => false) = true) (hp : P.stoodInHeld t = false) (h : EqKs P d xs ys ks c) : EqT P (d + 1) t (.agg xs.toArray) (.agg ys.toArray) c := by
  split at hs
  · rename_i fs hu
    refine EqT.st hu hp (h _ ?_)
    have hf : P.fieldsOf t = fs := by unfold Program.fieldsOf; rw [hu]
    rw [← hk, ← hf]; rfl
  · cases hs
theorem EqKs.nil {d : Nat} {xs ys : List Value} : EqKs P d xs ys [] true := fun fs h => by
  rw [List.map_eq_nil_iff] at h
  subst h
  exact fun w => rfl
theorem EqFs.cons {d : Nat} {xs ys : List Value} {f : Field} {fs : List Field} {x y : Value} {b c : Bool} (hn : (f.name != "_") = true) (hx : PartI P f.type xs f.offset x) (hy : PartI P f.type ys f.offset y) (h1 : EqT P d f.type x y b) (h2 : EqFs P d xs ys fs c) : EqFs P d xs ys (f :: fs) (b && c) := fun w => by
  have hn' : f.name ≠ "_" := by simpa using hn
  rw [Op.eqFields, if_pos hn']
  simp only [Sem.run_bind]
  rw [hx w, Result.andThen_ok, hy w, Result.andThen_ok, h1 w, Result.andThen_ok]
  cases b
  · simp
  · simp only [Bool.not_true, Bool.false_eq_true, if_false, Bool.true_and]
    exact h2 w
theorem EqKs.cons {d t off : Nat} {xs ys : List Value} {ks : List (Bool × Nat × Nat)} {x y : Value} {b c : Bool} (hx : PartI P t xs off x) (hy : PartI P t ys off y) (h1 : EqT P d t x y b) (h2 : EqKs P d xs ys ks c) : EqKs P d xs ys ((true, t, off) :: ks) (b && c) := fun fs h => by
  rcases fs with _ | ⟨f, fs⟩
  · cases h
  · rw [List.map_cons] at h
    injection h with e h
    injection e with e1 e
    injection e with e2 e3
    subst e2
    subst e3
    exact EqFs.cons e1 hx hy h1 (h2 fs h)
def isAggB (P : Program) (t : TypeId) : Bool := match P.underlying t with
  | some (.struct _) | some (.array _ _) => true
  | _ => false
theorem PartI.one {t : TypeId} {xs : List Value} {off : Nat} {x : Value} {dsc : TypeDesc} (hu : P.underlying t = some dsc) (ha : isAggB P t = false) (hx : xs[off]? = some x) : PartI P t xs off x := fun w => by
  unfold isAggB at ha
  rw [hu] at ha
  unfold part isAgg
  simp only [Sem.run_bind, run_underlying hu, Result.andThen_ok]
  cases dsc <;> first | (cases ha; done) | (simp [hx]; done)
theorem PartI.agg {t : TypeId} {xs : List Value} {off n : Nat} {ys : List Value} {dsc : TypeDesc} {i : TypeInfo} (hu : P.underlying t = some dsc) (ha : isAggB P t = true) (hi : P.info? t = some i) (hn : i.size = n) (hx : (xs.drop off).take n = ys) : PartI P t xs off (.agg ys.toArray) := fun w => by
  unfold isAggB at ha
  rw [hu] at ha
  have h1 : ∀ w, (isAgg t).run P w = .ok true w := fun w => by
    unfold isAgg
    simp only [Sem.run_bind, run_underlying hu, Result.andThen_ok]
    cases dsc <;> first | (cases ha; done) | rfl
  have h2 : ∀ w, (sizeOf t).run P w = .ok n w := fun w => by
    unfold sizeOf
    simp [typeInfo, hi, hn]
  unfold part
  simp only [Sem.run_bind, h1, h2, Result.andThen_ok, if_true]
  rw [← hx]
  simp [List.extract_eq_take_drop]
def leafI (xs ys : List Value) : Option Bool := match xs, ys with
  | [.int k a], [.int k' b] => if k = k' then some (decide (a = b)) else none
  | _, _ => none
def leafS (xs ys : List Value) : Option Bool := match xs, ys with
  | [.string a], [.string b] => some (decide (a = b))
  | _, _ => none
def leafB (xs ys : List Value) : Option Bool := match xs, ys with
  | [.bool a], [.bool b] => some (decide (a = b))
  | _, _ => none
theorem leafI_ok {xs ys : List Value} {c : Bool} (h : leafI xs ys = some c) : ∃ k a b, xs = [.int k a] ∧ ys = [.int k b] ∧ c = decide (a = b) := by
  unfold leafI at h
  split at h
  · split at h
    · rename_i e; subst e; injection h with h; exact ⟨_, _, _, rfl, rfl, h.symm⟩
    · cases h
  · cases h
theorem leafS_ok {xs ys : List Value} {c : Bool} (h : leafS xs ys = some c) : ∃ a b, xs = [.string a] ∧ ys = [.string b] ∧ c = decide (a = b) := by
  unfold leafS at h
  split at h
  · injection h with h; exact ⟨_, _, rfl, rfl, h.symm⟩
  · cases h
theorem leafB_ok {xs ys : List Value} {c : Bool} (h : leafB xs ys = some c) : ∃ a b, xs = [.bool a] ∧ ys = [.bool b] ∧ c = decide (a = b) := by
  unfold leafB at h
  split at h
  · injection h with h; exact ⟨_, _, rfl, rfl, h.symm⟩
  · cases h
/-- Are two values of a type equal, cell by cell? -/
def eqV (P : Program) : Nat → TypeId → List Value → List Value → Option Bool
  | 0, _, _, _ => none
  | d + 1, t, xs, ys => match P.underlying t with
    | some (.int _) => leafI xs ys
    | some .string => leafS xs ys
    | some .bool => leafB xs ys
    | some (.struct fs) => match P.stoodInHeld t, P.info? t with
      | false, some _ => fs.toList.foldr (fun f r => match f.name != "_", eqV P d f.type ((xs.drop f.offset).take (P.cellsOf f.type)) ((ys.drop f.offset).take (P.cellsOf f.type)), r with
        | true, some b, some c => some (b && c)
        | _, _, _ => none) (some true)
      | _, _ => none
    | some (.array n e) => match P.info? e, P.info? t with
      | some _, some _ => (List.range n).foldr (fun i r => match eqV P d e ((xs.drop (i * P.cellsOf e)).take (P.cellsOf e)) ((ys.drop (i * P.cellsOf e)).take (P.cellsOf e)), r with
        | some b, some c => some (b && c)
        | _, _ => none) (some true)
      | _, _ => none
    | _ => none
/-- The value of a type that is made of cells. -/
def packV (P : Program) (t : TypeId) (xs : List Value) : Value := match isAggB P t with
  | true => .agg xs.toArray
  | false => xs.headD undef
theorem part_pack {t : TypeId} {xs : List Value} {off : Nat} {dsc : TypeDesc} {i : TypeInfo} (hu : P.underlying t = some dsc) (hi : P.info? t = some i) (h1 : isAggB P t = true ∨ ((xs.drop off).take (P.cellsOf t)) ≠ []) : PartI P t xs off (packV P t ((xs.drop off).take (P.cellsOf t))) := by
  have hc : P.cellsOf t = i.size := by unfold Program.cellsOf; rw [hi]; rfl
  unfold packV
  cases ha : isAggB P t with
  | true => exact PartI.agg hu ha hi rfl (by rw [hc])
  | false =>
    refine PartI.one hu ha ?_
    rcases h1 with h1 | h1
    · rw [ha] at h1; cases h1
    · cases hd : xs.drop off with
      | nil => rw [hd] at h1; simp at h1
      | cons x l =>
        cases hn : P.cellsOf t with
        | zero => rw [hn] at h1; simp at h1
        | succ n =>
          have := congrArg (·[0]?) hd
          simpa using this
theorem eqV_some {d : Nat} {t : TypeId} {xs ys : List Value} {c : Bool} (h : eqV P d t xs ys = some c) : (∃ dsc i, P.underlying t = some dsc ∧ P.info? t = some i) ∧ (isAggB P t = true ∨ xs ≠ [] ∧ ys ≠ []) := by
  cases d with
  | zero => cases h
  | succ d =>
    have hinf : ∀ dsc, P.underlying t = some dsc → ∃ i, P.info? t = some i := fun dsc hu => info_of_underlying hu
    rw [eqV] at h
    split at h
    · rename_i hu
      obtain ⟨i, hi⟩ := hinf _ hu
      refine ⟨⟨_, i, hu, hi⟩, .inr ?_⟩
      obtain ⟨_, _, _, rfl, rfl, -⟩ := leafI_ok h
      simp
    · rename_i hu
      obtain ⟨i, hi⟩ := hinf _ hu
      refine ⟨⟨_, i, hu, hi⟩, .inr ?_⟩
      obtain ⟨_, _, rfl, rfl, -⟩ := leafS_ok h
      simp
    · rename_i hu
      obtain ⟨i, hi⟩ := hinf _ hu
      refine ⟨⟨_, i, hu, hi⟩, .inr ?_⟩
      obtain ⟨_, _, rfl, rfl, -⟩ := leafB_ok h
      simp
    · rename_i hu
      obtain ⟨i, hi⟩ := hinf _ hu
      exact ⟨⟨_, i, hu, hi⟩, .inl (by unfold isAggB; rw [hu])⟩
    · rename_i hu
      obtain ⟨i, hi⟩ := hinf _ hu
      exact ⟨⟨_, i, hu, hi⟩, .inl (by unfold isAggB; rw [hu])⟩
    · cases h
theorem eqV_ok : ∀ (d : Nat) (t : TypeId) (xs ys : List Value) (c : Bool), eqV P d t xs ys = some c → ∀ dd, d ≤ dd → EqT P dd t (packV P t xs) (packV P t ys) c
  | 0, _, _, _, _, h, _, _ => by cases h
  | d + 1, t, xs, ys, c, h, dd, hdd => by
    obtain ⟨dd, rfl⟩ : ∃ k, dd = k + 1 := ⟨dd - 1, by omega⟩
    have hd : d ≤ dd := by omega
    have step : ∀ (t : TypeId) (off : Nat) (c : Bool), eqV P d t ((xs.drop off).take (P.cellsOf t)) ((ys.drop off).take (P.cellsOf t)) = some c →
        ∃ x y, PartI P t xs off x ∧ PartI P t ys off y ∧ EqT P dd t x y c := fun t off c h => by
      obtain ⟨⟨dsc, i, hu, hi⟩, h2⟩ := eqV_some h
      exact ⟨_, _, part_pack hu hi (h2.imp id (·.1)), part_pack hu hi (h2.imp id (·.2)), eqV_ok d t _ _ c h dd hd⟩
    rw [eqV] at h
    split at h
    · rename_i k hu
      have ha : isAggB P t = false := by unfold isAggB; rw [hu]
      obtain ⟨_, _, _, rfl, rfl, rfl⟩ := leafI_ok h
      unfold packV; rw [ha]
      exact EqT.int hu
    · rename_i hu
      have ha : isAggB P t = false := by unfold isAggB; rw [hu]
      obtain ⟨_, _, rfl, rfl, rfl⟩ := leafS_ok h
      unfold packV; rw [ha]
      exact EqT.str hu
    · rename_i hu
      have ha : isAggB P t = false := by unfold isAggB; rw [hu]
      obtain ⟨_, _, rfl, rfl, rfl⟩ := leafB_ok h
      unfold packV; rw [ha]
      exact EqT.bool hu
    · rename_i fs hu
      have ha : isAggB P t = true := by unfold isAggB; rw [hu]
      unfold packV; rw [ha]
      split at h
      · rename_i hp hi
        refine EqT.st hu hp ?_
        generalize fs.toList = l at h
        induction l generalizing c with
        | nil => injection h with h; subst h; exact fun w => rfl
        | cons f l ih =>
          rw [List.foldr_cons] at h
          split at h
          · rename_i b c' hn hb hc
            injection h with h; subst h
            obtain ⟨x, y, h1, h2, h3⟩ := step f.type f.offset b hb
            exact EqFs.cons hn h1 h2 h3 (ih c' hc)
          · cases h
      · cases h
    · rename_i n e hu
      have ha : isAggB P t = true := by unfold isAggB; rw [hu]
      unfold packV; rw [ha]
      split at h
      · rename_i i i' hi hi'
        intro w
        rw [run_equalIn_array w dd xs.toArray ys.toArray hu hi]
        revert w
        generalize List.range n = l at h
        induction l generalizing c with
        | nil => injection h with h; subst h; exact fun w => rfl
        | cons j l ih =>
          intro w
          rw [List.foldr_cons] at h
          split at h
          · rename_i b c' hb hc
            injection h with h; subst h
            obtain ⟨x, y, h1, h2, h3⟩ := step e (j * P.cellsOf e) b hb
            rw [Op.eqItems]
            simp only [Sem.run_bind]
            rw [h1 w, Result.andThen_ok, h2 w, Result.andThen_ok, h3 w, Result.andThen_ok]
            have := ih c' hc w
            cases b
            · simp
            · simpa using this
          · cases h
      · cases h
    · cases h
theorem eqV_self : ∀ (d : Nat) (t : TypeId) (xs : List Value) (c : Bool), eqV P d t xs xs = some c → c = true
  | 0, _, _, _, h => by cases h
  | d + 1, t, xs, c, h => by
    rw [eqV] at h
    split at h
    · obtain ⟨k, a, b, e1, e2, e3⟩ := leafI_ok h
      rw [e1] at e2
      cases e2
      rw [e3]; simp
    · obtain ⟨a, b, e1, e2, e3⟩ := leafS_ok h
      rw [e1] at e2
      cases e2
      rw [e3]; simp
    · obtain ⟨a, b, e1, e2, e3⟩ := leafB_ok h
      rw [e1] at e2
      cases e2
      rw [e3]; simp
    · split at h
      · rename_i fs _ _ _ _ _ _
        generalize fs.toList = l at h
        induction l generalizing c with
        | nil => injection h with h; exact h.symm
        | cons f l ih =>
          rw [List.foldr_cons] at h
          split at h
          · rename_i b c' hn hb hc
            injection h with h
            rw [← h, eqV_self d _ _ _ hb, ih c' hc]; rfl
          · cases h
      · cases h
    · split at h
      · rename_i n e _ _ _ _ _ _ _
        generalize List.range n = l at h
        induction l generalizing c with
        | nil => injection h with h; exact h.symm
        | cons f l ih =>
          rw [List.foldr_cons] at h
          split at h
          · rename_i b c' hb hc
            injection h with h
            rw [← h, eqV_self d _ _ _ hb, ih c' hc]; rfl
          · cases h
      · cases h
    · cases h
/-- The equality of two structs or arrays, as the walk asks for it. -/
theorem eq_two {t : TypeId} {xs ys : List Value} {c : Bool} (h : eqV P 20 t xs ys = some c) (ha : isAggB P t = true) : ∀ w, (Op.equal t (.agg xs.toArray) (.agg ys.toArray)).run P w = .ok c w := fun w => by
  have := eqV_ok 20 t xs ys c h 10000 (by omega) w
  unfold packV at this
  rw [ha] at this
  exact this
theorem eq_same {t : TypeId} {xs : List Value} (h : (eqV P 20 t xs xs).isSome = true) (ha : isAggB P t = true) : ∀ w, (Op.equal t (.agg xs.toArray) (.agg xs.toArray)).run P w = .ok true w := by
  obtain ⟨c, hc⟩ := Option.isSome_iff_exists.1 h
  have := eqV_self 20 t xs c hc
  subst this
  exact eq_two hc ha
end
theorem ex_agg {g : Prop} {Q K : Bool → Prop} (hg : g) (c : Bool) (he : Q c) (h : K c) : g ∧ ∃ c, Q c ∧ K c := ⟨hg, c, he, h⟩
end Go.Proofs.YtkbhmcdoedmffaaDoor

namespace Go.Proofs.YtkbhmcdoedmffaaDoor
set_option linter.unusedVariables false
set_option linter.unusedSimpArgs false
open Go.RowKit
set_option maxRecDepth 100000

theorem file_err6 {s : List UInt8} {l c e : Nat} (h : fileS s = .err l c e) : 0 < e ∧ e ≤ 10 := by
  unfold fileS fileV at h
  rcases hl : lexV s with L | ⟨l', c', e'⟩ <;> rw [hl] at h <;> dsimp only at h
  · obtain ⟨hL, hn⟩ := lexV_ok hl
    have := up_whole hL (L.length + 1) [] [] ⟨0, [], []⟩ 0 ⟨hL.1, by simp, by simp⟩
    split at h
    · cases h
    · rename_i i e0 hw
      rw [hw] at this
      cases h
      exact ⟨this.2.2.1, this.2.2.2⟩
  · cases h
    have := lexV_err hl
    omega
set_option maxHeartbeats 4000000 in
theorem parseJoins_c (s t : List UInt8) (hs : s.length ≤ 140737488351232) (ht : t.length ≤ 140737488351232) : CallsA Tryd.prog ΓL 3 [c1 (ds (bs s)), c1 (ds (bs t))] (Tb true) := by
  have hss := bs_size s
  have hts := bs_size t
  obtain ⟨a, ha⟩ : ∃ a, min s.length 8000 = a := ⟨_, rfl⟩
  obtain ⟨b, hb⟩ : ∃ b, min t.length 8000 = b := ⟨_, rfl⟩
  have e1 := ext_take s a
  have e2 := ext_take t b
  obtain ⟨S, hS⟩ : ∃ S, s.take a = S := ⟨_, rfl⟩
  obtain ⟨T, hT⟩ : ∃ T, t.take b = T := ⟨_, rfl⟩
  have hSl : S.length ≤ 8000 := by rw [← hS, List.length_take]; omega
  have hTl : T.length ≤ 8000 := by rw [← hT, List.length_take]; omega
  rw [hS] at e1
  rw [hT] at e2
  have h1 := Parse_c S
  have h2 := Parse_c T
  have h3 := Parse_c (S ++ 10 :: T)
  have hcat : bs (S ++ 10 :: T) = bs S ++ ⟨#[10]⟩ ++ bs T := by
    rw [show (⟨#[10]⟩ : ByteArray) = bs [10] from rfl, bs_app, bs_app]
    congr 1
    simp
  rw [hcat] at h3
  have hw := wakes_c
  have hsz1 := bs_size S
  have hsz2 := bs_size T
  have z2 : (⟨#[10]⟩ : ByteArray).size = 1 := rfl
  have z3 : (bs S ++ ⟨#[10]⟩).size = S.length + 1 := by rw [ByteArray.size_append, hsz1]; rfl
  have m1 : (if (8000 : Int) < ((bs s).size : Nat) then (8000 : Int) else ((bs s).size : Nat)) = (a : Nat) := by split <;> omega
  have m2 : (if (8000 : Int) < ((bs t).size : Nat) then (8000 : Int) else ((bs t).size : Nat)) = (b : Nat) := by split <;> omega
  have e1 : (bs s).extract (Int.toNat 0) ((a : Nat) : Int).toNat = bs S := e1
  have e2 : (bs t).extract (Int.toNat 0) ((b : Nat) : Int).toNat = bs T := e2
  rw [← e1] at h1
  rw [← e2] at h2
  rw [← e1, ← e2] at h3
  rw [← e1] at z3 hsz1
  rw [← e2] at hsz2
  rcases f1 : fileS S with ⟨cs1, rs1, xs1, ts1⟩ | ⟨l1, c1', er1⟩ <;> rw [f1] at h1
  · rcases f2 : fileS T with ⟨cs2, rs2, xs2, ts2⟩ | ⟨l2, c2, er2⟩ <;> rw [f2] at h2
    · obtain ⟨⟨b1, b2, b3, b4⟩, hok, hno⟩ := joins_file hSl hTl f1 f2
      by_cases hfit : cs1.length + cs2.length ≤ 64 ∧ rs1.length + rs2.length ≤ 64
      · obtain ⟨rs, xs, ts, f3, hnm, hx, hy⟩ := hok hfit.1 hfit.2
        clear hok hno
        have hl := congrArg List.length hnm
        rw [List.length_map, List.length_map] at hl
        obtain ⟨g1, g2⟩ := file_len f1
        obtain ⟨g3, g4⟩ := file_len f2
        have hnt : ∀ (i : Nat) (r : RC), rs[i]? = some r → ∃ r' : RC, rs2[i]? = some r' ∧ r.nm = r'.nm := fun i r h => by
          have e : (rs.map RC.nm)[i]? = (rs2.map RC.nm)[i]? := by rw [hnm]
          rw [List.getElem?_map, List.getElem?_map, h] at e
          rcases h2 : rs2[i]? with _ | r'
          · rw [h2] at e; cases e
          · rw [h2] at e
            exact ⟨r', rfl, by simpa using e⟩
        obtain ⟨CS, hCS⟩ : ∃ q, cs1 ++ cs2 = q := ⟨_, rfl⟩
        obtain ⟨RS, hRS⟩ : ∃ q, rs1 ++ rs = q := ⟨_, rfl⟩
        have hCl : CS.length = cs1.length + cs2.length := by rw [← hCS, List.length_append]
        have hRl : RS.length = rs1.length + rs.length := by rw [← hRS, List.length_append]
        rw [f3, hCS, hRS] at h3
        clear f3 hnm
        refine fn_rule (C := ⟨Tryd.prog, layF, Tryd.f3.ntmps, ΓL, 0, [], []⟩) layF_ok mixed Tryd.func3 rfl (by kernel_rfl) rfl rfl rfl ?_
        repeat' (first | refine ex_call hw ?_ | refine ex_call h3 ?_ | refine ex_call h2 ?_ | refine ex_call h1 ?_ | refine (ex_pn (by kernel_rfl) false (fun _ _ => by kernel_rfl)) ?_ | refine (ex_is (b : Int) m2) ?_ | refine (ex_is (a : Int) m1) ?_ | refine ex_true (by first | decide | omega | assumption | (with_reducible exact rfl)) ?_ | refine ex_false (by first | decide | omega | assumption | exact (fun h => h rfl)) ?_ | refine ex_dec (fun _ => ?_) (fun _ => ?_) | refine ex_u8 _ rfl (by omega) (by omega) ?_ | refine ex_i64 _ rfl (by omega) (by omega) ?_ | refine ex_u64 _ rfl (by omega) (by omega) ?_ | refine and_mk (by first | omega | (with_reducible rfl) | (show drawOk _ _ _ = true; kernel_rfl)) ?_ | refine and_mk ⟨_, rfl⟩ ?_ | refine ex_is _ (List.length_map _) ?_ | refine ex_is _ List.length_nil ?_ | fail "no step")
        refine ex_loop (X := Nat) (fun q => ⟨[(5, .o (.c (.eptr (fileD cs1 rs1 xs1 ts1)))), (8, .o (.c (.eptr (fileD cs2 rs2 xs2 ts2)))), (11, .o (.c (.eptr (fileD CS RS xs ts)))), (183, .o (c1 (.sl 2 (CS.map coD)))), (184, Ti CS.length), (185, Ti q)], [], 3⟩) (fun q => CS.length - q) (fun q => q ≤ CS.length) 0 (Nat.zero_le _) (SLe.of ⟨⟨rfl, rfl, rfl, rfl, rfl, rfl, trivial⟩, trivial⟩) ?_
        intro q hq
        refine ex_dec (fun h => ?_) (fun h => ?_)
        · have hql : q < CS.length := by omega
          by_cases hqu : q < cs1.length
          · have hcn : CS[q]? = some cs1[q] := by rw [← hCS, List.getElem?_append_left hqu]; exact at_some hqu
            have hct : cs1[q]? = some cs1[q] := at_some hqu
            generalize cs1[q] = x at *
            repeat' (first | refine ex_i64 ((q + 1 : Nat) : Int) (by omega) (by omega) (by omega) ?_ | refine ex_u64 ((q + 1 : Nat) : Int) (by omega) (by omega) (by omega) ?_ | refine ex_u8 ((q + 1 : Nat) : Int) (by omega) (by omega) (by omega) ?_ | refine (ex_agg (by kernel_rfl) true (eq_same (by kernel_rfl) (by kernel_rfl))) ?_ | refine (ex_row q x rfl hct) ?_ | refine (ex_row q x rfl hcn) ?_ | refine ex_true (by first | decide | omega | assumption | (with_reducible exact rfl)) ?_ | refine ex_false (by first | decide | omega | assumption | exact (fun h => h rfl)) ?_ | refine ex_dec (fun _ => ?_) (fun _ => ?_) | refine ex_u8 _ rfl (by omega) (by omega) ?_ | refine ex_i64 _ rfl (by omega) (by omega) ?_ | refine ex_u64 _ rfl (by omega) (by omega) ?_ | refine and_mk (by first | omega | (with_reducible rfl) | (show drawOk _ _ _ = true; kernel_rfl)) ?_ | refine and_mk ⟨_, rfl⟩ ?_ | refine ex_is _ (List.length_map _) ?_ | refine ex_is _ List.length_nil ?_ | fail "no step")
            exact ex_round (q + 1) (by show q + 1 ≤ CS.length; omega) (by show _ - _ < _ - _; omega) (SLe.of ⟨⟨rfl, rfl, rfl, rfl, rfl, rfl, trivial⟩, trivial⟩)
          · have hqm : q - cs1.length < cs2.length := by omega
            have hcm : cs2[q - cs1.length]? = some cs2[q - cs1.length] := at_some hqm
            have hcn : CS[q]? = some cs2[q - cs1.length] := by rw [← hCS, List.getElem?_append_right (by omega)]; exact hcm
            generalize cs2[q - cs1.length] = x at *
            repeat' (first | refine ex_i64 ((q + 1 : Nat) : Int) (by omega) (by omega) (by omega) ?_ | refine ex_u64 ((q + 1 : Nat) : Int) (by omega) (by omega) (by omega) ?_ | refine ex_u8 ((q + 1 : Nat) : Int) (by omega) (by omega) (by omega) ?_ | refine ex_i64 ((q - cs1.length : Nat) : Int) (by omega) (by omega) (by omega) ?_ | refine ex_u64 ((q - cs1.length : Nat) : Int) (by omega) (by omega) (by omega) ?_ | refine ex_u8 ((q - cs1.length : Nat) : Int) (by omega) (by omega) (by omega) ?_ | refine (ex_agg (by kernel_rfl) true (eq_same (by kernel_rfl) (by kernel_rfl))) ?_ | refine (ex_row (q - cs1.length) x rfl hcm) ?_ | refine (ex_row q x rfl hcn) ?_ | refine ex_true (by first | decide | omega | assumption | (with_reducible exact rfl)) ?_ | refine ex_false (by first | decide | omega | assumption | exact (fun h => h rfl)) ?_ | refine ex_dec (fun _ => ?_) (fun _ => ?_) | refine ex_u8 _ rfl (by omega) (by omega) ?_ | refine ex_i64 _ rfl (by omega) (by omega) ?_ | refine ex_u64 _ rfl (by omega) (by omega) ?_ | refine and_mk (by first | omega | (with_reducible rfl) | (show drawOk _ _ _ = true; kernel_rfl)) ?_ | refine and_mk ⟨_, rfl⟩ ?_ | refine ex_is _ (List.length_map _) ?_ | refine ex_is _ List.length_nil ?_ | fail "no step")
            exact ex_round (q + 1) (by show q + 1 ≤ CS.length; omega) (by show _ - _ < _ - _; omega) (SLe.of ⟨⟨rfl, rfl, rfl, rfl, rfl, rfl, trivial⟩, trivial⟩)
        · repeat' (first | refine ex_true (by first | decide | omega | assumption | (with_reducible exact rfl)) ?_ | refine ex_false (by first | decide | omega | assumption | exact (fun h => h rfl)) ?_ | refine ex_dec (fun _ => ?_) (fun _ => ?_) | refine ex_u8 _ rfl (by omega) (by omega) ?_ | refine ex_i64 _ rfl (by omega) (by omega) ?_ | refine ex_u64 _ rfl (by omega) (by omega) ?_ | refine and_mk (by first | omega | (with_reducible rfl) | (show drawOk _ _ _ = true; kernel_rfl)) ?_ | refine and_mk ⟨_, rfl⟩ ?_ | refine ex_is _ (List.length_map _) ?_ | refine ex_is _ List.length_nil ?_ | fail "no step")
          refine ex_loop (X := Nat) (fun q => ⟨[(5, .o (.c (.eptr (fileD cs1 rs1 xs1 ts1)))), (8, .o (.c (.eptr (fileD cs2 rs2 xs2 ts2)))), (11, .o (.c (.eptr (fileD CS RS xs ts)))), (238, .o (c1 (.sl 3 (RS.map rcD)))), (239, Ti RS.length), (240, Ti q)], [], 3⟩) (fun q => RS.length - q) (fun q => q ≤ RS.length) 0 (Nat.zero_le _) (SLe.of ⟨⟨rfl, rfl, rfl, rfl, rfl, rfl, trivial⟩, trivial⟩) ?_
          intro q hq
          refine ex_dec (fun h2 => ?_) (fun h2 => ?_)
          · have hql : q < RS.length := by omega
            by_cases hqu : q < rs1.length
            · have hcn : RS[q]? = some rs1[q] := by rw [← hRS, List.getElem?_append_left hqu]; exact at_some hqu
              have hct : rs1[q]? = some rs1[q] := at_some hqu
              generalize rs1[q] = x at *
              repeat' (first | refine ex_i64 ((q + 1 : Nat) : Int) (by omega) (by omega) (by omega) ?_ | refine ex_u64 ((q + 1 : Nat) : Int) (by omega) (by omega) (by omega) ?_ | refine ex_u8 ((q + 1 : Nat) : Int) (by omega) (by omega) (by omega) ?_ | refine (ex_row q x rfl hct) ?_ | refine (ex_row q x rfl hcn) ?_ | refine ex_true (by first | decide | omega | assumption | (with_reducible exact rfl)) ?_ | refine ex_false (by first | decide | omega | assumption | exact (fun h => h rfl)) ?_ | refine ex_dec (fun _ => ?_) (fun _ => ?_) | refine ex_u8 _ rfl (by omega) (by omega) ?_ | refine ex_i64 _ rfl (by omega) (by omega) ?_ | refine ex_u64 _ rfl (by omega) (by omega) ?_ | refine and_mk (by first | omega | (with_reducible rfl) | (show drawOk _ _ _ = true; kernel_rfl)) ?_ | refine and_mk ⟨_, rfl⟩ ?_ | refine ex_is _ (List.length_map _) ?_ | refine ex_is _ List.length_nil ?_ | fail "no step")
              exact ex_round (q + 1) (by show q + 1 ≤ RS.length; omega) (by show _ - _ < _ - _; omega) (SLe.of ⟨⟨rfl, rfl, rfl, rfl, rfl, rfl, trivial⟩, trivial⟩)
            · have hqm : q - rs1.length < rs.length := by omega
              have hcm : rs[q - rs1.length]? = some rs[q - rs1.length] := at_some hqm
              have hcn : RS[q]? = some rs[q - rs1.length] := by rw [← hRS, List.getElem?_append_right (by omega)]; exact hcm
              obtain ⟨y, hy2, hxy⟩ := hnt _ _ hcm
              generalize rs[q - rs1.length] = x at *
              rcases x with ⟨xn, xp, xi⟩
              rcases y with ⟨yn, yp, yi⟩
              obtain rfl : xn = yn := hxy
              repeat' (first | refine ex_i64 ((q + 1 : Nat) : Int) (by omega) (by omega) (by omega) ?_ | refine ex_u64 ((q + 1 : Nat) : Int) (by omega) (by omega) (by omega) ?_ | refine ex_u8 ((q + 1 : Nat) : Int) (by omega) (by omega) (by omega) ?_ | refine ex_i64 ((q - rs1.length : Nat) : Int) (by omega) (by omega) (by omega) ?_ | refine ex_u64 ((q - rs1.length : Nat) : Int) (by omega) (by omega) (by omega) ?_ | refine ex_u8 ((q - rs1.length : Nat) : Int) (by omega) (by omega) (by omega) ?_ | refine (ex_row (q - rs1.length) _ rfl hy2) ?_ | refine (ex_row q _ rfl hcn) ?_ | refine ex_true (by first | decide | omega | assumption | (with_reducible exact rfl)) ?_ | refine ex_false (by first | decide | omega | assumption | exact (fun h => h rfl)) ?_ | refine ex_dec (fun _ => ?_) (fun _ => ?_) | refine ex_u8 _ rfl (by omega) (by omega) ?_ | refine ex_i64 _ rfl (by omega) (by omega) ?_ | refine ex_u64 _ rfl (by omega) (by omega) ?_ | refine and_mk (by first | omega | (with_reducible rfl) | (show drawOk _ _ _ = true; kernel_rfl)) ?_ | refine and_mk ⟨_, rfl⟩ ?_ | refine ex_is _ (List.length_map _) ?_ | refine ex_is _ List.length_nil ?_ | fail "no step")
              exact ex_round (q + 1) (by show q + 1 ≤ RS.length; omega) (by show _ - _ < _ - _; omega) (SLe.of ⟨⟨rfl, rfl, rfl, rfl, rfl, rfl, trivial⟩, trivial⟩)
          · repeat' (first | refine ex_true (by first | decide | omega | assumption | (with_reducible exact rfl)) ?_ | refine ex_false (by first | decide | omega | assumption | exact (fun h => h rfl)) ?_ | refine ex_dec (fun _ => ?_) (fun _ => ?_) | refine ex_u8 _ rfl (by omega) (by omega) ?_ | refine ex_i64 _ rfl (by omega) (by omega) ?_ | refine ex_u64 _ rfl (by omega) (by omega) ?_ | refine and_mk (by first | omega | (with_reducible rfl) | (show drawOk _ _ _ = true; kernel_rfl)) ?_ | refine and_mk ⟨_, rfl⟩ ?_ | refine ex_is _ (List.length_map _) ?_ | refine ex_is _ List.length_nil ?_ | fail "no step")
            exact TLe.rfl
      · obtain ⟨l3, c3, f3⟩ := hno (by omega)
        clear hok hno
        rw [f3] at h3
        refine fn_rule (C := ⟨Tryd.prog, layF, Tryd.f3.ntmps, ΓL, 0, [], []⟩) layF_ok mixed Tryd.func3 rfl (by kernel_rfl) rfl rfl rfl ?_
        repeat' (first | refine ex_call hw ?_ | refine ex_call h3 ?_ | refine ex_call h2 ?_ | refine ex_call h1 ?_ | refine (ex_pn (by kernel_rfl) false (fun _ _ => by kernel_rfl)) ?_ | refine (ex_is (b : Int) m2) ?_ | refine (ex_is (a : Int) m1) ?_ | refine ex_true (by first | decide | omega | assumption | (with_reducible exact rfl)) ?_ | refine ex_false (by first | decide | omega | assumption | exact (fun h => h rfl)) ?_ | refine ex_dec (fun _ => ?_) (fun _ => ?_) | refine ex_u8 _ rfl (by omega) (by omega) ?_ | refine ex_i64 _ rfl (by omega) (by omega) ?_ | refine ex_u64 _ rfl (by omega) (by omega) ?_ | refine and_mk (by first | omega | (with_reducible rfl) | (show drawOk _ _ _ = true; kernel_rfl)) ?_ | refine and_mk ⟨_, rfl⟩ ?_ | refine ex_is _ (List.length_map _) ?_ | refine ex_is _ List.length_nil ?_ | fail "no step")
        all_goals exact TLe.rfl
    · have he := file_err6 f2
      rcases f3 : fileS (S ++ 10 :: T) with ⟨cs3, rs3, xs3, ts3⟩ | ⟨l3, c3, er3⟩ <;> rw [f3] at h3
      all_goals
        refine fn_rule (C := ⟨Tryd.prog, layF, Tryd.f3.ntmps, ΓL, 0, [], []⟩) layF_ok mixed Tryd.func3 rfl (by kernel_rfl) rfl rfl rfl ?_
        repeat' (first | refine ex_call hw ?_ | refine ex_call h3 ?_ | refine ex_call h2 ?_ | refine ex_call h1 ?_ | refine (ex_is (b : Int) m2) ?_ | refine (ex_is (a : Int) m1) ?_ | refine ex_true (by first | decide | omega | assumption | (with_reducible exact rfl)) ?_ | refine ex_false (by first | decide | omega | assumption | exact (fun h => h rfl)) ?_ | refine ex_dec (fun _ => ?_) (fun _ => ?_) | refine ex_u8 _ rfl (by omega) (by omega) ?_ | refine ex_i64 _ rfl (by omega) (by omega) ?_ | refine ex_u64 _ rfl (by omega) (by omega) ?_ | refine and_mk (by first | omega | (with_reducible rfl) | (show drawOk _ _ _ = true; kernel_rfl)) ?_ | refine and_mk ⟨_, rfl⟩ ?_ | refine ex_is _ (List.length_map _) ?_ | refine ex_is _ List.length_nil ?_ | fail "no step")
        exact TLe.rfl
  · have he := file_err6 f1
    rcases f2 : fileS T with ⟨cs2, rs2, xs2, ts2⟩ | ⟨l2, c2, er2⟩ <;> rw [f2] at h2 <;> rcases f3 : fileS (S ++ 10 :: T) with ⟨cs3, rs3, xs3, ts3⟩ | ⟨l3, c3, er3⟩ <;> rw [f3] at h3
    all_goals
      refine fn_rule (C := ⟨Tryd.prog, layF, Tryd.f3.ntmps, ΓL, 0, [], []⟩) layF_ok mixed Tryd.func3 rfl (by kernel_rfl) rfl rfl rfl ?_
      repeat' (first | refine ex_call hw ?_ | refine ex_call h3 ?_ | refine ex_call h2 ?_ | refine ex_call h1 ?_ | refine (ex_is (b : Int) m2) ?_ | refine (ex_is (a : Int) m1) ?_ | refine ex_true (by first | decide | omega | assumption | (with_reducible exact rfl)) ?_ | refine ex_false (by first | decide | omega | assumption | exact (fun h => h rfl)) ?_ | refine ex_dec (fun _ => ?_) (fun _ => ?_) | refine ex_u8 _ rfl (by omega) (by omega) ?_ | refine ex_i64 _ rfl (by omega) (by omega) ?_ | refine ex_u64 _ rfl (by omega) (by omega) ?_ | refine and_mk (by first | omega | (with_reducible rfl) | (show drawOk _ _ _ = true; kernel_rfl)) ?_ | refine and_mk ⟨_, rfl⟩ ?_ | refine ex_is _ (List.length_map _) ?_ | refine ex_is _ List.length_nil ?_ | fail "no step")
      exact TLe.rfl
end Go.Proofs.YtkbhmcdoedmffaaDoor

namespace Go.Proofs.YtkbhmcdoedmffaaDoor
set_option linter.unusedVariables false
set_option linter.unusedSimpArgs false
open Go.ChangeShapes Go.WideShapes Go.ChangeAt Go.RowKit

def tilesF (P : Program) : Nat → List Field → Nat → Bool
  | o, [], n => Nat.beq o n
  | o, f :: fs, n => Nat.beq f.offset o && tilesF P (o + P.cellsOf f.type) fs n
/-- Is a type one that is read, to so many levels? -/
def okT (P : Program) : Nat → TypeId → Bool
  | 0, _ => false
  | d + 1, t => match P.underlying t with
    | some .bool | some (.int _) | some .string => true
    | some (.slice e) => Nat.blt 0 (P.cellsOf e) && okT P d e
    | some (.array n e) => Nat.beq (n * P.cellsOf e) (P.cellsOf t) && okT P d e
    | some (.struct fs) => tilesF P 0 fs.toList (P.cellsOf t) && fs.toList.all fun f => okT P d f.type
    | _ => false
/-- What the cells of a value of a type read as. -/
def DT (P : Program) : Nat → TypeId → List D → Prop
  | 0, _, _ => False
  | d + 1, t, ds => match P.underlying t with
    | some .bool => ∃ b, ds = [.v (.bool b)]
    | some (.int k) => ∃ z, ds = [.v (.int k z)] ∧ (Lit.int k z).wf = true
    | some .string => ∃ s, ds = [.v (.string s)] ∧ s.size ≤ maxLen
    | some (.slice e) => ∃ rows, ds = [.sl (P.cellsOf e) rows] ∧ rows.length ≤ maxLen ∧ ∀ r ∈ rows, DT P d e r
    | some (.array n e) => ∃ ps : List (List D), ps.length = n ∧ ds = ps.flatten ∧ ∀ p ∈ ps, DT P d e p
    | some (.struct fs) => ∃ ps : List (List D), ds = ps.flatten ∧ All2 (fun (f : Field) p => DT P d f.type p) fs.toList ps
    | _ => False
theorem choose_list {α : Type} {Q : Nat → α → Prop} : ∀ {n : Nat}, (∀ i, i < n → ∃ a, Q i a) → ∃ L : List α, L.length = n ∧ ∀ i a, L[i]? = some a → Q i a
  | 0, _ => ⟨[], rfl, fun i a h => by simp at h⟩
  | n + 1, h => by
    obtain ⟨L, h1, h2⟩ := choose_list (n := n) (fun i hi => h i (by omega))
    obtain ⟨a, ha⟩ := h n (by omega)
    refine ⟨L ++ [a], by simp [h1], fun i b hb => ?_⟩
    rw [List.getElem?_append] at hb
    split at hb
    · exact h2 i b hb
    · rename_i hlt
      have hi : i - L.length = 0 := by
        rcases Nat.eq_zero_or_pos (i - L.length) with h | h
        · exact h
        · rw [List.getElem?_eq_none (by simp; omega)] at hb; cases hb
      rw [hi] at hb
      simp at hb
      obtain rfl : i = n := by omega
      rw [← hb]; exact ha
theorem flatten_at {α : Type} {size : Nat} (h0 : 0 < size) : ∀ {rows : List (List α)} (_ : ∀ r ∈ rows, r.length = size) {j : Nat} {d : α}, rows.flatten[j]? = some d → ∃ r, rows[j / size]? = some r ∧ r[j % size]? = some d
  | [], _, j, d, h => by simp at h
  | a :: rows, hr, j, d, h => by
    have ha := hr a (by simp)
    by_cases hj : j < size
    · rw [List.flatten_cons, List.getElem?_append_left (by omega)] at h
      rw [Nat.div_eq_of_lt hj, Nat.mod_eq_of_lt hj]
      exact ⟨a, rfl, h⟩
    · rw [List.flatten_cons, List.getElem?_append_right (by omega), ha] at h
      obtain ⟨r, h1, h2⟩ := flatten_at h0 (fun r hr' => hr r (by simp [hr'])) h
      refine ⟨r, ?_, ?_⟩
      · rw [show j / size = (j - size) / size + 1 by rw [Nat.div_eq_sub_div h0 (by omega)]]
        simpa using h1
      · rw [Nat.mod_eq_sub_mod (by omega)]; exact h2
/-- All memory of a world. -/
def Sall (w : World) : Nat → Prop := fun b => b < w.heap.size
theorem cell_lt {w : World} {a : Addr} {u : Value} (h : w.cell? a = some u) : a.block < w.heap.size ∧ a.spot = none := by
  unfold World.cell? at h
  split at h
  · rename_i c t f hc
    refine ⟨(Array.getElem?_eq_some_iff.1 hc).1, ?_⟩
    split at h
    · cases h
    · rename_i hs
      cases hsp : a.spot with
      | none => rfl
      | some k => rw [hsp] at hs; simp at hs
  · cases h
theorem cells_get {w : World} {base : Nat} {a : Addr} {n : Nat} {cs : List Value} (h : w.cells? base a n = some cs) : cs.length = n ∧ ∀ i, i < n → w.cell? (a.add i) = cs[i]? := by
  unfold World.cells? at h
  split at h
  · obtain ⟨h1, h2⟩ := mapM_isSome h
    rw [List.length_range] at h1
    refine ⟨h1.symm, fun i hi => ?_⟩
    obtain ⟨b, hb1, hb2⟩ := h2 i i (by simp [hi])
    rw [hb1, hb2]
  · cases h
section
variable {H : Type} {enc : TypeId × Value → H} {P : Program} {w : World} {base : Nat} {sp : Nat → Bool} {held : Bool}
theorem parts_all {R : D → Value → Prop} {T : Field → List D → Prop} : ∀ (fs : List Field) (o : Nat) (cs : List Value) (n : Nat), cs.length = n → tilesF P o fs n = true → o ≤ n →
    (∀ f ∈ fs, ∃ ds, T f ds ∧ All2 R ds ((cs.drop f.offset).take (P.cellsOf f.type))) → ∃ ps : List (List D), All2 T fs ps ∧ All2 R ps.flatten (cs.drop o)
  | [], o, cs, n, hl, ht, _, _ => by
    have : o = n := Nat.eq_of_beq_eq_true ht
    exact ⟨[], .nil, by rw [List.drop_of_length_le (by omega)]; exact .nil⟩
  | f :: fs, o, cs, n, hl, ht, ho, h => by
    simp only [tilesF, Bool.and_eq_true] at ht
    have ho' : f.offset = o := Nat.eq_of_beq_eq_true ht.1
    obtain ⟨ds, h1, h2⟩ := h f (by simp)
    have hle : o + P.cellsOf f.type ≤ n := by
      have key : ∀ (fs : List Field) (o : Nat), tilesF P o fs n = true → o ≤ n := fun fs => by
        induction fs with
        | nil => intro o h; exact Nat.le_of_eq (Nat.eq_of_beq_eq_true h)
        | cons g gs ih =>
          intro o h
          simp only [tilesF, Bool.and_eq_true] at h
          have := ih _ h.2
          omega
      exact key fs _ ht.2
    obtain ⟨ps, h3, h4⟩ := parts_all fs _ cs n hl ht.2 hle (fun g hg => h g (by simp [hg]))
    refine ⟨ds :: ps, .cons h1 h3, ?_⟩
    rw [List.flatten_cons, ho'] at *
    have := h2.append h4
    rwa [← List.drop_drop, List.take_append_drop] at this
theorem trod_dt : ∀ (d fuel : Nat) (t : TypeId) (cs : List Value) (x : DataW H × List MemPlace), okT P d t = true → DataW.trod enc P w base sp held fuel t cs = some x → ∃ ds, DT P d t ds ∧ All2 (Imm (Sall w) w) ds cs
  | 0, _, _, _, _, h, _ => by cases h
  | d + 1, fuel, t, cs, x, hok, h => by
    unfold okT at hok
    unfold DT
    split at hok
    · rename_i hu
      obtain ⟨b, rfl, _⟩ := DataW.trod_bool hu h
      exact ⟨_, ⟨b, rfl⟩, .cons (Imm.v rfl) .nil⟩
    · rename_i k hu
      obtain ⟨n, rfl, _, hw⟩ := DataW.trod_int hu h
      exact ⟨_, ⟨n, rfl, hw⟩, .cons (Imm.v rfl) .nil⟩
    · rename_i hu
      obtain ⟨s, rfl, _, hs⟩ := DataW.trod_string hu h
      exact ⟨_, ⟨s, rfl, hs⟩, .cons (Imm.v rfl) .nil⟩
    · rename_i e hu
      simp only [Bool.and_eq_true] at hok
      have h0 : 0 < P.cellsOf e := Nat.lt_of_succ_le (Nat.le_of_ble_eq_true hok.1)
      rcases DataW.trod_slice hu h with ⟨rfl, _⟩ | ⟨a, len, cap, elems, rest, n, _, rfl, _, _, hlc, hcm, hel, hel2, _⟩
      · exact ⟨_, ⟨[], rfl, by simp, by simp⟩, .cons Imm.nil .nil⟩
      · have hone : ∀ i, i < len → ∃ ds, DT P d e ds ∧ ∃ cs', w.cells? base (a.add (i * P.cellsOf e)) (P.cellsOf e) = some cs' ∧ All2 (Imm (Sall w) w) ds cs' := fun i hi => by
          have h1 := hel2 i hi
          rw [List.getElem?_eq_getElem (by omega)] at h1
          obtain ⟨cs', h2, h3⟩ := Option.bind_eq_some_iff.1 h1
          obtain ⟨ds, h4, h5⟩ := trod_dt d n e cs' _ hok.2 h3
          exact ⟨ds, h4, cs', h2, h5⟩
        obtain ⟨rows, hr1, hr2⟩ := choose_list hone
        have hrm : ∀ r ∈ rows, ∃ i, i < len ∧ rows[i]? = some r := fun r hr => by
          obtain ⟨i, hi⟩ := List.getElem?_of_mem hr
          exact ⟨i, by have := (List.getElem?_eq_some_iff.1 hi).1; omega, hi⟩
        have hdt : ∀ r ∈ rows, DT P d e r := fun r hr => by
          obtain ⟨i, _, hi⟩ := hrm r hr
          exact (hr2 i r hi).1
        have hrl : ∀ r ∈ rows, r.length = P.cellsOf e := fun r hr => by
          obtain ⟨i, _, hi⟩ := hrm r hr
          obtain ⟨_, cs', h2, h3⟩ := hr2 i r hi
          rw [h3.len, (cells_get h2).1]
        refine ⟨_, ⟨rows, rfl, by omega, hdt⟩, .cons ?_ .nil⟩
        by_cases hz : len = 0
        · subst hz
          obtain rfl := List.eq_nil_of_length_eq_zero hr1
          exact Imm.sl0
        · obtain ⟨r0, _, cs0, h2, _⟩ := hone 0 (by omega)
          have h3 := (cells_get h2).2 0 h0
          rw [Nat.zero_mul] at h3
          have e0 : (a.add 0).add 0 = a := rfl
          rw [e0, List.getElem?_eq_getElem (by rw [(cells_get h2).1]; exact h0)] at h3
          obtain ⟨hb, hs⟩ := cell_lt h3
          obtain ⟨g, f, spot⟩ := a
          simp only at hs hb
          subst hs
          rw [← hr1]
          have hat : ∀ j dd, rows.flatten[j]? = some dd → ∃ u, w.cell? ⟨g, f + j, none⟩ = some u ∧ Imm (Sall w) w dd u := fun j dd hj => by
            obtain ⟨r, e1, e2⟩ := flatten_at h0 hrl hj
            obtain ⟨_, cs', e3, e4⟩ := hr2 _ r e1
            obtain ⟨u, e5, e6⟩ := e4.at_left e2
            refine ⟨u, ?_, e6⟩
            have e7 := (cells_get e3).2 (j % P.cellsOf e) (Nat.mod_lt _ h0)
            rw [Addr.add_lit, Addr.add_lit, e5] at e7
            rw [← e7]
            congr 2
            rw [Nat.add_assoc, Nat.mul_comm, Nat.div_add_mod]
          refine Imm.sl (fun j => (w.cell? ⟨g, f + j, none⟩).getD undef) hb (by omega) hrl (fun j dd hj => ?_) (fun j dd hj => ?_)
          · obtain ⟨u, e1, _⟩ := hat j dd hj
            rw [e1]; rfl
          · obtain ⟨u, e1, e2⟩ := hat j dd hj
            rw [e1]; exact e2
    · rename_i n e hu
      simp only [Bool.and_eq_true] at hok
      have hn : n * P.cellsOf e = P.cellsOf t := Nat.eq_of_beq_eq_true hok.1
      obtain ⟨xs, m, _, _, hl, hx, hall⟩ := DataW.trod_array hu h
      have hone : ∀ i, i < n → ∃ ds, DT P d e ds ∧ All2 (Imm (Sall w) w) ds ((cs.drop (i * P.cellsOf e)).take (P.cellsOf e)) := fun i hi => by
        have h1 := hall i hi
        rw [List.getElem?_eq_getElem (by omega)] at h1
        exact trod_dt d m e _ _ hok.2 h1
      obtain ⟨ps, hp1, hp2⟩ := choose_list hone
      refine ⟨ps.flatten, ⟨ps, hp1, rfl, fun p hp => ?_⟩, ?_⟩
      · obtain ⟨i, hi⟩ := List.getElem?_of_mem hp
        exact (hp2 i p hi).1
      · have key : ∀ (ps : List (List D)) (o : Nat), (∀ i p, ps[i]? = some p → All2 (Imm (Sall w) w) p ((cs.drop ((o + i) * P.cellsOf e)).take (P.cellsOf e))) → (o + ps.length) * P.cellsOf e = cs.length → All2 (Imm (Sall w) w) ps.flatten (cs.drop (o * P.cellsOf e)) := fun ps => by
          induction ps with
          | nil => intro o _ hlen; rw [List.drop_of_length_le (by simp at hlen; omega)]; exact .nil
          | cons p ps ih =>
            intro o hp hlen
            have h1 := hp 0 p rfl
            have h2 := ih (o + 1) (fun i q hq => by have := hp (i + 1) q (by simpa using hq); rwa [show o + 1 + i = o + (i + 1) by omega]) (by rw [← hlen, List.length_cons]; congr 1; omega)
            rw [List.flatten_cons]
            have := h1.append h2
            rwa [Nat.add_zero, Nat.add_mul, Nat.one_mul, ← List.drop_drop, List.take_append_drop] at this
        have := key ps 0 (fun i p hi => by rw [Nat.zero_add]; exact (hp2 i p hi).2) (by rw [Nat.zero_add, hp1, hn, hl])
        simpa using this
    · rename_i fs hu
      simp only [Bool.and_eq_true] at hok
      obtain ⟨xs, m, _, _, hl, hx, hall⟩ := DataW.trod_struct hu h
      obtain ⟨ps, h1, h2⟩ := parts_all (R := Imm (Sall w) w) (T := fun f p => DT P d f.type p) fs.toList 0 cs _ hl hok.1 (Nat.zero_le _) (fun f hf => by
        obtain ⟨i, hi⟩ := List.getElem?_of_mem hf
        have hlt := (List.getElem?_eq_some_iff.1 hi).1
        have h1 := hall i f (by simpa using hi)
        rw [List.getElem?_eq_getElem (by simp at hlt; omega)] at h1
        exact trod_dt d m f.type _ _ (List.all_eq_true.1 hok.2 f hf) h1)
      exact ⟨ps.flatten, ⟨ps, rfl, h1⟩, by simpa using h2⟩
    · cases hok
/-- An argument that came in reads as data of its type. -/
theorem open_dt {d : Nat} {r : Reach} {b0 : Nat} {t : TypeId} {v : Value} {dd : DataW H} {ps : List MemPlace} (hok : okT P d t = true) (hag : (P.underlying t).map aggD = some false) (hval : Value.okWide P w r b0 t v) (hd : DataW.Trod enc P w base sp held t v dd ps) :
    ∃ x, DT P d t [x] ∧ Imm (Sall w) w x v := by
  obtain ⟨fuel, hf⟩ := hd
  obtain ⟨ds, h1, h2⟩ := trod_dt d fuel t _ _ hok hf
  have hone : v.oneCell' = true := by
    cases d with
    | zero => cases hok
    | succ d =>
      unfold okT at hok
      split at hok
      · rename_i hu; obtain ⟨b, rfl⟩ := okWide_bool hu hval; rfl
      · rename_i hu; obtain ⟨n, rfl⟩ := okWide_int hu hval; rfl
      · rename_i hu; obtain ⟨s, rfl⟩ := okWide_string hu hval; rfl
      · rename_i hu; obtain ⟨a, l, c, rfl⟩ := okWide_slice hu hval; rfl
      · rename_i hu; rw [hu] at hag; cases hag
      · rename_i hu; rw [hu] at hag; cases hag
      · cases hok
  rw [oneCell_cells hone] at h2
  have hl := h2.len
  match ds, h2, hl with
  | [x], h2, _ => exact ⟨x, h1, h2.head⟩
end
end Go.Proofs.YtkbhmcdoedmffaaDoor

namespace Go.Proofs.YtkbhmcdoedmffaaDoor
set_option linter.unusedVariables false
set_option linter.unusedSimpArgs false
open Go.ChangeShapes Go.WideShapes Go.ChangeAt Go.RowKit Go.ChangeMaps
set_option maxRecDepth 100000

set_option maxRecDepth 100000

theorem iface_open {P : Program} {w : World} {base fuel : Nat} {sp : Nat → Bool} {held : Bool} {enc : TypeId × Value → Unit} {t : TypeId} {l : List Value} {x : DataW Unit × List MemPlace} {ms : Array (String × TypeId)} (hi : P.underlying t = some (.interface ms))
    (hd : DataW.trod enc P w base sp held fuel t l = some x) : l = [.nilIface] ∨ ∃ u v, l = [.iface u v] := by
  cases fuel with
  | zero => cases hd
  | succ f =>
    simp only [DataW.trod, hi] at hd
    split at hd <;> first | exact .inl rfl | exact .inr ⟨_, _, rfl⟩ | (cases hd; done) | (rename_i h1; cases h1; done) | (rename_i h1 h2; cases h1; done) | (rename_i h1 h2 h3; cases h1; done)
theorem errAt_of {W : World} {n : String} {g : Nat} {cs : Array Value} (hg : Tryd.prog.globalNamed n = some g) (hv : W.var? Tryd.prog n = some cs) (h : cs.toList = [.nilIface] ∨ ∃ u v, cs.toList = [.iface u v]) : ErrAt W g ∧ g < W.heap.size := by
  have hc : ∀ ev, cs.toList = [ev] → W.cell? ⟨g, 0, none⟩ = some ev := fun ev he => by
    rw [World.var?_cell hg hv 0]
    have : cs = #[ev] := by cases cs; simpa using he
    rw [this]; rfl
  refine ⟨?_, ?_⟩
  · rcases h with h | ⟨u, v, h⟩
    · exact ⟨_, hc _ h, .inl rfl⟩
    · exact ⟨_, hc _ h, .inr ⟨u, v, rfl⟩⟩
  · unfold World.var? at hv
    rw [hg] at hv
    simp only [Option.bind_some] at hv
    by_cases hl : g < W.heap.size
    · exact hl
    · rw [Array.getElem?_eq_none (by omega)] at hv; cases hv
/-- An array of strings that reads as the table holds the table's strings, cell for cell. -/
theorem cells_of_strs {H : Type} {enc : TypeId × Value → H} {P : Program} {w : World} {base : Nat} {sp : Nat → Bool} {held : Bool} {fuel : Nat} {t e : TypeId} {n : Nat} {cs : List Value} {zs : List (List UInt8)} {p : List MemPlace}
    (ht : P.underlying t = some (.array n e)) (he : P.underlying e = some .string) (hce : P.cellsOf e = 1) (hct : P.cellsOf t = n)
    (h : DataW.trod enc P w base sp held fuel t cs = some (.agg (zs.map fun z => .lit (.string z)), p)) : cs = zs.map fun z => Value.string (bs z) := by
  cases fuel with
  | zero => simp [DataW.trod] at h
  | succ fuel =>
    simp only [DataW.trod, ht, hce, hct, Nat.mul_one] at h
    split at h
    · rename_i hl
      obtain ⟨xs, hm, hx⟩ := Option.map_eq_some_iff.1 h
      have hxs : xs.map (·.1) = zs.map fun z => (DataW.lit (.string z) : DataW H) := by
        have := congrArg Prod.fst hx
        simpa using this
      have hxl : xs.length = n := by simpa using Lib.mapM_length hm
      have hzl : zs.length = n := by
        have := congrArg List.length hxs
        simp at this
        omega
      apply List.ext_getElem?
      intro i
      by_cases hi : i < n
      · obtain ⟨b, hb, hf⟩ := Lib.mapM_at hm i i (by simp [hi])
        obtain ⟨z, hc, rfl, _⟩ := DataW.trod_string he hf
        have h1 : cs[i]? = some (.string z) := by
          have := congrArg (·[0]?) hc
          simpa [List.getElem?_take, List.getElem?_drop] using this
        have h2 : (xs.map (·.1))[i]? = some (DataW.lit (.string z.data.toList) : DataW H) := by simp [hb]
        rw [hxs] at h2
        simp only [List.getElem?_map, Option.map_eq_some_iff, DataW.lit.injEq, Lit.string.injEq] at h2
        obtain ⟨z', hz', rfl⟩ := h2
        simp [h1, hz']
      · rw [List.getElem?_eq_none (by omega), List.getElem?_eq_none (by simp; omega)]
    · cases h
theorem glob_joins {W : World} (h : laidMetH Tryd.prog Rows.parseJoinsRow.laid W) (hs : W.ShapedOpen Tryd.prog) : ΓL.G (Sall W) W := by
  obtain ⟨m, hm⟩ := Tryd.laysM145.s1_3 W hs
  rw [MakeChecks.laidMetH_plain _ _ _ (by kernel_rfl)] at h
  obtain ⟨ps, h, -⟩ := h
  obtain ⟨g1, t1, c1, f1, p1, q1, -, -, -, -, h, -⟩ := h
  obtain ⟨g2, t2, c2, f2, p2, q2, -, -, -, -, h, -⟩ := h
  obtain ⟨g3, t3, c3, f3, p3, q3, -, -, -, -, h, -⟩ := h
  obtain ⟨g0, t0, c0, f0, p0, q0, -, -, -, -, h, -⟩ := h
  obtain ⟨g4, t4, c4, f4, p4, q4, hg4, ht4, hv4, hd4, h, -⟩ := h
  obtain ⟨g5, t5, c5, f5, p5, q5, hg5, ht5, hv5, hd5, h, -⟩ := h
  obtain ⟨g6, t6, c6, f6, p6, q6, hg6, ht6, hv6, hd6, h, -⟩ := h
  obtain rfl := Option.some.inj ((show Tryd.prog.globalNamed "strconv.ErrRange" = some 3 by kernel_rfl).symm.trans hg4)
  obtain rfl := Option.some.inj ((show Tryd.prog.globalNamed "strconv.ErrSyntax" = some 2 by kernel_rfl).symm.trans hg5)
  obtain rfl := Option.some.inj ((show Tryd.prog.globalNamed "calliper/lex.signs" = some 0 by kernel_rfl).symm.trans hg6)
  obtain rfl := Option.some.inj ((show (Tryd.prog.globals[3]?).map (·.type) = some 99 by kernel_rfl).symm.trans ht4)
  obtain rfl := Option.some.inj ((show (Tryd.prog.globals[2]?).map (·.type) = some 99 by kernel_rfl).symm.trans ht5)
  obtain rfl := Option.some.inj ((show (Tryd.prog.globals[0]?).map (·.type) = some 82 by kernel_rfl).symm.trans ht6)
  have e4 := errAt_of hg4 hv4 (iface_open Tryd.underlying99 hd4)
  have e5 := errAt_of hg5 hv5 (iface_open Tryd.underlying99 hd5)
  have hc := cells_of_strs (zs := signsL) (n := 29) (t := 82) (e := 9) (by kernel_rfl) (by kernel_rfl) (by kernel_rfl) (by kernel_rfl) hd6
  refine ⟨e5, e4, ⟨m, hm, (cell_lt hm).1⟩, fun j l hj => ?_, ?_⟩
  · rw [World.var?_cell hg6 hv6 j]
    have : c6 = ⟨signsL.map fun z => Value.string (bs z)⟩ := by cases c6; simpa using hc
    rw [this]
    rw [show (⟨signsL.map fun z => Value.string (bs z)⟩ : Array Value) = (signsL.map fun z => Value.string (bs z)).toArray from rfl, List.getElem?_toArray, List.getElem?_map, hj]
    rfl
  · have hv := hv6
    unfold World.var? at hv
    rw [hg6] at hv
    simp only [Option.bind_some] at hv
    show 0 < W.heap.size
    by_cases hl : 0 < W.heap.size
    · exact hl
    · rw [Array.getElem?_eq_none (by omega)] at hv; cases hv
theorem bs_list (s : ByteArray) : bs s.data.toList = s := by simp [bs]
end Go.Proofs.YtkbhmcdoedmffaaDoor

namespace Go.Proofs.YtkbhmcdoedmffaaDoor
set_option linter.unusedVariables false
set_option linter.unusedSimpArgs false
open Go.ChangeShapes Go.WideShapes Go.ChangeAt Go.RowKit Go.ChangeMaps
set_option maxRecDepth 100000

theorem parseJoins_a (s : ByteArray) (hs : s.size ≤ 140737488351232) (t : ByteArray) (ht : t.size ≤ 140737488351232) : CallsA Tryd.prog ΓL 3 [c1 (ds s), c1 (ds t)] (.o (c1 (db true))) := by
  have := parseJoins_c s.data.toList t.data.toList (by rw [show s.data.toList.length = s.size from rfl]; omega) (by rw [show t.data.toList.length = t.size from rfl]; omega)
  rw [bs_list, bs_list] at this
  exact this
namespace parseJoins
set_option maxRecDepth 100000 in
theorem lifted (os : Os) (started : os.Started) (H : Type) (enc : TypeId × Value → H) :
    ReturnsInHanded {} Tryd.checked os 3 .any (fun w args => (Rows.parseJoinsSpec.pre enc Tryd.prog Tryd.f3 Rows.parseJoinsRow.domain false w args ∧ laidMetH Tryd.prog Rows.parseJoinsRow.laid w) ∧ sizedMet enc Tryd.prog Tryd.f3 (OpenSpec.ofChange Rows.parseJoinsSpec) false w args) (Rows.parseJoinsSpec.post enc Tryd.prog Tryd.f3 false true false false) := by
  show ReturnsInHanded {} Tryd.checked os 3 .any ((OpenSpec.ofChange Rows.parseJoinsSpec).preRow enc Tryd.prog Tryd.f3 Rows.parseJoinsRow.domain false Rows.parseJoinsRow.laid) (((OpenSpec.ofChange Rows.parseJoinsSpec).at fun _ _ _ => 0).post enc Tryd.prog Tryd.f3 false true false false)
  refine returnsInHanded_of_row (C := Tryd.checked) own started (by kernel_rfl) Tryd.func3
    (ChangeSpec.witness_shaped (enc := enc) (C := Tryd.checked) (os := os) (X := fun w _ => laidMetH Tryd.prog Rows.parseJoinsRow.laid w) false (World.laidAll Tryd.prog os Rows.parseJoinsRow.laid) #[.string ByteArray.empty, .string ByteArray.empty] 8 (World.laidAll_os _ _ _) (World.shaped_of_ZipB (by kernel_rfl) (by kernel_rfl)) (by kernel_rfl) (by kernel_rfl) (by kernel_rfl)
      (by rw [MakeChecks.laidMetH_plain _ _ _ (by kernel_rfl)]; exact laidMet_laidAll _ (by kernel_rfl) (by kernel_rfl))) ?_
  intro W base args ds gs before hval0 hW _ _ hsz0 hLaid hShaped _
  have hsz : (DataW.weightsEach Tryd.prog (Tryd.f3.params.toList ++ Rows.parseJoinsSpec.plain.varTypes Tryd.prog) (ds ++ gs)).all (· ≤ reachBytes) = true := hsz0
  have hval : ∀ (j : Nat) t v, Tryd.f3.params[j]? = some t → args[j]? = some v → Value.okWide Tryd.prog W .any base t v := hval0
  clear hsz0 hval0
  have hW' := hW
  obtain ⟨p, q, hA0, hV, rfl, hfz, hnd⟩ := hW
  have hA : DataW.TrodAll enc Tryd.prog W 0 (fun _ => true) true Tryd.f3.params.toList args.toList ds p := hA0
  clear hA0
  rw [Tryd.params3] at hA hval hsz
  obtain ⟨v0, vs0, d0, ds0, p0, q0, hargs, rfl, rfl, h0, r0⟩ := trodAll_cons hA
  obtain ⟨v1, vs1, d1, ds1, p1, q1, rfl, rfl, rfl, h1, r1⟩ := trodAll_cons r0
  obtain ⟨rfl, rfl, rfl⟩ := trodAll_nil r1
  obtain rfl : args = #[v0, v1] := by cases args; simp_all
  obtain ⟨rfl, rfl⟩ := trodVars_none hV
  obtain ⟨s, rfl, rfl, rfl, hm0⟩ := open_string Tryd.underlying9 (hval 0 9 v0 rfl rfl) h0
  have w_s : s.size ≤ 140737488351232 := by simpa [reachBytes] using sized_string hsz (j := 0) rfl rfl
  obtain ⟨t, rfl, rfl, rfl, hm1⟩ := open_string Tryd.underlying9 (hval 1 9 v1 rfl rfl) h1
  have w_t : t.size ≤ 140737488351232 := by simpa [reachBytes] using sized_string hsz (j := 1) rfl rfl
  refine ((parseJoins_a s w_s t w_t).2 (Sall W) W [.string s, .string t] (fun _ h => h) (glob_joins hLaid hShaped) (.cons (Imm.v rfl) (.cons (Imm.v rfl) .nil))).mono fun e W' ⟨xr, _, he, hb, _, _, _, hv⟩ => ?_
  obtain rfl := V_v hv
  subst he
  exact ⟨_, rfl, law_post (ds := [_, _]) laidOut hW' rfl (by kernel_rfl) rfl Tryd.underlying4 rfl rfl rfl hb⟩

theorem proved : Rows.ParseJoinsSaid :=
  OpenClaim.holds_of_wide 3 Tryd.f3 rfl rfl rfl rfl rfl rfl rfl ⟨rfl, rfl, rfl, rfl, rfl⟩ rfl rfl rfl rfl rfl (by kernel_rfl) Tryd.func3 (by kernel_rfl)
    (of_decide_eq_true (by kernel_rfl)) (by unfold Func.isWrapper; first | (rw [if_pos (by decide +kernel)]; kernel_rfl) | (rw [if_neg (by decide +kernel)]; exact ⟨rfl, rfl⟩))
    (fun os started H enc _ => lifted os started H enc)
theorem card : Rows.ParseJoinsCardSaid :=
  Claim7.holds_tied_plain_at .later [] [.data, .data, .data, .data, .sentinel, .sentinel, .data, .pinned] true (true, "e57490538508e1b5937531141a7ba7bb33ebbca3f912ac98cd8e5b3b255ccfc7") true proved (fun _ h => by cases h) (by kernel_rfl) (fun _ h => by cases h) parseJoins_row_tie rfl ⟨rfl, rfl⟩ (by kernel_rfl) rfl
    (fun f fn hf hfn => by
      obtain rfl : f = 3 := Option.some.inj ((show Tryd.prog.funcNamed "calliper/calliperlaw07.ParseJoins" = some 3 by kernel_rfl).symm.trans hf) |>.symm
      obtain rfl : fn = Tryd.f3 := (Option.some.inj (Tryd.func3.symm.trans hfn)).symm
      exact ⟨by kernel_rfl, fun j t ht => by
        rw [Tryd.params3] at ht
        have hm : t ∈ [9, 9] := by simpa using Array.mem_of_getElem? ht
        have hall : ([9, 9].all fun u => !Tryd.prog.wantsStandIn u) = true := by kernel_rfl
        exact (show Tryd.prog.wantsStandIn t = false by simpa using List.all_eq_true.1 hall t hm)⟩)
    (by kernel_rfl)
end parseJoins
end Go.Proofs.YtkbhmcdoedmffaaDoor
