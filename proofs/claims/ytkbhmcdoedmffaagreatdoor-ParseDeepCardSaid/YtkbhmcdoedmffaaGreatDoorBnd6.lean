/- Texts that the last one leans on: The parser's structs. Conditions: the tokens end with the end; at most 100000 of them. The parser of a whole description. Conditions: the tokens end with the end; at most 100000 of them. Parse's deferred closure. Condition: none. Parse: the file of a description. Condition: the listed variables. ParseLevels in plain words: of two operators the one that binds more takes what stands between. Files may be compared. Condition: none. What the document fixes (wakes). Condition: the listed variables. lex.Join, as the engine tells it. Condition: the text within one allocation. -/
import Derived.WalkKit
import Derived.Test.YtkbhmcdoedmffaaGreatDoorBnd1
import Derived.Test.YtkbhmcdoedmffaaGreatDoorBnd2
import Derived.Test.YtkbhmcdoedmffaaGreatDoorBnd3
import Derived.Test.YtkbhmcdoedmffaaGreatDoorBnd4
import Derived.Test.YtkbhmcdoedmffaaGreatDoorBnd5
namespace Go.Proofs.YtkbhmcdoedmffaaGreatDoor
set_option linter.unusedVariables false
set_option linter.unusedSimpArgs false
open Go.RowKit
set_option maxRecDepth 100000

section
variable {L : List TokP} {m : Nat}
/-- What only moves the place. -/
def Mv {α : Type} (x : PM α) : Prop := ∀ s v s', x s = .ok v s' → s.xs = s'.xs ∧ s.ts = s'.ts
theorem Mv.and {α β : Type} {x : PM α} {f : α → PM β} (hx : Mv x) (hf : ∀ v, Mv (f v)) : Mv (x >>= f) := fun s v s' h => by
  obtain ⟨u, s1, h1, h2⟩ := mo_inv h
  exact ⟨(hx _ _ _ h1).1.trans (hf u _ _ _ h2).1, (hx _ _ _ h1).2.trans (hf u _ _ _ h2).2⟩
theorem Mv.at {α : Type} {p : Nat → Bool} {x y : PM α} (hx : Mv x) (hy : Mv y) : Mv (atM p x y) := fun s v s' h => by
  unfold atM at h
  split at h
  · exact hx _ _ _ h
  · exact hy _ _ _ h
theorem Mv.pure {α : Type} (v : α) : Mv (pure v) := fun s u s' h => by cases h; exact ⟨rfl, rfl⟩
theorem Mv.step : Mv stepM := fun s u s' h => by cases h; exact ⟨rfl, rfl⟩
theorem Mv.take (t : List UInt8) : Mv (takeM L t) := fun s v s' h => by unfold takeM at h; split at h <;> cases h; exact ⟨rfl, rfl⟩
theorem Mv.name : Mv (nameM L) := fun s v s' h => by unfold nameM at h; split at h <;> cases h; exact ⟨rfl, rfl⟩
theorem Mv.num : Mv (numberM L) := fun s v s' h => by unfold numberM at h; split at h <;> cases h; exact ⟨rfl, rfl⟩
theorem Mv.roomIf (p : Nat → Bool) (n : Nat) : Mv (fun s => if p s.i = true then roomM n s else .ok () s) := fun s u s' h => by
  dsimp only at h
  split at h
  · unfold roomM at h; split at h <;> cases h; exact ⟨rfl, rfl⟩
  · cases h; exact ⟨rfl, rfl⟩
theorem mvs_subs : ∀ n l, Mv (subsN L n l)
  | 0, l => Mv.pure _
  | n + 1, l => by
    rw [subsN]
    exact (Mv.roomIf (namedV L ·) _).and fun _ => Mv.name.and fun w => (Mv.take _).and fun _ => Mv.num.and fun b => (Mv.take _).and fun _ => Mv.at (mvs_subs n _) (Mv.pure _)
theorem mvs_pack : Mv (packM L) := (Mv.take _).and fun _ => fun s v s' h => by
  split at h
  · cases h
  · exact (Mv.step.and fun _ => (Mv.take _).and fun _ => (show Mv (fun s => subsN L (L.length - s.i + 1) [] s) from fun s v s' hx => mvs_subs _ _ s v s' hx).and fun l => (Mv.take _).and fun _ => Mv.pure _) _ _ _ h
theorem mv_pack {i i1 : Nat} {xs xs1 : List EX} {ts ts1 : List TY} {v : IT} (h : packM L ⟨i, xs, ts⟩ = .ok v ⟨i1, xs1, ts1⟩) : xs = xs1 ∧ ts = ts1 := mvs_pack _ _ _ h
theorem mvs_const : Mv (constM L) := (Mv.take _).and fun _ => Mv.name.and fun w => (Mv.take _).and fun _ => Mv.num.and fun n => (Mv.take _).and fun _ => Mv.pure _
theorem mv_const {i i1 : Nat} {xs xs1 : List EX} {ts ts1 : List TY} {v : CO} (h : constM L ⟨i, xs, ts⟩ = .ok v ⟨i1, xs1, ts1⟩) : xs = xs1 ∧ ts = ts1 := mvs_const _ _ _ h
set_option maxHeartbeats 16000000 in
theorem record_c (hL : TokOk L) (hn : L.length ≤ 100000) (hm : m = 32) (s : PS) {c : Nat} (hs : SOk L c s) : C2 L m 50 [] (recordM L) (fun v => .o (gD (rcD v))) s := by
  refine C2.of fun T hT => ?_
  unfold recordM at hT
  obtain ⟨i, xs, ts⟩ := s
  refine fn_ruleP (C := ⟨Tryz.prog, layF, Tryz.f50.ntmps, ΓL, 6, [], [10]⟩) layF_ok mixed Tryz.func50 rfl (by kernel_rfl) rfl rfl rfl SLe.rfl ?_
  repeat' (first | refine ex_true (by first | decide | omega | assumption | (with_reducible exact rfl)) ?_ | refine ex_false (by first | decide | omega | assumption | exact (fun h => h rfl)) ?_ | refine ex_dec (fun _ => ?_) (fun _ => ?_) | refine ex_u8 _ rfl (by omega) (by omega) ?_ | refine ex_i64 _ rfl (by omega) (by omega) ?_ | refine ex_u64 _ rfl (by omega) (by omega) ?_ | refine and_mk (by first | omega | (with_reducible rfl) | (show drawOk _ _ _ = true; kernel_rfl)) ?_ | refine and_mk ⟨_, rfl⟩ ?_ | refine ex_is _ (List.length_map _) ?_ | refine ex_is _ List.length_nil ?_ | fail "no step")
  have hcon := take_c (m := m) ⟨i, xs, ts⟩ hs.i (by omega) w_struct
  rcases hx47 : (takeM L w_struct) ⟨i, xs, ts⟩ with ⟨_, s9⟩ | ⟨i9, e9⟩
  rotate_left
  · obtain rfl := (and_err hx47).symm.trans hT
    first | refine ex_callM (CallsM.ren (hcon.err hx47) [0, 1] 7 rfl rfl rfl rfl) ?_ | refine ex_callM (CallsM.more0 (CallsM.ren (hcon.err hx47) [0, 1] 7 rfl rfl rfl rfl)) ?_ | refine ex_callM (CallsM.more1 (CallsM.ren (hcon.err hx47) [0, 1] 7 rfl rfl rfl rfl)) ?_ | refine ex_callM (CallsM.moreL (CallsM.ren (hcon.err hx47) [0, 1] 7 rfl rfl rfl rfl)) ?_
    first | exact ⟨⟨_, rfl, rfl⟩, rfl, rfl⟩ | exact ⟨by kernel_rfl, ⟨_, rfl, rfl⟩, rfl, rfl⟩
  replace hT := (and_ok hx47).symm.trans hT
  first | refine ex_callM (CallsM.ren (hcon.ok hx47) [0, 1] 7 rfl rfl rfl rfl) ?_ | refine ex_callM (CallsM.more0 (CallsM.ren (hcon.ok hx47) [0, 1] 7 rfl rfl rfl rfl)) ?_ | refine ex_callM (CallsM.more1 (CallsM.ren (hcon.ok hx47) [0, 1] 7 rfl rfl rfl rfl)) ?_ | refine ex_callM (CallsM.moreL (CallsM.ren (hcon.ok hx47) [0, 1] 7 rfl rfl rfl rfl)) ?_
  clear hcon
  have hs1 := (Up.ok (Up.take hL w_struct 0) hs hx47).1
  obtain rfl := mv_take1 hx47
  repeat' (first | refine ex_true (by first | decide | omega | assumption | (with_reducible exact rfl)) ?_ | refine ex_false (by first | decide | omega | assumption | exact (fun h => h rfl)) ?_ | refine ex_dec (fun _ => ?_) (fun _ => ?_) | refine ex_u8 _ rfl (by omega) (by omega) ?_ | refine ex_i64 _ rfl (by omega) (by omega) ?_ | refine ex_u64 _ rfl (by omega) (by omega) ?_ | refine and_mk (by first | omega | (with_reducible rfl) | (show drawOk _ _ _ = true; kernel_rfl)) ?_ | refine and_mk ⟨_, rfl⟩ ?_ | refine ex_is _ (List.length_map _) ?_ | refine ex_is _ List.length_nil ?_ | fail "no step")
  have hcon := name_c (m := m) ⟨i + 1, xs, ts⟩ hs1.i (by omega)
  rcases hx49 : (nameM L) ⟨i + 1, xs, ts⟩ with ⟨w, s9⟩ | ⟨i9, e9⟩
  rotate_left
  · obtain rfl := (and_err hx49).symm.trans hT
    first | refine ex_callM (CallsM.ren (hcon.err hx49) [0, 1] 7 rfl rfl rfl rfl) ?_ | refine ex_callM (CallsM.more0 (CallsM.ren (hcon.err hx49) [0, 1] 7 rfl rfl rfl rfl)) ?_ | refine ex_callM (CallsM.more1 (CallsM.ren (hcon.err hx49) [0, 1] 7 rfl rfl rfl rfl)) ?_ | refine ex_callM (CallsM.moreL (CallsM.ren (hcon.err hx49) [0, 1] 7 rfl rfl rfl rfl)) ?_
    first | exact ⟨⟨_, rfl, rfl⟩, rfl, rfl⟩ | exact ⟨by kernel_rfl, ⟨_, rfl, rfl⟩, rfl, rfl⟩
  replace hT := (and_ok hx49).symm.trans hT
  first | refine ex_callM (CallsM.ren (hcon.ok hx49) [0, 1] 7 rfl rfl rfl rfl) ?_ | refine ex_callM (CallsM.more0 (CallsM.ren (hcon.ok hx49) [0, 1] 7 rfl rfl rfl rfl)) ?_ | refine ex_callM (CallsM.more1 (CallsM.ren (hcon.ok hx49) [0, 1] 7 rfl rfl rfl rfl)) ?_ | refine ex_callM (CallsM.moreL (CallsM.ren (hcon.ok hx49) [0, 1] 7 rfl rfl rfl rfl)) ?_
  clear hcon
  have hs2 := (Up.ok (Up.name hL 0) hs1 hx49).1
  obtain rfl := mv_name1 hx49
  repeat' (first | refine ex_true (by first | decide | omega | assumption | (with_reducible exact rfl)) ?_ | refine ex_false (by first | decide | omega | assumption | exact (fun h => h rfl)) ?_ | refine ex_dec (fun _ => ?_) (fun _ => ?_) | refine ex_u8 _ rfl (by omega) (by omega) ?_ | refine ex_i64 _ rfl (by omega) (by omega) ?_ | refine ex_u64 _ rfl (by omega) (by omega) ?_ | refine and_mk (by first | omega | (with_reducible rfl) | (show drawOk _ _ _ = true; kernel_rfl)) ?_ | refine and_mk ⟨_, rfl⟩ ?_ | refine ex_is _ (List.length_map _) ?_ | refine ex_is _ List.length_nil ?_ | fail "no step")
  refine ex_join (X := Nat × List (List UInt8)) (fun ⟨i, ps⟩ => ⟨[(0, .o P0), (2, .o (.c (.ptr 6 0))), (3, .o (.c (.ptr 7 0)))], [(0, Qz L m i), (1, Fz 2 3 4 5), (4, Xz xs), (5, Tz ts), (6, .obj [.d (ds ⟨#[]⟩), .d dnil, .d dnil]), (7, .obj [.d (ds (bs w)), .row 9, .d dnil]), (9, .row 1 9 (ps.map fun p => [ds (bs p)]))], 10⟩)
    (fun ⟨i, ps⟩ => SOk L c ⟨i, xs, ts⟩ ∧ (takeM L t_lcur >>= fun _ => (fun s => itemsN L (L.length - s.i + 1) [] s) >>= fun is => takeM L t_rcur >>= fun _ => pure (⟨w, ps, is⟩ : RC)) ⟨i, xs, ts⟩ = T) ?_ ?_
  · rcases hv : isV L (i + 1 + 1) t_lpar with _ | _
    · replace hT := pureT (atnB hT hv)
      first | refine ex_callM (CallsM.ren ((may_no (i + 1 + 1) hs2.lt _ hv)) [0, 1] 8 rfl rfl rfl rfl) ?_ | refine ex_callM (CallsM.more0 (CallsM.ren ((may_no (i + 1 + 1) hs2.lt _ hv)) [0, 1] 8 rfl rfl rfl rfl)) ?_ | refine ex_callM (CallsM.more1 (CallsM.ren ((may_no (i + 1 + 1) hs2.lt _ hv)) [0, 1] 8 rfl rfl rfl rfl)) ?_ | refine ex_callM (CallsM.moreL (CallsM.ren ((may_no (i + 1 + 1) hs2.lt _ hv)) [0, 1] 8 rfl rfl rfl rfl)) ?_
      repeat' (first | refine ex_true (by first | decide | omega | assumption | (with_reducible exact rfl)) ?_ | refine ex_false (by first | decide | omega | assumption | exact (fun h => h rfl)) ?_ | refine ex_dec (fun _ => ?_) (fun _ => ?_) | refine ex_u8 _ rfl (by omega) (by omega) ?_ | refine ex_i64 _ rfl (by omega) (by omega) ?_ | refine ex_u64 _ rfl (by omega) (by omega) ?_ | refine and_mk (by first | omega | (with_reducible rfl) | (show drawOk _ _ _ = true; kernel_rfl)) ?_ | refine and_mk ⟨_, rfl⟩ ?_ | refine ex_is _ (List.length_map _) ?_ | refine ex_is _ List.length_nil ?_ | fail "no step")
      exact ex_meet (i + 1 + 1, []) ⟨hs2.less (by omega), hT⟩ (SLe.trans (SLe.of ⟨⟨rfl, rfl, rfl, trivial⟩, ⟨rfl, rfl, rfl, rfl, rfl, rfl, rfl, trivial⟩⟩) (SLe.ownCell 7 1 9 1 9 rfl rfl rfl rfl rfl rfl))
    · replace hT := asc (stp1 (asc (atyB hT hv)))
      have hs3 := stpS hL hs2 (isV_k hv)
      have hi3 := hs3.lt
      first | refine ex_callM (CallsM.ren ((may_yes (i + 1 + 1) hs2.lt (by omega) _ hv)) [0, 1] 8 rfl rfl rfl rfl) ?_ | refine ex_callM (CallsM.more0 (CallsM.ren ((may_yes (i + 1 + 1) hs2.lt (by omega) _ hv)) [0, 1] 8 rfl rfl rfl rfl)) ?_ | refine ex_callM (CallsM.more1 (CallsM.ren ((may_yes (i + 1 + 1) hs2.lt (by omega) _ hv)) [0, 1] 8 rfl rfl rfl rfl)) ?_ | refine ex_callM (CallsM.moreL (CallsM.ren ((may_yes (i + 1 + 1) hs2.lt (by omega) _ hv)) [0, 1] 8 rfl rfl rfl rfl)) ?_
      repeat' (first | refine ex_true (by first | decide | omega | assumption | (with_reducible exact rfl)) ?_ | refine ex_false (by first | decide | omega | assumption | exact (fun h => h rfl)) ?_ | refine ex_dec (fun _ => ?_) (fun _ => ?_) | refine ex_u8 _ rfl (by omega) (by omega) ?_ | refine ex_i64 _ rfl (by omega) (by omega) ?_ | refine ex_u64 _ rfl (by omega) (by omega) ?_ | refine and_mk (by first | omega | (with_reducible rfl) | (show drawOk _ _ _ = true; kernel_rfl)) ?_ | refine and_mk ⟨_, rfl⟩ ?_ | refine ex_is _ (List.length_map _) ?_ | refine ex_is _ List.length_nil ?_ | fail "no step")
      have hcon := name_c (m := m) ⟨i + 1 + 1 + 1, xs, ts⟩ hs3.i (by omega)
      rcases hx63 : (nameM L) ⟨i + 1 + 1 + 1, xs, ts⟩ with ⟨p, s9⟩ | ⟨i9, e9⟩
      rotate_left
      · obtain rfl := (and_err hx63).symm.trans hT
        first | refine ex_callM (CallsM.ren (hcon.err hx63) [0, 1] 8 rfl rfl rfl rfl) ?_ | refine ex_callM (CallsM.more0 (CallsM.ren (hcon.err hx63) [0, 1] 8 rfl rfl rfl rfl)) ?_ | refine ex_callM (CallsM.more1 (CallsM.ren (hcon.err hx63) [0, 1] 8 rfl rfl rfl rfl)) ?_ | refine ex_callM (CallsM.moreL (CallsM.ren (hcon.err hx63) [0, 1] 8 rfl rfl rfl rfl)) ?_
        first | exact ⟨⟨_, rfl, rfl⟩, rfl, rfl⟩ | exact ⟨by kernel_rfl, ⟨_, rfl, rfl⟩, rfl, rfl⟩
      replace hT := (and_ok hx63).symm.trans hT
      first | refine ex_callM (CallsM.ren (hcon.ok hx63) [0, 1] 8 rfl rfl rfl rfl) ?_ | refine ex_callM (CallsM.more0 (CallsM.ren (hcon.ok hx63) [0, 1] 8 rfl rfl rfl rfl)) ?_ | refine ex_callM (CallsM.more1 (CallsM.ren (hcon.ok hx63) [0, 1] 8 rfl rfl rfl rfl)) ?_ | refine ex_callM (CallsM.moreL (CallsM.ren (hcon.ok hx63) [0, 1] 8 rfl rfl rfl rfl)) ?_
      clear hcon
      have hs4 := (Up.ok (Up.name hL 0) hs3 hx63).1
      obtain rfl := mv_name1 hx63
      have hi4 := hs4.lt
      repeat' (first | refine ex_true (by first | decide | omega | assumption | (with_reducible exact rfl)) ?_ | refine ex_false (by first | decide | omega | assumption | exact (fun h => h rfl)) ?_ | refine ex_dec (fun _ => ?_) (fun _ => ?_) | refine ex_u8 _ rfl (by omega) (by omega) ?_ | refine ex_i64 _ rfl (by omega) (by omega) ?_ | refine ex_u64 _ rfl (by omega) (by omega) ?_ | refine and_mk (by first | omega | (with_reducible rfl) | (show drawOk _ _ _ = true; kernel_rfl)) ?_ | refine and_mk ⟨_, rfl⟩ ?_ | refine ex_is _ (List.length_map _) ?_ | refine ex_is _ List.length_nil ?_ | fail "no step")
      refine ex_app (0) (1) 1000 (by first | rfl | (simp; done) | (simp; omega)) (by first | rfl | (simp; done) | (simp; omega)) rfl (by omega) ?_
      refine ex_is (List.map (fun p : List UInt8 => [ds (bs p)]) [p]) (rfl) ?_
      repeat' (first | refine ex_true (by first | decide | omega | assumption | (with_reducible exact rfl)) ?_ | refine ex_false (by first | decide | omega | assumption | exact (fun h => h rfl)) ?_ | refine ex_dec (fun _ => ?_) (fun _ => ?_) | refine ex_u8 _ rfl (by omega) (by omega) ?_ | refine ex_i64 _ rfl (by omega) (by omega) ?_ | refine ex_u64 _ rfl (by omega) (by omega) ?_ | refine and_mk (by first | omega | (with_reducible rfl) | (show drawOk _ _ _ = true; kernel_rfl)) ?_ | refine and_mk ⟨_, rfl⟩ ?_ | refine ex_is _ (List.length_map _) ?_ | refine ex_is _ List.length_nil ?_ | fail "no step")
      replace hT := asc hT
      replace hT : (parsN L (L.length - (i + 1 + 1 + 1 + 1) + 1) [p] >>= fun l => (takeM L t_rpar >>= fun _ => pure l) >>= fun ps => takeM L t_lcur >>= fun _ => (fun s => itemsN L (L.length - s.i + 1) [] s) >>= fun is => takeM L t_rcur >>= fun _ => pure (⟨w, ps, is⟩ : RC)) ⟨i + 1 + 1 + 1 + 1, xs, ts⟩ = T := hT
      refine ex_loop (X := Nat × List (List UInt8) × Nat) (fun ⟨i, ps, _⟩ => ⟨[(0, .o P0), (2, .o (.c (.ptr 6 0))), (3, .o (.c (.ptr 7 0)))], [(0, Qz L m i), (1, Fz 2 3 4 5), (4, Xz xs), (5, Tz ts), (6, .obj [.d (ds ⟨#[]⟩), .d dnil, .d dnil]), (7, .obj [.d (ds (bs w)), .row 9, .d dnil]), (9, .row 1 9 (ps.map fun p => [ds (bs p)]))], 10⟩) (fun y => L.length - y.1)
        (fun ⟨i, l, n⟩ => SOk L c ⟨i, xs, ts⟩ ∧ L.length < i + n ∧ l.length ≤ i ∧ (parsN L n l >>= fun l => (takeM L t_rpar >>= fun _ => pure l) >>= fun ps => takeM L t_lcur >>= fun _ => (fun s => itemsN L (L.length - s.i + 1) [] s) >>= fun is => takeM L t_rcur >>= fun _ => pure (⟨w, ps, is⟩ : RC)) ⟨i, xs, ts⟩ = T) (i + 1 + 1 + 1 + 1, [p], L.length - (i + 1 + 1 + 1 + 1) + 1) ⟨hs4.less (by omega), by omega, by simp, hT⟩ (SLe.of ⟨⟨rfl, rfl, rfl, trivial⟩, ⟨rfl, rfl, rfl, rfl, rfl, rfl, rfl, trivial⟩⟩) ?_
      clear hT hs4 hs3 hs2 hs1 hs hi3 hi4
      rintro ⟨i, l, n⟩ ⟨hs, hf, hll, hT⟩
      have hi := hs.lt
      cases n with
      | zero => omega
      | succ n =>
        rw [parsN] at hT
        rcases hv : isV L i t_comma with _ | _
        · replace hT := atnB hT hv
          replace hT := pureT hT
          replace hT := asc hT
          first | refine ex_callM (CallsM.ren ((may_no i hi _ hv)) [0, 1] 10 rfl rfl rfl rfl) ?_ | refine ex_callM (CallsM.more0 (CallsM.ren ((may_no i hi _ hv)) [0, 1] 10 rfl rfl rfl rfl)) ?_ | refine ex_callM (CallsM.more1 (CallsM.ren ((may_no i hi _ hv)) [0, 1] 10 rfl rfl rfl rfl)) ?_ | refine ex_callM (CallsM.moreL (CallsM.ren ((may_no i hi _ hv)) [0, 1] 10 rfl rfl rfl rfl)) ?_
          repeat' (first | refine ex_true (by first | decide | omega | assumption | (with_reducible exact rfl)) ?_ | refine ex_false (by first | decide | omega | assumption | exact (fun h => h rfl)) ?_ | refine ex_dec (fun _ => ?_) (fun _ => ?_) | refine ex_u8 _ rfl (by omega) (by omega) ?_ | refine ex_i64 _ rfl (by omega) (by omega) ?_ | refine ex_u64 _ rfl (by omega) (by omega) ?_ | refine and_mk (by first | omega | (with_reducible rfl) | (show drawOk _ _ _ = true; kernel_rfl)) ?_ | refine and_mk ⟨_, rfl⟩ ?_ | refine ex_is _ (List.length_map _) ?_ | refine ex_is _ List.length_nil ?_ | fail "no step")
          have hcon := take_c (m := m) ⟨i, xs, ts⟩ hs.i (by omega) t_rpar
          rcases hx86 : (takeM L t_rpar) ⟨i, xs, ts⟩ with ⟨_, s9⟩ | ⟨i9, e9⟩
          rotate_left
          · obtain rfl := (and_err hx86).symm.trans hT
            first | refine ex_callM (CallsM.ren (hcon.err hx86) [0, 1] 10 rfl rfl rfl rfl) ?_ | refine ex_callM (CallsM.more0 (CallsM.ren (hcon.err hx86) [0, 1] 10 rfl rfl rfl rfl)) ?_ | refine ex_callM (CallsM.more1 (CallsM.ren (hcon.err hx86) [0, 1] 10 rfl rfl rfl rfl)) ?_ | refine ex_callM (CallsM.moreL (CallsM.ren (hcon.err hx86) [0, 1] 10 rfl rfl rfl rfl)) ?_
            first | exact ⟨⟨_, rfl, rfl⟩, rfl, rfl⟩ | exact ⟨by kernel_rfl, ⟨_, rfl, rfl⟩, rfl, rfl⟩
          replace hT := (and_ok hx86).symm.trans hT
          first | refine ex_callM (CallsM.ren (hcon.ok hx86) [0, 1] 10 rfl rfl rfl rfl) ?_ | refine ex_callM (CallsM.more0 (CallsM.ren (hcon.ok hx86) [0, 1] 10 rfl rfl rfl rfl)) ?_ | refine ex_callM (CallsM.more1 (CallsM.ren (hcon.ok hx86) [0, 1] 10 rfl rfl rfl rfl)) ?_ | refine ex_callM (CallsM.moreL (CallsM.ren (hcon.ok hx86) [0, 1] 10 rfl rfl rfl rfl)) ?_
          clear hcon
          have hs1 := (Up.ok (Up.take hL t_rpar 0) hs hx86).1
          obtain rfl := mv_take1 hx86
          replace hT := pureT hT
          repeat' (first | refine ex_true (by first | decide | omega | assumption | (with_reducible exact rfl)) ?_ | refine ex_false (by first | decide | omega | assumption | exact (fun h => h rfl)) ?_ | refine ex_dec (fun _ => ?_) (fun _ => ?_) | refine ex_u8 _ rfl (by omega) (by omega) ?_ | refine ex_i64 _ rfl (by omega) (by omega) ?_ | refine ex_u64 _ rfl (by omega) (by omega) ?_ | refine and_mk (by first | omega | (with_reducible rfl) | (show drawOk _ _ _ = true; kernel_rfl)) ?_ | refine and_mk ⟨_, rfl⟩ ?_ | refine ex_is _ (List.length_map _) ?_ | refine ex_is _ List.length_nil ?_ | fail "no step")
          exact ex_meet (i + 1, l) ⟨hs1.less (by omega), hT⟩ (SLe.of ⟨⟨rfl, rfl, rfl, trivial⟩, ⟨rfl, rfl, rfl, rfl, rfl, rfl, rfl, trivial⟩⟩)
        · replace hT := asc (stp1 (asc (atyB hT hv)))
          have hs1 := stpS hL hs (isV_k hv)
          have hnm := named_c (m := m) (i + 1) hs1.lt
          first | refine ex_callM (CallsM.ren ((may_yes i hi (by omega) _ hv)) [0, 1] 10 rfl rfl rfl rfl) ?_ | refine ex_callM (CallsM.more0 (CallsM.ren ((may_yes i hi (by omega) _ hv)) [0, 1] 10 rfl rfl rfl rfl)) ?_ | refine ex_callM (CallsM.more1 (CallsM.ren ((may_yes i hi (by omega) _ hv)) [0, 1] 10 rfl rfl rfl rfl)) ?_ | refine ex_callM (CallsM.moreL (CallsM.ren ((may_yes i hi (by omega) _ hv)) [0, 1] 10 rfl rfl rfl rfl)) ?_
          repeat' (first | refine ex_true (by first | decide | omega | assumption | (with_reducible exact rfl)) ?_ | refine ex_false (by first | decide | omega | assumption | exact (fun h => h rfl)) ?_ | refine ex_dec (fun _ => ?_) (fun _ => ?_) | refine ex_u8 _ rfl (by omega) (by omega) ?_ | refine ex_i64 _ rfl (by omega) (by omega) ?_ | refine ex_u64 _ rfl (by omega) (by omega) ?_ | refine and_mk (by first | omega | (with_reducible rfl) | (show drawOk _ _ _ = true; kernel_rfl)) ?_ | refine and_mk ⟨_, rfl⟩ ?_ | refine ex_is _ (List.length_map _) ?_ | refine ex_is _ List.length_nil ?_ | fail "no step")
          rcases hb : namedV L (i + 1) with _ | _ <;> rw [hb] at hnm
          · replace hT := asc (rmF hT hb)
            first | refine ex_callM (CallsM.ren (hnm) [0, 1] 10 rfl rfl rfl rfl) ?_ | refine ex_callM (CallsM.more0 (CallsM.ren (hnm) [0, 1] 10 rfl rfl rfl rfl)) ?_ | refine ex_callM (CallsM.more1 (CallsM.ren (hnm) [0, 1] 10 rfl rfl rfl rfl)) ?_ | refine ex_callM (CallsM.moreL (CallsM.ren (hnm) [0, 1] 10 rfl rfl rfl rfl)) ?_
            repeat' (first | refine ex_true (by first | decide | omega | assumption | (with_reducible exact rfl)) ?_ | refine ex_false (by first | decide | omega | assumption | exact (fun h => h rfl)) ?_ | refine ex_dec (fun _ => ?_) (fun _ => ?_) | refine ex_u8 _ rfl (by omega) (by omega) ?_ | refine ex_i64 _ rfl (by omega) (by omega) ?_ | refine ex_u64 _ rfl (by omega) (by omega) ?_ | refine and_mk (by first | omega | (with_reducible rfl) | (show drawOk _ _ _ = true; kernel_rfl)) ?_ | refine and_mk ⟨_, rfl⟩ ?_ | refine ex_is _ (List.length_map _) ?_ | refine ex_is _ List.length_nil ?_ | fail "no step")
            have hcon := name_c (m := m) ⟨i + 1, xs, ts⟩ hs1.i (by omega)
            rcases hx99 : (nameM L) ⟨i + 1, xs, ts⟩ with ⟨p, s9⟩ | ⟨i9, e9⟩
            rotate_left
            · obtain rfl := (and_err hx99).symm.trans hT
              first | refine ex_callM (CallsM.ren (hcon.err hx99) [0, 1] 10 rfl rfl rfl rfl) ?_ | refine ex_callM (CallsM.more0 (CallsM.ren (hcon.err hx99) [0, 1] 10 rfl rfl rfl rfl)) ?_ | refine ex_callM (CallsM.more1 (CallsM.ren (hcon.err hx99) [0, 1] 10 rfl rfl rfl rfl)) ?_ | refine ex_callM (CallsM.moreL (CallsM.ren (hcon.err hx99) [0, 1] 10 rfl rfl rfl rfl)) ?_
              first | exact ⟨⟨_, rfl, rfl⟩, rfl, rfl⟩ | exact ⟨by kernel_rfl, ⟨_, rfl, rfl⟩, rfl, rfl⟩
            replace hT := (and_ok hx99).symm.trans hT
            first | refine ex_callM (CallsM.ren (hcon.ok hx99) [0, 1] 10 rfl rfl rfl rfl) ?_ | refine ex_callM (CallsM.more0 (CallsM.ren (hcon.ok hx99) [0, 1] 10 rfl rfl rfl rfl)) ?_ | refine ex_callM (CallsM.more1 (CallsM.ren (hcon.ok hx99) [0, 1] 10 rfl rfl rfl rfl)) ?_ | refine ex_callM (CallsM.moreL (CallsM.ren (hcon.ok hx99) [0, 1] 10 rfl rfl rfl rfl)) ?_
            clear hcon
            have hs2 := (Up.ok (Up.name hL 0) hs1 hx99).1
            obtain rfl := mv_name1 hx99
            have hi2 := hs2.lt
            repeat' (first | refine ex_true (by first | decide | omega | assumption | (with_reducible exact rfl)) ?_ | refine ex_false (by first | decide | omega | assumption | exact (fun h => h rfl)) ?_ | refine ex_dec (fun _ => ?_) (fun _ => ?_) | refine ex_u8 _ rfl (by omega) (by omega) ?_ | refine ex_i64 _ rfl (by omega) (by omega) ?_ | refine ex_u64 _ rfl (by omega) (by omega) ?_ | refine and_mk (by first | omega | (with_reducible rfl) | (show drawOk _ _ _ = true; kernel_rfl)) ?_ | refine and_mk ⟨_, rfl⟩ ?_ | refine ex_is _ (List.length_map _) ?_ | refine ex_is _ List.length_nil ?_ | fail "no step")
            refine ex_app (l.length) (1) 1000 (by first | rfl | (simp; done) | (simp; omega)) (by first | rfl | (simp; done) | (simp; omega)) rfl (by omega) ?_
            refine ex_is (List.map (fun p : List UInt8 => [ds (bs p)]) (l ++ [p])) (by rw [List.map_append]; rfl) ?_
            repeat' (first | refine ex_true (by first | decide | omega | assumption | (with_reducible exact rfl)) ?_ | refine ex_false (by first | decide | omega | assumption | exact (fun h => h rfl)) ?_ | refine ex_dec (fun _ => ?_) (fun _ => ?_) | refine ex_u8 _ rfl (by omega) (by omega) ?_ | refine ex_i64 _ rfl (by omega) (by omega) ?_ | refine ex_u64 _ rfl (by omega) (by omega) ?_ | refine and_mk (by first | omega | (with_reducible rfl) | (show drawOk _ _ _ = true; kernel_rfl)) ?_ | refine and_mk ⟨_, rfl⟩ ?_ | refine ex_is _ (List.length_map _) ?_ | refine ex_is _ List.length_nil ?_ | fail "no step")
            exact ex_round (i + 1 + 1, l ++ [p], n) ⟨hs2.less (by omega), by omega, by simp <;> omega, hT⟩ (by show L.length - (i + 1 + 1) < L.length - i; omega) (SLe.ren [(0, 0), (1, 1), (2, 2), (3, 3), (4, 4), (5, 5), (6, 6), (7, 7), (11, 9)] ⟨⟨rfl, rfl⟩, ⟨rfl, rfl⟩, ⟨rfl, rfl⟩, trivial⟩ ⟨⟨rfl, rfl⟩, ⟨rfl, rfl⟩, ⟨rfl, rfl⟩, ⟨rfl, rfl⟩, ⟨rfl, rfl⟩, ⟨rfl, rfl⟩, ⟨rfl, rfl⟩, trivial⟩ rfl)
          · replace hT := rmT hT hb
            first | refine ex_callM (CallsM.ren (hnm) [0, 1] 10 rfl rfl rfl rfl) ?_ | refine ex_callM (CallsM.more0 (CallsM.ren (hnm) [0, 1] 10 rfl rfl rfl rfl)) ?_ | refine ex_callM (CallsM.more1 (CallsM.ren (hnm) [0, 1] 10 rfl rfl rfl rfl)) ?_ | refine ex_callM (CallsM.moreL (CallsM.ren (hnm) [0, 1] 10 rfl rfl rfl rfl)) ?_
            repeat' (first | refine ex_is l.length (by simp) ?_ | refine ex_true (by first | decide | omega | assumption | (with_reducible exact rfl)) ?_ | refine ex_false (by first | decide | omega | assumption | exact (fun h => h rfl)) ?_ | refine ex_dec (fun _ => ?_) (fun _ => ?_) | refine ex_u8 _ rfl (by omega) (by omega) ?_ | refine ex_i64 _ rfl (by omega) (by omega) ?_ | refine ex_u64 _ rfl (by omega) (by omega) ?_ | refine and_mk (by first | omega | (with_reducible rfl) | (show drawOk _ _ _ = true; kernel_rfl)) ?_ | refine and_mk ⟨_, rfl⟩ ?_ | refine ex_is _ (List.length_map _) ?_ | refine ex_is _ List.length_nil ?_ | fail "no step")
            have hcon := room_c (m := m) ⟨i + 1, xs, ts⟩ hs1.lt l.length (by omega)
            rcases hr : (roomM l.length) ⟨i + 1, xs, ts⟩ with ⟨_, s9⟩ | ⟨i9, e9⟩
            rotate_left
            · obtain rfl := (and_err hr).symm.trans hT
              first | refine ex_callM (CallsM.ren (hcon.err hr) [0, 1] 10 rfl rfl rfl rfl) ?_ | refine ex_callM (CallsM.more0 (CallsM.ren (hcon.err hr) [0, 1] 10 rfl rfl rfl rfl)) ?_ | refine ex_callM (CallsM.more1 (CallsM.ren (hcon.err hr) [0, 1] 10 rfl rfl rfl rfl)) ?_ | refine ex_callM (CallsM.moreL (CallsM.ren (hcon.err hr) [0, 1] 10 rfl rfl rfl rfl)) ?_
              first | exact ⟨⟨_, rfl, rfl⟩, rfl, rfl⟩ | exact ⟨by kernel_rfl, ⟨_, rfl, rfl⟩, rfl, rfl⟩
            replace hT := (and_ok hr).symm.trans hT
            first | refine ex_callM (CallsM.ren (hcon.ok hr) [0, 1] 10 rfl rfl rfl rfl) ?_ | refine ex_callM (CallsM.more0 (CallsM.ren (hcon.ok hr) [0, 1] 10 rfl rfl rfl rfl)) ?_ | refine ex_callM (CallsM.more1 (CallsM.ren (hcon.ok hr) [0, 1] 10 rfl rfl rfl rfl)) ?_ | refine ex_callM (CallsM.moreL (CallsM.ren (hcon.ok hr) [0, 1] 10 rfl rfl rfl rfl)) ?_
            clear hcon
            obtain rfl := mv_room1 hr
            replace hT := asc hT
            repeat' (first | refine ex_true (by first | decide | omega | assumption | (with_reducible exact rfl)) ?_ | refine ex_false (by first | decide | omega | assumption | exact (fun h => h rfl)) ?_ | refine ex_dec (fun _ => ?_) (fun _ => ?_) | refine ex_u8 _ rfl (by omega) (by omega) ?_ | refine ex_i64 _ rfl (by omega) (by omega) ?_ | refine ex_u64 _ rfl (by omega) (by omega) ?_ | refine and_mk (by first | omega | (with_reducible rfl) | (show drawOk _ _ _ = true; kernel_rfl)) ?_ | refine and_mk ⟨_, rfl⟩ ?_ | refine ex_is _ (List.length_map _) ?_ | refine ex_is _ List.length_nil ?_ | fail "no step")
            have hcon := name_c (m := m) ⟨i + 1, xs, ts⟩ hs1.i (by omega)
            rcases hx112 : (nameM L) ⟨i + 1, xs, ts⟩ with ⟨p, s9⟩ | ⟨i9, e9⟩
            rotate_left
            · obtain rfl := (and_err hx112).symm.trans hT
              first | refine ex_callM (CallsM.ren (hcon.err hx112) [0, 1] 10 rfl rfl rfl rfl) ?_ | refine ex_callM (CallsM.more0 (CallsM.ren (hcon.err hx112) [0, 1] 10 rfl rfl rfl rfl)) ?_ | refine ex_callM (CallsM.more1 (CallsM.ren (hcon.err hx112) [0, 1] 10 rfl rfl rfl rfl)) ?_ | refine ex_callM (CallsM.moreL (CallsM.ren (hcon.err hx112) [0, 1] 10 rfl rfl rfl rfl)) ?_
              first | exact ⟨⟨_, rfl, rfl⟩, rfl, rfl⟩ | exact ⟨by kernel_rfl, ⟨_, rfl, rfl⟩, rfl, rfl⟩
            replace hT := (and_ok hx112).symm.trans hT
            first | refine ex_callM (CallsM.ren (hcon.ok hx112) [0, 1] 10 rfl rfl rfl rfl) ?_ | refine ex_callM (CallsM.more0 (CallsM.ren (hcon.ok hx112) [0, 1] 10 rfl rfl rfl rfl)) ?_ | refine ex_callM (CallsM.more1 (CallsM.ren (hcon.ok hx112) [0, 1] 10 rfl rfl rfl rfl)) ?_ | refine ex_callM (CallsM.moreL (CallsM.ren (hcon.ok hx112) [0, 1] 10 rfl rfl rfl rfl)) ?_
            clear hcon
            have hs2 := (Up.ok (Up.name hL 0) hs1 hx112).1
            obtain rfl := mv_name1 hx112
            have hi2 := hs2.lt
            repeat' (first | refine ex_true (by first | decide | omega | assumption | (with_reducible exact rfl)) ?_ | refine ex_false (by first | decide | omega | assumption | exact (fun h => h rfl)) ?_ | refine ex_dec (fun _ => ?_) (fun _ => ?_) | refine ex_u8 _ rfl (by omega) (by omega) ?_ | refine ex_i64 _ rfl (by omega) (by omega) ?_ | refine ex_u64 _ rfl (by omega) (by omega) ?_ | refine and_mk (by first | omega | (with_reducible rfl) | (show drawOk _ _ _ = true; kernel_rfl)) ?_ | refine and_mk ⟨_, rfl⟩ ?_ | refine ex_is _ (List.length_map _) ?_ | refine ex_is _ List.length_nil ?_ | fail "no step")
            refine ex_app (l.length) (1) 1000 (by first | rfl | (simp; done) | (simp; omega)) (by first | rfl | (simp; done) | (simp; omega)) rfl (by omega) ?_
            refine ex_is (List.map (fun p : List UInt8 => [ds (bs p)]) (l ++ [p])) (by rw [List.map_append]; rfl) ?_
            repeat' (first | refine ex_true (by first | decide | omega | assumption | (with_reducible exact rfl)) ?_ | refine ex_false (by first | decide | omega | assumption | exact (fun h => h rfl)) ?_ | refine ex_dec (fun _ => ?_) (fun _ => ?_) | refine ex_u8 _ rfl (by omega) (by omega) ?_ | refine ex_i64 _ rfl (by omega) (by omega) ?_ | refine ex_u64 _ rfl (by omega) (by omega) ?_ | refine and_mk (by first | omega | (with_reducible rfl) | (show drawOk _ _ _ = true; kernel_rfl)) ?_ | refine and_mk ⟨_, rfl⟩ ?_ | refine ex_is _ (List.length_map _) ?_ | refine ex_is _ List.length_nil ?_ | fail "no step")
            exact ex_round (i + 1 + 1, l ++ [p], n) ⟨hs2.less (by omega), by omega, by simp <;> omega, hT⟩ (by show L.length - (i + 1 + 1) < L.length - i; omega) (SLe.ren [(0, 0), (1, 1), (2, 2), (3, 3), (4, 4), (5, 5), (6, 6), (7, 7), (11, 9)] ⟨⟨rfl, rfl⟩, ⟨rfl, rfl⟩, ⟨rfl, rfl⟩, trivial⟩ ⟨⟨rfl, rfl⟩, ⟨rfl, rfl⟩, ⟨rfl, rfl⟩, ⟨rfl, rfl⟩, ⟨rfl, rfl⟩, ⟨rfl, rfl⟩, ⟨rfl, rfl⟩, trivial⟩ rfl)
  · clear hT hs2 hs1 hs
    rintro ⟨i, ps⟩ ⟨hs, hT⟩
    repeat' (first | refine ex_true (by first | decide | omega | assumption | (with_reducible exact rfl)) ?_ | refine ex_false (by first | decide | omega | assumption | exact (fun h => h rfl)) ?_ | refine ex_dec (fun _ => ?_) (fun _ => ?_) | refine ex_u8 _ rfl (by omega) (by omega) ?_ | refine ex_i64 _ rfl (by omega) (by omega) ?_ | refine ex_u64 _ rfl (by omega) (by omega) ?_ | refine and_mk (by first | omega | (with_reducible rfl) | (show drawOk _ _ _ = true; kernel_rfl)) ?_ | refine and_mk ⟨_, rfl⟩ ?_ | refine ex_is _ (List.length_map _) ?_ | refine ex_is _ List.length_nil ?_ | fail "no step")
    have hcon := take_c (m := m) ⟨i, xs, ts⟩ hs.i (by omega) t_lcur
    rcases hx122 : (takeM L t_lcur) ⟨i, xs, ts⟩ with ⟨_, s9⟩ | ⟨i9, e9⟩
    rotate_left
    · obtain rfl := (and_err hx122).symm.trans hT
      first | refine ex_callM (CallsM.ren (hcon.err hx122) [0, 1] 10 rfl rfl rfl rfl) ?_ | refine ex_callM (CallsM.more0 (CallsM.ren (hcon.err hx122) [0, 1] 10 rfl rfl rfl rfl)) ?_ | refine ex_callM (CallsM.more1 (CallsM.ren (hcon.err hx122) [0, 1] 10 rfl rfl rfl rfl)) ?_ | refine ex_callM (CallsM.moreL (CallsM.ren (hcon.err hx122) [0, 1] 10 rfl rfl rfl rfl)) ?_
      first | exact ⟨⟨_, rfl, rfl⟩, rfl, rfl⟩ | exact ⟨by kernel_rfl, ⟨_, rfl, rfl⟩, rfl, rfl⟩
    replace hT := (and_ok hx122).symm.trans hT
    first | refine ex_callM (CallsM.ren (hcon.ok hx122) [0, 1] 10 rfl rfl rfl rfl) ?_ | refine ex_callM (CallsM.more0 (CallsM.ren (hcon.ok hx122) [0, 1] 10 rfl rfl rfl rfl)) ?_ | refine ex_callM (CallsM.more1 (CallsM.ren (hcon.ok hx122) [0, 1] 10 rfl rfl rfl rfl)) ?_ | refine ex_callM (CallsM.moreL (CallsM.ren (hcon.ok hx122) [0, 1] 10 rfl rfl rfl rfl)) ?_
    clear hcon
    have hs1 := (Up.ok (Up.take hL t_lcur 0) hs hx122).1
    obtain rfl := mv_take1 hx122
    repeat' (first | refine ex_true (by first | decide | omega | assumption | (with_reducible exact rfl)) ?_ | refine ex_false (by first | decide | omega | assumption | exact (fun h => h rfl)) ?_ | refine ex_dec (fun _ => ?_) (fun _ => ?_) | refine ex_u8 _ rfl (by omega) (by omega) ?_ | refine ex_i64 _ rfl (by omega) (by omega) ?_ | refine ex_u64 _ rfl (by omega) (by omega) ?_ | refine and_mk (by first | omega | (with_reducible rfl) | (show drawOk _ _ _ = true; kernel_rfl)) ?_ | refine and_mk ⟨_, rfl⟩ ?_ | refine ex_is _ (List.length_map _) ?_ | refine ex_is _ List.length_nil ?_ | fail "no step")
    replace hT : (itemsN L (L.length - (i + 1) + 1) [] >>= fun is => takeM L t_rcur >>= fun _ => pure (⟨w, ps, is⟩ : RC)) ⟨i + 1, xs, ts⟩ = T := hT
    refine ex_loop (X := Nat × List EX × List TY × List IT × Nat) (fun ⟨i, xs, ts, l, _⟩ => ⟨[(0, .o P0), (2, .o (.c (.ptr 6 0))), (3, .o (.c (.ptr 7 0)))], [(5, .dead), (4, .dead), (0, Qz L m i), (1, Fz 2 3 11 12), (6, .obj [.d (ds ⟨#[]⟩), .d dnil, .d dnil]), (7, .obj [.d (ds (bs w)), .row 9, .row 10]), (9, .row 1 9 (ps.map fun p => [ds (bs p)])), (10, .row 9 73 (l.map itD)), (11, Xz xs), (12, Tz ts)], 13⟩) (fun y => L.length - y.1)
      (fun ⟨i, xs, ts, l, n⟩ => SOk L 0 ⟨i, xs, ts⟩ ∧ L.length < i + n ∧ l.length ≤ i ∧ (itemsN L n l >>= fun is => takeM L t_rcur >>= fun _ => pure (⟨w, ps, is⟩ : RC)) ⟨i, xs, ts⟩ = T) (i + 1, xs, ts, [], L.length - (i + 1) + 1) ⟨hs1.less (by omega), by omega, Nat.zero_le _, hT⟩
      (SLe.kill (nx := 13) 5 (SLe.kill (nx := 13) 4 (SLe.via (SLe.ownCell 7 2 10 9 73 rfl rfl rfl rfl rfl rfl) (SLe.ren [(0, 0), (1, 1), (2, 2), (3, 3), (6, 6), (7, 7), (9, 9), (10, 10), (4, 11), (5, 12)] ⟨⟨rfl, rfl⟩, ⟨rfl, rfl⟩, ⟨rfl, rfl⟩, trivial⟩ ⟨⟨rfl, rfl⟩, ⟨rfl, rfl⟩, ⟨rfl, rfl⟩, ⟨rfl, rfl⟩, ⟨rfl, rfl⟩, ⟨rfl, rfl⟩, ⟨rfl, rfl⟩, ⟨rfl, rfl⟩, trivial⟩ rfl)))) ?_
    clear hT hs1 hs
    rintro ⟨i, xs, ts, l, n⟩ ⟨hs, hf, hll, hT⟩
    have hi := hs.lt
    have hpk := is_c (m := m) i hi w_pack
    have hnm := named_c (m := m) i hi
    cases n with
    | zero => omega
    | succ n =>
      rw [itemsN] at hT
      rcases hv : isV L i w_pack with _ | _ <;> rw [hv] at hpk
      · rcases hv2 : namedV L i with _ | _ <;> rw [hv2] at hnm
        · replace hT := pureT (atnB hT (by rw [hv, hv2]; rfl))
          first | refine ex_callM (CallsM.ren (hpk) [0, 1] 13 rfl rfl rfl rfl) ?_ | refine ex_callM (CallsM.more0 (CallsM.ren (hpk) [0, 1] 13 rfl rfl rfl rfl)) ?_ | refine ex_callM (CallsM.more1 (CallsM.ren (hpk) [0, 1] 13 rfl rfl rfl rfl)) ?_ | refine ex_callM (CallsM.moreL (CallsM.ren (hpk) [0, 1] 13 rfl rfl rfl rfl)) ?_
          repeat' (first | refine ex_true (by first | decide | omega | assumption | (with_reducible exact rfl)) ?_ | refine ex_false (by first | decide | omega | assumption | exact (fun h => h rfl)) ?_ | refine ex_dec (fun _ => ?_) (fun _ => ?_) | refine ex_u8 _ rfl (by omega) (by omega) ?_ | refine ex_i64 _ rfl (by omega) (by omega) ?_ | refine ex_u64 _ rfl (by omega) (by omega) ?_ | refine and_mk (by first | omega | (with_reducible rfl) | (show drawOk _ _ _ = true; kernel_rfl)) ?_ | refine and_mk ⟨_, rfl⟩ ?_ | refine ex_is _ (List.length_map _) ?_ | refine ex_is _ List.length_nil ?_ | fail "no step")
          first | refine ex_callM (CallsM.ren (hnm) [0, 1] 13 rfl rfl rfl rfl) ?_ | refine ex_callM (CallsM.more0 (CallsM.ren (hnm) [0, 1] 13 rfl rfl rfl rfl)) ?_ | refine ex_callM (CallsM.more1 (CallsM.ren (hnm) [0, 1] 13 rfl rfl rfl rfl)) ?_ | refine ex_callM (CallsM.moreL (CallsM.ren (hnm) [0, 1] 13 rfl rfl rfl rfl)) ?_
          repeat' (first | refine ex_true (by first | decide | omega | assumption | (with_reducible exact rfl)) ?_ | refine ex_false (by first | decide | omega | assumption | exact (fun h => h rfl)) ?_ | refine ex_dec (fun _ => ?_) (fun _ => ?_) | refine ex_u8 _ rfl (by omega) (by omega) ?_ | refine ex_i64 _ rfl (by omega) (by omega) ?_ | refine ex_u64 _ rfl (by omega) (by omega) ?_ | refine and_mk (by first | omega | (with_reducible rfl) | (show drawOk _ _ _ = true; kernel_rfl)) ?_ | refine and_mk ⟨_, rfl⟩ ?_ | refine ex_is _ (List.length_map _) ?_ | refine ex_is _ List.length_nil ?_ | fail "no step")
          have hcon := take_c (m := m) ⟨i, xs, ts⟩ hs.i (by omega) t_rcur
          rcases hx144 : (takeM L t_rcur) ⟨i, xs, ts⟩ with ⟨_, s9⟩ | ⟨i9, e9⟩
          rotate_left
          · obtain rfl := (and_err hx144).symm.trans hT
            first | refine ex_callM (CallsM.ren (hcon.err hx144) [0, 1] 13 rfl rfl rfl rfl) ?_ | refine ex_callM (CallsM.more0 (CallsM.ren (hcon.err hx144) [0, 1] 13 rfl rfl rfl rfl)) ?_ | refine ex_callM (CallsM.more1 (CallsM.ren (hcon.err hx144) [0, 1] 13 rfl rfl rfl rfl)) ?_ | refine ex_callM (CallsM.moreL (CallsM.ren (hcon.err hx144) [0, 1] 13 rfl rfl rfl rfl)) ?_
            first | exact ⟨⟨_, rfl, rfl⟩, rfl, rfl⟩ | exact ⟨by kernel_rfl, ⟨_, rfl, rfl⟩, rfl, rfl⟩
          replace hT := (and_ok hx144).symm.trans hT
          first | refine ex_callM (CallsM.ren (hcon.ok hx144) [0, 1] 13 rfl rfl rfl rfl) ?_ | refine ex_callM (CallsM.more0 (CallsM.ren (hcon.ok hx144) [0, 1] 13 rfl rfl rfl rfl)) ?_ | refine ex_callM (CallsM.more1 (CallsM.ren (hcon.ok hx144) [0, 1] 13 rfl rfl rfl rfl)) ?_ | refine ex_callM (CallsM.moreL (CallsM.ren (hcon.ok hx144) [0, 1] 13 rfl rfl rfl rfl)) ?_
          clear hcon
          have hs1 := (Up.ok (Up.take hL t_rcur 0) hs hx144).1
          obtain rfl := mv_take1 hx144
          obtain rfl : PR.ok (⟨w, ps, l⟩ : RC) ⟨i + 1, xs, ts⟩ = T := hT
          repeat' (first | refine ex_true (by first | decide | omega | assumption | (with_reducible exact rfl)) ?_ | refine ex_false (by first | decide | omega | assumption | exact (fun h => h rfl)) ?_ | refine ex_dec (fun _ => ?_) (fun _ => ?_) | refine ex_u8 _ rfl (by omega) (by omega) ?_ | refine ex_i64 _ rfl (by omega) (by omega) ?_ | refine ex_u64 _ rfl (by omega) (by omega) ?_ | refine and_mk (by first | omega | (with_reducible rfl) | (show drawOk _ _ _ = true; kernel_rfl)) ?_ | refine and_mk ⟨_, rfl⟩ ?_ | refine ex_is _ (List.length_map _) ?_ | refine ex_is _ List.length_nil ?_ | fail "no step")
          exact ⟨rfl, TLe.rfl, rfl, rfl⟩
        · replace hT := asc (atyB hT (by rw [hv, hv2]; rfl))
          first | refine ex_callM (CallsM.ren (hpk) [0, 1] 13 rfl rfl rfl rfl) ?_ | refine ex_callM (CallsM.more0 (CallsM.ren (hpk) [0, 1] 13 rfl rfl rfl rfl)) ?_ | refine ex_callM (CallsM.more1 (CallsM.ren (hpk) [0, 1] 13 rfl rfl rfl rfl)) ?_ | refine ex_callM (CallsM.moreL (CallsM.ren (hpk) [0, 1] 13 rfl rfl rfl rfl)) ?_
          repeat' (first | refine ex_true (by first | decide | omega | assumption | (with_reducible exact rfl)) ?_ | refine ex_false (by first | decide | omega | assumption | exact (fun h => h rfl)) ?_ | refine ex_dec (fun _ => ?_) (fun _ => ?_) | refine ex_u8 _ rfl (by omega) (by omega) ?_ | refine ex_i64 _ rfl (by omega) (by omega) ?_ | refine ex_u64 _ rfl (by omega) (by omega) ?_ | refine and_mk (by first | omega | (with_reducible rfl) | (show drawOk _ _ _ = true; kernel_rfl)) ?_ | refine and_mk ⟨_, rfl⟩ ?_ | refine ex_is _ (List.length_map _) ?_ | refine ex_is _ List.length_nil ?_ | fail "no step")
          first | refine ex_callM (CallsM.ren (hnm) [0, 1] 13 rfl rfl rfl rfl) ?_ | refine ex_callM (CallsM.more0 (CallsM.ren (hnm) [0, 1] 13 rfl rfl rfl rfl)) ?_ | refine ex_callM (CallsM.more1 (CallsM.ren (hnm) [0, 1] 13 rfl rfl rfl rfl)) ?_ | refine ex_callM (CallsM.moreL (CallsM.ren (hnm) [0, 1] 13 rfl rfl rfl rfl)) ?_
          repeat' (first | refine ex_is l.length (by simp) ?_ | refine ex_true (by first | decide | omega | assumption | (with_reducible exact rfl)) ?_ | refine ex_false (by first | decide | omega | assumption | exact (fun h => h rfl)) ?_ | refine ex_dec (fun _ => ?_) (fun _ => ?_) | refine ex_u8 _ rfl (by omega) (by omega) ?_ | refine ex_i64 _ rfl (by omega) (by omega) ?_ | refine ex_u64 _ rfl (by omega) (by omega) ?_ | refine and_mk (by first | omega | (with_reducible rfl) | (show drawOk _ _ _ = true; kernel_rfl)) ?_ | refine and_mk ⟨_, rfl⟩ ?_ | refine ex_is _ (List.length_map _) ?_ | refine ex_is _ List.length_nil ?_ | fail "no step")
          have hcon := room_c (m := m) ⟨i, xs, ts⟩ hi l.length (by omega)
          rcases hr : (roomM l.length) ⟨i, xs, ts⟩ with ⟨_, s9⟩ | ⟨i9, e9⟩
          rotate_left
          · obtain rfl := (and_err hr).symm.trans hT
            first | refine ex_callM (CallsM.ren (hcon.err hr) [0, 1] 13 rfl rfl rfl rfl) ?_ | refine ex_callM (CallsM.more0 (CallsM.ren (hcon.err hr) [0, 1] 13 rfl rfl rfl rfl)) ?_ | refine ex_callM (CallsM.more1 (CallsM.ren (hcon.err hr) [0, 1] 13 rfl rfl rfl rfl)) ?_ | refine ex_callM (CallsM.moreL (CallsM.ren (hcon.err hr) [0, 1] 13 rfl rfl rfl rfl)) ?_
            first | exact ⟨⟨_, rfl, rfl⟩, rfl, rfl⟩ | exact ⟨by kernel_rfl, ⟨_, rfl, rfl⟩, rfl, rfl⟩
          replace hT := (and_ok hr).symm.trans hT
          first | refine ex_callM (CallsM.ren (hcon.ok hr) [0, 1] 13 rfl rfl rfl rfl) ?_ | refine ex_callM (CallsM.more0 (CallsM.ren (hcon.ok hr) [0, 1] 13 rfl rfl rfl rfl)) ?_ | refine ex_callM (CallsM.more1 (CallsM.ren (hcon.ok hr) [0, 1] 13 rfl rfl rfl rfl)) ?_ | refine ex_callM (CallsM.moreL (CallsM.ren (hcon.ok hr) [0, 1] 13 rfl rfl rfl rfl)) ?_
          clear hcon
          obtain rfl := mv_room1 hr
          replace hT := atnB (asc hT) hv
          repeat' (first | refine ex_true (by first | decide | omega | assumption | (with_reducible exact rfl)) ?_ | refine ex_false (by first | decide | omega | assumption | exact (fun h => h rfl)) ?_ | refine ex_dec (fun _ => ?_) (fun _ => ?_) | refine ex_u8 _ rfl (by omega) (by omega) ?_ | refine ex_i64 _ rfl (by omega) (by omega) ?_ | refine ex_u64 _ rfl (by omega) (by omega) ?_ | refine and_mk (by first | omega | (with_reducible rfl) | (show drawOk _ _ _ = true; kernel_rfl)) ?_ | refine and_mk ⟨_, rfl⟩ ?_ | refine ex_is _ (List.length_map _) ?_ | refine ex_is _ List.length_nil ?_ | fail "no step")
          first | refine ex_callM (CallsM.ren (hpk) [0, 1] 13 rfl rfl rfl rfl) ?_ | refine ex_callM (CallsM.more0 (CallsM.ren (hpk) [0, 1] 13 rfl rfl rfl rfl)) ?_ | refine ex_callM (CallsM.more1 (CallsM.ren (hpk) [0, 1] 13 rfl rfl rfl rfl)) ?_ | refine ex_callM (CallsM.moreL (CallsM.ren (hpk) [0, 1] 13 rfl rfl rfl rfl)) ?_
          repeat' (first | refine ex_true (by first | decide | omega | assumption | (with_reducible exact rfl)) ?_ | refine ex_false (by first | decide | omega | assumption | exact (fun h => h rfl)) ?_ | refine ex_dec (fun _ => ?_) (fun _ => ?_) | refine ex_u8 _ rfl (by omega) (by omega) ?_ | refine ex_i64 _ rfl (by omega) (by omega) ?_ | refine ex_u64 _ rfl (by omega) (by omega) ?_ | refine and_mk (by first | omega | (with_reducible rfl) | (show drawOk _ _ _ = true; kernel_rfl)) ?_ | refine and_mk ⟨_, rfl⟩ ?_ | refine ex_is _ (List.length_map _) ?_ | refine ex_is _ List.length_nil ?_ | fail "no step")
          have hcon := field_c hL hn hm ⟨i, xs, ts⟩ hs
          rcases hx : (fieldM L) ⟨i, xs, ts⟩ with ⟨x, ⟨i2, xs2, ts2⟩⟩ | ⟨i9, e9⟩
          rotate_left
          · obtain rfl := (and_err hx).symm.trans hT
            first | refine ex_callM (CallsM.ren (hcon.err hx) [0, 1, 2, 3, 11, 12] 13 rfl rfl rfl rfl) ?_ | refine ex_callM (CallsM.more0 (CallsM.ren (hcon.err hx) [0, 1, 2, 3, 11, 12] 13 rfl rfl rfl rfl)) ?_ | refine ex_callM (CallsM.more1 (CallsM.ren (hcon.err hx) [0, 1, 2, 3, 11, 12] 13 rfl rfl rfl rfl)) ?_ | refine ex_callM (CallsM.moreL (CallsM.ren (hcon.err hx) [0, 1, 2, 3, 11, 12] 13 rfl rfl rfl rfl)) ?_
            first | exact ⟨⟨_, rfl, rfl⟩, rfl, rfl⟩ | exact ⟨by kernel_rfl, ⟨_, rfl, rfl⟩, rfl, rfl⟩
          replace hT := (and_ok hx).symm.trans hT
          first | refine ex_callM (CallsM.ren (hcon.ok hx) [0, 1, 2, 3, 11, 12] 13 rfl rfl rfl rfl) ?_ | refine ex_callM (CallsM.more0 (CallsM.ren (hcon.ok hx) [0, 1, 2, 3, 11, 12] 13 rfl rfl rfl rfl)) ?_ | refine ex_callM (CallsM.more1 (CallsM.ren (hcon.ok hx) [0, 1, 2, 3, 11, 12] 13 rfl rfl rfl rfl)) ?_ | refine ex_callM (CallsM.moreL (CallsM.ren (hcon.ok hx) [0, 1, 2, 3, 11, 12] 13 rfl rfl rfl rfl)) ?_
          clear hcon
          have hs2 := (Up.ok (up_field hL) hs hx).1
          have hgo : i < i2 := mo_field _ _ _ hx
          repeat' (first | refine ex_true (by first | decide | omega | assumption | (with_reducible exact rfl)) ?_ | refine ex_false (by first | decide | omega | assumption | exact (fun h => h rfl)) ?_ | refine ex_dec (fun _ => ?_) (fun _ => ?_) | refine ex_u8 _ rfl (by omega) (by omega) ?_ | refine ex_i64 _ rfl (by omega) (by omega) ?_ | refine ex_u64 _ rfl (by omega) (by omega) ?_ | refine and_mk (by first | omega | (with_reducible rfl) | (show drawOk _ _ _ = true; kernel_rfl)) ?_ | refine and_mk ⟨_, rfl⟩ ?_ | refine ex_is _ (List.length_map _) ?_ | refine ex_is _ List.length_nil ?_ | fail "no step")
          refine ex_app (l.length) (1) 1000 (by first | rfl | (simp; done) | (simp; omega)) (by first | rfl | (simp; done) | (simp; omega)) rfl (by omega) ?_
          refine ex_is (List.map itD (l ++ [x])) (by rw [List.map_append]; rfl) ?_
          repeat' (first | refine ex_true (by first | decide | omega | assumption | (with_reducible exact rfl)) ?_ | refine ex_false (by first | decide | omega | assumption | exact (fun h => h rfl)) ?_ | refine ex_dec (fun _ => ?_) (fun _ => ?_) | refine ex_u8 _ rfl (by omega) (by omega) ?_ | refine ex_i64 _ rfl (by omega) (by omega) ?_ | refine ex_u64 _ rfl (by omega) (by omega) ?_ | refine and_mk (by first | omega | (with_reducible rfl) | (show drawOk _ _ _ = true; kernel_rfl)) ?_ | refine and_mk ⟨_, rfl⟩ ?_ | refine ex_is _ (List.length_map _) ?_ | refine ex_is _ List.length_nil ?_ | fail "no step")
          exact ex_round (i2, xs2, ts2, l ++ [x], n) ⟨hs2, by omega, by simp <;> omega, hT⟩ (by show L.length - i2 < L.length - i; omega) (SLe.ren [(0, 0), (1, 1), (2, 2), (3, 3), (4, 4), (5, 5), (6, 6), (7, 7), (9, 9), (13, 11), (14, 12), (16, 10)] ⟨⟨rfl, rfl⟩, ⟨rfl, rfl⟩, ⟨rfl, rfl⟩, trivial⟩ ⟨⟨rfl, rfl⟩, ⟨rfl, rfl⟩, ⟨rfl, rfl⟩, ⟨rfl, rfl⟩, ⟨rfl, rfl⟩, ⟨rfl, rfl⟩, ⟨rfl, rfl⟩, ⟨rfl, rfl⟩, ⟨rfl, rfl⟩, ⟨rfl, rfl⟩, trivial⟩ rfl)
      · replace hT := asc (atyB hT (by rw [hv]; rfl))
        first | refine ex_callM (CallsM.ren (hpk) [0, 1] 13 rfl rfl rfl rfl) ?_ | refine ex_callM (CallsM.more0 (CallsM.ren (hpk) [0, 1] 13 rfl rfl rfl rfl)) ?_ | refine ex_callM (CallsM.more1 (CallsM.ren (hpk) [0, 1] 13 rfl rfl rfl rfl)) ?_ | refine ex_callM (CallsM.moreL (CallsM.ren (hpk) [0, 1] 13 rfl rfl rfl rfl)) ?_
        repeat' (first | refine ex_is l.length (by simp) ?_ | refine ex_true (by first | decide | omega | assumption | (with_reducible exact rfl)) ?_ | refine ex_false (by first | decide | omega | assumption | exact (fun h => h rfl)) ?_ | refine ex_dec (fun _ => ?_) (fun _ => ?_) | refine ex_u8 _ rfl (by omega) (by omega) ?_ | refine ex_i64 _ rfl (by omega) (by omega) ?_ | refine ex_u64 _ rfl (by omega) (by omega) ?_ | refine and_mk (by first | omega | (with_reducible rfl) | (show drawOk _ _ _ = true; kernel_rfl)) ?_ | refine and_mk ⟨_, rfl⟩ ?_ | refine ex_is _ (List.length_map _) ?_ | refine ex_is _ List.length_nil ?_ | fail "no step")
        have hcon := room_c (m := m) ⟨i, xs, ts⟩ hi l.length (by omega)
        rcases hr : (roomM l.length) ⟨i, xs, ts⟩ with ⟨_, s9⟩ | ⟨i9, e9⟩
        rotate_left
        · obtain rfl := (and_err hr).symm.trans hT
          first | refine ex_callM (CallsM.ren (hcon.err hr) [0, 1] 13 rfl rfl rfl rfl) ?_ | refine ex_callM (CallsM.more0 (CallsM.ren (hcon.err hr) [0, 1] 13 rfl rfl rfl rfl)) ?_ | refine ex_callM (CallsM.more1 (CallsM.ren (hcon.err hr) [0, 1] 13 rfl rfl rfl rfl)) ?_ | refine ex_callM (CallsM.moreL (CallsM.ren (hcon.err hr) [0, 1] 13 rfl rfl rfl rfl)) ?_
          first | exact ⟨⟨_, rfl, rfl⟩, rfl, rfl⟩ | exact ⟨by kernel_rfl, ⟨_, rfl, rfl⟩, rfl, rfl⟩
        replace hT := (and_ok hr).symm.trans hT
        first | refine ex_callM (CallsM.ren (hcon.ok hr) [0, 1] 13 rfl rfl rfl rfl) ?_ | refine ex_callM (CallsM.more0 (CallsM.ren (hcon.ok hr) [0, 1] 13 rfl rfl rfl rfl)) ?_ | refine ex_callM (CallsM.more1 (CallsM.ren (hcon.ok hr) [0, 1] 13 rfl rfl rfl rfl)) ?_ | refine ex_callM (CallsM.moreL (CallsM.ren (hcon.ok hr) [0, 1] 13 rfl rfl rfl rfl)) ?_
        clear hcon
        obtain rfl := mv_room1 hr
        replace hT := atyB (asc hT) hv
        repeat' (first | refine ex_true (by first | decide | omega | assumption | (with_reducible exact rfl)) ?_ | refine ex_false (by first | decide | omega | assumption | exact (fun h => h rfl)) ?_ | refine ex_dec (fun _ => ?_) (fun _ => ?_) | refine ex_u8 _ rfl (by omega) (by omega) ?_ | refine ex_i64 _ rfl (by omega) (by omega) ?_ | refine ex_u64 _ rfl (by omega) (by omega) ?_ | refine and_mk (by first | omega | (with_reducible rfl) | (show drawOk _ _ _ = true; kernel_rfl)) ?_ | refine and_mk ⟨_, rfl⟩ ?_ | refine ex_is _ (List.length_map _) ?_ | refine ex_is _ List.length_nil ?_ | fail "no step")
        first | refine ex_callM (CallsM.ren (hpk) [0, 1] 13 rfl rfl rfl rfl) ?_ | refine ex_callM (CallsM.more0 (CallsM.ren (hpk) [0, 1] 13 rfl rfl rfl rfl)) ?_ | refine ex_callM (CallsM.more1 (CallsM.ren (hpk) [0, 1] 13 rfl rfl rfl rfl)) ?_ | refine ex_callM (CallsM.moreL (CallsM.ren (hpk) [0, 1] 13 rfl rfl rfl rfl)) ?_
        repeat' (first | refine ex_true (by first | decide | omega | assumption | (with_reducible exact rfl)) ?_ | refine ex_false (by first | decide | omega | assumption | exact (fun h => h rfl)) ?_ | refine ex_dec (fun _ => ?_) (fun _ => ?_) | refine ex_u8 _ rfl (by omega) (by omega) ?_ | refine ex_i64 _ rfl (by omega) (by omega) ?_ | refine ex_u64 _ rfl (by omega) (by omega) ?_ | refine and_mk (by first | omega | (with_reducible rfl) | (show drawOk _ _ _ = true; kernel_rfl)) ?_ | refine and_mk ⟨_, rfl⟩ ?_ | refine ex_is _ (List.length_map _) ?_ | refine ex_is _ List.length_nil ?_ | fail "no step")
        have hcon := pack_c (m := m) hL hn ⟨i, xs, ts⟩ hs
        rcases hx : (packM L) ⟨i, xs, ts⟩ with ⟨x, ⟨i2, xs2, ts2⟩⟩ | ⟨i9, e9⟩
        rotate_left
        · obtain rfl := (and_err hx).symm.trans hT
          first | refine ex_callM (CallsM.ren (hcon.err hx) [0, 1] 13 rfl rfl rfl rfl) ?_ | refine ex_callM (CallsM.more0 (CallsM.ren (hcon.err hx) [0, 1] 13 rfl rfl rfl rfl)) ?_ | refine ex_callM (CallsM.more1 (CallsM.ren (hcon.err hx) [0, 1] 13 rfl rfl rfl rfl)) ?_ | refine ex_callM (CallsM.moreL (CallsM.ren (hcon.err hx) [0, 1] 13 rfl rfl rfl rfl)) ?_
          first | exact ⟨⟨_, rfl, rfl⟩, rfl, rfl⟩ | exact ⟨by kernel_rfl, ⟨_, rfl, rfl⟩, rfl, rfl⟩
        replace hT := (and_ok hx).symm.trans hT
        first | refine ex_callM (CallsM.ren (hcon.ok hx) [0, 1] 13 rfl rfl rfl rfl) ?_ | refine ex_callM (CallsM.more0 (CallsM.ren (hcon.ok hx) [0, 1] 13 rfl rfl rfl rfl)) ?_ | refine ex_callM (CallsM.more1 (CallsM.ren (hcon.ok hx) [0, 1] 13 rfl rfl rfl rfl)) ?_ | refine ex_callM (CallsM.moreL (CallsM.ren (hcon.ok hx) [0, 1] 13 rfl rfl rfl rfl)) ?_
        clear hcon
        have hs2 := (Up.ok (up_pack hL) hs hx).1
        have hgo : i < i2 := mo_pack _ _ _ hx
        obtain ⟨rfl, rfl⟩ := mv_pack hx
        repeat' (first | refine ex_true (by first | decide | omega | assumption | (with_reducible exact rfl)) ?_ | refine ex_false (by first | decide | omega | assumption | exact (fun h => h rfl)) ?_ | refine ex_dec (fun _ => ?_) (fun _ => ?_) | refine ex_u8 _ rfl (by omega) (by omega) ?_ | refine ex_i64 _ rfl (by omega) (by omega) ?_ | refine ex_u64 _ rfl (by omega) (by omega) ?_ | refine and_mk (by first | omega | (with_reducible rfl) | (show drawOk _ _ _ = true; kernel_rfl)) ?_ | refine and_mk ⟨_, rfl⟩ ?_ | refine ex_is _ (List.length_map _) ?_ | refine ex_is _ List.length_nil ?_ | fail "no step")
        refine ex_app (l.length) (1) 1000 (by first | rfl | (simp; done) | (simp; omega)) (by first | rfl | (simp; done) | (simp; omega)) rfl (by omega) ?_
        refine ex_is (List.map itD (l ++ [x])) (by rw [List.map_append]; rfl) ?_
        repeat' (first | refine ex_true (by first | decide | omega | assumption | (with_reducible exact rfl)) ?_ | refine ex_false (by first | decide | omega | assumption | exact (fun h => h rfl)) ?_ | refine ex_dec (fun _ => ?_) (fun _ => ?_) | refine ex_u8 _ rfl (by omega) (by omega) ?_ | refine ex_i64 _ rfl (by omega) (by omega) ?_ | refine ex_u64 _ rfl (by omega) (by omega) ?_ | refine and_mk (by first | omega | (with_reducible rfl) | (show drawOk _ _ _ = true; kernel_rfl)) ?_ | refine and_mk ⟨_, rfl⟩ ?_ | refine ex_is _ (List.length_map _) ?_ | refine ex_is _ List.length_nil ?_ | fail "no step")
        exact ex_round (i2, xs, ts, l ++ [x], n) ⟨hs2, by omega, by simp <;> omega, hT⟩ (by show L.length - i2 < L.length - i; omega) (SLe.ren [(0, 0), (1, 1), (2, 2), (3, 3), (4, 4), (5, 5), (6, 6), (7, 7), (9, 9), (11, 11), (12, 12), (14, 10)] ⟨⟨rfl, rfl⟩, ⟨rfl, rfl⟩, ⟨rfl, rfl⟩, trivial⟩ ⟨⟨rfl, rfl⟩, ⟨rfl, rfl⟩, ⟨rfl, rfl⟩, ⟨rfl, rfl⟩, ⟨rfl, rfl⟩, ⟨rfl, rfl⟩, ⟨rfl, rfl⟩, ⟨rfl, rfl⟩, ⟨rfl, rfl⟩, ⟨rfl, rfl⟩, trivial⟩ rfl)
end
end Go.Proofs.YtkbhmcdoedmffaaGreatDoor

namespace Go.Proofs.YtkbhmcdoedmffaaGreatDoor
set_option linter.unusedVariables false
set_option linter.unusedSimpArgs false
open Go.RowKit
set_option maxRecDepth 100000

section
variable {P : Program} {Γ : Glob} {f : FuncId} {nx : Nat} {xs : List T1} {r : TV} {upd : List (Nat × Blk)} {new : List Blk} {a b c d e g : Nat × Blk} {m : List (Nat × Blk)}
theorem CallsM.moreW (h : CallsM P Γ f [a, b, e, g] nx xs r upd new) : CallsM P Γ f [a, b, c, d, e, g] nx xs r upd new := h.more fun p hp => by
  simp only [List.mem_cons, List.not_mem_nil, or_false] at hp ⊢; rcases hp with hp | hp | hp | hp <;> simp [hp]
end
abbrev Cz (l : List CO) : Blk := .row 2 107 (l.map coD)
abbrev Uz (l : List RC) : Blk := .row 3 69 (l.map rcD)
def PR.uW (L : List TokP) (m : Nat) : PR (List CO × List RC) → List (Nat × Blk)
  | .ok _ s => [(0, Qz L m s.i), (1, Fz 6 7 8 9), (2, .dead), (3, .dead), (4, .dead), (5, .dead)]
  | .err _ _ => [(0, .dead), (1, .dead), (2, .dead), (3, .dead), (4, .dead), (5, .dead)]
def PR.nW : PR (List CO × List RC) → List Blk
  | .ok v s => [Cz v.1, Uz v.2, Xz s.xs, Tz s.ts]
  | .err _ _ => []
/-- A call that panics where the rest is worked out by the kernel alone. -/
theorem ex_pan {P : Program} {Γ : Glob} {f : FuncId} {m : List (Nat × Blk)} {nx : Nat} {xs : List T1} {r : TV} {upd : List (Nat × Blk)} {new : List Blk} (Q : Prop) (h : CallsM P Γ f m nx xs r upd new) {K : TV → List (Nat × Blk) → List Blk → Prop} (e : K r upd new = Q) (hq : Q) : ∃ r upd new, CallsM P Γ f m nx xs r upd new ∧ K r upd new := ⟨r, upd, new, h, e.mpr hq⟩
section
variable {L : List TokP} {m : Nat}
set_option maxHeartbeats 16000000 in
theorem whole_c (hL : TokOk L) (hn : L.length ≤ 100000) (hm : m = 32) (i n0 : Nat) (xs : List EX) (ts : List TY) (cs : List CO) (rs : List RC) (hs : SOk L 0 ⟨i, xs, ts⟩) (hf : L.length < i + n0) (hcl : cs.length ≤ i) (hrl : rs.length ≤ i) (T : PR (List CO × List RC)) (hT : wholeN L n0 cs rs ⟨i, xs, ts⟩ = T) :
    CallsM Tryz.prog ΓL 24 [(0, Qz L m i), (1, Fz 2 3 4 5), (2, Cz cs), (3, Uz rs), (4, Xz xs), (5, Tz ts)] 6 [P0] (T.tv L fun _ => .tup []) (T.uW L m) T.nW := by
  refine fn_ruleP (C := ⟨Tryz.prog, layF, Tryz.f24.ntmps, ΓL, 6, [], []⟩) layF_ok mixed Tryz.func24 rfl (by kernel_rfl) rfl rfl rfl SLe.rfl ?_
  repeat' (first | refine ex_true (by first | decide | omega | assumption | (with_reducible exact rfl)) ?_ | refine ex_false (by first | decide | omega | assumption | exact (fun h => h rfl)) ?_ | refine ex_dec (fun _ => ?_) (fun _ => ?_) | refine ex_u8 _ rfl (by omega) (by omega) ?_ | refine ex_i64 _ rfl (by omega) (by omega) ?_ | refine ex_u64 _ rfl (by omega) (by omega) ?_ | refine and_mk (by first | omega | (with_reducible rfl) | (show drawOk _ _ _ = true; kernel_rfl)) ?_ | refine and_mk ⟨_, rfl⟩ ?_ | refine ex_is _ (List.length_map _) ?_ | refine ex_is _ List.length_nil ?_ | fail "no step")
  refine ex_loop (X := Nat × List EX × List TY × List CO × List RC × Nat) (fun ⟨i, xs, ts, cs, rs, _⟩ => ⟨[(0, .o P0)], [(5, .dead), (4, .dead), (3, .dead), (2, .dead), (0, Qz L m i), (1, Fz 6 7 8 9), (6, Cz cs), (7, Uz rs), (8, Xz xs), (9, Tz ts)], 10⟩) (fun y => L.length - y.1)
    (fun ⟨i, xs, ts, cs, rs, n⟩ => SOk L 0 ⟨i, xs, ts⟩ ∧ L.length < i + n ∧ cs.length ≤ i ∧ rs.length ≤ i ∧ wholeN L n cs rs ⟨i, xs, ts⟩ = T) (i, xs, ts, cs, rs, n0) ⟨hs, hf, hcl, hrl, hT⟩
    (SLe.kill (nx := 10) 5 (SLe.kill (nx := 10) 4 (SLe.kill (nx := 10) 3 (SLe.kill (nx := 10) 2 (SLe.ren [(0, 0), (1, 1), (2, 6), (3, 7), (4, 8), (5, 9)] ⟨⟨rfl, rfl⟩, trivial⟩ ⟨⟨rfl, rfl⟩, ⟨rfl, rfl⟩, ⟨rfl, rfl⟩, ⟨rfl, rfl⟩, ⟨rfl, rfl⟩, ⟨rfl, rfl⟩, trivial⟩ rfl))))) ?_
  clear hT hf hcl hrl hs
  rintro ⟨i, xs, ts, cs, rs, n⟩ ⟨hs, hf, hcl, hrl, hT⟩
  have hi := hs.lt
  have hic := is_c (m := m) i hi w_const
  have hir := is_c (m := m) i hi w_struct
  cases n with
  | zero => omega
  | succ n =>
    rw [wholeN] at hT
    rcases hv : isV L i w_const with _ | _ <;> rw [hv] at hic
    · replace hT := atn hT hv
      rcases hv2 : isV L i w_struct with _ | _ <;> rw [hv2] at hir
      · replace hT := atn hT hv2
        have ha := ahead_c (L := L) (m := m) i hi
        by_cases hk : (tk L i).k = 3
        · obtain rfl : PR.ok (cs, rs) ⟨i, xs, ts⟩ = T := aty hT (by rw [hk]; rfl)
          generalize tk L i = u at *
          first | refine ex_callM (CallsM.ren (hic) [0, 1] 10 rfl rfl rfl rfl) ?_ | refine ex_callM (CallsM.more0 (CallsM.ren (hic) [0, 1] 10 rfl rfl rfl rfl)) ?_ | refine ex_callM (CallsM.more1 (CallsM.ren (hic) [0, 1] 10 rfl rfl rfl rfl)) ?_ | refine ex_callM (CallsM.moreL (CallsM.ren (hic) [0, 1] 10 rfl rfl rfl rfl)) ?_
          repeat' (first | refine ex_true (by first | decide | omega | assumption | (with_reducible exact rfl)) ?_ | refine ex_false (by first | decide | omega | assumption | exact (fun h => h rfl)) ?_ | refine ex_dec (fun _ => ?_) (fun _ => ?_) | refine ex_u8 _ rfl (by omega) (by omega) ?_ | refine ex_i64 _ rfl (by omega) (by omega) ?_ | refine ex_u64 _ rfl (by omega) (by omega) ?_ | refine and_mk (by first | omega | (with_reducible rfl) | (show drawOk _ _ _ = true; kernel_rfl)) ?_ | refine and_mk ⟨_, rfl⟩ ?_ | refine ex_is _ (List.length_map _) ?_ | refine ex_is _ List.length_nil ?_ | fail "no step")
          first | refine ex_callM (CallsM.ren (hir) [0, 1] 10 rfl rfl rfl rfl) ?_ | refine ex_callM (CallsM.more0 (CallsM.ren (hir) [0, 1] 10 rfl rfl rfl rfl)) ?_ | refine ex_callM (CallsM.more1 (CallsM.ren (hir) [0, 1] 10 rfl rfl rfl rfl)) ?_ | refine ex_callM (CallsM.moreL (CallsM.ren (hir) [0, 1] 10 rfl rfl rfl rfl)) ?_
          repeat' (first | refine ex_true (by first | decide | omega | assumption | (with_reducible exact rfl)) ?_ | refine ex_false (by first | decide | omega | assumption | exact (fun h => h rfl)) ?_ | refine ex_dec (fun _ => ?_) (fun _ => ?_) | refine ex_u8 _ rfl (by omega) (by omega) ?_ | refine ex_i64 _ rfl (by omega) (by omega) ?_ | refine ex_u64 _ rfl (by omega) (by omega) ?_ | refine and_mk (by first | omega | (with_reducible rfl) | (show drawOk _ _ _ = true; kernel_rfl)) ?_ | refine and_mk ⟨_, rfl⟩ ?_ | refine ex_is _ (List.length_map _) ?_ | refine ex_is _ List.length_nil ?_ | fail "no step")
          first | refine ex_callM (CallsM.ren (ha) [0, 1] 10 rfl rfl rfl rfl) ?_ | refine ex_callM (CallsM.more0 (CallsM.ren (ha) [0, 1] 10 rfl rfl rfl rfl)) ?_ | refine ex_callM (CallsM.more1 (CallsM.ren (ha) [0, 1] 10 rfl rfl rfl rfl)) ?_ | refine ex_callM (CallsM.moreL (CallsM.ren (ha) [0, 1] 10 rfl rfl rfl rfl)) ?_
          repeat' (first | refine ex_true (by first | decide | omega | assumption | (with_reducible exact rfl)) ?_ | refine ex_false (by first | decide | omega | assumption | exact (fun h => h rfl)) ?_ | refine ex_dec (fun _ => ?_) (fun _ => ?_) | refine ex_u8 _ rfl (by omega) (by omega) ?_ | refine ex_i64 _ rfl (by omega) (by omega) ?_ | refine ex_u64 _ rfl (by omega) (by omega) ?_ | refine and_mk (by first | omega | (with_reducible rfl) | (show drawOk _ _ _ = true; kernel_rfl)) ?_ | refine and_mk ⟨_, rfl⟩ ?_ | refine ex_is _ (List.length_map _) ?_ | refine ex_is _ List.length_nil ?_ | fail "no step")
          exact ⟨rfl, TLe.rfl, rfl, rfl⟩
        · obtain rfl : PR.err i 4 = T := atn hT (by simp [hk])
          have hfl := fail_c (m := m) i 4 hi
          generalize tk L i = u at *
          first | refine ex_callM (CallsM.ren (hic) [0, 1] 10 rfl rfl rfl rfl) ?_ | refine ex_callM (CallsM.more0 (CallsM.ren (hic) [0, 1] 10 rfl rfl rfl rfl)) ?_ | refine ex_callM (CallsM.more1 (CallsM.ren (hic) [0, 1] 10 rfl rfl rfl rfl)) ?_ | refine ex_callM (CallsM.moreL (CallsM.ren (hic) [0, 1] 10 rfl rfl rfl rfl)) ?_
          repeat' (first | refine ex_true (by first | decide | omega | assumption | (with_reducible exact rfl)) ?_ | refine ex_false (by first | decide | omega | assumption | exact (fun h => h rfl)) ?_ | refine ex_dec (fun _ => ?_) (fun _ => ?_) | refine ex_u8 _ rfl (by omega) (by omega) ?_ | refine ex_i64 _ rfl (by omega) (by omega) ?_ | refine ex_u64 _ rfl (by omega) (by omega) ?_ | refine and_mk (by first | omega | (with_reducible rfl) | (show drawOk _ _ _ = true; kernel_rfl)) ?_ | refine and_mk ⟨_, rfl⟩ ?_ | refine ex_is _ (List.length_map _) ?_ | refine ex_is _ List.length_nil ?_ | fail "no step")
          first | refine ex_callM (CallsM.ren (hir) [0, 1] 10 rfl rfl rfl rfl) ?_ | refine ex_callM (CallsM.more0 (CallsM.ren (hir) [0, 1] 10 rfl rfl rfl rfl)) ?_ | refine ex_callM (CallsM.more1 (CallsM.ren (hir) [0, 1] 10 rfl rfl rfl rfl)) ?_ | refine ex_callM (CallsM.moreL (CallsM.ren (hir) [0, 1] 10 rfl rfl rfl rfl)) ?_
          repeat' (first | refine ex_true (by first | decide | omega | assumption | (with_reducible exact rfl)) ?_ | refine ex_false (by first | decide | omega | assumption | exact (fun h => h rfl)) ?_ | refine ex_dec (fun _ => ?_) (fun _ => ?_) | refine ex_u8 _ rfl (by omega) (by omega) ?_ | refine ex_i64 _ rfl (by omega) (by omega) ?_ | refine ex_u64 _ rfl (by omega) (by omega) ?_ | refine and_mk (by first | omega | (with_reducible rfl) | (show drawOk _ _ _ = true; kernel_rfl)) ?_ | refine and_mk ⟨_, rfl⟩ ?_ | refine ex_is _ (List.length_map _) ?_ | refine ex_is _ List.length_nil ?_ | fail "no step")
          first | refine ex_callM (CallsM.ren (ha) [0, 1] 10 rfl rfl rfl rfl) ?_ | refine ex_callM (CallsM.more0 (CallsM.ren (ha) [0, 1] 10 rfl rfl rfl rfl)) ?_ | refine ex_callM (CallsM.more1 (CallsM.ren (ha) [0, 1] 10 rfl rfl rfl rfl)) ?_ | refine ex_callM (CallsM.moreL (CallsM.ren (ha) [0, 1] 10 rfl rfl rfl rfl)) ?_
          repeat' (first | refine ex_true (by first | decide | omega | assumption | (with_reducible exact rfl)) ?_ | refine ex_false (by first | decide | omega | assumption | exact (fun h => h rfl)) ?_ | refine ex_dec (fun _ => ?_) (fun _ => ?_) | refine ex_u8 _ rfl (by omega) (by omega) ?_ | refine ex_i64 _ rfl (by omega) (by omega) ?_ | refine ex_u64 _ rfl (by omega) (by omega) ?_ | refine and_mk (by first | omega | (with_reducible rfl) | (show drawOk _ _ _ = true; kernel_rfl)) ?_ | refine and_mk ⟨_, rfl⟩ ?_ | refine ex_is _ (List.length_map _) ?_ | refine ex_is _ List.length_nil ?_ | fail "no step")
          first | refine ex_callM (CallsM.ren ((fail_c (m := m) i 4 hi)) [0, 1] 10 rfl rfl rfl rfl) ?_ | refine ex_callM (CallsM.more0 (CallsM.ren ((fail_c (m := m) i 4 hi)) [0, 1] 10 rfl rfl rfl rfl)) ?_ | refine ex_callM (CallsM.more1 (CallsM.ren ((fail_c (m := m) i 4 hi)) [0, 1] 10 rfl rfl rfl rfl)) ?_ | refine ex_callM (CallsM.moreL (CallsM.ren ((fail_c (m := m) i 4 hi)) [0, 1] 10 rfl rfl rfl rfl)) ?_
          exact ⟨⟨_, rfl, rfl⟩, rfl, rfl⟩
      · replace hT := aty hT hv2
        first | refine ex_callM (CallsM.ren (hic) [0, 1] 10 rfl rfl rfl rfl) ?_ | refine ex_callM (CallsM.more0 (CallsM.ren (hic) [0, 1] 10 rfl rfl rfl rfl)) ?_ | refine ex_callM (CallsM.more1 (CallsM.ren (hic) [0, 1] 10 rfl rfl rfl rfl)) ?_ | refine ex_callM (CallsM.moreL (CallsM.ren (hic) [0, 1] 10 rfl rfl rfl rfl)) ?_
        repeat' (first | refine ex_true (by first | decide | omega | assumption | (with_reducible exact rfl)) ?_ | refine ex_false (by first | decide | omega | assumption | exact (fun h => h rfl)) ?_ | refine ex_dec (fun _ => ?_) (fun _ => ?_) | refine ex_u8 _ rfl (by omega) (by omega) ?_ | refine ex_i64 _ rfl (by omega) (by omega) ?_ | refine ex_u64 _ rfl (by omega) (by omega) ?_ | refine and_mk (by first | omega | (with_reducible rfl) | (show drawOk _ _ _ = true; kernel_rfl)) ?_ | refine and_mk ⟨_, rfl⟩ ?_ | refine ex_is _ (List.length_map _) ?_ | refine ex_is _ List.length_nil ?_ | fail "no step")
        first | refine ex_callM (CallsM.ren (hir) [0, 1] 10 rfl rfl rfl rfl) ?_ | refine ex_callM (CallsM.more0 (CallsM.ren (hir) [0, 1] 10 rfl rfl rfl rfl)) ?_ | refine ex_callM (CallsM.more1 (CallsM.ren (hir) [0, 1] 10 rfl rfl rfl rfl)) ?_ | refine ex_callM (CallsM.moreL (CallsM.ren (hir) [0, 1] 10 rfl rfl rfl rfl)) ?_
        repeat' (first | refine ex_is rs.length (by simp) ?_ | refine ex_true (by first | decide | omega | assumption | (with_reducible exact rfl)) ?_ | refine ex_false (by first | decide | omega | assumption | exact (fun h => h rfl)) ?_ | refine ex_dec (fun _ => ?_) (fun _ => ?_) | refine ex_u8 _ rfl (by omega) (by omega) ?_ | refine ex_i64 _ rfl (by omega) (by omega) ?_ | refine ex_u64 _ rfl (by omega) (by omega) ?_ | refine and_mk (by first | omega | (with_reducible rfl) | (show drawOk _ _ _ = true; kernel_rfl)) ?_ | refine and_mk ⟨_, rfl⟩ ?_ | refine ex_is _ (List.length_map _) ?_ | refine ex_is _ List.length_nil ?_ | fail "no step")
        have hcon := room_c (m := m) ⟨i, xs, ts⟩ hi rs.length (by omega)
        rcases hr : (roomM rs.length) ⟨i, xs, ts⟩ with ⟨_, s9⟩ | ⟨i9, e9⟩
        rotate_left
        · obtain rfl := (and_err hr).symm.trans hT
          first | refine ex_callM (CallsM.ren (hcon.err hr) [0, 1] 10 rfl rfl rfl rfl) ?_ | refine ex_callM (CallsM.more0 (CallsM.ren (hcon.err hr) [0, 1] 10 rfl rfl rfl rfl)) ?_ | refine ex_callM (CallsM.more1 (CallsM.ren (hcon.err hr) [0, 1] 10 rfl rfl rfl rfl)) ?_ | refine ex_callM (CallsM.moreL (CallsM.ren (hcon.err hr) [0, 1] 10 rfl rfl rfl rfl)) ?_
          first | exact ⟨⟨_, rfl, rfl⟩, rfl, rfl⟩ | exact ⟨by kernel_rfl, ⟨_, rfl, rfl⟩, rfl, rfl⟩
        replace hT := (and_ok hr).symm.trans hT
        first | refine ex_callM (CallsM.ren (hcon.ok hr) [0, 1] 10 rfl rfl rfl rfl) ?_ | refine ex_callM (CallsM.more0 (CallsM.ren (hcon.ok hr) [0, 1] 10 rfl rfl rfl rfl)) ?_ | refine ex_callM (CallsM.more1 (CallsM.ren (hcon.ok hr) [0, 1] 10 rfl rfl rfl rfl)) ?_ | refine ex_callM (CallsM.moreL (CallsM.ren (hcon.ok hr) [0, 1] 10 rfl rfl rfl rfl)) ?_
        clear hcon
        obtain rfl := mv_room1 hr
        repeat' (first | refine ex_true (by first | decide | omega | assumption | (with_reducible exact rfl)) ?_ | refine ex_false (by first | decide | omega | assumption | exact (fun h => h rfl)) ?_ | refine ex_dec (fun _ => ?_) (fun _ => ?_) | refine ex_u8 _ rfl (by omega) (by omega) ?_ | refine ex_i64 _ rfl (by omega) (by omega) ?_ | refine ex_u64 _ rfl (by omega) (by omega) ?_ | refine and_mk (by first | omega | (with_reducible rfl) | (show drawOk _ _ _ = true; kernel_rfl)) ?_ | refine and_mk ⟨_, rfl⟩ ?_ | refine ex_is _ (List.length_map _) ?_ | refine ex_is _ List.length_nil ?_ | fail "no step")
        have hcon := record_c (m := m) hL hn hm ⟨i, xs, ts⟩ hs
        rcases hx : recordM L ⟨i, xs, ts⟩ with ⟨r, ⟨i2, xs2, ts2⟩⟩ | ⟨i9, e9⟩
        · replace hT := (and_ok hx).symm.trans hT
          have hs2 := (Up.ok (up_record hL) hs hx).1
          have hgo : i < i2 := mo_record _ _ _ hx
          refine ex_callM (CallsM.moreW (CallsM.ren (hcon.ok hx) [0, 1, 6, 7, 8, 9] 10 rfl rfl rfl rfl)) ?_
          repeat' (first | refine ex_true (by first | decide | omega | assumption | (with_reducible exact rfl)) ?_ | refine ex_false (by first | decide | omega | assumption | exact (fun h => h rfl)) ?_ | refine ex_dec (fun _ => ?_) (fun _ => ?_) | refine ex_u8 _ rfl (by omega) (by omega) ?_ | refine ex_i64 _ rfl (by omega) (by omega) ?_ | refine ex_u64 _ rfl (by omega) (by omega) ?_ | refine and_mk (by first | omega | (with_reducible rfl) | (show drawOk _ _ _ = true; kernel_rfl)) ?_ | refine and_mk ⟨_, rfl⟩ ?_ | refine ex_is _ (List.length_map _) ?_ | refine ex_is _ List.length_nil ?_ | fail "no step")
          refine ex_app (rs.length) (1) 1000 (by first | rfl | (simp; done) | (simp; omega)) (by first | rfl | (simp; done) | (simp; omega)) rfl (by omega) ?_
          refine ex_is (List.map rcD (rs ++ [r])) (by rw [List.map_append]; rfl) ?_
          repeat' (first | refine ex_true (by first | decide | omega | assumption | (with_reducible exact rfl)) ?_ | refine ex_false (by first | decide | omega | assumption | exact (fun h => h rfl)) ?_ | refine ex_dec (fun _ => ?_) (fun _ => ?_) | refine ex_u8 _ rfl (by omega) (by omega) ?_ | refine ex_i64 _ rfl (by omega) (by omega) ?_ | refine ex_u64 _ rfl (by omega) (by omega) ?_ | refine and_mk (by first | omega | (with_reducible rfl) | (show drawOk _ _ _ = true; kernel_rfl)) ?_ | refine and_mk ⟨_, rfl⟩ ?_ | refine ex_is _ (List.length_map _) ?_ | refine ex_is _ List.length_nil ?_ | fail "no step")
          exact ex_round (i2, xs2, ts2, cs, rs ++ [r], n) ⟨hs2, by omega, by omega, by simp <;> omega, hT⟩ (by show L.length - i2 < L.length - i; omega) (SLe.ren [(0, 0), (1, 1), (2, 2), (3, 3), (4, 4), (5, 5), (6, 6), (13, 7), (10, 8), (11, 9)] ⟨⟨rfl, rfl⟩, trivial⟩ ⟨⟨rfl, rfl⟩, ⟨rfl, rfl⟩, ⟨rfl, rfl⟩, ⟨rfl, rfl⟩, ⟨rfl, rfl⟩, ⟨rfl, rfl⟩, ⟨rfl, rfl⟩, ⟨rfl, rfl⟩, ⟨rfl, rfl⟩, ⟨rfl, rfl⟩, trivial⟩ rfl)
        · obtain rfl := (and_err hx).symm.trans hT
          exact ex_pan ((true = true) ∧ panIs (.pan (flt L i9 e9)) (panE (flt L i9 e9)) ∧ (PR.uW L m (.err i9 e9)) = deadM [0, 1, 2, 3, 4, 5] ∧ ([] : List Blk) = []) (CallsM.moreW (CallsM.ren (hcon.err hx) [0, 1, 6, 7, 8, 9] 10 rfl rfl rfl rfl)) (by kernel_rfl) ⟨rfl, ⟨_, rfl, rfl⟩, rfl, rfl⟩
    · replace hT := aty hT hv
      first | refine ex_callM (CallsM.ren (hic) [0, 1] 10 rfl rfl rfl rfl) ?_ | refine ex_callM (CallsM.more0 (CallsM.ren (hic) [0, 1] 10 rfl rfl rfl rfl)) ?_ | refine ex_callM (CallsM.more1 (CallsM.ren (hic) [0, 1] 10 rfl rfl rfl rfl)) ?_ | refine ex_callM (CallsM.moreL (CallsM.ren (hic) [0, 1] 10 rfl rfl rfl rfl)) ?_
      repeat' (first | refine ex_is cs.length (by simp) ?_ | refine ex_true (by first | decide | omega | assumption | (with_reducible exact rfl)) ?_ | refine ex_false (by first | decide | omega | assumption | exact (fun h => h rfl)) ?_ | refine ex_dec (fun _ => ?_) (fun _ => ?_) | refine ex_u8 _ rfl (by omega) (by omega) ?_ | refine ex_i64 _ rfl (by omega) (by omega) ?_ | refine ex_u64 _ rfl (by omega) (by omega) ?_ | refine and_mk (by first | omega | (with_reducible rfl) | (show drawOk _ _ _ = true; kernel_rfl)) ?_ | refine and_mk ⟨_, rfl⟩ ?_ | refine ex_is _ (List.length_map _) ?_ | refine ex_is _ List.length_nil ?_ | fail "no step")
      have hcon := room_c (m := m) ⟨i, xs, ts⟩ hi cs.length (by omega)
      rcases hr : (roomM cs.length) ⟨i, xs, ts⟩ with ⟨_, s9⟩ | ⟨i9, e9⟩
      rotate_left
      · obtain rfl := (and_err hr).symm.trans hT
        first | refine ex_callM (CallsM.ren (hcon.err hr) [0, 1] 10 rfl rfl rfl rfl) ?_ | refine ex_callM (CallsM.more0 (CallsM.ren (hcon.err hr) [0, 1] 10 rfl rfl rfl rfl)) ?_ | refine ex_callM (CallsM.more1 (CallsM.ren (hcon.err hr) [0, 1] 10 rfl rfl rfl rfl)) ?_ | refine ex_callM (CallsM.moreL (CallsM.ren (hcon.err hr) [0, 1] 10 rfl rfl rfl rfl)) ?_
        first | exact ⟨⟨_, rfl, rfl⟩, rfl, rfl⟩ | exact ⟨by kernel_rfl, ⟨_, rfl, rfl⟩, rfl, rfl⟩
      replace hT := (and_ok hr).symm.trans hT
      first | refine ex_callM (CallsM.ren (hcon.ok hr) [0, 1] 10 rfl rfl rfl rfl) ?_ | refine ex_callM (CallsM.more0 (CallsM.ren (hcon.ok hr) [0, 1] 10 rfl rfl rfl rfl)) ?_ | refine ex_callM (CallsM.more1 (CallsM.ren (hcon.ok hr) [0, 1] 10 rfl rfl rfl rfl)) ?_ | refine ex_callM (CallsM.moreL (CallsM.ren (hcon.ok hr) [0, 1] 10 rfl rfl rfl rfl)) ?_
      clear hcon
      obtain rfl := mv_room1 hr
      repeat' (first | refine ex_true (by first | decide | omega | assumption | (with_reducible exact rfl)) ?_ | refine ex_false (by first | decide | omega | assumption | exact (fun h => h rfl)) ?_ | refine ex_dec (fun _ => ?_) (fun _ => ?_) | refine ex_u8 _ rfl (by omega) (by omega) ?_ | refine ex_i64 _ rfl (by omega) (by omega) ?_ | refine ex_u64 _ rfl (by omega) (by omega) ?_ | refine and_mk (by first | omega | (with_reducible rfl) | (show drawOk _ _ _ = true; kernel_rfl)) ?_ | refine and_mk ⟨_, rfl⟩ ?_ | refine ex_is _ (List.length_map _) ?_ | refine ex_is _ List.length_nil ?_ | fail "no step")
      have hcon := const_c (m := m) hL hn ⟨i, xs, ts⟩ hs
      rcases hx : constM L ⟨i, xs, ts⟩ with ⟨c, ⟨i2, xs2, ts2⟩⟩ | ⟨i9, e9⟩
      rotate_left
      · obtain rfl := (and_err hx).symm.trans hT
        exact ex_pan ((true = true) ∧ panIs (.pan (flt L i9 e9)) (panE (flt L i9 e9)) ∧ (PR.uW L m (.err i9 e9)) = deadM [0, 1, 2, 3, 4, 5] ∧ ([] : List Blk) = []) (CallsM.more0 (CallsM.ren (hcon.err hx) [0, 1] 10 rfl rfl rfl rfl)) (by kernel_rfl) ⟨rfl, ⟨_, rfl, rfl⟩, rfl, rfl⟩
      replace hT := (and_ok hx).symm.trans hT
      refine ex_callM (CallsM.more0 (CallsM.ren (hcon.ok hx) [0, 1] 10 rfl rfl rfl rfl)) ?_
      have hs2 := (Up.ok (up_const hL) hs hx).1
      obtain ⟨rfl, rfl⟩ := mv_const hx
      have hgo : i < i2 := mo_const _ _ _ hx
      repeat' (first | refine ex_true (by first | decide | omega | assumption | (with_reducible exact rfl)) ?_ | refine ex_false (by first | decide | omega | assumption | exact (fun h => h rfl)) ?_ | refine ex_dec (fun _ => ?_) (fun _ => ?_) | refine ex_u8 _ rfl (by omega) (by omega) ?_ | refine ex_i64 _ rfl (by omega) (by omega) ?_ | refine ex_u64 _ rfl (by omega) (by omega) ?_ | refine and_mk (by first | omega | (with_reducible rfl) | (show drawOk _ _ _ = true; kernel_rfl)) ?_ | refine and_mk ⟨_, rfl⟩ ?_ | refine ex_is _ (List.length_map _) ?_ | refine ex_is _ List.length_nil ?_ | fail "no step")
      refine ex_app (cs.length) (1) 1000 (by first | rfl | (simp; done) | (simp; omega)) (by first | rfl | (simp; done) | (simp; omega)) rfl (by omega) ?_
      refine ex_is (List.map coD (cs ++ [c])) (by rw [List.map_append]; rfl) ?_
      repeat' (first | refine ex_true (by first | decide | omega | assumption | (with_reducible exact rfl)) ?_ | refine ex_false (by first | decide | omega | assumption | exact (fun h => h rfl)) ?_ | refine ex_dec (fun _ => ?_) (fun _ => ?_) | refine ex_u8 _ rfl (by omega) (by omega) ?_ | refine ex_i64 _ rfl (by omega) (by omega) ?_ | refine ex_u64 _ rfl (by omega) (by omega) ?_ | refine and_mk (by first | omega | (with_reducible rfl) | (show drawOk _ _ _ = true; kernel_rfl)) ?_ | refine and_mk ⟨_, rfl⟩ ?_ | refine ex_is _ (List.length_map _) ?_ | refine ex_is _ List.length_nil ?_ | fail "no step")
      exact ex_round (i2, xs, ts, cs ++ [c], rs, n) ⟨hs2, by omega, by simp <;> omega, by omega, hT⟩ (by show L.length - i2 < L.length - i; omega) (SLe.ren [(0, 0), (1, 1), (2, 2), (3, 3), (4, 4), (5, 5), (11, 6), (7, 7), (8, 8), (9, 9)] ⟨⟨rfl, rfl⟩, trivial⟩ ⟨⟨rfl, rfl⟩, ⟨rfl, rfl⟩, ⟨rfl, rfl⟩, ⟨rfl, rfl⟩, ⟨rfl, rfl⟩, ⟨rfl, rfl⟩, ⟨rfl, rfl⟩, ⟨rfl, rfl⟩, ⟨rfl, rfl⟩, ⟨rfl, rfl⟩, trivial⟩ rfl)
end
end Go.Proofs.YtkbhmcdoedmffaaGreatDoor

namespace Go.Proofs.YtkbhmcdoedmffaaGreatDoor
set_option linter.unusedVariables false
set_option linter.unusedSimpArgs false
open Go.RowKit
set_option maxRecDepth 100000

/-! ### The tokens of a text -/
theorem lexN_len : ∀ (n : Nat) (r : List UInt8) (l c : Nat) (ts : List TokP), r.length < n → lexN n r l c = .ok ts → ts.length ≤ r.length + 1 := by
  intro n
  induction n with
  | zero => intro r l c ts h; omega
  | succ n ih =>
    intro r l c ts hlen h
    rw [lexN] at h
    rcases hs : stp r l c with _ | ⟨r', l', c'⟩ | ⟨k, t, v⟩ | e <;> rw [hs] at h <;> dsimp only at h
    · cases h; simp
    · have := stp_go hs
      have := ih r' l' c' ts (by omega) h
      omega
    · have ht := stp_tok hs
      obtain ⟨⟨X, rfl⟩, h2, h3, -⟩ := tokF_ok ht
      have h4 : 0 < t.length := List.length_pos_iff.2 h2
      rw [List.drop_left] at h
      rw [List.length_append] at hlen ⊢
      rcases hr : lexN n X l (c + t.length) with ts' | _
      · rw [hr] at h
        have h' : [⟨k, t, v, l, c⟩] ++ ts' = ts := by injection h
        have := ih X l (c + t.length) ts' (by omega) hr
        rw [← h']
        simp
        omega
      · rw [hr] at h; cases h
    · cases h
theorem lexV_ok {s : List UInt8} {L : List TokP} (h : lexV s = .ok L) : TokOk L ∧ L.length ≤ 100000 := by
  unfold lexV at h
  split at h
  · rename_i hs
    have hlen := lexN_len _ s 1 1 L (Nat.lt_succ_self _) h
    obtain ⟨us, l', c', rfl, _⟩ := lexF_good h
    refine ⟨⟨by simp, fun i hi => ?_⟩, by omega⟩
    simp only [List.length_append, List.length_cons, List.length_nil] at hi
    have : i = us.length := by omega
    unfold tk
    rw [this, List.getD_eq_getElem?_getD, List.getElem?_append_right (Nat.le_refl _)]
    simp
  · cases h
theorem stp_err {r : List UInt8} {l c e : Nat} (h : stp r l c = .err e) : tokF r = .err e := by
  unfold stp at h
  split at h
  · cases h
  · split at h
    · cases h
    · split at h
      · cases h
      · split at h
        · cases h
        · revert h
          unfold TR.stp
          split <;> intro h <;> cases h
          assumption
theorem lexN_err : ∀ (n : Nat) (r : List UInt8) (l c l' c' e : Nat), r.length < n → lexN n r l c = .err l' c' e → 4 ≤ e ∧ e ≤ 7 := by
  intro n
  induction n with
  | zero => intro r l c l' c' e h; omega
  | succ n ih =>
    intro r l c l' c' e hlen h
    rw [lexN] at h
    rcases hs : stp r l c with _ | ⟨r', l1, c1⟩ | ⟨k, t, v⟩ | e1 <;> rw [hs] at h <;> dsimp only at h
    · cases h
    · have := stp_go hs
      exact ih r' l1 c1 l' c' e (by omega) h
    · have ht := stp_tok hs
      obtain ⟨⟨X, rfl⟩, h2, h3, -⟩ := tokF_ok ht
      have h4 : 0 < t.length := List.length_pos_iff.2 h2
      rw [List.drop_left] at h
      rw [List.length_append] at hlen
      rcases hr : lexN n X l (c + t.length) with ts' | ⟨l2, c2, e2⟩
      · rw [hr] at h; cases h
      · rw [hr] at h
        cases h
        exact ih X l _ _ _ _ (by omega) hr
    · cases h
      exact tokF_err (stp_err hs)
theorem lexV_err {s : List UInt8} {l c e : Nat} (h : lexV s = .err l c e) : 4 ≤ e ∧ e ≤ 7 := by
  unfold lexV at h
  split at h
  · exact lexN_err _ s 1 1 l c e (Nat.lt_succ_self _) h
  · cases h; decide
/-- What Parse gives. -/
def fileD (cs : List CO) (rs : List RC) (xs : List EX) (ts : List TY) : List D := [.sl 2 (cs.map coD), .sl 3 (rs.map rcD), .sl 5 (xs.map exD), .sl 8 (ts.map tyD)]
abbrev dnp : D := .v (.pointer none)
def parT : FR → TV
  | .ok cs rs xs ts => .tup [.c (.eptr (fileD cs rs xs ts)), gD [di 0, di 0], c1 (di 0)]
  | .err l c e => .tup [c1 dnp, gD [di l, di c], c1 (di e)]
/-! ### The closure -/
theorem nil_eq (w : World) : (binOp BinOp.eql 20 .nilIface .nilIface).run Tryz.prog w = .ok (.bool true) w := by kernel_rfl
theorem iface_eq (t : TypeId) (v : Value) (w : World) : (binOp BinOp.eql 20 (.iface t v) .nilIface).run Tryz.prog w = .ok (.bool false) w := by rfl
theorem catch_idle (x y z : Value) (w : World) :
    CallsD Tryz.prog 23 #[x, y, z] .returning w fun e u' w' => e = .returned (.tuple #[]) ∧ u' = .returning ∧ w' = w := by
  refine callsD_of_wpS Tryz.func23 rfl fun c₀ cs hu => ?_
  apply wpS_seq
  apply wpS_region
  simp [wpOpsS, go_sem, recoverD, hu, Tryz.ntmps23, Exit.thenS]
  refine wpS_of_wp ?_
  refine wp_block ?_
  apply wp_seq
  apply wp_region
  simp [wpOps, go_sem, nil_eq, Exit.then]
  repeat apply Or.inl
  refine Go.wp_cond_true ?hc ?h
  · simp [Act.eval]
  apply wp_region
  simp [wpOps, go_sem, Exit.inBlock]
  repeat apply Or.inl
  cases c₀
  simp_all [bodyPostS, results, Tryz.results23, Exit.thenS]
theorem assert_ok (v : Value) (w : World) : (Instr.typeAssert (.iface 83 v) 20 83 true).run Tryz.prog w = .ok (.tuple #[v, .bool true]) w := by
  simp [Instr.typeAssert, run_underlying, Tryz.underlying83]
abbrev pv (l c e : Nat) (r : Bool) : List PanicEntry := [{ v := fltV l c e, recovered := r }]
def hitM (f0 d1 d2 e0 : D) : List (Nat × Blk) := [(0, .obj [.d f0] 22), (1, .obj [.d d1, .d d2]), (2, .obj [.d e0])]
theorem catch_hit (l c e : Nat) (f0 d1 d2 e0 : D) {ι : Nat → Value} {S : Nat → Prop} {w : World} (hS : ∀ b, S b → b < w.heap.size) (hG : ΓL.G S w) (hblk : ∀ p ∈ hitM f0 d1 d2 e0, BlkOk ι S w p.1 p.2)
    (hdst : ∀ p ∈ hitM f0 d1 d2 e0, ∀ q ∈ hitM f0 d1 d2 e0, ∀ g, p.2.live = true → q.2.live = true → blkOf (ι p.1) = some g → blkOf (ι q.1) = some g → p.1 = q.1) :
    CallsD Tryz.prog 23 #[ι 0, ι 1, ι 2] (.panicking (pv l c e false)) w fun e' u' w' => e' = .returned (.tuple #[]) ∧ u' = .panicking (pv l c e true) ∧ ∃ ι' S', After ι S w 3 ⟨.und, [0, 1, 2], hitM dnp (di l) (di c) (di e), []⟩ undef ι' S' w' := by
  have hp : ∀ k, k < 3 → ∃ b, ι k = .pointer (some ⟨b, 0, none⟩) := fun k hk => by
    match k, hk with
    | 0, _ => obtain ⟨b, arr, ty, h1, _⟩ := hblk _ (List.mem_cons_self ..); exact ⟨b, h1⟩
    | 1, _ => obtain ⟨b, arr, ty, h1, _⟩ := hblk _ (List.mem_cons_of_mem _ (List.mem_cons_self ..)); exact ⟨b, h1⟩
    | 2, _ => obtain ⟨b, arr, ty, h1, _⟩ := hblk _ (List.mem_cons_of_mem _ (List.mem_cons_of_mem _ (List.mem_cons_self ..))); exact ⟨b, h1⟩
  obtain ⟨b0, hb0⟩ := hp 0 (by omega)
  obtain ⟨b1, hb1⟩ := hp 1 (by omega)
  obtain ⟨b2, hb2⟩ := hp 2 (by omega)
  refine callsD_of_wpS Tryz.func23 rfl fun c₀ cs hu => ?_
  apply wpS_seq
  apply wpS_region
  simp [wpOpsS, go_sem, recoverD, hu, Tryz.ntmps23, Exit.thenS]
  refine wpS_of_wp ?_
  refine wp_block ?_
  apply wp_seq
  apply wp_region
  simp [wpOps, go_sem, iface_eq, Exit.then]
  apply Or.inl
  refine Go.wp_cond_false ?hc ?h
  · simp [Act.eval]
  apply wp_seq
  apply wp_region
  simp [wpOps, go_sem, assert_ok, Exit.then]
  iterate 3 apply Or.inl
  refine Go.wp_cond_true ?hc2 ?h2
  · simp [Act.eval]
  refine Code.wp_mono (fun e1 a1 w1 h => ?_) (code_after (C := ⟨Tryz.prog, layF, Tryz.f23.ntmps, ΓL, 3, [], []⟩) (tm := [(0, .o (.c (.ptr 0 0))), (1, .o (.c (.ptr 1 0))), (2, .o (.c (.ptr 2 0))), (11, .o (gD [di l, di c, di e]))]) (m := hitM f0 d1 d2 e0) (upd := hitM dnp (di l) (di c) (di e)) (new := []) layF_ok mixed rfl ?hvc hS hG hblk hdst ?htm (by simp [Tryz.ntmps23]) rfl)
  case hvc =>
    repeat' (first | refine ex_true (by first | decide | omega | assumption | (with_reducible exact rfl)) ?_ | refine ex_false (by first | decide | omega | assumption | exact (fun h => h rfl)) ?_ | refine ex_dec (fun _ => ?_) (fun _ => ?_) | refine ex_u8 _ rfl (by omega) (by omega) ?_ | refine ex_i64 _ rfl (by omega) (by omega) ?_ | refine ex_u64 _ rfl (by omega) (by omega) ?_ | refine and_mk (by first | omega | (with_reducible rfl) | (show drawOk _ _ _ = true; kernel_rfl)) ?_ | refine and_mk ⟨_, rfl⟩ ?_ | refine ex_is _ (List.length_map _) ?_ | refine ex_is _ List.length_nil ?_ | fail "no step")
    exact ⟨rfl, rfl, rfl⟩
  case htm =>
    intro t tv ht
    simp only [findL] at ht
    split at ht
    · rename_i h; subst h; cases ht
      exact ⟨b0, hb0, by simp [hb0]⟩
    · split at ht
      · rename_i h; subst h; cases ht
        exact ⟨b1, hb1, by simp [hb1]⟩
      · split at ht
        · rename_i h; subst h; cases ht
          exact ⟨b2, hb2, by simp [hb2]⟩
        · split at ht
          · rename_i h; subst h; cases ht
            exact ⟨[.int .i64 l, .int .i64 c, .int .i64 e], by simp, .cons (Imm.v rfl) (.cons (Imm.v rfl) (.cons (Imm.v rfl) .nil))⟩
          · cases ht
  obtain ⟨rfl, h1, ι', S', A⟩ := h
  simp only [Exit.inBlock, bodyPostS]
  exact ⟨h1, .panicking (pv l c e true), rfl, .tuple #[], by simp [results, Tryz.results23], rfl, rfl, ι', S', A⟩
end Go.Proofs.YtkbhmcdoedmffaaGreatDoor

namespace Go.Proofs.YtkbhmcdoedmffaaGreatDoor
set_option linter.unusedVariables false
set_option linter.unusedSimpArgs false
open Go.RowKit
set_option maxRecDepth 100000

def HitP (v : Value) (st : St) (upd : List (Nat × Blk)) : Prop := ∃ (l c e : Nat) (f0 d1 d2 e0 : D), v = fltV l c e ∧ upd = hitM dnp (di l) (di c) (di e) ∧
  findL st.mem 0 = some (.obj [.d f0] 22) ∧ findL st.mem 1 = some (.obj [.d d1, .d d2]) ∧ findL st.mem 2 = some (.obj [.d e0])
theorem hitP_ok (v : Value) (st : St) (upd : List (Nat × Blk)) (h : HitP v st upd) (ι : Nat → Value) (S : Nat → Prop) (w : World) (hS : ∀ b, S b → b < w.heap.size) (hG : ΓL.G S w) (hblk : ∀ k b, findL st.mem k = some b → BlkOk ι S w k b)
    (hdst : ∀ k k' b b' g, findL st.mem k = some b → findL st.mem k' = some b' → b.live = true → b'.live = true → blkOf (ι k) = some g → blkOf (ι k') = some g → k = k') :
    CallsD Tryz.prog 23 ([0, 1, 2].map ι).toArray (.panicking (panE v)) w fun e' u' w' => e' = .returned (.tuple #[]) ∧ u' = .panicking [{ v, recovered := true }] ∧ ∃ ι' S', After ι S w st.nx ⟨.und, [], upd, []⟩ undef ι' S' w' := by
  obtain ⟨l, c, e, f0, d1, d2, e0, rfl, rfl, h0, h1, h2⟩ := h
  have hf : ∀ p ∈ hitM f0 d1 d2 e0, findL st.mem p.1 = some p.2 := fun p hp => by
    simp only [hitM, List.mem_cons, List.not_mem_nil, or_false] at hp
    rcases hp with rfl | rfl | rfl
    · exact h0
    · exact h1
    · exact h2
  refine (catch_hit l c e f0 d1 d2 e0 hS hG (fun p hp => hblk _ _ (hf p hp)) (fun p hp q hq g => hdst _ _ _ _ g (hf p hp) (hf q hq))).mono ?_
  rintro e' u' w' ⟨he, hu, ι', S', A⟩
  refine ⟨he, hu, ι', S', ⟨A.val, fun k _ => A.keep k (by show k < 3 ∨ 3 + 0 ≤ k; omega), A.smono, A.sgrow, A.slt, A.os, A.tape, A.output, A.size, A.heap, A.updok, fun i b hb => by simp at hb, fun i b hb => by simp at hb, fun i j b b' g hb => by simp at hb⟩⟩
def fileS (s : List UInt8) : FR := fileV (lexV s)
theorem Parse_c (s : List UInt8) : CallsA Tryz.prog ΓL 8 [c1 (ds (bs s))] (parT (fileS s)) := by
  have hlx := lex_c s
  obtain ⟨R, hR⟩ : ∃ R, fileS s = R := ⟨_, rfl⟩
  rw [hR]
  refine fn_ruleE (C := ⟨Tryz.prog, layF, Tryz.f8.ntmps, ΓL, 0, [5], []⟩) (g := 23) (t9 := 17) (nx2 := 3) (caps := [2, 3, 4]) (capN := [0, 1, 2]) layF_ok mixed Tryz.func8 rfl (by kernel_rfl) rfl rfl rfl HitP ?hdef ?henter ?hidle rfl hitP_ok ?h
  case hdef =>
    intro a w Q hsz h
    have h9 : 17 < a.tmps.size := by rw [hsz]; decide
    apply wp_region
    simp [wpOps, go_sem, h9]
    refine .inl (.inl ?_)
    simpa [Oper.upon, Act.put] using h (.func (.func 23) #[] #[a.tmps[2]?.getD undef, a.tmps[3]?.getD undef, a.tmps[4]?.getD undef])
  case henter =>
    intro vs w
    kernel_rfl
  case hidle =>
    intro vs w hl
    match vs, hl with
    | [x, y, z], _ => exact catch_idle x y z w
  case h =>
    rcases hl : lexV s with L | ⟨l, c, e⟩
    · rw [hl] at hlx
      have hlx : CallsA Tryz.prog ΓL 20 [c1 (ds (bs s))] (.tup [c1 (.sl 5 (L.map tokD)), gD [di 0, di 0], c1 (di 0)]) := hlx
      obtain ⟨hL, hn⟩ := lexV_ok hl
      repeat' (first | refine ex_call hlx ?_ | refine ex_true (by first | decide | omega | assumption | (with_reducible exact rfl)) ?_ | refine ex_false (by first | decide | omega | assumption | exact (fun h => h rfl)) ?_ | refine ex_dec (fun _ => ?_) (fun _ => ?_) | refine ex_u8 _ rfl (by omega) (by omega) ?_ | refine ex_i64 _ rfl (by omega) (by omega) ?_ | refine ex_u64 _ rfl (by omega) (by omega) ?_ | refine and_mk (by first | omega | (with_reducible rfl) | (show drawOk _ _ _ = true; kernel_rfl)) ?_ | refine and_mk ⟨_, rfl⟩ ?_ | refine ex_is _ (List.length_map _) ?_ | refine ex_is _ List.length_nil ?_ | fail "no step")
      refine ⟨⟨rfl, rfl, rfl, trivial⟩, rfl, ?_⟩
      refine ex_join (X := Unit) (fun _ => ⟨[(2, .o (.c (.ptr 0 0))), (3, .o (.c (.ptr 1 0))), (4, .o (.c (.ptr 2 0))), (6, .o (.c (.ptr 4 0)))], [(0, .obj [.d dnp] 22), (1, .obj [.d (di 0), .d (di 0)]), (2, .obj [.d (di 0)]), (4, .obj [.d (.sl 5 (L.map tokD)), .d (di ((0 : Nat) : Int)), .d (di (32 - ((32 : Nat) : Int))), .ptr 3 0]), (3, Fz 5 6 7 8), (5, Cz []), (6, Uz []), (7, Xz []), (8, Tz [])], 9⟩) (fun _ => True) ?_ ?_
      · repeat' (first | refine ex_true (by first | decide | omega | assumption | (with_reducible exact rfl)) ?_ | refine ex_false (by first | decide | omega | assumption | exact (fun h => h rfl)) ?_ | refine ex_dec (fun _ => ?_) (fun _ => ?_) | refine ex_u8 _ rfl (by omega) (by omega) ?_ | refine ex_i64 _ rfl (by omega) (by omega) ?_ | refine ex_u64 _ rfl (by omega) (by omega) ?_ | refine and_mk (by first | omega | (with_reducible rfl) | (show drawOk _ _ _ = true; kernel_rfl)) ?_ | refine and_mk ⟨_, rfl⟩ ?_ | refine ex_is _ (List.length_map _) ?_ | refine ex_is _ List.length_nil ?_ | fail "no step")
        exact ex_meet () trivial (SLe.via (SLe.ownCell 3 0 5 2 107 rfl rfl rfl rfl rfl rfl) (SLe.via (SLe.ownCell 3 1 6 3 69 rfl rfl rfl rfl rfl rfl) (SLe.via (SLe.ownCell 3 2 7 5 59 rfl rfl rfl rfl rfl rfl) (SLe.via (SLe.ownCell 3 3 8 8 63 rfl rfl rfl rfl rfl rfl) (SLe.of ⟨⟨rfl, rfl, rfl, rfl, trivial⟩, ⟨rfl, rfl, rfl, rfl, rfl, rfl, rfl, rfl, rfl, trivial⟩⟩)))))
      · intro _ _
        have hlen := hL.1
        have hw := whole_c (m := 32) hL hn rfl 0 (L.length + 1) [] [] [] [] ⟨hlen, by simp, by simp⟩ (by omega) (by simp) (by simp) _ rfl
        rcases hT : wholeN L (L.length + 1) [] [] ⟨0, [], []⟩ with ⟨⟨cs, rs⟩, s1⟩ | ⟨i, e⟩
        · obtain rfl : FR.ok cs rs s1.xs s1.ts = R := by rw [← hR]; unfold fileS fileV; rw [hl]; dsimp only; rw [hT]
          rw [hT] at hw
          have hw : CallsM Tryz.prog ΓL 24 [(0, Qz L 32 0), (1, Fz 2 3 4 5), (2, Cz []), (3, Uz []), (4, Xz []), (5, Tz [])] 6 [P0] (.tup []) [(0, Qz L 32 s1.i), (1, Fz 6 7 8 9), (2, .dead), (3, .dead), (4, .dead), (5, .dead)] [Cz cs, Uz rs, Xz s1.xs, Tz s1.ts] := hw
          repeat' (first | refine ex_true (by first | decide | omega | assumption | (with_reducible exact rfl)) ?_ | refine ex_false (by first | decide | omega | assumption | exact (fun h => h rfl)) ?_ | refine ex_dec (fun _ => ?_) (fun _ => ?_) | refine ex_u8 _ rfl (by omega) (by omega) ?_ | refine ex_i64 _ rfl (by omega) (by omega) ?_ | refine ex_u64 _ rfl (by omega) (by omega) ?_ | refine and_mk (by first | omega | (with_reducible rfl) | (show drawOk _ _ _ = true; kernel_rfl)) ?_ | refine and_mk ⟨_, rfl⟩ ?_ | refine ex_is _ (List.length_map _) ?_ | refine ex_is _ List.length_nil ?_ | fail "no step")
          refine ex_callM (CallsM.ren hw [4, 3, 5, 6, 7, 8] 9 rfl rfl rfl rfl) ?_
          repeat' (first | refine ex_true (by first | decide | omega | assumption | (with_reducible exact rfl)) ?_ | refine ex_false (by first | decide | omega | assumption | exact (fun h => h rfl)) ?_ | refine ex_dec (fun _ => ?_) (fun _ => ?_) | refine ex_u8 _ rfl (by omega) (by omega) ?_ | refine ex_i64 _ rfl (by omega) (by omega) ?_ | refine ex_u64 _ rfl (by omega) (by omega) ?_ | refine and_mk (by first | omega | (with_reducible rfl) | (show drawOk _ _ _ = true; kernel_rfl)) ?_ | refine and_mk ⟨_, rfl⟩ ?_ | refine ex_is _ (List.length_map _) ?_ | refine ex_is _ List.length_nil ?_ | fail "no step")
          exact ⟨_, SLe.via (show SLe 3 ⟨[(2, .o (.c (.ptr 0 0))), (3, .o (.c (.ptr 1 0))), (4, .o (.c (.ptr 2 0)))], [(0, .obj [.ptr 3 0] 22), (1, .obj [.d (di 0), .d (di 0)]), (2, .obj [.d (di 0)]), (3, Fz 9 10 11 12), (9, Cz cs), (10, Uz rs), (11, Xz s1.xs), (12, Tz s1.ts)], 13⟩ _ from (SLe.of ⟨⟨rfl, rfl, rfl, trivial⟩, ⟨rfl, rfl, rfl, rfl, rfl, rfl, rfl, rfl, trivial⟩⟩))
            (SLe.via (SLe.still 9 2 107 (cs.map coD) rfl) (SLe.via (SLe.still 10 3 69 (rs.map rcD) rfl) (SLe.via (SLe.still 11 5 59 (s1.xs.map exD) rfl) (SLe.via (SLe.still 12 8 63 (s1.ts.map tyD) rfl)
              (SLe.via (sle_fixO 0 0 3 (dl := fileD cs rs s1.xs s1.ts) rfl rfl rfl rfl) (show SLe 3 ⟨[(2, .o (.c (.ptr 0 0))), (3, .o (.c (.ptr 1 0))), (4, .o (.c (.ptr 2 0)))], [(0, .obj [.eptr (fileD cs rs s1.xs s1.ts)] 22), (1, .obj [.d (di 0), .d (di 0)]), (2, .obj [.d (di 0)])], 13⟩ _ from (SLe.of ⟨⟨rfl, rfl, rfl, trivial⟩, ⟨rfl, rfl, rfl, trivial⟩⟩))))))), TLe.rfl, rfl⟩
        · obtain rfl : FR.err (tk L i).l (tk L i).c e = R := by rw [← hR]; unfold fileS fileV; rw [hl]; dsimp only; rw [hT]
          rw [hT] at hw
          have hw : CallsM Tryz.prog ΓL 24 [(0, Qz L 32 0), (1, Fz 2 3 4 5), (2, Cz []), (3, Uz []), (4, Xz []), (5, Tz [])] 6 [P0] (.pan (flt L i e)) [(0, .dead), (1, .dead), (2, .dead), (3, .dead), (4, .dead), (5, .dead)] [] := hw
          repeat' (first | refine ex_true (by first | decide | omega | assumption | (with_reducible exact rfl)) ?_ | refine ex_false (by first | decide | omega | assumption | exact (fun h => h rfl)) ?_ | refine ex_dec (fun _ => ?_) (fun _ => ?_) | refine ex_u8 _ rfl (by omega) (by omega) ?_ | refine ex_i64 _ rfl (by omega) (by omega) ?_ | refine ex_u64 _ rfl (by omega) (by omega) ?_ | refine and_mk (by first | omega | (with_reducible rfl) | (show drawOk _ _ _ = true; kernel_rfl)) ?_ | refine and_mk ⟨_, rfl⟩ ?_ | refine ex_is _ (List.length_map _) ?_ | refine ex_is _ List.length_nil ?_ | fail "no step")
          refine ex_callM (CallsM.ren hw [4, 3, 5, 6, 7, 8] 9 rfl rfl rfl rfl) ?_
          exact ⟨flt L i e, _, rfl, ⟨(tk L i).l, (tk L i).c, e, _, _, _, _, rfl, rfl, rfl, rfl, rfl⟩, rfl, rfl, _, fun _ _ _ _ h => h, TLe.rfl, rfl⟩
    · rw [hl] at hlx
      have he := lexV_err hl
      have hlx : CallsA Tryz.prog ΓL 20 [c1 (ds (bs s))] (.tup [c1 (.sl 5 []), gD [di l, di c], c1 (di e)]) := hlx
      obtain rfl : FR.err l c e = R := by rw [← hR]; unfold fileS; rw [hl]; rfl
      repeat' (first | refine ex_call hlx ?_ | refine ex_true (by first | decide | omega | assumption | (with_reducible exact rfl)) ?_ | refine ex_false (by first | decide | omega | assumption | exact (fun h => h rfl)) ?_ | refine ex_dec (fun _ => ?_) (fun _ => ?_) | refine ex_u8 _ rfl (by omega) (by omega) ?_ | refine ex_i64 _ rfl (by omega) (by omega) ?_ | refine ex_u64 _ rfl (by omega) (by omega) ?_ | refine and_mk (by first | omega | (with_reducible rfl) | (show drawOk _ _ _ = true; kernel_rfl)) ?_ | refine and_mk ⟨_, rfl⟩ ?_ | refine ex_is _ (List.length_map _) ?_ | refine ex_is _ List.length_nil ?_ | fail "no step")
      exact ⟨_, fun _ _ _ _ h => h, TLe.rfl, rfl⟩
end Go.Proofs.YtkbhmcdoedmffaaGreatDoor

namespace Go.Proofs.YtkbhmcdoedmffaaGreatDoor
set_option linter.unusedVariables false
set_option linter.unusedSimpArgs false
set_option maxRecDepth 100000
def opsL7 : List (List UInt8) := levelsL.map (·.1)
def xsL (a b : List UInt8) : List EX := if levelV a < levelV b then [⟨1, [], 0, [120], []⟩, ⟨1, [], 0, [121], []⟩, ⟨1, [], 0, [122], []⟩, ⟨3, b, 0, [], [1, 2]⟩, ⟨3, a, 0, [], [0, 3]⟩] else [⟨1, [], 0, [120], []⟩, ⟨1, [], 0, [121], []⟩, ⟨3, a, 0, [], [0, 1]⟩, ⟨1, [], 0, [122], []⟩, ⟨3, b, 0, [], [2, 3]⟩]
deriving instance DecidableEq for EX, CA, TY, SB, IT, RC, CO, FR
end Go.Proofs.YtkbhmcdoedmffaaGreatDoor

namespace Go.Proofs.YtkbhmcdoedmffaaGreatDoor
set_option linter.unusedVariables false
set_option linter.unusedSimpArgs false
open Go.RowKit
set_option maxRecDepth 100000

def wakeT : List UInt8 := [115, 116, 114, 117, 99, 116, 32, 83, 32, 123, 32, 110, 58, 32, 117, 56, 59, 32, 98, 58, 32, 98, 121, 116, 101, 115, 91, 110, 32, 43, 32, 49, 93, 59, 32, 125]
def wakeX : List EX := [⟨1, [], 0, [110], []⟩, ⟨0, [], 1, [], []⟩, ⟨3, [43], 0, [], [0, 1]⟩]
def wakeY : List TY := [⟨0, 1, false, [], [], -1, -1, []⟩, ⟨1, 0, false, [], [], 2, -1, []⟩]
def wakeR : List RC := [⟨[83], [], [⟨[110], 0, 0, [], [], -1, 0, false, []⟩, ⟨[98], 1, 0, [], [], -1, 0, false, []⟩]⟩]
theorem wake_file : fileS wakeT = .ok [] wakeR wakeX wakeY := by decide +kernel
/-- A pointer that isn't nil beside nil. -/
theorem ex_pn {g : Prop} {Q K : Bool → Prop} (hg : g) (c : Bool) (he : Q c) (h : K c) : g ∧ ∃ c, Q c ∧ K c := ⟨hg, c, he, h⟩
theorem wakes_c : CallsA Tryz.prog ΓL 10 [] (Tb true) := by
  have hp : CallsA Tryz.prog ΓL 8 [c1 (ds (bs wakeT))] (.tup [.c (.eptr (fileD [] wakeR wakeX wakeY)), gD [di 0, di 0], c1 (di 0)]) := by
    have := Parse_c wakeT
    rw [wake_file] at this
    exact this
  have hl := (level_c [43]).gL
  rw [show levelV [43] = 7 by decide +kernel] at hl
  have hk := (key_c [117, 56]).gL
  rw [show keyV [117, 56] = true by decide +kernel] at hk
  refine fn_rule (C := ⟨Tryz.prog, layF, Tryz.f10.ntmps, ΓL, 0, [], []⟩) layF_ok mixed Tryz.func10 rfl (by kernel_rfl) rfl rfl rfl ?_
  repeat' (first | refine ex_call hk ?_ | refine ex_call hl ?_ | refine ex_call hp ?_ | refine (ex_row (l := wakeR) 0 ⟨[83], [], [⟨[110], 0, 0, [], [], -1, 0, false, []⟩, ⟨[98], 1, 0, [], [], -1, 0, false, []⟩]⟩ rfl rfl) ?_ | refine (ex_row (l := wakeY) 1 ⟨1, 0, false, [], [], 2, -1, []⟩ rfl rfl) ?_ | refine (ex_row (l := wakeX) 2 ⟨3, [43], 0, [], [0, 1]⟩ rfl rfl) ?_ | refine (ex_pn (by kernel_rfl) false (fun _ _ => by kernel_rfl)) ?_ | refine ex_true (by first | decide | omega | assumption | (with_reducible exact rfl)) ?_ | refine ex_false (by first | decide | omega | assumption | exact (fun h => h rfl)) ?_ | refine ex_dec (fun _ => ?_) (fun _ => ?_) | refine ex_u8 _ rfl (by omega) (by omega) ?_ | refine ex_i64 _ rfl (by omega) (by omega) ?_ | refine ex_u64 _ rfl (by omega) (by omega) ?_ | refine and_mk (by first | omega | (with_reducible rfl) | (show drawOk _ _ _ = true; kernel_rfl)) ?_ | refine and_mk ⟨_, rfl⟩ ?_ | refine ex_is _ (List.length_map _) ?_ | refine ex_is _ List.length_nil ?_ | fail "no step")
  exact TLe.rfl
end Go.Proofs.YtkbhmcdoedmffaaGreatDoor

namespace Go.Proofs.YtkbhmcdoedmffaaGreatDoor
set_option linter.unusedVariables false
set_option linter.unusedSimpArgs false
open Go.RowKit
set_option maxRecDepth 100000

set_option maxRecDepth 100000

abbrev dstrs (l : List ByteArray) : D := .sl 1 (l.map fun s => [ds s])
theorem join_c (Γ : Glob) (l : List ByteArray) (sep : ByteArray) (h : (Lib.join (l.map (·.data.toList)) sep.data.toList).length ≤ 140737488355328) (hl : l.length ≤ 140737488355328) :
    CallsA Tryz.prog Γ 40 [c1 (dstrs l), c1 (ds sep)] (.o (c1 (ds ⟨(Lib.join (l.map (·.data.toList)) sep.data.toList).toArray⟩))) :=
  ⟨⟨_, Tryz.func40, by kernel_rfl, rfl⟩, fun S w vs hS hG hvs => by
    obtain ⟨u, v, rfl, e1, e2⟩ := two_args hvs
    obtain rfl := open_v e2
    have e1 : Imm S w (dstrs l) u := e1
    obtain ⟨rows, hr⟩ : ∃ rows, l.map (fun s => [ds s]) = rows := ⟨_, rfl⟩
    have hl2 : rows.length = l.length := by rw [← hr, List.length_map]
    rw [show dstrs l = .sl 1 rows by rw [← hr]] at e1
    have hnil : rows = [] → l = [] := fun e => by rw [e] at hl2; exact List.eq_nil_of_length_eq_zero hl2.symm
    have fin : ∀ (a : Option Addr) (c : Nat), l = [] → Calls Tryz.prog 40 #[.slice a 0 c, .string sep] w fun e w' => ∃ v S', e = .returned v ∧ Below w.heap.size w w' ∧ (∀ b, S b → S' b) ∧ (∀ b, S' b → S b ∨ w.heap.size ≤ b) ∧ (∀ b, S' b → b < w'.heap.size) ∧ V ι0 S' w' (.o (c1 (ds ⟨(Lib.join (l.map (·.data.toList)) sep.data.toList).toArray⟩))) v := fun a c h0 => by
      rw [h0]
      refine (Tryz.strings_Join_none a c sep w).mono fun e w' ⟨he, hb⟩ => ?_
      subst he; subst hb
      exact flat_end hS (Below.refl _ _) (Imm.v rfl)
    cases e1 with
    | nil => exact fin _ _ (hnil rfl)
    | sl0 => exact fin _ _ (hnil rfl)
    | sl us hs hc hrr hc1 hc2 =>
      rename_i g f cap
      rw [hl2]
      refine (Tryz.strings_Join g f cap l sep w (fun j x hj => ?_) (hS _ hs) hl (by omega) h).mono fun e w' ⟨he, hb⟩ => ?_
      · have hrow : rows.flatten[j]? = some (ds x) := by
          have := flatten_get (i := j) (j := 0) (r := [ds x]) (d := ds x) hrr (by rw [← hr, List.getElem?_map, hj]; rfl) rfl
          simpa using this
        have h1 := hc1 j _ hrow
        have h2 := hc2 j _ hrow
        rw [h1]
        generalize us j = u at *
        cases h2
        rfl
      · subst he
        exact flat_end hS hb (Imm.v rfl)⟩
theorem repeat_c (Γ : Glob) (s : ByteArray) (c : Nat) (hc : c ≤ 9223372036854775807) (h : s.size * c ≤ 140737488355328) :
    CallsA Tryz.prog Γ 22 [c1 (ds s), c1 (di c)] (.o (c1 (ds ⟨(Lib.repeatL s.data.toList c).toArray⟩))) :=
  ⟨⟨_, Tryz.func22, by kernel_rfl, rfl⟩, fun S w vs hS hG hvs => by
    obtain ⟨u, v, rfl, e1, e2⟩ := two_args hvs
    obtain rfl := open_v e1
    obtain rfl := open_v e2
    refine (Tryz.strings_Repeat s c w hc h).mono fun e w' ⟨he, hb⟩ => ?_
    subst he
    exact flat_end hS hb (Imm.v rfl)⟩
def real (u : TokP) : Bool := u.k != 3
theorem join_tail (us : List TokP) : Lib.join (us.map (·.t)) [32] = joinF us := by
  rcases us with _ | ⟨u, us⟩
  · rfl
  · rw [List.map_cons, Lib.join_cons]
    show u.t ++ Lib.joinTail [32] (us.map (·.t)) = u.t ++ tailJ us
    unfold Lib.joinTail tailJ
    rw [List.map_map, List.flatMap_def]
    rfl
theorem Join_c (ts : List TokP) (hl : ts.length ≤ 1000000) (hj : (joinF (ts.filter real)).length ≤ 1000000000) : CallsA Tryz.prog Γ0 21 [c1 (.sl 5 (ts.map tokD))] (Tstr (bs (joinF (ts.filter real)))) := by
  refine fn_rule (C := ⟨Tryz.prog, layF, Tryz.f21.ntmps, Γ0, 0, [], []⟩) layF_ok mixed Tryz.func21 rfl (by kernel_rfl) rfl rfl rfl ?_
  refine ex_is ts.length (by simp) ?_
  refine ex_loop (X := Nat × List ByteArray) (fun ⟨q, m⟩ => ⟨[(6, .o (c1 (.sl 5 (ts.map tokD)))), (3, .o (.c (.row 0))), (7, Ti ts.length), (8, Ti q)], [(0, .row 1 9 (m.map fun s => [ds s]))], 1⟩) (fun x => ts.length - x.1)
    (fun ⟨q, m⟩ => q ≤ ts.length ∧ m.length ≤ q ∧ m = ((ts.take q).filter real).map fun u => bs u.t) (0, []) ⟨Nat.zero_le _, Nat.le_refl _, rfl⟩ (SLe.trans (SLe.of ⟨⟨rfl, rfl, rfl, rfl, trivial⟩, ⟨rfl, trivial⟩⟩) (SLe.own 3 0 1 9 rfl rfl rfl rfl rfl)) ?_
  rintro ⟨q, m⟩ ⟨hq, hml, hm⟩
  refine ex_dec (fun h => ?_) (fun h => ?_)
  · have hql : q < ts.length := by omega
    have hc : ts[q]? = some ts[q] := at_some hql
    have htk : (ts.take (q + 1)).filter real = (ts.take q).filter real ++ [ts[q]].filter real := by rw [List.take_add_one, hc, List.filter_append]; rfl
    generalize ts[q] = u at *
    refine ex_row q u rfl hc ?_
    rcases hr : real u with _ | _
    · have hk : u.k = 3 := by simpa [real] using hr
      repeat' (first | refine ex_i64 ((q + 1 : Nat) : Int) (by omega) (by omega) (by omega) ?_ | refine ex_u64 ((q + 1 : Nat) : Int) (by omega) (by omega) (by omega) ?_ | refine ex_u8 ((q + 1 : Nat) : Int) (by omega) (by omega) (by omega) ?_ | refine ex_true (by first | decide | omega | assumption | (with_reducible exact rfl)) ?_ | refine ex_false (by first | decide | omega | assumption | exact (fun h => h rfl)) ?_ | refine ex_dec (fun _ => ?_) (fun _ => ?_) | refine ex_u8 _ rfl (by omega) (by omega) ?_ | refine ex_i64 _ rfl (by omega) (by omega) ?_ | refine ex_u64 _ rfl (by omega) (by omega) ?_ | refine and_mk (by first | omega | (with_reducible rfl) | (show drawOk _ _ _ = true; kernel_rfl)) ?_ | refine and_mk ⟨_, rfl⟩ ?_ | refine ex_is _ (List.length_map _) ?_ | refine ex_is _ List.length_nil ?_ | fail "no step")
      exact ex_round (q + 1, m) ⟨by omega, by omega, by rw [htk, List.filter_cons, hr, hm]; simp⟩ (by show _ - _ < _ - _; omega) (SLe.of ⟨⟨rfl, rfl, rfl, rfl, trivial⟩, ⟨rfl, trivial⟩⟩)
    · have hk : u.k ≠ 3 := by simpa [real] using hr
      repeat' (first | refine ex_true (by first | decide | omega | assumption | (with_reducible exact rfl)) ?_ | refine ex_false (by first | decide | omega | assumption | exact (fun h => h rfl)) ?_ | refine ex_dec (fun _ => ?_) (fun _ => ?_) | refine ex_u8 _ rfl (by omega) (by omega) ?_ | refine ex_i64 _ rfl (by omega) (by omega) ?_ | refine ex_u64 _ rfl (by omega) (by omega) ?_ | refine and_mk (by first | omega | (with_reducible rfl) | (show drawOk _ _ _ = true; kernel_rfl)) ?_ | refine and_mk ⟨_, rfl⟩ ?_ | refine ex_is _ (List.length_map _) ?_ | refine ex_is _ List.length_nil ?_ | fail "no step")
      refine ex_app (m.length) (1) 1000 (by first | rfl | (simp; done) | (simp; omega)) (by first | rfl | (simp; done) | (simp; omega)) rfl (by omega) ?_
      refine ex_is ((m ++ [bs u.t]).map (fun s => [ds s])) (by rw [List.map_append]; rfl) ?_
      repeat' (first | refine ex_i64 ((q + 1 : Nat) : Int) (by omega) (by omega) (by omega) ?_ | refine ex_u64 ((q + 1 : Nat) : Int) (by omega) (by omega) (by omega) ?_ | refine ex_u8 ((q + 1 : Nat) : Int) (by omega) (by omega) (by omega) ?_ | refine ex_true (by first | decide | omega | assumption | (with_reducible exact rfl)) ?_ | refine ex_false (by first | decide | omega | assumption | exact (fun h => h rfl)) ?_ | refine ex_dec (fun _ => ?_) (fun _ => ?_) | refine ex_u8 _ rfl (by omega) (by omega) ?_ | refine ex_i64 _ rfl (by omega) (by omega) ?_ | refine ex_u64 _ rfl (by omega) (by omega) ?_ | refine and_mk (by first | omega | (with_reducible rfl) | (show drawOk _ _ _ = true; kernel_rfl)) ?_ | refine and_mk ⟨_, rfl⟩ ?_ | refine ex_is _ (List.length_map _) ?_ | refine ex_is _ List.length_nil ?_ | fail "no step")
      exact ex_round (q + 1, m ++ [bs u.t]) ⟨by omega, by show (m ++ [_]).length ≤ _; rw [List.length_append, List.length_cons, List.length_nil]; omega, by rw [htk, List.filter_cons, hr, hm]; simp⟩ (by show _ - _ < _ - _; omega) (SLe.ren [(3, 0)] ⟨⟨rfl, rfl⟩, ⟨rfl, rfl⟩, ⟨rfl, rfl⟩, ⟨rfl, rfl⟩, trivial⟩ ⟨⟨rfl, rfl⟩, trivial⟩ rfl)
  · have hq' : q = ts.length := by omega
    subst hq'
    rw [List.take_length] at hm
    have he : Lib.join (m.map (·.data.toList)) [32] = joinF (ts.filter real) := by
      rw [← join_tail, hm, List.map_map]
      rfl
    have hjc := join_c Γ0 m (bs [32]) (by rw [show (bs [32]).data.toList = [32] from rfl, he]; omega) (by omega)
    rw [show (bs [32]).data.toList = [32] from rfl, he] at hjc
    repeat' (first | refine ex_call hjc ?_ | refine ex_true (by first | decide | omega | assumption | (with_reducible exact rfl)) ?_ | refine ex_false (by first | decide | omega | assumption | exact (fun h => h rfl)) ?_ | refine ex_dec (fun _ => ?_) (fun _ => ?_) | refine ex_u8 _ rfl (by omega) (by omega) ?_ | refine ex_i64 _ rfl (by omega) (by omega) ?_ | refine ex_u64 _ rfl (by omega) (by omega) ?_ | refine and_mk (by first | omega | (with_reducible rfl) | (show drawOk _ _ _ = true; kernel_rfl)) ?_ | refine and_mk ⟨_, rfl⟩ ?_ | refine ex_is _ (List.length_map _) ?_ | refine ex_is _ List.length_nil ?_ | fail "no step")
    exact TLe.rfl
end Go.Proofs.YtkbhmcdoedmffaaGreatDoor
