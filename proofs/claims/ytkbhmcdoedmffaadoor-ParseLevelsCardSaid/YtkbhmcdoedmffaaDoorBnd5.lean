/- Texts that the last one leans on: The parser's switches. Conditions: the tokens end with the end; at most 100000 of them. The parser's types. Conditions: the tokens end with the end; at most 100000 of them. The parser's types that begin with a word. Conditions: the tokens end with the end; at most 100000 of them. The parser's items: how a field is derived; fields. Conditions: the tokens end with the end; at most 100000 of them. The parser's fields and packs; consts. Conditions: the tokens end with the end; at most 100000 of them. Plain law of the parser: the place never goes back; a field and a pack read at least one token. No condition. The parser's packs. Conditions: the tokens end with the end; at most 100000 of them. -/
import Derived.Test.YtkbhmcdoedmffaaDoorBnd1
import Derived.Test.YtkbhmcdoedmffaaDoorBnd2
import Derived.Test.YtkbhmcdoedmffaaDoorBnd3
import Derived.Test.YtkbhmcdoedmffaaDoorBnd4
namespace Go.Proofs.YtkbhmcdoedmffaaDoor
set_option linter.unusedVariables false
set_option linter.unusedSimpArgs false
open Go.RowKit
set_option maxRecDepth 100000

section
variable {L : List TokP} {m : Nat}
theorem SLe.via {nx0 : Nat} {s t u : St} (h' : SLe nx0 t u) (h : SLe nx0 s t) : SLe nx0 s u := h.trans h'
theorem takeY {t : List UInt8} {i : Nat} {xs : List EX} {ts : List TY} (h : isV L i t = true) : takeM L t ⟨i, xs, ts⟩ = .ok () ⟨i + 1, xs, ts⟩ := if_pos h
/-- One step deeper a type is read. -/
theorem deeper2_c {x : PM Int} {h : FuncId} (s : PS) (hi : s.i < L.length) (hm : m ≤ 32) (hc : ∀ m', m = m' + 1 → C2 L m' h [] x (fun k => Ti k) s) (b : Bool) :
    C2 L m 75 [c1 (db b), .f h 1 [.ptr 0 0]] (enterM m b >>= fun _ => x) (fun k => Ti k) s := by
  refine C2.of fun T hT => ?_
  cases b
  · obtain rfl : PR.err s.i 4 = T := hT
    refine fn_ruleP (C := ⟨Tryd.prog, layF, Tryd.f75.ntmps, ΓL, 6, [], []⟩) layF_ok mixed Tryd.func75 rfl (by kernel_rfl) rfl rfl rfl SLe.rfl ?_
    repeat' (first | refine ex_true (by first | decide | omega | assumption | (with_reducible exact rfl)) ?_ | refine ex_false (by first | decide | omega | assumption | exact (fun h => h rfl)) ?_ | refine ex_dec (fun _ => ?_) (fun _ => ?_) | refine ex_u8 _ rfl (by omega) (by omega) ?_ | refine ex_i64 _ rfl (by omega) (by omega) ?_ | refine ex_u64 _ rfl (by omega) (by omega) ?_ | refine and_mk (by first | omega | (with_reducible rfl) | (show drawOk _ _ _ = true; kernel_rfl)) ?_ | refine and_mk ⟨_, rfl⟩ ?_ | refine ex_is _ (List.length_map _) ?_ | refine ex_is _ List.length_nil ?_ | fail "no step")
    first | refine ex_callM (CallsM.ren ((fail_c s.i 4 hi)) [0, 1] 6 rfl rfl rfl rfl) ?_ | refine ex_callM (CallsM.more0 (CallsM.ren ((fail_c s.i 4 hi)) [0, 1] 6 rfl rfl rfl rfl)) ?_ | refine ex_callM (CallsM.more1 (CallsM.ren ((fail_c s.i 4 hi)) [0, 1] 6 rfl rfl rfl rfl)) ?_ | refine ex_callM (CallsM.moreL (CallsM.ren ((fail_c s.i 4 hi)) [0, 1] 6 rfl rfl rfl rfl)) ?_
    exact ⟨⟨_, rfl, rfl⟩, rfl, rfl⟩
  · cases m with
    | zero =>
      obtain rfl : PR.err s.i 8 = T := hT
      refine fn_ruleP (C := ⟨Tryd.prog, layF, Tryd.f75.ntmps, ΓL, 6, [], []⟩) layF_ok mixed Tryd.func75 rfl (by kernel_rfl) rfl rfl rfl SLe.rfl ?_
      repeat' (first | refine ex_true (by first | decide | omega | assumption | (with_reducible exact rfl)) ?_ | refine ex_false (by first | decide | omega | assumption | exact (fun h => h rfl)) ?_ | refine ex_dec (fun _ => ?_) (fun _ => ?_) | refine ex_u8 _ rfl (by omega) (by omega) ?_ | refine ex_i64 _ rfl (by omega) (by omega) ?_ | refine ex_u64 _ rfl (by omega) (by omega) ?_ | refine and_mk (by first | omega | (with_reducible rfl) | (show drawOk _ _ _ = true; kernel_rfl)) ?_ | refine and_mk ⟨_, rfl⟩ ?_ | refine ex_is _ (List.length_map _) ?_ | refine ex_is _ List.length_nil ?_ | fail "no step")
      first | refine ex_callM (CallsM.ren ((fail_c s.i 8 hi)) [0, 1] 6 rfl rfl rfl rfl) ?_ | refine ex_callM (CallsM.more0 (CallsM.ren ((fail_c s.i 8 hi)) [0, 1] 6 rfl rfl rfl rfl)) ?_ | refine ex_callM (CallsM.more1 (CallsM.ren ((fail_c s.i 8 hi)) [0, 1] 6 rfl rfl rfl rfl)) ?_ | refine ex_callM (CallsM.moreL (CallsM.ren ((fail_c s.i 8 hi)) [0, 1] 6 rfl rfl rfl rfl)) ?_
      exact ⟨⟨_, rfl, rfl⟩, rfl, rfl⟩
    | succ m =>
      have hT : x s = T := hT
      have hc := hc m rfl
      rcases T with ⟨k, s1⟩ | ⟨i, e⟩
      ·
        refine fn_ruleP (C := ⟨Tryd.prog, layF, Tryd.f75.ntmps, ΓL, 6, [], []⟩) layF_ok mixed Tryd.func75 rfl (by kernel_rfl) rfl rfl rfl SLe.rfl ?_
        repeat' (first | refine ex_i64 (32 - ((m : Nat) : Int)) (by omega) (by omega) (by omega) ?_ | refine ex_u64 (32 - ((m : Nat) : Int)) (by omega) (by omega) (by omega) ?_ | refine ex_u8 (32 - ((m : Nat) : Int)) (by omega) (by omega) (by omega) ?_ | refine ex_true (by first | decide | omega | assumption | (with_reducible exact rfl)) ?_ | refine ex_false (by first | decide | omega | assumption | exact (fun h => h rfl)) ?_ | refine ex_dec (fun _ => ?_) (fun _ => ?_) | refine ex_u8 _ rfl (by omega) (by omega) ?_ | refine ex_i64 _ rfl (by omega) (by omega) ?_ | refine ex_u64 _ rfl (by omega) (by omega) ?_ | refine and_mk (by first | omega | (with_reducible rfl) | (show drawOk _ _ _ = true; kernel_rfl)) ?_ | refine and_mk ⟨_, rfl⟩ ?_ | refine ex_is _ (List.length_map _) ?_ | refine ex_is _ List.length_nil ?_ | fail "no step")
        first | refine ex_callM (CallsM.ren ((hc.ok hT)) [0, 1, 2, 3, 4, 5] 6 rfl rfl rfl rfl) ?_ | refine ex_callM (CallsM.more0 (CallsM.ren ((hc.ok hT)) [0, 1, 2, 3, 4, 5] 6 rfl rfl rfl rfl)) ?_ | refine ex_callM (CallsM.more1 (CallsM.ren ((hc.ok hT)) [0, 1, 2, 3, 4, 5] 6 rfl rfl rfl rfl)) ?_ | refine ex_callM (CallsM.moreL (CallsM.ren ((hc.ok hT)) [0, 1, 2, 3, 4, 5] 6 rfl rfl rfl rfl)) ?_
        repeat' (first | refine ex_i64 (32 - ((m + 1 : Nat) : Int)) (by omega) (by omega) (by omega) ?_ | refine ex_u64 (32 - ((m + 1 : Nat) : Int)) (by omega) (by omega) (by omega) ?_ | refine ex_u8 (32 - ((m + 1 : Nat) : Int)) (by omega) (by omega) (by omega) ?_ | refine ex_true (by first | decide | omega | assumption | (with_reducible exact rfl)) ?_ | refine ex_false (by first | decide | omega | assumption | exact (fun h => h rfl)) ?_ | refine ex_dec (fun _ => ?_) (fun _ => ?_) | refine ex_u8 _ rfl (by omega) (by omega) ?_ | refine ex_i64 _ rfl (by omega) (by omega) ?_ | refine ex_u64 _ rfl (by omega) (by omega) ?_ | refine and_mk (by first | omega | (with_reducible rfl) | (show drawOk _ _ _ = true; kernel_rfl)) ?_ | refine and_mk ⟨_, rfl⟩ ?_ | refine ex_is _ (List.length_map _) ?_ | refine ex_is _ List.length_nil ?_ | fail "no step")
        exact ⟨rfl, TLe.rfl, rfl, rfl⟩
      ·
        refine fn_ruleP (C := ⟨Tryd.prog, layF, Tryd.f75.ntmps, ΓL, 6, [], []⟩) layF_ok mixed Tryd.func75 rfl (by kernel_rfl) rfl rfl rfl SLe.rfl ?_
        repeat' (first | refine ex_i64 (32 - ((m : Nat) : Int)) (by omega) (by omega) (by omega) ?_ | refine ex_u64 (32 - ((m : Nat) : Int)) (by omega) (by omega) (by omega) ?_ | refine ex_u8 (32 - ((m : Nat) : Int)) (by omega) (by omega) (by omega) ?_ | refine ex_true (by first | decide | omega | assumption | (with_reducible exact rfl)) ?_ | refine ex_false (by first | decide | omega | assumption | exact (fun h => h rfl)) ?_ | refine ex_dec (fun _ => ?_) (fun _ => ?_) | refine ex_u8 _ rfl (by omega) (by omega) ?_ | refine ex_i64 _ rfl (by omega) (by omega) ?_ | refine ex_u64 _ rfl (by omega) (by omega) ?_ | refine and_mk (by first | omega | (with_reducible rfl) | (show drawOk _ _ _ = true; kernel_rfl)) ?_ | refine and_mk ⟨_, rfl⟩ ?_ | refine ex_is _ (List.length_map _) ?_ | refine ex_is _ List.length_nil ?_ | fail "no step")
        first | refine ex_callM (CallsM.ren ((hc.err hT)) [0, 1, 2, 3, 4, 5] 6 rfl rfl rfl rfl) ?_ | refine ex_callM (CallsM.more0 (CallsM.ren ((hc.err hT)) [0, 1, 2, 3, 4, 5] 6 rfl rfl rfl rfl)) ?_ | refine ex_callM (CallsM.more1 (CallsM.ren ((hc.err hT)) [0, 1, 2, 3, 4, 5] 6 rfl rfl rfl rfl)) ?_ | refine ex_callM (CallsM.moreL (CallsM.ren ((hc.err hT)) [0, 1, 2, 3, 4, 5] 6 rfl rfl rfl rfl)) ?_
        exact ⟨⟨_, rfl, rfl⟩, rfl, rfl⟩
theorem inner_c (hm : m ≤ 32) {kd : PM Int} (s : PS) (hi : s.i < L.length) (hc : ∀ m', m = m' + 1 → C2 L m' 39 [] kd (fun k => Ti k) s) : C2 L m 56 [] (innerM L m kd) (fun k => Ti k) s := by
  refine C2.of fun T hT => ?_
  have hT : (enterM m (startsV L s.i) >>= fun _ => kd) s = T := hT
  have hd := deeper2_c s hi hm hc (startsV L s.i)
  rcases T with ⟨k, s1⟩ | ⟨i, e⟩
  ·
    refine fn_ruleP (C := ⟨Tryd.prog, layF, Tryd.f56.ntmps, ΓL, 6, [], []⟩) layF_ok mixed Tryd.func56 rfl (by kernel_rfl) rfl rfl rfl SLe.rfl ?_
    repeat' (first | refine ex_true (by first | decide | omega | assumption | (with_reducible exact rfl)) ?_ | refine ex_false (by first | decide | omega | assumption | exact (fun h => h rfl)) ?_ | refine ex_dec (fun _ => ?_) (fun _ => ?_) | refine ex_u8 _ rfl (by omega) (by omega) ?_ | refine ex_i64 _ rfl (by omega) (by omega) ?_ | refine ex_u64 _ rfl (by omega) (by omega) ?_ | refine and_mk (by first | omega | (with_reducible rfl) | (show drawOk _ _ _ = true; kernel_rfl)) ?_ | refine and_mk ⟨_, rfl⟩ ?_ | refine ex_is _ (List.length_map _) ?_ | refine ex_is _ List.length_nil ?_ | fail "no step")
    first | refine ex_callM (CallsM.ren ((starts_c (m := m) s.i hi)) [0, 1] 6 rfl rfl rfl rfl) ?_ | refine ex_callM (CallsM.more0 (CallsM.ren ((starts_c (m := m) s.i hi)) [0, 1] 6 rfl rfl rfl rfl)) ?_ | refine ex_callM (CallsM.more1 (CallsM.ren ((starts_c (m := m) s.i hi)) [0, 1] 6 rfl rfl rfl rfl)) ?_ | refine ex_callM (CallsM.moreL (CallsM.ren ((starts_c (m := m) s.i hi)) [0, 1] 6 rfl rfl rfl rfl)) ?_
    repeat' (first | refine ex_true (by first | decide | omega | assumption | (with_reducible exact rfl)) ?_ | refine ex_false (by first | decide | omega | assumption | exact (fun h => h rfl)) ?_ | refine ex_dec (fun _ => ?_) (fun _ => ?_) | refine ex_u8 _ rfl (by omega) (by omega) ?_ | refine ex_i64 _ rfl (by omega) (by omega) ?_ | refine ex_u64 _ rfl (by omega) (by omega) ?_ | refine and_mk (by first | omega | (with_reducible rfl) | (show drawOk _ _ _ = true; kernel_rfl)) ?_ | refine and_mk ⟨_, rfl⟩ ?_ | refine ex_is _ (List.length_map _) ?_ | refine ex_is _ List.length_nil ?_ | fail "no step")
    first | refine ex_callM (CallsM.ren ((hd.ok hT)) [0, 1, 2, 3, 4, 5] 6 rfl rfl rfl rfl) ?_ | refine ex_callM (CallsM.more0 (CallsM.ren ((hd.ok hT)) [0, 1, 2, 3, 4, 5] 6 rfl rfl rfl rfl)) ?_ | refine ex_callM (CallsM.more1 (CallsM.ren ((hd.ok hT)) [0, 1, 2, 3, 4, 5] 6 rfl rfl rfl rfl)) ?_ | refine ex_callM (CallsM.moreL (CallsM.ren ((hd.ok hT)) [0, 1, 2, 3, 4, 5] 6 rfl rfl rfl rfl)) ?_
    repeat' (first | refine ex_true (by first | decide | omega | assumption | (with_reducible exact rfl)) ?_ | refine ex_false (by first | decide | omega | assumption | exact (fun h => h rfl)) ?_ | refine ex_dec (fun _ => ?_) (fun _ => ?_) | refine ex_u8 _ rfl (by omega) (by omega) ?_ | refine ex_i64 _ rfl (by omega) (by omega) ?_ | refine ex_u64 _ rfl (by omega) (by omega) ?_ | refine and_mk (by first | omega | (with_reducible rfl) | (show drawOk _ _ _ = true; kernel_rfl)) ?_ | refine and_mk ⟨_, rfl⟩ ?_ | refine ex_is _ (List.length_map _) ?_ | refine ex_is _ List.length_nil ?_ | fail "no step")
    exact ⟨rfl, TLe.rfl, rfl, rfl⟩
  ·
    refine fn_ruleP (C := ⟨Tryd.prog, layF, Tryd.f56.ntmps, ΓL, 6, [], []⟩) layF_ok mixed Tryd.func56 rfl (by kernel_rfl) rfl rfl rfl SLe.rfl ?_
    repeat' (first | refine ex_true (by first | decide | omega | assumption | (with_reducible exact rfl)) ?_ | refine ex_false (by first | decide | omega | assumption | exact (fun h => h rfl)) ?_ | refine ex_dec (fun _ => ?_) (fun _ => ?_) | refine ex_u8 _ rfl (by omega) (by omega) ?_ | refine ex_i64 _ rfl (by omega) (by omega) ?_ | refine ex_u64 _ rfl (by omega) (by omega) ?_ | refine and_mk (by first | omega | (with_reducible rfl) | (show drawOk _ _ _ = true; kernel_rfl)) ?_ | refine and_mk ⟨_, rfl⟩ ?_ | refine ex_is _ (List.length_map _) ?_ | refine ex_is _ List.length_nil ?_ | fail "no step")
    first | refine ex_callM (CallsM.ren ((starts_c (m := m) s.i hi)) [0, 1] 6 rfl rfl rfl rfl) ?_ | refine ex_callM (CallsM.more0 (CallsM.ren ((starts_c (m := m) s.i hi)) [0, 1] 6 rfl rfl rfl rfl)) ?_ | refine ex_callM (CallsM.more1 (CallsM.ren ((starts_c (m := m) s.i hi)) [0, 1] 6 rfl rfl rfl rfl)) ?_ | refine ex_callM (CallsM.moreL (CallsM.ren ((starts_c (m := m) s.i hi)) [0, 1] 6 rfl rfl rfl rfl)) ?_
    repeat' (first | refine ex_true (by first | decide | omega | assumption | (with_reducible exact rfl)) ?_ | refine ex_false (by first | decide | omega | assumption | exact (fun h => h rfl)) ?_ | refine ex_dec (fun _ => ?_) (fun _ => ?_) | refine ex_u8 _ rfl (by omega) (by omega) ?_ | refine ex_i64 _ rfl (by omega) (by omega) ?_ | refine ex_u64 _ rfl (by omega) (by omega) ?_ | refine and_mk (by first | omega | (with_reducible rfl) | (show drawOk _ _ _ = true; kernel_rfl)) ?_ | refine and_mk ⟨_, rfl⟩ ?_ | refine ex_is _ (List.length_map _) ?_ | refine ex_is _ List.length_nil ?_ | fail "no step")
    first | refine ex_callM (CallsM.ren ((hd.err hT)) [0, 1, 2, 3, 4, 5] 6 rfl rfl rfl rfl) ?_ | refine ex_callM (CallsM.more0 (CallsM.ren ((hd.err hT)) [0, 1, 2, 3, 4, 5] 6 rfl rfl rfl rfl)) ?_ | refine ex_callM (CallsM.more1 (CallsM.ren ((hd.err hT)) [0, 1, 2, 3, 4, 5] 6 rfl rfl rfl rfl)) ?_ | refine ex_callM (CallsM.moreL (CallsM.ren ((hd.err hT)) [0, 1, 2, 3, 4, 5] 6 rfl rfl rfl rfl)) ?_
    exact ⟨⟨_, rfl, rfl⟩, rfl, rfl⟩
/-- A switch is laid. -/
theorem layc_c (i : Nat) (ts : List TY) (x n : Int) (cs : List CA) (hx : ts.length ≤ 1000000) : CallsM Tryd.prog ΓL 57 [(0, Qz L m i), (1, Fz 2 3 4 5), (5, Tz ts)] 6 [P0, gD [di 9, di 0, db false, ds ⟨#[]⟩, dnil, di x, di n, .sl 2 (cs.map caD)]] (Ti ts.length) [(0, Qz L m i), (1, Fz 2 3 4 6), (5, .dead)] [Tz (ts ++ [⟨9, 0, false, [], [], x, n, cs⟩])] :=
  (lay_c (L := L) (m := m) ⟨i, [], ts⟩ ⟨9, 0, false, [], [], x, n, cs⟩ hx).argsLe (.cons T1Le.rfl (.cons (T1Le.g (.cons DLe.rfl (.cons DLe.rfl (.cons DLe.rfl (.cons DLe.rfl (.cons DLe.nil (.cons DLe.rfl (.cons DLe.rfl (.cons DLe.rfl .nil))))))))) .nil))
set_option maxHeartbeats 4000000 in
theorem choice_c (hL : TokOk L) (hn : L.length ≤ 100000) (hm : m ≤ 32) {kd : PM Int} (hu : Up L kd 0 0) (hc : ∀ m', m = m' + 1 → ∀ s, SOk L 0 s → C2 L m' 39 [] kd (fun k => Ti k) s) (s : PS) {c : Nat} (hs : SOk L (c + 1) s) :
    C2 L m 58 [] (choiceM L m kd) (fun k => Ti k) s := by
  refine C2.of fun T hT => ?_
  unfold choiceM at hT
  obtain ⟨i, xs, ts⟩ := s
  have hin : ∀ s, SOk L 0 s → C2 L m 56 [] (innerM L m kd) (fun k => Ti k) s := fun s hs => inner_c hm s hs.i fun m' e => hc m' e s hs
  refine fn_ruleP (C := ⟨Tryd.prog, layF, Tryd.f58.ntmps, ΓL, 6, [], []⟩) layF_ok mixed Tryd.func58 rfl (by kernel_rfl) rfl rfl rfl SLe.rfl ?_
  repeat' (first | refine ex_call (plain_c 9) ?_ | refine ex_true (by first | decide | omega | assumption | (with_reducible exact rfl)) ?_ | refine ex_false (by first | decide | omega | assumption | exact (fun h => h rfl)) ?_ | refine ex_dec (fun _ => ?_) (fun _ => ?_) | refine ex_u8 _ rfl (by omega) (by omega) ?_ | refine ex_i64 _ rfl (by omega) (by omega) ?_ | refine ex_u64 _ rfl (by omega) (by omega) ?_ | refine and_mk (by first | omega | (with_reducible rfl) | (show drawOk _ _ _ = true; kernel_rfl)) ?_ | refine and_mk ⟨_, rfl⟩ ?_ | refine ex_is _ (List.length_map _) ?_ | refine ex_is _ List.length_nil ?_ | fail "no step")
  have hcon := take_c (m := m) ⟨i, xs, ts⟩ hs.i (by omega) t_lpar
  rcases hx74 : (takeM L t_lpar) ⟨i, xs, ts⟩ with ⟨_, s9⟩ | ⟨i9, e9⟩
  rotate_left
  · obtain rfl := (and_err hx74).symm.trans hT
    first | refine ex_callM (CallsM.ren (hcon.err hx74) [0, 1] 7 rfl rfl rfl rfl) ?_ | refine ex_callM (CallsM.more0 (CallsM.ren (hcon.err hx74) [0, 1] 7 rfl rfl rfl rfl)) ?_ | refine ex_callM (CallsM.more1 (CallsM.ren (hcon.err hx74) [0, 1] 7 rfl rfl rfl rfl)) ?_ | refine ex_callM (CallsM.moreL (CallsM.ren (hcon.err hx74) [0, 1] 7 rfl rfl rfl rfl)) ?_
    first | exact ⟨⟨_, rfl, rfl⟩, rfl, rfl⟩ | exact ⟨by kernel_rfl, ⟨_, rfl, rfl⟩, rfl, rfl⟩
  replace hT := (and_ok hx74).symm.trans hT
  first | refine ex_callM (CallsM.ren (hcon.ok hx74) [0, 1] 7 rfl rfl rfl rfl) ?_ | refine ex_callM (CallsM.more0 (CallsM.ren (hcon.ok hx74) [0, 1] 7 rfl rfl rfl rfl)) ?_ | refine ex_callM (CallsM.more1 (CallsM.ren (hcon.ok hx74) [0, 1] 7 rfl rfl rfl rfl)) ?_ | refine ex_callM (CallsM.moreL (CallsM.ren (hcon.ok hx74) [0, 1] 7 rfl rfl rfl rfl)) ?_
  clear hcon
  have hs1 := (Up.ok (Up.take hL t_lpar 0) hs hx74).1
  obtain rfl := mv_take1 hx74
  repeat' (first | refine ex_true (by first | decide | omega | assumption | (with_reducible exact rfl)) ?_ | refine ex_false (by first | decide | omega | assumption | exact (fun h => h rfl)) ?_ | refine ex_dec (fun _ => ?_) (fun _ => ?_) | refine ex_u8 _ rfl (by omega) (by omega) ?_ | refine ex_i64 _ rfl (by omega) (by omega) ?_ | refine ex_u64 _ rfl (by omega) (by omega) ?_ | refine and_mk (by first | omega | (with_reducible rfl) | (show drawOk _ _ _ = true; kernel_rfl)) ?_ | refine and_mk ⟨_, rfl⟩ ?_ | refine ex_is _ (List.length_map _) ?_ | refine ex_is _ List.length_nil ?_ | fail "no step")
  have hcon := expr_c hL hn m hm ⟨i + 1, xs, ts⟩ (hs1.less (by omega))
  rcases hx : (exprM L m) ⟨i + 1, xs, ts⟩ with ⟨x, ⟨i2, xs2, ts2⟩⟩ | ⟨i9, e9⟩
  rotate_left
  · obtain rfl := (and_err hx).symm.trans hT
    first | refine ex_callM (CallsM.ren (hcon.err hx) [0, 1, 2, 3, 4, 5] 7 rfl rfl rfl rfl) ?_ | refine ex_callM (CallsM.more0 (CallsM.ren (hcon.err hx) [0, 1, 2, 3, 4, 5] 7 rfl rfl rfl rfl)) ?_ | refine ex_callM (CallsM.more1 (CallsM.ren (hcon.err hx) [0, 1, 2, 3, 4, 5] 7 rfl rfl rfl rfl)) ?_ | refine ex_callM (CallsM.moreL (CallsM.ren (hcon.err hx) [0, 1, 2, 3, 4, 5] 7 rfl rfl rfl rfl)) ?_
    first | exact ⟨⟨_, rfl, rfl⟩, rfl, rfl⟩ | exact ⟨by kernel_rfl, ⟨_, rfl, rfl⟩, rfl, rfl⟩
  replace hT := (and_ok hx).symm.trans hT
  first | refine ex_callM (CallsM.ren (hcon.ok hx) [0, 1, 2, 3, 4, 5] 7 rfl rfl rfl rfl) ?_ | refine ex_callM (CallsM.more0 (CallsM.ren (hcon.ok hx) [0, 1, 2, 3, 4, 5] 7 rfl rfl rfl rfl)) ?_ | refine ex_callM (CallsM.more1 (CallsM.ren (hcon.ok hx) [0, 1, 2, 3, 4, 5] 7 rfl rfl rfl rfl)) ?_ | refine ex_callM (CallsM.moreL (CallsM.ren (hcon.ok hx) [0, 1, 2, 3, 4, 5] 7 rfl rfl rfl rfl)) ?_
  clear hcon
  have hs2 := (Up.ok (up_expr hL m 1) hs1 hx).1
  obtain rfl := (keep_expr m).eq hx
  repeat' (first | refine ex_true (by first | decide | omega | assumption | (with_reducible exact rfl)) ?_ | refine ex_false (by first | decide | omega | assumption | exact (fun h => h rfl)) ?_ | refine ex_dec (fun _ => ?_) (fun _ => ?_) | refine ex_u8 _ rfl (by omega) (by omega) ?_ | refine ex_i64 _ rfl (by omega) (by omega) ?_ | refine ex_u64 _ rfl (by omega) (by omega) ?_ | refine and_mk (by first | omega | (with_reducible rfl) | (show drawOk _ _ _ = true; kernel_rfl)) ?_ | refine and_mk ⟨_, rfl⟩ ?_ | refine ex_is _ (List.length_map _) ?_ | refine ex_is _ List.length_nil ?_ | fail "no step")
  have hcon := take_c (m := m) ⟨i2, xs2, ts⟩ hs2.i (by omega) t_rpar
  rcases hx78 : (takeM L t_rpar) ⟨i2, xs2, ts⟩ with ⟨_, s9⟩ | ⟨i9, e9⟩
  rotate_left
  · obtain rfl := (and_err hx78).symm.trans hT
    first | refine ex_callM (CallsM.ren (hcon.err hx78) [0, 1] 8 rfl rfl rfl rfl) ?_ | refine ex_callM (CallsM.more0 (CallsM.ren (hcon.err hx78) [0, 1] 8 rfl rfl rfl rfl)) ?_ | refine ex_callM (CallsM.more1 (CallsM.ren (hcon.err hx78) [0, 1] 8 rfl rfl rfl rfl)) ?_ | refine ex_callM (CallsM.moreL (CallsM.ren (hcon.err hx78) [0, 1] 8 rfl rfl rfl rfl)) ?_
    first | exact ⟨⟨_, rfl, rfl⟩, rfl, rfl⟩ | exact ⟨by kernel_rfl, ⟨_, rfl, rfl⟩, rfl, rfl⟩
  replace hT := (and_ok hx78).symm.trans hT
  first | refine ex_callM (CallsM.ren (hcon.ok hx78) [0, 1] 8 rfl rfl rfl rfl) ?_ | refine ex_callM (CallsM.more0 (CallsM.ren (hcon.ok hx78) [0, 1] 8 rfl rfl rfl rfl)) ?_ | refine ex_callM (CallsM.more1 (CallsM.ren (hcon.ok hx78) [0, 1] 8 rfl rfl rfl rfl)) ?_ | refine ex_callM (CallsM.moreL (CallsM.ren (hcon.ok hx78) [0, 1] 8 rfl rfl rfl rfl)) ?_
  clear hcon
  have hs3 := (Up.ok (Up.take hL t_rpar 0) hs2 hx78).1
  obtain rfl := mv_take1 hx78
  repeat' (first | refine ex_true (by first | decide | omega | assumption | (with_reducible exact rfl)) ?_ | refine ex_false (by first | decide | omega | assumption | exact (fun h => h rfl)) ?_ | refine ex_dec (fun _ => ?_) (fun _ => ?_) | refine ex_u8 _ rfl (by omega) (by omega) ?_ | refine ex_i64 _ rfl (by omega) (by omega) ?_ | refine ex_u64 _ rfl (by omega) (by omega) ?_ | refine and_mk (by first | omega | (with_reducible rfl) | (show drawOk _ _ _ = true; kernel_rfl)) ?_ | refine and_mk ⟨_, rfl⟩ ?_ | refine ex_is _ (List.length_map _) ?_ | refine ex_is _ List.length_nil ?_ | fail "no step")
  have hcon := take_c (m := m) ⟨i2 + 1, xs2, ts⟩ hs3.i (by omega) t_lcur
  rcases hx80 : (takeM L t_lcur) ⟨i2 + 1, xs2, ts⟩ with ⟨_, s9⟩ | ⟨i9, e9⟩
  rotate_left
  · obtain rfl := (and_err hx80).symm.trans hT
    first | refine ex_callM (CallsM.ren (hcon.err hx80) [0, 1] 8 rfl rfl rfl rfl) ?_ | refine ex_callM (CallsM.more0 (CallsM.ren (hcon.err hx80) [0, 1] 8 rfl rfl rfl rfl)) ?_ | refine ex_callM (CallsM.more1 (CallsM.ren (hcon.err hx80) [0, 1] 8 rfl rfl rfl rfl)) ?_ | refine ex_callM (CallsM.moreL (CallsM.ren (hcon.err hx80) [0, 1] 8 rfl rfl rfl rfl)) ?_
    first | exact ⟨⟨_, rfl, rfl⟩, rfl, rfl⟩ | exact ⟨by kernel_rfl, ⟨_, rfl, rfl⟩, rfl, rfl⟩
  replace hT := (and_ok hx80).symm.trans hT
  first | refine ex_callM (CallsM.ren (hcon.ok hx80) [0, 1] 8 rfl rfl rfl rfl) ?_ | refine ex_callM (CallsM.more0 (CallsM.ren (hcon.ok hx80) [0, 1] 8 rfl rfl rfl rfl)) ?_ | refine ex_callM (CallsM.more1 (CallsM.ren (hcon.ok hx80) [0, 1] 8 rfl rfl rfl rfl)) ?_ | refine ex_callM (CallsM.moreL (CallsM.ren (hcon.ok hx80) [0, 1] 8 rfl rfl rfl rfl)) ?_
  clear hcon
  have hs4 := (Up.ok (Up.take hL t_lcur 0) hs3 hx80).1
  obtain rfl := mv_take1 hx80
  repeat' (first | refine ex_true (by first | decide | omega | assumption | (with_reducible exact rfl)) ?_ | refine ex_false (by first | decide | omega | assumption | exact (fun h => h rfl)) ?_ | refine ex_dec (fun _ => ?_) (fun _ => ?_) | refine ex_u8 _ rfl (by omega) (by omega) ?_ | refine ex_i64 _ rfl (by omega) (by omega) ?_ | refine ex_u64 _ rfl (by omega) (by omega) ?_ | refine and_mk (by first | omega | (with_reducible rfl) | (show drawOk _ _ _ = true; kernel_rfl)) ?_ | refine and_mk ⟨_, rfl⟩ ?_ | refine ex_is _ (List.length_map _) ?_ | refine ex_is _ List.length_nil ?_ | fail "no step")
  replace hT : (casesN L m kd (L.length - (i2 + 1 + 1) + 1) [] >>= fun cs => atM (isV L · w_else) (stepM >>= fun _ => takeM L t_colon >>= fun _ => innerM L m kd >>= fun k => takeM L t_semi >>= fun _ => pure k) (pure (-1)) >>= fun k => takeM L t_rcur >>= fun _ => layM { tyP 9 with ex := x, inn := k, cases := cs }) ⟨i2 + 1 + 1, xs2, ts⟩ = T := hT
  refine ex_loop (X := Nat × List EX × List TY × List CA × Nat) (fun ⟨i, xs, ts, cs, _⟩ => ⟨[(0, .o P0), (3, .o (.c (.ptr 6 0)))], [(5, .dead), (0, Qz L m i), (1, Fz 2 3 7 9), (4, .dead), (6, .obj [.d (di 9), .d (di 0), .d (db false), .d (ds ⟨#[]⟩), .d dnil, .d (di x), .d (di (-1)), .row 8]), (7, Xz xs), (8, .row 2 136 (cs.map caD)), (9, Tz ts)], 10⟩) (fun y => L.length - y.1)
    (fun ⟨i, xs, ts, cs, n⟩ => SOk L (c + 4) ⟨i, xs, ts⟩ ∧ L.length < i + n ∧ cs.length ≤ i ∧ (casesN L m kd n cs >>= fun cs => atM (isV L · w_else) (stepM >>= fun _ => takeM L t_colon >>= fun _ => innerM L m kd >>= fun k => takeM L t_semi >>= fun _ => pure k) (pure (-1)) >>= fun k => takeM L t_rcur >>= fun _ => layM { tyP 9 with ex := x, inn := k, cases := cs }) ⟨i, xs, ts⟩ = T) (i2 + 1 + 1, xs2, ts, [], L.length - (i2 + 1 + 1) + 1) ⟨hs4, by omega, Nat.zero_le _, hT⟩
    (SLe.kill (nx := 10) 5 (SLe.via (SLe.ownCell 6 7 8 2 136 rfl rfl rfl rfl rfl rfl) (SLe.ren [(0, 0), (1, 1), (2, 2), (3, 3), (4, 4), (6, 6), (7, 7), (8, 8), (5, 9)] ⟨⟨rfl, rfl⟩, ⟨rfl, rfl⟩, trivial⟩ ⟨⟨rfl, rfl⟩, ⟨rfl, rfl⟩, ⟨rfl, rfl⟩, ⟨rfl, rfl⟩, ⟨rfl, rfl⟩, ⟨rfl, rfl⟩, ⟨rfl, rfl⟩, trivial⟩ rfl))) ?_
  clear hT hx hs4 hs3 hs2 hs1 hs
  rintro ⟨i, xs, ts, cs, n⟩ ⟨hs, hf, hll, hT⟩
  have hi := hs.lt
  cases n with
  | zero => omega
  | succ n =>
    rw [casesN] at hT
    have his := is_c (m := m) i hi w_case
    rcases hv : isV L i w_case with _ | _ <;> rw [hv] at his
    · replace hT := pureT (atnB hT hv)
      first | refine ex_callM (CallsM.ren (his) [0, 1] 10 rfl rfl rfl rfl) ?_ | refine ex_callM (CallsM.more0 (CallsM.ren (his) [0, 1] 10 rfl rfl rfl rfl)) ?_ | refine ex_callM (CallsM.more1 (CallsM.ren (his) [0, 1] 10 rfl rfl rfl rfl)) ?_ | refine ex_callM (CallsM.moreL (CallsM.ren (his) [0, 1] 10 rfl rfl rfl rfl)) ?_
      repeat' (first | refine ex_true (by first | decide | omega | assumption | (with_reducible exact rfl)) ?_ | refine ex_false (by first | decide | omega | assumption | exact (fun h => h rfl)) ?_ | refine ex_dec (fun _ => ?_) (fun _ => ?_) | refine ex_u8 _ rfl (by omega) (by omega) ?_ | refine ex_i64 _ rfl (by omega) (by omega) ?_ | refine ex_u64 _ rfl (by omega) (by omega) ?_ | refine and_mk (by first | omega | (with_reducible rfl) | (show drawOk _ _ _ = true; kernel_rfl)) ?_ | refine and_mk ⟨_, rfl⟩ ?_ | refine ex_is _ (List.length_map _) ?_ | refine ex_is _ List.length_nil ?_ | fail "no step")
      rcases hv2 : isV L i w_else with _ | _
      · replace hT := pureT (atnB hT hv2)
        first | refine ex_callM (CallsM.ren ((may_no i hi _ hv2)) [0, 1] 10 rfl rfl rfl rfl) ?_ | refine ex_callM (CallsM.more0 (CallsM.ren ((may_no i hi _ hv2)) [0, 1] 10 rfl rfl rfl rfl)) ?_ | refine ex_callM (CallsM.more1 (CallsM.ren ((may_no i hi _ hv2)) [0, 1] 10 rfl rfl rfl rfl)) ?_ | refine ex_callM (CallsM.moreL (CallsM.ren ((may_no i hi _ hv2)) [0, 1] 10 rfl rfl rfl rfl)) ?_
        repeat' (first | refine ex_true (by first | decide | omega | assumption | (with_reducible exact rfl)) ?_ | refine ex_false (by first | decide | omega | assumption | exact (fun h => h rfl)) ?_ | refine ex_dec (fun _ => ?_) (fun _ => ?_) | refine ex_u8 _ rfl (by omega) (by omega) ?_ | refine ex_i64 _ rfl (by omega) (by omega) ?_ | refine ex_u64 _ rfl (by omega) (by omega) ?_ | refine and_mk (by first | omega | (with_reducible rfl) | (show drawOk _ _ _ = true; kernel_rfl)) ?_ | refine and_mk ⟨_, rfl⟩ ?_ | refine ex_is _ (List.length_map _) ?_ | refine ex_is _ List.length_nil ?_ | fail "no step")
        have hcon := take_c (m := m) ⟨i, xs, ts⟩ hs.i (by omega) t_rcur
        rcases hx102 : (takeM L t_rcur) ⟨i, xs, ts⟩ with ⟨_, s9⟩ | ⟨i9, e9⟩
        rotate_left
        · obtain rfl := (and_err hx102).symm.trans hT
          first | refine ex_callM (CallsM.ren (hcon.err hx102) [0, 1] 10 rfl rfl rfl rfl) ?_ | refine ex_callM (CallsM.more0 (CallsM.ren (hcon.err hx102) [0, 1] 10 rfl rfl rfl rfl)) ?_ | refine ex_callM (CallsM.more1 (CallsM.ren (hcon.err hx102) [0, 1] 10 rfl rfl rfl rfl)) ?_ | refine ex_callM (CallsM.moreL (CallsM.ren (hcon.err hx102) [0, 1] 10 rfl rfl rfl rfl)) ?_
          first | exact ⟨⟨_, rfl, rfl⟩, rfl, rfl⟩ | exact ⟨by kernel_rfl, ⟨_, rfl, rfl⟩, rfl, rfl⟩
        replace hT := (and_ok hx102).symm.trans hT
        first | refine ex_callM (CallsM.ren (hcon.ok hx102) [0, 1] 10 rfl rfl rfl rfl) ?_ | refine ex_callM (CallsM.more0 (CallsM.ren (hcon.ok hx102) [0, 1] 10 rfl rfl rfl rfl)) ?_ | refine ex_callM (CallsM.more1 (CallsM.ren (hcon.ok hx102) [0, 1] 10 rfl rfl rfl rfl)) ?_ | refine ex_callM (CallsM.moreL (CallsM.ren (hcon.ok hx102) [0, 1] 10 rfl rfl rfl rfl)) ?_
        clear hcon
        have hs1 := (Up.ok (Up.take hL t_rcur 0) hs hx102).1
        obtain rfl := mv_take1 hx102
        obtain rfl : PR.ok (ts.length : Int) ⟨i + 1, xs, ts ++ [(⟨9, 0, false, [], [], x, -1, cs⟩ : TY)]⟩ = T := hT
        have htl := hs.lt'
        repeat' (first | refine ex_true (by first | decide | omega | assumption | (with_reducible exact rfl)) ?_ | refine ex_false (by first | decide | omega | assumption | exact (fun h => h rfl)) ?_ | refine ex_dec (fun _ => ?_) (fun _ => ?_) | refine ex_u8 _ rfl (by omega) (by omega) ?_ | refine ex_i64 _ rfl (by omega) (by omega) ?_ | refine ex_u64 _ rfl (by omega) (by omega) ?_ | refine and_mk (by first | omega | (with_reducible rfl) | (show drawOk _ _ _ = true; kernel_rfl)) ?_ | refine and_mk ⟨_, rfl⟩ ?_ | refine ex_is _ (List.length_map _) ?_ | refine ex_is _ List.length_nil ?_ | fail "no step")
        first | refine ex_callM (CallsM.ren ((layc_c (L := L) (m := m) (i + 1) ts x (-1) cs (by omega))) [0, 1, 2, 3, 7, 9] 10 rfl rfl rfl rfl) ?_ | refine ex_callM (CallsM.more0 (CallsM.ren ((layc_c (L := L) (m := m) (i + 1) ts x (-1) cs (by omega))) [0, 1, 2, 3, 7, 9] 10 rfl rfl rfl rfl)) ?_ | refine ex_callM (CallsM.more1 (CallsM.ren ((layc_c (L := L) (m := m) (i + 1) ts x (-1) cs (by omega))) [0, 1, 2, 3, 7, 9] 10 rfl rfl rfl rfl)) ?_ | refine ex_callM (CallsM.moreL (CallsM.ren ((layc_c (L := L) (m := m) (i + 1) ts x (-1) cs (by omega))) [0, 1, 2, 3, 7, 9] 10 rfl rfl rfl rfl)) ?_
        repeat' (first | refine ex_true (by first | decide | omega | assumption | (with_reducible exact rfl)) ?_ | refine ex_false (by first | decide | omega | assumption | exact (fun h => h rfl)) ?_ | refine ex_dec (fun _ => ?_) (fun _ => ?_) | refine ex_u8 _ rfl (by omega) (by omega) ?_ | refine ex_i64 _ rfl (by omega) (by omega) ?_ | refine ex_u64 _ rfl (by omega) (by omega) ?_ | refine and_mk (by first | omega | (with_reducible rfl) | (show drawOk _ _ _ = true; kernel_rfl)) ?_ | refine and_mk ⟨_, rfl⟩ ?_ | refine ex_is _ (List.length_map _) ?_ | refine ex_is _ List.length_nil ?_ | fail "no step")
        exact ⟨rfl, TLe.rfl, rfl, rfl⟩
      · replace hT := asc (stp1 (asc (atyB hT hv2)))
        have hs1 := stpS hL hs (isV_k hv2)
        first | refine ex_callM (CallsM.ren ((may_yes i hi (by omega) _ hv2)) [0, 1] 10 rfl rfl rfl rfl) ?_ | refine ex_callM (CallsM.more0 (CallsM.ren ((may_yes i hi (by omega) _ hv2)) [0, 1] 10 rfl rfl rfl rfl)) ?_ | refine ex_callM (CallsM.more1 (CallsM.ren ((may_yes i hi (by omega) _ hv2)) [0, 1] 10 rfl rfl rfl rfl)) ?_ | refine ex_callM (CallsM.moreL (CallsM.ren ((may_yes i hi (by omega) _ hv2)) [0, 1] 10 rfl rfl rfl rfl)) ?_
        repeat' (first | refine ex_true (by first | decide | omega | assumption | (with_reducible exact rfl)) ?_ | refine ex_false (by first | decide | omega | assumption | exact (fun h => h rfl)) ?_ | refine ex_dec (fun _ => ?_) (fun _ => ?_) | refine ex_u8 _ rfl (by omega) (by omega) ?_ | refine ex_i64 _ rfl (by omega) (by omega) ?_ | refine ex_u64 _ rfl (by omega) (by omega) ?_ | refine and_mk (by first | omega | (with_reducible rfl) | (show drawOk _ _ _ = true; kernel_rfl)) ?_ | refine and_mk ⟨_, rfl⟩ ?_ | refine ex_is _ (List.length_map _) ?_ | refine ex_is _ List.length_nil ?_ | fail "no step")
        have hcon := take_c (m := m) ⟨i + 1, xs, ts⟩ hs1.i (by omega) t_colon
        rcases hx113 : (takeM L t_colon) ⟨i + 1, xs, ts⟩ with ⟨_, s9⟩ | ⟨i9, e9⟩
        rotate_left
        · obtain rfl := (and_err hx113).symm.trans hT
          first | refine ex_callM (CallsM.ren (hcon.err hx113) [0, 1] 10 rfl rfl rfl rfl) ?_ | refine ex_callM (CallsM.more0 (CallsM.ren (hcon.err hx113) [0, 1] 10 rfl rfl rfl rfl)) ?_ | refine ex_callM (CallsM.more1 (CallsM.ren (hcon.err hx113) [0, 1] 10 rfl rfl rfl rfl)) ?_ | refine ex_callM (CallsM.moreL (CallsM.ren (hcon.err hx113) [0, 1] 10 rfl rfl rfl rfl)) ?_
          first | exact ⟨⟨_, rfl, rfl⟩, rfl, rfl⟩ | exact ⟨by kernel_rfl, ⟨_, rfl, rfl⟩, rfl, rfl⟩
        replace hT := (and_ok hx113).symm.trans hT
        first | refine ex_callM (CallsM.ren (hcon.ok hx113) [0, 1] 10 rfl rfl rfl rfl) ?_ | refine ex_callM (CallsM.more0 (CallsM.ren (hcon.ok hx113) [0, 1] 10 rfl rfl rfl rfl)) ?_ | refine ex_callM (CallsM.more1 (CallsM.ren (hcon.ok hx113) [0, 1] 10 rfl rfl rfl rfl)) ?_ | refine ex_callM (CallsM.moreL (CallsM.ren (hcon.ok hx113) [0, 1] 10 rfl rfl rfl rfl)) ?_
        clear hcon
        have hs2 := (Up.ok (Up.take hL t_colon 0) hs1 hx113).1
        obtain rfl := mv_take1 hx113
        repeat' (first | refine ex_true (by first | decide | omega | assumption | (with_reducible exact rfl)) ?_ | refine ex_false (by first | decide | omega | assumption | exact (fun h => h rfl)) ?_ | refine ex_dec (fun _ => ?_) (fun _ => ?_) | refine ex_u8 _ rfl (by omega) (by omega) ?_ | refine ex_i64 _ rfl (by omega) (by omega) ?_ | refine ex_u64 _ rfl (by omega) (by omega) ?_ | refine and_mk (by first | omega | (with_reducible rfl) | (show drawOk _ _ _ = true; kernel_rfl)) ?_ | refine and_mk ⟨_, rfl⟩ ?_ | refine ex_is _ (List.length_map _) ?_ | refine ex_is _ List.length_nil ?_ | fail "no step")
        replace hT := asc hT
        have hcon := hin ⟨i + 1 + 1, xs, ts⟩ (hs2.less (by omega))
        rcases hx : (innerM L m kd) ⟨i + 1 + 1, xs, ts⟩ with ⟨k, ⟨i3, xs3, ts3⟩⟩ | ⟨i9, e9⟩
        rotate_left
        · obtain rfl := (and_err hx).symm.trans hT
          first | refine ex_callM (CallsM.ren (hcon.err hx) [0, 1, 2, 3, 7, 9] 10 rfl rfl rfl rfl) ?_ | refine ex_callM (CallsM.more0 (CallsM.ren (hcon.err hx) [0, 1, 2, 3, 7, 9] 10 rfl rfl rfl rfl)) ?_ | refine ex_callM (CallsM.more1 (CallsM.ren (hcon.err hx) [0, 1, 2, 3, 7, 9] 10 rfl rfl rfl rfl)) ?_ | refine ex_callM (CallsM.moreL (CallsM.ren (hcon.err hx) [0, 1, 2, 3, 7, 9] 10 rfl rfl rfl rfl)) ?_
          first | exact ⟨⟨_, rfl, rfl⟩, rfl, rfl⟩ | exact ⟨by kernel_rfl, ⟨_, rfl, rfl⟩, rfl, rfl⟩
        replace hT := (and_ok hx).symm.trans hT
        first | refine ex_callM (CallsM.ren (hcon.ok hx) [0, 1, 2, 3, 7, 9] 10 rfl rfl rfl rfl) ?_ | refine ex_callM (CallsM.more0 (CallsM.ren (hcon.ok hx) [0, 1, 2, 3, 7, 9] 10 rfl rfl rfl rfl)) ?_ | refine ex_callM (CallsM.more1 (CallsM.ren (hcon.ok hx) [0, 1, 2, 3, 7, 9] 10 rfl rfl rfl rfl)) ?_ | refine ex_callM (CallsM.moreL (CallsM.ren (hcon.ok hx) [0, 1, 2, 3, 7, 9] 10 rfl rfl rfl rfl)) ?_
        clear hcon
        have hs3 := (Up.ok (up_inner m hu (c + 6)) (show SOk L (0 + (c + 6)) ⟨i + 1 + 1, xs, ts⟩ from hs2.less (by omega)) hx).1
        repeat' (first | refine ex_true (by first | decide | omega | assumption | (with_reducible exact rfl)) ?_ | refine ex_false (by first | decide | omega | assumption | exact (fun h => h rfl)) ?_ | refine ex_dec (fun _ => ?_) (fun _ => ?_) | refine ex_u8 _ rfl (by omega) (by omega) ?_ | refine ex_i64 _ rfl (by omega) (by omega) ?_ | refine ex_u64 _ rfl (by omega) (by omega) ?_ | refine and_mk (by first | omega | (with_reducible rfl) | (show drawOk _ _ _ = true; kernel_rfl)) ?_ | refine and_mk ⟨_, rfl⟩ ?_ | refine ex_is _ (List.length_map _) ?_ | refine ex_is _ List.length_nil ?_ | fail "no step")
        replace hT := asc hT
        have hcon := take_c (m := m) ⟨i3, xs3, ts3⟩ hs3.i (by omega) t_semi
        rcases hx119 : (takeM L t_semi) ⟨i3, xs3, ts3⟩ with ⟨_, s9⟩ | ⟨i9, e9⟩
        rotate_left
        · obtain rfl := (and_err hx119).symm.trans hT
          first | refine ex_callM (CallsM.ren (hcon.err hx119) [0, 1] 12 rfl rfl rfl rfl) ?_ | refine ex_callM (CallsM.more0 (CallsM.ren (hcon.err hx119) [0, 1] 12 rfl rfl rfl rfl)) ?_ | refine ex_callM (CallsM.more1 (CallsM.ren (hcon.err hx119) [0, 1] 12 rfl rfl rfl rfl)) ?_ | refine ex_callM (CallsM.moreL (CallsM.ren (hcon.err hx119) [0, 1] 12 rfl rfl rfl rfl)) ?_
          first | exact ⟨⟨_, rfl, rfl⟩, rfl, rfl⟩ | exact ⟨by kernel_rfl, ⟨_, rfl, rfl⟩, rfl, rfl⟩
        replace hT := (and_ok hx119).symm.trans hT
        first | refine ex_callM (CallsM.ren (hcon.ok hx119) [0, 1] 12 rfl rfl rfl rfl) ?_ | refine ex_callM (CallsM.more0 (CallsM.ren (hcon.ok hx119) [0, 1] 12 rfl rfl rfl rfl)) ?_ | refine ex_callM (CallsM.more1 (CallsM.ren (hcon.ok hx119) [0, 1] 12 rfl rfl rfl rfl)) ?_ | refine ex_callM (CallsM.moreL (CallsM.ren (hcon.ok hx119) [0, 1] 12 rfl rfl rfl rfl)) ?_
        clear hcon
        have hs4 := (Up.ok (Up.take hL t_semi 0) hs3 hx119).1
        obtain rfl := mv_take1 hx119
        replace hT := pureT hT
        repeat' (first | refine ex_true (by first | decide | omega | assumption | (with_reducible exact rfl)) ?_ | refine ex_false (by first | decide | omega | assumption | exact (fun h => h rfl)) ?_ | refine ex_dec (fun _ => ?_) (fun _ => ?_) | refine ex_u8 _ rfl (by omega) (by omega) ?_ | refine ex_i64 _ rfl (by omega) (by omega) ?_ | refine ex_u64 _ rfl (by omega) (by omega) ?_ | refine and_mk (by first | omega | (with_reducible rfl) | (show drawOk _ _ _ = true; kernel_rfl)) ?_ | refine and_mk ⟨_, rfl⟩ ?_ | refine ex_is _ (List.length_map _) ?_ | refine ex_is _ List.length_nil ?_ | fail "no step")
        have hcon := take_c (m := m) ⟨i3 + 1, xs3, ts3⟩ hs4.i (by omega) t_rcur
        rcases hx122 : (takeM L t_rcur) ⟨i3 + 1, xs3, ts3⟩ with ⟨_, s9⟩ | ⟨i9, e9⟩
        rotate_left
        · obtain rfl := (and_err hx122).symm.trans hT
          first | refine ex_callM (CallsM.ren (hcon.err hx122) [0, 1] 12 rfl rfl rfl rfl) ?_ | refine ex_callM (CallsM.more0 (CallsM.ren (hcon.err hx122) [0, 1] 12 rfl rfl rfl rfl)) ?_ | refine ex_callM (CallsM.more1 (CallsM.ren (hcon.err hx122) [0, 1] 12 rfl rfl rfl rfl)) ?_ | refine ex_callM (CallsM.moreL (CallsM.ren (hcon.err hx122) [0, 1] 12 rfl rfl rfl rfl)) ?_
          first | exact ⟨⟨_, rfl, rfl⟩, rfl, rfl⟩ | exact ⟨by kernel_rfl, ⟨_, rfl, rfl⟩, rfl, rfl⟩
        replace hT := (and_ok hx122).symm.trans hT
        first | refine ex_callM (CallsM.ren (hcon.ok hx122) [0, 1] 12 rfl rfl rfl rfl) ?_ | refine ex_callM (CallsM.more0 (CallsM.ren (hcon.ok hx122) [0, 1] 12 rfl rfl rfl rfl)) ?_ | refine ex_callM (CallsM.more1 (CallsM.ren (hcon.ok hx122) [0, 1] 12 rfl rfl rfl rfl)) ?_ | refine ex_callM (CallsM.moreL (CallsM.ren (hcon.ok hx122) [0, 1] 12 rfl rfl rfl rfl)) ?_
        clear hcon
        have hs5 := (Up.ok (Up.take hL t_rcur 0) hs4 hx122).1
        obtain rfl := mv_take1 hx122
        obtain rfl : PR.ok (ts3.length : Int) ⟨i3 + 1 + 1, xs3, ts3 ++ [(⟨9, 0, false, [], [], x, k, cs⟩ : TY)]⟩ = T := hT
        have htl := hs3.lt'
        have hi3 := hs3.lt
        repeat' (first | refine ex_true (by first | decide | omega | assumption | (with_reducible exact rfl)) ?_ | refine ex_false (by first | decide | omega | assumption | exact (fun h => h rfl)) ?_ | refine ex_dec (fun _ => ?_) (fun _ => ?_) | refine ex_u8 _ rfl (by omega) (by omega) ?_ | refine ex_i64 _ rfl (by omega) (by omega) ?_ | refine ex_u64 _ rfl (by omega) (by omega) ?_ | refine and_mk (by first | omega | (with_reducible rfl) | (show drawOk _ _ _ = true; kernel_rfl)) ?_ | refine and_mk ⟨_, rfl⟩ ?_ | refine ex_is _ (List.length_map _) ?_ | refine ex_is _ List.length_nil ?_ | fail "no step")
        first | refine ex_callM (CallsM.ren ((layc_c (L := L) (m := m) (i3 + 1 + 1) ts3 x k cs (by omega))) [0, 1, 2, 3, 10, 11] 12 rfl rfl rfl rfl) ?_ | refine ex_callM (CallsM.more0 (CallsM.ren ((layc_c (L := L) (m := m) (i3 + 1 + 1) ts3 x k cs (by omega))) [0, 1, 2, 3, 10, 11] 12 rfl rfl rfl rfl)) ?_ | refine ex_callM (CallsM.more1 (CallsM.ren ((layc_c (L := L) (m := m) (i3 + 1 + 1) ts3 x k cs (by omega))) [0, 1, 2, 3, 10, 11] 12 rfl rfl rfl rfl)) ?_ | refine ex_callM (CallsM.moreL (CallsM.ren ((layc_c (L := L) (m := m) (i3 + 1 + 1) ts3 x k cs (by omega))) [0, 1, 2, 3, 10, 11] 12 rfl rfl rfl rfl)) ?_
        repeat' (first | refine ex_true (by first | decide | omega | assumption | (with_reducible exact rfl)) ?_ | refine ex_false (by first | decide | omega | assumption | exact (fun h => h rfl)) ?_ | refine ex_dec (fun _ => ?_) (fun _ => ?_) | refine ex_u8 _ rfl (by omega) (by omega) ?_ | refine ex_i64 _ rfl (by omega) (by omega) ?_ | refine ex_u64 _ rfl (by omega) (by omega) ?_ | refine and_mk (by first | omega | (with_reducible rfl) | (show drawOk _ _ _ = true; kernel_rfl)) ?_ | refine and_mk ⟨_, rfl⟩ ?_ | refine ex_is _ (List.length_map _) ?_ | refine ex_is _ List.length_nil ?_ | fail "no step")
        exact ⟨rfl, TLe.rfl, rfl, rfl⟩
    · replace hT := asc (atyB hT hv)
      first | refine ex_callM (CallsM.ren (his) [0, 1] 10 rfl rfl rfl rfl) ?_ | refine ex_callM (CallsM.more0 (CallsM.ren (his) [0, 1] 10 rfl rfl rfl rfl)) ?_ | refine ex_callM (CallsM.more1 (CallsM.ren (his) [0, 1] 10 rfl rfl rfl rfl)) ?_ | refine ex_callM (CallsM.moreL (CallsM.ren (his) [0, 1] 10 rfl rfl rfl rfl)) ?_
      repeat' (first | refine ex_is cs.length (by simp) ?_ | refine ex_true (by first | decide | omega | assumption | (with_reducible exact rfl)) ?_ | refine ex_false (by first | decide | omega | assumption | exact (fun h => h rfl)) ?_ | refine ex_dec (fun _ => ?_) (fun _ => ?_) | refine ex_u8 _ rfl (by omega) (by omega) ?_ | refine ex_i64 _ rfl (by omega) (by omega) ?_ | refine ex_u64 _ rfl (by omega) (by omega) ?_ | refine and_mk (by first | omega | (with_reducible rfl) | (show drawOk _ _ _ = true; kernel_rfl)) ?_ | refine and_mk ⟨_, rfl⟩ ?_ | refine ex_is _ (List.length_map _) ?_ | refine ex_is _ List.length_nil ?_ | fail "no step")
      have hcon := room_c (m := m) ⟨i, xs, ts⟩ hi cs.length (by omega)
      rcases hr : (roomM cs.length) ⟨i, xs, ts⟩ with ⟨_, s9⟩ | ⟨i9, e9⟩
      rotate_left
      · obtain rfl := (and_err hr).symm.trans hT
        first | refine ex_callM (CallsM.ren (hcon.err hr) [0, 1] 10 rfl rfl rfl rfl) ?_ | refine ex_callM (CallsM.more0 (CallsM.ren (hcon.err hr) [0, 1] 10 rfl rfl rfl rfl)) ?_ | refine ex_callM (CallsM.more1 (CallsM.ren (hcon.err hr) [0, 1] 10 rfl rfl rfl rfl)) ?_ | refine ex_callM (CallsM.moreL (CallsM.ren (hcon.err hr) [0, 1] 10 rfl rfl rfl rfl)) ?_
        first | exact ⟨⟨_, rfl, rfl⟩, rfl, rfl⟩ | exact ⟨by kernel_rfl, ⟨_, rfl, rfl⟩, rfl, rfl⟩
      replace hT := (and_ok hr).symm.trans hT
      first | refine ex_callM (CallsM.ren (hcon.ok hr) [0, 1] 10 rfl rfl rfl rfl) ?_ | refine ex_callM (CallsM.more0 (CallsM.ren (hcon.ok hr) [0, 1] 10 rfl rfl rfl rfl)) ?_ | refine ex_callM (CallsM.more1 (CallsM.ren (hcon.ok hr) [0, 1] 10 rfl rfl rfl rfl)) ?_ | refine ex_callM (CallsM.moreL (CallsM.ren (hcon.ok hr) [0, 1] 10 rfl rfl rfl rfl)) ?_
      clear hcon
      obtain rfl := mv_room1 hr
      replace hT := asc (stp1 (asc hT))
      have hs1 := stpS hL hs (isV_k hv)
      repeat' (first | refine ex_true (by first | decide | omega | assumption | (with_reducible exact rfl)) ?_ | refine ex_false (by first | decide | omega | assumption | exact (fun h => h rfl)) ?_ | refine ex_dec (fun _ => ?_) (fun _ => ?_) | refine ex_u8 _ rfl (by omega) (by omega) ?_ | refine ex_i64 _ rfl (by omega) (by omega) ?_ | refine ex_u64 _ rfl (by omega) (by omega) ?_ | refine and_mk (by first | omega | (with_reducible rfl) | (show drawOk _ _ _ = true; kernel_rfl)) ?_ | refine and_mk ⟨_, rfl⟩ ?_ | refine ex_is _ (List.length_map _) ?_ | refine ex_is _ List.length_nil ?_ | fail "no step")
      first | refine ex_callM (CallsM.ren (((take_c (m := m) ⟨i, xs, ts⟩ hi (by omega) w_case).ok (takeY hv))) [0, 1] 10 rfl rfl rfl rfl) ?_ | refine ex_callM (CallsM.more0 (CallsM.ren (((take_c (m := m) ⟨i, xs, ts⟩ hi (by omega) w_case).ok (takeY hv))) [0, 1] 10 rfl rfl rfl rfl)) ?_ | refine ex_callM (CallsM.more1 (CallsM.ren (((take_c (m := m) ⟨i, xs, ts⟩ hi (by omega) w_case).ok (takeY hv))) [0, 1] 10 rfl rfl rfl rfl)) ?_ | refine ex_callM (CallsM.moreL (CallsM.ren (((take_c (m := m) ⟨i, xs, ts⟩ hi (by omega) w_case).ok (takeY hv))) [0, 1] 10 rfl rfl rfl rfl)) ?_
      repeat' (first | refine ex_true (by first | decide | omega | assumption | (with_reducible exact rfl)) ?_ | refine ex_false (by first | decide | omega | assumption | exact (fun h => h rfl)) ?_ | refine ex_dec (fun _ => ?_) (fun _ => ?_) | refine ex_u8 _ rfl (by omega) (by omega) ?_ | refine ex_i64 _ rfl (by omega) (by omega) ?_ | refine ex_u64 _ rfl (by omega) (by omega) ?_ | refine and_mk (by first | omega | (with_reducible rfl) | (show drawOk _ _ _ = true; kernel_rfl)) ?_ | refine and_mk ⟨_, rfl⟩ ?_ | refine ex_is _ (List.length_map _) ?_ | refine ex_is _ List.length_nil ?_ | fail "no step")
      have hcon := num_c (m := m) ⟨i + 1, xs, ts⟩ hs1.i (by omega)
      rcases hx139 : (numberM L) ⟨i + 1, xs, ts⟩ with ⟨v, s9⟩ | ⟨i9, e9⟩
      rotate_left
      · obtain rfl := (and_err hx139).symm.trans hT
        first | refine ex_callM (CallsM.ren (hcon.err hx139) [0, 1] 10 rfl rfl rfl rfl) ?_ | refine ex_callM (CallsM.more0 (CallsM.ren (hcon.err hx139) [0, 1] 10 rfl rfl rfl rfl)) ?_ | refine ex_callM (CallsM.more1 (CallsM.ren (hcon.err hx139) [0, 1] 10 rfl rfl rfl rfl)) ?_ | refine ex_callM (CallsM.moreL (CallsM.ren (hcon.err hx139) [0, 1] 10 rfl rfl rfl rfl)) ?_
        first | exact ⟨⟨_, rfl, rfl⟩, rfl, rfl⟩ | exact ⟨by kernel_rfl, ⟨_, rfl, rfl⟩, rfl, rfl⟩
      replace hT := (and_ok hx139).symm.trans hT
      first | refine ex_callM (CallsM.ren (hcon.ok hx139) [0, 1] 10 rfl rfl rfl rfl) ?_ | refine ex_callM (CallsM.more0 (CallsM.ren (hcon.ok hx139) [0, 1] 10 rfl rfl rfl rfl)) ?_ | refine ex_callM (CallsM.more1 (CallsM.ren (hcon.ok hx139) [0, 1] 10 rfl rfl rfl rfl)) ?_ | refine ex_callM (CallsM.moreL (CallsM.ren (hcon.ok hx139) [0, 1] 10 rfl rfl rfl rfl)) ?_
      clear hcon
      have hs2 := (Up.ok (Up.number hL 0) hs1 hx139).1
      obtain rfl := mv_num1 hx139
      replace hT := asc hT
      repeat' (first | refine ex_true (by first | decide | omega | assumption | (with_reducible exact rfl)) ?_ | refine ex_false (by first | decide | omega | assumption | exact (fun h => h rfl)) ?_ | refine ex_dec (fun _ => ?_) (fun _ => ?_) | refine ex_u8 _ rfl (by omega) (by omega) ?_ | refine ex_i64 _ rfl (by omega) (by omega) ?_ | refine ex_u64 _ rfl (by omega) (by omega) ?_ | refine and_mk (by first | omega | (with_reducible rfl) | (show drawOk _ _ _ = true; kernel_rfl)) ?_ | refine and_mk ⟨_, rfl⟩ ?_ | refine ex_is _ (List.length_map _) ?_ | refine ex_is _ List.length_nil ?_ | fail "no step")
      have hcon := take_c (m := m) ⟨i + 1 + 1, xs, ts⟩ hs2.i (by omega) t_colon
      rcases hx142 : (takeM L t_colon) ⟨i + 1 + 1, xs, ts⟩ with ⟨_, s9⟩ | ⟨i9, e9⟩
      rotate_left
      · obtain rfl := (and_err hx142).symm.trans hT
        first | refine ex_callM (CallsM.ren (hcon.err hx142) [0, 1] 10 rfl rfl rfl rfl) ?_ | refine ex_callM (CallsM.more0 (CallsM.ren (hcon.err hx142) [0, 1] 10 rfl rfl rfl rfl)) ?_ | refine ex_callM (CallsM.more1 (CallsM.ren (hcon.err hx142) [0, 1] 10 rfl rfl rfl rfl)) ?_ | refine ex_callM (CallsM.moreL (CallsM.ren (hcon.err hx142) [0, 1] 10 rfl rfl rfl rfl)) ?_
        first | exact ⟨⟨_, rfl, rfl⟩, rfl, rfl⟩ | exact ⟨by kernel_rfl, ⟨_, rfl, rfl⟩, rfl, rfl⟩
      replace hT := (and_ok hx142).symm.trans hT
      first | refine ex_callM (CallsM.ren (hcon.ok hx142) [0, 1] 10 rfl rfl rfl rfl) ?_ | refine ex_callM (CallsM.more0 (CallsM.ren (hcon.ok hx142) [0, 1] 10 rfl rfl rfl rfl)) ?_ | refine ex_callM (CallsM.more1 (CallsM.ren (hcon.ok hx142) [0, 1] 10 rfl rfl rfl rfl)) ?_ | refine ex_callM (CallsM.moreL (CallsM.ren (hcon.ok hx142) [0, 1] 10 rfl rfl rfl rfl)) ?_
      clear hcon
      have hs3 := (Up.ok (Up.take hL t_colon 0) hs2 hx142).1
      obtain rfl := mv_take1 hx142
      replace hT := asc hT
      repeat' (first | refine ex_true (by first | decide | omega | assumption | (with_reducible exact rfl)) ?_ | refine ex_false (by first | decide | omega | assumption | exact (fun h => h rfl)) ?_ | refine ex_dec (fun _ => ?_) (fun _ => ?_) | refine ex_u8 _ rfl (by omega) (by omega) ?_ | refine ex_i64 _ rfl (by omega) (by omega) ?_ | refine ex_u64 _ rfl (by omega) (by omega) ?_ | refine and_mk (by first | omega | (with_reducible rfl) | (show drawOk _ _ _ = true; kernel_rfl)) ?_ | refine and_mk ⟨_, rfl⟩ ?_ | refine ex_is _ (List.length_map _) ?_ | refine ex_is _ List.length_nil ?_ | fail "no step")
      have hcon := hin ⟨i + 1 + 1 + 1, xs, ts⟩ (hs3.less (by omega))
      rcases hx : (innerM L m kd) ⟨i + 1 + 1 + 1, xs, ts⟩ with ⟨k, ⟨i3, xs3, ts3⟩⟩ | ⟨i9, e9⟩
      rotate_left
      · obtain rfl := (and_err hx).symm.trans hT
        first | refine ex_callM (CallsM.ren (hcon.err hx) [0, 1, 2, 3, 7, 9] 10 rfl rfl rfl rfl) ?_ | refine ex_callM (CallsM.more0 (CallsM.ren (hcon.err hx) [0, 1, 2, 3, 7, 9] 10 rfl rfl rfl rfl)) ?_ | refine ex_callM (CallsM.more1 (CallsM.ren (hcon.err hx) [0, 1, 2, 3, 7, 9] 10 rfl rfl rfl rfl)) ?_ | refine ex_callM (CallsM.moreL (CallsM.ren (hcon.err hx) [0, 1, 2, 3, 7, 9] 10 rfl rfl rfl rfl)) ?_
        first | exact ⟨⟨_, rfl, rfl⟩, rfl, rfl⟩ | exact ⟨by kernel_rfl, ⟨_, rfl, rfl⟩, rfl, rfl⟩
      replace hT := (and_ok hx).symm.trans hT
      first | refine ex_callM (CallsM.ren (hcon.ok hx) [0, 1, 2, 3, 7, 9] 10 rfl rfl rfl rfl) ?_ | refine ex_callM (CallsM.more0 (CallsM.ren (hcon.ok hx) [0, 1, 2, 3, 7, 9] 10 rfl rfl rfl rfl)) ?_ | refine ex_callM (CallsM.more1 (CallsM.ren (hcon.ok hx) [0, 1, 2, 3, 7, 9] 10 rfl rfl rfl rfl)) ?_ | refine ex_callM (CallsM.moreL (CallsM.ren (hcon.ok hx) [0, 1, 2, 3, 7, 9] 10 rfl rfl rfl rfl)) ?_
      clear hcon
      have hs4 := (Up.ok (up_inner m hu (c + 7)) (show SOk L (0 + (c + 7)) ⟨i + 1 + 1 + 1, xs, ts⟩ from hs3.less (by omega)) hx).1
      have hi3 : i + 1 + 1 + 1 ≤ i3 := (Up.ok (c := 0) (up_inner m hu 0) (hs3.less (by omega)) hx).2
      replace hs4 : SOk L (c + 7) ⟨i3, xs3, ts3⟩ := hs4.less (by omega)
      repeat' (first | refine ex_true (by first | decide | omega | assumption | (with_reducible exact rfl)) ?_ | refine ex_false (by first | decide | omega | assumption | exact (fun h => h rfl)) ?_ | refine ex_dec (fun _ => ?_) (fun _ => ?_) | refine ex_u8 _ rfl (by omega) (by omega) ?_ | refine ex_i64 _ rfl (by omega) (by omega) ?_ | refine ex_u64 _ rfl (by omega) (by omega) ?_ | refine and_mk (by first | omega | (with_reducible rfl) | (show drawOk _ _ _ = true; kernel_rfl)) ?_ | refine and_mk ⟨_, rfl⟩ ?_ | refine ex_is _ (List.length_map _) ?_ | refine ex_is _ List.length_nil ?_ | fail "no step")
      refine ex_app (cs.length) (1) 1000 (by first | rfl | (simp; done) | (simp; omega)) (by first | rfl | (simp; done) | (simp; omega)) rfl (by omega) ?_
      refine ex_is (List.map caD (cs ++ [(⟨v, k⟩ : CA)])) (by rw [List.map_append]; rfl) ?_
      repeat' (first | refine ex_true (by first | decide | omega | assumption | (with_reducible exact rfl)) ?_ | refine ex_false (by first | decide | omega | assumption | exact (fun h => h rfl)) ?_ | refine ex_dec (fun _ => ?_) (fun _ => ?_) | refine ex_u8 _ rfl (by omega) (by omega) ?_ | refine ex_i64 _ rfl (by omega) (by omega) ?_ | refine ex_u64 _ rfl (by omega) (by omega) ?_ | refine and_mk (by first | omega | (with_reducible rfl) | (show drawOk _ _ _ = true; kernel_rfl)) ?_ | refine and_mk ⟨_, rfl⟩ ?_ | refine ex_is _ (List.length_map _) ?_ | refine ex_is _ List.length_nil ?_ | fail "no step")
      replace hT := asc hT
      have hcon := take_c (m := m) ⟨i3, xs3, ts3⟩ hs4.i (by omega) t_semi
      rcases hx153 : (takeM L t_semi) ⟨i3, xs3, ts3⟩ with ⟨_, s9⟩ | ⟨i9, e9⟩
      rotate_left
      · obtain rfl := (and_err hx153).symm.trans hT
        first | refine ex_callM (CallsM.ren (hcon.err hx153) [0, 1] 14 rfl rfl rfl rfl) ?_ | refine ex_callM (CallsM.more0 (CallsM.ren (hcon.err hx153) [0, 1] 14 rfl rfl rfl rfl)) ?_ | refine ex_callM (CallsM.more1 (CallsM.ren (hcon.err hx153) [0, 1] 14 rfl rfl rfl rfl)) ?_ | refine ex_callM (CallsM.moreL (CallsM.ren (hcon.err hx153) [0, 1] 14 rfl rfl rfl rfl)) ?_
        first | exact ⟨⟨_, rfl, rfl⟩, rfl, rfl⟩ | exact ⟨by kernel_rfl, ⟨_, rfl, rfl⟩, rfl, rfl⟩
      replace hT := (and_ok hx153).symm.trans hT
      first | refine ex_callM (CallsM.ren (hcon.ok hx153) [0, 1] 14 rfl rfl rfl rfl) ?_ | refine ex_callM (CallsM.more0 (CallsM.ren (hcon.ok hx153) [0, 1] 14 rfl rfl rfl rfl)) ?_ | refine ex_callM (CallsM.more1 (CallsM.ren (hcon.ok hx153) [0, 1] 14 rfl rfl rfl rfl)) ?_ | refine ex_callM (CallsM.moreL (CallsM.ren (hcon.ok hx153) [0, 1] 14 rfl rfl rfl rfl)) ?_
      clear hcon
      have hs5 := (Up.ok (Up.take hL t_semi 0) hs4 hx153).1
      obtain rfl := mv_take1 hx153
      repeat' (first | refine ex_true (by first | decide | omega | assumption | (with_reducible exact rfl)) ?_ | refine ex_false (by first | decide | omega | assumption | exact (fun h => h rfl)) ?_ | refine ex_dec (fun _ => ?_) (fun _ => ?_) | refine ex_u8 _ rfl (by omega) (by omega) ?_ | refine ex_i64 _ rfl (by omega) (by omega) ?_ | refine ex_u64 _ rfl (by omega) (by omega) ?_ | refine and_mk (by first | omega | (with_reducible rfl) | (show drawOk _ _ _ = true; kernel_rfl)) ?_ | refine and_mk ⟨_, rfl⟩ ?_ | refine ex_is _ (List.length_map _) ?_ | refine ex_is _ List.length_nil ?_ | fail "no step")
      exact ex_round (i3 + 1, xs3, ts3, cs ++ [(⟨v, k⟩ : CA)], n) ⟨hs5.less (by omega), by omega, by simp; omega, hT⟩ (by show L.length - (i3 + 1) < L.length - i; omega) (SLe.ren [(0, 0), (1, 1), (2, 2), (3, 3), (4, 4), (5, 5), (6, 6), (10, 7), (13, 8), (11, 9)] ⟨⟨rfl, rfl⟩, ⟨rfl, rfl⟩, trivial⟩ ⟨⟨rfl, rfl⟩, ⟨rfl, rfl⟩, ⟨rfl, rfl⟩, ⟨rfl, rfl⟩, ⟨rfl, rfl⟩, ⟨rfl, rfl⟩, ⟨rfl, rfl⟩, ⟨rfl, rfl⟩, trivial⟩ rfl)
end
end Go.Proofs.YtkbhmcdoedmffaaDoor

namespace Go.Proofs.YtkbhmcdoedmffaaDoor
set_option linter.unusedVariables false
set_option linter.unusedSimpArgs false
open Go.RowKit
set_option maxRecDepth 100000

section
variable {L : List TokP} {m : Nat}
def sizedTV : Option Nat → TV
  | some k => .tup [c1 (di k), c1 (db true)]
  | none => .tup [c1 (di 0), c1 (db false)]
theorem sized_c (w : List UInt8) : CallsA Tryd.prog ΓL 53 [c1 (ds (bs w))] (sizedTV (sizedV w)) := by
  by_cases h : w = w_bytes ∨ w = w_zero ∨ w = w_skip ∨ w = w_window ∨ w = w_at
  · rcases h with rfl | rfl | rfl | rfl | rfl
    all_goals
      refine fn_rule (C := ⟨Tryd.prog, layF, Tryd.f53.ntmps, ΓL, 0, [], []⟩) layF_ok mixed Tryd.func53 rfl (by kernel_rfl) rfl rfl rfl ?_
      repeat' (first | refine ex_true (by first | decide | omega | assumption | (with_reducible exact rfl)) ?_ | refine ex_false (by first | decide | omega | assumption | exact (fun h => h rfl)) ?_ | refine ex_dec (fun _ => ?_) (fun _ => ?_) | refine ex_u8 _ rfl (by omega) (by omega) ?_ | refine ex_i64 _ rfl (by omega) (by omega) ?_ | refine ex_u64 _ rfl (by omega) (by omega) ?_ | refine and_mk (by first | omega | (with_reducible rfl) | (show drawOk _ _ _ = true; kernel_rfl)) ?_ | refine and_mk ⟨_, rfl⟩ ?_ | refine ex_is _ (List.length_map _) ?_ | refine ex_is _ List.length_nil ?_ | fail "no step")
      exact TLe.rfl
  · have hne : ∀ l, l ∈ [w_bytes, w_zero, w_skip, w_window, w_at] → ¬ bs w = bs l := fun l hl he => h (by
      rw [bsj.1 he]
      simpa only [List.mem_cons, List.not_mem_nil, or_false] using hl)
    have h0 : sizedV w = none := by
      unfold sizedV
      rw [if_neg (fun e => h (by simp [e])), if_neg (fun e => h (by simp [e])), if_neg (fun e => h (by simp [e])), if_neg (fun e => h (by simp [e])), if_neg (fun e => h (by simp [e]))]
    rw [h0]
    refine fn_rule (C := ⟨Tryd.prog, layF, Tryd.f53.ntmps, ΓL, 0, [], []⟩) layF_ok mixed Tryd.func53 rfl (by kernel_rfl) rfl rfl rfl ?_
    repeat' (first | refine ex_false (hne _ (by decide)) ?_ | refine ex_true (by first | decide | omega | assumption | (with_reducible exact rfl)) ?_ | refine ex_false (by first | decide | omega | assumption | exact (fun h => h rfl)) ?_ | refine ex_dec (fun _ => ?_) (fun _ => ?_) | refine ex_u8 _ rfl (by omega) (by omega) ?_ | refine ex_i64 _ rfl (by omega) (by omega) ?_ | refine ex_u64 _ rfl (by omega) (by omega) ?_ | refine and_mk (by first | omega | (with_reducible rfl) | (show drawOk _ _ _ = true; kernel_rfl)) ?_ | refine and_mk ⟨_, rfl⟩ ?_ | refine ex_is _ (List.length_map _) ?_ | refine ex_is _ List.length_nil ?_ | fail "no step")
    exact TLe.rfl
set_option maxHeartbeats 4000000 in
theorem kind_named (hL : TokOk L) (hn : L.length ≤ 100000) (hm : m ≤ 32) (s : PS) (hs : SOk L 0 s) (hv : namedV L s.i = true) {kd : PM Int} : C2 L m 39 [] (kindF L m kd) (fun k => Ti k) s := by
  refine C2.of fun T hT => ?_
  unfold kindF at hT
  obtain ⟨i, xs, ts⟩ := s
  have hv : namedV L i = true := hv
  replace hT := aty hT hv
  have hnm := named_c (m := m) i hs.lt
  rw [hv] at hnm
  refine fn_ruleP (C := ⟨Tryd.prog, layF, Tryd.f39.ntmps, ΓL, 6, [], []⟩) layF_ok mixed Tryd.func39 rfl (by kernel_rfl) rfl rfl rfl SLe.rfl ?_
  repeat' (first | refine ex_true (by first | decide | omega | assumption | (with_reducible exact rfl)) ?_ | refine ex_false (by first | decide | omega | assumption | exact (fun h => h rfl)) ?_ | refine ex_dec (fun _ => ?_) (fun _ => ?_) | refine ex_u8 _ rfl (by omega) (by omega) ?_ | refine ex_i64 _ rfl (by omega) (by omega) ?_ | refine ex_u64 _ rfl (by omega) (by omega) ?_ | refine and_mk (by first | omega | (with_reducible rfl) | (show drawOk _ _ _ = true; kernel_rfl)) ?_ | refine and_mk ⟨_, rfl⟩ ?_ | refine ex_is _ (List.length_map _) ?_ | refine ex_is _ List.length_nil ?_ | fail "no step")
  first | refine ex_callM (CallsM.ren (hnm) [0, 1] 6 rfl rfl rfl rfl) ?_ | refine ex_callM (CallsM.more0 (CallsM.ren (hnm) [0, 1] 6 rfl rfl rfl rfl)) ?_ | refine ex_callM (CallsM.more1 (CallsM.ren (hnm) [0, 1] 6 rfl rfl rfl rfl)) ?_ | refine ex_callM (CallsM.moreL (CallsM.ren (hnm) [0, 1] 6 rfl rfl rfl rfl)) ?_
  repeat' (first | refine ex_true (by first | decide | omega | assumption | (with_reducible exact rfl)) ?_ | refine ex_false (by first | decide | omega | assumption | exact (fun h => h rfl)) ?_ | refine ex_dec (fun _ => ?_) (fun _ => ?_) | refine ex_u8 _ rfl (by omega) (by omega) ?_ | refine ex_i64 _ rfl (by omega) (by omega) ?_ | refine ex_u64 _ rfl (by omega) (by omega) ?_ | refine and_mk (by first | omega | (with_reducible rfl) | (show drawOk _ _ _ = true; kernel_rfl)) ?_ | refine and_mk ⟨_, rfl⟩ ?_ | refine ex_is _ (List.length_map _) ?_ | refine ex_is _ List.length_nil ?_ | fail "no step")
  have hcon := ref_c hL hn hm ⟨i, xs, ts⟩ hs
  rcases hx : (refM L m) ⟨i, xs, ts⟩ with ⟨t, ⟨i2, xs2, ts2⟩⟩ | ⟨i9, e9⟩
  rotate_left
  · obtain rfl := (and_err hx).symm.trans hT
    first | refine ex_callM (CallsM.ren (hcon.err hx) [0, 1, 2, 3, 4, 5] 6 rfl rfl rfl rfl) ?_ | refine ex_callM (CallsM.more0 (CallsM.ren (hcon.err hx) [0, 1, 2, 3, 4, 5] 6 rfl rfl rfl rfl)) ?_ | refine ex_callM (CallsM.more1 (CallsM.ren (hcon.err hx) [0, 1, 2, 3, 4, 5] 6 rfl rfl rfl rfl)) ?_ | refine ex_callM (CallsM.moreL (CallsM.ren (hcon.err hx) [0, 1, 2, 3, 4, 5] 6 rfl rfl rfl rfl)) ?_
    first | exact ⟨⟨_, rfl, rfl⟩, rfl, rfl⟩ | exact ⟨by kernel_rfl, ⟨_, rfl, rfl⟩, rfl, rfl⟩
  replace hT := (and_ok hx).symm.trans hT
  first | refine ex_callM (CallsM.ren (hcon.ok hx) [0, 1, 2, 3, 4, 5] 6 rfl rfl rfl rfl) ?_ | refine ex_callM (CallsM.more0 (CallsM.ren (hcon.ok hx) [0, 1, 2, 3, 4, 5] 6 rfl rfl rfl rfl)) ?_ | refine ex_callM (CallsM.more1 (CallsM.ren (hcon.ok hx) [0, 1, 2, 3, 4, 5] 6 rfl rfl rfl rfl)) ?_ | refine ex_callM (CallsM.moreL (CallsM.ren (hcon.ok hx) [0, 1, 2, 3, 4, 5] 6 rfl rfl rfl rfl)) ?_
  clear hcon
  have hs2 := (Up.ok (up_ref hL m) hs hx).1
  obtain rfl := (keep_ref).eq hx
  have hcon := array_c hL hn hm t ⟨i2, xs2, ts⟩ hs2
  rcases hy : (arrayM L m t) ⟨i2, xs2, ts⟩ with ⟨k, ⟨i3, xs3, ts3⟩⟩ | ⟨i9, e9⟩
  rotate_left
  · obtain rfl := hy.symm.trans hT
    first | refine ex_callM (CallsM.ren (hcon.err hy) [0, 1, 2, 3, 6, 5] 7 rfl rfl rfl rfl) ?_ | refine ex_callM (CallsM.more0 (CallsM.ren (hcon.err hy) [0, 1, 2, 3, 6, 5] 7 rfl rfl rfl rfl)) ?_ | refine ex_callM (CallsM.more1 (CallsM.ren (hcon.err hy) [0, 1, 2, 3, 6, 5] 7 rfl rfl rfl rfl)) ?_ | refine ex_callM (CallsM.moreL (CallsM.ren (hcon.err hy) [0, 1, 2, 3, 6, 5] 7 rfl rfl rfl rfl)) ?_
    first | exact ⟨⟨_, rfl, rfl⟩, rfl, rfl⟩ | exact ⟨by kernel_rfl, ⟨_, rfl, rfl⟩, rfl, rfl⟩
  obtain rfl := hy.symm.trans hT
  first | refine ex_callM (CallsM.ren (hcon.ok hy) [0, 1, 2, 3, 6, 5] 7 rfl rfl rfl rfl) ?_ | refine ex_callM (CallsM.more0 (CallsM.ren (hcon.ok hy) [0, 1, 2, 3, 6, 5] 7 rfl rfl rfl rfl)) ?_ | refine ex_callM (CallsM.more1 (CallsM.ren (hcon.ok hy) [0, 1, 2, 3, 6, 5] 7 rfl rfl rfl rfl)) ?_ | refine ex_callM (CallsM.moreL (CallsM.ren (hcon.ok hy) [0, 1, 2, 3, 6, 5] 7 rfl rfl rfl rfl)) ?_
  clear hcon
  repeat' (first | refine ex_true (by first | decide | omega | assumption | (with_reducible exact rfl)) ?_ | refine ex_false (by first | decide | omega | assumption | exact (fun h => h rfl)) ?_ | refine ex_dec (fun _ => ?_) (fun _ => ?_) | refine ex_u8 _ rfl (by omega) (by omega) ?_ | refine ex_i64 _ rfl (by omega) (by omega) ?_ | refine ex_u64 _ rfl (by omega) (by omega) ?_ | refine and_mk (by first | omega | (with_reducible rfl) | (show drawOk _ _ _ = true; kernel_rfl)) ?_ | refine and_mk ⟨_, rfl⟩ ?_ | refine ex_is _ (List.length_map _) ?_ | refine ex_is _ List.length_nil ?_ | fail "no step")
  exact ⟨rfl, TLe.rfl, rfl, rfl⟩
theorem kind_bad (s : PS) (hi : s.i < L.length) (hv : startsV L s.i = false) {kd : PM Int} : C2 L m 39 [] (kindF L m kd) (fun k => Ti k) s := by
  refine C2.of fun T hT => ?_
  unfold kindF at hT
  obtain ⟨i, xs, ts⟩ := s
  have hv : startsV L i = false := hv
  have hi : i < L.length := hi
  have hv1 : namedV L i = false := by
    unfold startsV at hv
    rw [Bool.or_eq_false_iff] at hv
    exact hv.1
  obtain rfl : PR.err i 4 = T := atn (atn hT hv1) hv
  have hnm := named_c (m := m) i hi
  rw [hv1] at hnm
  have hst := starts_c (m := m) i hi
  rw [hv] at hst
  refine fn_ruleP (C := ⟨Tryd.prog, layF, Tryd.f39.ntmps, ΓL, 6, [], []⟩) layF_ok mixed Tryd.func39 rfl (by kernel_rfl) rfl rfl rfl SLe.rfl ?_
  repeat' (first | refine ex_true (by first | decide | omega | assumption | (with_reducible exact rfl)) ?_ | refine ex_false (by first | decide | omega | assumption | exact (fun h => h rfl)) ?_ | refine ex_dec (fun _ => ?_) (fun _ => ?_) | refine ex_u8 _ rfl (by omega) (by omega) ?_ | refine ex_i64 _ rfl (by omega) (by omega) ?_ | refine ex_u64 _ rfl (by omega) (by omega) ?_ | refine and_mk (by first | omega | (with_reducible rfl) | (show drawOk _ _ _ = true; kernel_rfl)) ?_ | refine and_mk ⟨_, rfl⟩ ?_ | refine ex_is _ (List.length_map _) ?_ | refine ex_is _ List.length_nil ?_ | fail "no step")
  first | refine ex_callM (CallsM.ren (hnm) [0, 1] 6 rfl rfl rfl rfl) ?_ | refine ex_callM (CallsM.more0 (CallsM.ren (hnm) [0, 1] 6 rfl rfl rfl rfl)) ?_ | refine ex_callM (CallsM.more1 (CallsM.ren (hnm) [0, 1] 6 rfl rfl rfl rfl)) ?_ | refine ex_callM (CallsM.moreL (CallsM.ren (hnm) [0, 1] 6 rfl rfl rfl rfl)) ?_
  repeat' (first | refine ex_true (by first | decide | omega | assumption | (with_reducible exact rfl)) ?_ | refine ex_false (by first | decide | omega | assumption | exact (fun h => h rfl)) ?_ | refine ex_dec (fun _ => ?_) (fun _ => ?_) | refine ex_u8 _ rfl (by omega) (by omega) ?_ | refine ex_i64 _ rfl (by omega) (by omega) ?_ | refine ex_u64 _ rfl (by omega) (by omega) ?_ | refine and_mk (by first | omega | (with_reducible rfl) | (show drawOk _ _ _ = true; kernel_rfl)) ?_ | refine and_mk ⟨_, rfl⟩ ?_ | refine ex_is _ (List.length_map _) ?_ | refine ex_is _ List.length_nil ?_ | fail "no step")
  first | refine ex_callM (CallsM.ren (hst) [0, 1] 6 rfl rfl rfl rfl) ?_ | refine ex_callM (CallsM.more0 (CallsM.ren (hst) [0, 1] 6 rfl rfl rfl rfl)) ?_ | refine ex_callM (CallsM.more1 (CallsM.ren (hst) [0, 1] 6 rfl rfl rfl rfl)) ?_ | refine ex_callM (CallsM.moreL (CallsM.ren (hst) [0, 1] 6 rfl rfl rfl rfl)) ?_
  repeat' (first | refine ex_true (by first | decide | omega | assumption | (with_reducible exact rfl)) ?_ | refine ex_false (by first | decide | omega | assumption | exact (fun h => h rfl)) ?_ | refine ex_dec (fun _ => ?_) (fun _ => ?_) | refine ex_u8 _ rfl (by omega) (by omega) ?_ | refine ex_i64 _ rfl (by omega) (by omega) ?_ | refine ex_u64 _ rfl (by omega) (by omega) ?_ | refine and_mk (by first | omega | (with_reducible rfl) | (show drawOk _ _ _ = true; kernel_rfl)) ?_ | refine and_mk ⟨_, rfl⟩ ?_ | refine ex_is _ (List.length_map _) ?_ | refine ex_is _ List.length_nil ?_ | fail "no step")
  first | refine ex_callM (CallsM.ren ((fail_c (m := m) i 4 hi)) [0, 1] 6 rfl rfl rfl rfl) ?_ | refine ex_callM (CallsM.more0 (CallsM.ren ((fail_c (m := m) i 4 hi)) [0, 1] 6 rfl rfl rfl rfl)) ?_ | refine ex_callM (CallsM.more1 (CallsM.ren ((fail_c (m := m) i 4 hi)) [0, 1] 6 rfl rfl rfl rfl)) ?_ | refine ex_callM (CallsM.moreL (CallsM.ren ((fail_c (m := m) i 4 hi)) [0, 1] 6 rfl rfl rfl rfl)) ?_
  exact ⟨⟨_, rfl, rfl⟩, rfl, rfl⟩
end
end Go.Proofs.YtkbhmcdoedmffaaDoor

namespace Go.Proofs.YtkbhmcdoedmffaaDoor
set_option linter.unusedVariables false
set_option linter.unusedSimpArgs false
open Go.RowKit
set_option maxRecDepth 100000

section
variable {L : List TokP} {m : Nat}
set_option maxHeartbeats 8000000 in
theorem kind_word (hL : TokOk L) (hn : L.length ≤ 100000) (hm : m ≤ 32) {kd : PM Int} (hu : Up L kd 0 0) (hc : ∀ m', m = m' + 1 → ∀ s, SOk L 0 s → C2 L m' 39 [] kd (fun k => Ti k) s) (s : PS) (hs : SOk L 0 s) (hv1 : namedV L s.i = false) (hv : startsV L s.i = true) :
    C2 L m 39 [] (kindF L m kd) (fun k => Ti k) s := by
  refine C2.of fun T hT => ?_
  unfold kindF at hT
  obtain ⟨i, xs, ts⟩ := s
  have hv : startsV L i = true := hv
  have hv1 : namedV L i = false := hv1
  have hi := hs.lt
  have hin : ∀ s, SOk L 0 s → C2 L m 56 [] (innerM L m kd) (fun k => Ti k) s := fun s hs => inner_c hm s hs.i fun m' e => hc m' e s hs
  have hs1 := stpS hL hs (startsV_k hv)
  have hT1 := atn hT hv1
  have hT2 := aty hT1 hv
  have hT : wordM L m kd (tk L i).t ⟨i + 1, xs, ts⟩ = T := hT2
  clear hT1 hT2
  have hnm := named_c (m := m) i hi
  rw [hv1] at hnm
  have hst := starts_c (m := m) i hi
  rw [hv] at hst
  have ha := ahead_c (L := L) (m := m) i hi
  generalize tk L i = u at *
  obtain ⟨w, hw⟩ : ∃ w, u.t = w := ⟨_, rfl⟩
  simp only [tokD, hw] at ha
  rw [hw] at hT
  unfold wordM at hT
  have hz := sized_c w
  have htl := hs1.lt'
  refine fn_ruleP (C := ⟨Tryd.prog, layF, Tryd.f39.ntmps, ΓL, 6, [], []⟩) layF_ok mixed Tryd.func39 rfl (by kernel_rfl) rfl rfl rfl start2 ?_
  repeat' (first | refine ex_true (by first | decide | omega | assumption | (with_reducible exact rfl)) ?_ | refine ex_false (by first | decide | omega | assumption | exact (fun h => h rfl)) ?_ | refine ex_dec (fun _ => ?_) (fun _ => ?_) | refine ex_u8 _ rfl (by omega) (by omega) ?_ | refine ex_i64 _ rfl (by omega) (by omega) ?_ | refine ex_u64 _ rfl (by omega) (by omega) ?_ | refine and_mk (by first | omega | (with_reducible rfl) | (show drawOk _ _ _ = true; kernel_rfl)) ?_ | refine and_mk ⟨_, rfl⟩ ?_ | refine ex_is _ (List.length_map _) ?_ | refine ex_is _ List.length_nil ?_ | fail "no step")
  first | refine ex_callM (CallsM.ren (hnm) [0, 1] 7 rfl rfl rfl rfl) ?_ | refine ex_callM (CallsM.more0 (CallsM.ren (hnm) [0, 1] 7 rfl rfl rfl rfl)) ?_ | refine ex_callM (CallsM.more1 (CallsM.ren (hnm) [0, 1] 7 rfl rfl rfl rfl)) ?_ | refine ex_callM (CallsM.moreL (CallsM.ren (hnm) [0, 1] 7 rfl rfl rfl rfl)) ?_
  repeat' (first | refine ex_true (by first | decide | omega | assumption | (with_reducible exact rfl)) ?_ | refine ex_false (by first | decide | omega | assumption | exact (fun h => h rfl)) ?_ | refine ex_dec (fun _ => ?_) (fun _ => ?_) | refine ex_u8 _ rfl (by omega) (by omega) ?_ | refine ex_i64 _ rfl (by omega) (by omega) ?_ | refine ex_u64 _ rfl (by omega) (by omega) ?_ | refine and_mk (by first | omega | (with_reducible rfl) | (show drawOk _ _ _ = true; kernel_rfl)) ?_ | refine and_mk ⟨_, rfl⟩ ?_ | refine ex_is _ (List.length_map _) ?_ | refine ex_is _ List.length_nil ?_ | fail "no step")
  first | refine ex_callM (CallsM.ren (hst) [0, 1] 7 rfl rfl rfl rfl) ?_ | refine ex_callM (CallsM.more0 (CallsM.ren (hst) [0, 1] 7 rfl rfl rfl rfl)) ?_ | refine ex_callM (CallsM.more1 (CallsM.ren (hst) [0, 1] 7 rfl rfl rfl rfl)) ?_ | refine ex_callM (CallsM.moreL (CallsM.ren (hst) [0, 1] 7 rfl rfl rfl rfl)) ?_
  repeat' (first | refine ex_true (by first | decide | omega | assumption | (with_reducible exact rfl)) ?_ | refine ex_false (by first | decide | omega | assumption | exact (fun h => h rfl)) ?_ | refine ex_dec (fun _ => ?_) (fun _ => ?_) | refine ex_u8 _ rfl (by omega) (by omega) ?_ | refine ex_i64 _ rfl (by omega) (by omega) ?_ | refine ex_u64 _ rfl (by omega) (by omega) ?_ | refine and_mk (by first | omega | (with_reducible rfl) | (show drawOk _ _ _ = true; kernel_rfl)) ?_ | refine and_mk ⟨_, rfl⟩ ?_ | refine ex_is _ (List.length_map _) ?_ | refine ex_is _ List.length_nil ?_ | fail "no step")
  first | refine ex_callM (CallsM.ren (ha) [0, 1] 7 rfl rfl rfl rfl) ?_ | refine ex_callM (CallsM.more0 (CallsM.ren (ha) [0, 1] 7 rfl rfl rfl rfl)) ?_ | refine ex_callM (CallsM.more1 (CallsM.ren (ha) [0, 1] 7 rfl rfl rfl rfl)) ?_ | refine ex_callM (CallsM.moreL (CallsM.ren (ha) [0, 1] 7 rfl rfl rfl rfl)) ?_
  rcases hzw : sizedV w with _ | k <;> rw [hzw] at hT hz
  · have hz : CallsA Tryd.prog ΓL 53 [c1 (ds (bs w))] (.tup [c1 (di 0), c1 (db false)]) := hz
    dsimp only at hT
    by_cases h1 : w = w_rest
    · subst h1
      rw [if_pos rfl] at hT
      repeat' (first | refine ex_call (plain_c 6) ?_ | refine ex_call hz ?_ | refine ex_i64 ((i + 1 : Nat) : Int) (by omega) (by omega) (by omega) ?_ | refine ex_u64 ((i + 1 : Nat) : Int) (by omega) (by omega) (by omega) ?_ | refine ex_u8 ((i + 1 : Nat) : Int) (by omega) (by omega) (by omega) ?_ | refine ex_true (by first | decide | omega | assumption | (with_reducible exact rfl)) ?_ | refine ex_false (by first | decide | omega | assumption | exact (fun h => h rfl)) ?_ | refine ex_dec (fun _ => ?_) (fun _ => ?_) | refine ex_u8 _ rfl (by omega) (by omega) ?_ | refine ex_i64 _ rfl (by omega) (by omega) ?_ | refine ex_u64 _ rfl (by omega) (by omega) ?_ | refine and_mk (by first | omega | (with_reducible rfl) | (show drawOk _ _ _ = true; kernel_rfl)) ?_ | refine and_mk ⟨_, rfl⟩ ?_ | refine ex_is _ (List.length_map _) ?_ | refine ex_is _ List.length_nil ?_ | fail "no step")
      have hcon := hin ⟨i + 1, xs, ts⟩ (hs1.less (by omega))
      rcases hx : (innerM L m kd) ⟨i + 1, xs, ts⟩ with ⟨k, ⟨i3, xs3, ts3⟩⟩ | ⟨i9, e9⟩
      rotate_left
      · obtain rfl := (and_err hx).symm.trans hT
        first | refine ex_callM (CallsM.ren (hcon.err hx) [0, 1, 2, 3, 6, 5] 8 rfl rfl rfl rfl) ?_ | refine ex_callM (CallsM.more0 (CallsM.ren (hcon.err hx) [0, 1, 2, 3, 6, 5] 8 rfl rfl rfl rfl)) ?_ | refine ex_callM (CallsM.more1 (CallsM.ren (hcon.err hx) [0, 1, 2, 3, 6, 5] 8 rfl rfl rfl rfl)) ?_ | refine ex_callM (CallsM.moreL (CallsM.ren (hcon.err hx) [0, 1, 2, 3, 6, 5] 8 rfl rfl rfl rfl)) ?_
        first | exact ⟨⟨_, rfl, rfl⟩, rfl, rfl⟩ | exact ⟨by kernel_rfl, ⟨_, rfl, rfl⟩, rfl, rfl⟩
      replace hT := (and_ok hx).symm.trans hT
      first | refine ex_callM (CallsM.ren (hcon.ok hx) [0, 1, 2, 3, 6, 5] 8 rfl rfl rfl rfl) ?_ | refine ex_callM (CallsM.more0 (CallsM.ren (hcon.ok hx) [0, 1, 2, 3, 6, 5] 8 rfl rfl rfl rfl)) ?_ | refine ex_callM (CallsM.more1 (CallsM.ren (hcon.ok hx) [0, 1, 2, 3, 6, 5] 8 rfl rfl rfl rfl)) ?_ | refine ex_callM (CallsM.moreL (CallsM.ren (hcon.ok hx) [0, 1, 2, 3, 6, 5] 8 rfl rfl rfl rfl)) ?_
      clear hcon
      have hs3 := (Up.ok (up_inner m hu 1) hs1 hx).1
      have htl := hs3.lt'
      have hi3 := hs3.lt
      obtain rfl : PR.ok (ts3.length : Int) ⟨i3, xs3, ts3 ++ [(⟨6, 0, false, [], [], -1, k, []⟩ : TY)]⟩ = T := hT
      repeat' (first | refine ex_true (by first | decide | omega | assumption | (with_reducible exact rfl)) ?_ | refine ex_false (by first | decide | omega | assumption | exact (fun h => h rfl)) ?_ | refine ex_dec (fun _ => ?_) (fun _ => ?_) | refine ex_u8 _ rfl (by omega) (by omega) ?_ | refine ex_i64 _ rfl (by omega) (by omega) ?_ | refine ex_u64 _ rfl (by omega) (by omega) ?_ | refine and_mk (by first | omega | (with_reducible rfl) | (show drawOk _ _ _ = true; kernel_rfl)) ?_ | refine and_mk ⟨_, rfl⟩ ?_ | refine ex_is _ (List.length_map _) ?_ | refine ex_is _ List.length_nil ?_ | fail "no step")
      first | refine ex_callM (CallsM.ren ((layn_c (L := L) (m := m) i3 ts3 6 0 false [] (-1) k (by omega))) [0, 1, 2, 3, 8, 9] 10 rfl rfl rfl rfl) ?_ | refine ex_callM (CallsM.more0 (CallsM.ren ((layn_c (L := L) (m := m) i3 ts3 6 0 false [] (-1) k (by omega))) [0, 1, 2, 3, 8, 9] 10 rfl rfl rfl rfl)) ?_ | refine ex_callM (CallsM.more1 (CallsM.ren ((layn_c (L := L) (m := m) i3 ts3 6 0 false [] (-1) k (by omega))) [0, 1, 2, 3, 8, 9] 10 rfl rfl rfl rfl)) ?_ | refine ex_callM (CallsM.moreL (CallsM.ren ((layn_c (L := L) (m := m) i3 ts3 6 0 false [] (-1) k (by omega))) [0, 1, 2, 3, 8, 9] 10 rfl rfl rfl rfl)) ?_
      repeat' (first | refine ex_true (by first | decide | omega | assumption | (with_reducible exact rfl)) ?_ | refine ex_false (by first | decide | omega | assumption | exact (fun h => h rfl)) ?_ | refine ex_dec (fun _ => ?_) (fun _ => ?_) | refine ex_u8 _ rfl (by omega) (by omega) ?_ | refine ex_i64 _ rfl (by omega) (by omega) ?_ | refine ex_u64 _ rfl (by omega) (by omega) ?_ | refine and_mk (by first | omega | (with_reducible rfl) | (show drawOk _ _ _ = true; kernel_rfl)) ?_ | refine and_mk ⟨_, rfl⟩ ?_ | refine ex_is _ (List.length_map _) ?_ | refine ex_is _ List.length_nil ?_ | fail "no step")
      exact ⟨rfl, TLe.rfl, rfl, rfl⟩
    · rw [if_neg h1] at hT
      by_cases h2 : w = w_tail
      · subst h2
        rw [if_pos rfl] at hT
        obtain rfl : PR.ok (ts.length : Int) ⟨i + 1, xs, ts ++ [(⟨4, 0, false, [], [], -1, -1, []⟩ : TY)]⟩ = T := hT
        repeat' (first | refine ex_call (plain_c 4) ?_ | refine ex_call hz ?_ | refine ex_i64 ((i + 1 : Nat) : Int) (by omega) (by omega) (by omega) ?_ | refine ex_u64 ((i + 1 : Nat) : Int) (by omega) (by omega) (by omega) ?_ | refine ex_u8 ((i + 1 : Nat) : Int) (by omega) (by omega) (by omega) ?_ | refine ex_true (by first | decide | omega | assumption | (with_reducible exact rfl)) ?_ | refine ex_false (by first | decide | omega | assumption | exact (fun h => h rfl)) ?_ | refine ex_dec (fun _ => ?_) (fun _ => ?_) | refine ex_u8 _ rfl (by omega) (by omega) ?_ | refine ex_i64 _ rfl (by omega) (by omega) ?_ | refine ex_u64 _ rfl (by omega) (by omega) ?_ | refine and_mk (by first | omega | (with_reducible rfl) | (show drawOk _ _ _ = true; kernel_rfl)) ?_ | refine and_mk ⟨_, rfl⟩ ?_ | refine ex_is _ (List.length_map _) ?_ | refine ex_is _ List.length_nil ?_ | fail "no step")
        first | refine ex_callM (CallsM.ren ((layn_c (L := L) (m := m) (i + 1) ts 4 0 false [] (-1) (-1) (by omega))) [0, 1, 2, 3, 6, 5] 7 rfl rfl rfl rfl) ?_ | refine ex_callM (CallsM.more0 (CallsM.ren ((layn_c (L := L) (m := m) (i + 1) ts 4 0 false [] (-1) (-1) (by omega))) [0, 1, 2, 3, 6, 5] 7 rfl rfl rfl rfl)) ?_ | refine ex_callM (CallsM.more1 (CallsM.ren ((layn_c (L := L) (m := m) (i + 1) ts 4 0 false [] (-1) (-1) (by omega))) [0, 1, 2, 3, 6, 5] 7 rfl rfl rfl rfl)) ?_ | refine ex_callM (CallsM.moreL (CallsM.ren ((layn_c (L := L) (m := m) (i + 1) ts 4 0 false [] (-1) (-1) (by omega))) [0, 1, 2, 3, 6, 5] 7 rfl rfl rfl rfl)) ?_
        repeat' (first | refine ex_true (by first | decide | omega | assumption | (with_reducible exact rfl)) ?_ | refine ex_false (by first | decide | omega | assumption | exact (fun h => h rfl)) ?_ | refine ex_dec (fun _ => ?_) (fun _ => ?_) | refine ex_u8 _ rfl (by omega) (by omega) ?_ | refine ex_i64 _ rfl (by omega) (by omega) ?_ | refine ex_u64 _ rfl (by omega) (by omega) ?_ | refine and_mk (by first | omega | (with_reducible rfl) | (show drawOk _ _ _ = true; kernel_rfl)) ?_ | refine and_mk ⟨_, rfl⟩ ?_ | refine ex_is _ (List.length_map _) ?_ | refine ex_is _ List.length_nil ?_ | fail "no step")
        exact ⟨rfl, TLe.rfl, rfl, rfl⟩
      · rw [if_neg h2] at hT
        by_cases h3 : w = w_none
        · subst h3
          rw [if_pos rfl] at hT
          obtain rfl : PR.ok (ts.length : Int) ⟨i + 1, xs, ts ++ [(⟨11, 0, false, [], [], -1, -1, []⟩ : TY)]⟩ = T := hT
          repeat' (first | refine ex_call (plain_c 11) ?_ | refine ex_call hz ?_ | refine ex_i64 ((i + 1 : Nat) : Int) (by omega) (by omega) (by omega) ?_ | refine ex_u64 ((i + 1 : Nat) : Int) (by omega) (by omega) (by omega) ?_ | refine ex_u8 ((i + 1 : Nat) : Int) (by omega) (by omega) (by omega) ?_ | refine ex_true (by first | decide | omega | assumption | (with_reducible exact rfl)) ?_ | refine ex_false (by first | decide | omega | assumption | exact (fun h => h rfl)) ?_ | refine ex_dec (fun _ => ?_) (fun _ => ?_) | refine ex_u8 _ rfl (by omega) (by omega) ?_ | refine ex_i64 _ rfl (by omega) (by omega) ?_ | refine ex_u64 _ rfl (by omega) (by omega) ?_ | refine and_mk (by first | omega | (with_reducible rfl) | (show drawOk _ _ _ = true; kernel_rfl)) ?_ | refine and_mk ⟨_, rfl⟩ ?_ | refine ex_is _ (List.length_map _) ?_ | refine ex_is _ List.length_nil ?_ | fail "no step")
          first | refine ex_callM (CallsM.ren ((layn_c (L := L) (m := m) (i + 1) ts 11 0 false [] (-1) (-1) (by omega))) [0, 1, 2, 3, 6, 5] 7 rfl rfl rfl rfl) ?_ | refine ex_callM (CallsM.more0 (CallsM.ren ((layn_c (L := L) (m := m) (i + 1) ts 11 0 false [] (-1) (-1) (by omega))) [0, 1, 2, 3, 6, 5] 7 rfl rfl rfl rfl)) ?_ | refine ex_callM (CallsM.more1 (CallsM.ren ((layn_c (L := L) (m := m) (i + 1) ts 11 0 false [] (-1) (-1) (by omega))) [0, 1, 2, 3, 6, 5] 7 rfl rfl rfl rfl)) ?_ | refine ex_callM (CallsM.moreL (CallsM.ren ((layn_c (L := L) (m := m) (i + 1) ts 11 0 false [] (-1) (-1) (by omega))) [0, 1, 2, 3, 6, 5] 7 rfl rfl rfl rfl)) ?_
          repeat' (first | refine ex_true (by first | decide | omega | assumption | (with_reducible exact rfl)) ?_ | refine ex_false (by first | decide | omega | assumption | exact (fun h => h rfl)) ?_ | refine ex_dec (fun _ => ?_) (fun _ => ?_) | refine ex_u8 _ rfl (by omega) (by omega) ?_ | refine ex_i64 _ rfl (by omega) (by omega) ?_ | refine ex_u64 _ rfl (by omega) (by omega) ?_ | refine and_mk (by first | omega | (with_reducible rfl) | (show drawOk _ _ _ = true; kernel_rfl)) ?_ | refine and_mk ⟨_, rfl⟩ ?_ | refine ex_is _ (List.length_map _) ?_ | refine ex_is _ List.length_nil ?_ | fail "no step")
          exact ⟨rfl, TLe.rfl, rfl, rfl⟩
        · rw [if_neg h3] at hT
          by_cases h4 : w = w_switch
          · subst h4
            rw [if_pos rfl] at hT
            repeat' (first | refine ex_call hz ?_ | refine ex_i64 ((i + 1 : Nat) : Int) (by omega) (by omega) (by omega) ?_ | refine ex_u64 ((i + 1 : Nat) : Int) (by omega) (by omega) (by omega) ?_ | refine ex_u8 ((i + 1 : Nat) : Int) (by omega) (by omega) (by omega) ?_ | refine ex_true (by first | decide | omega | assumption | (with_reducible exact rfl)) ?_ | refine ex_false (by first | decide | omega | assumption | exact (fun h => h rfl)) ?_ | refine ex_dec (fun _ => ?_) (fun _ => ?_) | refine ex_u8 _ rfl (by omega) (by omega) ?_ | refine ex_i64 _ rfl (by omega) (by omega) ?_ | refine ex_u64 _ rfl (by omega) (by omega) ?_ | refine and_mk (by first | omega | (with_reducible rfl) | (show drawOk _ _ _ = true; kernel_rfl)) ?_ | refine and_mk ⟨_, rfl⟩ ?_ | refine ex_is _ (List.length_map _) ?_ | refine ex_is _ List.length_nil ?_ | fail "no step")
            have hcon := choice_c hL hn hm hu hc ⟨i + 1, xs, ts⟩ hs1
            rcases hy : (choiceM L m kd) ⟨i + 1, xs, ts⟩ with ⟨k, ⟨i3, xs3, ts3⟩⟩ | ⟨i9, e9⟩
            rotate_left
            · obtain rfl := hy.symm.trans hT
              first | refine ex_callM (CallsM.ren (hcon.err hy) [0, 1, 2, 3, 6, 5] 7 rfl rfl rfl rfl) ?_ | refine ex_callM (CallsM.more0 (CallsM.ren (hcon.err hy) [0, 1, 2, 3, 6, 5] 7 rfl rfl rfl rfl)) ?_ | refine ex_callM (CallsM.more1 (CallsM.ren (hcon.err hy) [0, 1, 2, 3, 6, 5] 7 rfl rfl rfl rfl)) ?_ | refine ex_callM (CallsM.moreL (CallsM.ren (hcon.err hy) [0, 1, 2, 3, 6, 5] 7 rfl rfl rfl rfl)) ?_
              first | exact ⟨⟨_, rfl, rfl⟩, rfl, rfl⟩ | exact ⟨by kernel_rfl, ⟨_, rfl, rfl⟩, rfl, rfl⟩
            obtain rfl := hy.symm.trans hT
            first | refine ex_callM (CallsM.ren (hcon.ok hy) [0, 1, 2, 3, 6, 5] 7 rfl rfl rfl rfl) ?_ | refine ex_callM (CallsM.more0 (CallsM.ren (hcon.ok hy) [0, 1, 2, 3, 6, 5] 7 rfl rfl rfl rfl)) ?_ | refine ex_callM (CallsM.more1 (CallsM.ren (hcon.ok hy) [0, 1, 2, 3, 6, 5] 7 rfl rfl rfl rfl)) ?_ | refine ex_callM (CallsM.moreL (CallsM.ren (hcon.ok hy) [0, 1, 2, 3, 6, 5] 7 rfl rfl rfl rfl)) ?_
            clear hcon
            repeat' (first | refine ex_true (by first | decide | omega | assumption | (with_reducible exact rfl)) ?_ | refine ex_false (by first | decide | omega | assumption | exact (fun h => h rfl)) ?_ | refine ex_dec (fun _ => ?_) (fun _ => ?_) | refine ex_u8 _ rfl (by omega) (by omega) ?_ | refine ex_i64 _ rfl (by omega) (by omega) ?_ | refine ex_u64 _ rfl (by omega) (by omega) ?_ | refine and_mk (by first | omega | (with_reducible rfl) | (show drawOk _ _ _ = true; kernel_rfl)) ?_ | refine and_mk ⟨_, rfl⟩ ?_ | refine ex_is _ (List.length_map _) ?_ | refine ex_is _ List.length_nil ?_ | fail "no step")
            exact ⟨rfl, TLe.rfl, rfl, rfl⟩
          · rw [if_neg h4] at hT
            have hq := (integer_c w).gL
            obtain ⟨z, lt, ok, hzl, hq⟩ : ∃ (z : Nat) (lt ok : Bool), (integerV w).getD (0, false) = (z, lt) ∧ CallsA Tryd.prog ΓL 21 [c1 (ds (bs w))] (.tup [c1 (di z), c1 (db lt), c1 (db ok)]) := by
              rcases hi : integerV w with _ | ⟨z, lt⟩ <;> rw [hi] at hq
              · exact ⟨0, false, false, rfl, hq⟩
              · exact ⟨z, lt, true, rfl, hq⟩
            rw [hzl] at hT
            repeat' (first | refine ex_call (plain_c 0) ?_ | refine ex_call hq ?_ | refine ex_call hz ?_ | refine ex_i64 ((i + 1 : Nat) : Int) (by omega) (by omega) (by omega) ?_ | refine ex_u64 ((i + 1 : Nat) : Int) (by omega) (by omega) (by omega) ?_ | refine ex_u8 ((i + 1 : Nat) : Int) (by omega) (by omega) (by omega) ?_ | refine ex_false (fun e => h4 (bsj.1 e)) ?_ | refine ex_false (fun e => h3 (bsj.1 e)) ?_ | refine ex_false (fun e => h2 (bsj.1 e)) ?_ | refine ex_false (fun e => h1 (bsj.1 e)) ?_ | refine ex_true (by first | decide | omega | assumption | (with_reducible exact rfl)) ?_ | refine ex_false (by first | decide | omega | assumption | exact (fun h => h rfl)) ?_ | refine ex_dec (fun _ => ?_) (fun _ => ?_) | refine ex_u8 _ rfl (by omega) (by omega) ?_ | refine ex_i64 _ rfl (by omega) (by omega) ?_ | refine ex_u64 _ rfl (by omega) (by omega) ?_ | refine and_mk (by first | omega | (with_reducible rfl) | (show drawOk _ _ _ = true; kernel_rfl)) ?_ | refine and_mk ⟨_, rfl⟩ ?_ | refine ex_is _ (List.length_map _) ?_ | refine ex_is _ List.length_nil ?_ | fail "no step")
            have har := (array_c (L := L) hL hn hm (⟨0, z, lt, [], [], -1, -1, []⟩ : TY) ⟨i + 1, xs, ts⟩ hs1)
            rcases hy : arrayM L m (⟨0, z, lt, [], [], -1, -1, []⟩ : TY) ⟨i + 1, xs, ts⟩ with ⟨k, ⟨i3, xs3, ts3⟩⟩ | ⟨i9, e9⟩
            · obtain rfl := hy.symm.trans hT
              have hp := (har.ok hy).argsLe (xs := [P0, gD [di 0, di z, db lt, ds (bs []), dnil, di (-1), di (-1), dnil]]) (.cons T1Le.rfl (.cons (T1Le.g (.cons DLe.rfl (.cons DLe.rfl (.cons DLe.rfl (.cons DLe.rfl (.cons DLe.nil (.cons DLe.rfl (.cons DLe.rfl (.cons DLe.nil .nil))))))))) .nil))
              first | refine ex_callM (CallsM.ren (hp) [0, 1, 2, 3, 6, 5] 8 rfl rfl rfl rfl) ?_ | refine ex_callM (CallsM.more0 (CallsM.ren (hp) [0, 1, 2, 3, 6, 5] 8 rfl rfl rfl rfl)) ?_ | refine ex_callM (CallsM.more1 (CallsM.ren (hp) [0, 1, 2, 3, 6, 5] 8 rfl rfl rfl rfl)) ?_ | refine ex_callM (CallsM.moreL (CallsM.ren (hp) [0, 1, 2, 3, 6, 5] 8 rfl rfl rfl rfl)) ?_
              repeat' (first | refine ex_true (by first | decide | omega | assumption | (with_reducible exact rfl)) ?_ | refine ex_false (by first | decide | omega | assumption | exact (fun h => h rfl)) ?_ | refine ex_dec (fun _ => ?_) (fun _ => ?_) | refine ex_u8 _ rfl (by omega) (by omega) ?_ | refine ex_i64 _ rfl (by omega) (by omega) ?_ | refine ex_u64 _ rfl (by omega) (by omega) ?_ | refine and_mk (by first | omega | (with_reducible rfl) | (show drawOk _ _ _ = true; kernel_rfl)) ?_ | refine and_mk ⟨_, rfl⟩ ?_ | refine ex_is _ (List.length_map _) ?_ | refine ex_is _ List.length_nil ?_ | fail "no step")
              exact ⟨rfl, TLe.rfl, rfl, rfl⟩
            · obtain rfl := hy.symm.trans hT
              have hp := (har.err hy).argsLe (xs := [P0, gD [di 0, di z, db lt, ds (bs []), dnil, di (-1), di (-1), dnil]]) (.cons T1Le.rfl (.cons (T1Le.g (.cons DLe.rfl (.cons DLe.rfl (.cons DLe.rfl (.cons DLe.rfl (.cons DLe.nil (.cons DLe.rfl (.cons DLe.rfl (.cons DLe.nil .nil))))))))) .nil))
              first | refine ex_callM (CallsM.ren (hp) [0, 1, 2, 3, 6, 5] 8 rfl rfl rfl rfl) ?_ | refine ex_callM (CallsM.more0 (CallsM.ren (hp) [0, 1, 2, 3, 6, 5] 8 rfl rfl rfl rfl)) ?_ | refine ex_callM (CallsM.more1 (CallsM.ren (hp) [0, 1, 2, 3, 6, 5] 8 rfl rfl rfl rfl)) ?_ | refine ex_callM (CallsM.moreL (CallsM.ren (hp) [0, 1, 2, 3, 6, 5] 8 rfl rfl rfl rfl)) ?_
              exact ⟨⟨_, rfl, rfl⟩, rfl, rfl⟩
  · have hz : CallsA Tryd.prog ΓL 53 [c1 (ds (bs w))] (.tup [c1 (di k), c1 (db true)]) := hz
    dsimp only at hT
    repeat' (first | refine ex_call (plain_c k) ?_ | refine ex_call hz ?_ | refine ex_i64 ((i + 1 : Nat) : Int) (by omega) (by omega) (by omega) ?_ | refine ex_u64 ((i + 1 : Nat) : Int) (by omega) (by omega) (by omega) ?_ | refine ex_u8 ((i + 1 : Nat) : Int) (by omega) (by omega) (by omega) ?_ | refine ex_true (by first | decide | omega | assumption | (with_reducible exact rfl)) ?_ | refine ex_false (by first | decide | omega | assumption | exact (fun h => h rfl)) ?_ | refine ex_dec (fun _ => ?_) (fun _ => ?_) | refine ex_u8 _ rfl (by omega) (by omega) ?_ | refine ex_i64 _ rfl (by omega) (by omega) ?_ | refine ex_u64 _ rfl (by omega) (by omega) ?_ | refine and_mk (by first | omega | (with_reducible rfl) | (show drawOk _ _ _ = true; kernel_rfl)) ?_ | refine and_mk ⟨_, rfl⟩ ?_ | refine ex_is _ (List.length_map _) ?_ | refine ex_is _ List.length_nil ?_ | fail "no step")
    have hcon := bracket_c hL hn hm ⟨i + 1, xs, ts⟩ hs1
    rcases hx : (bracketM L m) ⟨i + 1, xs, ts⟩ with ⟨x, ⟨i2, xs2, ts2⟩⟩ | ⟨i9, e9⟩
    rotate_left
    · obtain rfl := (and_err hx).symm.trans hT
      first | refine ex_callM (CallsM.ren (hcon.err hx) [0, 1, 2, 3, 6, 5] 8 rfl rfl rfl rfl) ?_ | refine ex_callM (CallsM.more0 (CallsM.ren (hcon.err hx) [0, 1, 2, 3, 6, 5] 8 rfl rfl rfl rfl)) ?_ | refine ex_callM (CallsM.more1 (CallsM.ren (hcon.err hx) [0, 1, 2, 3, 6, 5] 8 rfl rfl rfl rfl)) ?_ | refine ex_callM (CallsM.moreL (CallsM.ren (hcon.err hx) [0, 1, 2, 3, 6, 5] 8 rfl rfl rfl rfl)) ?_
      first | exact ⟨⟨_, rfl, rfl⟩, rfl, rfl⟩ | exact ⟨by kernel_rfl, ⟨_, rfl, rfl⟩, rfl, rfl⟩
    replace hT := (and_ok hx).symm.trans hT
    first | refine ex_callM (CallsM.ren (hcon.ok hx) [0, 1, 2, 3, 6, 5] 8 rfl rfl rfl rfl) ?_ | refine ex_callM (CallsM.more0 (CallsM.ren (hcon.ok hx) [0, 1, 2, 3, 6, 5] 8 rfl rfl rfl rfl)) ?_ | refine ex_callM (CallsM.more1 (CallsM.ren (hcon.ok hx) [0, 1, 2, 3, 6, 5] 8 rfl rfl rfl rfl)) ?_ | refine ex_callM (CallsM.moreL (CallsM.ren (hcon.ok hx) [0, 1, 2, 3, 6, 5] 8 rfl rfl rfl rfl)) ?_
    clear hcon
    have hs2 := (Up.ok (up_bracket hL m 1) hs1 hx).1
    obtain rfl := (keep_bracket m).eq hx
    have hi2 := hs2.lt
    by_cases hk : k = 7 ∨ k = 8
    · rw [if_pos hk] at hT
      rcases hk with rfl | rfl
      all_goals
        repeat' (first | refine ex_true (by first | decide | omega | assumption | (with_reducible exact rfl)) ?_ | refine ex_false (by first | decide | omega | assumption | exact (fun h => h rfl)) ?_ | refine ex_dec (fun _ => ?_) (fun _ => ?_) | refine ex_u8 _ rfl (by omega) (by omega) ?_ | refine ex_i64 _ rfl (by omega) (by omega) ?_ | refine ex_u64 _ rfl (by omega) (by omega) ?_ | refine and_mk (by first | omega | (with_reducible rfl) | (show drawOk _ _ _ = true; kernel_rfl)) ?_ | refine and_mk ⟨_, rfl⟩ ?_ | refine ex_is _ (List.length_map _) ?_ | refine ex_is _ List.length_nil ?_ | fail "no step")
        have hcon := hin ⟨i2, xs2, ts⟩ (hs2.less (by omega))
        rcases hx2 : (innerM L m kd) ⟨i2, xs2, ts⟩ with ⟨n, ⟨i3, xs3, ts3⟩⟩ | ⟨i9, e9⟩
        rotate_left
        · obtain rfl := (and_err hx2).symm.trans hT
          first | refine ex_callM (CallsM.ren (hcon.err hx2) [0, 1, 2, 3, 8, 5] 9 rfl rfl rfl rfl) ?_ | refine ex_callM (CallsM.more0 (CallsM.ren (hcon.err hx2) [0, 1, 2, 3, 8, 5] 9 rfl rfl rfl rfl)) ?_ | refine ex_callM (CallsM.more1 (CallsM.ren (hcon.err hx2) [0, 1, 2, 3, 8, 5] 9 rfl rfl rfl rfl)) ?_ | refine ex_callM (CallsM.moreL (CallsM.ren (hcon.err hx2) [0, 1, 2, 3, 8, 5] 9 rfl rfl rfl rfl)) ?_
          first | exact ⟨⟨_, rfl, rfl⟩, rfl, rfl⟩ | exact ⟨by kernel_rfl, ⟨_, rfl, rfl⟩, rfl, rfl⟩
        replace hT := (and_ok hx2).symm.trans hT
        first | refine ex_callM (CallsM.ren (hcon.ok hx2) [0, 1, 2, 3, 8, 5] 9 rfl rfl rfl rfl) ?_ | refine ex_callM (CallsM.more0 (CallsM.ren (hcon.ok hx2) [0, 1, 2, 3, 8, 5] 9 rfl rfl rfl rfl)) ?_ | refine ex_callM (CallsM.more1 (CallsM.ren (hcon.ok hx2) [0, 1, 2, 3, 8, 5] 9 rfl rfl rfl rfl)) ?_ | refine ex_callM (CallsM.moreL (CallsM.ren (hcon.ok hx2) [0, 1, 2, 3, 8, 5] 9 rfl rfl rfl rfl)) ?_
        clear hcon
        have hs3 := (Up.ok (c := 0) (up_inner m hu 3) hs2 hx2).1
        have htl := hs3.lt'
        have hi3 := hs3.lt
        repeat' (first | refine ex_true (by first | decide | omega | assumption | (with_reducible exact rfl)) ?_ | refine ex_false (by first | decide | omega | assumption | exact (fun h => h rfl)) ?_ | refine ex_dec (fun _ => ?_) (fun _ => ?_) | refine ex_u8 _ rfl (by omega) (by omega) ?_ | refine ex_i64 _ rfl (by omega) (by omega) ?_ | refine ex_u64 _ rfl (by omega) (by omega) ?_ | refine and_mk (by first | omega | (with_reducible rfl) | (show drawOk _ _ _ = true; kernel_rfl)) ?_ | refine and_mk ⟨_, rfl⟩ ?_ | refine ex_is _ (List.length_map _) ?_ | refine ex_is _ List.length_nil ?_ | fail "no step")
      · obtain rfl : PR.ok (ts3.length : Int) ⟨i3, xs3, ts3 ++ [(⟨7, 0, false, [], [], x, n, []⟩ : TY)]⟩ = T := hT
        first | refine ex_callM (CallsM.ren ((layn_c (L := L) (m := m) i3 ts3 7 0 false [] x n (by omega))) [0, 1, 2, 3, 9, 10] 11 rfl rfl rfl rfl) ?_ | refine ex_callM (CallsM.more0 (CallsM.ren ((layn_c (L := L) (m := m) i3 ts3 7 0 false [] x n (by omega))) [0, 1, 2, 3, 9, 10] 11 rfl rfl rfl rfl)) ?_ | refine ex_callM (CallsM.more1 (CallsM.ren ((layn_c (L := L) (m := m) i3 ts3 7 0 false [] x n (by omega))) [0, 1, 2, 3, 9, 10] 11 rfl rfl rfl rfl)) ?_ | refine ex_callM (CallsM.moreL (CallsM.ren ((layn_c (L := L) (m := m) i3 ts3 7 0 false [] x n (by omega))) [0, 1, 2, 3, 9, 10] 11 rfl rfl rfl rfl)) ?_
        repeat' (first | refine ex_true (by first | decide | omega | assumption | (with_reducible exact rfl)) ?_ | refine ex_false (by first | decide | omega | assumption | exact (fun h => h rfl)) ?_ | refine ex_dec (fun _ => ?_) (fun _ => ?_) | refine ex_u8 _ rfl (by omega) (by omega) ?_ | refine ex_i64 _ rfl (by omega) (by omega) ?_ | refine ex_u64 _ rfl (by omega) (by omega) ?_ | refine and_mk (by first | omega | (with_reducible rfl) | (show drawOk _ _ _ = true; kernel_rfl)) ?_ | refine and_mk ⟨_, rfl⟩ ?_ | refine ex_is _ (List.length_map _) ?_ | refine ex_is _ List.length_nil ?_ | fail "no step")
        exact ⟨rfl, TLe.rfl, rfl, rfl⟩
      · obtain rfl : PR.ok (ts3.length : Int) ⟨i3, xs3, ts3 ++ [(⟨8, 0, false, [], [], x, n, []⟩ : TY)]⟩ = T := hT
        first | refine ex_callM (CallsM.ren ((layn_c (L := L) (m := m) i3 ts3 8 0 false [] x n (by omega))) [0, 1, 2, 3, 9, 10] 11 rfl rfl rfl rfl) ?_ | refine ex_callM (CallsM.more0 (CallsM.ren ((layn_c (L := L) (m := m) i3 ts3 8 0 false [] x n (by omega))) [0, 1, 2, 3, 9, 10] 11 rfl rfl rfl rfl)) ?_ | refine ex_callM (CallsM.more1 (CallsM.ren ((layn_c (L := L) (m := m) i3 ts3 8 0 false [] x n (by omega))) [0, 1, 2, 3, 9, 10] 11 rfl rfl rfl rfl)) ?_ | refine ex_callM (CallsM.moreL (CallsM.ren ((layn_c (L := L) (m := m) i3 ts3 8 0 false [] x n (by omega))) [0, 1, 2, 3, 9, 10] 11 rfl rfl rfl rfl)) ?_
        repeat' (first | refine ex_true (by first | decide | omega | assumption | (with_reducible exact rfl)) ?_ | refine ex_false (by first | decide | omega | assumption | exact (fun h => h rfl)) ?_ | refine ex_dec (fun _ => ?_) (fun _ => ?_) | refine ex_u8 _ rfl (by omega) (by omega) ?_ | refine ex_i64 _ rfl (by omega) (by omega) ?_ | refine ex_u64 _ rfl (by omega) (by omega) ?_ | refine and_mk (by first | omega | (with_reducible rfl) | (show drawOk _ _ _ = true; kernel_rfl)) ?_ | refine and_mk ⟨_, rfl⟩ ?_ | refine ex_is _ (List.length_map _) ?_ | refine ex_is _ List.length_nil ?_ | fail "no step")
        exact ⟨rfl, TLe.rfl, rfl, rfl⟩
    · rw [if_neg hk] at hT
      replace hT := pureT hT
      have htl2 := hs2.lt'
      obtain rfl : PR.ok (ts.length : Int) ⟨i2, xs2, ts ++ [(⟨k, 0, false, [], [], x, -1, []⟩ : TY)]⟩ = T := hT
      repeat' (first | refine ex_true (by first | decide | omega | assumption | (with_reducible exact rfl)) ?_ | refine ex_false (by first | decide | omega | assumption | exact (fun h => h rfl)) ?_ | refine ex_dec (fun _ => ?_) (fun _ => ?_) | refine ex_u8 _ rfl (by omega) (by omega) ?_ | refine ex_i64 _ rfl (by omega) (by omega) ?_ | refine ex_u64 _ rfl (by omega) (by omega) ?_ | refine and_mk (by first | omega | (with_reducible rfl) | (show drawOk _ _ _ = true; kernel_rfl)) ?_ | refine and_mk ⟨_, rfl⟩ ?_ | refine ex_is _ (List.length_map _) ?_ | refine ex_is _ List.length_nil ?_ | fail "no step")
      first | refine ex_callM (CallsM.ren ((layn_c (L := L) (m := m) i2 ts k 0 false [] x (-1) (by omega))) [0, 1, 2, 3, 8, 5] 9 rfl rfl rfl rfl) ?_ | refine ex_callM (CallsM.more0 (CallsM.ren ((layn_c (L := L) (m := m) i2 ts k 0 false [] x (-1) (by omega))) [0, 1, 2, 3, 8, 5] 9 rfl rfl rfl rfl)) ?_ | refine ex_callM (CallsM.more1 (CallsM.ren ((layn_c (L := L) (m := m) i2 ts k 0 false [] x (-1) (by omega))) [0, 1, 2, 3, 8, 5] 9 rfl rfl rfl rfl)) ?_ | refine ex_callM (CallsM.moreL (CallsM.ren ((layn_c (L := L) (m := m) i2 ts k 0 false [] x (-1) (by omega))) [0, 1, 2, 3, 8, 5] 9 rfl rfl rfl rfl)) ?_
      repeat' (first | refine ex_true (by first | decide | omega | assumption | (with_reducible exact rfl)) ?_ | refine ex_false (by first | decide | omega | assumption | exact (fun h => h rfl)) ?_ | refine ex_dec (fun _ => ?_) (fun _ => ?_) | refine ex_u8 _ rfl (by omega) (by omega) ?_ | refine ex_i64 _ rfl (by omega) (by omega) ?_ | refine ex_u64 _ rfl (by omega) (by omega) ?_ | refine and_mk (by first | omega | (with_reducible rfl) | (show drawOk _ _ _ = true; kernel_rfl)) ?_ | refine and_mk ⟨_, rfl⟩ ?_ | refine ex_is _ (List.length_map _) ?_ | refine ex_is _ List.length_nil ?_ | fail "no step")
      exact ⟨rfl, TLe.rfl, rfl, rfl⟩
theorem kind_step (hL : TokOk L) (hn : L.length ≤ 100000) (hm : m ≤ 32) {kd : PM Int} (hu : Up L kd 0 0) (hc : ∀ m', m = m' + 1 → ∀ s, SOk L 0 s → C2 L m' 39 [] kd (fun k => Ti k) s) (s : PS) (hs : SOk L 0 s) :
    C2 L m 39 [] (kindF L m kd) (fun k => Ti k) s := by
  rcases hv : startsV L s.i with _ | _
  · exact kind_bad s hs.i hv
  · rcases hv1 : namedV L s.i with _ | _
    · exact kind_word hL hn hm hu hc s hs hv1 hv
    · exact kind_named hL hn hm s hs hv1
theorem kind_c (hL : TokOk L) (hn : L.length ≤ 100000) : ∀ m, m ≤ 32 → ∀ s, SOk L 0 s → C2 L m 39 [] (kindM L m) (fun k => Ti k) s
  | 0, hm, s, hs => kind_step hL hn hm (Up.fail (by decide) (by decide) _ _) (fun _ h => by omega) s hs
  | m + 1, hm, s, hs => kind_step hL hn hm (up_kind hL m) (fun m' h s hs => by
      obtain rfl : m = m' := by omega
      exact kind_c hL hn m (by omega) s hs) s hs
end
end Go.Proofs.YtkbhmcdoedmffaaDoor

namespace Go.Proofs.YtkbhmcdoedmffaaDoor
set_option linter.unusedVariables false
set_option linter.unusedSimpArgs false
open Go.RowKit
set_option maxRecDepth 100000

section
variable {P : Program} {Γ : Glob} {f : FuncId} {nx : Nat} {xs : List T1} {r : TV} {upd : List (Nat × Blk)} {new : List Blk} {a b c d e : Nat × Blk} {m : List (Nat × Blk)}
theorem CallsM.moreD (h : CallsM P Γ f [a, e] nx xs r upd new) : CallsM P Γ f [a, b, c, d, e] nx xs r upd new := h.more fun p hp => by
  simp only [List.mem_cons, List.not_mem_nil, or_false] at hp ⊢; rcases hp with hp | hp <;> simp [hp]
end
section
variable {L : List TokP} {m : Nat}
theorem isV_end {i : Nat} {t : List UInt8} (h : (tk L i).k = 3) : isV L i t = false := by unfold isV; simp [h]
theorem isV_not {i : Nat} {t w : List UInt8} (h : (tk L i).t = t) (hn : t ≠ w) : isV L i w = false := by unfold isV; rw [h, decide_eq_false hn, Bool.and_false]
theorem isV_yes {i : Nat} {t : List UInt8} (hk : (tk L i).k ≠ 3) (h : (tk L i).t = t) : isV L i t = true := by unfold isV; rw [h, decide_eq_false hk, decide_eq_true rfl]; rfl
/-- A field's item. -/
abbrev Iz (nm : List UInt8) (ty : Int) (der : Nat) (a b : List UInt8) (wh : Int) : Blk := .obj [.d (ds (bs nm)), .d (di ty), .d (di der), .d (ds (bs a)), .d (ds (bs b)), .d (di wh), .d (di 0), .d (db false), .d dnil]
def PR.uD (L : List TokP) (m : Nat) (nm : List UInt8) (ty wh : Int) : PR (Nat × List UInt8 × List UInt8) → List (Nat × Blk)
  | .ok v s => [(0, Qz L m s.i), (2, Iz nm ty v.1 v.2.1 v.2.2 wh)]
  | .err _ _ => [(0, .dead), (2, .dead)]
set_option maxHeartbeats 4000000 in
theorem derived_c (hL : TokOk L) (hn : L.length ≤ 100000) (nm : List UInt8) (ty wh : Int) (s : PS) {c : Nat} (hs : SOk L c s) :
    CallsM Tryd.prog ΓL 40 [(0, Qz L m s.i), (2, Iz nm ty 0 [] [] wh)] 3 [P0, .c (.ptr 2 0)] ((derivedM L s).tv L fun _ => .tup []) ((derivedM L s).uD L m nm ty wh) [] := by
  obtain ⟨T, hT⟩ : ∃ T, derivedM L s = T := ⟨_, rfl⟩
  rw [hT]
  unfold derivedM at hT
  obtain ⟨i, xs, ts⟩ := s
  have hi := hs.lt
  have hbad : (∀ t, t ∈ [w_sizeof, w_countof, w_crc32, w_adler32] → isV L i t = false) → T = .err i 4 → CallsM Tryd.prog ΓL 40 [(0, Qz L m i), (2, Iz nm ty 0 [] [] wh)] 3 [P0, .c (.ptr 2 0)] (T.tv L fun _ => .tup []) (T.uD L m nm ty wh) [] := fun hv hTe => by
    subst hTe
    refine fn_ruleP (C := ⟨Tryd.prog, layF, Tryd.f40.ntmps, ΓL, 3, [], []⟩) layF_ok mixed Tryd.func40 rfl (by kernel_rfl) rfl rfl rfl SLe.rfl ?_
    first | refine ex_callM (CallsM.ren ((may_no i hi _ (hv w_sizeof (by simp)))) [0, 1] 3 rfl rfl rfl rfl) ?_ | refine ex_callM (CallsM.more0 (CallsM.ren ((may_no i hi _ (hv w_sizeof (by simp)))) [0, 1] 3 rfl rfl rfl rfl)) ?_ | refine ex_callM (CallsM.more1 (CallsM.ren ((may_no i hi _ (hv w_sizeof (by simp)))) [0, 1] 3 rfl rfl rfl rfl)) ?_ | refine ex_callM (CallsM.moreL (CallsM.ren ((may_no i hi _ (hv w_sizeof (by simp)))) [0, 1] 3 rfl rfl rfl rfl)) ?_
    repeat' (first | refine ex_true (by first | decide | omega | assumption | (with_reducible exact rfl)) ?_ | refine ex_false (by first | decide | omega | assumption | exact (fun h => h rfl)) ?_ | refine ex_dec (fun _ => ?_) (fun _ => ?_) | refine ex_u8 _ rfl (by omega) (by omega) ?_ | refine ex_i64 _ rfl (by omega) (by omega) ?_ | refine ex_u64 _ rfl (by omega) (by omega) ?_ | refine and_mk (by first | omega | (with_reducible rfl) | (show drawOk _ _ _ = true; kernel_rfl)) ?_ | refine and_mk ⟨_, rfl⟩ ?_ | refine ex_is _ (List.length_map _) ?_ | refine ex_is _ List.length_nil ?_ | fail "no step")
    first | refine ex_callM (CallsM.ren ((may_no i hi _ (hv w_countof (by simp)))) [0, 1] 3 rfl rfl rfl rfl) ?_ | refine ex_callM (CallsM.more0 (CallsM.ren ((may_no i hi _ (hv w_countof (by simp)))) [0, 1] 3 rfl rfl rfl rfl)) ?_ | refine ex_callM (CallsM.more1 (CallsM.ren ((may_no i hi _ (hv w_countof (by simp)))) [0, 1] 3 rfl rfl rfl rfl)) ?_ | refine ex_callM (CallsM.moreL (CallsM.ren ((may_no i hi _ (hv w_countof (by simp)))) [0, 1] 3 rfl rfl rfl rfl)) ?_
    repeat' (first | refine ex_true (by first | decide | omega | assumption | (with_reducible exact rfl)) ?_ | refine ex_false (by first | decide | omega | assumption | exact (fun h => h rfl)) ?_ | refine ex_dec (fun _ => ?_) (fun _ => ?_) | refine ex_u8 _ rfl (by omega) (by omega) ?_ | refine ex_i64 _ rfl (by omega) (by omega) ?_ | refine ex_u64 _ rfl (by omega) (by omega) ?_ | refine and_mk (by first | omega | (with_reducible rfl) | (show drawOk _ _ _ = true; kernel_rfl)) ?_ | refine and_mk ⟨_, rfl⟩ ?_ | refine ex_is _ (List.length_map _) ?_ | refine ex_is _ List.length_nil ?_ | fail "no step")
    first | refine ex_callM (CallsM.ren ((may_no i hi _ (hv w_crc32 (by simp)))) [0, 1] 3 rfl rfl rfl rfl) ?_ | refine ex_callM (CallsM.more0 (CallsM.ren ((may_no i hi _ (hv w_crc32 (by simp)))) [0, 1] 3 rfl rfl rfl rfl)) ?_ | refine ex_callM (CallsM.more1 (CallsM.ren ((may_no i hi _ (hv w_crc32 (by simp)))) [0, 1] 3 rfl rfl rfl rfl)) ?_ | refine ex_callM (CallsM.moreL (CallsM.ren ((may_no i hi _ (hv w_crc32 (by simp)))) [0, 1] 3 rfl rfl rfl rfl)) ?_
    repeat' (first | refine ex_true (by first | decide | omega | assumption | (with_reducible exact rfl)) ?_ | refine ex_false (by first | decide | omega | assumption | exact (fun h => h rfl)) ?_ | refine ex_dec (fun _ => ?_) (fun _ => ?_) | refine ex_u8 _ rfl (by omega) (by omega) ?_ | refine ex_i64 _ rfl (by omega) (by omega) ?_ | refine ex_u64 _ rfl (by omega) (by omega) ?_ | refine and_mk (by first | omega | (with_reducible rfl) | (show drawOk _ _ _ = true; kernel_rfl)) ?_ | refine and_mk ⟨_, rfl⟩ ?_ | refine ex_is _ (List.length_map _) ?_ | refine ex_is _ List.length_nil ?_ | fail "no step")
    first | refine ex_callM (CallsM.ren ((may_no i hi _ (hv w_adler32 (by simp)))) [0, 1] 3 rfl rfl rfl rfl) ?_ | refine ex_callM (CallsM.more0 (CallsM.ren ((may_no i hi _ (hv w_adler32 (by simp)))) [0, 1] 3 rfl rfl rfl rfl)) ?_ | refine ex_callM (CallsM.more1 (CallsM.ren ((may_no i hi _ (hv w_adler32 (by simp)))) [0, 1] 3 rfl rfl rfl rfl)) ?_ | refine ex_callM (CallsM.moreL (CallsM.ren ((may_no i hi _ (hv w_adler32 (by simp)))) [0, 1] 3 rfl rfl rfl rfl)) ?_
    repeat' (first | refine ex_true (by first | decide | omega | assumption | (with_reducible exact rfl)) ?_ | refine ex_false (by first | decide | omega | assumption | exact (fun h => h rfl)) ?_ | refine ex_dec (fun _ => ?_) (fun _ => ?_) | refine ex_u8 _ rfl (by omega) (by omega) ?_ | refine ex_i64 _ rfl (by omega) (by omega) ?_ | refine ex_u64 _ rfl (by omega) (by omega) ?_ | refine and_mk (by first | omega | (with_reducible rfl) | (show drawOk _ _ _ = true; kernel_rfl)) ?_ | refine and_mk ⟨_, rfl⟩ ?_ | refine ex_is _ (List.length_map _) ?_ | refine ex_is _ List.length_nil ?_ | fail "no step")
    first | refine ex_callM (CallsM.ren ((fail_c i 4 hi)) [0, 1] 3 rfl rfl rfl rfl) ?_ | refine ex_callM (CallsM.more0 (CallsM.ren ((fail_c i 4 hi)) [0, 1] 3 rfl rfl rfl rfl)) ?_ | refine ex_callM (CallsM.more1 (CallsM.ren ((fail_c i 4 hi)) [0, 1] 3 rfl rfl rfl rfl)) ?_ | refine ex_callM (CallsM.moreL (CallsM.ren ((fail_c i 4 hi)) [0, 1] 3 rfl rfl rfl rfl)) ?_
    exact ⟨⟨_, rfl, rfl⟩, rfl, rfl⟩
  by_cases hk : (tk L i).k = 3
  · exact hbad (fun t _ => isV_end hk) (atn hT (by simp [hk])).symm
  · obtain ⟨w, hw⟩ : ∃ w, (tk L i).t = w := ⟨_, rfl⟩
    by_cases hm : w ∈ [w_sizeof, w_countof, w_crc32, w_adler32]
    · have hs1 := stpS hL hs hk
      have hd0 : derOf w ≠ 0 := by
        simp only [List.mem_cons, List.not_mem_nil, or_false] at hm
        rcases hm with rfl | rfl | rfl | rfl <;> decide
      have hT0 := aty hT (by simp [hk, hw, hd0])
      have hT : (takeM L t_lpar >>= fun _ => nameM L >>= fun a => (if 3 ≤ derOf w then takeM L t_dots >>= fun _ => nameM L else pure []) >>= fun b => takeM L t_rpar >>= fun _ => pure (derOf w, a, b)) ⟨i + 1, xs, ts⟩ = T := by rw [← hw]; exact hT0
      clear hT0
      simp only [List.mem_cons, List.not_mem_nil, or_false] at hm
      rcases hm with rfl | rfl | rfl | rfl
      · rw [show derOf w_sizeof = 1 by decide +kernel] at hT
        refine fn_ruleP (C := ⟨Tryd.prog, layF, Tryd.f40.ntmps, ΓL, 3, [], []⟩) layF_ok mixed Tryd.func40 rfl (by kernel_rfl) rfl rfl rfl SLe.rfl ?_
        first | refine ex_callM (CallsM.ren ((may_yes i hi (by omega) _ (isV_yes hk hw))) [0, 1] 3 rfl rfl rfl rfl) ?_ | refine ex_callM (CallsM.more0 (CallsM.ren ((may_yes i hi (by omega) _ (isV_yes hk hw))) [0, 1] 3 rfl rfl rfl rfl)) ?_ | refine ex_callM (CallsM.more1 (CallsM.ren ((may_yes i hi (by omega) _ (isV_yes hk hw))) [0, 1] 3 rfl rfl rfl rfl)) ?_ | refine ex_callM (CallsM.moreL (CallsM.ren ((may_yes i hi (by omega) _ (isV_yes hk hw))) [0, 1] 3 rfl rfl rfl rfl)) ?_
        repeat' (first | refine ex_true (by first | decide | omega | assumption | (with_reducible exact rfl)) ?_ | refine ex_false (by first | decide | omega | assumption | exact (fun h => h rfl)) ?_ | refine ex_dec (fun _ => ?_) (fun _ => ?_) | refine ex_u8 _ rfl (by omega) (by omega) ?_ | refine ex_i64 _ rfl (by omega) (by omega) ?_ | refine ex_u64 _ rfl (by omega) (by omega) ?_ | refine and_mk (by first | omega | (with_reducible rfl) | (show drawOk _ _ _ = true; kernel_rfl)) ?_ | refine and_mk ⟨_, rfl⟩ ?_ | refine ex_is _ (List.length_map _) ?_ | refine ex_is _ List.length_nil ?_ | fail "no step")
        have hcon := take_c (m := m) ⟨i + 1, xs, ts⟩ hs1.i (by omega) t_lpar
        rcases hx59 : (takeM L t_lpar) ⟨i + 1, xs, ts⟩ with ⟨_, s9⟩ | ⟨i9, e9⟩
        rotate_left
        · obtain rfl := (and_err hx59).symm.trans hT
          first | refine ex_callM (CallsM.ren (hcon.err hx59) [0, 1] 3 rfl rfl rfl rfl) ?_ | refine ex_callM (CallsM.more0 (CallsM.ren (hcon.err hx59) [0, 1] 3 rfl rfl rfl rfl)) ?_ | refine ex_callM (CallsM.more1 (CallsM.ren (hcon.err hx59) [0, 1] 3 rfl rfl rfl rfl)) ?_ | refine ex_callM (CallsM.moreL (CallsM.ren (hcon.err hx59) [0, 1] 3 rfl rfl rfl rfl)) ?_
          first | exact ⟨⟨_, rfl, rfl⟩, rfl, rfl⟩ | exact ⟨by kernel_rfl, ⟨_, rfl, rfl⟩, rfl, rfl⟩
        replace hT := (and_ok hx59).symm.trans hT
        first | refine ex_callM (CallsM.ren (hcon.ok hx59) [0, 1] 3 rfl rfl rfl rfl) ?_ | refine ex_callM (CallsM.more0 (CallsM.ren (hcon.ok hx59) [0, 1] 3 rfl rfl rfl rfl)) ?_ | refine ex_callM (CallsM.more1 (CallsM.ren (hcon.ok hx59) [0, 1] 3 rfl rfl rfl rfl)) ?_ | refine ex_callM (CallsM.moreL (CallsM.ren (hcon.ok hx59) [0, 1] 3 rfl rfl rfl rfl)) ?_
        clear hcon
        have hs2 := (Up.ok (Up.take hL t_lpar 0) hs1 hx59).1
        obtain rfl := mv_take1 hx59
        repeat' (first | refine ex_true (by first | decide | omega | assumption | (with_reducible exact rfl)) ?_ | refine ex_false (by first | decide | omega | assumption | exact (fun h => h rfl)) ?_ | refine ex_dec (fun _ => ?_) (fun _ => ?_) | refine ex_u8 _ rfl (by omega) (by omega) ?_ | refine ex_i64 _ rfl (by omega) (by omega) ?_ | refine ex_u64 _ rfl (by omega) (by omega) ?_ | refine and_mk (by first | omega | (with_reducible rfl) | (show drawOk _ _ _ = true; kernel_rfl)) ?_ | refine and_mk ⟨_, rfl⟩ ?_ | refine ex_is _ (List.length_map _) ?_ | refine ex_is _ List.length_nil ?_ | fail "no step")
        have hcon := name_c (m := m) ⟨i + 1 + 1, xs, ts⟩ hs2.i (by omega)
        rcases hx61 : (nameM L) ⟨i + 1 + 1, xs, ts⟩ with ⟨a, s9⟩ | ⟨i9, e9⟩
        rotate_left
        · obtain rfl := (and_err hx61).symm.trans hT
          first | refine ex_callM (CallsM.ren (hcon.err hx61) [0, 1] 3 rfl rfl rfl rfl) ?_ | refine ex_callM (CallsM.more0 (CallsM.ren (hcon.err hx61) [0, 1] 3 rfl rfl rfl rfl)) ?_ | refine ex_callM (CallsM.more1 (CallsM.ren (hcon.err hx61) [0, 1] 3 rfl rfl rfl rfl)) ?_ | refine ex_callM (CallsM.moreL (CallsM.ren (hcon.err hx61) [0, 1] 3 rfl rfl rfl rfl)) ?_
          first | exact ⟨⟨_, rfl, rfl⟩, rfl, rfl⟩ | exact ⟨by kernel_rfl, ⟨_, rfl, rfl⟩, rfl, rfl⟩
        replace hT := (and_ok hx61).symm.trans hT
        first | refine ex_callM (CallsM.ren (hcon.ok hx61) [0, 1] 3 rfl rfl rfl rfl) ?_ | refine ex_callM (CallsM.more0 (CallsM.ren (hcon.ok hx61) [0, 1] 3 rfl rfl rfl rfl)) ?_ | refine ex_callM (CallsM.more1 (CallsM.ren (hcon.ok hx61) [0, 1] 3 rfl rfl rfl rfl)) ?_ | refine ex_callM (CallsM.moreL (CallsM.ren (hcon.ok hx61) [0, 1] 3 rfl rfl rfl rfl)) ?_
        clear hcon
        have hs3 := (Up.ok (Up.name hL 0) hs2 hx61).1
        obtain rfl := mv_name1 hx61
        repeat' (first | refine ex_true (by first | decide | omega | assumption | (with_reducible exact rfl)) ?_ | refine ex_false (by first | decide | omega | assumption | exact (fun h => h rfl)) ?_ | refine ex_dec (fun _ => ?_) (fun _ => ?_) | refine ex_u8 _ rfl (by omega) (by omega) ?_ | refine ex_i64 _ rfl (by omega) (by omega) ?_ | refine ex_u64 _ rfl (by omega) (by omega) ?_ | refine and_mk (by first | omega | (with_reducible rfl) | (show drawOk _ _ _ = true; kernel_rfl)) ?_ | refine and_mk ⟨_, rfl⟩ ?_ | refine ex_is _ (List.length_map _) ?_ | refine ex_is _ List.length_nil ?_ | fail "no step")
        replace hT := pureT hT
        have hcon := take_c (m := m) ⟨i + 1 + 1 + 1, xs, ts⟩ hs3.i (by omega) t_rpar
        rcases hx64 : (takeM L t_rpar) ⟨i + 1 + 1 + 1, xs, ts⟩ with ⟨_, s9⟩ | ⟨i9, e9⟩
        rotate_left
        · obtain rfl := (and_err hx64).symm.trans hT
          first | refine ex_callM (CallsM.ren (hcon.err hx64) [0, 1] 3 rfl rfl rfl rfl) ?_ | refine ex_callM (CallsM.more0 (CallsM.ren (hcon.err hx64) [0, 1] 3 rfl rfl rfl rfl)) ?_ | refine ex_callM (CallsM.more1 (CallsM.ren (hcon.err hx64) [0, 1] 3 rfl rfl rfl rfl)) ?_ | refine ex_callM (CallsM.moreL (CallsM.ren (hcon.err hx64) [0, 1] 3 rfl rfl rfl rfl)) ?_
          first | exact ⟨⟨_, rfl, rfl⟩, rfl, rfl⟩ | exact ⟨by kernel_rfl, ⟨_, rfl, rfl⟩, rfl, rfl⟩
        replace hT := (and_ok hx64).symm.trans hT
        first | refine ex_callM (CallsM.ren (hcon.ok hx64) [0, 1] 3 rfl rfl rfl rfl) ?_ | refine ex_callM (CallsM.more0 (CallsM.ren (hcon.ok hx64) [0, 1] 3 rfl rfl rfl rfl)) ?_ | refine ex_callM (CallsM.more1 (CallsM.ren (hcon.ok hx64) [0, 1] 3 rfl rfl rfl rfl)) ?_ | refine ex_callM (CallsM.moreL (CallsM.ren (hcon.ok hx64) [0, 1] 3 rfl rfl rfl rfl)) ?_
        clear hcon
        have hs4 := (Up.ok (Up.take hL t_rpar 0) hs3 hx64).1
        obtain rfl := mv_take1 hx64
        obtain rfl : PR.ok ((1 : Nat), a, ([] : List UInt8)) ⟨i + 1 + 1 + 1 + 1, xs, ts⟩ = T := hT
        repeat' (first | refine ex_true (by first | decide | omega | assumption | (with_reducible exact rfl)) ?_ | refine ex_false (by first | decide | omega | assumption | exact (fun h => h rfl)) ?_ | refine ex_dec (fun _ => ?_) (fun _ => ?_) | refine ex_u8 _ rfl (by omega) (by omega) ?_ | refine ex_i64 _ rfl (by omega) (by omega) ?_ | refine ex_u64 _ rfl (by omega) (by omega) ?_ | refine and_mk (by first | omega | (with_reducible rfl) | (show drawOk _ _ _ = true; kernel_rfl)) ?_ | refine and_mk ⟨_, rfl⟩ ?_ | refine ex_is _ (List.length_map _) ?_ | refine ex_is _ List.length_nil ?_ | fail "no step")
        exact ⟨rfl, TLe.rfl, rfl, rfl⟩
      · rw [show derOf w_countof = 2 by decide +kernel] at hT
        refine fn_ruleP (C := ⟨Tryd.prog, layF, Tryd.f40.ntmps, ΓL, 3, [], []⟩) layF_ok mixed Tryd.func40 rfl (by kernel_rfl) rfl rfl rfl SLe.rfl ?_
        first | refine ex_callM (CallsM.ren ((may_no i hi w_sizeof (isV_not hw (by decide)))) [0, 1] 3 rfl rfl rfl rfl) ?_ | refine ex_callM (CallsM.more0 (CallsM.ren ((may_no i hi w_sizeof (isV_not hw (by decide)))) [0, 1] 3 rfl rfl rfl rfl)) ?_ | refine ex_callM (CallsM.more1 (CallsM.ren ((may_no i hi w_sizeof (isV_not hw (by decide)))) [0, 1] 3 rfl rfl rfl rfl)) ?_ | refine ex_callM (CallsM.moreL (CallsM.ren ((may_no i hi w_sizeof (isV_not hw (by decide)))) [0, 1] 3 rfl rfl rfl rfl)) ?_
        repeat' (first | refine ex_true (by first | decide | omega | assumption | (with_reducible exact rfl)) ?_ | refine ex_false (by first | decide | omega | assumption | exact (fun h => h rfl)) ?_ | refine ex_dec (fun _ => ?_) (fun _ => ?_) | refine ex_u8 _ rfl (by omega) (by omega) ?_ | refine ex_i64 _ rfl (by omega) (by omega) ?_ | refine ex_u64 _ rfl (by omega) (by omega) ?_ | refine and_mk (by first | omega | (with_reducible rfl) | (show drawOk _ _ _ = true; kernel_rfl)) ?_ | refine and_mk ⟨_, rfl⟩ ?_ | refine ex_is _ (List.length_map _) ?_ | refine ex_is _ List.length_nil ?_ | fail "no step")
        first | refine ex_callM (CallsM.ren ((may_yes i hi (by omega) _ (isV_yes hk hw))) [0, 1] 3 rfl rfl rfl rfl) ?_ | refine ex_callM (CallsM.more0 (CallsM.ren ((may_yes i hi (by omega) _ (isV_yes hk hw))) [0, 1] 3 rfl rfl rfl rfl)) ?_ | refine ex_callM (CallsM.more1 (CallsM.ren ((may_yes i hi (by omega) _ (isV_yes hk hw))) [0, 1] 3 rfl rfl rfl rfl)) ?_ | refine ex_callM (CallsM.moreL (CallsM.ren ((may_yes i hi (by omega) _ (isV_yes hk hw))) [0, 1] 3 rfl rfl rfl rfl)) ?_
        repeat' (first | refine ex_true (by first | decide | omega | assumption | (with_reducible exact rfl)) ?_ | refine ex_false (by first | decide | omega | assumption | exact (fun h => h rfl)) ?_ | refine ex_dec (fun _ => ?_) (fun _ => ?_) | refine ex_u8 _ rfl (by omega) (by omega) ?_ | refine ex_i64 _ rfl (by omega) (by omega) ?_ | refine ex_u64 _ rfl (by omega) (by omega) ?_ | refine and_mk (by first | omega | (with_reducible rfl) | (show drawOk _ _ _ = true; kernel_rfl)) ?_ | refine and_mk ⟨_, rfl⟩ ?_ | refine ex_is _ (List.length_map _) ?_ | refine ex_is _ List.length_nil ?_ | fail "no step")
        have hcon := take_c (m := m) ⟨i + 1, xs, ts⟩ hs1.i (by omega) t_lpar
        rcases hx74 : (takeM L t_lpar) ⟨i + 1, xs, ts⟩ with ⟨_, s9⟩ | ⟨i9, e9⟩
        rotate_left
        · obtain rfl := (and_err hx74).symm.trans hT
          first | refine ex_callM (CallsM.ren (hcon.err hx74) [0, 1] 3 rfl rfl rfl rfl) ?_ | refine ex_callM (CallsM.more0 (CallsM.ren (hcon.err hx74) [0, 1] 3 rfl rfl rfl rfl)) ?_ | refine ex_callM (CallsM.more1 (CallsM.ren (hcon.err hx74) [0, 1] 3 rfl rfl rfl rfl)) ?_ | refine ex_callM (CallsM.moreL (CallsM.ren (hcon.err hx74) [0, 1] 3 rfl rfl rfl rfl)) ?_
          first | exact ⟨⟨_, rfl, rfl⟩, rfl, rfl⟩ | exact ⟨by kernel_rfl, ⟨_, rfl, rfl⟩, rfl, rfl⟩
        replace hT := (and_ok hx74).symm.trans hT
        first | refine ex_callM (CallsM.ren (hcon.ok hx74) [0, 1] 3 rfl rfl rfl rfl) ?_ | refine ex_callM (CallsM.more0 (CallsM.ren (hcon.ok hx74) [0, 1] 3 rfl rfl rfl rfl)) ?_ | refine ex_callM (CallsM.more1 (CallsM.ren (hcon.ok hx74) [0, 1] 3 rfl rfl rfl rfl)) ?_ | refine ex_callM (CallsM.moreL (CallsM.ren (hcon.ok hx74) [0, 1] 3 rfl rfl rfl rfl)) ?_
        clear hcon
        have hs2 := (Up.ok (Up.take hL t_lpar 0) hs1 hx74).1
        obtain rfl := mv_take1 hx74
        repeat' (first | refine ex_true (by first | decide | omega | assumption | (with_reducible exact rfl)) ?_ | refine ex_false (by first | decide | omega | assumption | exact (fun h => h rfl)) ?_ | refine ex_dec (fun _ => ?_) (fun _ => ?_) | refine ex_u8 _ rfl (by omega) (by omega) ?_ | refine ex_i64 _ rfl (by omega) (by omega) ?_ | refine ex_u64 _ rfl (by omega) (by omega) ?_ | refine and_mk (by first | omega | (with_reducible rfl) | (show drawOk _ _ _ = true; kernel_rfl)) ?_ | refine and_mk ⟨_, rfl⟩ ?_ | refine ex_is _ (List.length_map _) ?_ | refine ex_is _ List.length_nil ?_ | fail "no step")
        have hcon := name_c (m := m) ⟨i + 1 + 1, xs, ts⟩ hs2.i (by omega)
        rcases hx76 : (nameM L) ⟨i + 1 + 1, xs, ts⟩ with ⟨a, s9⟩ | ⟨i9, e9⟩
        rotate_left
        · obtain rfl := (and_err hx76).symm.trans hT
          first | refine ex_callM (CallsM.ren (hcon.err hx76) [0, 1] 3 rfl rfl rfl rfl) ?_ | refine ex_callM (CallsM.more0 (CallsM.ren (hcon.err hx76) [0, 1] 3 rfl rfl rfl rfl)) ?_ | refine ex_callM (CallsM.more1 (CallsM.ren (hcon.err hx76) [0, 1] 3 rfl rfl rfl rfl)) ?_ | refine ex_callM (CallsM.moreL (CallsM.ren (hcon.err hx76) [0, 1] 3 rfl rfl rfl rfl)) ?_
          first | exact ⟨⟨_, rfl, rfl⟩, rfl, rfl⟩ | exact ⟨by kernel_rfl, ⟨_, rfl, rfl⟩, rfl, rfl⟩
        replace hT := (and_ok hx76).symm.trans hT
        first | refine ex_callM (CallsM.ren (hcon.ok hx76) [0, 1] 3 rfl rfl rfl rfl) ?_ | refine ex_callM (CallsM.more0 (CallsM.ren (hcon.ok hx76) [0, 1] 3 rfl rfl rfl rfl)) ?_ | refine ex_callM (CallsM.more1 (CallsM.ren (hcon.ok hx76) [0, 1] 3 rfl rfl rfl rfl)) ?_ | refine ex_callM (CallsM.moreL (CallsM.ren (hcon.ok hx76) [0, 1] 3 rfl rfl rfl rfl)) ?_
        clear hcon
        have hs3 := (Up.ok (Up.name hL 0) hs2 hx76).1
        obtain rfl := mv_name1 hx76
        repeat' (first | refine ex_true (by first | decide | omega | assumption | (with_reducible exact rfl)) ?_ | refine ex_false (by first | decide | omega | assumption | exact (fun h => h rfl)) ?_ | refine ex_dec (fun _ => ?_) (fun _ => ?_) | refine ex_u8 _ rfl (by omega) (by omega) ?_ | refine ex_i64 _ rfl (by omega) (by omega) ?_ | refine ex_u64 _ rfl (by omega) (by omega) ?_ | refine and_mk (by first | omega | (with_reducible rfl) | (show drawOk _ _ _ = true; kernel_rfl)) ?_ | refine and_mk ⟨_, rfl⟩ ?_ | refine ex_is _ (List.length_map _) ?_ | refine ex_is _ List.length_nil ?_ | fail "no step")
        replace hT := pureT hT
        have hcon := take_c (m := m) ⟨i + 1 + 1 + 1, xs, ts⟩ hs3.i (by omega) t_rpar
        rcases hx79 : (takeM L t_rpar) ⟨i + 1 + 1 + 1, xs, ts⟩ with ⟨_, s9⟩ | ⟨i9, e9⟩
        rotate_left
        · obtain rfl := (and_err hx79).symm.trans hT
          first | refine ex_callM (CallsM.ren (hcon.err hx79) [0, 1] 3 rfl rfl rfl rfl) ?_ | refine ex_callM (CallsM.more0 (CallsM.ren (hcon.err hx79) [0, 1] 3 rfl rfl rfl rfl)) ?_ | refine ex_callM (CallsM.more1 (CallsM.ren (hcon.err hx79) [0, 1] 3 rfl rfl rfl rfl)) ?_ | refine ex_callM (CallsM.moreL (CallsM.ren (hcon.err hx79) [0, 1] 3 rfl rfl rfl rfl)) ?_
          first | exact ⟨⟨_, rfl, rfl⟩, rfl, rfl⟩ | exact ⟨by kernel_rfl, ⟨_, rfl, rfl⟩, rfl, rfl⟩
        replace hT := (and_ok hx79).symm.trans hT
        first | refine ex_callM (CallsM.ren (hcon.ok hx79) [0, 1] 3 rfl rfl rfl rfl) ?_ | refine ex_callM (CallsM.more0 (CallsM.ren (hcon.ok hx79) [0, 1] 3 rfl rfl rfl rfl)) ?_ | refine ex_callM (CallsM.more1 (CallsM.ren (hcon.ok hx79) [0, 1] 3 rfl rfl rfl rfl)) ?_ | refine ex_callM (CallsM.moreL (CallsM.ren (hcon.ok hx79) [0, 1] 3 rfl rfl rfl rfl)) ?_
        clear hcon
        have hs4 := (Up.ok (Up.take hL t_rpar 0) hs3 hx79).1
        obtain rfl := mv_take1 hx79
        obtain rfl : PR.ok ((2 : Nat), a, ([] : List UInt8)) ⟨i + 1 + 1 + 1 + 1, xs, ts⟩ = T := hT
        repeat' (first | refine ex_true (by first | decide | omega | assumption | (with_reducible exact rfl)) ?_ | refine ex_false (by first | decide | omega | assumption | exact (fun h => h rfl)) ?_ | refine ex_dec (fun _ => ?_) (fun _ => ?_) | refine ex_u8 _ rfl (by omega) (by omega) ?_ | refine ex_i64 _ rfl (by omega) (by omega) ?_ | refine ex_u64 _ rfl (by omega) (by omega) ?_ | refine and_mk (by first | omega | (with_reducible rfl) | (show drawOk _ _ _ = true; kernel_rfl)) ?_ | refine and_mk ⟨_, rfl⟩ ?_ | refine ex_is _ (List.length_map _) ?_ | refine ex_is _ List.length_nil ?_ | fail "no step")
        exact ⟨rfl, TLe.rfl, rfl, rfl⟩
      · rw [show derOf w_crc32 = 3 by decide +kernel] at hT
        refine fn_ruleP (C := ⟨Tryd.prog, layF, Tryd.f40.ntmps, ΓL, 3, [], []⟩) layF_ok mixed Tryd.func40 rfl (by kernel_rfl) rfl rfl rfl SLe.rfl ?_
        first | refine ex_callM (CallsM.ren ((may_no i hi w_sizeof (isV_not hw (by decide)))) [0, 1] 3 rfl rfl rfl rfl) ?_ | refine ex_callM (CallsM.more0 (CallsM.ren ((may_no i hi w_sizeof (isV_not hw (by decide)))) [0, 1] 3 rfl rfl rfl rfl)) ?_ | refine ex_callM (CallsM.more1 (CallsM.ren ((may_no i hi w_sizeof (isV_not hw (by decide)))) [0, 1] 3 rfl rfl rfl rfl)) ?_ | refine ex_callM (CallsM.moreL (CallsM.ren ((may_no i hi w_sizeof (isV_not hw (by decide)))) [0, 1] 3 rfl rfl rfl rfl)) ?_
        repeat' (first | refine ex_true (by first | decide | omega | assumption | (with_reducible exact rfl)) ?_ | refine ex_false (by first | decide | omega | assumption | exact (fun h => h rfl)) ?_ | refine ex_dec (fun _ => ?_) (fun _ => ?_) | refine ex_u8 _ rfl (by omega) (by omega) ?_ | refine ex_i64 _ rfl (by omega) (by omega) ?_ | refine ex_u64 _ rfl (by omega) (by omega) ?_ | refine and_mk (by first | omega | (with_reducible rfl) | (show drawOk _ _ _ = true; kernel_rfl)) ?_ | refine and_mk ⟨_, rfl⟩ ?_ | refine ex_is _ (List.length_map _) ?_ | refine ex_is _ List.length_nil ?_ | fail "no step")
        first | refine ex_callM (CallsM.ren ((may_no i hi w_countof (isV_not hw (by decide)))) [0, 1] 3 rfl rfl rfl rfl) ?_ | refine ex_callM (CallsM.more0 (CallsM.ren ((may_no i hi w_countof (isV_not hw (by decide)))) [0, 1] 3 rfl rfl rfl rfl)) ?_ | refine ex_callM (CallsM.more1 (CallsM.ren ((may_no i hi w_countof (isV_not hw (by decide)))) [0, 1] 3 rfl rfl rfl rfl)) ?_ | refine ex_callM (CallsM.moreL (CallsM.ren ((may_no i hi w_countof (isV_not hw (by decide)))) [0, 1] 3 rfl rfl rfl rfl)) ?_
        repeat' (first | refine ex_true (by first | decide | omega | assumption | (with_reducible exact rfl)) ?_ | refine ex_false (by first | decide | omega | assumption | exact (fun h => h rfl)) ?_ | refine ex_dec (fun _ => ?_) (fun _ => ?_) | refine ex_u8 _ rfl (by omega) (by omega) ?_ | refine ex_i64 _ rfl (by omega) (by omega) ?_ | refine ex_u64 _ rfl (by omega) (by omega) ?_ | refine and_mk (by first | omega | (with_reducible rfl) | (show drawOk _ _ _ = true; kernel_rfl)) ?_ | refine and_mk ⟨_, rfl⟩ ?_ | refine ex_is _ (List.length_map _) ?_ | refine ex_is _ List.length_nil ?_ | fail "no step")
        first | refine ex_callM (CallsM.ren ((may_yes i hi (by omega) _ (isV_yes hk hw))) [0, 1] 3 rfl rfl rfl rfl) ?_ | refine ex_callM (CallsM.more0 (CallsM.ren ((may_yes i hi (by omega) _ (isV_yes hk hw))) [0, 1] 3 rfl rfl rfl rfl)) ?_ | refine ex_callM (CallsM.more1 (CallsM.ren ((may_yes i hi (by omega) _ (isV_yes hk hw))) [0, 1] 3 rfl rfl rfl rfl)) ?_ | refine ex_callM (CallsM.moreL (CallsM.ren ((may_yes i hi (by omega) _ (isV_yes hk hw))) [0, 1] 3 rfl rfl rfl rfl)) ?_
        repeat' (first | refine ex_true (by first | decide | omega | assumption | (with_reducible exact rfl)) ?_ | refine ex_false (by first | decide | omega | assumption | exact (fun h => h rfl)) ?_ | refine ex_dec (fun _ => ?_) (fun _ => ?_) | refine ex_u8 _ rfl (by omega) (by omega) ?_ | refine ex_i64 _ rfl (by omega) (by omega) ?_ | refine ex_u64 _ rfl (by omega) (by omega) ?_ | refine and_mk (by first | omega | (with_reducible rfl) | (show drawOk _ _ _ = true; kernel_rfl)) ?_ | refine and_mk ⟨_, rfl⟩ ?_ | refine ex_is _ (List.length_map _) ?_ | refine ex_is _ List.length_nil ?_ | fail "no step")
        have hcon := take_c (m := m) ⟨i + 1, xs, ts⟩ hs1.i (by omega) t_lpar
        rcases hx91 : (takeM L t_lpar) ⟨i + 1, xs, ts⟩ with ⟨_, s9⟩ | ⟨i9, e9⟩
        rotate_left
        · obtain rfl := (and_err hx91).symm.trans hT
          first | refine ex_callM (CallsM.ren (hcon.err hx91) [0, 1] 3 rfl rfl rfl rfl) ?_ | refine ex_callM (CallsM.more0 (CallsM.ren (hcon.err hx91) [0, 1] 3 rfl rfl rfl rfl)) ?_ | refine ex_callM (CallsM.more1 (CallsM.ren (hcon.err hx91) [0, 1] 3 rfl rfl rfl rfl)) ?_ | refine ex_callM (CallsM.moreL (CallsM.ren (hcon.err hx91) [0, 1] 3 rfl rfl rfl rfl)) ?_
          first | exact ⟨⟨_, rfl, rfl⟩, rfl, rfl⟩ | exact ⟨by kernel_rfl, ⟨_, rfl, rfl⟩, rfl, rfl⟩
        replace hT := (and_ok hx91).symm.trans hT
        first | refine ex_callM (CallsM.ren (hcon.ok hx91) [0, 1] 3 rfl rfl rfl rfl) ?_ | refine ex_callM (CallsM.more0 (CallsM.ren (hcon.ok hx91) [0, 1] 3 rfl rfl rfl rfl)) ?_ | refine ex_callM (CallsM.more1 (CallsM.ren (hcon.ok hx91) [0, 1] 3 rfl rfl rfl rfl)) ?_ | refine ex_callM (CallsM.moreL (CallsM.ren (hcon.ok hx91) [0, 1] 3 rfl rfl rfl rfl)) ?_
        clear hcon
        have hs2 := (Up.ok (Up.take hL t_lpar 0) hs1 hx91).1
        obtain rfl := mv_take1 hx91
        repeat' (first | refine ex_true (by first | decide | omega | assumption | (with_reducible exact rfl)) ?_ | refine ex_false (by first | decide | omega | assumption | exact (fun h => h rfl)) ?_ | refine ex_dec (fun _ => ?_) (fun _ => ?_) | refine ex_u8 _ rfl (by omega) (by omega) ?_ | refine ex_i64 _ rfl (by omega) (by omega) ?_ | refine ex_u64 _ rfl (by omega) (by omega) ?_ | refine and_mk (by first | omega | (with_reducible rfl) | (show drawOk _ _ _ = true; kernel_rfl)) ?_ | refine and_mk ⟨_, rfl⟩ ?_ | refine ex_is _ (List.length_map _) ?_ | refine ex_is _ List.length_nil ?_ | fail "no step")
        have hcon := name_c (m := m) ⟨i + 1 + 1, xs, ts⟩ hs2.i (by omega)
        rcases hx93 : (nameM L) ⟨i + 1 + 1, xs, ts⟩ with ⟨a, s9⟩ | ⟨i9, e9⟩
        rotate_left
        · obtain rfl := (and_err hx93).symm.trans hT
          first | refine ex_callM (CallsM.ren (hcon.err hx93) [0, 1] 3 rfl rfl rfl rfl) ?_ | refine ex_callM (CallsM.more0 (CallsM.ren (hcon.err hx93) [0, 1] 3 rfl rfl rfl rfl)) ?_ | refine ex_callM (CallsM.more1 (CallsM.ren (hcon.err hx93) [0, 1] 3 rfl rfl rfl rfl)) ?_ | refine ex_callM (CallsM.moreL (CallsM.ren (hcon.err hx93) [0, 1] 3 rfl rfl rfl rfl)) ?_
          first | exact ⟨⟨_, rfl, rfl⟩, rfl, rfl⟩ | exact ⟨by kernel_rfl, ⟨_, rfl, rfl⟩, rfl, rfl⟩
        replace hT := (and_ok hx93).symm.trans hT
        first | refine ex_callM (CallsM.ren (hcon.ok hx93) [0, 1] 3 rfl rfl rfl rfl) ?_ | refine ex_callM (CallsM.more0 (CallsM.ren (hcon.ok hx93) [0, 1] 3 rfl rfl rfl rfl)) ?_ | refine ex_callM (CallsM.more1 (CallsM.ren (hcon.ok hx93) [0, 1] 3 rfl rfl rfl rfl)) ?_ | refine ex_callM (CallsM.moreL (CallsM.ren (hcon.ok hx93) [0, 1] 3 rfl rfl rfl rfl)) ?_
        clear hcon
        have hs3 := (Up.ok (Up.name hL 0) hs2 hx93).1
        obtain rfl := mv_name1 hx93
        repeat' (first | refine ex_true (by first | decide | omega | assumption | (with_reducible exact rfl)) ?_ | refine ex_false (by first | decide | omega | assumption | exact (fun h => h rfl)) ?_ | refine ex_dec (fun _ => ?_) (fun _ => ?_) | refine ex_u8 _ rfl (by omega) (by omega) ?_ | refine ex_i64 _ rfl (by omega) (by omega) ?_ | refine ex_u64 _ rfl (by omega) (by omega) ?_ | refine and_mk (by first | omega | (with_reducible rfl) | (show drawOk _ _ _ = true; kernel_rfl)) ?_ | refine and_mk ⟨_, rfl⟩ ?_ | refine ex_is _ (List.length_map _) ?_ | refine ex_is _ List.length_nil ?_ | fail "no step")
        replace hT := asc hT
        have hcon := take_c (m := m) ⟨i + 1 + 1 + 1, xs, ts⟩ hs3.i (by omega) t_dots
        rcases hx96 : (takeM L t_dots) ⟨i + 1 + 1 + 1, xs, ts⟩ with ⟨_, s9⟩ | ⟨i9, e9⟩
        rotate_left
        · obtain rfl := (and_err hx96).symm.trans hT
          first | refine ex_callM (CallsM.ren (hcon.err hx96) [0, 1] 3 rfl rfl rfl rfl) ?_ | refine ex_callM (CallsM.more0 (CallsM.ren (hcon.err hx96) [0, 1] 3 rfl rfl rfl rfl)) ?_ | refine ex_callM (CallsM.more1 (CallsM.ren (hcon.err hx96) [0, 1] 3 rfl rfl rfl rfl)) ?_ | refine ex_callM (CallsM.moreL (CallsM.ren (hcon.err hx96) [0, 1] 3 rfl rfl rfl rfl)) ?_
          first | exact ⟨⟨_, rfl, rfl⟩, rfl, rfl⟩ | exact ⟨by kernel_rfl, ⟨_, rfl, rfl⟩, rfl, rfl⟩
        replace hT := (and_ok hx96).symm.trans hT
        first | refine ex_callM (CallsM.ren (hcon.ok hx96) [0, 1] 3 rfl rfl rfl rfl) ?_ | refine ex_callM (CallsM.more0 (CallsM.ren (hcon.ok hx96) [0, 1] 3 rfl rfl rfl rfl)) ?_ | refine ex_callM (CallsM.more1 (CallsM.ren (hcon.ok hx96) [0, 1] 3 rfl rfl rfl rfl)) ?_ | refine ex_callM (CallsM.moreL (CallsM.ren (hcon.ok hx96) [0, 1] 3 rfl rfl rfl rfl)) ?_
        clear hcon
        have hs4 := (Up.ok (Up.take hL t_dots 0) hs3 hx96).1
        obtain rfl := mv_take1 hx96
        repeat' (first | refine ex_true (by first | decide | omega | assumption | (with_reducible exact rfl)) ?_ | refine ex_false (by first | decide | omega | assumption | exact (fun h => h rfl)) ?_ | refine ex_dec (fun _ => ?_) (fun _ => ?_) | refine ex_u8 _ rfl (by omega) (by omega) ?_ | refine ex_i64 _ rfl (by omega) (by omega) ?_ | refine ex_u64 _ rfl (by omega) (by omega) ?_ | refine and_mk (by first | omega | (with_reducible rfl) | (show drawOk _ _ _ = true; kernel_rfl)) ?_ | refine and_mk ⟨_, rfl⟩ ?_ | refine ex_is _ (List.length_map _) ?_ | refine ex_is _ List.length_nil ?_ | fail "no step")
        have hcon := name_c (m := m) ⟨i + 1 + 1 + 1 + 1, xs, ts⟩ hs4.i (by omega)
        rcases hx98 : (nameM L) ⟨i + 1 + 1 + 1 + 1, xs, ts⟩ with ⟨b, s9⟩ | ⟨i9, e9⟩
        rotate_left
        · obtain rfl := (and_err hx98).symm.trans hT
          first | refine ex_callM (CallsM.ren (hcon.err hx98) [0, 1] 3 rfl rfl rfl rfl) ?_ | refine ex_callM (CallsM.more0 (CallsM.ren (hcon.err hx98) [0, 1] 3 rfl rfl rfl rfl)) ?_ | refine ex_callM (CallsM.more1 (CallsM.ren (hcon.err hx98) [0, 1] 3 rfl rfl rfl rfl)) ?_ | refine ex_callM (CallsM.moreL (CallsM.ren (hcon.err hx98) [0, 1] 3 rfl rfl rfl rfl)) ?_
          first | exact ⟨⟨_, rfl, rfl⟩, rfl, rfl⟩ | exact ⟨by kernel_rfl, ⟨_, rfl, rfl⟩, rfl, rfl⟩
        replace hT := (and_ok hx98).symm.trans hT
        first | refine ex_callM (CallsM.ren (hcon.ok hx98) [0, 1] 3 rfl rfl rfl rfl) ?_ | refine ex_callM (CallsM.more0 (CallsM.ren (hcon.ok hx98) [0, 1] 3 rfl rfl rfl rfl)) ?_ | refine ex_callM (CallsM.more1 (CallsM.ren (hcon.ok hx98) [0, 1] 3 rfl rfl rfl rfl)) ?_ | refine ex_callM (CallsM.moreL (CallsM.ren (hcon.ok hx98) [0, 1] 3 rfl rfl rfl rfl)) ?_
        clear hcon
        have hs5 := (Up.ok (Up.name hL 0) hs4 hx98).1
        obtain rfl := mv_name1 hx98
        repeat' (first | refine ex_true (by first | decide | omega | assumption | (with_reducible exact rfl)) ?_ | refine ex_false (by first | decide | omega | assumption | exact (fun h => h rfl)) ?_ | refine ex_dec (fun _ => ?_) (fun _ => ?_) | refine ex_u8 _ rfl (by omega) (by omega) ?_ | refine ex_i64 _ rfl (by omega) (by omega) ?_ | refine ex_u64 _ rfl (by omega) (by omega) ?_ | refine and_mk (by first | omega | (with_reducible rfl) | (show drawOk _ _ _ = true; kernel_rfl)) ?_ | refine and_mk ⟨_, rfl⟩ ?_ | refine ex_is _ (List.length_map _) ?_ | refine ex_is _ List.length_nil ?_ | fail "no step")
        have hcon := take_c (m := m) ⟨i + 1 + 1 + 1 + 1 + 1, xs, ts⟩ hs5.i (by omega) t_rpar
        rcases hx100 : (takeM L t_rpar) ⟨i + 1 + 1 + 1 + 1 + 1, xs, ts⟩ with ⟨_, s9⟩ | ⟨i9, e9⟩
        rotate_left
        · obtain rfl := (and_err hx100).symm.trans hT
          first | refine ex_callM (CallsM.ren (hcon.err hx100) [0, 1] 3 rfl rfl rfl rfl) ?_ | refine ex_callM (CallsM.more0 (CallsM.ren (hcon.err hx100) [0, 1] 3 rfl rfl rfl rfl)) ?_ | refine ex_callM (CallsM.more1 (CallsM.ren (hcon.err hx100) [0, 1] 3 rfl rfl rfl rfl)) ?_ | refine ex_callM (CallsM.moreL (CallsM.ren (hcon.err hx100) [0, 1] 3 rfl rfl rfl rfl)) ?_
          first | exact ⟨⟨_, rfl, rfl⟩, rfl, rfl⟩ | exact ⟨by kernel_rfl, ⟨_, rfl, rfl⟩, rfl, rfl⟩
        replace hT := (and_ok hx100).symm.trans hT
        first | refine ex_callM (CallsM.ren (hcon.ok hx100) [0, 1] 3 rfl rfl rfl rfl) ?_ | refine ex_callM (CallsM.more0 (CallsM.ren (hcon.ok hx100) [0, 1] 3 rfl rfl rfl rfl)) ?_ | refine ex_callM (CallsM.more1 (CallsM.ren (hcon.ok hx100) [0, 1] 3 rfl rfl rfl rfl)) ?_ | refine ex_callM (CallsM.moreL (CallsM.ren (hcon.ok hx100) [0, 1] 3 rfl rfl rfl rfl)) ?_
        clear hcon
        have hs6 := (Up.ok (Up.take hL t_rpar 0) hs5 hx100).1
        obtain rfl := mv_take1 hx100
        obtain rfl : PR.ok ((3 : Nat), a, b) ⟨i + 1 + 1 + 1 + 1 + 1 + 1, xs, ts⟩ = T := hT
        repeat' (first | refine ex_true (by first | decide | omega | assumption | (with_reducible exact rfl)) ?_ | refine ex_false (by first | decide | omega | assumption | exact (fun h => h rfl)) ?_ | refine ex_dec (fun _ => ?_) (fun _ => ?_) | refine ex_u8 _ rfl (by omega) (by omega) ?_ | refine ex_i64 _ rfl (by omega) (by omega) ?_ | refine ex_u64 _ rfl (by omega) (by omega) ?_ | refine and_mk (by first | omega | (with_reducible rfl) | (show drawOk _ _ _ = true; kernel_rfl)) ?_ | refine and_mk ⟨_, rfl⟩ ?_ | refine ex_is _ (List.length_map _) ?_ | refine ex_is _ List.length_nil ?_ | fail "no step")
        exact ⟨rfl, TLe.rfl, rfl, rfl⟩
      · rw [show derOf w_adler32 = 4 by decide +kernel] at hT
        refine fn_ruleP (C := ⟨Tryd.prog, layF, Tryd.f40.ntmps, ΓL, 3, [], []⟩) layF_ok mixed Tryd.func40 rfl (by kernel_rfl) rfl rfl rfl SLe.rfl ?_
        first | refine ex_callM (CallsM.ren ((may_no i hi w_sizeof (isV_not hw (by decide)))) [0, 1] 3 rfl rfl rfl rfl) ?_ | refine ex_callM (CallsM.more0 (CallsM.ren ((may_no i hi w_sizeof (isV_not hw (by decide)))) [0, 1] 3 rfl rfl rfl rfl)) ?_ | refine ex_callM (CallsM.more1 (CallsM.ren ((may_no i hi w_sizeof (isV_not hw (by decide)))) [0, 1] 3 rfl rfl rfl rfl)) ?_ | refine ex_callM (CallsM.moreL (CallsM.ren ((may_no i hi w_sizeof (isV_not hw (by decide)))) [0, 1] 3 rfl rfl rfl rfl)) ?_
        repeat' (first | refine ex_true (by first | decide | omega | assumption | (with_reducible exact rfl)) ?_ | refine ex_false (by first | decide | omega | assumption | exact (fun h => h rfl)) ?_ | refine ex_dec (fun _ => ?_) (fun _ => ?_) | refine ex_u8 _ rfl (by omega) (by omega) ?_ | refine ex_i64 _ rfl (by omega) (by omega) ?_ | refine ex_u64 _ rfl (by omega) (by omega) ?_ | refine and_mk (by first | omega | (with_reducible rfl) | (show drawOk _ _ _ = true; kernel_rfl)) ?_ | refine and_mk ⟨_, rfl⟩ ?_ | refine ex_is _ (List.length_map _) ?_ | refine ex_is _ List.length_nil ?_ | fail "no step")
        first | refine ex_callM (CallsM.ren ((may_no i hi w_countof (isV_not hw (by decide)))) [0, 1] 3 rfl rfl rfl rfl) ?_ | refine ex_callM (CallsM.more0 (CallsM.ren ((may_no i hi w_countof (isV_not hw (by decide)))) [0, 1] 3 rfl rfl rfl rfl)) ?_ | refine ex_callM (CallsM.more1 (CallsM.ren ((may_no i hi w_countof (isV_not hw (by decide)))) [0, 1] 3 rfl rfl rfl rfl)) ?_ | refine ex_callM (CallsM.moreL (CallsM.ren ((may_no i hi w_countof (isV_not hw (by decide)))) [0, 1] 3 rfl rfl rfl rfl)) ?_
        repeat' (first | refine ex_true (by first | decide | omega | assumption | (with_reducible exact rfl)) ?_ | refine ex_false (by first | decide | omega | assumption | exact (fun h => h rfl)) ?_ | refine ex_dec (fun _ => ?_) (fun _ => ?_) | refine ex_u8 _ rfl (by omega) (by omega) ?_ | refine ex_i64 _ rfl (by omega) (by omega) ?_ | refine ex_u64 _ rfl (by omega) (by omega) ?_ | refine and_mk (by first | omega | (with_reducible rfl) | (show drawOk _ _ _ = true; kernel_rfl)) ?_ | refine and_mk ⟨_, rfl⟩ ?_ | refine ex_is _ (List.length_map _) ?_ | refine ex_is _ List.length_nil ?_ | fail "no step")
        first | refine ex_callM (CallsM.ren ((may_no i hi w_crc32 (isV_not hw (by decide)))) [0, 1] 3 rfl rfl rfl rfl) ?_ | refine ex_callM (CallsM.more0 (CallsM.ren ((may_no i hi w_crc32 (isV_not hw (by decide)))) [0, 1] 3 rfl rfl rfl rfl)) ?_ | refine ex_callM (CallsM.more1 (CallsM.ren ((may_no i hi w_crc32 (isV_not hw (by decide)))) [0, 1] 3 rfl rfl rfl rfl)) ?_ | refine ex_callM (CallsM.moreL (CallsM.ren ((may_no i hi w_crc32 (isV_not hw (by decide)))) [0, 1] 3 rfl rfl rfl rfl)) ?_
        repeat' (first | refine ex_true (by first | decide | omega | assumption | (with_reducible exact rfl)) ?_ | refine ex_false (by first | decide | omega | assumption | exact (fun h => h rfl)) ?_ | refine ex_dec (fun _ => ?_) (fun _ => ?_) | refine ex_u8 _ rfl (by omega) (by omega) ?_ | refine ex_i64 _ rfl (by omega) (by omega) ?_ | refine ex_u64 _ rfl (by omega) (by omega) ?_ | refine and_mk (by first | omega | (with_reducible rfl) | (show drawOk _ _ _ = true; kernel_rfl)) ?_ | refine and_mk ⟨_, rfl⟩ ?_ | refine ex_is _ (List.length_map _) ?_ | refine ex_is _ List.length_nil ?_ | fail "no step")
        first | refine ex_callM (CallsM.ren ((may_yes i hi (by omega) _ (isV_yes hk hw))) [0, 1] 3 rfl rfl rfl rfl) ?_ | refine ex_callM (CallsM.more0 (CallsM.ren ((may_yes i hi (by omega) _ (isV_yes hk hw))) [0, 1] 3 rfl rfl rfl rfl)) ?_ | refine ex_callM (CallsM.more1 (CallsM.ren ((may_yes i hi (by omega) _ (isV_yes hk hw))) [0, 1] 3 rfl rfl rfl rfl)) ?_ | refine ex_callM (CallsM.moreL (CallsM.ren ((may_yes i hi (by omega) _ (isV_yes hk hw))) [0, 1] 3 rfl rfl rfl rfl)) ?_
        repeat' (first | refine ex_true (by first | decide | omega | assumption | (with_reducible exact rfl)) ?_ | refine ex_false (by first | decide | omega | assumption | exact (fun h => h rfl)) ?_ | refine ex_dec (fun _ => ?_) (fun _ => ?_) | refine ex_u8 _ rfl (by omega) (by omega) ?_ | refine ex_i64 _ rfl (by omega) (by omega) ?_ | refine ex_u64 _ rfl (by omega) (by omega) ?_ | refine and_mk (by first | omega | (with_reducible rfl) | (show drawOk _ _ _ = true; kernel_rfl)) ?_ | refine and_mk ⟨_, rfl⟩ ?_ | refine ex_is _ (List.length_map _) ?_ | refine ex_is _ List.length_nil ?_ | fail "no step")
        have hcon := take_c (m := m) ⟨i + 1, xs, ts⟩ hs1.i (by omega) t_lpar
        rcases hx114 : (takeM L t_lpar) ⟨i + 1, xs, ts⟩ with ⟨_, s9⟩ | ⟨i9, e9⟩
        rotate_left
        · obtain rfl := (and_err hx114).symm.trans hT
          first | refine ex_callM (CallsM.ren (hcon.err hx114) [0, 1] 3 rfl rfl rfl rfl) ?_ | refine ex_callM (CallsM.more0 (CallsM.ren (hcon.err hx114) [0, 1] 3 rfl rfl rfl rfl)) ?_ | refine ex_callM (CallsM.more1 (CallsM.ren (hcon.err hx114) [0, 1] 3 rfl rfl rfl rfl)) ?_ | refine ex_callM (CallsM.moreL (CallsM.ren (hcon.err hx114) [0, 1] 3 rfl rfl rfl rfl)) ?_
          first | exact ⟨⟨_, rfl, rfl⟩, rfl, rfl⟩ | exact ⟨by kernel_rfl, ⟨_, rfl, rfl⟩, rfl, rfl⟩
        replace hT := (and_ok hx114).symm.trans hT
        first | refine ex_callM (CallsM.ren (hcon.ok hx114) [0, 1] 3 rfl rfl rfl rfl) ?_ | refine ex_callM (CallsM.more0 (CallsM.ren (hcon.ok hx114) [0, 1] 3 rfl rfl rfl rfl)) ?_ | refine ex_callM (CallsM.more1 (CallsM.ren (hcon.ok hx114) [0, 1] 3 rfl rfl rfl rfl)) ?_ | refine ex_callM (CallsM.moreL (CallsM.ren (hcon.ok hx114) [0, 1] 3 rfl rfl rfl rfl)) ?_
        clear hcon
        have hs2 := (Up.ok (Up.take hL t_lpar 0) hs1 hx114).1
        obtain rfl := mv_take1 hx114
        repeat' (first | refine ex_true (by first | decide | omega | assumption | (with_reducible exact rfl)) ?_ | refine ex_false (by first | decide | omega | assumption | exact (fun h => h rfl)) ?_ | refine ex_dec (fun _ => ?_) (fun _ => ?_) | refine ex_u8 _ rfl (by omega) (by omega) ?_ | refine ex_i64 _ rfl (by omega) (by omega) ?_ | refine ex_u64 _ rfl (by omega) (by omega) ?_ | refine and_mk (by first | omega | (with_reducible rfl) | (show drawOk _ _ _ = true; kernel_rfl)) ?_ | refine and_mk ⟨_, rfl⟩ ?_ | refine ex_is _ (List.length_map _) ?_ | refine ex_is _ List.length_nil ?_ | fail "no step")
        have hcon := name_c (m := m) ⟨i + 1 + 1, xs, ts⟩ hs2.i (by omega)
        rcases hx116 : (nameM L) ⟨i + 1 + 1, xs, ts⟩ with ⟨a, s9⟩ | ⟨i9, e9⟩
        rotate_left
        · obtain rfl := (and_err hx116).symm.trans hT
          first | refine ex_callM (CallsM.ren (hcon.err hx116) [0, 1] 3 rfl rfl rfl rfl) ?_ | refine ex_callM (CallsM.more0 (CallsM.ren (hcon.err hx116) [0, 1] 3 rfl rfl rfl rfl)) ?_ | refine ex_callM (CallsM.more1 (CallsM.ren (hcon.err hx116) [0, 1] 3 rfl rfl rfl rfl)) ?_ | refine ex_callM (CallsM.moreL (CallsM.ren (hcon.err hx116) [0, 1] 3 rfl rfl rfl rfl)) ?_
          first | exact ⟨⟨_, rfl, rfl⟩, rfl, rfl⟩ | exact ⟨by kernel_rfl, ⟨_, rfl, rfl⟩, rfl, rfl⟩
        replace hT := (and_ok hx116).symm.trans hT
        first | refine ex_callM (CallsM.ren (hcon.ok hx116) [0, 1] 3 rfl rfl rfl rfl) ?_ | refine ex_callM (CallsM.more0 (CallsM.ren (hcon.ok hx116) [0, 1] 3 rfl rfl rfl rfl)) ?_ | refine ex_callM (CallsM.more1 (CallsM.ren (hcon.ok hx116) [0, 1] 3 rfl rfl rfl rfl)) ?_ | refine ex_callM (CallsM.moreL (CallsM.ren (hcon.ok hx116) [0, 1] 3 rfl rfl rfl rfl)) ?_
        clear hcon
        have hs3 := (Up.ok (Up.name hL 0) hs2 hx116).1
        obtain rfl := mv_name1 hx116
        repeat' (first | refine ex_true (by first | decide | omega | assumption | (with_reducible exact rfl)) ?_ | refine ex_false (by first | decide | omega | assumption | exact (fun h => h rfl)) ?_ | refine ex_dec (fun _ => ?_) (fun _ => ?_) | refine ex_u8 _ rfl (by omega) (by omega) ?_ | refine ex_i64 _ rfl (by omega) (by omega) ?_ | refine ex_u64 _ rfl (by omega) (by omega) ?_ | refine and_mk (by first | omega | (with_reducible rfl) | (show drawOk _ _ _ = true; kernel_rfl)) ?_ | refine and_mk ⟨_, rfl⟩ ?_ | refine ex_is _ (List.length_map _) ?_ | refine ex_is _ List.length_nil ?_ | fail "no step")
        replace hT := asc hT
        have hcon := take_c (m := m) ⟨i + 1 + 1 + 1, xs, ts⟩ hs3.i (by omega) t_dots
        rcases hx119 : (takeM L t_dots) ⟨i + 1 + 1 + 1, xs, ts⟩ with ⟨_, s9⟩ | ⟨i9, e9⟩
        rotate_left
        · obtain rfl := (and_err hx119).symm.trans hT
          first | refine ex_callM (CallsM.ren (hcon.err hx119) [0, 1] 3 rfl rfl rfl rfl) ?_ | refine ex_callM (CallsM.more0 (CallsM.ren (hcon.err hx119) [0, 1] 3 rfl rfl rfl rfl)) ?_ | refine ex_callM (CallsM.more1 (CallsM.ren (hcon.err hx119) [0, 1] 3 rfl rfl rfl rfl)) ?_ | refine ex_callM (CallsM.moreL (CallsM.ren (hcon.err hx119) [0, 1] 3 rfl rfl rfl rfl)) ?_
          first | exact ⟨⟨_, rfl, rfl⟩, rfl, rfl⟩ | exact ⟨by kernel_rfl, ⟨_, rfl, rfl⟩, rfl, rfl⟩
        replace hT := (and_ok hx119).symm.trans hT
        first | refine ex_callM (CallsM.ren (hcon.ok hx119) [0, 1] 3 rfl rfl rfl rfl) ?_ | refine ex_callM (CallsM.more0 (CallsM.ren (hcon.ok hx119) [0, 1] 3 rfl rfl rfl rfl)) ?_ | refine ex_callM (CallsM.more1 (CallsM.ren (hcon.ok hx119) [0, 1] 3 rfl rfl rfl rfl)) ?_ | refine ex_callM (CallsM.moreL (CallsM.ren (hcon.ok hx119) [0, 1] 3 rfl rfl rfl rfl)) ?_
        clear hcon
        have hs4 := (Up.ok (Up.take hL t_dots 0) hs3 hx119).1
        obtain rfl := mv_take1 hx119
        repeat' (first | refine ex_true (by first | decide | omega | assumption | (with_reducible exact rfl)) ?_ | refine ex_false (by first | decide | omega | assumption | exact (fun h => h rfl)) ?_ | refine ex_dec (fun _ => ?_) (fun _ => ?_) | refine ex_u8 _ rfl (by omega) (by omega) ?_ | refine ex_i64 _ rfl (by omega) (by omega) ?_ | refine ex_u64 _ rfl (by omega) (by omega) ?_ | refine and_mk (by first | omega | (with_reducible rfl) | (show drawOk _ _ _ = true; kernel_rfl)) ?_ | refine and_mk ⟨_, rfl⟩ ?_ | refine ex_is _ (List.length_map _) ?_ | refine ex_is _ List.length_nil ?_ | fail "no step")
        have hcon := name_c (m := m) ⟨i + 1 + 1 + 1 + 1, xs, ts⟩ hs4.i (by omega)
        rcases hx121 : (nameM L) ⟨i + 1 + 1 + 1 + 1, xs, ts⟩ with ⟨b, s9⟩ | ⟨i9, e9⟩
        rotate_left
        · obtain rfl := (and_err hx121).symm.trans hT
          first | refine ex_callM (CallsM.ren (hcon.err hx121) [0, 1] 3 rfl rfl rfl rfl) ?_ | refine ex_callM (CallsM.more0 (CallsM.ren (hcon.err hx121) [0, 1] 3 rfl rfl rfl rfl)) ?_ | refine ex_callM (CallsM.more1 (CallsM.ren (hcon.err hx121) [0, 1] 3 rfl rfl rfl rfl)) ?_ | refine ex_callM (CallsM.moreL (CallsM.ren (hcon.err hx121) [0, 1] 3 rfl rfl rfl rfl)) ?_
          first | exact ⟨⟨_, rfl, rfl⟩, rfl, rfl⟩ | exact ⟨by kernel_rfl, ⟨_, rfl, rfl⟩, rfl, rfl⟩
        replace hT := (and_ok hx121).symm.trans hT
        first | refine ex_callM (CallsM.ren (hcon.ok hx121) [0, 1] 3 rfl rfl rfl rfl) ?_ | refine ex_callM (CallsM.more0 (CallsM.ren (hcon.ok hx121) [0, 1] 3 rfl rfl rfl rfl)) ?_ | refine ex_callM (CallsM.more1 (CallsM.ren (hcon.ok hx121) [0, 1] 3 rfl rfl rfl rfl)) ?_ | refine ex_callM (CallsM.moreL (CallsM.ren (hcon.ok hx121) [0, 1] 3 rfl rfl rfl rfl)) ?_
        clear hcon
        have hs5 := (Up.ok (Up.name hL 0) hs4 hx121).1
        obtain rfl := mv_name1 hx121
        repeat' (first | refine ex_true (by first | decide | omega | assumption | (with_reducible exact rfl)) ?_ | refine ex_false (by first | decide | omega | assumption | exact (fun h => h rfl)) ?_ | refine ex_dec (fun _ => ?_) (fun _ => ?_) | refine ex_u8 _ rfl (by omega) (by omega) ?_ | refine ex_i64 _ rfl (by omega) (by omega) ?_ | refine ex_u64 _ rfl (by omega) (by omega) ?_ | refine and_mk (by first | omega | (with_reducible rfl) | (show drawOk _ _ _ = true; kernel_rfl)) ?_ | refine and_mk ⟨_, rfl⟩ ?_ | refine ex_is _ (List.length_map _) ?_ | refine ex_is _ List.length_nil ?_ | fail "no step")
        have hcon := take_c (m := m) ⟨i + 1 + 1 + 1 + 1 + 1, xs, ts⟩ hs5.i (by omega) t_rpar
        rcases hx123 : (takeM L t_rpar) ⟨i + 1 + 1 + 1 + 1 + 1, xs, ts⟩ with ⟨_, s9⟩ | ⟨i9, e9⟩
        rotate_left
        · obtain rfl := (and_err hx123).symm.trans hT
          first | refine ex_callM (CallsM.ren (hcon.err hx123) [0, 1] 3 rfl rfl rfl rfl) ?_ | refine ex_callM (CallsM.more0 (CallsM.ren (hcon.err hx123) [0, 1] 3 rfl rfl rfl rfl)) ?_ | refine ex_callM (CallsM.more1 (CallsM.ren (hcon.err hx123) [0, 1] 3 rfl rfl rfl rfl)) ?_ | refine ex_callM (CallsM.moreL (CallsM.ren (hcon.err hx123) [0, 1] 3 rfl rfl rfl rfl)) ?_
          first | exact ⟨⟨_, rfl, rfl⟩, rfl, rfl⟩ | exact ⟨by kernel_rfl, ⟨_, rfl, rfl⟩, rfl, rfl⟩
        replace hT := (and_ok hx123).symm.trans hT
        first | refine ex_callM (CallsM.ren (hcon.ok hx123) [0, 1] 3 rfl rfl rfl rfl) ?_ | refine ex_callM (CallsM.more0 (CallsM.ren (hcon.ok hx123) [0, 1] 3 rfl rfl rfl rfl)) ?_ | refine ex_callM (CallsM.more1 (CallsM.ren (hcon.ok hx123) [0, 1] 3 rfl rfl rfl rfl)) ?_ | refine ex_callM (CallsM.moreL (CallsM.ren (hcon.ok hx123) [0, 1] 3 rfl rfl rfl rfl)) ?_
        clear hcon
        have hs6 := (Up.ok (Up.take hL t_rpar 0) hs5 hx123).1
        obtain rfl := mv_take1 hx123
        obtain rfl : PR.ok ((4 : Nat), a, b) ⟨i + 1 + 1 + 1 + 1 + 1 + 1, xs, ts⟩ = T := hT
        repeat' (first | refine ex_true (by first | decide | omega | assumption | (with_reducible exact rfl)) ?_ | refine ex_false (by first | decide | omega | assumption | exact (fun h => h rfl)) ?_ | refine ex_dec (fun _ => ?_) (fun _ => ?_) | refine ex_u8 _ rfl (by omega) (by omega) ?_ | refine ex_i64 _ rfl (by omega) (by omega) ?_ | refine ex_u64 _ rfl (by omega) (by omega) ?_ | refine and_mk (by first | omega | (with_reducible rfl) | (show drawOk _ _ _ = true; kernel_rfl)) ?_ | refine and_mk ⟨_, rfl⟩ ?_ | refine ex_is _ (List.length_map _) ?_ | refine ex_is _ List.length_nil ?_ | fail "no step")
        exact ⟨rfl, TLe.rfl, rfl, rfl⟩
    · have h0 : derOf w = 0 := by
        unfold derOf
        rw [if_neg (fun e => hm (by simp [e])), if_neg (fun e => hm (by simp [e])), if_neg (fun e => hm (by simp [e])), if_neg (fun e => hm (by simp [e]))]
      exact hbad (fun t ht => isV_not hw (fun e => hm (by rw [e]; exact ht))) (atn hT (by simp [hw, h0])).symm
end
end Go.Proofs.YtkbhmcdoedmffaaDoor

namespace Go.Proofs.YtkbhmcdoedmffaaDoor
set_option linter.unusedVariables false
set_option linter.unusedSimpArgs false
open Go.RowKit
set_option maxRecDepth 100000

section
variable {L : List TokP} {m : Nat}
theorem const_c (hL : TokOk L) (hn : L.length ≤ 100000) (s : PS) {c : Nat} (hs : SOk L c s) : C0 L m 17 [] (constM L) (fun v => .o (gD (coD v))) s := by
  refine C0.of fun T hT => ?_
  unfold constM at hT
  obtain ⟨i, xs, ts⟩ := s
  refine fn_ruleP (C := ⟨Tryd.prog, layF, Tryd.f17.ntmps, ΓL, 2, [], []⟩) layF_ok mixed Tryd.func17 rfl (by kernel_rfl) rfl rfl rfl SLe.rfl ?_
  repeat' (first | refine ex_true (by first | decide | omega | assumption | (with_reducible exact rfl)) ?_ | refine ex_false (by first | decide | omega | assumption | exact (fun h => h rfl)) ?_ | refine ex_dec (fun _ => ?_) (fun _ => ?_) | refine ex_u8 _ rfl (by omega) (by omega) ?_ | refine ex_i64 _ rfl (by omega) (by omega) ?_ | refine ex_u64 _ rfl (by omega) (by omega) ?_ | refine and_mk (by first | omega | (with_reducible rfl) | (show drawOk _ _ _ = true; kernel_rfl)) ?_ | refine and_mk ⟨_, rfl⟩ ?_ | refine ex_is _ (List.length_map _) ?_ | refine ex_is _ List.length_nil ?_ | fail "no step")
  have hcon := take_c (m := m) ⟨i, xs, ts⟩ hs.i (by omega) w_const
  rcases hx14 : (takeM L w_const) ⟨i, xs, ts⟩ with ⟨_, s9⟩ | ⟨i9, e9⟩
  rotate_left
  · obtain rfl := (and_err hx14).symm.trans hT
    first | refine ex_callM (CallsM.ren (hcon.err hx14) [0, 1] 3 rfl rfl rfl rfl) ?_ | refine ex_callM (CallsM.more0 (CallsM.ren (hcon.err hx14) [0, 1] 3 rfl rfl rfl rfl)) ?_ | refine ex_callM (CallsM.more1 (CallsM.ren (hcon.err hx14) [0, 1] 3 rfl rfl rfl rfl)) ?_ | refine ex_callM (CallsM.moreL (CallsM.ren (hcon.err hx14) [0, 1] 3 rfl rfl rfl rfl)) ?_
    first | exact ⟨⟨_, rfl, rfl⟩, rfl, rfl⟩ | exact ⟨by kernel_rfl, ⟨_, rfl, rfl⟩, rfl, rfl⟩
  replace hT := (and_ok hx14).symm.trans hT
  first | refine ex_callM (CallsM.ren (hcon.ok hx14) [0, 1] 3 rfl rfl rfl rfl) ?_ | refine ex_callM (CallsM.more0 (CallsM.ren (hcon.ok hx14) [0, 1] 3 rfl rfl rfl rfl)) ?_ | refine ex_callM (CallsM.more1 (CallsM.ren (hcon.ok hx14) [0, 1] 3 rfl rfl rfl rfl)) ?_ | refine ex_callM (CallsM.moreL (CallsM.ren (hcon.ok hx14) [0, 1] 3 rfl rfl rfl rfl)) ?_
  clear hcon
  have hs1 := (Up.ok (Up.take hL w_const 0) hs hx14).1
  obtain rfl := mv_take1 hx14
  repeat' (first | refine ex_true (by first | decide | omega | assumption | (with_reducible exact rfl)) ?_ | refine ex_false (by first | decide | omega | assumption | exact (fun h => h rfl)) ?_ | refine ex_dec (fun _ => ?_) (fun _ => ?_) | refine ex_u8 _ rfl (by omega) (by omega) ?_ | refine ex_i64 _ rfl (by omega) (by omega) ?_ | refine ex_u64 _ rfl (by omega) (by omega) ?_ | refine and_mk (by first | omega | (with_reducible rfl) | (show drawOk _ _ _ = true; kernel_rfl)) ?_ | refine and_mk ⟨_, rfl⟩ ?_ | refine ex_is _ (List.length_map _) ?_ | refine ex_is _ List.length_nil ?_ | fail "no step")
  have hcon := name_c (m := m) ⟨i + 1, xs, ts⟩ hs1.i (by omega)
  rcases hx16 : (nameM L) ⟨i + 1, xs, ts⟩ with ⟨w, s9⟩ | ⟨i9, e9⟩
  rotate_left
  · obtain rfl := (and_err hx16).symm.trans hT
    first | refine ex_callM (CallsM.ren (hcon.err hx16) [0, 1] 3 rfl rfl rfl rfl) ?_ | refine ex_callM (CallsM.more0 (CallsM.ren (hcon.err hx16) [0, 1] 3 rfl rfl rfl rfl)) ?_ | refine ex_callM (CallsM.more1 (CallsM.ren (hcon.err hx16) [0, 1] 3 rfl rfl rfl rfl)) ?_ | refine ex_callM (CallsM.moreL (CallsM.ren (hcon.err hx16) [0, 1] 3 rfl rfl rfl rfl)) ?_
    first | exact ⟨⟨_, rfl, rfl⟩, rfl, rfl⟩ | exact ⟨by kernel_rfl, ⟨_, rfl, rfl⟩, rfl, rfl⟩
  replace hT := (and_ok hx16).symm.trans hT
  first | refine ex_callM (CallsM.ren (hcon.ok hx16) [0, 1] 3 rfl rfl rfl rfl) ?_ | refine ex_callM (CallsM.more0 (CallsM.ren (hcon.ok hx16) [0, 1] 3 rfl rfl rfl rfl)) ?_ | refine ex_callM (CallsM.more1 (CallsM.ren (hcon.ok hx16) [0, 1] 3 rfl rfl rfl rfl)) ?_ | refine ex_callM (CallsM.moreL (CallsM.ren (hcon.ok hx16) [0, 1] 3 rfl rfl rfl rfl)) ?_
  clear hcon
  have hs2 := (Up.ok (Up.name hL 0) hs1 hx16).1
  obtain rfl := mv_name1 hx16
  repeat' (first | refine ex_true (by first | decide | omega | assumption | (with_reducible exact rfl)) ?_ | refine ex_false (by first | decide | omega | assumption | exact (fun h => h rfl)) ?_ | refine ex_dec (fun _ => ?_) (fun _ => ?_) | refine ex_u8 _ rfl (by omega) (by omega) ?_ | refine ex_i64 _ rfl (by omega) (by omega) ?_ | refine ex_u64 _ rfl (by omega) (by omega) ?_ | refine and_mk (by first | omega | (with_reducible rfl) | (show drawOk _ _ _ = true; kernel_rfl)) ?_ | refine and_mk ⟨_, rfl⟩ ?_ | refine ex_is _ (List.length_map _) ?_ | refine ex_is _ List.length_nil ?_ | fail "no step")
  have hcon := take_c (m := m) ⟨i + 1 + 1, xs, ts⟩ hs2.i (by omega) t_eq
  rcases hx18 : (takeM L t_eq) ⟨i + 1 + 1, xs, ts⟩ with ⟨_, s9⟩ | ⟨i9, e9⟩
  rotate_left
  · obtain rfl := (and_err hx18).symm.trans hT
    first | refine ex_callM (CallsM.ren (hcon.err hx18) [0, 1] 4 rfl rfl rfl rfl) ?_ | refine ex_callM (CallsM.more0 (CallsM.ren (hcon.err hx18) [0, 1] 4 rfl rfl rfl rfl)) ?_ | refine ex_callM (CallsM.more1 (CallsM.ren (hcon.err hx18) [0, 1] 4 rfl rfl rfl rfl)) ?_ | refine ex_callM (CallsM.moreL (CallsM.ren (hcon.err hx18) [0, 1] 4 rfl rfl rfl rfl)) ?_
    first | exact ⟨⟨_, rfl, rfl⟩, rfl, rfl⟩ | exact ⟨by kernel_rfl, ⟨_, rfl, rfl⟩, rfl, rfl⟩
  replace hT := (and_ok hx18).symm.trans hT
  first | refine ex_callM (CallsM.ren (hcon.ok hx18) [0, 1] 4 rfl rfl rfl rfl) ?_ | refine ex_callM (CallsM.more0 (CallsM.ren (hcon.ok hx18) [0, 1] 4 rfl rfl rfl rfl)) ?_ | refine ex_callM (CallsM.more1 (CallsM.ren (hcon.ok hx18) [0, 1] 4 rfl rfl rfl rfl)) ?_ | refine ex_callM (CallsM.moreL (CallsM.ren (hcon.ok hx18) [0, 1] 4 rfl rfl rfl rfl)) ?_
  clear hcon
  have hs3 := (Up.ok (Up.take hL t_eq 0) hs2 hx18).1
  obtain rfl := mv_take1 hx18
  repeat' (first | refine ex_true (by first | decide | omega | assumption | (with_reducible exact rfl)) ?_ | refine ex_false (by first | decide | omega | assumption | exact (fun h => h rfl)) ?_ | refine ex_dec (fun _ => ?_) (fun _ => ?_) | refine ex_u8 _ rfl (by omega) (by omega) ?_ | refine ex_i64 _ rfl (by omega) (by omega) ?_ | refine ex_u64 _ rfl (by omega) (by omega) ?_ | refine and_mk (by first | omega | (with_reducible rfl) | (show drawOk _ _ _ = true; kernel_rfl)) ?_ | refine and_mk ⟨_, rfl⟩ ?_ | refine ex_is _ (List.length_map _) ?_ | refine ex_is _ List.length_nil ?_ | fail "no step")
  have hcon := num_c (m := m) ⟨i + 1 + 1 + 1, xs, ts⟩ hs3.i (by omega)
  rcases hx20 : (numberM L) ⟨i + 1 + 1 + 1, xs, ts⟩ with ⟨n, s9⟩ | ⟨i9, e9⟩
  rotate_left
  · obtain rfl := (and_err hx20).symm.trans hT
    first | refine ex_callM (CallsM.ren (hcon.err hx20) [0, 1] 4 rfl rfl rfl rfl) ?_ | refine ex_callM (CallsM.more0 (CallsM.ren (hcon.err hx20) [0, 1] 4 rfl rfl rfl rfl)) ?_ | refine ex_callM (CallsM.more1 (CallsM.ren (hcon.err hx20) [0, 1] 4 rfl rfl rfl rfl)) ?_ | refine ex_callM (CallsM.moreL (CallsM.ren (hcon.err hx20) [0, 1] 4 rfl rfl rfl rfl)) ?_
    first | exact ⟨⟨_, rfl, rfl⟩, rfl, rfl⟩ | exact ⟨by kernel_rfl, ⟨_, rfl, rfl⟩, rfl, rfl⟩
  replace hT := (and_ok hx20).symm.trans hT
  first | refine ex_callM (CallsM.ren (hcon.ok hx20) [0, 1] 4 rfl rfl rfl rfl) ?_ | refine ex_callM (CallsM.more0 (CallsM.ren (hcon.ok hx20) [0, 1] 4 rfl rfl rfl rfl)) ?_ | refine ex_callM (CallsM.more1 (CallsM.ren (hcon.ok hx20) [0, 1] 4 rfl rfl rfl rfl)) ?_ | refine ex_callM (CallsM.moreL (CallsM.ren (hcon.ok hx20) [0, 1] 4 rfl rfl rfl rfl)) ?_
  clear hcon
  have hs4 := (Up.ok (Up.number hL 0) hs3 hx20).1
  obtain rfl := mv_num1 hx20
  repeat' (first | refine ex_true (by first | decide | omega | assumption | (with_reducible exact rfl)) ?_ | refine ex_false (by first | decide | omega | assumption | exact (fun h => h rfl)) ?_ | refine ex_dec (fun _ => ?_) (fun _ => ?_) | refine ex_u8 _ rfl (by omega) (by omega) ?_ | refine ex_i64 _ rfl (by omega) (by omega) ?_ | refine ex_u64 _ rfl (by omega) (by omega) ?_ | refine and_mk (by first | omega | (with_reducible rfl) | (show drawOk _ _ _ = true; kernel_rfl)) ?_ | refine and_mk ⟨_, rfl⟩ ?_ | refine ex_is _ (List.length_map _) ?_ | refine ex_is _ List.length_nil ?_ | fail "no step")
  have hcon := take_c (m := m) ⟨i + 1 + 1 + 1 + 1, xs, ts⟩ hs4.i (by omega) t_semi
  rcases hx22 : (takeM L t_semi) ⟨i + 1 + 1 + 1 + 1, xs, ts⟩ with ⟨_, s9⟩ | ⟨i9, e9⟩
  rotate_left
  · obtain rfl := (and_err hx22).symm.trans hT
    first | refine ex_callM (CallsM.ren (hcon.err hx22) [0, 1] 4 rfl rfl rfl rfl) ?_ | refine ex_callM (CallsM.more0 (CallsM.ren (hcon.err hx22) [0, 1] 4 rfl rfl rfl rfl)) ?_ | refine ex_callM (CallsM.more1 (CallsM.ren (hcon.err hx22) [0, 1] 4 rfl rfl rfl rfl)) ?_ | refine ex_callM (CallsM.moreL (CallsM.ren (hcon.err hx22) [0, 1] 4 rfl rfl rfl rfl)) ?_
    first | exact ⟨⟨_, rfl, rfl⟩, rfl, rfl⟩ | exact ⟨by kernel_rfl, ⟨_, rfl, rfl⟩, rfl, rfl⟩
  replace hT := (and_ok hx22).symm.trans hT
  first | refine ex_callM (CallsM.ren (hcon.ok hx22) [0, 1] 4 rfl rfl rfl rfl) ?_ | refine ex_callM (CallsM.more0 (CallsM.ren (hcon.ok hx22) [0, 1] 4 rfl rfl rfl rfl)) ?_ | refine ex_callM (CallsM.more1 (CallsM.ren (hcon.ok hx22) [0, 1] 4 rfl rfl rfl rfl)) ?_ | refine ex_callM (CallsM.moreL (CallsM.ren (hcon.ok hx22) [0, 1] 4 rfl rfl rfl rfl)) ?_
  clear hcon
  have hs5 := (Up.ok (Up.take hL t_semi 0) hs4 hx22).1
  obtain rfl := mv_take1 hx22
  obtain rfl : PR.ok (⟨w, n⟩ : CO) ⟨i + 1 + 1 + 1 + 1 + 1, xs, ts⟩ = T := hT
  repeat' (first | refine ex_true (by first | decide | omega | assumption | (with_reducible exact rfl)) ?_ | refine ex_false (by first | decide | omega | assumption | exact (fun h => h rfl)) ?_ | refine ex_dec (fun _ => ?_) (fun _ => ?_) | refine ex_u8 _ rfl (by omega) (by omega) ?_ | refine ex_i64 _ rfl (by omega) (by omega) ?_ | refine ex_u64 _ rfl (by omega) (by omega) ?_ | refine and_mk (by first | omega | (with_reducible rfl) | (show drawOk _ _ _ = true; kernel_rfl)) ?_ | refine and_mk ⟨_, rfl⟩ ?_ | refine ex_is _ (List.length_map _) ?_ | refine ex_is _ List.length_nil ?_ | fail "no step")
  exact ⟨rfl, TLe.rfl, rfl, rfl⟩
theorem itLe {nm a b : List UInt8} {ty wh : Int} {der : Nat} : TLe (.o (gD [ds (bs nm), di ty, di der, ds (bs a), ds (bs b), di wh, di 0, db false, dnil])) (.o (gD (itD ⟨nm, ty, der, a, b, wh, 0, false, []⟩))) :=
  TLe.o (T1Le.g (.cons DLe.rfl (.cons DLe.rfl (.cons DLe.rfl (.cons DLe.rfl (.cons DLe.rfl (.cons DLe.rfl (.cons DLe.rfl (.cons DLe.rfl (.cons DLe.nil .nil))))))))))
/-- What only moves the place. -/
theorem mv_derived (L : List TokP) : ∀ s v s', derivedM L s = .ok v s' → s'.xs = s.xs ∧ s'.ts = s.ts := fun s v s' h => by
  have mvand : ∀ {α β : Type} {x : PM α} {f : α → PM β}, (∀ s v s', x s = .ok v s' → s'.xs = s.xs ∧ s'.ts = s.ts) → (∀ u s v s', f u s = .ok v s' → s'.xs = s.xs ∧ s'.ts = s.ts) → ∀ s v s', (x >>= f) s = .ok v s' → s'.xs = s.xs ∧ s'.ts = s.ts := fun {α β x f} hx hf s v s' h => by
    have hb : PM.and x f s = .ok v s' := h
    unfold PM.and at hb
    rcases hxs : x s with ⟨u, s1⟩ | ⟨i, e⟩ <;> rw [hxs] at hb
    · have h1 := hx _ _ _ hxs
      have h2 := hf _ _ _ _ hb
      exact ⟨h2.1.trans h1.1, h2.2.trans h1.2⟩
    · cases hb
  have mt : ∀ t s v s', takeM L t s = .ok v s' → s'.xs = s.xs ∧ s'.ts = s.ts := fun t s v s' h => by unfold takeM at h; split at h <;> cases h; exact ⟨rfl, rfl⟩
  have mn : ∀ s v s', nameM L s = .ok v s' → s'.xs = s.xs ∧ s'.ts = s.ts := fun s v s' h => by unfold nameM at h; split at h <;> cases h; exact ⟨rfl, rfl⟩
  unfold derivedM atM at h
  split at h
  · refine mvand (x := stepM) (fun s v s' h => by cases h; exact ⟨rfl, rfl⟩) (fun _ => mvand (mt _) fun _ => mvand mn fun a => mvand ?_ fun b => mvand (mt _) fun _ => fun s v s' h => by cases h; exact ⟨rfl, rfl⟩) s v s' h
    intro s1 v1 s2 h1
    split at h1
    · exact mvand (mt _) (fun _ => mn) _ _ _ h1
    · cases h1; exact ⟨rfl, rfl⟩
  · cases h
set_option maxHeartbeats 8000000 in
theorem field_c (hL : TokOk L) (hn : L.length ≤ 100000) (hm : m = 32) (s : PS) (hs : SOk L 0 s) : C2 L m 32 [] (fieldM L) (fun v => .o (gD (itD v))) s := by
  refine C2.of fun T hT => ?_
  unfold fieldM at hT
  rw [← hm] at hT
  have hm2 : m ≤ 32 := by omega
  obtain ⟨i, xs, ts⟩ := s
  refine fn_ruleP (C := ⟨Tryd.prog, layF, Tryd.f32.ntmps, ΓL, 6, [], [6]⟩) layF_ok mixed Tryd.func32 rfl (by kernel_rfl) rfl rfl rfl SLe.rfl ?_
  repeat' (first | refine ex_true (by first | decide | omega | assumption | (with_reducible exact rfl)) ?_ | refine ex_false (by first | decide | omega | assumption | exact (fun h => h rfl)) ?_ | refine ex_dec (fun _ => ?_) (fun _ => ?_) | refine ex_u8 _ rfl (by omega) (by omega) ?_ | refine ex_i64 _ rfl (by omega) (by omega) ?_ | refine ex_u64 _ rfl (by omega) (by omega) ?_ | refine and_mk (by first | omega | (with_reducible rfl) | (show drawOk _ _ _ = true; kernel_rfl)) ?_ | refine and_mk ⟨_, rfl⟩ ?_ | refine ex_is _ (List.length_map _) ?_ | refine ex_is _ List.length_nil ?_ | fail "no step")
  have hcon := name_c (m := m) ⟨i, xs, ts⟩ hs.i (by omega)
  rcases hx57 : (nameM L) ⟨i, xs, ts⟩ with ⟨w, s9⟩ | ⟨i9, e9⟩
  rotate_left
  · obtain rfl := (and_err hx57).symm.trans hT
    first | refine ex_callM (CallsM.ren (hcon.err hx57) [0, 1] 7 rfl rfl rfl rfl) ?_ | refine ex_callM (CallsM.more0 (CallsM.ren (hcon.err hx57) [0, 1] 7 rfl rfl rfl rfl)) ?_ | refine ex_callM (CallsM.more1 (CallsM.ren (hcon.err hx57) [0, 1] 7 rfl rfl rfl rfl)) ?_ | refine ex_callM (CallsM.moreL (CallsM.ren (hcon.err hx57) [0, 1] 7 rfl rfl rfl rfl)) ?_
    first | exact ⟨⟨_, rfl, rfl⟩, rfl, rfl⟩ | exact ⟨by kernel_rfl, ⟨_, rfl, rfl⟩, rfl, rfl⟩
  replace hT := (and_ok hx57).symm.trans hT
  first | refine ex_callM (CallsM.ren (hcon.ok hx57) [0, 1] 7 rfl rfl rfl rfl) ?_ | refine ex_callM (CallsM.more0 (CallsM.ren (hcon.ok hx57) [0, 1] 7 rfl rfl rfl rfl)) ?_ | refine ex_callM (CallsM.more1 (CallsM.ren (hcon.ok hx57) [0, 1] 7 rfl rfl rfl rfl)) ?_ | refine ex_callM (CallsM.moreL (CallsM.ren (hcon.ok hx57) [0, 1] 7 rfl rfl rfl rfl)) ?_
  clear hcon
  have hs1 := (Up.ok (Up.name hL 0) hs hx57).1
  obtain rfl := mv_name1 hx57
  repeat' (first | refine ex_true (by first | decide | omega | assumption | (with_reducible exact rfl)) ?_ | refine ex_false (by first | decide | omega | assumption | exact (fun h => h rfl)) ?_ | refine ex_dec (fun _ => ?_) (fun _ => ?_) | refine ex_u8 _ rfl (by omega) (by omega) ?_ | refine ex_i64 _ rfl (by omega) (by omega) ?_ | refine ex_u64 _ rfl (by omega) (by omega) ?_ | refine and_mk (by first | omega | (with_reducible rfl) | (show drawOk _ _ _ = true; kernel_rfl)) ?_ | refine and_mk ⟨_, rfl⟩ ?_ | refine ex_is _ (List.length_map _) ?_ | refine ex_is _ List.length_nil ?_ | fail "no step")
  have hcon := take_c (m := m) ⟨i + 1, xs, ts⟩ hs1.i (by omega) t_colon
  rcases hx59 : (takeM L t_colon) ⟨i + 1, xs, ts⟩ with ⟨_, s9⟩ | ⟨i9, e9⟩
  rotate_left
  · obtain rfl := (and_err hx59).symm.trans hT
    first | refine ex_callM (CallsM.ren (hcon.err hx59) [0, 1] 8 rfl rfl rfl rfl) ?_ | refine ex_callM (CallsM.more0 (CallsM.ren (hcon.err hx59) [0, 1] 8 rfl rfl rfl rfl)) ?_ | refine ex_callM (CallsM.more1 (CallsM.ren (hcon.err hx59) [0, 1] 8 rfl rfl rfl rfl)) ?_ | refine ex_callM (CallsM.moreL (CallsM.ren (hcon.err hx59) [0, 1] 8 rfl rfl rfl rfl)) ?_
    first | exact ⟨⟨_, rfl, rfl⟩, rfl, rfl⟩ | exact ⟨by kernel_rfl, ⟨_, rfl, rfl⟩, rfl, rfl⟩
  replace hT := (and_ok hx59).symm.trans hT
  first | refine ex_callM (CallsM.ren (hcon.ok hx59) [0, 1] 8 rfl rfl rfl rfl) ?_ | refine ex_callM (CallsM.more0 (CallsM.ren (hcon.ok hx59) [0, 1] 8 rfl rfl rfl rfl)) ?_ | refine ex_callM (CallsM.more1 (CallsM.ren (hcon.ok hx59) [0, 1] 8 rfl rfl rfl rfl)) ?_ | refine ex_callM (CallsM.moreL (CallsM.ren (hcon.ok hx59) [0, 1] 8 rfl rfl rfl rfl)) ?_
  clear hcon
  have hs2 := (Up.ok (Up.take hL t_colon 0) hs1 hx59).1
  obtain rfl := mv_take1 hx59
  repeat' (first | refine ex_true (by first | decide | omega | assumption | (with_reducible exact rfl)) ?_ | refine ex_false (by first | decide | omega | assumption | exact (fun h => h rfl)) ?_ | refine ex_dec (fun _ => ?_) (fun _ => ?_) | refine ex_u8 _ rfl (by omega) (by omega) ?_ | refine ex_i64 _ rfl (by omega) (by omega) ?_ | refine ex_u64 _ rfl (by omega) (by omega) ?_ | refine and_mk (by first | omega | (with_reducible rfl) | (show drawOk _ _ _ = true; kernel_rfl)) ?_ | refine and_mk ⟨_, rfl⟩ ?_ | refine ex_is _ (List.length_map _) ?_ | refine ex_is _ List.length_nil ?_ | fail "no step")
  have hcon := kind_c hL hn m hm2 ⟨i + 1 + 1, xs, ts⟩ (hs2.less (by omega))
  rcases hx : (kindM L m) ⟨i + 1 + 1, xs, ts⟩ with ⟨t, ⟨i2, xs2, ts2⟩⟩ | ⟨i9, e9⟩
  rotate_left
  · obtain rfl := (and_err hx).symm.trans hT
    first | refine ex_callM (CallsM.ren (hcon.err hx) [0, 1, 2, 3, 4, 5] 8 rfl rfl rfl rfl) ?_ | refine ex_callM (CallsM.more0 (CallsM.ren (hcon.err hx) [0, 1, 2, 3, 4, 5] 8 rfl rfl rfl rfl)) ?_ | refine ex_callM (CallsM.more1 (CallsM.ren (hcon.err hx) [0, 1, 2, 3, 4, 5] 8 rfl rfl rfl rfl)) ?_ | refine ex_callM (CallsM.moreL (CallsM.ren (hcon.err hx) [0, 1, 2, 3, 4, 5] 8 rfl rfl rfl rfl)) ?_
    first | exact ⟨⟨_, rfl, rfl⟩, rfl, rfl⟩ | exact ⟨by kernel_rfl, ⟨_, rfl, rfl⟩, rfl, rfl⟩
  replace hT := (and_ok hx).symm.trans hT
  first | refine ex_callM (CallsM.ren (hcon.ok hx) [0, 1, 2, 3, 4, 5] 8 rfl rfl rfl rfl) ?_ | refine ex_callM (CallsM.more0 (CallsM.ren (hcon.ok hx) [0, 1, 2, 3, 4, 5] 8 rfl rfl rfl rfl)) ?_ | refine ex_callM (CallsM.more1 (CallsM.ren (hcon.ok hx) [0, 1, 2, 3, 4, 5] 8 rfl rfl rfl rfl)) ?_ | refine ex_callM (CallsM.moreL (CallsM.ren (hcon.ok hx) [0, 1, 2, 3, 4, 5] 8 rfl rfl rfl rfl)) ?_
  clear hcon
  have hs3 := (Up.ok (c := 0) ((up_kind hL m).less (a' := 2) (b' := 2) 2 (by omega) (by omega)) hs2 hx).1
  repeat' (first | refine ex_true (by first | decide | omega | assumption | (with_reducible exact rfl)) ?_ | refine ex_false (by first | decide | omega | assumption | exact (fun h => h rfl)) ?_ | refine ex_dec (fun _ => ?_) (fun _ => ?_) | refine ex_u8 _ rfl (by omega) (by omega) ?_ | refine ex_i64 _ rfl (by omega) (by omega) ?_ | refine ex_u64 _ rfl (by omega) (by omega) ?_ | refine and_mk (by first | omega | (with_reducible rfl) | (show drawOk _ _ _ = true; kernel_rfl)) ?_ | refine and_mk ⟨_, rfl⟩ ?_ | refine ex_is _ (List.length_map _) ?_ | refine ex_is _ List.length_nil ?_ | fail "no step")
  refine ex_join (X := Nat × Nat × List UInt8 × List UInt8) (fun ⟨i, e, a, b⟩ => ⟨[(0, .o P0), (2, .o (.c (.ptr 6 0))), (3, .o (.c (.ptr 7 0)))], [(0, Qz L m i), (1, Fz 2 3 8 9), (4, .dead), (5, .dead), (6, .obj [.d (ds ⟨#[]⟩), .d (di 0), .d (di 0), .d (ds ⟨#[]⟩), .d (ds ⟨#[]⟩), .d (di 0), .d (di 0), .d (db false), .d dnil]), (7, Iz w t e a b (-1)), (8, Xz xs2), (9, Tz ts2)], 10⟩)
    (fun ⟨i, e, a, b⟩ => SOk L 2 ⟨i, xs2, ts2⟩ ∧ (atM (isV L · w_where) (stepM >>= fun _ => exprM L m) (pure (-1)) >>= fun x => takeM L t_semi >>= fun _ => pure (⟨w, t, e, a, b, x, 0, false, []⟩ : IT)) ⟨i, xs2, ts2⟩ = T) ?_ ?_
  · rcases hv : isV L i2 t_eq with _ | _
    · replace hT := pureT (atnB hT hv)
      first | refine ex_callM (CallsM.ren ((may_no i2 hs3.lt _ hv)) [0, 1] 10 rfl rfl rfl rfl) ?_ | refine ex_callM (CallsM.more0 (CallsM.ren ((may_no i2 hs3.lt _ hv)) [0, 1] 10 rfl rfl rfl rfl)) ?_ | refine ex_callM (CallsM.more1 (CallsM.ren ((may_no i2 hs3.lt _ hv)) [0, 1] 10 rfl rfl rfl rfl)) ?_ | refine ex_callM (CallsM.moreL (CallsM.ren ((may_no i2 hs3.lt _ hv)) [0, 1] 10 rfl rfl rfl rfl)) ?_
      repeat' (first | refine ex_true (by first | decide | omega | assumption | (with_reducible exact rfl)) ?_ | refine ex_false (by first | decide | omega | assumption | exact (fun h => h rfl)) ?_ | refine ex_dec (fun _ => ?_) (fun _ => ?_) | refine ex_u8 _ rfl (by omega) (by omega) ?_ | refine ex_i64 _ rfl (by omega) (by omega) ?_ | refine ex_u64 _ rfl (by omega) (by omega) ?_ | refine and_mk (by first | omega | (with_reducible rfl) | (show drawOk _ _ _ = true; kernel_rfl)) ?_ | refine and_mk ⟨_, rfl⟩ ?_ | refine ex_is _ (List.length_map _) ?_ | refine ex_is _ List.length_nil ?_ | fail "no step")
      exact ex_meet (i2, 0, [], []) ⟨hs3.less (by omega), hT⟩ (SLe.of ⟨⟨rfl, rfl, rfl, trivial⟩, ⟨rfl, rfl, rfl, rfl, rfl, rfl, rfl, rfl, trivial⟩⟩)
    · replace hT := stp1 (asc (atyB hT hv))
      have hs4 := stpS hL hs3 (isV_k hv)
      have hd := derived_c (m := m) hL hn w t (-1) ⟨i2 + 1, xs2, ts2⟩ hs4
      first | refine ex_callM (CallsM.ren ((may_yes i2 hs3.lt (by omega) _ hv)) [0, 1] 10 rfl rfl rfl rfl) ?_ | refine ex_callM (CallsM.more0 (CallsM.ren ((may_yes i2 hs3.lt (by omega) _ hv)) [0, 1] 10 rfl rfl rfl rfl)) ?_ | refine ex_callM (CallsM.more1 (CallsM.ren ((may_yes i2 hs3.lt (by omega) _ hv)) [0, 1] 10 rfl rfl rfl rfl)) ?_ | refine ex_callM (CallsM.moreL (CallsM.ren ((may_yes i2 hs3.lt (by omega) _ hv)) [0, 1] 10 rfl rfl rfl rfl)) ?_
      repeat' (first | refine ex_true (by first | decide | omega | assumption | (with_reducible exact rfl)) ?_ | refine ex_false (by first | decide | omega | assumption | exact (fun h => h rfl)) ?_ | refine ex_dec (fun _ => ?_) (fun _ => ?_) | refine ex_u8 _ rfl (by omega) (by omega) ?_ | refine ex_i64 _ rfl (by omega) (by omega) ?_ | refine ex_u64 _ rfl (by omega) (by omega) ?_ | refine and_mk (by first | omega | (with_reducible rfl) | (show drawOk _ _ _ = true; kernel_rfl)) ?_ | refine and_mk ⟨_, rfl⟩ ?_ | refine ex_is _ (List.length_map _) ?_ | refine ex_is _ List.length_nil ?_ | fail "no step")
      rcases hy : derivedM L ⟨i2 + 1, xs2, ts2⟩ with ⟨⟨e, a, b⟩, ⟨i3, xs3, ts3⟩⟩ | ⟨i9, e9⟩
      · replace hT := (and_ok hy).symm.trans hT
        obtain ⟨h1, h2⟩ : xs3 = xs2 ∧ ts3 = ts2 := mv_derived L _ _ _ hy
        subst h1 h2
        have hs5 := (Up.ok (up_derived hL 3) hs4 hy).1
        rw [hy] at hd
        refine ex_callM (CallsM.moreD (CallsM.ren hd [0, 1, 7] 10 rfl rfl rfl rfl)) ?_
        repeat' (first | refine ex_true (by first | decide | omega | assumption | (with_reducible exact rfl)) ?_ | refine ex_false (by first | decide | omega | assumption | exact (fun h => h rfl)) ?_ | refine ex_dec (fun _ => ?_) (fun _ => ?_) | refine ex_u8 _ rfl (by omega) (by omega) ?_ | refine ex_i64 _ rfl (by omega) (by omega) ?_ | refine ex_u64 _ rfl (by omega) (by omega) ?_ | refine and_mk (by first | omega | (with_reducible rfl) | (show drawOk _ _ _ = true; kernel_rfl)) ?_ | refine and_mk ⟨_, rfl⟩ ?_ | refine ex_is _ (List.length_map _) ?_ | refine ex_is _ List.length_nil ?_ | fail "no step")
        exact ex_meet (i3, e, a, b) ⟨hs5.less (by omega), hT⟩ (SLe.of ⟨⟨rfl, rfl, rfl, trivial⟩, ⟨rfl, rfl, rfl, rfl, rfl, rfl, rfl, rfl, trivial⟩⟩)
      · obtain rfl := (and_err hy).symm.trans hT
        rw [hy] at hd
        refine ex_callM (CallsM.moreD (CallsM.ren hd [0, 1, 7] 10 rfl rfl rfl rfl)) ?_
        exact ⟨⟨_, rfl, rfl⟩, rfl, rfl⟩
  · rintro ⟨i, e, a, b⟩ ⟨hs, hT⟩
    rcases hv : isV L i w_where with _ | _
    · replace hT := pureT (atnB hT hv)
      first | refine ex_callM (CallsM.ren ((may_no i hs.lt _ hv)) [0, 1] 10 rfl rfl rfl rfl) ?_ | refine ex_callM (CallsM.more0 (CallsM.ren ((may_no i hs.lt _ hv)) [0, 1] 10 rfl rfl rfl rfl)) ?_ | refine ex_callM (CallsM.more1 (CallsM.ren ((may_no i hs.lt _ hv)) [0, 1] 10 rfl rfl rfl rfl)) ?_ | refine ex_callM (CallsM.moreL (CallsM.ren ((may_no i hs.lt _ hv)) [0, 1] 10 rfl rfl rfl rfl)) ?_
      repeat' (first | refine ex_true (by first | decide | omega | assumption | (with_reducible exact rfl)) ?_ | refine ex_false (by first | decide | omega | assumption | exact (fun h => h rfl)) ?_ | refine ex_dec (fun _ => ?_) (fun _ => ?_) | refine ex_u8 _ rfl (by omega) (by omega) ?_ | refine ex_i64 _ rfl (by omega) (by omega) ?_ | refine ex_u64 _ rfl (by omega) (by omega) ?_ | refine and_mk (by first | omega | (with_reducible rfl) | (show drawOk _ _ _ = true; kernel_rfl)) ?_ | refine and_mk ⟨_, rfl⟩ ?_ | refine ex_is _ (List.length_map _) ?_ | refine ex_is _ List.length_nil ?_ | fail "no step")
      have hcon := take_c (m := m) ⟨i, xs2, ts2⟩ hs.i (by omega) t_semi
      rcases hx93 : (takeM L t_semi) ⟨i, xs2, ts2⟩ with ⟨_, s9⟩ | ⟨i9, e9⟩
      rotate_left
      · obtain rfl := (and_err hx93).symm.trans hT
        first | refine ex_callM (CallsM.ren (hcon.err hx93) [0, 1] 10 rfl rfl rfl rfl) ?_ | refine ex_callM (CallsM.more0 (CallsM.ren (hcon.err hx93) [0, 1] 10 rfl rfl rfl rfl)) ?_ | refine ex_callM (CallsM.more1 (CallsM.ren (hcon.err hx93) [0, 1] 10 rfl rfl rfl rfl)) ?_ | refine ex_callM (CallsM.moreL (CallsM.ren (hcon.err hx93) [0, 1] 10 rfl rfl rfl rfl)) ?_
        first | exact ⟨⟨_, rfl, rfl⟩, rfl, rfl⟩ | exact ⟨by kernel_rfl, ⟨_, rfl, rfl⟩, rfl, rfl⟩
      replace hT := (and_ok hx93).symm.trans hT
      first | refine ex_callM (CallsM.ren (hcon.ok hx93) [0, 1] 10 rfl rfl rfl rfl) ?_ | refine ex_callM (CallsM.more0 (CallsM.ren (hcon.ok hx93) [0, 1] 10 rfl rfl rfl rfl)) ?_ | refine ex_callM (CallsM.more1 (CallsM.ren (hcon.ok hx93) [0, 1] 10 rfl rfl rfl rfl)) ?_ | refine ex_callM (CallsM.moreL (CallsM.ren (hcon.ok hx93) [0, 1] 10 rfl rfl rfl rfl)) ?_
      clear hcon
      have hs1 := (Up.ok (Up.take hL t_semi 0) hs hx93).1
      obtain rfl := mv_take1 hx93
      obtain rfl : PR.ok (⟨w, t, e, a, b, -1, 0, false, []⟩ : IT) ⟨i + 1, xs2, ts2⟩ = T := hT
      repeat' (first | refine ex_true (by first | decide | omega | assumption | (with_reducible exact rfl)) ?_ | refine ex_false (by first | decide | omega | assumption | exact (fun h => h rfl)) ?_ | refine ex_dec (fun _ => ?_) (fun _ => ?_) | refine ex_u8 _ rfl (by omega) (by omega) ?_ | refine ex_i64 _ rfl (by omega) (by omega) ?_ | refine ex_u64 _ rfl (by omega) (by omega) ?_ | refine and_mk (by first | omega | (with_reducible rfl) | (show drawOk _ _ _ = true; kernel_rfl)) ?_ | refine and_mk ⟨_, rfl⟩ ?_ | refine ex_is _ (List.length_map _) ?_ | refine ex_is _ List.length_nil ?_ | fail "no step")
      exact ⟨rfl, itLe, rfl, rfl⟩
    · replace hT := stp1 (asc (atyB hT hv))
      have hs1 := stpS hL hs (isV_k hv)
      first | refine ex_callM (CallsM.ren ((may_yes i hs.lt (by omega) _ hv)) [0, 1] 10 rfl rfl rfl rfl) ?_ | refine ex_callM (CallsM.more0 (CallsM.ren ((may_yes i hs.lt (by omega) _ hv)) [0, 1] 10 rfl rfl rfl rfl)) ?_ | refine ex_callM (CallsM.more1 (CallsM.ren ((may_yes i hs.lt (by omega) _ hv)) [0, 1] 10 rfl rfl rfl rfl)) ?_ | refine ex_callM (CallsM.moreL (CallsM.ren ((may_yes i hs.lt (by omega) _ hv)) [0, 1] 10 rfl rfl rfl rfl)) ?_
      repeat' (first | refine ex_true (by first | decide | omega | assumption | (with_reducible exact rfl)) ?_ | refine ex_false (by first | decide | omega | assumption | exact (fun h => h rfl)) ?_ | refine ex_dec (fun _ => ?_) (fun _ => ?_) | refine ex_u8 _ rfl (by omega) (by omega) ?_ | refine ex_i64 _ rfl (by omega) (by omega) ?_ | refine ex_u64 _ rfl (by omega) (by omega) ?_ | refine and_mk (by first | omega | (with_reducible rfl) | (show drawOk _ _ _ = true; kernel_rfl)) ?_ | refine and_mk ⟨_, rfl⟩ ?_ | refine ex_is _ (List.length_map _) ?_ | refine ex_is _ List.length_nil ?_ | fail "no step")
      have hcon := expr_c hL hn m hm2 ⟨i + 1, xs2, ts2⟩ (hs1.less (by omega))
      rcases hx : (exprM L m) ⟨i + 1, xs2, ts2⟩ with ⟨x, ⟨i4, xs4, ts4⟩⟩ | ⟨i9, e9⟩
      rotate_left
      · obtain rfl := (and_err hx).symm.trans hT
        first | refine ex_callM (CallsM.ren (hcon.err hx) [0, 1, 2, 3, 8, 9] 10 rfl rfl rfl rfl) ?_ | refine ex_callM (CallsM.more0 (CallsM.ren (hcon.err hx) [0, 1, 2, 3, 8, 9] 10 rfl rfl rfl rfl)) ?_ | refine ex_callM (CallsM.more1 (CallsM.ren (hcon.err hx) [0, 1, 2, 3, 8, 9] 10 rfl rfl rfl rfl)) ?_ | refine ex_callM (CallsM.moreL (CallsM.ren (hcon.err hx) [0, 1, 2, 3, 8, 9] 10 rfl rfl rfl rfl)) ?_
        first | exact ⟨⟨_, rfl, rfl⟩, rfl, rfl⟩ | exact ⟨by kernel_rfl, ⟨_, rfl, rfl⟩, rfl, rfl⟩
      replace hT := (and_ok hx).symm.trans hT
      first | refine ex_callM (CallsM.ren (hcon.ok hx) [0, 1, 2, 3, 8, 9] 10 rfl rfl rfl rfl) ?_ | refine ex_callM (CallsM.more0 (CallsM.ren (hcon.ok hx) [0, 1, 2, 3, 8, 9] 10 rfl rfl rfl rfl)) ?_ | refine ex_callM (CallsM.more1 (CallsM.ren (hcon.ok hx) [0, 1, 2, 3, 8, 9] 10 rfl rfl rfl rfl)) ?_ | refine ex_callM (CallsM.moreL (CallsM.ren (hcon.ok hx) [0, 1, 2, 3, 8, 9] 10 rfl rfl rfl rfl)) ?_
      clear hcon
      have hs2 := (Up.ok (up_expr hL m 3) hs1 hx).1
      obtain rfl := (keep_expr m).eq hx
      repeat' (first | refine ex_true (by first | decide | omega | assumption | (with_reducible exact rfl)) ?_ | refine ex_false (by first | decide | omega | assumption | exact (fun h => h rfl)) ?_ | refine ex_dec (fun _ => ?_) (fun _ => ?_) | refine ex_u8 _ rfl (by omega) (by omega) ?_ | refine ex_i64 _ rfl (by omega) (by omega) ?_ | refine ex_u64 _ rfl (by omega) (by omega) ?_ | refine and_mk (by first | omega | (with_reducible rfl) | (show drawOk _ _ _ = true; kernel_rfl)) ?_ | refine and_mk ⟨_, rfl⟩ ?_ | refine ex_is _ (List.length_map _) ?_ | refine ex_is _ List.length_nil ?_ | fail "no step")
      have hcon := take_c (m := m) ⟨i4, xs4, ts2⟩ hs2.i (by omega) t_semi
      rcases hx103 : (takeM L t_semi) ⟨i4, xs4, ts2⟩ with ⟨_, s9⟩ | ⟨i9, e9⟩
      rotate_left
      · obtain rfl := (and_err hx103).symm.trans hT
        first | refine ex_callM (CallsM.ren (hcon.err hx103) [0, 1] 11 rfl rfl rfl rfl) ?_ | refine ex_callM (CallsM.more0 (CallsM.ren (hcon.err hx103) [0, 1] 11 rfl rfl rfl rfl)) ?_ | refine ex_callM (CallsM.more1 (CallsM.ren (hcon.err hx103) [0, 1] 11 rfl rfl rfl rfl)) ?_ | refine ex_callM (CallsM.moreL (CallsM.ren (hcon.err hx103) [0, 1] 11 rfl rfl rfl rfl)) ?_
        first | exact ⟨⟨_, rfl, rfl⟩, rfl, rfl⟩ | exact ⟨by kernel_rfl, ⟨_, rfl, rfl⟩, rfl, rfl⟩
      replace hT := (and_ok hx103).symm.trans hT
      first | refine ex_callM (CallsM.ren (hcon.ok hx103) [0, 1] 11 rfl rfl rfl rfl) ?_ | refine ex_callM (CallsM.more0 (CallsM.ren (hcon.ok hx103) [0, 1] 11 rfl rfl rfl rfl)) ?_ | refine ex_callM (CallsM.more1 (CallsM.ren (hcon.ok hx103) [0, 1] 11 rfl rfl rfl rfl)) ?_ | refine ex_callM (CallsM.moreL (CallsM.ren (hcon.ok hx103) [0, 1] 11 rfl rfl rfl rfl)) ?_
      clear hcon
      have hs3 := (Up.ok (Up.take hL t_semi 0) hs2 hx103).1
      obtain rfl := mv_take1 hx103
      obtain rfl : PR.ok (⟨w, t, e, a, b, x, 0, false, []⟩ : IT) ⟨i4 + 1, xs4, ts2⟩ = T := hT
      repeat' (first | refine ex_true (by first | decide | omega | assumption | (with_reducible exact rfl)) ?_ | refine ex_false (by first | decide | omega | assumption | exact (fun h => h rfl)) ?_ | refine ex_dec (fun _ => ?_) (fun _ => ?_) | refine ex_u8 _ rfl (by omega) (by omega) ?_ | refine ex_i64 _ rfl (by omega) (by omega) ?_ | refine ex_u64 _ rfl (by omega) (by omega) ?_ | refine and_mk (by first | omega | (with_reducible rfl) | (show drawOk _ _ _ = true; kernel_rfl)) ?_ | refine and_mk ⟨_, rfl⟩ ?_ | refine ex_is _ (List.length_map _) ?_ | refine ex_is _ List.length_nil ?_ | fail "no step")
      exact ⟨rfl, itLe, rfl, rfl⟩
end
end Go.Proofs.YtkbhmcdoedmffaaDoor

namespace Go.Proofs.YtkbhmcdoedmffaaDoor
set_option linter.unusedVariables false
set_option linter.unusedSimpArgs false
set_option maxRecDepth 100000

def Mo {α : Type} (x : PM α) : Prop := ∀ s v s', x s = .ok v s' → s.i ≤ s'.i
def Mo1 {α : Type} (x : PM α) : Prop := ∀ s v s', x s = .ok v s' → s.i < s'.i
theorem mo_inv {α β : Type} {x : PM α} {f : α → PM β} {s s' : PS} {v : β} (h : (x >>= f) s = .ok v s') : ∃ u s1, x s = .ok u s1 ∧ f u s1 = .ok v s' := by
  have hb : PM.and x f s = .ok v s' := h
  unfold PM.and at hb
  rcases hxs : x s with ⟨u, s1⟩ | ⟨i, e⟩
  · rw [hxs] at hb; exact ⟨u, s1, rfl, hb⟩
  · rw [hxs] at hb; cases hb
theorem Mo.and {α β : Type} {x : PM α} {f : α → PM β} (hx : Mo x) (hf : ∀ v, Mo (f v)) : Mo (x >>= f) := fun s v s' h => by
  obtain ⟨u, s1, h1, h2⟩ := mo_inv h
  exact Nat.le_trans (hx _ _ _ h1) (hf u _ _ _ h2)
theorem Mo1.and {α β : Type} {x : PM α} {f : α → PM β} (hx : Mo1 x) (hf : ∀ v, Mo (f v)) : Mo1 (x >>= f) := fun s v s' h => by
  obtain ⟨u, s1, h1, h2⟩ := mo_inv h
  exact Nat.lt_of_lt_of_le (hx _ _ _ h1) (hf u _ _ _ h2)
theorem Mo1.mo {α : Type} {x : PM α} (h : Mo1 x) : Mo x := fun s v s' hx => Nat.le_of_lt (h s v s' hx)
theorem Mo.at {α : Type} {p : Nat → Bool} {x y : PM α} (hx : Mo x) (hy : Mo y) : Mo (atM p x y) := fun s v s' h => by
  unfold atM at h
  split at h
  · exact hx _ _ _ h
  · exact hy _ _ _ h
theorem Mo.pure {α : Type} (v : α) : Mo (pure v) := fun s u s' h => by cases h; exact Nat.le_refl _
theorem Mo.put (x : EX) : Mo (putM x) := fun s u s' h => by cases h; exact Nat.le_refl _
theorem Mo.lay (x : TY) : Mo (layM x) := fun s u s' h => by cases h; exact Nat.le_refl _
theorem Mo.fail {α : Type} (e : Nat) : Mo (failM e : PM α) := fun s u s' h => by cases h
theorem Mo1.step : Mo1 stepM := fun s u s' h => by cases h; exact Nat.lt_succ_self _
theorem Mo.room (n : Nat) : Mo (roomM n) := fun s u s' h => by unfold roomM at h; split at h <;> cases h; exact Nat.le_refl _
theorem Mo.roomIf (p : Nat → Bool) (n : Nat) : Mo (fun s => if p s.i = true then roomM n s else .ok () s) := fun s u s' h => by
  dsimp only at h
  split at h
  · exact Mo.room n _ _ _ h
  · cases h; exact Nat.le_refl _
theorem Mo.enter (m : Nat) (p : Nat → Bool) : Mo (fun s => enterM m (p s.i) s) := fun s u s' h => by
  dsimp only at h; unfold enterM at h
  split at h
  · cases h
  · split at h <;> cases h; exact Nat.le_refl _
section
variable {L : List TokP}
theorem Mo1.take (t : List UInt8) : Mo1 (takeM L t) := fun s v s' h => by unfold takeM at h; split at h <;> cases h; exact Nat.lt_succ_self _
theorem Mo1.name : Mo1 (nameM L) := fun s v s' h => by unfold nameM at h; split at h <;> cases h; exact Nat.lt_succ_self _
theorem Mo1.num : Mo1 (numberM L) := fun s v s' h => by unfold numberM at h; split at h <;> cases h; exact Nat.lt_succ_self _
theorem mo_un (m : Nat) {un ex : PM Int} (h1 : Mo un) (h2 : Mo ex) : Mo (unF L m un ex) :=
  Mo.at (Mo1.step.mo.and fun _ => (Mo.enter _ _).and fun _ => h1.and fun _ => Mo.put _) (Mo.at (Mo1.step.mo.and fun _ => (Mo.enter _ _).and fun _ => h2.and fun _ => (Mo1.take _).mo.and fun _ => Mo.pure _) (Mo.at (Mo1.name.mo.and fun _ => Mo.put _) (Mo1.num.mo.and fun _ => Mo.put _)))
theorem mo_line (lv : Nat) {x : PM Int} (hx : Mo x) : ∀ n left, Mo (lineN L lv x n left)
  | 0, left => Mo.pure _
  | n + 1, left => fun s v s' h => by
    rw [lineN] at h
    change (if opAt L lv s.i = true then _ else _) = _ at h
    split at h
    · exact (Mo1.step.mo.and fun _ => hx.and fun r => (Mo.put ⟨3, (tk L s.i).t, 0, [], [left, r]⟩).and fun k => mo_line lv hx n k) _ _ _ h
    · cases h; exact Nat.le_refl _
theorem mo_lineJ {un : PM Int} (hx : Mo un) : ∀ j, Mo (lineJ L un j)
  | 0 => hx
  | j + 1 => (mo_lineJ hx j).and fun left => fun s v s' h => mo_line _ (mo_lineJ hx j) _ _ s v s' h
theorem mo_unM : ∀ m, Mo (unM L m)
  | 0 => mo_un 0 (Mo.fail _) (Mo.fail _)
  | m + 1 => mo_un _ (mo_unM m) (mo_lineJ (mo_unM m) 8)
theorem mo_expr (m : Nat) : Mo (exprM L m) := mo_lineJ (mo_unM m) 8
theorem mo_bracket (m : Nat) : Mo (bracketM L m) := (Mo1.take _).mo.and fun _ => (mo_expr m).and fun _ => (Mo1.take _).mo.and fun _ => Mo.pure _
theorem mo_array (m : Nat) (t : TY) : Mo (arrayM L m t) := (Mo.lay t).and fun k => Mo.at ((mo_bracket m).and fun x => Mo.lay _) (Mo.pure _)
theorem mo_args (m : Nat) : ∀ n l, Mo (argsN L m n l)
  | 0, l => Mo.pure _
  | n + 1, l => Mo.at (Mo1.step.mo.and fun _ => (Mo.roomIf (beginsV L ·) _).and fun _ => (mo_expr m).and fun x => mo_args m n _) (Mo.pure _)
theorem mo_ref (m : Nat) : Mo (refM L m) := Mo1.name.mo.and fun w => Mo.at (Mo1.step.mo.and fun _ => (mo_expr m).and fun x => (show Mo (fun s => argsN L m (L.length - s.i + 1) [x] s) from fun s v s' h => mo_args m _ _ s v s' h).and fun l => (Mo1.take _).mo.and fun _ => Mo.pure _) (Mo.pure _)
theorem mo_inner (m : Nat) {kd : PM Int} (h : Mo kd) : Mo (innerM L m kd) := (Mo.enter m (startsV L ·)).and fun _ => h
theorem mo_cases (m : Nat) {kd : PM Int} (h : Mo kd) : ∀ n l, Mo (casesN L m kd n l)
  | 0, l => Mo.pure _
  | n + 1, l => Mo.at ((Mo.room _).and fun _ => Mo1.step.mo.and fun _ => Mo1.num.mo.and fun c => (Mo1.take _).mo.and fun _ => (mo_inner m h).and fun k => (Mo1.take _).mo.and fun _ => mo_cases m h n _) (Mo.pure _)
theorem mo_choice (m : Nat) {kd : PM Int} (h : Mo kd) : Mo (choiceM L m kd) := by
  unfold choiceM
  exact (Mo1.take _).mo.and fun _ => (mo_expr m).and fun x => (Mo1.take _).mo.and fun _ => (Mo1.take _).mo.and fun _ => (show Mo (fun s => casesN L m kd (L.length - s.i + 1) [] s) from fun s v s' hx => mo_cases m h _ _ s v s' hx).and fun cs =>
    (Mo.at (Mo1.step.mo.and fun _ => (Mo1.take _).mo.and fun _ => (mo_inner m h).and fun k => (Mo1.take _).mo.and fun _ => Mo.pure _) (Mo.pure _)).and fun k => (Mo1.take _).mo.and fun _ => Mo.lay _
theorem mo_word (m : Nat) {kd : PM Int} (h : Mo kd) (w : List UInt8) : Mo (wordM L m kd w) := by
  unfold wordM
  split
  · refine (mo_bracket m).and fun x => ?_
    split
    · exact (mo_inner m h).and fun i => Mo.lay _
    · exact (Mo.pure _).and fun i => Mo.lay _
  · repeat' split
    · exact (mo_inner m h).and fun i => Mo.lay _
    · exact Mo.lay _
    · exact Mo.lay _
    · exact mo_choice m h
    · exact mo_array m _
theorem mo_kindF (m : Nat) {kd : PM Int} (h : Mo kd) : Mo (kindF L m kd) := Mo.at ((mo_ref m).and fun t => mo_array m t) (Mo.at (fun s v s' hx => (Mo1.step.mo.and fun _ => mo_word m h (tk L s.i).t) s v s' hx) (Mo.fail _))
theorem mo_kind : ∀ m, Mo (kindM L m)
  | 0 => mo_kindF 0 (Mo.fail _)
  | m + 1 => mo_kindF _ (mo_kind m)
theorem mo_derived : Mo (derivedM L) := by
  refine Mo.at (fun s v s' hx => (Mo1.step.mo.and fun _ => (Mo1.take t_lpar).mo.and fun _ => Mo1.name.mo.and fun a => Mo.and ?_ fun b => (Mo1.take t_rpar).mo.and fun _ => Mo.pure (derOf (tk L s.i).t, a, b)) s v s' hx) (Mo.fail _)
  split
  · exact (Mo1.take _).mo.and fun _ => Mo1.name.mo
  · exact Mo.pure _
theorem mo_field : Mo1 (fieldM L) := Mo1.name.and fun w => (Mo1.take _).mo.and fun _ => (mo_kind 32).and fun t => (Mo.at (Mo1.step.mo.and fun _ => mo_derived) (Mo.pure _)).and fun d => (Mo.at (Mo1.step.mo.and fun _ => mo_expr 32) (Mo.pure _)).and fun x => (Mo1.take _).mo.and fun _ => Mo.pure _
theorem mo_subs : ∀ n l, Mo (subsN L n l)
  | 0, l => Mo.pure _
  | n + 1, l => by
    rw [subsN]
    exact (Mo.roomIf (namedV L ·) _).and fun _ => Mo1.name.mo.and fun w => (Mo1.take _).mo.and fun _ => Mo1.num.mo.and fun b => (Mo1.take _).mo.and fun _ => Mo.at (mo_subs n _) (Mo.pure _)
theorem mo_pack : Mo1 (packM L) := (Mo1.take _).and fun _ => fun s v s' h => by
  split at h
  · cases h
  · exact (Mo1.step.mo.and fun _ => (Mo1.take _).mo.and fun _ => (show Mo (fun s => subsN L (L.length - s.i + 1) [] s) from fun s v s' hx => mo_subs _ _ s v s' hx).and fun l => (Mo1.take _).mo.and fun _ => Mo.pure _) _ _ _ h
theorem mo_pars : ∀ n l, Mo (parsN L n l)
  | 0, l => Mo.pure _
  | n + 1, l => Mo.at (Mo1.step.mo.and fun _ => (Mo.roomIf (namedV L ·) _).and fun _ => Mo1.name.mo.and fun x => mo_pars n _) (Mo.pure _)
theorem mo_items : ∀ n l, Mo (itemsN L n l)
  | 0, l => Mo.pure _
  | n + 1, l => Mo.at ((Mo.room _).and fun _ => (Mo.at mo_pack.mo mo_field.mo).and fun x => mo_items n _) (Mo.pure _)
theorem mo_record : Mo1 (recordM L) := (Mo1.take _).and fun _ => Mo1.name.mo.and fun w =>
  (Mo.at (Mo1.step.mo.and fun _ => Mo1.name.mo.and fun x => (show Mo (fun s => parsN L (L.length - s.i + 1) [x] s) from fun s v s' h => mo_pars _ _ s v s' h).and fun l => (Mo1.take _).mo.and fun _ => Mo.pure _) (Mo.pure _)).and fun ps =>
  (Mo1.take _).mo.and fun _ => (show Mo (fun s => itemsN L (L.length - s.i + 1) [] s) from fun s v s' h => mo_items _ _ s v s' h).and fun is => (Mo1.take _).mo.and fun _ => Mo.pure _
theorem mo_const : Mo1 (constM L) := (Mo1.take _).and fun _ => Mo1.name.mo.and fun w => (Mo1.take _).mo.and fun _ => Mo1.num.mo.and fun n => (Mo1.take _).mo.and fun _ => Mo.pure _
end
end Go.Proofs.YtkbhmcdoedmffaaDoor

namespace Go.Proofs.YtkbhmcdoedmffaaDoor
set_option linter.unusedVariables false
set_option linter.unusedSimpArgs false
open Go.RowKit
set_option maxRecDepth 100000

section
variable {L : List TokP} {m : Nat}
/-- The parts of a pack, at the loop's head: the first one is read in any case. -/
def headN (L : List TokP) (n : Nat) (l : List SB) : PM (List SB) := if l = [] then subsN L n l else atM (namedV L ·) (subsN L n l) (pure l)
set_option maxHeartbeats 8000000 in
theorem pack_c (hL : TokOk L) (hn : L.length ≤ 100000) (s : PS) {c : Nat} (hs : SOk L c s) : C0 L m 31 [] (packM L) (fun v => .o (gD (itD v))) s := by
  refine C0.of fun T hT => ?_
  unfold packM at hT
  obtain ⟨i, xs, ts⟩ := s
  refine fn_ruleP (C := ⟨Tryd.prog, layF, Tryd.f31.ntmps, ΓL, 2, [], []⟩) layF_ok mixed Tryd.func31 rfl (by kernel_rfl) rfl rfl rfl SLe.rfl ?_
  repeat' (first | refine ex_true (by first | decide | omega | assumption | (with_reducible exact rfl)) ?_ | refine ex_false (by first | decide | omega | assumption | exact (fun h => h rfl)) ?_ | refine ex_dec (fun _ => ?_) (fun _ => ?_) | refine ex_u8 _ rfl (by omega) (by omega) ?_ | refine ex_i64 _ rfl (by omega) (by omega) ?_ | refine ex_u64 _ rfl (by omega) (by omega) ?_ | refine and_mk (by first | omega | (with_reducible rfl) | (show drawOk _ _ _ = true; kernel_rfl)) ?_ | refine and_mk ⟨_, rfl⟩ ?_ | refine ex_is _ (List.length_map _) ?_ | refine ex_is _ List.length_nil ?_ | fail "no step")
  have hcon := take_c (m := m) ⟨i, xs, ts⟩ hs.i (by omega) w_pack
  rcases hx18 : (takeM L w_pack) ⟨i, xs, ts⟩ with ⟨_, s9⟩ | ⟨i9, e9⟩
  rotate_left
  · obtain rfl := (and_err hx18).symm.trans hT
    first | refine ex_callM (CallsM.ren (hcon.err hx18) [0, 1] 3 rfl rfl rfl rfl) ?_ | refine ex_callM (CallsM.more0 (CallsM.ren (hcon.err hx18) [0, 1] 3 rfl rfl rfl rfl)) ?_ | refine ex_callM (CallsM.more1 (CallsM.ren (hcon.err hx18) [0, 1] 3 rfl rfl rfl rfl)) ?_ | refine ex_callM (CallsM.moreL (CallsM.ren (hcon.err hx18) [0, 1] 3 rfl rfl rfl rfl)) ?_
    first | exact ⟨⟨_, rfl, rfl⟩, rfl, rfl⟩ | exact ⟨by kernel_rfl, ⟨_, rfl, rfl⟩, rfl, rfl⟩
  replace hT := (and_ok hx18).symm.trans hT
  first | refine ex_callM (CallsM.ren (hcon.ok hx18) [0, 1] 3 rfl rfl rfl rfl) ?_ | refine ex_callM (CallsM.more0 (CallsM.ren (hcon.ok hx18) [0, 1] 3 rfl rfl rfl rfl)) ?_ | refine ex_callM (CallsM.more1 (CallsM.ren (hcon.ok hx18) [0, 1] 3 rfl rfl rfl rfl)) ?_ | refine ex_callM (CallsM.moreL (CallsM.ren (hcon.ok hx18) [0, 1] 3 rfl rfl rfl rfl)) ?_
  clear hcon
  have hs1 := (Up.ok (Up.take hL w_pack 0) hs hx18).1
  obtain rfl := mv_take1 hx18
  have ha := ahead_c (L := L) (m := m) (i + 1) hs1.lt
  have hT : (match (if (tk L (i + 1)).k = 0 then integerV (tk L (i + 1)).t else none) with
    | none => failM 4 ⟨i + 1, xs, ts⟩
    | some (z, lt) => (stepM >>= fun _ => takeM L t_lcur >>= fun _ => (fun s => subsN L (L.length - s.i + 1) [] s) >>= fun l => takeM L t_rcur >>= fun _ => pure (⟨[], -1, 0, [], [], -1, z, lt, l⟩ : IT)) ⟨i + 1, xs, ts⟩) = T := hT
  have hk3 : (tk L (i + 1)).k = 0 → (tk L (i + 1)).k ≠ 3 := fun h => by omega
  have hs2 := fun h => stpS hL hs1 (hk3 h)
  clear hk3
  generalize tk L (i + 1) = u at *
  have hq := (integer_c u.t).gL
  repeat' (first | refine ex_true (by first | decide | omega | assumption | (with_reducible exact rfl)) ?_ | refine ex_false (by first | decide | omega | assumption | exact (fun h => h rfl)) ?_ | refine ex_dec (fun _ => ?_) (fun _ => ?_) | refine ex_u8 _ rfl (by omega) (by omega) ?_ | refine ex_i64 _ rfl (by omega) (by omega) ?_ | refine ex_u64 _ rfl (by omega) (by omega) ?_ | refine and_mk (by first | omega | (with_reducible rfl) | (show drawOk _ _ _ = true; kernel_rfl)) ?_ | refine and_mk ⟨_, rfl⟩ ?_ | refine ex_is _ (List.length_map _) ?_ | refine ex_is _ List.length_nil ?_ | fail "no step")
  first | refine ex_callM (CallsM.ren (ha) [0, 1] 4 rfl rfl rfl rfl) ?_ | refine ex_callM (CallsM.more0 (CallsM.ren (ha) [0, 1] 4 rfl rfl rfl rfl)) ?_ | refine ex_callM (CallsM.more1 (CallsM.ren (ha) [0, 1] 4 rfl rfl rfl rfl)) ?_ | refine ex_callM (CallsM.moreL (CallsM.ren (ha) [0, 1] 4 rfl rfl rfl rfl)) ?_
  rcases hz : integerV u.t with _ | ⟨z, lt⟩ <;> rw [hz] at hT hq
  · have hq : CallsA Tryd.prog ΓL 21 [c1 (ds (bs u.t))] (.tup [c1 (di 0), c1 (db false), c1 (db false)]) := hq
    obtain rfl : PR.err (i + 1) 4 = T := by
      rw [← hT]
      by_cases hk : u.k = 0
      · rw [if_pos hk]; rfl
      · rw [if_neg hk]; rfl
    repeat' (first | refine ex_call hq ?_ | refine ex_true (by first | decide | omega | assumption | (with_reducible exact rfl)) ?_ | refine ex_false (by first | decide | omega | assumption | exact (fun h => h rfl)) ?_ | refine ex_dec (fun _ => ?_) (fun _ => ?_) | refine ex_u8 _ rfl (by omega) (by omega) ?_ | refine ex_i64 _ rfl (by omega) (by omega) ?_ | refine ex_u64 _ rfl (by omega) (by omega) ?_ | refine and_mk (by first | omega | (with_reducible rfl) | (show drawOk _ _ _ = true; kernel_rfl)) ?_ | refine and_mk ⟨_, rfl⟩ ?_ | refine ex_is _ (List.length_map _) ?_ | refine ex_is _ List.length_nil ?_ | fail "no step")
    first | refine ex_callM (CallsM.ren ((fail_c (m := m) (i + 1) 4 hs1.lt)) [0, 1] 4 rfl rfl rfl rfl) ?_ | refine ex_callM (CallsM.more0 (CallsM.ren ((fail_c (m := m) (i + 1) 4 hs1.lt)) [0, 1] 4 rfl rfl rfl rfl)) ?_ | refine ex_callM (CallsM.more1 (CallsM.ren ((fail_c (m := m) (i + 1) 4 hs1.lt)) [0, 1] 4 rfl rfl rfl rfl)) ?_ | refine ex_callM (CallsM.moreL (CallsM.ren ((fail_c (m := m) (i + 1) 4 hs1.lt)) [0, 1] 4 rfl rfl rfl rfl)) ?_
    exact ⟨⟨_, rfl, rfl⟩, rfl, rfl⟩
  · have hq : CallsA Tryd.prog ΓL 21 [c1 (ds (bs u.t))] (.tup [c1 (di z), c1 (db lt), c1 (db true)]) := hq
    by_cases hk : u.k = 0
    · rw [if_pos hk] at hT
      replace hs2 := hs2 hk
      have hi1 := hs1.lt
      have hi2 := hs2.lt
      repeat' (first | refine ex_call hq ?_ | refine ex_true (by first | decide | omega | assumption | (with_reducible exact rfl)) ?_ | refine ex_false (by first | decide | omega | assumption | exact (fun h => h rfl)) ?_ | refine ex_dec (fun _ => ?_) (fun _ => ?_) | refine ex_u8 _ rfl (by omega) (by omega) ?_ | refine ex_i64 _ rfl (by omega) (by omega) ?_ | refine ex_u64 _ rfl (by omega) (by omega) ?_ | refine and_mk (by first | omega | (with_reducible rfl) | (show drawOk _ _ _ = true; kernel_rfl)) ?_ | refine and_mk ⟨_, rfl⟩ ?_ | refine ex_is _ (List.length_map _) ?_ | refine ex_is _ List.length_nil ?_ | fail "no step")
      first | refine ex_callM (CallsM.ren (ha) [0, 1] 4 rfl rfl rfl rfl) ?_ | refine ex_callM (CallsM.more0 (CallsM.ren (ha) [0, 1] 4 rfl rfl rfl rfl)) ?_ | refine ex_callM (CallsM.more1 (CallsM.ren (ha) [0, 1] 4 rfl rfl rfl rfl)) ?_ | refine ex_callM (CallsM.moreL (CallsM.ren (ha) [0, 1] 4 rfl rfl rfl rfl)) ?_
      repeat' (first | refine ex_i64 ((i + 1 + 1 : Nat) : Int) (by omega) (by omega) (by omega) ?_ | refine ex_u64 ((i + 1 + 1 : Nat) : Int) (by omega) (by omega) (by omega) ?_ | refine ex_u8 ((i + 1 + 1 : Nat) : Int) (by omega) (by omega) (by omega) ?_ | refine ex_true (by first | decide | omega | assumption | (with_reducible exact rfl)) ?_ | refine ex_false (by first | decide | omega | assumption | exact (fun h => h rfl)) ?_ | refine ex_dec (fun _ => ?_) (fun _ => ?_) | refine ex_u8 _ rfl (by omega) (by omega) ?_ | refine ex_i64 _ rfl (by omega) (by omega) ?_ | refine ex_u64 _ rfl (by omega) (by omega) ?_ | refine and_mk (by first | omega | (with_reducible rfl) | (show drawOk _ _ _ = true; kernel_rfl)) ?_ | refine and_mk ⟨_, rfl⟩ ?_ | refine ex_is _ (List.length_map _) ?_ | refine ex_is _ List.length_nil ?_ | fail "no step")
      replace hT : (takeM L t_lcur >>= fun _ => (fun s => subsN L (L.length - s.i + 1) [] s) >>= fun l => takeM L t_rcur >>= fun _ => pure (⟨[], -1, 0, [], [], -1, z, lt, l⟩ : IT)) ⟨i + 1 + 1, xs, ts⟩ = T := hT
      have hcon := take_c (m := m) ⟨i + 1 + 1, xs, ts⟩ hs2.i (by omega) t_lcur
      rcases hx50 : (takeM L t_lcur) ⟨i + 1 + 1, xs, ts⟩ with ⟨_, s9⟩ | ⟨i9, e9⟩
      rotate_left
      · obtain rfl := (and_err hx50).symm.trans hT
        first | refine ex_callM (CallsM.ren (hcon.err hx50) [0, 1] 4 rfl rfl rfl rfl) ?_ | refine ex_callM (CallsM.more0 (CallsM.ren (hcon.err hx50) [0, 1] 4 rfl rfl rfl rfl)) ?_ | refine ex_callM (CallsM.more1 (CallsM.ren (hcon.err hx50) [0, 1] 4 rfl rfl rfl rfl)) ?_ | refine ex_callM (CallsM.moreL (CallsM.ren (hcon.err hx50) [0, 1] 4 rfl rfl rfl rfl)) ?_
        first | exact ⟨⟨_, rfl, rfl⟩, rfl, rfl⟩ | exact ⟨by kernel_rfl, ⟨_, rfl, rfl⟩, rfl, rfl⟩
      replace hT := (and_ok hx50).symm.trans hT
      first | refine ex_callM (CallsM.ren (hcon.ok hx50) [0, 1] 4 rfl rfl rfl rfl) ?_ | refine ex_callM (CallsM.more0 (CallsM.ren (hcon.ok hx50) [0, 1] 4 rfl rfl rfl rfl)) ?_ | refine ex_callM (CallsM.more1 (CallsM.ren (hcon.ok hx50) [0, 1] 4 rfl rfl rfl rfl)) ?_ | refine ex_callM (CallsM.moreL (CallsM.ren (hcon.ok hx50) [0, 1] 4 rfl rfl rfl rfl)) ?_
      clear hcon
      have hs3 := (Up.ok (Up.take hL t_lcur 0) hs2 hx50).1
      obtain rfl := mv_take1 hx50
      repeat' (first | refine ex_true (by first | decide | omega | assumption | (with_reducible exact rfl)) ?_ | refine ex_false (by first | decide | omega | assumption | exact (fun h => h rfl)) ?_ | refine ex_dec (fun _ => ?_) (fun _ => ?_) | refine ex_u8 _ rfl (by omega) (by omega) ?_ | refine ex_i64 _ rfl (by omega) (by omega) ?_ | refine ex_u64 _ rfl (by omega) (by omega) ?_ | refine and_mk (by first | omega | (with_reducible rfl) | (show drawOk _ _ _ = true; kernel_rfl)) ?_ | refine and_mk ⟨_, rfl⟩ ?_ | refine ex_is _ (List.length_map _) ?_ | refine ex_is _ List.length_nil ?_ | fail "no step")
      replace hT : (headN L (L.length - (i + 1 + 1 + 1) + 1) [] >>= fun l => takeM L t_rcur >>= fun _ => pure (⟨[], -1, 0, [], [], -1, z, lt, l⟩ : IT)) ⟨i + 1 + 1 + 1, xs, ts⟩ = T := hT
      refine ex_loop (X := Nat × List SB × Nat) (fun ⟨i, l, _⟩ => ⟨[(0, .o P0), (2, .o (.c (.ptr 2 0))), (3, .o (.c (.ptr 3 0)))], [(0, Qz L m i), (2, .obj [.d (ds ⟨#[]⟩), .d (di 0), .d (di 0), .d (ds ⟨#[]⟩), .d (ds ⟨#[]⟩), .d (di 0), .d (di 0), .d (db false), .d dnil]), (3, .obj [.d (ds ⟨#[]⟩), .d (di (-1)), .d (di 0), .d (ds ⟨#[]⟩), .d (ds ⟨#[]⟩), .d (di (-1)), .d (di z), .d (db lt), .row 4]), (4, .row 2 103 (l.map sbD))], 5⟩) (fun y => L.length - y.1)
        (fun ⟨i, l, n⟩ => SOk L c ⟨i, xs, ts⟩ ∧ L.length < i + n ∧ l.length ≤ i ∧ (headN L n l >>= fun l => takeM L t_rcur >>= fun _ => pure (⟨[], -1, 0, [], [], -1, z, lt, l⟩ : IT)) ⟨i, xs, ts⟩ = T) (i + 1 + 1 + 1, [], L.length - (i + 1 + 1 + 1) + 1) ⟨hs3.less (by omega), by omega, Nat.zero_le _, hT⟩ (SLe.trans (SLe.of ⟨⟨rfl, rfl, rfl, trivial⟩, ⟨rfl, rfl, rfl, rfl, trivial⟩⟩) (SLe.ownCell 3 8 4 2 103 rfl rfl rfl rfl rfl rfl)) ?_
      clear hT hs3 hs2 hs1 ha hq hs
      rintro ⟨i, l, n⟩ ⟨hs, hf, hll, hT⟩
      have hi := hs.lt
      have hnm := named_c (m := m) i hi
      cases n with
      | zero => omega
      | succ n =>
        have hbody : (l = [] ∨ namedV L i = true) → (subsN L (n + 1) l >>= fun l => takeM L t_rcur >>= fun _ => pure (⟨[], -1, 0, [], [], -1, z, lt, l⟩ : IT)) ⟨i, xs, ts⟩ = T := fun h => by
          unfold headN at hT
          by_cases hl : l = []
          · rwa [if_pos hl] at hT
          · rw [if_neg hl] at hT
            exact atyB hT (h.resolve_left hl)
        by_cases hgo : l = [] ∨ namedV L i = true
        · replace hT := hbody hgo
          rw [subsN] at hT
          replace hT := asc hT
          by_cases hl : l = []
          · subst hl
            repeat' (first | refine ex_is (α := Nat) 0 rfl ?_ | refine ex_true (by first | decide | omega | assumption | (with_reducible exact rfl)) ?_ | refine ex_false (by first | decide | omega | assumption | exact (fun h => h rfl)) ?_ | refine ex_dec (fun _ => ?_) (fun _ => ?_) | refine ex_u8 _ rfl (by omega) (by omega) ?_ | refine ex_i64 _ rfl (by omega) (by omega) ?_ | refine ex_u64 _ rfl (by omega) (by omega) ?_ | refine and_mk (by first | omega | (with_reducible rfl) | (show drawOk _ _ _ = true; kernel_rfl)) ?_ | refine and_mk ⟨_, rfl⟩ ?_ | refine ex_is _ (List.length_map _) ?_ | refine ex_is _ List.length_nil ?_ | fail "no step")
            rcases hnv : namedV L i with _ | _ <;> rw [hnv] at hnm
            · replace hT := asc (rmF hT hnv)
              first | refine ex_callM (CallsM.ren (hnm) [0, 1] 5 rfl rfl rfl rfl) ?_ | refine ex_callM (CallsM.more0 (CallsM.ren (hnm) [0, 1] 5 rfl rfl rfl rfl)) ?_ | refine ex_callM (CallsM.more1 (CallsM.ren (hnm) [0, 1] 5 rfl rfl rfl rfl)) ?_ | refine ex_callM (CallsM.moreL (CallsM.ren (hnm) [0, 1] 5 rfl rfl rfl rfl)) ?_
              repeat' (first | refine ex_true (by first | decide | omega | assumption | (with_reducible exact rfl)) ?_ | refine ex_false (by first | decide | omega | assumption | exact (fun h => h rfl)) ?_ | refine ex_dec (fun _ => ?_) (fun _ => ?_) | refine ex_u8 _ rfl (by omega) (by omega) ?_ | refine ex_i64 _ rfl (by omega) (by omega) ?_ | refine ex_u64 _ rfl (by omega) (by omega) ?_ | refine and_mk (by first | omega | (with_reducible rfl) | (show drawOk _ _ _ = true; kernel_rfl)) ?_ | refine and_mk ⟨_, rfl⟩ ?_ | refine ex_is _ (List.length_map _) ?_ | refine ex_is _ List.length_nil ?_ | fail "no step")
              have hcon := name_c (m := m) ⟨i, xs, ts⟩ hs.i (by omega)
              rcases hx79 : (nameM L) ⟨i, xs, ts⟩ with ⟨w, s9⟩ | ⟨i9, e9⟩
              rotate_left
              · obtain rfl := (and_err hx79).symm.trans hT
                first | refine ex_callM (CallsM.ren (hcon.err hx79) [0, 1] 5 rfl rfl rfl rfl) ?_ | refine ex_callM (CallsM.more0 (CallsM.ren (hcon.err hx79) [0, 1] 5 rfl rfl rfl rfl)) ?_ | refine ex_callM (CallsM.more1 (CallsM.ren (hcon.err hx79) [0, 1] 5 rfl rfl rfl rfl)) ?_ | refine ex_callM (CallsM.moreL (CallsM.ren (hcon.err hx79) [0, 1] 5 rfl rfl rfl rfl)) ?_
                first | exact ⟨⟨_, rfl, rfl⟩, rfl, rfl⟩ | exact ⟨by kernel_rfl, ⟨_, rfl, rfl⟩, rfl, rfl⟩
              replace hT := (and_ok hx79).symm.trans hT
              first | refine ex_callM (CallsM.ren (hcon.ok hx79) [0, 1] 5 rfl rfl rfl rfl) ?_ | refine ex_callM (CallsM.more0 (CallsM.ren (hcon.ok hx79) [0, 1] 5 rfl rfl rfl rfl)) ?_ | refine ex_callM (CallsM.more1 (CallsM.ren (hcon.ok hx79) [0, 1] 5 rfl rfl rfl rfl)) ?_ | refine ex_callM (CallsM.moreL (CallsM.ren (hcon.ok hx79) [0, 1] 5 rfl rfl rfl rfl)) ?_
              clear hcon
              have hs1 := (Up.ok (Up.name hL 0) hs hx79).1
              obtain rfl := mv_name1 hx79
              replace hT := asc hT
              repeat' (first | refine ex_true (by first | decide | omega | assumption | (with_reducible exact rfl)) ?_ | refine ex_false (by first | decide | omega | assumption | exact (fun h => h rfl)) ?_ | refine ex_dec (fun _ => ?_) (fun _ => ?_) | refine ex_u8 _ rfl (by omega) (by omega) ?_ | refine ex_i64 _ rfl (by omega) (by omega) ?_ | refine ex_u64 _ rfl (by omega) (by omega) ?_ | refine and_mk (by first | omega | (with_reducible rfl) | (show drawOk _ _ _ = true; kernel_rfl)) ?_ | refine and_mk ⟨_, rfl⟩ ?_ | refine ex_is _ (List.length_map _) ?_ | refine ex_is _ List.length_nil ?_ | fail "no step")
              have hcon := take_c (m := m) ⟨i + 1, xs, ts⟩ hs1.i (by omega) t_colon
              rcases hx82 : (takeM L t_colon) ⟨i + 1, xs, ts⟩ with ⟨_, s9⟩ | ⟨i9, e9⟩
              rotate_left
              · obtain rfl := (and_err hx82).symm.trans hT
                first | refine ex_callM (CallsM.ren (hcon.err hx82) [0, 1] 5 rfl rfl rfl rfl) ?_ | refine ex_callM (CallsM.more0 (CallsM.ren (hcon.err hx82) [0, 1] 5 rfl rfl rfl rfl)) ?_ | refine ex_callM (CallsM.more1 (CallsM.ren (hcon.err hx82) [0, 1] 5 rfl rfl rfl rfl)) ?_ | refine ex_callM (CallsM.moreL (CallsM.ren (hcon.err hx82) [0, 1] 5 rfl rfl rfl rfl)) ?_
                first | exact ⟨⟨_, rfl, rfl⟩, rfl, rfl⟩ | exact ⟨by kernel_rfl, ⟨_, rfl, rfl⟩, rfl, rfl⟩
              replace hT := (and_ok hx82).symm.trans hT
              first | refine ex_callM (CallsM.ren (hcon.ok hx82) [0, 1] 5 rfl rfl rfl rfl) ?_ | refine ex_callM (CallsM.more0 (CallsM.ren (hcon.ok hx82) [0, 1] 5 rfl rfl rfl rfl)) ?_ | refine ex_callM (CallsM.more1 (CallsM.ren (hcon.ok hx82) [0, 1] 5 rfl rfl rfl rfl)) ?_ | refine ex_callM (CallsM.moreL (CallsM.ren (hcon.ok hx82) [0, 1] 5 rfl rfl rfl rfl)) ?_
              clear hcon
              have hs2 := (Up.ok (Up.take hL t_colon 0) hs1 hx82).1
              obtain rfl := mv_take1 hx82
              replace hT := asc hT
              repeat' (first | refine ex_true (by first | decide | omega | assumption | (with_reducible exact rfl)) ?_ | refine ex_false (by first | decide | omega | assumption | exact (fun h => h rfl)) ?_ | refine ex_dec (fun _ => ?_) (fun _ => ?_) | refine ex_u8 _ rfl (by omega) (by omega) ?_ | refine ex_i64 _ rfl (by omega) (by omega) ?_ | refine ex_u64 _ rfl (by omega) (by omega) ?_ | refine and_mk (by first | omega | (with_reducible rfl) | (show drawOk _ _ _ = true; kernel_rfl)) ?_ | refine and_mk ⟨_, rfl⟩ ?_ | refine ex_is _ (List.length_map _) ?_ | refine ex_is _ List.length_nil ?_ | fail "no step")
              have hcon := num_c (m := m) ⟨i + 1 + 1, xs, ts⟩ hs2.i (by omega)
              rcases hx85 : (numberM L) ⟨i + 1 + 1, xs, ts⟩ with ⟨b, s9⟩ | ⟨i9, e9⟩
              rotate_left
              · obtain rfl := (and_err hx85).symm.trans hT
                first | refine ex_callM (CallsM.ren (hcon.err hx85) [0, 1] 5 rfl rfl rfl rfl) ?_ | refine ex_callM (CallsM.more0 (CallsM.ren (hcon.err hx85) [0, 1] 5 rfl rfl rfl rfl)) ?_ | refine ex_callM (CallsM.more1 (CallsM.ren (hcon.err hx85) [0, 1] 5 rfl rfl rfl rfl)) ?_ | refine ex_callM (CallsM.moreL (CallsM.ren (hcon.err hx85) [0, 1] 5 rfl rfl rfl rfl)) ?_
                first | exact ⟨⟨_, rfl, rfl⟩, rfl, rfl⟩ | exact ⟨by kernel_rfl, ⟨_, rfl, rfl⟩, rfl, rfl⟩
              replace hT := (and_ok hx85).symm.trans hT
              first | refine ex_callM (CallsM.ren (hcon.ok hx85) [0, 1] 5 rfl rfl rfl rfl) ?_ | refine ex_callM (CallsM.more0 (CallsM.ren (hcon.ok hx85) [0, 1] 5 rfl rfl rfl rfl)) ?_ | refine ex_callM (CallsM.more1 (CallsM.ren (hcon.ok hx85) [0, 1] 5 rfl rfl rfl rfl)) ?_ | refine ex_callM (CallsM.moreL (CallsM.ren (hcon.ok hx85) [0, 1] 5 rfl rfl rfl rfl)) ?_
              clear hcon
              have hs3 := (Up.ok (Up.number hL 0) hs2 hx85).1
              obtain rfl := mv_num1 hx85
              replace hT := asc hT
              repeat' (first | refine ex_true (by first | decide | omega | assumption | (with_reducible exact rfl)) ?_ | refine ex_false (by first | decide | omega | assumption | exact (fun h => h rfl)) ?_ | refine ex_dec (fun _ => ?_) (fun _ => ?_) | refine ex_u8 _ rfl (by omega) (by omega) ?_ | refine ex_i64 _ rfl (by omega) (by omega) ?_ | refine ex_u64 _ rfl (by omega) (by omega) ?_ | refine and_mk (by first | omega | (with_reducible rfl) | (show drawOk _ _ _ = true; kernel_rfl)) ?_ | refine and_mk ⟨_, rfl⟩ ?_ | refine ex_is _ (List.length_map _) ?_ | refine ex_is _ List.length_nil ?_ | fail "no step")
              have hcon := take_c (m := m) ⟨i + 1 + 1 + 1, xs, ts⟩ hs3.i (by omega) t_semi
              rcases hx88 : (takeM L t_semi) ⟨i + 1 + 1 + 1, xs, ts⟩ with ⟨_, s9⟩ | ⟨i9, e9⟩
              rotate_left
              · obtain rfl := (and_err hx88).symm.trans hT
                first | refine ex_callM (CallsM.ren (hcon.err hx88) [0, 1] 5 rfl rfl rfl rfl) ?_ | refine ex_callM (CallsM.more0 (CallsM.ren (hcon.err hx88) [0, 1] 5 rfl rfl rfl rfl)) ?_ | refine ex_callM (CallsM.more1 (CallsM.ren (hcon.err hx88) [0, 1] 5 rfl rfl rfl rfl)) ?_ | refine ex_callM (CallsM.moreL (CallsM.ren (hcon.err hx88) [0, 1] 5 rfl rfl rfl rfl)) ?_
                first | exact ⟨⟨_, rfl, rfl⟩, rfl, rfl⟩ | exact ⟨by kernel_rfl, ⟨_, rfl, rfl⟩, rfl, rfl⟩
              replace hT := (and_ok hx88).symm.trans hT
              first | refine ex_callM (CallsM.ren (hcon.ok hx88) [0, 1] 5 rfl rfl rfl rfl) ?_ | refine ex_callM (CallsM.more0 (CallsM.ren (hcon.ok hx88) [0, 1] 5 rfl rfl rfl rfl)) ?_ | refine ex_callM (CallsM.more1 (CallsM.ren (hcon.ok hx88) [0, 1] 5 rfl rfl rfl rfl)) ?_ | refine ex_callM (CallsM.moreL (CallsM.ren (hcon.ok hx88) [0, 1] 5 rfl rfl rfl rfl)) ?_
              clear hcon
              have hs4 := (Up.ok (Up.take hL t_semi 0) hs3 hx88).1
              obtain rfl := mv_take1 hx88
              have hi4 := hs4.lt
              have hmin : (if (1048576 : Int) < (b : Int) then 1048576 else (b : Int)) = ((min b 1048576 : Nat) : Int) := by split <;> omega
              repeat' (first | refine ex_i64 ((min b 1048576 : Nat) : Int) (by omega) (by omega) (by omega) ?_ | refine ex_u64 ((min b 1048576 : Nat) : Int) (by omega) (by omega) (by omega) ?_ | refine ex_u8 ((min b 1048576 : Nat) : Int) (by omega) (by omega) (by omega) ?_ | refine ex_is ((min b 1048576 : Nat) : Int) hmin ?_ | refine ex_true (by first | decide | omega | assumption | (with_reducible exact rfl)) ?_ | refine ex_false (by first | decide | omega | assumption | exact (fun h => h rfl)) ?_ | refine ex_dec (fun _ => ?_) (fun _ => ?_) | refine ex_u8 _ rfl (by omega) (by omega) ?_ | refine ex_i64 _ rfl (by omega) (by omega) ?_ | refine ex_u64 _ rfl (by omega) (by omega) ?_ | refine and_mk (by first | omega | (with_reducible rfl) | (show drawOk _ _ _ = true; kernel_rfl)) ?_ | refine and_mk ⟨_, rfl⟩ ?_ | refine ex_is _ (List.length_map _) ?_ | refine ex_is _ List.length_nil ?_ | fail "no step")
              refine ex_app (0) (1) 1000 (by first | rfl | (simp; done) | (simp; omega)) (by first | rfl | (simp; done) | (simp; omega)) rfl (by omega) ?_
              refine ex_is (List.map sbD ([] ++ [(⟨w, min b 1048576⟩ : SB)])) (by rw [List.map_append]; rfl) ?_
              repeat' (first | refine ex_true (by first | decide | omega | assumption | (with_reducible exact rfl)) ?_ | refine ex_false (by first | decide | omega | assumption | exact (fun h => h rfl)) ?_ | refine ex_dec (fun _ => ?_) (fun _ => ?_) | refine ex_u8 _ rfl (by omega) (by omega) ?_ | refine ex_i64 _ rfl (by omega) (by omega) ?_ | refine ex_u64 _ rfl (by omega) (by omega) ?_ | refine and_mk (by first | omega | (with_reducible rfl) | (show drawOk _ _ _ = true; kernel_rfl)) ?_ | refine and_mk ⟨_, rfl⟩ ?_ | refine ex_is _ (List.length_map _) ?_ | refine ex_is _ List.length_nil ?_ | fail "no step")
              exact ex_round (i + 1 + 1 + 1 + 1, [] ++ [(⟨w, min b 1048576⟩ : SB)], n) ⟨hs4.less (by omega), by omega, by simp <;> omega, by unfold headN; rw [if_neg (by simp)]; exact hT⟩ (by show L.length - (i + 1 + 1 + 1 + 1) < L.length - i; omega) (SLe.ren [(0, 0), (2, 2), (3, 3), (6, 4), (1, 1)] ⟨⟨rfl, rfl⟩, ⟨rfl, rfl⟩, ⟨rfl, rfl⟩, trivial⟩ ⟨⟨rfl, rfl⟩, ⟨rfl, rfl⟩, ⟨rfl, rfl⟩, ⟨rfl, rfl⟩, trivial⟩ rfl)
            · replace hT := rmT hT hnv
              first | refine ex_callM (CallsM.ren (hnm) [0, 1] 5 rfl rfl rfl rfl) ?_ | refine ex_callM (CallsM.more0 (CallsM.ren (hnm) [0, 1] 5 rfl rfl rfl rfl)) ?_ | refine ex_callM (CallsM.more1 (CallsM.ren (hnm) [0, 1] 5 rfl rfl rfl rfl)) ?_ | refine ex_callM (CallsM.moreL (CallsM.ren (hnm) [0, 1] 5 rfl rfl rfl rfl)) ?_
              repeat' (first | refine ex_is (α := Nat) 0 rfl ?_ | refine ex_true (by first | decide | omega | assumption | (with_reducible exact rfl)) ?_ | refine ex_false (by first | decide | omega | assumption | exact (fun h => h rfl)) ?_ | refine ex_dec (fun _ => ?_) (fun _ => ?_) | refine ex_u8 _ rfl (by omega) (by omega) ?_ | refine ex_i64 _ rfl (by omega) (by omega) ?_ | refine ex_u64 _ rfl (by omega) (by omega) ?_ | refine and_mk (by first | omega | (with_reducible rfl) | (show drawOk _ _ _ = true; kernel_rfl)) ?_ | refine and_mk ⟨_, rfl⟩ ?_ | refine ex_is _ (List.length_map _) ?_ | refine ex_is _ List.length_nil ?_ | fail "no step")
              have hcon := room_c (m := m) ⟨i, xs, ts⟩ hi 0 (by omega)
              rcases hr : (roomM 0) ⟨i, xs, ts⟩ with ⟨_, s9⟩ | ⟨i9, e9⟩
              rotate_left
              · obtain rfl := (and_err hr).symm.trans hT
                first | refine ex_callM (CallsM.ren (hcon.err hr) [0, 1] 5 rfl rfl rfl rfl) ?_ | refine ex_callM (CallsM.more0 (CallsM.ren (hcon.err hr) [0, 1] 5 rfl rfl rfl rfl)) ?_ | refine ex_callM (CallsM.more1 (CallsM.ren (hcon.err hr) [0, 1] 5 rfl rfl rfl rfl)) ?_ | refine ex_callM (CallsM.moreL (CallsM.ren (hcon.err hr) [0, 1] 5 rfl rfl rfl rfl)) ?_
                first | exact ⟨⟨_, rfl, rfl⟩, rfl, rfl⟩ | exact ⟨by kernel_rfl, ⟨_, rfl, rfl⟩, rfl, rfl⟩
              replace hT := (and_ok hr).symm.trans hT
              first | refine ex_callM (CallsM.ren (hcon.ok hr) [0, 1] 5 rfl rfl rfl rfl) ?_ | refine ex_callM (CallsM.more0 (CallsM.ren (hcon.ok hr) [0, 1] 5 rfl rfl rfl rfl)) ?_ | refine ex_callM (CallsM.more1 (CallsM.ren (hcon.ok hr) [0, 1] 5 rfl rfl rfl rfl)) ?_ | refine ex_callM (CallsM.moreL (CallsM.ren (hcon.ok hr) [0, 1] 5 rfl rfl rfl rfl)) ?_
              clear hcon
              obtain rfl := mv_room1 hr
              replace hT := asc hT
              repeat' (first | refine ex_true (by first | decide | omega | assumption | (with_reducible exact rfl)) ?_ | refine ex_false (by first | decide | omega | assumption | exact (fun h => h rfl)) ?_ | refine ex_dec (fun _ => ?_) (fun _ => ?_) | refine ex_u8 _ rfl (by omega) (by omega) ?_ | refine ex_i64 _ rfl (by omega) (by omega) ?_ | refine ex_u64 _ rfl (by omega) (by omega) ?_ | refine and_mk (by first | omega | (with_reducible rfl) | (show drawOk _ _ _ = true; kernel_rfl)) ?_ | refine and_mk ⟨_, rfl⟩ ?_ | refine ex_is _ (List.length_map _) ?_ | refine ex_is _ List.length_nil ?_ | fail "no step")
              have hcon := name_c (m := m) ⟨i, xs, ts⟩ hs.i (by omega)
              rcases hx102 : (nameM L) ⟨i, xs, ts⟩ with ⟨w, s9⟩ | ⟨i9, e9⟩
              rotate_left
              · obtain rfl := (and_err hx102).symm.trans hT
                first | refine ex_callM (CallsM.ren (hcon.err hx102) [0, 1] 5 rfl rfl rfl rfl) ?_ | refine ex_callM (CallsM.more0 (CallsM.ren (hcon.err hx102) [0, 1] 5 rfl rfl rfl rfl)) ?_ | refine ex_callM (CallsM.more1 (CallsM.ren (hcon.err hx102) [0, 1] 5 rfl rfl rfl rfl)) ?_ | refine ex_callM (CallsM.moreL (CallsM.ren (hcon.err hx102) [0, 1] 5 rfl rfl rfl rfl)) ?_
                first | exact ⟨⟨_, rfl, rfl⟩, rfl, rfl⟩ | exact ⟨by kernel_rfl, ⟨_, rfl, rfl⟩, rfl, rfl⟩
              replace hT := (and_ok hx102).symm.trans hT
              first | refine ex_callM (CallsM.ren (hcon.ok hx102) [0, 1] 5 rfl rfl rfl rfl) ?_ | refine ex_callM (CallsM.more0 (CallsM.ren (hcon.ok hx102) [0, 1] 5 rfl rfl rfl rfl)) ?_ | refine ex_callM (CallsM.more1 (CallsM.ren (hcon.ok hx102) [0, 1] 5 rfl rfl rfl rfl)) ?_ | refine ex_callM (CallsM.moreL (CallsM.ren (hcon.ok hx102) [0, 1] 5 rfl rfl rfl rfl)) ?_
              clear hcon
              have hs1 := (Up.ok (Up.name hL 0) hs hx102).1
              obtain rfl := mv_name1 hx102
              replace hT := asc hT
              repeat' (first | refine ex_true (by first | decide | omega | assumption | (with_reducible exact rfl)) ?_ | refine ex_false (by first | decide | omega | assumption | exact (fun h => h rfl)) ?_ | refine ex_dec (fun _ => ?_) (fun _ => ?_) | refine ex_u8 _ rfl (by omega) (by omega) ?_ | refine ex_i64 _ rfl (by omega) (by omega) ?_ | refine ex_u64 _ rfl (by omega) (by omega) ?_ | refine and_mk (by first | omega | (with_reducible rfl) | (show drawOk _ _ _ = true; kernel_rfl)) ?_ | refine and_mk ⟨_, rfl⟩ ?_ | refine ex_is _ (List.length_map _) ?_ | refine ex_is _ List.length_nil ?_ | fail "no step")
              have hcon := take_c (m := m) ⟨i + 1, xs, ts⟩ hs1.i (by omega) t_colon
              rcases hx105 : (takeM L t_colon) ⟨i + 1, xs, ts⟩ with ⟨_, s9⟩ | ⟨i9, e9⟩
              rotate_left
              · obtain rfl := (and_err hx105).symm.trans hT
                first | refine ex_callM (CallsM.ren (hcon.err hx105) [0, 1] 5 rfl rfl rfl rfl) ?_ | refine ex_callM (CallsM.more0 (CallsM.ren (hcon.err hx105) [0, 1] 5 rfl rfl rfl rfl)) ?_ | refine ex_callM (CallsM.more1 (CallsM.ren (hcon.err hx105) [0, 1] 5 rfl rfl rfl rfl)) ?_ | refine ex_callM (CallsM.moreL (CallsM.ren (hcon.err hx105) [0, 1] 5 rfl rfl rfl rfl)) ?_
                first | exact ⟨⟨_, rfl, rfl⟩, rfl, rfl⟩ | exact ⟨by kernel_rfl, ⟨_, rfl, rfl⟩, rfl, rfl⟩
              replace hT := (and_ok hx105).symm.trans hT
              first | refine ex_callM (CallsM.ren (hcon.ok hx105) [0, 1] 5 rfl rfl rfl rfl) ?_ | refine ex_callM (CallsM.more0 (CallsM.ren (hcon.ok hx105) [0, 1] 5 rfl rfl rfl rfl)) ?_ | refine ex_callM (CallsM.more1 (CallsM.ren (hcon.ok hx105) [0, 1] 5 rfl rfl rfl rfl)) ?_ | refine ex_callM (CallsM.moreL (CallsM.ren (hcon.ok hx105) [0, 1] 5 rfl rfl rfl rfl)) ?_
              clear hcon
              have hs2 := (Up.ok (Up.take hL t_colon 0) hs1 hx105).1
              obtain rfl := mv_take1 hx105
              replace hT := asc hT
              repeat' (first | refine ex_true (by first | decide | omega | assumption | (with_reducible exact rfl)) ?_ | refine ex_false (by first | decide | omega | assumption | exact (fun h => h rfl)) ?_ | refine ex_dec (fun _ => ?_) (fun _ => ?_) | refine ex_u8 _ rfl (by omega) (by omega) ?_ | refine ex_i64 _ rfl (by omega) (by omega) ?_ | refine ex_u64 _ rfl (by omega) (by omega) ?_ | refine and_mk (by first | omega | (with_reducible rfl) | (show drawOk _ _ _ = true; kernel_rfl)) ?_ | refine and_mk ⟨_, rfl⟩ ?_ | refine ex_is _ (List.length_map _) ?_ | refine ex_is _ List.length_nil ?_ | fail "no step")
              have hcon := num_c (m := m) ⟨i + 1 + 1, xs, ts⟩ hs2.i (by omega)
              rcases hx108 : (numberM L) ⟨i + 1 + 1, xs, ts⟩ with ⟨b, s9⟩ | ⟨i9, e9⟩
              rotate_left
              · obtain rfl := (and_err hx108).symm.trans hT
                first | refine ex_callM (CallsM.ren (hcon.err hx108) [0, 1] 5 rfl rfl rfl rfl) ?_ | refine ex_callM (CallsM.more0 (CallsM.ren (hcon.err hx108) [0, 1] 5 rfl rfl rfl rfl)) ?_ | refine ex_callM (CallsM.more1 (CallsM.ren (hcon.err hx108) [0, 1] 5 rfl rfl rfl rfl)) ?_ | refine ex_callM (CallsM.moreL (CallsM.ren (hcon.err hx108) [0, 1] 5 rfl rfl rfl rfl)) ?_
                first | exact ⟨⟨_, rfl, rfl⟩, rfl, rfl⟩ | exact ⟨by kernel_rfl, ⟨_, rfl, rfl⟩, rfl, rfl⟩
              replace hT := (and_ok hx108).symm.trans hT
              first | refine ex_callM (CallsM.ren (hcon.ok hx108) [0, 1] 5 rfl rfl rfl rfl) ?_ | refine ex_callM (CallsM.more0 (CallsM.ren (hcon.ok hx108) [0, 1] 5 rfl rfl rfl rfl)) ?_ | refine ex_callM (CallsM.more1 (CallsM.ren (hcon.ok hx108) [0, 1] 5 rfl rfl rfl rfl)) ?_ | refine ex_callM (CallsM.moreL (CallsM.ren (hcon.ok hx108) [0, 1] 5 rfl rfl rfl rfl)) ?_
              clear hcon
              have hs3 := (Up.ok (Up.number hL 0) hs2 hx108).1
              obtain rfl := mv_num1 hx108
              replace hT := asc hT
              repeat' (first | refine ex_true (by first | decide | omega | assumption | (with_reducible exact rfl)) ?_ | refine ex_false (by first | decide | omega | assumption | exact (fun h => h rfl)) ?_ | refine ex_dec (fun _ => ?_) (fun _ => ?_) | refine ex_u8 _ rfl (by omega) (by omega) ?_ | refine ex_i64 _ rfl (by omega) (by omega) ?_ | refine ex_u64 _ rfl (by omega) (by omega) ?_ | refine and_mk (by first | omega | (with_reducible rfl) | (show drawOk _ _ _ = true; kernel_rfl)) ?_ | refine and_mk ⟨_, rfl⟩ ?_ | refine ex_is _ (List.length_map _) ?_ | refine ex_is _ List.length_nil ?_ | fail "no step")
              have hcon := take_c (m := m) ⟨i + 1 + 1 + 1, xs, ts⟩ hs3.i (by omega) t_semi
              rcases hx111 : (takeM L t_semi) ⟨i + 1 + 1 + 1, xs, ts⟩ with ⟨_, s9⟩ | ⟨i9, e9⟩
              rotate_left
              · obtain rfl := (and_err hx111).symm.trans hT
                first | refine ex_callM (CallsM.ren (hcon.err hx111) [0, 1] 5 rfl rfl rfl rfl) ?_ | refine ex_callM (CallsM.more0 (CallsM.ren (hcon.err hx111) [0, 1] 5 rfl rfl rfl rfl)) ?_ | refine ex_callM (CallsM.more1 (CallsM.ren (hcon.err hx111) [0, 1] 5 rfl rfl rfl rfl)) ?_ | refine ex_callM (CallsM.moreL (CallsM.ren (hcon.err hx111) [0, 1] 5 rfl rfl rfl rfl)) ?_
                first | exact ⟨⟨_, rfl, rfl⟩, rfl, rfl⟩ | exact ⟨by kernel_rfl, ⟨_, rfl, rfl⟩, rfl, rfl⟩
              replace hT := (and_ok hx111).symm.trans hT
              first | refine ex_callM (CallsM.ren (hcon.ok hx111) [0, 1] 5 rfl rfl rfl rfl) ?_ | refine ex_callM (CallsM.more0 (CallsM.ren (hcon.ok hx111) [0, 1] 5 rfl rfl rfl rfl)) ?_ | refine ex_callM (CallsM.more1 (CallsM.ren (hcon.ok hx111) [0, 1] 5 rfl rfl rfl rfl)) ?_ | refine ex_callM (CallsM.moreL (CallsM.ren (hcon.ok hx111) [0, 1] 5 rfl rfl rfl rfl)) ?_
              clear hcon
              have hs4 := (Up.ok (Up.take hL t_semi 0) hs3 hx111).1
              obtain rfl := mv_take1 hx111
              have hi4 := hs4.lt
              have hmin : (if (1048576 : Int) < (b : Int) then 1048576 else (b : Int)) = ((min b 1048576 : Nat) : Int) := by split <;> omega
              repeat' (first | refine ex_i64 ((min b 1048576 : Nat) : Int) (by omega) (by omega) (by omega) ?_ | refine ex_u64 ((min b 1048576 : Nat) : Int) (by omega) (by omega) (by omega) ?_ | refine ex_u8 ((min b 1048576 : Nat) : Int) (by omega) (by omega) (by omega) ?_ | refine ex_is ((min b 1048576 : Nat) : Int) hmin ?_ | refine ex_true (by first | decide | omega | assumption | (with_reducible exact rfl)) ?_ | refine ex_false (by first | decide | omega | assumption | exact (fun h => h rfl)) ?_ | refine ex_dec (fun _ => ?_) (fun _ => ?_) | refine ex_u8 _ rfl (by omega) (by omega) ?_ | refine ex_i64 _ rfl (by omega) (by omega) ?_ | refine ex_u64 _ rfl (by omega) (by omega) ?_ | refine and_mk (by first | omega | (with_reducible rfl) | (show drawOk _ _ _ = true; kernel_rfl)) ?_ | refine and_mk ⟨_, rfl⟩ ?_ | refine ex_is _ (List.length_map _) ?_ | refine ex_is _ List.length_nil ?_ | fail "no step")
              refine ex_app (0) (1) 1000 (by first | rfl | (simp; done) | (simp; omega)) (by first | rfl | (simp; done) | (simp; omega)) rfl (by omega) ?_
              refine ex_is (List.map sbD ([] ++ [(⟨w, min b 1048576⟩ : SB)])) (by rw [List.map_append]; rfl) ?_
              repeat' (first | refine ex_true (by first | decide | omega | assumption | (with_reducible exact rfl)) ?_ | refine ex_false (by first | decide | omega | assumption | exact (fun h => h rfl)) ?_ | refine ex_dec (fun _ => ?_) (fun _ => ?_) | refine ex_u8 _ rfl (by omega) (by omega) ?_ | refine ex_i64 _ rfl (by omega) (by omega) ?_ | refine ex_u64 _ rfl (by omega) (by omega) ?_ | refine and_mk (by first | omega | (with_reducible rfl) | (show drawOk _ _ _ = true; kernel_rfl)) ?_ | refine and_mk ⟨_, rfl⟩ ?_ | refine ex_is _ (List.length_map _) ?_ | refine ex_is _ List.length_nil ?_ | fail "no step")
              exact ex_round (i + 1 + 1 + 1 + 1, [] ++ [(⟨w, min b 1048576⟩ : SB)], n) ⟨hs4.less (by omega), by omega, by simp <;> omega, by unfold headN; rw [if_neg (by simp)]; exact hT⟩ (by show L.length - (i + 1 + 1 + 1 + 1) < L.length - i; omega) (SLe.ren [(0, 0), (2, 2), (3, 3), (6, 4), (1, 1)] ⟨⟨rfl, rfl⟩, ⟨rfl, rfl⟩, ⟨rfl, rfl⟩, trivial⟩ ⟨⟨rfl, rfl⟩, ⟨rfl, rfl⟩, ⟨rfl, rfl⟩, ⟨rfl, rfl⟩, trivial⟩ rfl)
          · have hnv : namedV L i = true := hgo.resolve_left hl
            have hl0 : l.length ≠ 0 := fun e => hl (List.eq_nil_of_length_eq_zero e)
            rw [hnv] at hnm
            repeat' (first | refine ex_is l.length (by simp) ?_ | refine ex_true (by first | decide | omega | assumption | (with_reducible exact rfl)) ?_ | refine ex_false (by first | decide | omega | assumption | exact (fun h => h rfl)) ?_ | refine ex_dec (fun _ => ?_) (fun _ => ?_) | refine ex_u8 _ rfl (by omega) (by omega) ?_ | refine ex_i64 _ rfl (by omega) (by omega) ?_ | refine ex_u64 _ rfl (by omega) (by omega) ?_ | refine and_mk (by first | omega | (with_reducible rfl) | (show drawOk _ _ _ = true; kernel_rfl)) ?_ | refine and_mk ⟨_, rfl⟩ ?_ | refine ex_is _ (List.length_map _) ?_ | refine ex_is _ List.length_nil ?_ | fail "no step")
            first | refine ex_callM (CallsM.ren (hnm) [0, 1] 5 rfl rfl rfl rfl) ?_ | refine ex_callM (CallsM.more0 (CallsM.ren (hnm) [0, 1] 5 rfl rfl rfl rfl)) ?_ | refine ex_callM (CallsM.more1 (CallsM.ren (hnm) [0, 1] 5 rfl rfl rfl rfl)) ?_ | refine ex_callM (CallsM.moreL (CallsM.ren (hnm) [0, 1] 5 rfl rfl rfl rfl)) ?_
            repeat' (first | refine ex_true (by first | decide | omega | assumption | (with_reducible exact rfl)) ?_ | refine ex_false (by first | decide | omega | assumption | exact (fun h => h rfl)) ?_ | refine ex_dec (fun _ => ?_) (fun _ => ?_) | refine ex_u8 _ rfl (by omega) (by omega) ?_ | refine ex_i64 _ rfl (by omega) (by omega) ?_ | refine ex_u64 _ rfl (by omega) (by omega) ?_ | refine and_mk (by first | omega | (with_reducible rfl) | (show drawOk _ _ _ = true; kernel_rfl)) ?_ | refine and_mk ⟨_, rfl⟩ ?_ | refine ex_is _ (List.length_map _) ?_ | refine ex_is _ List.length_nil ?_ | fail "no step")
            replace hT := rmT hT hnv
            first | refine ex_callM (CallsM.ren (hnm) [0, 1] 5 rfl rfl rfl rfl) ?_ | refine ex_callM (CallsM.more0 (CallsM.ren (hnm) [0, 1] 5 rfl rfl rfl rfl)) ?_ | refine ex_callM (CallsM.more1 (CallsM.ren (hnm) [0, 1] 5 rfl rfl rfl rfl)) ?_ | refine ex_callM (CallsM.moreL (CallsM.ren (hnm) [0, 1] 5 rfl rfl rfl rfl)) ?_
            repeat' (first | refine ex_is l.length (by simp) ?_ | refine ex_true (by first | decide | omega | assumption | (with_reducible exact rfl)) ?_ | refine ex_false (by first | decide | omega | assumption | exact (fun h => h rfl)) ?_ | refine ex_dec (fun _ => ?_) (fun _ => ?_) | refine ex_u8 _ rfl (by omega) (by omega) ?_ | refine ex_i64 _ rfl (by omega) (by omega) ?_ | refine ex_u64 _ rfl (by omega) (by omega) ?_ | refine and_mk (by first | omega | (with_reducible rfl) | (show drawOk _ _ _ = true; kernel_rfl)) ?_ | refine and_mk ⟨_, rfl⟩ ?_ | refine ex_is _ (List.length_map _) ?_ | refine ex_is _ List.length_nil ?_ | fail "no step")
            have hcon := room_c (m := m) ⟨i, xs, ts⟩ hi l.length (by omega)
            rcases hr : (roomM l.length) ⟨i, xs, ts⟩ with ⟨_, s9⟩ | ⟨i9, e9⟩
            rotate_left
            · obtain rfl := (and_err hr).symm.trans hT
              first | refine ex_callM (CallsM.ren (hcon.err hr) [0, 1] 5 rfl rfl rfl rfl) ?_ | refine ex_callM (CallsM.more0 (CallsM.ren (hcon.err hr) [0, 1] 5 rfl rfl rfl rfl)) ?_ | refine ex_callM (CallsM.more1 (CallsM.ren (hcon.err hr) [0, 1] 5 rfl rfl rfl rfl)) ?_ | refine ex_callM (CallsM.moreL (CallsM.ren (hcon.err hr) [0, 1] 5 rfl rfl rfl rfl)) ?_
              first | exact ⟨⟨_, rfl, rfl⟩, rfl, rfl⟩ | exact ⟨by kernel_rfl, ⟨_, rfl, rfl⟩, rfl, rfl⟩
            replace hT := (and_ok hr).symm.trans hT
            first | refine ex_callM (CallsM.ren (hcon.ok hr) [0, 1] 5 rfl rfl rfl rfl) ?_ | refine ex_callM (CallsM.more0 (CallsM.ren (hcon.ok hr) [0, 1] 5 rfl rfl rfl rfl)) ?_ | refine ex_callM (CallsM.more1 (CallsM.ren (hcon.ok hr) [0, 1] 5 rfl rfl rfl rfl)) ?_ | refine ex_callM (CallsM.moreL (CallsM.ren (hcon.ok hr) [0, 1] 5 rfl rfl rfl rfl)) ?_
            clear hcon
            obtain rfl := mv_room1 hr
            replace hT := asc hT
            repeat' (first | refine ex_true (by first | decide | omega | assumption | (with_reducible exact rfl)) ?_ | refine ex_false (by first | decide | omega | assumption | exact (fun h => h rfl)) ?_ | refine ex_dec (fun _ => ?_) (fun _ => ?_) | refine ex_u8 _ rfl (by omega) (by omega) ?_ | refine ex_i64 _ rfl (by omega) (by omega) ?_ | refine ex_u64 _ rfl (by omega) (by omega) ?_ | refine and_mk (by first | omega | (with_reducible rfl) | (show drawOk _ _ _ = true; kernel_rfl)) ?_ | refine and_mk ⟨_, rfl⟩ ?_ | refine ex_is _ (List.length_map _) ?_ | refine ex_is _ List.length_nil ?_ | fail "no step")
            have hcon := name_c (m := m) ⟨i, xs, ts⟩ hs.i (by omega)
            rcases hx131 : (nameM L) ⟨i, xs, ts⟩ with ⟨w, s9⟩ | ⟨i9, e9⟩
            rotate_left
            · obtain rfl := (and_err hx131).symm.trans hT
              first | refine ex_callM (CallsM.ren (hcon.err hx131) [0, 1] 5 rfl rfl rfl rfl) ?_ | refine ex_callM (CallsM.more0 (CallsM.ren (hcon.err hx131) [0, 1] 5 rfl rfl rfl rfl)) ?_ | refine ex_callM (CallsM.more1 (CallsM.ren (hcon.err hx131) [0, 1] 5 rfl rfl rfl rfl)) ?_ | refine ex_callM (CallsM.moreL (CallsM.ren (hcon.err hx131) [0, 1] 5 rfl rfl rfl rfl)) ?_
              first | exact ⟨⟨_, rfl, rfl⟩, rfl, rfl⟩ | exact ⟨by kernel_rfl, ⟨_, rfl, rfl⟩, rfl, rfl⟩
            replace hT := (and_ok hx131).symm.trans hT
            first | refine ex_callM (CallsM.ren (hcon.ok hx131) [0, 1] 5 rfl rfl rfl rfl) ?_ | refine ex_callM (CallsM.more0 (CallsM.ren (hcon.ok hx131) [0, 1] 5 rfl rfl rfl rfl)) ?_ | refine ex_callM (CallsM.more1 (CallsM.ren (hcon.ok hx131) [0, 1] 5 rfl rfl rfl rfl)) ?_ | refine ex_callM (CallsM.moreL (CallsM.ren (hcon.ok hx131) [0, 1] 5 rfl rfl rfl rfl)) ?_
            clear hcon
            have hs1 := (Up.ok (Up.name hL 0) hs hx131).1
            obtain rfl := mv_name1 hx131
            replace hT := asc hT
            repeat' (first | refine ex_true (by first | decide | omega | assumption | (with_reducible exact rfl)) ?_ | refine ex_false (by first | decide | omega | assumption | exact (fun h => h rfl)) ?_ | refine ex_dec (fun _ => ?_) (fun _ => ?_) | refine ex_u8 _ rfl (by omega) (by omega) ?_ | refine ex_i64 _ rfl (by omega) (by omega) ?_ | refine ex_u64 _ rfl (by omega) (by omega) ?_ | refine and_mk (by first | omega | (with_reducible rfl) | (show drawOk _ _ _ = true; kernel_rfl)) ?_ | refine and_mk ⟨_, rfl⟩ ?_ | refine ex_is _ (List.length_map _) ?_ | refine ex_is _ List.length_nil ?_ | fail "no step")
            have hcon := take_c (m := m) ⟨i + 1, xs, ts⟩ hs1.i (by omega) t_colon
            rcases hx134 : (takeM L t_colon) ⟨i + 1, xs, ts⟩ with ⟨_, s9⟩ | ⟨i9, e9⟩
            rotate_left
            · obtain rfl := (and_err hx134).symm.trans hT
              first | refine ex_callM (CallsM.ren (hcon.err hx134) [0, 1] 5 rfl rfl rfl rfl) ?_ | refine ex_callM (CallsM.more0 (CallsM.ren (hcon.err hx134) [0, 1] 5 rfl rfl rfl rfl)) ?_ | refine ex_callM (CallsM.more1 (CallsM.ren (hcon.err hx134) [0, 1] 5 rfl rfl rfl rfl)) ?_ | refine ex_callM (CallsM.moreL (CallsM.ren (hcon.err hx134) [0, 1] 5 rfl rfl rfl rfl)) ?_
              first | exact ⟨⟨_, rfl, rfl⟩, rfl, rfl⟩ | exact ⟨by kernel_rfl, ⟨_, rfl, rfl⟩, rfl, rfl⟩
            replace hT := (and_ok hx134).symm.trans hT
            first | refine ex_callM (CallsM.ren (hcon.ok hx134) [0, 1] 5 rfl rfl rfl rfl) ?_ | refine ex_callM (CallsM.more0 (CallsM.ren (hcon.ok hx134) [0, 1] 5 rfl rfl rfl rfl)) ?_ | refine ex_callM (CallsM.more1 (CallsM.ren (hcon.ok hx134) [0, 1] 5 rfl rfl rfl rfl)) ?_ | refine ex_callM (CallsM.moreL (CallsM.ren (hcon.ok hx134) [0, 1] 5 rfl rfl rfl rfl)) ?_
            clear hcon
            have hs2 := (Up.ok (Up.take hL t_colon 0) hs1 hx134).1
            obtain rfl := mv_take1 hx134
            replace hT := asc hT
            repeat' (first | refine ex_true (by first | decide | omega | assumption | (with_reducible exact rfl)) ?_ | refine ex_false (by first | decide | omega | assumption | exact (fun h => h rfl)) ?_ | refine ex_dec (fun _ => ?_) (fun _ => ?_) | refine ex_u8 _ rfl (by omega) (by omega) ?_ | refine ex_i64 _ rfl (by omega) (by omega) ?_ | refine ex_u64 _ rfl (by omega) (by omega) ?_ | refine and_mk (by first | omega | (with_reducible rfl) | (show drawOk _ _ _ = true; kernel_rfl)) ?_ | refine and_mk ⟨_, rfl⟩ ?_ | refine ex_is _ (List.length_map _) ?_ | refine ex_is _ List.length_nil ?_ | fail "no step")
            have hcon := num_c (m := m) ⟨i + 1 + 1, xs, ts⟩ hs2.i (by omega)
            rcases hx137 : (numberM L) ⟨i + 1 + 1, xs, ts⟩ with ⟨b, s9⟩ | ⟨i9, e9⟩
            rotate_left
            · obtain rfl := (and_err hx137).symm.trans hT
              first | refine ex_callM (CallsM.ren (hcon.err hx137) [0, 1] 5 rfl rfl rfl rfl) ?_ | refine ex_callM (CallsM.more0 (CallsM.ren (hcon.err hx137) [0, 1] 5 rfl rfl rfl rfl)) ?_ | refine ex_callM (CallsM.more1 (CallsM.ren (hcon.err hx137) [0, 1] 5 rfl rfl rfl rfl)) ?_ | refine ex_callM (CallsM.moreL (CallsM.ren (hcon.err hx137) [0, 1] 5 rfl rfl rfl rfl)) ?_
              first | exact ⟨⟨_, rfl, rfl⟩, rfl, rfl⟩ | exact ⟨by kernel_rfl, ⟨_, rfl, rfl⟩, rfl, rfl⟩
            replace hT := (and_ok hx137).symm.trans hT
            first | refine ex_callM (CallsM.ren (hcon.ok hx137) [0, 1] 5 rfl rfl rfl rfl) ?_ | refine ex_callM (CallsM.more0 (CallsM.ren (hcon.ok hx137) [0, 1] 5 rfl rfl rfl rfl)) ?_ | refine ex_callM (CallsM.more1 (CallsM.ren (hcon.ok hx137) [0, 1] 5 rfl rfl rfl rfl)) ?_ | refine ex_callM (CallsM.moreL (CallsM.ren (hcon.ok hx137) [0, 1] 5 rfl rfl rfl rfl)) ?_
            clear hcon
            have hs3 := (Up.ok (Up.number hL 0) hs2 hx137).1
            obtain rfl := mv_num1 hx137
            replace hT := asc hT
            repeat' (first | refine ex_true (by first | decide | omega | assumption | (with_reducible exact rfl)) ?_ | refine ex_false (by first | decide | omega | assumption | exact (fun h => h rfl)) ?_ | refine ex_dec (fun _ => ?_) (fun _ => ?_) | refine ex_u8 _ rfl (by omega) (by omega) ?_ | refine ex_i64 _ rfl (by omega) (by omega) ?_ | refine ex_u64 _ rfl (by omega) (by omega) ?_ | refine and_mk (by first | omega | (with_reducible rfl) | (show drawOk _ _ _ = true; kernel_rfl)) ?_ | refine and_mk ⟨_, rfl⟩ ?_ | refine ex_is _ (List.length_map _) ?_ | refine ex_is _ List.length_nil ?_ | fail "no step")
            have hcon := take_c (m := m) ⟨i + 1 + 1 + 1, xs, ts⟩ hs3.i (by omega) t_semi
            rcases hx140 : (takeM L t_semi) ⟨i + 1 + 1 + 1, xs, ts⟩ with ⟨_, s9⟩ | ⟨i9, e9⟩
            rotate_left
            · obtain rfl := (and_err hx140).symm.trans hT
              first | refine ex_callM (CallsM.ren (hcon.err hx140) [0, 1] 5 rfl rfl rfl rfl) ?_ | refine ex_callM (CallsM.more0 (CallsM.ren (hcon.err hx140) [0, 1] 5 rfl rfl rfl rfl)) ?_ | refine ex_callM (CallsM.more1 (CallsM.ren (hcon.err hx140) [0, 1] 5 rfl rfl rfl rfl)) ?_ | refine ex_callM (CallsM.moreL (CallsM.ren (hcon.err hx140) [0, 1] 5 rfl rfl rfl rfl)) ?_
              first | exact ⟨⟨_, rfl, rfl⟩, rfl, rfl⟩ | exact ⟨by kernel_rfl, ⟨_, rfl, rfl⟩, rfl, rfl⟩
            replace hT := (and_ok hx140).symm.trans hT
            first | refine ex_callM (CallsM.ren (hcon.ok hx140) [0, 1] 5 rfl rfl rfl rfl) ?_ | refine ex_callM (CallsM.more0 (CallsM.ren (hcon.ok hx140) [0, 1] 5 rfl rfl rfl rfl)) ?_ | refine ex_callM (CallsM.more1 (CallsM.ren (hcon.ok hx140) [0, 1] 5 rfl rfl rfl rfl)) ?_ | refine ex_callM (CallsM.moreL (CallsM.ren (hcon.ok hx140) [0, 1] 5 rfl rfl rfl rfl)) ?_
            clear hcon
            have hs4 := (Up.ok (Up.take hL t_semi 0) hs3 hx140).1
            obtain rfl := mv_take1 hx140
            have hi4 := hs4.lt
            have hmin : (if (1048576 : Int) < (b : Int) then 1048576 else (b : Int)) = ((min b 1048576 : Nat) : Int) := by split <;> omega
            repeat' (first | refine ex_i64 ((min b 1048576 : Nat) : Int) (by omega) (by omega) (by omega) ?_ | refine ex_u64 ((min b 1048576 : Nat) : Int) (by omega) (by omega) (by omega) ?_ | refine ex_u8 ((min b 1048576 : Nat) : Int) (by omega) (by omega) (by omega) ?_ | refine ex_is ((min b 1048576 : Nat) : Int) hmin ?_ | refine ex_true (by first | decide | omega | assumption | (with_reducible exact rfl)) ?_ | refine ex_false (by first | decide | omega | assumption | exact (fun h => h rfl)) ?_ | refine ex_dec (fun _ => ?_) (fun _ => ?_) | refine ex_u8 _ rfl (by omega) (by omega) ?_ | refine ex_i64 _ rfl (by omega) (by omega) ?_ | refine ex_u64 _ rfl (by omega) (by omega) ?_ | refine and_mk (by first | omega | (with_reducible rfl) | (show drawOk _ _ _ = true; kernel_rfl)) ?_ | refine and_mk ⟨_, rfl⟩ ?_ | refine ex_is _ (List.length_map _) ?_ | refine ex_is _ List.length_nil ?_ | fail "no step")
            refine ex_app (l.length) (1) 1000 (by first | rfl | (simp; done) | (simp; omega)) (by first | rfl | (simp; done) | (simp; omega)) rfl (by omega) ?_
            refine ex_is (List.map sbD (l ++ [(⟨w, min b 1048576⟩ : SB)])) (by rw [List.map_append]; rfl) ?_
            repeat' (first | refine ex_true (by first | decide | omega | assumption | (with_reducible exact rfl)) ?_ | refine ex_false (by first | decide | omega | assumption | exact (fun h => h rfl)) ?_ | refine ex_dec (fun _ => ?_) (fun _ => ?_) | refine ex_u8 _ rfl (by omega) (by omega) ?_ | refine ex_i64 _ rfl (by omega) (by omega) ?_ | refine ex_u64 _ rfl (by omega) (by omega) ?_ | refine and_mk (by first | omega | (with_reducible rfl) | (show drawOk _ _ _ = true; kernel_rfl)) ?_ | refine and_mk ⟨_, rfl⟩ ?_ | refine ex_is _ (List.length_map _) ?_ | refine ex_is _ List.length_nil ?_ | fail "no step")
            exact ex_round (i + 1 + 1 + 1 + 1, l ++ [(⟨w, min b 1048576⟩ : SB)], n) ⟨hs4.less (by omega), by omega, by simp <;> omega, by unfold headN; rw [if_neg (by simp)]; exact hT⟩ (by show L.length - (i + 1 + 1 + 1 + 1) < L.length - i; omega) (SLe.ren [(0, 0), (2, 2), (3, 3), (6, 4), (1, 1)] ⟨⟨rfl, rfl⟩, ⟨rfl, rfl⟩, ⟨rfl, rfl⟩, trivial⟩ ⟨⟨rfl, rfl⟩, ⟨rfl, rfl⟩, ⟨rfl, rfl⟩, ⟨rfl, rfl⟩, trivial⟩ rfl)
        · have hl : l ≠ [] := fun e => hgo (.inl e)
          have hnv : namedV L i = false := by simpa using fun e => hgo (.inr e)
          rw [hnv] at hnm
          unfold headN at hT
          rw [if_neg hl] at hT
          replace hT := pureT (atnB hT hnv)
          have hl0 : l.length ≠ 0 := fun e => hl (List.eq_nil_of_length_eq_zero e)
          repeat' (first | refine ex_is l.length (by simp) ?_ | refine ex_true (by first | decide | omega | assumption | (with_reducible exact rfl)) ?_ | refine ex_false (by first | decide | omega | assumption | exact (fun h => h rfl)) ?_ | refine ex_dec (fun _ => ?_) (fun _ => ?_) | refine ex_u8 _ rfl (by omega) (by omega) ?_ | refine ex_i64 _ rfl (by omega) (by omega) ?_ | refine ex_u64 _ rfl (by omega) (by omega) ?_ | refine and_mk (by first | omega | (with_reducible rfl) | (show drawOk _ _ _ = true; kernel_rfl)) ?_ | refine and_mk ⟨_, rfl⟩ ?_ | refine ex_is _ (List.length_map _) ?_ | refine ex_is _ List.length_nil ?_ | fail "no step")
          first | refine ex_callM (CallsM.ren (hnm) [0, 1] 5 rfl rfl rfl rfl) ?_ | refine ex_callM (CallsM.more0 (CallsM.ren (hnm) [0, 1] 5 rfl rfl rfl rfl)) ?_ | refine ex_callM (CallsM.more1 (CallsM.ren (hnm) [0, 1] 5 rfl rfl rfl rfl)) ?_ | refine ex_callM (CallsM.moreL (CallsM.ren (hnm) [0, 1] 5 rfl rfl rfl rfl)) ?_
          repeat' (first | refine ex_true (by first | decide | omega | assumption | (with_reducible exact rfl)) ?_ | refine ex_false (by first | decide | omega | assumption | exact (fun h => h rfl)) ?_ | refine ex_dec (fun _ => ?_) (fun _ => ?_) | refine ex_u8 _ rfl (by omega) (by omega) ?_ | refine ex_i64 _ rfl (by omega) (by omega) ?_ | refine ex_u64 _ rfl (by omega) (by omega) ?_ | refine and_mk (by first | omega | (with_reducible rfl) | (show drawOk _ _ _ = true; kernel_rfl)) ?_ | refine and_mk ⟨_, rfl⟩ ?_ | refine ex_is _ (List.length_map _) ?_ | refine ex_is _ List.length_nil ?_ | fail "no step")
          have hcon := take_c (m := m) ⟨i, xs, ts⟩ hs.i (by omega) t_rcur
          rcases hx158 : (takeM L t_rcur) ⟨i, xs, ts⟩ with ⟨_, s9⟩ | ⟨i9, e9⟩
          rotate_left
          · obtain rfl := (and_err hx158).symm.trans hT
            first | refine ex_callM (CallsM.ren (hcon.err hx158) [0, 1] 5 rfl rfl rfl rfl) ?_ | refine ex_callM (CallsM.more0 (CallsM.ren (hcon.err hx158) [0, 1] 5 rfl rfl rfl rfl)) ?_ | refine ex_callM (CallsM.more1 (CallsM.ren (hcon.err hx158) [0, 1] 5 rfl rfl rfl rfl)) ?_ | refine ex_callM (CallsM.moreL (CallsM.ren (hcon.err hx158) [0, 1] 5 rfl rfl rfl rfl)) ?_
            first | exact ⟨⟨_, rfl, rfl⟩, rfl, rfl⟩ | exact ⟨by kernel_rfl, ⟨_, rfl, rfl⟩, rfl, rfl⟩
          replace hT := (and_ok hx158).symm.trans hT
          first | refine ex_callM (CallsM.ren (hcon.ok hx158) [0, 1] 5 rfl rfl rfl rfl) ?_ | refine ex_callM (CallsM.more0 (CallsM.ren (hcon.ok hx158) [0, 1] 5 rfl rfl rfl rfl)) ?_ | refine ex_callM (CallsM.more1 (CallsM.ren (hcon.ok hx158) [0, 1] 5 rfl rfl rfl rfl)) ?_ | refine ex_callM (CallsM.moreL (CallsM.ren (hcon.ok hx158) [0, 1] 5 rfl rfl rfl rfl)) ?_
          clear hcon
          have hs1 := (Up.ok (Up.take hL t_rcur 0) hs hx158).1
          obtain rfl := mv_take1 hx158
          obtain rfl : PR.ok (⟨[], -1, 0, [], [], -1, z, lt, l⟩ : IT) ⟨i + 1, xs, ts⟩ = T := hT
          repeat' (first | refine ex_true (by first | decide | omega | assumption | (with_reducible exact rfl)) ?_ | refine ex_false (by first | decide | omega | assumption | exact (fun h => h rfl)) ?_ | refine ex_dec (fun _ => ?_) (fun _ => ?_) | refine ex_u8 _ rfl (by omega) (by omega) ?_ | refine ex_i64 _ rfl (by omega) (by omega) ?_ | refine ex_u64 _ rfl (by omega) (by omega) ?_ | refine and_mk (by first | omega | (with_reducible rfl) | (show drawOk _ _ _ = true; kernel_rfl)) ?_ | refine and_mk ⟨_, rfl⟩ ?_ | refine ex_is _ (List.length_map _) ?_ | refine ex_is _ List.length_nil ?_ | fail "no step")
          exact ⟨rfl, TLe.rfl, rfl, rfl⟩
    · rw [if_neg hk] at hT
      obtain rfl : PR.err (i + 1) 4 = T := hT
      repeat' (first | refine ex_call hq ?_ | refine ex_true (by first | decide | omega | assumption | (with_reducible exact rfl)) ?_ | refine ex_false (by first | decide | omega | assumption | exact (fun h => h rfl)) ?_ | refine ex_dec (fun _ => ?_) (fun _ => ?_) | refine ex_u8 _ rfl (by omega) (by omega) ?_ | refine ex_i64 _ rfl (by omega) (by omega) ?_ | refine ex_u64 _ rfl (by omega) (by omega) ?_ | refine and_mk (by first | omega | (with_reducible rfl) | (show drawOk _ _ _ = true; kernel_rfl)) ?_ | refine and_mk ⟨_, rfl⟩ ?_ | refine ex_is _ (List.length_map _) ?_ | refine ex_is _ List.length_nil ?_ | fail "no step")
      first | refine ex_callM (CallsM.ren (ha) [0, 1] 4 rfl rfl rfl rfl) ?_ | refine ex_callM (CallsM.more0 (CallsM.ren (ha) [0, 1] 4 rfl rfl rfl rfl)) ?_ | refine ex_callM (CallsM.more1 (CallsM.ren (ha) [0, 1] 4 rfl rfl rfl rfl)) ?_ | refine ex_callM (CallsM.moreL (CallsM.ren (ha) [0, 1] 4 rfl rfl rfl rfl)) ?_
      repeat' (first | refine ex_true (by first | decide | omega | assumption | (with_reducible exact rfl)) ?_ | refine ex_false (by first | decide | omega | assumption | exact (fun h => h rfl)) ?_ | refine ex_dec (fun _ => ?_) (fun _ => ?_) | refine ex_u8 _ rfl (by omega) (by omega) ?_ | refine ex_i64 _ rfl (by omega) (by omega) ?_ | refine ex_u64 _ rfl (by omega) (by omega) ?_ | refine and_mk (by first | omega | (with_reducible rfl) | (show drawOk _ _ _ = true; kernel_rfl)) ?_ | refine and_mk ⟨_, rfl⟩ ?_ | refine ex_is _ (List.length_map _) ?_ | refine ex_is _ List.length_nil ?_ | fail "no step")
      first | refine ex_callM (CallsM.ren ((fail_c (m := m) (i + 1) 4 hs1.lt)) [0, 1] 4 rfl rfl rfl rfl) ?_ | refine ex_callM (CallsM.more0 (CallsM.ren ((fail_c (m := m) (i + 1) 4 hs1.lt)) [0, 1] 4 rfl rfl rfl rfl)) ?_ | refine ex_callM (CallsM.more1 (CallsM.ren ((fail_c (m := m) (i + 1) 4 hs1.lt)) [0, 1] 4 rfl rfl rfl rfl)) ?_ | refine ex_callM (CallsM.moreL (CallsM.ren ((fail_c (m := m) (i + 1) 4 hs1.lt)) [0, 1] 4 rfl rfl rfl rfl)) ?_
      exact ⟨⟨_, rfl, rfl⟩, rfl, rfl⟩
end
end Go.Proofs.YtkbhmcdoedmffaaDoor
