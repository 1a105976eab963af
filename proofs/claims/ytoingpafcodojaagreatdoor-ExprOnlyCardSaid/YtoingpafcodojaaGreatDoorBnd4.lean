/- Texts that the last one leans on: Env.With: one name more. Condition: at most a million names. The document's Get; the law's environments; Consts. Condition: at most a million names. A function whose one deferred closure recovers. No condition. A function with one deferred closure that recovers and an early end, whose results may be pointers to still cells; an object that is written no more. No condition. Words: Word, Integer, Keyword, Level. Condition: none. The parser's small functions over its tokens. Conditions: the place within the tokens. The parser's expressions. Conditions: the tokens end with the end; at most 100000 of them. The parser's lines of operators; its expressions. Conditions: the tokens end with the end; at most 100000 of them. The parser's types: brackets, arrays, references. Conditions: the tokens end with the end; at most 100000 of them. The parser's references. Conditions: the tokens end with the end; at most 100000 of them. The parser's switches. Conditions: the tokens end with the end; at most 100000 of them. The parser's types. Conditions: the tokens end with the end; at most 100000 of them. The parser's types that begin with a word. Conditions: the tokens end with the end; at most 100000 of them. The parser's items: how a field is derived; fields. Conditions: the tokens end with the end; at most 100000 of them. The parser's fields and packs; consts. Conditions: the tokens end with the end; at most 100000 of them. Plain law of the parser: the place n -/
import Derived.Lib.Walk
import Derived.Lib.SliceRun
import Derived.Deep.LoopGhost
import Derived.Defers
import Derived.Recover
import Derived.Test.YtoingpafcodojaaGreatDoorBnd1
import Derived.Test.YtoingpafcodojaaGreatDoorBnd2
import Derived.Test.YtoingpafcodojaaGreatDoorBnd3
set_option linter.unusedVariables false
set_option linter.unusedSimpArgs false
set_option maxRecDepth 100000
namespace Go.Proofs.YtoingpafcodojaaGreatDoor
open Go.RowKit Go.Shelf

def cellsE (e : EV) : List Value := (e.map fun p => [Value.string (bs p.1), Value.int .u64 (p.2 : Int)]).flatten
theorem rowsE_len (e : EV) : ∀ r ∈ e.map (fun p => [Value.string (bs p.1), Value.int .u64 (p.2 : Int)]), r.length = 2 := fun r hr => by
  obtain ⟨p, _, rfl⟩ := List.mem_map.1 hr
  rfl
theorem cellsE_len (e : EV) : (cellsE e).length = e.length * 2 := by
  unfold cellsE
  rw [flatten_len (rowsE_len e), List.length_map]
theorem cellsE_one (e : EV) : ∀ u ∈ cellsE e, u.oneCell' = true := fun u hu => by
  obtain ⟨r, hr, hu⟩ := List.mem_flatten.1 hu
  obtain ⟨p, _, rfl⟩ := List.mem_map.1 hr
  simp only [List.mem_cons, List.not_mem_nil, or_false] at hu
  rcases hu with rfl | rfl <;> rfl
theorem cellsE_cell {w : World} {b off : Nat} {e : EV} (hc : ∀ j, j < e.length → w.cell? ⟨b, off + j * 2, none⟩ = some (.string (bs (e[j]?.getD ([], 0)).1)) ∧ w.cell? ⟨b, off + j * 2 + 1, none⟩ = some (.int .u64 (e[j]?.getD ([], 0)).2))
    (j : Nat) (u : Value) (hj : (cellsE e)[j]? = some u) : w.cell? ⟨b, off + j, none⟩ = some u := by
  have hl : j < e.length * 2 := by rw [← cellsE_len]; exact (List.getElem?_eq_some_iff.1 hj).1
  obtain ⟨q, r, hq, hr, rfl⟩ : ∃ q r, q < e.length ∧ r < 2 ∧ j = q * 2 + r := ⟨j / 2, j % 2, by omega, by omega, by omega⟩
  have hrow : (e.map fun p => [Value.string (bs p.1), Value.int .u64 (p.2 : Int)])[q]? = some [Value.string (bs e[q].1), Value.int .u64 (e[q].2 : Int)] := by rw [List.getElem?_map, List.getElem?_eq_getElem hq]; rfl
  obtain ⟨h1, h2⟩ := hc q hq
  rw [List.getElem?_eq_getElem hq] at h1 h2
  rcases (by omega : r = 0 ∨ r = 1) with rfl | rfl
  · have := flatten_get (rowsE_len e) hrow (j := 0) (d := Value.string (bs e[q].1)) rfl
    have e1 : u = Value.string (bs e[q].1) := Option.some.inj (hj.symm.trans this)
    rw [e1]
    exact h1
  · have := flatten_get (rowsE_len e) hrow (j := 1) (d := Value.int .u64 (e[q].2 : Int)) rfl
    have e1 : u = Value.int .u64 (e[q].2 : Int) := Option.some.inj (hj.symm.trans this)
    rw [e1]
    exact h2
theorem eql_nil (w : World) (a : Option Addr) (n c n' c' : Nat) : (binOp .eql 46 (.slice a n c) (.slice none n' c')).run Tryz.prog w = .ok (.bool a.isNone) w := Lib.run_eql_slice_nil w _ _ a n c n' c' Tryz.underlying46
theorem info_var : (Tryz.prog.info? 69).map (fun i => (i.zero, i.size, i.bytes)) = some (some (.agg #[.string ByteArray.empty, .int .u64 0]), 2, 24) := by kernel_rfl
set_option maxHeartbeats 2000000 in
theorem clone_some (b off cap : Nat) (e : EV) (w : World) (hreach : e.length * 24 ≤ 140737488351232)
    (hc : ∀ j, j < e.length → w.cell? ⟨b, off + j * 2, none⟩ = some (.string (bs (e[j]?.getD ([], 0)).1)) ∧ w.cell? ⟨b, off + j * 2 + 1, none⟩ = some (.int .u64 (e[j]?.getD ([], 0)).2)) :
    Calls Tryz.prog 33 #[.slice (some ⟨b, off, none⟩) e.length cap] w fun r w' => ∃ v', r = .returned v' ∧ w'.ownsRow w.heap.size 69 2 v' e.length (cellsE e) ∧ Below w.heap.size w w' := by
  obtain ⟨i0, hi, hz0, hz1, hz2⟩ := info_parts info_var
  have q46 := fun w a n c n' c' => eql_nil w a n c n' c'
  have A : Aside (∀ j u, (cellsE e)[j]? = some u → w.cell? ⟨b, off + j, none⟩ = some u) := fun j u hj => cellsE_cell hc j u hj
  clear hc
  go_enter Tryz.func33, Tryz.ntmps33
  go_wp2_with (at_builtin; refine wpList_append_own _ rfl _ _ 46 rfl w.heap.size 69 i0 (.agg #[.string ByteArray.empty, .int .u64 0]) 2 24 Tryz.underlying46 hi hz0 hz1 hz2 rfl (by decide) _ _ _ rfl (World.ownsRow_made w #[] 0 (Nat.le_refl _) (Nat.zero_le _) rfl) ⟨b, off, none⟩ e.length cap (cellsE e) rfl ?qc1 ?qc2 ?qc3 ?qc4 ?qc5 ?qc6 ?_)
  case qc1 => exact cellsE_len e
  case qc2 =>
    intro j u hj
    rw [Addr.add_lit]
    exact Lib.cell?_alloc_some _ (A.out j u hj)
  case qc3 => exact cellsE_one e
  case qc4 => unfold maxLen; omega
  case qc5 => omega
  case qc6 => simp
  intro v' w1 hown hgrow hnil
  go_wp2
  go_ret
  refine ⟨v', rfl, by simpa using hown, ?_⟩
  exact ((Below.refl _ w).alloc (Nat.le_refl _) _).grown hgrow (by simp) (by intro k hk; simp [Value.ownBlock] at hk; omega)
set_option maxHeartbeats 2000000 in
theorem clone_zero (a : Addr) (cap : Nat) (w : World) : Calls Tryz.prog 33 #[.slice (some a) 0 cap] w fun r w' => ∃ v', r = .returned v' ∧ w'.ownsRow w.heap.size 69 2 v' 0 [] ∧ Below w.heap.size w w' := by
  obtain ⟨i0, hi, hz0, hz1, hz2⟩ := info_parts info_var
  have q46 := fun w a n c n' c' => eql_nil w a n c n' c'
  go_enter Tryz.func33, Tryz.ntmps33
  go_wp2_with (at_builtin; refine wpList_append_own _ rfl _ _ 46 rfl w.heap.size 69 i0 (.agg #[.string ByteArray.empty, .int .u64 0]) 2 24 Tryz.underlying46 hi hz0 hz1 hz2 rfl (by decide) _ _ _ rfl (World.ownsRow_made w #[] 0 (Nat.le_refl _) (Nat.zero_le _) rfl) a 0 cap [] rfl rfl (by intro j u hj; simp at hj) (by intro u hu; cases hu) (by unfold maxLen; omega) (by omega) (by simp) ?_)
  intro v' w1 hown hgrow hnil
  go_wp2
  go_ret
  refine ⟨v', rfl, by simpa using hown, ?_⟩
  exact ((Below.refl _ w).alloc (Nat.le_refl _) _).grown hgrow (by simp) (by intro k hk; simp [Value.ownBlock] at hk; omega)
theorem clone_nil (n cap : Nat) (w : World) : Calls Tryz.prog 33 #[.slice none n cap] w fun r w' => ∃ v', r = .returned v' ∧ w'.ownsRow w.heap.size 69 2 v' 0 [] ∧ Below w.heap.size w w' := by
  have q46 := fun w a n c n' c' => eql_nil w a n c n' c'
  go_enter Tryz.func33, Tryz.ntmps33
  go_wp2
  go_ret
  exact ⟨_, rfl, World.ownsRow_nil _ _ _ _, Below.refl _ _⟩
theorem clone_in (a : Option Addr) (cap : Nat) (e : EV) (w : World) (hreach : e.length * 24 ≤ 140737488351232) (hI : Vars w.heap.size w a e) :
    Calls Tryz.prog 33 #[.slice a e.length cap] w fun r w' => ∃ v', r = .returned v' ∧ w'.ownsRow w.heap.size 69 2 v' e.length (cellsE e) ∧ Below w.heap.size w w' := by
  rcases hI with rfl | ⟨b, off, rfl, hb, hc⟩
  · cases a with
    | none => exact clone_nil 0 cap w
    | some a => exact clone_zero a cap w
  · exact clone_some b off cap e w hreach hc
theorem cellsE_snoc (e : EV) (p : BV) : cellsE (e ++ [p]) = cellsE e ++ [Value.string (bs p.1), Value.int .u64 (p.2 : Int)] := by
  unfold cellsE
  rw [List.map_append, List.flatten_append]
  rfl
set_option maxHeartbeats 2000000 in
theorem with_in (a : Option Addr) (cap : Nat) (e : EV) (nm : List UInt8) (n : Nat) (w : World) (hl : e.length ≤ 1000000) (hI : Vars w.heap.size w a e) :
    Calls Tryz.prog 15 #[.slice a e.length cap, .string (bs nm), .int .u64 (n : Int)] w fun r w' => ∃ v', r = .returned v' ∧ w'.ownsRow w.heap.size 69 2 v' (e.length + 1) (cellsE (e ++ [(nm, n)])) ∧ Below w.heap.size w w' := by
  obtain ⟨i0, hi, hz0, hz1, hz2⟩ := info_parts info_var
  go_enter Tryz.func15, Tryz.ntmps15
  go_wp2_with (first | (go_at_call 33; refine (clone_in a cap e w (by omega) hI).mono ?_; rintro r w1 ⟨v', rfl, hown, hB⟩) | (at_builtin; refine wpList_append_own _ rfl _ _ 46 rfl w.heap.size 69 i0 (.agg #[.string ByteArray.empty, .int .u64 0]) 2 24 Tryz.underlying46 hi hz0 hz1 hz2 rfl (by decide) v' e.length (cellsE e) rfl (hown.alloc _) ⟨w1.heap.size, 0, none⟩ 1 1 [.string (bs nm), .int .u64 (n : Int)] rfl rfl ?qd2 ?qd3 ?qd4 ?qd5 ?qd6 ?_))
  case qd2 =>
    intro j u hj
    rw [Addr.add_lit]
    match j, hj with
    | 0, hj => cases hj; unfold World.cell?; rw [World.alloc_heap_new]; rfl
    | 1, hj => cases hj; unfold World.cell?; rw [World.alloc_heap_new]; rfl
  case qd3 => intro u hu; simp only [List.mem_cons, List.not_mem_nil, or_false] at hu; rcases hu with rfl | rfl <;> rfl
  case qd4 => unfold maxLen; omega
  case qd5 => omega
  case qd6 => have := hB.size; simp; omega
  intro v2 w2 hown2 hgrow2 hnil2
  go_wp2
  go_ret
  refine ⟨v2, rfl, by rw [cellsE_snoc]; exact hown2, ?_⟩
  exact (hB.alloc hB.size _).grown hgrow2 (by have := hB.size; simp; omega) (fun k hk => (hown.lt k hk).1)
theorem imms_of {S : Nat → Prop} {w : World} (e : EV) : All2 (Imm S w) (e.map evD).flatten (cellsE e) := by
  unfold cellsE
  induction e with
  | nil => exact .nil
  | cons p e ih => exact .cons (Imm.v rfl) (.cons (Imm.v rfl) ih)
end Go.Proofs.YtoingpafcodojaaGreatDoor

namespace Go.Proofs.YtoingpafcodojaaGreatDoor
open Go.RowKit

set_option maxHeartbeats 2000000 in
theorem envs_c (l : EV) (hl : l.length ≤ 9223372036854775807) : CallsA Tryz.prog Γ0 10 [c1 (.sl 2 (l.map evD))] (.tup [c1 (.sl 2 ((l.take 20).map evD)), c1 (.sl 2 ((l.take 20).map evD))]) := by
  have hm : (l.map evD).length = l.length := List.length_map _
  have hF : ((l.map evD).take (((min 20 l.length : Nat) : Int)).toNat).drop ((0 : Int)).toNat = (l.take 20).map evD := by
    rw [Int.toNat_natCast, show (0 : Int).toNat = 0 from rfl, List.drop_zero, ← List.map_take, ← List.take_eq_take_min]
  have hFl : (l.take 20).length ≤ 20 := by rw [List.length_take]; omega
  have hFm : ((l.take 20).map evD).length = (l.take 20).length := List.length_map _
  refine fn_rule (C := ⟨Tryz.prog, layF, Tryz.f10.ntmps, Γ0, 0, [], []⟩) layF_ok mixed Tryz.func10 rfl (by kernel_rfl) rfl rfl rfl ?_
  repeat' (first | refine (ex_is _ hm) ?_ | refine tT ?_ | refine tF ?_ | refine ex_dec (fun _ => ?_) (fun _ => ?_) | refine t8 ?_ | refine tI ?_ | refine tU ?_ | refine tA ?_ | refine tB ?_ | refine tL ?_ | refine tN ?_ | fail "no step")
  refine ex_is ((min 20 l.length : Nat) : Int) (by split <;> omega) ?_
  repeat' (first | refine tT ?_ | refine tF ?_ | refine ex_dec (fun _ => ?_) (fun _ => ?_) | refine t8 ?_ | refine tI ?_ | refine tU ?_ | refine tA ?_ | refine tB ?_ | refine tL ?_ | refine tN ?_ | fail "no step")
  refine ex_is _ hF ?_
  generalize l.take 20 = F at *
  repeat' (first | refine (ex_is _ hFm) ?_ | refine tT ?_ | refine tF ?_ | refine ex_dec (fun _ => ?_) (fun _ => ?_) | refine t8 ?_ | refine tI ?_ | refine tU ?_ | refine tA ?_ | refine tB ?_ | refine tL ?_ | refine tN ?_ | fail "no step")
  refine ex_loop (X := Nat × EV) (fun ⟨q, A⟩ => ⟨[(4, .o (.c (.row 0))), (5, .o (.c (.row 1))), (12, .o (c1 (.sl 2 (F.map evD)))), (13, Ti F.length), (14, Ti q)], [(0, .row 2 69 (A.map evD)), (1, .row 2 113 (A.map evD))], 2⟩) (fun x => F.length - x.1) (fun ⟨q, A⟩ => q ≤ F.length ∧ A = F.take q) (0, []) ⟨Nat.zero_le _, rfl⟩ (SLe.trans (SLe.of ⟨⟨rfl, rfl, rfl, rfl, rfl, trivial⟩, ⟨rfl, rfl, trivial⟩⟩) (SLe.trans (SLe.own 5 1 2 113 rfl rfl rfl rfl rfl) (SLe.own 4 0 2 69 rfl rfl rfl rfl rfl))) ?_
  rintro ⟨q, A⟩ ⟨hq, hA⟩
  refine ex_dec (fun h => ?_) (fun h => ?_)
  · have hql : q < F.length := by omega
    have hc : F[q]? = some F[q] := at_some hql
    have htk : F.take (q + 1) = F.take q ++ [F[q]] := by rw [List.take_add_one, hc]; rfl
    have htl : A.length = q := by rw [hA, List.length_take]; omega
    have hap : A.map evD ++ [evD F[q]] = (F.take (q + 1)).map evD := by rw [htk, List.map_append, hA]; rfl
    generalize F[q] = f at *
    repeat' (first | refine (ex_row q f rfl hc) ?_ | refine tT ?_ | refine tF ?_ | refine ex_dec (fun _ => ?_) (fun _ => ?_) | refine t8 ?_ | refine tI ?_ | refine tU ?_ | refine tA ?_ | refine tB ?_ | refine tL ?_ | refine tN ?_ | fail "no step")
    refine ex_app (q) (1) 1000 (by first | rfl | (simp; done) | (simp; omega)) (by first | rfl | (simp; done) | (simp; omega)) rfl (by omega) ?_
    refine ex_is _ hap ?_
    repeat' (first | refine tT ?_ | refine tF ?_ | refine ex_dec (fun _ => ?_) (fun _ => ?_) | refine t8 ?_ | refine tI ?_ | refine tU ?_ | refine tA ?_ | refine tB ?_ | refine tL ?_ | refine tN ?_ | fail "no step")
    refine ex_app (q) (1) 1000 (by first | rfl | (simp; done) | (simp; omega)) (by first | rfl | (simp; done) | (simp; omega)) rfl (by omega) ?_
    refine ex_is _ hap ?_
    repeat' (first | refine ex_i64 ((q + 1 : Nat) : Int) (by omega) (by omega) (by omega) ?_ | refine ex_u64 ((q + 1 : Nat) : Int) (by omega) (by omega) (by omega) ?_ | refine ex_u8 ((q + 1 : Nat) : Int) (by omega) (by omega) (by omega) ?_ | refine tT ?_ | refine tF ?_ | refine ex_dec (fun _ => ?_) (fun _ => ?_) | refine t8 ?_ | refine tI ?_ | refine tU ?_ | refine tA ?_ | refine tB ?_ | refine tL ?_ | refine tN ?_ | fail "no step")
    exact ex_round (q + 1, F.take (q + 1)) ⟨by omega, rfl⟩ (by show _ - _ < _ - _; omega) (SLe.ren [(4, 0), (6, 1)] ⟨⟨rfl, rfl⟩, ⟨rfl, rfl⟩, ⟨rfl, rfl⟩, ⟨rfl, rfl⟩, ⟨rfl, rfl⟩, trivial⟩ ⟨⟨rfl, rfl⟩, ⟨rfl, rfl⟩, trivial⟩ rfl)
  · obtain rfl : q = F.length := by omega
    rw [List.take_length] at hA
    subst hA
    repeat' (first | refine tT ?_ | refine tF ?_ | refine ex_dec (fun _ => ?_) (fun _ => ?_) | refine t8 ?_ | refine tI ?_ | refine tU ?_ | refine tA ?_ | refine tB ?_ | refine tL ?_ | refine tN ?_ | fail "no step")
    exact TLe.rfl
end Go.Proofs.YtoingpafcodojaaGreatDoor

namespace Go.Proofs.YtoingpafcodojaaGreatDoor
open Go.RowKit

theorem code_after {C : Ctx} {c : Code} (hL : LOk C.P C.L) (hm : C.P.follows .mixedOrders = true) {tm : List (Nat × TV)} {m : List (Nat × Blk)} (hml : (m.all fun p => Nat.blt p.1 C.nx0) = true) {upd : List (Nat × Blk)} {new : List Blk}
    (h : vc C c ⟨tm, m, C.nx0⟩ fun e st => match e with
      | .normal => retOkP (m.map (·.1)) C.nx0 upd new st
      | _ => False)
    {ι : Nat → Value} {S : Nat → Prop} {w : World} {a : Act} (hS : ∀ b, S b → b < w.heap.size) (hG : C.Γ.G S w) (hblk : ∀ p ∈ m, BlkOk ι S w p.1 p.2)
    (hdst : ∀ p ∈ m, ∀ q ∈ m, ∀ g, p.2.live = true → q.2.live = true → blkOf (ι p.1) = some g → blkOf (ι q.1) = some g → p.1 = q.1) (htm : ∀ t tv, findL tm t = some tv → V ι S w tv (a.tmps.getD t undef)) (hsz : a.tmps.size = C.n) (hdn : a.defers = []) :
    c.wp C.P (fun e a' w' => e = .normal ∧ a'.defers = [] ∧ ∃ ι' S', After ι S w C.nx0 ⟨.und, m.map (·.1), upd, new⟩ undef ι' S' w') a w := by
  have hmlt : ∀ p ∈ m, p.1 < C.nx0 := fun p hp => Nat.lt_of_succ_le (Nat.le_of_ble_eq_true (List.all_eq_true.1 hml p hp))
  have hR : RS ⟨w, fun g => ∃ p ∈ m, p.2.live = true ∧ blkOf (ι p.1) = some g, S, C.n, C.Γ, ι, C.nx0, []⟩ ⟨tm, m, C.nx0⟩ a w :=
    ⟨ι, S, rfl, rfl, rfl, Nat.le_refl _, fun _ _ _ => rfl, hS, fun _ h => h, fun _ h => .inl h, htm, fun k b hk => hblk _ (findL_mem hk), fun k b hk hl g hg => .inl ⟨(k, b), findL_mem hk, hl, hg⟩, fun k k' b b' g hk hk' hl hl' hg hg' => hdst _ (findL_mem hk) _ (findL_mem hk') g hl hl' hg hg', hdn, hsz, hG, fun _ _ => rfl⟩
  refine Code.wp_mono (fun e a' w' hq => ?_) (vc_ok hL ⟨rfl, rfl, rfl⟩ hm c _ _ _ w h hR)
  obtain ⟨st, ⟨ι1, S1, I⟩, hq⟩ := hq
  cases e with
  | normal =>
    have hq : retOkP (m.map (·.1)) C.nx0 upd new st := hq
    unfold retOkP at hq
    split at hq
    · rename_i u n src hex
      obtain ⟨hchk, hu, hnw⟩ := hq
      obtain ⟨ι', S', A⟩ := core_after (C := C) hmlt ι1 S1 .und undef [] u n src I hex hchk hu hnw (by simp) (fun _ => rfl)
      exact ⟨rfl, I.dn, ι', S', A⟩
    · exact hq.elim
  | _ => exact hq.elim
def caughtSt (st : St) (upd : List (Nat × Blk)) : St := ⟨st.tm, upd ++ st.mem, st.nx⟩
def fnQD (L : Nat → Option Lay) (rs : List ResultVar) (r : TV) (Hit : Value → St → List (Nat × Blk) → Prop) : Exit → St → Prop
  | .normal, st | .ret, st => retOk L rs r st
  | .panic ch, st => ∃ v upd, ch = panE v ∧ Hit v st upd ∧ (upd.all fun p => match findL st.mem p.1 with | some b => b.live | none => false) = true ∧ uniqB upd = true ∧ retOk L rs r (caughtSt st upd)
  | _, _ => False
def capsOk : List Nat → List Nat → St → Prop
  | t :: ts, k :: ks, st => findL st.tm t = some (.o (.c (.ptr k 0))) ∧ capsOk ts ks st
  | [], [], _ => True
  | _, _, _ => False
theorem capsOk_vs {E : Env} {ι : Nat → Value} {S : Nat → Prop} {st : St} {a : Act} {w : World} (I : Inv E ι S (findL st.tm) (findL st.mem) a w) : ∀ {caps capN : List Nat}, capsOk caps capN st → (caps.map fun t => a.tmps.getD t undef) = capN.map ι
  | [], [], _ => rfl
  | t :: ts, k :: ks, h => by
    rw [List.map_cons, List.map_cons, capsOk_vs I h.2]
    obtain ⟨b, h1, h2⟩ := I.tms t _ h.1
    rw [h2, h1]
  | [], _ :: _, h => h.elim
  | _ :: _, [], h => h.elim
end Go.Proofs.YtoingpafcodojaaGreatDoor

namespace Go.Proofs.YtoingpafcodojaaGreatDoor
open Go.RowKit

theorem sle_fixO {nx0 : Nat} {tm : List (Nat × TV)} {mem : List (Nat × Blk)} {nx : Nat} (k0 j k : Nat) {cells : List CV} {tg0 tg : TypeId} {dl : List D} (h0 : findL mem k0 = some (.obj cells tg0)) (hj : cells[j]? = some (.ptr k 0)) (hk : findL mem k = some (.obj (dl.map .d) tg)) (hne : Nat.beq k0 k = false) :
    SLe nx0 ⟨tm, (k0, .obj (cells.set j (.eptr dl)) tg0) :: (k, .dead) :: mem, nx⟩ ⟨tm, mem, nx⟩ := fun E a w he ⟨ι, S, I⟩ => by
  have hne' := Nat.ne_of_beq_eq_false hne
  obtain ⟨b, arr, ty, e1, e2, e3, e4⟩ := I.blk k _ hk
  have hbk : blkOf (ι k) = some b := by rw [e1]; rfl
  obtain ⟨S', hS'⟩ : ∃ S' : Nat → Prop, ∀ g, S' g ↔ S g ∨ g = b := ⟨fun g => S g ∨ g = b, fun _ => Iff.rfl⟩
  have hSS : ∀ g, S g → S' g := fun g h => (hS' g).2 (.inl h)
  have hblt : b < w.heap.size := (Array.getElem?_eq_some_iff.1 e2).1
  have hcase : ∀ n c, findL ((k0, Blk.obj (cells.set j (.eptr dl)) tg0) :: (k, Blk.dead) :: mem) n = some c → c.live = true → (n = k0 ∧ c = .obj (cells.set j (.eptr dl)) tg0) ∨ (n ≠ k ∧ findL mem n = some c) := fun n c hn hl => by
    simp only [findL] at hn
    split at hn
    · rename_i e; cases hn; exact .inl ⟨e.symm, rfl⟩
    · split at hn
      · cases hn; cases hl
      · rename_i e; exact .inr ⟨fun h => e h.symm, hn⟩
  have hold : ∀ n c, findL mem n = some c → c.live = true → n ≠ k → BlkOk ι S' w n c := fun n c hn hl hnk => by
    have hc := I.blk n c hn
    refine BlkOk.mono (fun _ _ => rfl) hSS (fun _ => rfl) (fun _ _ => rfl) (fun _ g hg => ⟨rfl, fun hs => ?_⟩) hc
    rcases (hS' g).1 hs with h | h
    · exact ((hc.sep hl hg).2) h
    · subst h
      exact hnk (I.dst n k c _ g hn hk hl rfl hg hbk)
  refine ⟨ι, S', I.os, I.tape, I.output, I.size, I.old, fun g hg => ?_, fun g hg => hSS g (I.s0 g hg), fun g hg => ?_, fun t tv ht => V.mono (fun _ _ => rfl) hSS (fun _ _ => rfl) (I.tms t tv ht), fun n c hn => ?_, fun n c hn hl g hg => ?_, fun n n' c c' g hn hn' hl hl' hg hg' => ?_, I.dn, I.sz, E.Γ.mono (fun _ _ => rfl) hSS I.gl, I.ik⟩
  · rcases (hS' g).1 hg with h | h
    · exact I.slt g h
    · subst h; exact hblt
  · rcases (hS' g).1 hg with h | h
    · exact I.sg g h
    · subst h
      rcases I.mutb k _ hk rfl g hbk with h | h
      · exact .inr (.inr h)
      · exact .inr (.inl h)
  · cases hl : c.live with
    | false => cases c <;> first | trivial | cases hl
    | true =>
      rcases hcase n c hn hl with ⟨rfl, rfl⟩ | ⟨hnk, hn⟩
      · obtain ⟨b2, arr2, ty2, f1, f2, f3, f4⟩ := hold n _ h0 rfl hne'
        refine ⟨b2, arr2, ty2, f1, f2, ⟨by simpa using f3.len, fun i x u hx hu => ?_⟩, f4⟩
        rw [List.getElem?_set] at hx
        split at hx
        · rename_i ei
          subst ei
          split at hx
          · cases hx
            have : VC ι S' w (.ptr k 0) u := f3.get j _ u hj hu
            obtain ⟨b3, g1, g2⟩ := this
            rw [e1] at g1
            cases g1
            have e3' : All2 (fun (d : D) u => Imm S w d u) dl arr.toList := (All2.of_map_left (R := VC ι S w) (f := CV.d) e3).mono fun _ _ h => h
            refine ⟨b, 0, fun i => arr.toList.getD i undef, g2, fun _ => (hS' b).2 (.inr rfl), fun i d hd => ?_⟩
            obtain ⟨u1, hu1, hd1⟩ := e3'.at_left hd
            rw [Nat.zero_add, cell_of_row w b i arr ty.1 (0, 0) e2]
            have hg : arr.toList.getD i undef = u1 := by rw [List.getD_eq_getElem?_getD, hu1]; rfl
            refine ⟨?_, ?_⟩
            · show arr[i]? = some (arr.toList.getD i undef)
              rw [hg, ← hu1]; simp
            · show Imm S' w d (arr.toList.getD i undef)
              rw [hg]; exact hd1.mono (fun _ _ => rfl) hSS
          · cases hx
        · exact f3.get i x u hx hu
      · exact hold n c hn hl hnk
  · rcases hcase n c hn hl with ⟨rfl, rfl⟩ | ⟨hnk, hn⟩
    · exact I.mutb _ _ h0 rfl g hg
    · exact I.mutb n c hn hl g hg
  · have key : ∀ n c, findL ((k0, Blk.obj (cells.set j (.eptr dl)) tg0) :: (k, Blk.dead) :: mem) n = some c → c.live = true → ∃ c', findL mem n = some c' ∧ c'.live = true := fun n c hn hl => by
      rcases hcase n c hn hl with ⟨rfl, rfl⟩ | ⟨hnk, hn⟩
      · exact ⟨_, h0, rfl⟩
      · exact ⟨c, hn, hl⟩
    obtain ⟨d1, q1, q2⟩ := key n c hn hl
    obtain ⟨d2, q3, q4⟩ := key n' c' hn' hl'
    exact I.dst n n' d1 d2 g q1 q3 q2 q4 hg hg'
def plainOk (L : Nat → Option Lay) (rs : List ResultVar) (r : TV) (st : St) : Prop :=
  match plainT (rs.map (resC L st)) with
  | some ys => TLe (retT ys) r ∧ (retT ys).pure = true
  | none => False
def retOkE (nx0 : Nat) (L : Nat → Option Lay) (rs : List ResultVar) (r : TV) (st : St) : Prop := ∃ st', SLe nx0 st' st ∧ plainOk L rs r st'
theorem end_dataE {C : Ctx} (hL : LOk C.P C.L) {S : Nat → Prop} {w w' : World} {st : St} {a : Act} {dd : List Deferred} {ιx : Nat → Value} {nxx : Nat} {fn : Func} {r : TV} (hR' : RS ⟨w, fun _ => False, S, C.n, C.Γ, ιx, nxx, dd⟩ st a w') (hret : retOkE nxx C.L fn.results.toList r st) :
    ∃ v, (results fn a.tmps).run C.P w' = .ok v w' ∧ ∃ x S', Ending.returned v = .returned x ∧ Below w.heap.size w w' ∧ (∀ b, S b → S' b) ∧ (∀ b, S' b → S b ∨ w.heap.size ≤ b) ∧ (∀ b, S' b → b < w'.heap.size) ∧ V ι0 S' w' r x := by
  obtain ⟨st', hle, hp⟩ := hret
  obtain ⟨ι, S1, I⟩ := hle _ _ _ rfl hR'
  unfold plainOk at hp
  split at hp
  · rename_i ys hy
    obtain ⟨v, h1, h2⟩ := results_okR hL I hy
    refine ⟨v, h1, v, S1, rfl, ⟨I.os, I.tape, I.output, I.size, fun b hb => I.old b hb (fun h => h)⟩, I.s0, fun b hb => ?_, I.slt, hp.1 _ _ _ _ (V.mono (fun _ _ => rfl) (fun _ h => h) (fun k hk => ?_) h2)⟩
    · rcases I.sg b hb with h | h | h
      · exact .inl h
      · exact .inr h
      · exact h.elim
    · rw [TV.pure_men hp.2 k] at hk; cases hk
  · exact hp.elim
def fnQE (nx0 : Nat) (L : Nat → Option Lay) (rs : List ResultVar) (r : TV) (Hit : Value → St → List (Nat × Blk) → Prop) : Exit → St → Prop
  | .normal, st | .ret, st => retOkE nx0 L rs r st
  | .panic ch, st => ∃ v upd, ch = panE v ∧ Hit v st upd ∧ (upd.all fun p => match findL st.mem p.1 with | some b => b.live | none => false) = true ∧ uniqB upd = true ∧ retOkE nx0 L rs r (caughtSt st upd)
  | _, _ => False
theorem fn_ruleE {C : Ctx} {f g : FuncId} {fn : Func} {x0 x1 x2 rg c : Code} {t9 nx2 : Nat} {caps capN : List Nat} (hL : LOk C.P C.L) (hm : C.P.follows .mixedOrders = true) (hf : C.P.funcs[f]? = some fn) (hb : fn.body = some (.seq x0 (.seq x1 (.seq x2 (.seq rg c))))) (hname : (fn.name == "runtime.NumGoroutine") = false)
    (hn : fn.ntmps = C.n) (h0 : C.nx0 = 0) {xs : List T1} (hx : Nat.ble xs.length C.n = true) {r : TV} (Hit : Value → St → List (Nat × Blk) → Prop)
    (hdef : ∀ (a : Act) (w : World) (Q : Exit → Act → World → Prop), a.tmps.size = C.n → (∀ u : Value, Q .normal { tmps := a.tmps.setIfInBounds t9 u, defers := { target := .fn (.func g) (caps.map fun t => a.tmps.getD t undef).toArray, args := #[] } :: a.defers } w) → rg.wp C.P Q a w)
    (henter : ∀ (vs : Array Value) (w : World), (callFunc g vs).run C.P w = .ok (.enter g vs) w)
    (hidle : ∀ (vs : List Value) (w : World), vs.length = capN.length → CallsD C.P g vs.toArray .returning w fun e u' w' => e = .returned (.tuple #[]) ∧ u' = .returning ∧ w' = w)
    (hcn : (capN.all fun k => Nat.blt k nx2) = true)
    (hhit : ∀ v st upd, Hit v st upd → ∀ (ι : Nat → Value) (S : Nat → Prop) (w : World), (∀ b, S b → b < w.heap.size) → C.Γ.G S w → (∀ k b, findL st.mem k = some b → BlkOk ι S w k b) →
      (∀ k k' b b' g, findL st.mem k = some b → findL st.mem k' = some b' → b.live = true → b'.live = true → blkOf (ι k) = some g → blkOf (ι k') = some g → k = k') →
      CallsD C.P g (capN.map ι).toArray (.panicking (panE v)) w fun e' u' w' => e' = .returned (.tuple #[]) ∧ u' = .panicking [{ v, recovered := true }] ∧ ∃ ι' S', After ι S w st.nx ⟨.und, [], upd, []⟩ undef ι' S' w')
    (h : vc C x0 ⟨argTm 0 xs, [], 0⟩ fun e st => match e with
      | .normal => vc C x1 st fun e st => match e with
        | .normal => vc C x2 st fun e st => match e with
          | .normal => capsOk caps capN st ∧ Nat.ble nx2 st.nx = true ∧ vc { C with nx0 := nx2 } c ⟨(t9, .no) :: st.tm, st.mem, st.nx⟩ (fnQE nx2 C.L fn.results.toList r Hit)
          | .ret => retOkE 0 C.L fn.results.toList r st
          | _ => False
        | _ => False
      | _ => False) : CallsA C.P C.Γ f xs r := by
  refine ⟨⟨fn, hf, hname, by rw [hb]; rfl⟩, fun S w vs hS hG hvs => ?_⟩
  have hxl := Nat.le_of_ble_eq_true hx
  have hlen := hvs.len
  refine calls_of_wp_defers hf hb ?_
  have hR : RS ⟨w, fun _ => False, S, C.n, C.Γ, ι0, 0, []⟩ ⟨argTm 0 xs, [], 0⟩ { tmps := vs.toArray ++ Array.replicate (fn.ntmps - vs.toArray.size) undef, defers := [] } w := by
    refine ⟨ι0, S, rfl, rfl, rfl, Nat.le_refl _, fun _ _ _ => rfl, hS, fun _ h => h, fun _ h => .inl h, fun t tv ht => ?_, (fun k b hk => by cases hk), (fun k b hk => by cases hk), (fun k k' b b' g hk => by cases hk), rfl, ?_, hG, fun _ _ => rfl⟩
    · obtain ⟨x, rfl, _, hx⟩ := argTm_find xs 0 t tv ht
      rw [Nat.sub_zero] at hx
      obtain ⟨u, hu, hv⟩ := hvs.at_left hx
      have hlt := (List.getElem?_eq_some_iff.1 hu).1
      have : (vs.toArray ++ Array.replicate (fn.ntmps - vs.toArray.size) undef).getD t undef = u := by
        simp [Array.getElem?_append, hlt, hu]
        have h2 := (List.getElem?_eq_some_iff.1 hu).2
        exact h2
      show V ι0 S w (.o x) _
      dsimp only
      rw [this]
      exact hv
    · simp; omega
  refine wp_seq (Code.wp_mono (fun e a w1 hq => ?_) (vc_ok hL ⟨rfl, rfl, h0.symm⟩ hm x0 _ _ _ w h hR))
  obtain ⟨st1, hR1, hq⟩ := hq
  cases e with
  | normal =>
    refine wp_seq (Code.wp_mono (fun e a1 w1b hq1 => ?_) (vc_ok hL ⟨rfl, rfl, h0.symm⟩ hm x1 _ _ _ w1 hq hR1))
    obtain ⟨st1b, hR1b, hq1⟩ := hq1
    cases e with
    | normal =>
     refine wp_seq (Code.wp_mono (fun e a2 w2 hq2 => ?_) (vc_ok hL ⟨rfl, rfl, h0.symm⟩ hm x2 _ _ _ w1b hq1 hR1b))
     obtain ⟨st2, hR2, hq2⟩ := hq2
     cases e with
     | ret =>
      have hq2 : retOkE 0 C.L fn.results.toList r st2 := hq2
      obtain ⟨v, h1, h2⟩ := end_dataE hL hR2 hq2
      obtain ⟨ι2, S2, I2⟩ := hR2
      show Leaves C.P fn a2.tmps _ a2.defers .returning w2
      rw [I2.dn]
      exact ⟨v, h1, h2⟩
     | normal =>
      obtain ⟨ι2, S2, I2⟩ := hR2
      refine wp_seq (hdef a2 w2 _ I2.sz fun u => ?_)
      rw [I2.dn]
      obtain ⟨hcaps, hnx2, hq2⟩ := hq2
      rw [capsOk_vs I2 hcaps]
      obtain ⟨d, hd⟩ : ∃ d : Deferred, d = { target := .fn (.func g) (capN.map ι2).toArray, args := #[] } := ⟨_, rfl⟩
      rw [← hd]
      have hR3 : RS ⟨w, fun _ => False, S, C.n, C.Γ, ι2, nx2, [d]⟩ ⟨(t9, .no) :: st2.tm, st2.mem, st2.nx⟩ { tmps := a2.tmps.setIfInBounds t9 u, defers := [d] } w2 := by
        refine ⟨ι2, S2, I2.os, I2.tape, I2.output, I2.size, I2.old, I2.slt, I2.s0, I2.sg, fun t tv ht => ?_, I2.blk, I2.mutb, I2.dst, rfl, by simpa using I2.sz, I2.gl, fun _ _ => rfl⟩
        simp only [findL] at ht
        split at ht
        · cases ht; trivial
        · rename_i hne
          have := I2.tms t tv ht
          have e : (a2.tmps.setIfInBounds t9 u).getD t undef = a2.tmps.getD t undef := by
            simp only [Array.getD_eq_getD_getElem?]
            rw [Array.getElem?_setIfInBounds_ne hne]
          show V ι2 S2 w2 tv ((a2.tmps.setIfInBounds t9 u).getD t undef)
          rw [e]
          exact this
      refine Code.wp_mono (fun e a3 w3 hq3 => ?_) (vc_ok (C := { C with nx0 := nx2 }) hL ⟨rfl, rfl, rfl⟩ hm c _ _ _ w2 hq2 hR3)
      obtain ⟨st3, hR4, hq3⟩ := hq3
      have key : retOkE nx2 C.L fn.results.toList r st3 → Leaves C.P fn a3.tmps (fun e w' => ∃ x S', e = .returned x ∧ Below w.heap.size w w' ∧ (∀ b, S b → S' b) ∧ (∀ b, S' b → S b ∨ w.heap.size ≤ b) ∧ (∀ b, S' b → b < w'.heap.size) ∧ V ι0 S' w' r x) a3.defers .returning w3 := fun hret => by
        obtain ⟨v, h1, h2⟩ := end_dataE hL hR4 hret
        obtain ⟨ι4, S4, I4⟩ := hR4
        rw [I4.dn, hd]
        refine leaves_cons (f := g) (args := (capN.map ι2).toArray) (by simp) (by simp [invoke, henter]) ?_
        refine (hidle _ _ (by simp)).mono ?_
        rintro e' u' w4 ⟨rfl, rfl, rfl⟩
        exact ⟨v, h1, h2⟩
      cases e with
      | normal => exact key hq3
      | ret => exact key hq3
      | panic ch =>
        obtain ⟨v, upd, rfl, hh, hlive, huq, hret⟩ := hq3
        obtain ⟨ι4, S4, I4⟩ := hR4
        show Leaves C.P fn a3.tmps _ a3.defers (.panicking (panE v)) w3
        rw [I4.dn, hd]
        have hι : capN.map ι2 = capN.map ι4 := List.map_congr_left fun k hk => (I4.ik k (by have := List.all_eq_true.1 hcn k hk; simpa [Nat.blt_eq] using this)).symm
        rw [hι]
        refine leaves_cons (f := g) (args := (capN.map ι4).toArray) (by simp) (by simp [invoke, henter]) ?_
        refine (hhit v st3 upd hh ι4 S4 w3 I4.slt I4.gl I4.blk I4.dst).mono ?_
        rintro e' u' w4 ⟨rfl, rfl, ι5, S5, A⟩
        have I5 := step_inv (tm' := findL st3.tm) (a' := a3) I4 A (fun k b hk => ?_) (fun i hi => by simp at hi) (fun h => by simp at h) (fun k b b' => uniqB_ok huq k b b') (fun hSb hmen t tv ht => ?_) I4.dn I4.sz
        · have hR5 : RS ⟨w, fun _ => False, S, C.n, C.Γ, ι2, nx2, [d]⟩ (caughtSt st3 upd) a3 w4 := by
            refine ⟨ι5, S5, ?_⟩
            have e : updF (findL st3.mem) ⟨.und, [], upd, []⟩ st3.nx = findL (caughtSt st3 upd).mem := updF_step st3 none ⟨.und, [], upd, []⟩
            rw [← e]
            exact I5
          obtain ⟨v5, h1, h2⟩ := end_dataE hL hR5 hret
          exact ⟨v5, h1, h2⟩
        · have := List.all_eq_true.1 hlive _ hk
          simp only at this
          split at this
          · rename_i b' hb'; exact ⟨b', hb', this⟩
          · cases this
        · exact V.mono hSb A.smono (hmen tv fun i hi => by simp at hi) (I4.tms t tv ht)
      | _ => exact hq3.elim
     | _ => exact hq2.elim
    | _ => exact hq1.elim
  | _ => exact hq.elim
end Go.Proofs.YtoingpafcodojaaGreatDoor

namespace Go.Proofs.YtoingpafcodojaaGreatDoor
open Go.RowKit

def wordF (size : Int) (little : Bool) : List UInt8 :=
  let e : List UInt8 := if little = true then [108, 101] else [98, 101]
  if size = 1 then [117, 56] else if size = 2 then [117, 49, 54] ++ e else if size = 3 then [117, 50, 52] ++ e else if size = 4 then [117, 51, 50] ++ e else if size = 8 then [117, 54, 52] ++ e else []
theorem word_c (size : Int) (little : Bool) : CallsA Tryz.prog Γ0 114 [c1 (di size), c1 (db little)] (Tstr (bs (wordF size little))) := by
  by_cases h : size = 1 ∨ size = 2 ∨ size = 3 ∨ size = 4 ∨ size = 8
  · rcases h with rfl | rfl | rfl | rfl | rfl <;> cases little
    all_goals
      refine fn_rule (C := ⟨Tryz.prog, layF, Tryz.f114.ntmps, Γ0, 0, [], []⟩) layF_ok mixed Tryz.func114 rfl (by kernel_rfl) rfl rfl rfl ?_
      repeat' (first | refine (and_mk (by decide)) ?_ | refine tT ?_ | refine tF ?_ | refine ex_dec (fun _ => ?_) (fun _ => ?_) | refine t8 ?_ | refine tI ?_ | refine tU ?_ | refine tA ?_ | refine tB ?_ | refine tL ?_ | refine tN ?_ | fail "no step")
      first | exact TLe.rfl | exact TLe.eq (congrArg (fun s => Tstr s) (bs_app _ _))
  · rw [show wordF size little = [] by unfold wordF; rw [if_neg (by omega), if_neg (by omega), if_neg (by omega), if_neg (by omega), if_neg (by omega)]]
    cases little
    all_goals
      refine fn_rule (C := ⟨Tryz.prog, layF, Tryz.f114.ntmps, Γ0, 0, [], []⟩) layF_ok mixed Tryz.func114 rfl (by kernel_rfl) rfl rfl rfl ?_
      repeat' (first | refine tT ?_ | refine tF ?_ | refine ex_dec (fun _ => ?_) (fun _ => ?_) | refine t8 ?_ | refine tI ?_ | refine tU ?_ | refine tA ?_ | refine tB ?_ | refine tL ?_ | refine tN ?_ | fail "no step")
      exact TLe.rfl
theorem level_c (w : List UInt8) : CallsA Tryz.prog Γ0 154 [c1 (ds (bs w))] (Ti (levelV w)) := by
  by_cases hm : w ∈ levelsL.map (·.1)
  · simp only [levelsL, List.map_cons, List.map_nil, List.mem_cons, List.not_mem_nil, or_false] at hm
    rcases hm with rfl | rfl | rfl | rfl | rfl | rfl | rfl | rfl | rfl | rfl | rfl | rfl | rfl | rfl | rfl | rfl | rfl
    all_goals
      refine fn_rule (C := ⟨Tryz.prog, layF, Tryz.f154.ntmps, Γ0, 0, [], []⟩) layF_ok mixed Tryz.func154 rfl (by kernel_rfl) rfl rfl rfl ?_
      repeat' (first | refine tT ?_ | refine tF ?_ | refine ex_dec (fun _ => ?_) (fun _ => ?_) | refine t8 ?_ | refine tI ?_ | refine tU ?_ | refine tA ?_ | refine tB ?_ | refine tL ?_ | refine tN ?_ | fail "no step")
      exact TLe.eq (congrArg (fun n : Nat => Ti (n : Int)) (show _ = levelV _ by decide +kernel))
  · have hne : ∀ l, l ∈ levelsL.map (·.1) → ¬ bs w = bs l := fun l hl he => hm (by rw [bsj.1 he]; exact hl)
    have h0 : levelV w = 0 := by
      have : List.find? (fun p => p.1 == w) levelsL = none := List.find?_eq_none.2 (fun p hp he => hm (List.mem_map.2 ⟨p, hp, by simpa using he⟩))
      unfold levelV; rw [this]; rfl
    rw [h0]
    refine fn_rule (C := ⟨Tryz.prog, layF, Tryz.f154.ntmps, Γ0, 0, [], []⟩) layF_ok mixed Tryz.func154 rfl (by kernel_rfl) rfl rfl rfl ?_
    repeat' (first | refine ex_false (hne _ (by decide)) ?_ | refine tT ?_ | refine tF ?_ | refine ex_dec (fun _ => ?_) (fun _ => ?_) | refine t8 ?_ | refine tI ?_ | refine tU ?_ | refine tA ?_ | refine tB ?_ | refine tL ?_ | refine tN ?_ | fail "no step")
    exact TLe.rfl
def szL : List Nat := [1, 2, 3, 4, 8]
theorem integer_none {w : List UInt8} (h : ∀ k, k < 5 → ∀ l, wordF (szL.getD k 0 : Nat) l ≠ w) : integerV w = none := by
  have hn : w ∉ intsL.map (·.1) := by
    intro hm
    simp only [intsL, List.map_cons, List.map_nil, List.mem_cons, List.not_mem_nil, or_false] at hm
    rcases hm with rfl | rfl | rfl | rfl | rfl | rfl | rfl | rfl | rfl
    · exact h 0 (by decide) false rfl
    · exact h 1 (by decide) false rfl
    · exact h 1 (by decide) true rfl
    · exact h 2 (by decide) false rfl
    · exact h 2 (by decide) true rfl
    · exact h 3 (by decide) false rfl
    · exact h 3 (by decide) true rfl
    · exact h 4 (by decide) false rfl
    · exact h 4 (by decide) true rfl
  exact Option.map_eq_none_iff.2 (List.find?_eq_none.2 fun p hp he => hn (List.mem_map.2 ⟨p, hp, by simpa using he⟩))
def intTV : Option (Nat × Bool) → TV
  | some (n, l) => .tup [c1 (di n), c1 (db l), c1 (db true)]
  | none => .tup [c1 (di 0), c1 (db false), c1 (db false)]
set_option maxHeartbeats 2000000 in
theorem integer_c (w : List UInt8) : CallsA Tryz.prog Γ0 82 [c1 (ds (bs w))] (intTV (integerV w)) := by
  refine fn_rule (C := ⟨Tryz.prog, layF, Tryz.f82.ntmps, Γ0, 0, [], []⟩) layF_ok mixed Tryz.func82 rfl (by kernel_rfl) rfl rfl rfl ?_
  repeat' (first | refine tT ?_ | refine tF ?_ | refine ex_dec (fun _ => ?_) (fun _ => ?_) | refine t8 ?_ | refine tI ?_ | refine tU ?_ | refine tA ?_ | refine tB ?_ | refine tL ?_ | refine tN ?_ | fail "no step")
  refine ex_loop (X := Nat) (fun i => ⟨[(0, Tstr (bs w)), (9, .o (gD [di 1, di 2, di 3, di 4, di 8])), (10, Ti i)], [], 0⟩) (fun i => 5 - i) (fun i => i ≤ 5 ∧ ∀ k, k < i → ∀ l, wordF (szL.getD k 0 : Nat) l ≠ w) 0 ⟨by omega, fun k h => absurd h (by omega)⟩ (SLe.of ⟨⟨rfl, rfl, rfl, trivial⟩, trivial⟩) ?_
  rintro i ⟨hi, hP⟩
  by_cases h5 : i = 5
  · subst h5
    rw [integer_none hP]
    repeat' (first | refine tT ?_ | refine tF ?_ | refine ex_dec (fun _ => ?_) (fun _ => ?_) | refine t8 ?_ | refine tI ?_ | refine tU ?_ | refine tA ?_ | refine tB ?_ | refine tL ?_ | refine tN ?_ | fail "no step")
    exact TLe.rfl
  · have key : ∀ (z : Nat), szL.getD i 0 = z → (∀ l, wordF z l ≠ w) → ∀ k, k < i + 1 → ∀ l, wordF (szL.getD k 0 : Nat) l ≠ w := fun z hz hl k hk l => by
      by_cases e : k = i
      · subst e; rw [hz]; exact hl l
      · exact hP k (by omega) l
    rcases (show i = 0 ∨ i = 1 ∨ i = 2 ∨ i = 3 ∨ i = 4 by omega) with rfl | rfl | rfl | rfl | rfl
    · repeat' (first | refine (ex_is ([.d (di 1)] : List CV) rfl) ?_ | refine tT ?_ | refine tF ?_ | refine ex_dec (fun _ => ?_) (fun _ => ?_) | refine t8 ?_ | refine tI ?_ | refine tU ?_ | refine tA ?_ | refine tB ?_ | refine tL ?_ | refine tN ?_ | fail "no step")
      refine ex_loop (X := Nat) (fun j => ⟨[(0, Tstr (bs w)), (6, Ti 1), (9, .o (gD [di 1, di 2, di 3, di 4, di 8])), (10, Ti 0), (13, .o (gD [db false, db true])), (14, Ti j)], [], 0⟩) (fun j => 2 - j) (fun j => j ≤ 2 ∧ (0 < j → wordF 1 false ≠ w) ∧ (1 < j → wordF 1 true ≠ w)) 0 ⟨by omega, fun h => absurd h (by omega), fun h => absurd h (by omega)⟩ (SLe.of ⟨⟨rfl, rfl, rfl, rfl, rfl, rfl, trivial⟩, trivial⟩) ?_
      rintro j ⟨hj, q0, q1⟩
      rcases (show j = 0 ∨ j = 1 ∨ j = 2 by omega) with rfl | rfl | rfl
      · repeat' (first | refine ex_call (word_c 1 false) ?_ | refine (ex_is ([.d (db false)] : List CV) rfl) ?_ | refine tT ?_ | refine tF ?_ | refine ex_dec (fun _ => ?_) (fun _ => ?_) | refine t8 ?_ | refine tI ?_ | refine tU ?_ | refine tA ?_ | refine tB ?_ | refine tL ?_ | refine tN ?_ | fail "no step")
        · rename_i e
          obtain rfl := bsj.1 e
          exact TLe.rfl
        · rename_i e
          exact ex_round 1 ⟨by omega, fun _ h => e (by rw [h]), fun h => absurd h (by omega)⟩ (by show 2 - 1 < 2 - 0; decide) (SLe.of ⟨⟨rfl, rfl, rfl, rfl, rfl, rfl, trivial⟩, trivial⟩)
      · repeat' (first | refine ex_call (word_c 1 true) ?_ | refine (ex_is ([.d (db true)] : List CV) rfl) ?_ | refine tT ?_ | refine tF ?_ | refine ex_dec (fun _ => ?_) (fun _ => ?_) | refine t8 ?_ | refine tI ?_ | refine tU ?_ | refine tA ?_ | refine tB ?_ | refine tL ?_ | refine tN ?_ | fail "no step")
        · rename_i e
          obtain rfl := bsj.1 e
          first | exact TLe.rfl | exact absurd rfl (q0 (by omega))
        · rename_i e
          exact ex_round 2 ⟨by omega, fun _ => q0 (by omega), fun _ h => e (by rw [h])⟩ (by show 2 - 2 < 2 - 1; decide) (SLe.of ⟨⟨rfl, rfl, rfl, rfl, rfl, rfl, trivial⟩, trivial⟩)
      · repeat' (first | refine tT ?_ | refine tF ?_ | refine ex_dec (fun _ => ?_) (fun _ => ?_) | refine t8 ?_ | refine tI ?_ | refine tU ?_ | refine tA ?_ | refine tB ?_ | refine tL ?_ | refine tN ?_ | fail "no step")
        exact ex_round (0 + 1) ⟨by omega, key 1 (by decide) fun l => by cases l; exact q0 (by omega); exact q1 (by omega)⟩ (by show 5 - (0 + 1) < 5 - 0; omega) (SLe.of ⟨⟨rfl, rfl, rfl, trivial⟩, trivial⟩)
    · repeat' (first | refine (ex_is ([.d (di 2)] : List CV) rfl) ?_ | refine tT ?_ | refine tF ?_ | refine ex_dec (fun _ => ?_) (fun _ => ?_) | refine t8 ?_ | refine tI ?_ | refine tU ?_ | refine tA ?_ | refine tB ?_ | refine tL ?_ | refine tN ?_ | fail "no step")
      refine ex_loop (X := Nat) (fun j => ⟨[(0, Tstr (bs w)), (6, Ti 2), (9, .o (gD [di 1, di 2, di 3, di 4, di 8])), (10, Ti 1), (13, .o (gD [db false, db true])), (14, Ti j)], [], 0⟩) (fun j => 2 - j) (fun j => j ≤ 2 ∧ (0 < j → wordF 2 false ≠ w) ∧ (1 < j → wordF 2 true ≠ w)) 0 ⟨by omega, fun h => absurd h (by omega), fun h => absurd h (by omega)⟩ (SLe.of ⟨⟨rfl, rfl, rfl, rfl, rfl, rfl, trivial⟩, trivial⟩) ?_
      rintro j ⟨hj, q0, q1⟩
      rcases (show j = 0 ∨ j = 1 ∨ j = 2 by omega) with rfl | rfl | rfl
      · repeat' (first | refine ex_call (word_c 2 false) ?_ | refine (ex_is ([.d (db false)] : List CV) rfl) ?_ | refine tT ?_ | refine tF ?_ | refine ex_dec (fun _ => ?_) (fun _ => ?_) | refine t8 ?_ | refine tI ?_ | refine tU ?_ | refine tA ?_ | refine tB ?_ | refine tL ?_ | refine tN ?_ | fail "no step")
        · rename_i e
          obtain rfl := bsj.1 e
          exact TLe.rfl
        · rename_i e
          exact ex_round 1 ⟨by omega, fun _ h => e (by rw [h]), fun h => absurd h (by omega)⟩ (by show 2 - 1 < 2 - 0; decide) (SLe.of ⟨⟨rfl, rfl, rfl, rfl, rfl, rfl, trivial⟩, trivial⟩)
      · repeat' (first | refine ex_call (word_c 2 true) ?_ | refine (ex_is ([.d (db true)] : List CV) rfl) ?_ | refine tT ?_ | refine tF ?_ | refine ex_dec (fun _ => ?_) (fun _ => ?_) | refine t8 ?_ | refine tI ?_ | refine tU ?_ | refine tA ?_ | refine tB ?_ | refine tL ?_ | refine tN ?_ | fail "no step")
        · rename_i e
          obtain rfl := bsj.1 e
          first | exact TLe.rfl | exact absurd rfl (q0 (by omega))
        · rename_i e
          exact ex_round 2 ⟨by omega, fun _ => q0 (by omega), fun _ h => e (by rw [h])⟩ (by show 2 - 2 < 2 - 1; decide) (SLe.of ⟨⟨rfl, rfl, rfl, rfl, rfl, rfl, trivial⟩, trivial⟩)
      · repeat' (first | refine tT ?_ | refine tF ?_ | refine ex_dec (fun _ => ?_) (fun _ => ?_) | refine t8 ?_ | refine tI ?_ | refine tU ?_ | refine tA ?_ | refine tB ?_ | refine tL ?_ | refine tN ?_ | fail "no step")
        exact ex_round (1 + 1) ⟨by omega, key 2 (by decide) fun l => by cases l; exact q0 (by omega); exact q1 (by omega)⟩ (by show 5 - (1 + 1) < 5 - 1; omega) (SLe.of ⟨⟨rfl, rfl, rfl, trivial⟩, trivial⟩)
    · repeat' (first | refine (ex_is ([.d (di 3)] : List CV) rfl) ?_ | refine tT ?_ | refine tF ?_ | refine ex_dec (fun _ => ?_) (fun _ => ?_) | refine t8 ?_ | refine tI ?_ | refine tU ?_ | refine tA ?_ | refine tB ?_ | refine tL ?_ | refine tN ?_ | fail "no step")
      refine ex_loop (X := Nat) (fun j => ⟨[(0, Tstr (bs w)), (6, Ti 3), (9, .o (gD [di 1, di 2, di 3, di 4, di 8])), (10, Ti 2), (13, .o (gD [db false, db true])), (14, Ti j)], [], 0⟩) (fun j => 2 - j) (fun j => j ≤ 2 ∧ (0 < j → wordF 3 false ≠ w) ∧ (1 < j → wordF 3 true ≠ w)) 0 ⟨by omega, fun h => absurd h (by omega), fun h => absurd h (by omega)⟩ (SLe.of ⟨⟨rfl, rfl, rfl, rfl, rfl, rfl, trivial⟩, trivial⟩) ?_
      rintro j ⟨hj, q0, q1⟩
      rcases (show j = 0 ∨ j = 1 ∨ j = 2 by omega) with rfl | rfl | rfl
      · repeat' (first | refine ex_call (word_c 3 false) ?_ | refine (ex_is ([.d (db false)] : List CV) rfl) ?_ | refine tT ?_ | refine tF ?_ | refine ex_dec (fun _ => ?_) (fun _ => ?_) | refine t8 ?_ | refine tI ?_ | refine tU ?_ | refine tA ?_ | refine tB ?_ | refine tL ?_ | refine tN ?_ | fail "no step")
        · rename_i e
          obtain rfl := bsj.1 e
          exact TLe.rfl
        · rename_i e
          exact ex_round 1 ⟨by omega, fun _ h => e (by rw [h]), fun h => absurd h (by omega)⟩ (by show 2 - 1 < 2 - 0; decide) (SLe.of ⟨⟨rfl, rfl, rfl, rfl, rfl, rfl, trivial⟩, trivial⟩)
      · repeat' (first | refine ex_call (word_c 3 true) ?_ | refine (ex_is ([.d (db true)] : List CV) rfl) ?_ | refine tT ?_ | refine tF ?_ | refine ex_dec (fun _ => ?_) (fun _ => ?_) | refine t8 ?_ | refine tI ?_ | refine tU ?_ | refine tA ?_ | refine tB ?_ | refine tL ?_ | refine tN ?_ | fail "no step")
        · rename_i e
          obtain rfl := bsj.1 e
          first | exact TLe.rfl | exact absurd rfl (q0 (by omega))
        · rename_i e
          exact ex_round 2 ⟨by omega, fun _ => q0 (by omega), fun _ h => e (by rw [h])⟩ (by show 2 - 2 < 2 - 1; decide) (SLe.of ⟨⟨rfl, rfl, rfl, rfl, rfl, rfl, trivial⟩, trivial⟩)
      · repeat' (first | refine tT ?_ | refine tF ?_ | refine ex_dec (fun _ => ?_) (fun _ => ?_) | refine t8 ?_ | refine tI ?_ | refine tU ?_ | refine tA ?_ | refine tB ?_ | refine tL ?_ | refine tN ?_ | fail "no step")
        exact ex_round (2 + 1) ⟨by omega, key 3 (by decide) fun l => by cases l; exact q0 (by omega); exact q1 (by omega)⟩ (by show 5 - (2 + 1) < 5 - 2; omega) (SLe.of ⟨⟨rfl, rfl, rfl, trivial⟩, trivial⟩)
    · repeat' (first | refine (ex_is ([.d (di 4)] : List CV) rfl) ?_ | refine tT ?_ | refine tF ?_ | refine ex_dec (fun _ => ?_) (fun _ => ?_) | refine t8 ?_ | refine tI ?_ | refine tU ?_ | refine tA ?_ | refine tB ?_ | refine tL ?_ | refine tN ?_ | fail "no step")
      refine ex_loop (X := Nat) (fun j => ⟨[(0, Tstr (bs w)), (6, Ti 4), (9, .o (gD [di 1, di 2, di 3, di 4, di 8])), (10, Ti 3), (13, .o (gD [db false, db true])), (14, Ti j)], [], 0⟩) (fun j => 2 - j) (fun j => j ≤ 2 ∧ (0 < j → wordF 4 false ≠ w) ∧ (1 < j → wordF 4 true ≠ w)) 0 ⟨by omega, fun h => absurd h (by omega), fun h => absurd h (by omega)⟩ (SLe.of ⟨⟨rfl, rfl, rfl, rfl, rfl, rfl, trivial⟩, trivial⟩) ?_
      rintro j ⟨hj, q0, q1⟩
      rcases (show j = 0 ∨ j = 1 ∨ j = 2 by omega) with rfl | rfl | rfl
      · repeat' (first | refine ex_call (word_c 4 false) ?_ | refine (ex_is ([.d (db false)] : List CV) rfl) ?_ | refine tT ?_ | refine tF ?_ | refine ex_dec (fun _ => ?_) (fun _ => ?_) | refine t8 ?_ | refine tI ?_ | refine tU ?_ | refine tA ?_ | refine tB ?_ | refine tL ?_ | refine tN ?_ | fail "no step")
        · rename_i e
          obtain rfl := bsj.1 e
          exact TLe.rfl
        · rename_i e
          exact ex_round 1 ⟨by omega, fun _ h => e (by rw [h]), fun h => absurd h (by omega)⟩ (by show 2 - 1 < 2 - 0; decide) (SLe.of ⟨⟨rfl, rfl, rfl, rfl, rfl, rfl, trivial⟩, trivial⟩)
      · repeat' (first | refine ex_call (word_c 4 true) ?_ | refine (ex_is ([.d (db true)] : List CV) rfl) ?_ | refine tT ?_ | refine tF ?_ | refine ex_dec (fun _ => ?_) (fun _ => ?_) | refine t8 ?_ | refine tI ?_ | refine tU ?_ | refine tA ?_ | refine tB ?_ | refine tL ?_ | refine tN ?_ | fail "no step")
        · rename_i e
          obtain rfl := bsj.1 e
          first | exact TLe.rfl | exact absurd rfl (q0 (by omega))
        · rename_i e
          exact ex_round 2 ⟨by omega, fun _ => q0 (by omega), fun _ h => e (by rw [h])⟩ (by show 2 - 2 < 2 - 1; decide) (SLe.of ⟨⟨rfl, rfl, rfl, rfl, rfl, rfl, trivial⟩, trivial⟩)
      · repeat' (first | refine tT ?_ | refine tF ?_ | refine ex_dec (fun _ => ?_) (fun _ => ?_) | refine t8 ?_ | refine tI ?_ | refine tU ?_ | refine tA ?_ | refine tB ?_ | refine tL ?_ | refine tN ?_ | fail "no step")
        exact ex_round (3 + 1) ⟨by omega, key 4 (by decide) fun l => by cases l; exact q0 (by omega); exact q1 (by omega)⟩ (by show 5 - (3 + 1) < 5 - 3; omega) (SLe.of ⟨⟨rfl, rfl, rfl, trivial⟩, trivial⟩)
    · repeat' (first | refine (ex_is ([.d (di 8)] : List CV) rfl) ?_ | refine tT ?_ | refine tF ?_ | refine ex_dec (fun _ => ?_) (fun _ => ?_) | refine t8 ?_ | refine tI ?_ | refine tU ?_ | refine tA ?_ | refine tB ?_ | refine tL ?_ | refine tN ?_ | fail "no step")
      refine ex_loop (X := Nat) (fun j => ⟨[(0, Tstr (bs w)), (6, Ti 8), (9, .o (gD [di 1, di 2, di 3, di 4, di 8])), (10, Ti 4), (13, .o (gD [db false, db true])), (14, Ti j)], [], 0⟩) (fun j => 2 - j) (fun j => j ≤ 2 ∧ (0 < j → wordF 8 false ≠ w) ∧ (1 < j → wordF 8 true ≠ w)) 0 ⟨by omega, fun h => absurd h (by omega), fun h => absurd h (by omega)⟩ (SLe.of ⟨⟨rfl, rfl, rfl, rfl, rfl, rfl, trivial⟩, trivial⟩) ?_
      rintro j ⟨hj, q0, q1⟩
      rcases (show j = 0 ∨ j = 1 ∨ j = 2 by omega) with rfl | rfl | rfl
      · repeat' (first | refine ex_call (word_c 8 false) ?_ | refine (ex_is ([.d (db false)] : List CV) rfl) ?_ | refine tT ?_ | refine tF ?_ | refine ex_dec (fun _ => ?_) (fun _ => ?_) | refine t8 ?_ | refine tI ?_ | refine tU ?_ | refine tA ?_ | refine tB ?_ | refine tL ?_ | refine tN ?_ | fail "no step")
        · rename_i e
          obtain rfl := bsj.1 e
          exact TLe.rfl
        · rename_i e
          exact ex_round 1 ⟨by omega, fun _ h => e (by rw [h]), fun h => absurd h (by omega)⟩ (by show 2 - 1 < 2 - 0; decide) (SLe.of ⟨⟨rfl, rfl, rfl, rfl, rfl, rfl, trivial⟩, trivial⟩)
      · repeat' (first | refine ex_call (word_c 8 true) ?_ | refine (ex_is ([.d (db true)] : List CV) rfl) ?_ | refine tT ?_ | refine tF ?_ | refine ex_dec (fun _ => ?_) (fun _ => ?_) | refine t8 ?_ | refine tI ?_ | refine tU ?_ | refine tA ?_ | refine tB ?_ | refine tL ?_ | refine tN ?_ | fail "no step")
        · rename_i e
          obtain rfl := bsj.1 e
          first | exact TLe.rfl | exact absurd rfl (q0 (by omega))
        · rename_i e
          exact ex_round 2 ⟨by omega, fun _ => q0 (by omega), fun _ h => e (by rw [h])⟩ (by show 2 - 2 < 2 - 1; decide) (SLe.of ⟨⟨rfl, rfl, rfl, rfl, rfl, rfl, trivial⟩, trivial⟩)
      · repeat' (first | refine tT ?_ | refine tF ?_ | refine ex_dec (fun _ => ?_) (fun _ => ?_) | refine t8 ?_ | refine tI ?_ | refine tU ?_ | refine tA ?_ | refine tB ?_ | refine tL ?_ | refine tN ?_ | fail "no step")
        exact ex_round (4 + 1) ⟨by omega, key 8 (by decide) fun l => by cases l; exact q0 (by omega); exact q1 (by omega)⟩ (by show 5 - (4 + 1) < 5 - 4; omega) (SLe.of ⟨⟨rfl, rfl, rfl, trivial⟩, trivial⟩)
theorem key_c (w : List UInt8) :
    CallsA Tryz.prog Γ0 81 [c1 (ds (bs w))] (Tb (keyV w)) := by
  by_cases hm : w ∈ keysL
  · rw [show keyV w = true by unfold keyV; rw [List.contains_iff_mem.2 hm]; rfl]
    simp only [keysL, List.mem_cons, List.not_mem_nil, or_false] at hm
    rcases hm with rfl | rfl | rfl | rfl | rfl | rfl | rfl | rfl | rfl | rfl | rfl | rfl | rfl | rfl | rfl | rfl | rfl | rfl | rfl
    all_goals
      refine fn_rule (C := ⟨Tryz.prog, layF, Tryz.f81.ntmps, Γ0, 0, [], []⟩) layF_ok mixed Tryz.func81 rfl (by kernel_rfl) rfl rfl rfl ?_
      repeat' (first | refine tT ?_ | refine tF ?_ | refine ex_dec (fun _ => ?_) (fun _ => ?_) | refine t8 ?_ | refine tI ?_ | refine tU ?_ | refine tA ?_ | refine tB ?_ | refine tL ?_ | refine tN ?_ | fail "no step")
      exact TLe.rfl
  · have hne : ∀ l, l ∈ keysL → ¬ bs w = bs l := fun l hl he => hm (by rw [bsj.1 he]; exact hl)
    have hk : keyV w = (integerV w).isSome := by unfold keyV; rw [show keysL.contains w = false by simpa using hm]; rfl
    rw [hk]
    have hc := integer_c w
    rcases hv : integerV w with _ | ⟨n, l⟩ <;> rw [hv] at hc
    · have hc : CallsA Tryz.prog Γ0 82 [c1 (ds (bs w))] (.tup [c1 (di 0), c1 (db false), c1 (db false)]) := hc
      refine fn_rule (C := ⟨Tryz.prog, layF, Tryz.f81.ntmps, Γ0, 0, [], []⟩) layF_ok mixed Tryz.func81 rfl (by kernel_rfl) rfl rfl rfl ?_
      repeat' (first | refine ex_call hc ?_ | refine ex_false (hne _ (by decide)) ?_ | refine tT ?_ | refine tF ?_ | refine ex_dec (fun _ => ?_) (fun _ => ?_) | refine t8 ?_ | refine tI ?_ | refine tU ?_ | refine tA ?_ | refine tB ?_ | refine tL ?_ | refine tN ?_ | fail "no step")
      exact TLe.rfl
    · have hc : CallsA Tryz.prog Γ0 82 [c1 (ds (bs w))] (.tup [c1 (di n), c1 (db l), c1 (db true)]) := hc
      refine fn_rule (C := ⟨Tryz.prog, layF, Tryz.f81.ntmps, Γ0, 0, [], []⟩) layF_ok mixed Tryz.func81 rfl (by kernel_rfl) rfl rfl rfl ?_
      repeat' (first | refine ex_call hc ?_ | refine ex_false (hne _ (by decide)) ?_ | refine tT ?_ | refine tF ?_ | refine ex_dec (fun _ => ?_) (fun _ => ?_) | refine t8 ?_ | refine tI ?_ | refine tU ?_ | refine tA ?_ | refine tB ?_ | refine tL ?_ | refine tN ?_ | fail "no step")
      exact TLe.rfl
end Go.Proofs.YtoingpafcodojaaGreatDoor

namespace Go.Proofs.YtoingpafcodojaaGreatDoor
open Go.RowKit

section
variable {L : List TokP} {m : Nat}
theorem is_c (i : Nat) (h : i < L.length) (t : List UInt8) : CallsM Tryz.prog ΓL 38 [(0, Qz L m i)] 2 [P0, c1 (ds (bs t))] (Tb (isV L i t)) [(0, Qz L m i)] [] := by
  have ha := ahead_c (L := L) (m := m) i h
  obtain ⟨R, hR⟩ : ∃ R, isV L i t = R := ⟨_, rfl⟩
  rw [hR]
  unfold isV at hR
  generalize tk L i = u at *
  by_cases hk : u.k = 3
  · obtain rfl : false = R := by rw [← hR]; simp [hk]
    refine fn_ruleM (C := ⟨Tryz.prog, layF, Tryz.f38.ntmps, ΓL, 2, [], []⟩) layF_ok mixed Tryz.func38 rfl (by kernel_rfl) rfl rfl rfl ?_
    refine ex_callM (CallsM.ren (ha) [0, 1] 2 rfl rfl rfl rfl) ?_
    repeat' (first | refine tT ?_ | refine tF ?_ | refine ex_dec (fun _ => ?_) (fun _ => ?_) | refine t8 ?_ | refine tI ?_ | refine tU ?_ | refine tA ?_ | refine tB ?_ | refine tL ?_ | refine tN ?_ | fail "no step")
    exact ⟨rfl, TLe.rfl, rfl, rfl⟩
  · by_cases ht : u.t = t
    · obtain rfl : true = R := by rw [← hR]; simp [hk, ht]
      refine fn_ruleM (C := ⟨Tryz.prog, layF, Tryz.f38.ntmps, ΓL, 2, [], []⟩) layF_ok mixed Tryz.func38 rfl (by kernel_rfl) rfl rfl rfl ?_
      refine ex_callM (CallsM.ren (ha) [0, 1] 2 rfl rfl rfl rfl) ?_
      repeat' (first | refine tT ?_ | refine tF ?_ | refine ex_dec (fun _ => ?_) (fun _ => ?_) | refine t8 ?_ | refine tI ?_ | refine tU ?_ | refine tA ?_ | refine tB ?_ | refine tL ?_ | refine tN ?_ | fail "no step")
      refine ex_callM (CallsM.ren (ha) [0, 1] 2 rfl rfl rfl rfl) ?_
      refine ex_true (by rw [ht]) ?_
      repeat' (first | refine tT ?_ | refine tF ?_ | refine ex_dec (fun _ => ?_) (fun _ => ?_) | refine t8 ?_ | refine tI ?_ | refine tU ?_ | refine tA ?_ | refine tB ?_ | refine tL ?_ | refine tN ?_ | fail "no step")
      exact ⟨rfl, TLe.rfl, rfl, rfl⟩
    · obtain rfl : false = R := by rw [← hR]; simp [hk, ht]
      refine fn_ruleM (C := ⟨Tryz.prog, layF, Tryz.f38.ntmps, ΓL, 2, [], []⟩) layF_ok mixed Tryz.func38 rfl (by kernel_rfl) rfl rfl rfl ?_
      refine ex_callM (CallsM.ren (ha) [0, 1] 2 rfl rfl rfl rfl) ?_
      repeat' (first | refine tT ?_ | refine tF ?_ | refine ex_dec (fun _ => ?_) (fun _ => ?_) | refine t8 ?_ | refine tI ?_ | refine tU ?_ | refine tA ?_ | refine tB ?_ | refine tL ?_ | refine tN ?_ | fail "no step")
      refine ex_callM (CallsM.ren (ha) [0, 1] 2 rfl rfl rfl rfl) ?_
      refine ex_false (fun e => ht (bsj.1 e)) ?_
      repeat' (first | refine tT ?_ | refine tF ?_ | refine ex_dec (fun _ => ?_) (fun _ => ?_) | refine t8 ?_ | refine tI ?_ | refine tU ?_ | refine tA ?_ | refine tB ?_ | refine tL ?_ | refine tN ?_ | fail "no step")
      exact ⟨rfl, TLe.rfl, rfl, rfl⟩
theorem take_c (s : PS) (h : s.i < L.length) (hn : L.length ≤ 1000000) (t : List UInt8) : C0 L m 56 [c1 (ds (bs t))] (takeM L t) (fun _ => .tup []) s := by
  have hi := is_c (m := m) s.i h t
  refine C0.of fun T hT => ?_
  unfold takeM at hT
  rcases hv : isV L s.i t with _ | _ <;> rw [hv] at hi hT
  · obtain rfl : PR.err s.i 4 = T := hT
    refine fn_ruleP (C := ⟨Tryz.prog, layF, Tryz.f56.ntmps, ΓL, 2, [], []⟩) layF_ok mixed Tryz.func56 rfl (by kernel_rfl) rfl rfl rfl SLe.rfl ?_
    refine ex_callM (CallsM.ren (hi) [0, 1] 2 rfl rfl rfl rfl) ?_
    repeat' (first | refine tT ?_ | refine tF ?_ | refine ex_dec (fun _ => ?_) (fun _ => ?_) | refine t8 ?_ | refine tI ?_ | refine tU ?_ | refine tA ?_ | refine tB ?_ | refine tL ?_ | refine tN ?_ | fail "no step")
    refine ex_callM (CallsM.ren ((fail_c s.i 4 h)) [0, 1] 2 rfl rfl rfl rfl) ?_
    exact ⟨⟨_, rfl, rfl⟩, rfl, rfl⟩
  · obtain rfl : PR.ok () { s with i := s.i + 1 } = T := hT
    refine fn_ruleP (C := ⟨Tryz.prog, layF, Tryz.f56.ntmps, ΓL, 2, [], []⟩) layF_ok mixed Tryz.func56 rfl (by kernel_rfl) rfl rfl rfl SLe.rfl ?_
    refine ex_callM (CallsM.ren (hi) [0, 1] 2 rfl rfl rfl rfl) ?_
    repeat' (first | refine ex_i64 ((s.i + 1 : Nat) : Int) (by omega) (by omega) (by omega) ?_ | refine ex_u64 ((s.i + 1 : Nat) : Int) (by omega) (by omega) (by omega) ?_ | refine ex_u8 ((s.i + 1 : Nat) : Int) (by omega) (by omega) (by omega) ?_ | refine tT ?_ | refine tF ?_ | refine ex_dec (fun _ => ?_) (fun _ => ?_) | refine t8 ?_ | refine tI ?_ | refine tU ?_ | refine tA ?_ | refine tB ?_ | refine tL ?_ | refine tN ?_ | fail "no step")
    exact ⟨rfl, TLe.rfl, rfl, rfl⟩
theorem may_yes (i : Nat) (h : i < L.length) (hn : L.length ≤ 1000000) (t : List UInt8) (hv : isV L i t = true) : CallsM Tryz.prog ΓL 59 [(0, Qz L m i)] 2 [P0, c1 (ds (bs t))] (Tb true) [(0, Qz L m (i + 1))] [] := by
  have hi := is_c (m := m) i h t
  rw [hv] at hi
  refine fn_ruleM (C := ⟨Tryz.prog, layF, Tryz.f59.ntmps, ΓL, 2, [], []⟩) layF_ok mixed Tryz.func59 rfl (by kernel_rfl) rfl rfl rfl ?_
  refine ex_callM (CallsM.ren (hi) [0, 1] 2 rfl rfl rfl rfl) ?_
  repeat' (first | refine ex_i64 ((i + 1 : Nat) : Int) (by omega) (by omega) (by omega) ?_ | refine ex_u64 ((i + 1 : Nat) : Int) (by omega) (by omega) (by omega) ?_ | refine ex_u8 ((i + 1 : Nat) : Int) (by omega) (by omega) (by omega) ?_ | refine tT ?_ | refine tF ?_ | refine ex_dec (fun _ => ?_) (fun _ => ?_) | refine t8 ?_ | refine tI ?_ | refine tU ?_ | refine tA ?_ | refine tB ?_ | refine tL ?_ | refine tN ?_ | fail "no step")
  exact ⟨rfl, TLe.rfl, rfl, rfl⟩
theorem may_no (i : Nat) (h : i < L.length) (t : List UInt8) (hv : isV L i t = false) : CallsM Tryz.prog ΓL 59 [(0, Qz L m i)] 2 [P0, c1 (ds (bs t))] (Tb false) [(0, Qz L m i)] [] := by
  have hi := is_c (m := m) i h t
  rw [hv] at hi
  refine fn_ruleM (C := ⟨Tryz.prog, layF, Tryz.f59.ntmps, ΓL, 2, [], []⟩) layF_ok mixed Tryz.func59 rfl (by kernel_rfl) rfl rfl rfl ?_
  refine ex_callM (CallsM.ren (hi) [0, 1] 2 rfl rfl rfl rfl) ?_
  repeat' (first | refine tT ?_ | refine tF ?_ | refine ex_dec (fun _ => ?_) (fun _ => ?_) | refine t8 ?_ | refine tI ?_ | refine tU ?_ | refine tA ?_ | refine tB ?_ | refine tL ?_ | refine tN ?_ | fail "no step")
  exact ⟨rfl, TLe.rfl, rfl, rfl⟩
theorem named_c (i : Nat) (h : i < L.length) : CallsM Tryz.prog ΓL 60 [(0, Qz L m i)] 2 [P0] (Tb (namedV L i)) [(0, Qz L m i)] [] := by
  have ha := ahead_c (L := L) (m := m) i h
  obtain ⟨R, hR⟩ : ∃ R, namedV L i = R := ⟨_, rfl⟩
  rw [hR]
  unfold namedV at hR
  generalize tk L i = u at *
  have hk := (key_c u.t).gL
  generalize keyV u.t = q at *
  by_cases h0 : u.k = 0
  · obtain rfl : (!q) = R := by rw [← hR, decide_eq_true h0]; rfl
    cases q
    all_goals
      refine fn_ruleM (C := ⟨Tryz.prog, layF, Tryz.f60.ntmps, ΓL, 2, [], []⟩) layF_ok mixed Tryz.func60 rfl (by kernel_rfl) rfl rfl rfl ?_
      refine ex_callM (CallsM.ren (ha) [0, 1] 2 rfl rfl rfl rfl) ?_
      repeat' (first | refine tT ?_ | refine tF ?_ | refine ex_dec (fun _ => ?_) (fun _ => ?_) | refine t8 ?_ | refine tI ?_ | refine tU ?_ | refine tA ?_ | refine tB ?_ | refine tL ?_ | refine tN ?_ | fail "no step")
      refine ex_callM (CallsM.ren (ha) [0, 1] 2 rfl rfl rfl rfl) ?_
      repeat' (first | refine ex_call hk ?_ | refine tT ?_ | refine tF ?_ | refine ex_dec (fun _ => ?_) (fun _ => ?_) | refine t8 ?_ | refine tI ?_ | refine tU ?_ | refine tA ?_ | refine tB ?_ | refine tL ?_ | refine tN ?_ | fail "no step")
      exact ⟨rfl, TLe.rfl, rfl, rfl⟩
  · obtain rfl : false = R := by rw [← hR, decide_eq_false h0]; rfl
    refine fn_ruleM (C := ⟨Tryz.prog, layF, Tryz.f60.ntmps, ΓL, 2, [], []⟩) layF_ok mixed Tryz.func60 rfl (by kernel_rfl) rfl rfl rfl ?_
    refine ex_callM (CallsM.ren (ha) [0, 1] 2 rfl rfl rfl rfl) ?_
    repeat' (first | refine tT ?_ | refine tF ?_ | refine ex_dec (fun _ => ?_) (fun _ => ?_) | refine t8 ?_ | refine tI ?_ | refine tU ?_ | refine tA ?_ | refine tB ?_ | refine tL ?_ | refine tN ?_ | fail "no step")
    exact ⟨rfl, TLe.rfl, rfl, rfl⟩
theorem name_c (s : PS) (h : s.i < L.length) (hn : L.length ≤ 1000000) : C0 L m 57 [] (nameM L) (fun w => Tstr (bs w)) s := by
  have hi := named_c (m := m) s.i h
  refine C0.of fun T hT => ?_
  unfold nameM at hT
  rcases hv : namedV L s.i with _ | _ <;> rw [hv] at hi hT
  · obtain rfl : PR.err s.i 4 = T := hT
    refine fn_ruleP (C := ⟨Tryz.prog, layF, Tryz.f57.ntmps, ΓL, 2, [], []⟩) layF_ok mixed Tryz.func57 rfl (by kernel_rfl) rfl rfl rfl SLe.rfl ?_
    refine ex_callM (CallsM.ren (hi) [0, 1] 2 rfl rfl rfl rfl) ?_
    repeat' (first | refine tT ?_ | refine tF ?_ | refine ex_dec (fun _ => ?_) (fun _ => ?_) | refine t8 ?_ | refine tI ?_ | refine tU ?_ | refine tA ?_ | refine tB ?_ | refine tL ?_ | refine tN ?_ | fail "no step")
    refine ex_callM (CallsM.ren ((fail_c s.i 4 h)) [0, 1] 2 rfl rfl rfl rfl) ?_
    exact ⟨⟨_, rfl, rfl⟩, rfl, rfl⟩
  · obtain rfl : PR.ok (tk L s.i).t { s with i := s.i + 1 } = T := hT
    refine fn_ruleP (C := ⟨Tryz.prog, layF, Tryz.f57.ntmps, ΓL, 2, [], []⟩) layF_ok mixed Tryz.func57 rfl (by kernel_rfl) rfl rfl rfl SLe.rfl ?_
    refine ex_callM (CallsM.ren (hi) [0, 1] 2 rfl rfl rfl rfl) ?_
    repeat' (first | refine ex_i64 ((s.i : Nat) : Int) (by omega) (by omega) (by omega) ?_ | refine ex_u64 ((s.i : Nat) : Int) (by omega) (by omega) (by omega) ?_ | refine ex_u8 ((s.i : Nat) : Int) (by omega) (by omega) (by omega) ?_ | refine ex_i64 ((s.i + 1 : Nat) : Int) (by omega) (by omega) (by omega) ?_ | refine ex_u64 ((s.i + 1 : Nat) : Int) (by omega) (by omega) (by omega) ?_ | refine ex_u8 ((s.i + 1 : Nat) : Int) (by omega) (by omega) (by omega) ?_ | refine (ex_row s.i _ rfl (tk_at h)) ?_ | refine tT ?_ | refine tF ?_ | refine ex_dec (fun _ => ?_) (fun _ => ?_) | refine t8 ?_ | refine tI ?_ | refine tU ?_ | refine tA ?_ | refine tB ?_ | refine tL ?_ | refine tN ?_ | fail "no step")
    exact ⟨rfl, TLe.rfl, rfl, rfl⟩
theorem num_c (s : PS) (h : s.i < L.length) (hn : L.length ≤ 1000000) : C0 L m 58 [] (numberM L) (fun n => Tu n) s := by
  have ha := ahead_c (L := L) (m := m) s.i h
  refine C0.of fun T hT => ?_
  unfold numberM at hT
  by_cases hv : (tk L s.i).k = 1
  · rw [if_pos hv] at hT
    subst hT
    refine fn_ruleP (C := ⟨Tryz.prog, layF, Tryz.f58.ntmps, ΓL, 2, [], []⟩) layF_ok mixed Tryz.func58 rfl (by kernel_rfl) rfl rfl rfl SLe.rfl ?_
    refine ex_callM (CallsM.ren (ha) [0, 1] 2 rfl rfl rfl rfl) ?_
    repeat' (first | refine ex_i64 ((s.i : Nat) : Int) (by omega) (by omega) (by omega) ?_ | refine ex_u64 ((s.i : Nat) : Int) (by omega) (by omega) (by omega) ?_ | refine ex_u8 ((s.i : Nat) : Int) (by omega) (by omega) (by omega) ?_ | refine ex_i64 ((s.i + 1 : Nat) : Int) (by omega) (by omega) (by omega) ?_ | refine ex_u64 ((s.i + 1 : Nat) : Int) (by omega) (by omega) (by omega) ?_ | refine ex_u8 ((s.i + 1 : Nat) : Int) (by omega) (by omega) (by omega) ?_ | refine (ex_row s.i _ rfl (tk_at h)) ?_ | refine tT ?_ | refine tF ?_ | refine ex_dec (fun _ => ?_) (fun _ => ?_) | refine t8 ?_ | refine tI ?_ | refine tU ?_ | refine tA ?_ | refine tB ?_ | refine tL ?_ | refine tN ?_ | fail "no step")
    exact ⟨rfl, TLe.rfl, rfl, rfl⟩
  · rw [if_neg hv] at hT
    obtain rfl : PR.err s.i 4 = T := hT
    refine fn_ruleP (C := ⟨Tryz.prog, layF, Tryz.f58.ntmps, ΓL, 2, [], []⟩) layF_ok mixed Tryz.func58 rfl (by kernel_rfl) rfl rfl rfl SLe.rfl ?_
    refine ex_callM (CallsM.ren (ha) [0, 1] 2 rfl rfl rfl rfl) ?_
    repeat' (first | refine tT ?_ | refine tF ?_ | refine ex_dec (fun _ => ?_) (fun _ => ?_) | refine t8 ?_ | refine tI ?_ | refine tU ?_ | refine tA ?_ | refine tB ?_ | refine tL ?_ | refine tN ?_ | fail "no step")
    refine ex_callM (CallsM.ren ((fail_c s.i 4 h)) [0, 1] 2 rfl rfl rfl rfl) ?_
    exact ⟨⟨_, rfl, rfl⟩, rfl, rfl⟩
theorem room_c (s : PS) (h : s.i < L.length) (n : Nat) (hn : n ≤ 1000000) : C0 L m 39 [c1 (di n), c1 (di 64)] (roomM n) (fun _ => .tup []) s := by
  refine C0.of fun T hT => ?_
  unfold roomM at hT
  by_cases hv : 64 ≤ n
  · rw [if_pos hv] at hT
    obtain rfl : PR.err s.i 10 = T := hT
    refine fn_ruleP (C := ⟨Tryz.prog, layF, Tryz.f39.ntmps, ΓL, 2, [], []⟩) layF_ok mixed Tryz.func39 rfl (by kernel_rfl) rfl rfl rfl SLe.rfl ?_
    repeat' (first | refine tT ?_ | refine tF ?_ | refine ex_dec (fun _ => ?_) (fun _ => ?_) | refine t8 ?_ | refine tI ?_ | refine tU ?_ | refine tA ?_ | refine tB ?_ | refine tL ?_ | refine tN ?_ | fail "no step")
    refine ex_callM (CallsM.ren ((fail_c s.i 10 h)) [0, 1] 2 rfl rfl rfl rfl) ?_
    exact ⟨⟨_, rfl, rfl⟩, rfl, rfl⟩
  · rw [if_neg hv] at hT
    subst hT
    refine fn_ruleP (C := ⟨Tryz.prog, layF, Tryz.f39.ntmps, ΓL, 2, [], []⟩) layF_ok mixed Tryz.func39 rfl (by kernel_rfl) rfl rfl rfl SLe.rfl ?_
    repeat' (first | refine tT ?_ | refine tF ?_ | refine ex_dec (fun _ => ?_) (fun _ => ?_) | refine t8 ?_ | refine tI ?_ | refine tU ?_ | refine tA ?_ | refine tB ?_ | refine tL ?_ | refine tN ?_ | fail "no step")
    exact ⟨rfl, TLe.rfl, rfl, rfl⟩
theorem begins_c (i : Nat) (h : i < L.length) : CallsM Tryz.prog ΓL 152 [(0, Qz L m i)] 2 [P0] (Tb (beginsV L i)) [(0, Qz L m i)] [] := by
  have ha := ahead_c (L := L) (m := m) i h
  have h1 := is_c (m := m) i h t_bang
  have h2 := is_c (m := m) i h t_lpar
  have h3 := named_c (m := m) i h
  unfold beginsV
  generalize isV L i t_bang = a at *
  generalize isV L i t_lpar = b at *
  generalize namedV L i = c at *
  generalize tk L i = u at *
  cases a
  · cases b
    · cases c
      · by_cases h4 : u.k = 1
        · rw [decide_eq_true h4]
          refine fn_ruleM (C := ⟨Tryz.prog, layF, Tryz.f152.ntmps, ΓL, 2, [], []⟩) layF_ok mixed Tryz.func152 rfl (by kernel_rfl) rfl rfl rfl ?_
          refine ex_callM (CallsM.ren (h1) [0, 1] 2 rfl rfl rfl rfl) ?_
          repeat' (first | refine tT ?_ | refine tF ?_ | refine ex_dec (fun _ => ?_) (fun _ => ?_) | refine t8 ?_ | refine tI ?_ | refine tU ?_ | refine tA ?_ | refine tB ?_ | refine tL ?_ | refine tN ?_ | fail "no step")
          refine ex_callM (CallsM.ren (h2) [0, 1] 2 rfl rfl rfl rfl) ?_
          repeat' (first | refine tT ?_ | refine tF ?_ | refine ex_dec (fun _ => ?_) (fun _ => ?_) | refine t8 ?_ | refine tI ?_ | refine tU ?_ | refine tA ?_ | refine tB ?_ | refine tL ?_ | refine tN ?_ | fail "no step")
          refine ex_callM (CallsM.ren (h3) [0, 1] 2 rfl rfl rfl rfl) ?_
          repeat' (first | refine tT ?_ | refine tF ?_ | refine ex_dec (fun _ => ?_) (fun _ => ?_) | refine t8 ?_ | refine tI ?_ | refine tU ?_ | refine tA ?_ | refine tB ?_ | refine tL ?_ | refine tN ?_ | fail "no step")
          refine ex_callM (CallsM.ren (ha) [0, 1] 2 rfl rfl rfl rfl) ?_
          repeat' (first | refine tT ?_ | refine tF ?_ | refine ex_dec (fun _ => ?_) (fun _ => ?_) | refine t8 ?_ | refine tI ?_ | refine tU ?_ | refine tA ?_ | refine tB ?_ | refine tL ?_ | refine tN ?_ | fail "no step")
          exact ⟨rfl, TLe.rfl, rfl, rfl⟩
        · rw [decide_eq_false h4]
          refine fn_ruleM (C := ⟨Tryz.prog, layF, Tryz.f152.ntmps, ΓL, 2, [], []⟩) layF_ok mixed Tryz.func152 rfl (by kernel_rfl) rfl rfl rfl ?_
          refine ex_callM (CallsM.ren (h1) [0, 1] 2 rfl rfl rfl rfl) ?_
          repeat' (first | refine tT ?_ | refine tF ?_ | refine ex_dec (fun _ => ?_) (fun _ => ?_) | refine t8 ?_ | refine tI ?_ | refine tU ?_ | refine tA ?_ | refine tB ?_ | refine tL ?_ | refine tN ?_ | fail "no step")
          refine ex_callM (CallsM.ren (h2) [0, 1] 2 rfl rfl rfl rfl) ?_
          repeat' (first | refine tT ?_ | refine tF ?_ | refine ex_dec (fun _ => ?_) (fun _ => ?_) | refine t8 ?_ | refine tI ?_ | refine tU ?_ | refine tA ?_ | refine tB ?_ | refine tL ?_ | refine tN ?_ | fail "no step")
          refine ex_callM (CallsM.ren (h3) [0, 1] 2 rfl rfl rfl rfl) ?_
          repeat' (first | refine tT ?_ | refine tF ?_ | refine ex_dec (fun _ => ?_) (fun _ => ?_) | refine t8 ?_ | refine tI ?_ | refine tU ?_ | refine tA ?_ | refine tB ?_ | refine tL ?_ | refine tN ?_ | fail "no step")
          refine ex_callM (CallsM.ren (ha) [0, 1] 2 rfl rfl rfl rfl) ?_
          repeat' (first | refine tT ?_ | refine tF ?_ | refine ex_dec (fun _ => ?_) (fun _ => ?_) | refine t8 ?_ | refine tI ?_ | refine tU ?_ | refine tA ?_ | refine tB ?_ | refine tL ?_ | refine tN ?_ | fail "no step")
          exact ⟨rfl, TLe.rfl, rfl, rfl⟩
      ·
        refine fn_ruleM (C := ⟨Tryz.prog, layF, Tryz.f152.ntmps, ΓL, 2, [], []⟩) layF_ok mixed Tryz.func152 rfl (by kernel_rfl) rfl rfl rfl ?_
        refine ex_callM (CallsM.ren (h1) [0, 1] 2 rfl rfl rfl rfl) ?_
        repeat' (first | refine tT ?_ | refine tF ?_ | refine ex_dec (fun _ => ?_) (fun _ => ?_) | refine t8 ?_ | refine tI ?_ | refine tU ?_ | refine tA ?_ | refine tB ?_ | refine tL ?_ | refine tN ?_ | fail "no step")
        refine ex_callM (CallsM.ren (h2) [0, 1] 2 rfl rfl rfl rfl) ?_
        repeat' (first | refine tT ?_ | refine tF ?_ | refine ex_dec (fun _ => ?_) (fun _ => ?_) | refine t8 ?_ | refine tI ?_ | refine tU ?_ | refine tA ?_ | refine tB ?_ | refine tL ?_ | refine tN ?_ | fail "no step")
        refine ex_callM (CallsM.ren (h3) [0, 1] 2 rfl rfl rfl rfl) ?_
        repeat' (first | refine tT ?_ | refine tF ?_ | refine ex_dec (fun _ => ?_) (fun _ => ?_) | refine t8 ?_ | refine tI ?_ | refine tU ?_ | refine tA ?_ | refine tB ?_ | refine tL ?_ | refine tN ?_ | fail "no step")
        exact ⟨rfl, TLe.rfl, rfl, rfl⟩
    ·
      refine fn_ruleM (C := ⟨Tryz.prog, layF, Tryz.f152.ntmps, ΓL, 2, [], []⟩) layF_ok mixed Tryz.func152 rfl (by kernel_rfl) rfl rfl rfl ?_
      refine ex_callM (CallsM.ren (h1) [0, 1] 2 rfl rfl rfl rfl) ?_
      repeat' (first | refine tT ?_ | refine tF ?_ | refine ex_dec (fun _ => ?_) (fun _ => ?_) | refine t8 ?_ | refine tI ?_ | refine tU ?_ | refine tA ?_ | refine tB ?_ | refine tL ?_ | refine tN ?_ | fail "no step")
      refine ex_callM (CallsM.ren (h2) [0, 1] 2 rfl rfl rfl rfl) ?_
      repeat' (first | refine tT ?_ | refine tF ?_ | refine ex_dec (fun _ => ?_) (fun _ => ?_) | refine t8 ?_ | refine tI ?_ | refine tU ?_ | refine tA ?_ | refine tB ?_ | refine tL ?_ | refine tN ?_ | fail "no step")
      exact ⟨rfl, TLe.rfl, rfl, rfl⟩
  ·
    refine fn_ruleM (C := ⟨Tryz.prog, layF, Tryz.f152.ntmps, ΓL, 2, [], []⟩) layF_ok mixed Tryz.func152 rfl (by kernel_rfl) rfl rfl rfl ?_
    refine ex_callM (CallsM.ren (h1) [0, 1] 2 rfl rfl rfl rfl) ?_
    repeat' (first | refine tT ?_ | refine tF ?_ | refine ex_dec (fun _ => ?_) (fun _ => ?_) | refine t8 ?_ | refine tI ?_ | refine tU ?_ | refine tA ?_ | refine tB ?_ | refine tL ?_ | refine tN ?_ | fail "no step")
    exact ⟨rfl, TLe.rfl, rfl, rfl⟩
set_option maxHeartbeats 4000000 in
theorem starts_c (i : Nat) (h : i < L.length) : CallsM Tryz.prog ΓL 117 [(0, Qz L m i)] 2 [P0] (Tb (startsV L i)) [(0, Qz L m i)] [] := by
  have ha := ahead_c (L := L) (m := m) i h
  have h3 := named_c (m := m) i h
  unfold startsV
  generalize namedV L i = c at *
  generalize tk L i = u at *
  obtain ⟨w, hw⟩ : ∃ w, u.t = w := ⟨_, rfl⟩
  simp only [tokD, hw] at ha
  rw [hw]
  cases c
  · rw [Bool.false_or]
    by_cases h4 : u.k = 0
    · rw [decide_eq_true h4, Bool.true_and]
      by_cases hm : w ∈ typesL
      · rw [List.contains_iff_mem.2 hm, Bool.true_or]
        simp only [typesL, List.mem_cons, List.not_mem_nil, or_false] at hm
        rcases hm with rfl | rfl | rfl | rfl | rfl | rfl | rfl | rfl | rfl
        all_goals
          refine fn_ruleM (C := ⟨Tryz.prog, layF, Tryz.f117.ntmps, ΓL, 2, [], []⟩) layF_ok mixed Tryz.func117 rfl (by kernel_rfl) rfl rfl rfl ?_
          refine ex_callM (CallsM.ren (h3) [0, 1] 2 rfl rfl rfl rfl) ?_
          repeat' (first | refine tT ?_ | refine tF ?_ | refine ex_dec (fun _ => ?_) (fun _ => ?_) | refine t8 ?_ | refine tI ?_ | refine tU ?_ | refine tA ?_ | refine tB ?_ | refine tL ?_ | refine tN ?_ | fail "no step")
          refine ex_callM (CallsM.ren (ha) [0, 1] 2 rfl rfl rfl rfl) ?_
          repeat' (first | refine tT ?_ | refine tF ?_ | refine ex_dec (fun _ => ?_) (fun _ => ?_) | refine t8 ?_ | refine tI ?_ | refine tU ?_ | refine tA ?_ | refine tB ?_ | refine tL ?_ | refine tN ?_ | fail "no step")
          refine ex_callM (CallsM.ren (ha) [0, 1] 2 rfl rfl rfl rfl) ?_
          repeat' (first | refine tT ?_ | refine tF ?_ | refine ex_dec (fun _ => ?_) (fun _ => ?_) | refine t8 ?_ | refine tI ?_ | refine tU ?_ | refine tA ?_ | refine tB ?_ | refine tL ?_ | refine tN ?_ | fail "no step")
          exact ⟨rfl, TLe.rfl, rfl, rfl⟩
      · have hne : ∀ l, l ∈ typesL → ¬ bs w = bs l := fun l hl he => hm (by rw [bsj.1 he]; exact hl)
        rw [show typesL.contains w = false by simpa using hm, Bool.false_or]
        have hc := (integer_c w).gL
        rcases hv : integerV w with _ | ⟨n, l⟩ <;> rw [hv] at hc
        · have hc : CallsA Tryz.prog ΓL 82 [c1 (ds (bs w))] (.tup [c1 (di 0), c1 (db false), c1 (db false)]) := hc
          refine fn_ruleM (C := ⟨Tryz.prog, layF, Tryz.f117.ntmps, ΓL, 2, [], []⟩) layF_ok mixed Tryz.func117 rfl (by kernel_rfl) rfl rfl rfl ?_
          refine ex_callM (CallsM.ren (h3) [0, 1] 2 rfl rfl rfl rfl) ?_
          repeat' (first | refine tT ?_ | refine tF ?_ | refine ex_dec (fun _ => ?_) (fun _ => ?_) | refine t8 ?_ | refine tI ?_ | refine tU ?_ | refine tA ?_ | refine tB ?_ | refine tL ?_ | refine tN ?_ | fail "no step")
          refine ex_callM (CallsM.ren (ha) [0, 1] 2 rfl rfl rfl rfl) ?_
          repeat' (first | refine tT ?_ | refine tF ?_ | refine ex_dec (fun _ => ?_) (fun _ => ?_) | refine t8 ?_ | refine tI ?_ | refine tU ?_ | refine tA ?_ | refine tB ?_ | refine tL ?_ | refine tN ?_ | fail "no step")
          refine ex_callM (CallsM.ren (ha) [0, 1] 2 rfl rfl rfl rfl) ?_
          repeat' (first | refine ex_call hc ?_ | refine ex_false (hne _ (by decide)) ?_ | refine tT ?_ | refine tF ?_ | refine ex_dec (fun _ => ?_) (fun _ => ?_) | refine t8 ?_ | refine tI ?_ | refine tU ?_ | refine tA ?_ | refine tB ?_ | refine tL ?_ | refine tN ?_ | fail "no step")
          exact ⟨rfl, TLe.rfl, rfl, rfl⟩
        · have hc : CallsA Tryz.prog ΓL 82 [c1 (ds (bs w))] (.tup [c1 (di n), c1 (db l), c1 (db true)]) := hc
          refine fn_ruleM (C := ⟨Tryz.prog, layF, Tryz.f117.ntmps, ΓL, 2, [], []⟩) layF_ok mixed Tryz.func117 rfl (by kernel_rfl) rfl rfl rfl ?_
          refine ex_callM (CallsM.ren (h3) [0, 1] 2 rfl rfl rfl rfl) ?_
          repeat' (first | refine tT ?_ | refine tF ?_ | refine ex_dec (fun _ => ?_) (fun _ => ?_) | refine t8 ?_ | refine tI ?_ | refine tU ?_ | refine tA ?_ | refine tB ?_ | refine tL ?_ | refine tN ?_ | fail "no step")
          refine ex_callM (CallsM.ren (ha) [0, 1] 2 rfl rfl rfl rfl) ?_
          repeat' (first | refine tT ?_ | refine tF ?_ | refine ex_dec (fun _ => ?_) (fun _ => ?_) | refine t8 ?_ | refine tI ?_ | refine tU ?_ | refine tA ?_ | refine tB ?_ | refine tL ?_ | refine tN ?_ | fail "no step")
          refine ex_callM (CallsM.ren (ha) [0, 1] 2 rfl rfl rfl rfl) ?_
          repeat' (first | refine ex_call hc ?_ | refine ex_false (hne _ (by decide)) ?_ | refine tT ?_ | refine tF ?_ | refine ex_dec (fun _ => ?_) (fun _ => ?_) | refine t8 ?_ | refine tI ?_ | refine tU ?_ | refine tA ?_ | refine tB ?_ | refine tL ?_ | refine tN ?_ | fail "no step")
          exact ⟨rfl, TLe.rfl, rfl, rfl⟩
    · rw [decide_eq_false h4, Bool.false_and]
      refine fn_ruleM (C := ⟨Tryz.prog, layF, Tryz.f117.ntmps, ΓL, 2, [], []⟩) layF_ok mixed Tryz.func117 rfl (by kernel_rfl) rfl rfl rfl ?_
      refine ex_callM (CallsM.ren (h3) [0, 1] 2 rfl rfl rfl rfl) ?_
      repeat' (first | refine tT ?_ | refine tF ?_ | refine ex_dec (fun _ => ?_) (fun _ => ?_) | refine t8 ?_ | refine tI ?_ | refine tU ?_ | refine tA ?_ | refine tB ?_ | refine tL ?_ | refine tN ?_ | fail "no step")
      refine ex_callM (CallsM.ren (ha) [0, 1] 2 rfl rfl rfl rfl) ?_
      repeat' (first | refine tT ?_ | refine tF ?_ | refine ex_dec (fun _ => ?_) (fun _ => ?_) | refine t8 ?_ | refine tI ?_ | refine tU ?_ | refine tA ?_ | refine tB ?_ | refine tL ?_ | refine tN ?_ | fail "no step")
      exact ⟨rfl, TLe.rfl, rfl, rfl⟩
  · rw [Bool.true_or]
    refine fn_ruleM (C := ⟨Tryz.prog, layF, Tryz.f117.ntmps, ΓL, 2, [], []⟩) layF_ok mixed Tryz.func117 rfl (by kernel_rfl) rfl rfl rfl ?_
    refine ex_callM (CallsM.ren (h3) [0, 1] 2 rfl rfl rfl rfl) ?_
    repeat' (first | refine tT ?_ | refine tF ?_ | refine ex_dec (fun _ => ?_) (fun _ => ?_) | refine t8 ?_ | refine tI ?_ | refine tU ?_ | refine tA ?_ | refine tB ?_ | refine tL ?_ | refine tN ?_ | fail "no step")
    exact ⟨rfl, TLe.rfl, rfl, rfl⟩
end
end Go.Proofs.YtoingpafcodojaaGreatDoor

namespace Go.Proofs.YtoingpafcodojaaGreatDoor
open Go.RowKit

section
variable {L : List TokP} {m : Nat}
theorem put_c (s : PS) (x : EX) (hx : s.xs.length ≤ 1000000) : C1 L m 156 [gD (exD x)] (putM x) (fun k => Ti k) s := by
  refine C1.of fun T hT => ?_
  obtain rfl : PR.ok (s.xs.length : Int) { s with xs := s.xs ++ [x] } = T := hT
  refine fn_ruleP (C := ⟨Tryz.prog, layF, Tryz.f156.ntmps, ΓL, 6, [], []⟩) layF_ok mixed Tryz.func156 rfl (by kernel_rfl) rfl rfl rfl SLe.rfl ?_
  repeat' (first | refine tT ?_ | refine tF ?_ | refine ex_dec (fun _ => ?_) (fun _ => ?_) | refine t8 ?_ | refine tI ?_ | refine tU ?_ | refine tA ?_ | refine tB ?_ | refine tL ?_ | refine tN ?_ | fail "no step")
  refine ex_app (s.xs.length) (1) 1000 (by first | rfl | (simp; done) | (simp; omega)) (by first | rfl | (simp; done) | (simp; omega)) rfl (by omega) ?_
  refine ex_is (List.map exD (s.xs ++ [x])) (by rw [List.map_append]; rfl) ?_
  repeat' (first | refine ex_i64 ((s.xs.length : Nat) : Int) (by omega) (by omega) (by omega) ?_ | refine ex_u64 ((s.xs.length : Nat) : Int) (by omega) (by omega) (by omega) ?_ | refine ex_u8 ((s.xs.length : Nat) : Int) (by omega) (by omega) (by omega) ?_ | refine (ex_is (s.xs.length + 1) (by simp)) ?_ | refine tT ?_ | refine tF ?_ | refine ex_dec (fun _ => ?_) (fun _ => ?_) | refine t8 ?_ | refine tI ?_ | refine tU ?_ | refine tA ?_ | refine tB ?_ | refine tL ?_ | refine tN ?_ | fail "no step")
  exact ⟨rfl, TLe.rfl, rfl, rfl⟩
theorem lay_c (s : PS) (x : TY) (hx : s.ts.length ≤ 1000000) : CallsM Tryz.prog ΓL 122 [(0, Qz L m s.i), (1, Fz 2 3 4 5), (5, Tz s.ts)] 6 [P0, gD (tyD x)] (Ti s.ts.length) [(0, Qz L m s.i), (1, Fz 2 3 4 6), (5, .dead)] [Tz (s.ts ++ [x])] := by
  refine fn_ruleP (C := ⟨Tryz.prog, layF, Tryz.f122.ntmps, ΓL, 6, [], []⟩) layF_ok mixed Tryz.func122 rfl (by kernel_rfl) rfl rfl rfl SLe.rfl ?_
  repeat' (first | refine tT ?_ | refine tF ?_ | refine ex_dec (fun _ => ?_) (fun _ => ?_) | refine t8 ?_ | refine tI ?_ | refine tU ?_ | refine tA ?_ | refine tB ?_ | refine tL ?_ | refine tN ?_ | fail "no step")
  refine ex_app (s.ts.length) (1) 1000 (by first | rfl | (simp; done) | (simp; omega)) (by first | rfl | (simp; done) | (simp; omega)) rfl (by omega) ?_
  refine ex_is (List.map tyD (s.ts ++ [x])) (by rw [List.map_append]; rfl) ?_
  repeat' (first | refine ex_i64 ((s.ts.length : Nat) : Int) (by omega) (by omega) (by omega) ?_ | refine ex_u64 ((s.ts.length : Nat) : Int) (by omega) (by omega) (by omega) ?_ | refine ex_u8 ((s.ts.length : Nat) : Int) (by omega) (by omega) (by omega) ?_ | refine (ex_is (s.ts.length + 1) (by simp)) ?_ | refine tT ?_ | refine tF ?_ | refine ex_dec (fun _ => ?_) (fun _ => ?_) | refine t8 ?_ | refine tI ?_ | refine tU ?_ | refine tA ?_ | refine tB ?_ | refine tL ?_ | refine tN ?_ | fail "no step")
  exact ⟨rfl, TLe.rfl, rfl, rfl⟩
theorem put0_c (i : Nat) (xs : List EX) (k : Nat) (n : Nat) (w : List UInt8) (hx : xs.length ≤ 1000000) :
    CallsM Tryz.prog ΓL 156 [(0, Qz L m i), (1, Fz 2 3 4 5), (4, Xz xs)] 6 [P0, gD [di k, ds ⟨#[]⟩, du n, ds (bs w), dnil]] (Ti xs.length) [(0, Qz L m i), (1, Fz 2 3 6 5), (4, .dead)] [Xz (xs ++ [⟨k, [], n, w, []⟩])] :=
  ((put_c (L := L) (m := m) ⟨i, xs, []⟩ ⟨k, [], n, w, []⟩ hx).ok rfl).argsLe (.cons T1Le.rfl (.cons (T1Le.g (.cons DLe.rfl (.cons DLe.rfl (.cons DLe.rfl (.cons DLe.rfl (.cons DLe.nil .nil)))))) .nil))
theorem deeper_no (s : PS) (hi : s.i < L.length) (h a : Nat) (l : List CV) : CallsM Tryz.prog ΓL 153 [(0, Qz L m s.i)] 2 [P0, c1 (db false), .f h a l] (.pan (flt L s.i 4)) [(0, .dead)] [] := by
  refine fn_ruleP (C := ⟨Tryz.prog, layF, Tryz.f153.ntmps, ΓL, 2, [], []⟩) layF_ok mixed Tryz.func153 rfl (by kernel_rfl) rfl rfl rfl SLe.rfl ?_
  repeat' (first | refine tT ?_ | refine tF ?_ | refine ex_dec (fun _ => ?_) (fun _ => ?_) | refine t8 ?_ | refine tI ?_ | refine tU ?_ | refine tA ?_ | refine tB ?_ | refine tL ?_ | refine tN ?_ | fail "no step")
  refine sC (CallsM.ren ((fail_c s.i 4 hi)) [0, 1] 2 rfl rfl rfl rfl) ?_
  exact ⟨⟨_, rfl, rfl⟩, rfl, rfl⟩
theorem deeper_deep (s : PS) (hi : s.i < L.length) (h a : Nat) (l : List CV) : CallsM Tryz.prog ΓL 153 [(0, Qz L 0 s.i)] 2 [P0, c1 (db true), .f h a l] (.pan (flt L s.i 8)) [(0, .dead)] [] := by
  refine fn_ruleP (C := ⟨Tryz.prog, layF, Tryz.f153.ntmps, ΓL, 2, [], []⟩) layF_ok mixed Tryz.func153 rfl (by kernel_rfl) rfl rfl rfl SLe.rfl ?_
  repeat' (first | refine tT ?_ | refine tF ?_ | refine ex_dec (fun _ => ?_) (fun _ => ?_) | refine t8 ?_ | refine tI ?_ | refine tU ?_ | refine tA ?_ | refine tB ?_ | refine tL ?_ | refine tN ?_ | fail "no step")
  refine sC (CallsM.ren ((fail_c s.i 8 hi)) [0, 1] 2 rfl rfl rfl rfl) ?_
  exact ⟨⟨_, rfl, rfl⟩, rfl, rfl⟩
theorem deep_assoc {α β : Type} {x : PM α} {f : α → PM β} {p : Nat → Bool} {s : PS} {T : PR β} (h : ((fun s => enterM m (p s.i) s) >>= fun _ => x >>= f) s = T) : ((enterM m (p s.i) >>= fun _ => x) >>= f) s = T := by
  rw [← h]
  show PM.and (PM.and (enterM m (p s.i)) fun _ => x) f s = PM.and (fun s => enterM m (p s.i) s) (fun _ => PM.and x f) s
  unfold PM.and
  dsimp only
  cases enterM m (p s.i) s <;> rfl
theorem PR.end1 {T : PR Int} {k : Int} {s : PS} (h : T = .ok k s) : PR.ok k s = T := h.symm
theorem deeper1_c {x : PM Int} {h : FuncId} (s : PS) (hi : s.i < L.length) (hm : m ≤ 32) (hc : ∀ m', m = m' + 1 → C1 L m' h [] x (fun k => Ti k) s) (b : Bool) :
    C1 L m 153 [c1 (db b), .f h 1 [.ptr 0 0]] (enterM m b >>= fun _ => x) (fun k => Ti k) s := by
  refine C1.of fun T hT => ?_
  cases b
  · obtain rfl : PR.err s.i 4 = T := hT
    refine fn_ruleP (C := ⟨Tryz.prog, layF, Tryz.f153.ntmps, ΓL, 6, [], []⟩) layF_ok mixed Tryz.func153 rfl (by kernel_rfl) rfl rfl rfl SLe.rfl ?_
    repeat' (first | refine tT ?_ | refine tF ?_ | refine ex_dec (fun _ => ?_) (fun _ => ?_) | refine t8 ?_ | refine tI ?_ | refine tU ?_ | refine tA ?_ | refine tB ?_ | refine tL ?_ | refine tN ?_ | fail "no step")
    refine sC (CallsM.ren ((fail_c s.i 4 hi)) [0, 1] 6 rfl rfl rfl rfl) ?_
    exact ⟨⟨_, rfl, rfl⟩, rfl, rfl⟩
  · cases m with
    | zero =>
      obtain rfl : PR.err s.i 8 = T := hT
      refine fn_ruleP (C := ⟨Tryz.prog, layF, Tryz.f153.ntmps, ΓL, 6, [], []⟩) layF_ok mixed Tryz.func153 rfl (by kernel_rfl) rfl rfl rfl SLe.rfl ?_
      repeat' (first | refine tT ?_ | refine tF ?_ | refine ex_dec (fun _ => ?_) (fun _ => ?_) | refine t8 ?_ | refine tI ?_ | refine tU ?_ | refine tA ?_ | refine tB ?_ | refine tL ?_ | refine tN ?_ | fail "no step")
      refine sC (CallsM.ren ((fail_c s.i 8 hi)) [0, 1] 6 rfl rfl rfl rfl) ?_
      exact ⟨⟨_, rfl, rfl⟩, rfl, rfl⟩
    | succ m =>
      have hT : x s = T := hT
      have hc := hc m rfl
      rcases T with ⟨k, s1⟩ | ⟨i, e⟩
      ·
        refine fn_ruleP (C := ⟨Tryz.prog, layF, Tryz.f153.ntmps, ΓL, 6, [], []⟩) layF_ok mixed Tryz.func153 rfl (by kernel_rfl) rfl rfl rfl SLe.rfl ?_
        repeat' (first | refine ex_i64 (32 - ((m : Nat) : Int)) (by omega) (by omega) (by omega) ?_ | refine ex_u64 (32 - ((m : Nat) : Int)) (by omega) (by omega) (by omega) ?_ | refine ex_u8 (32 - ((m : Nat) : Int)) (by omega) (by omega) (by omega) ?_ | refine tT ?_ | refine tF ?_ | refine ex_dec (fun _ => ?_) (fun _ => ?_) | refine t8 ?_ | refine tI ?_ | refine tU ?_ | refine tA ?_ | refine tB ?_ | refine tL ?_ | refine tN ?_ | fail "no step")
        refine sC (CallsM.ren ((hc.ok hT)) [0, 1, 2, 3, 4, 5] 6 rfl rfl rfl rfl) ?_
        repeat' (first | refine ex_i64 (32 - ((m + 1 : Nat) : Int)) (by omega) (by omega) (by omega) ?_ | refine ex_u64 (32 - ((m + 1 : Nat) : Int)) (by omega) (by omega) (by omega) ?_ | refine ex_u8 (32 - ((m + 1 : Nat) : Int)) (by omega) (by omega) (by omega) ?_ | refine tT ?_ | refine tF ?_ | refine ex_dec (fun _ => ?_) (fun _ => ?_) | refine t8 ?_ | refine tI ?_ | refine tU ?_ | refine tA ?_ | refine tB ?_ | refine tL ?_ | refine tN ?_ | fail "no step")
        exact ⟨rfl, TLe.rfl, rfl, rfl⟩
      ·
        refine fn_ruleP (C := ⟨Tryz.prog, layF, Tryz.f153.ntmps, ΓL, 6, [], []⟩) layF_ok mixed Tryz.func153 rfl (by kernel_rfl) rfl rfl rfl SLe.rfl ?_
        repeat' (first | refine ex_i64 (32 - ((m : Nat) : Int)) (by omega) (by omega) (by omega) ?_ | refine ex_u64 (32 - ((m : Nat) : Int)) (by omega) (by omega) (by omega) ?_ | refine ex_u8 (32 - ((m : Nat) : Int)) (by omega) (by omega) (by omega) ?_ | refine tT ?_ | refine tF ?_ | refine ex_dec (fun _ => ?_) (fun _ => ?_) | refine t8 ?_ | refine tI ?_ | refine tU ?_ | refine tA ?_ | refine tB ?_ | refine tL ?_ | refine tN ?_ | fail "no step")
        refine sC (CallsM.ren ((hc.err hT)) [0, 1, 2, 3, 4, 5] 6 rfl rfl rfl rfl) ?_
        exact ⟨⟨_, rfl, rfl⟩, rfl, rfl⟩
theorem mv_take1 {t : List UInt8} {i : Nat} {xs : List EX} {ts : List TY} {v : Unit} {s' : PS} (h : takeM L t ⟨i, xs, ts⟩ = .ok v s') : s' = ⟨i + 1, xs, ts⟩ := by
  unfold takeM at h; split at h <;> cases h; rfl
theorem mv_name1 {i : Nat} {xs : List EX} {ts : List TY} {v : List UInt8} {s' : PS} (h : nameM L ⟨i, xs, ts⟩ = .ok v s') : s' = ⟨i + 1, xs, ts⟩ := by
  unfold nameM at h; split at h <;> cases h; rfl
theorem mv_num1 {i : Nat} {xs : List EX} {ts : List TY} {v : Nat} {s' : PS} (h : numberM L ⟨i, xs, ts⟩ = .ok v s') : s' = ⟨i + 1, xs, ts⟩ := by
  unfold numberM at h; split at h <;> cases h; rfl
theorem mv_room1 {n i : Nat} {xs : List EX} {ts : List TY} {v : Unit} {s' : PS} (h : roomM n ⟨i, xs, ts⟩ = .ok v s') : s' = ⟨i, xs, ts⟩ := by
  unfold roomM at h; split at h <;> cases h; rfl
section
variable {α β : Type} {p : Nat → Bool} {x y : PM α} {f : Unit → PM β} {i : Nat} {xs : List EX} {ts : List TY}
theorem aty {T : PR α} (hT : atM p x y ⟨i, xs, ts⟩ = T) (h : p i = true) : x ⟨i, xs, ts⟩ = T := (at_pos (s := ⟨i, xs, ts⟩) h).symm.trans hT
theorem atn {T : PR α} (hT : atM p x y ⟨i, xs, ts⟩ = T) (h : p i = false) : y ⟨i, xs, ts⟩ = T := (at_neg (s := ⟨i, xs, ts⟩) h).symm.trans hT
theorem stp1 {T : PR β} (hT : (stepM >>= f) ⟨i, xs, ts⟩ = T) : f () ⟨i + 1, xs, ts⟩ = T := hT
theorem stpS (hL : TokOk L) {c : Nat} (h : SOk L c ⟨i, xs, ts⟩) (hk : (tk L i).k ≠ 3) : SOk L (c + 1) ⟨i + 1, xs, ts⟩ := stepP_ok hL h hk
theorem SOk.lt {c : Nat} (h : SOk L c ⟨i, xs, ts⟩) : i < L.length := h.i
theorem SOk.lx {c : Nat} (h : SOk L c ⟨i, xs, ts⟩) : xs.length + c ≤ i := h.x
theorem SOk.lt' {c : Nat} (h : SOk L c ⟨i, xs, ts⟩) : ts.length + c ≤ i := h.t
end
set_option maxHeartbeats 4000000 in
theorem unary_step (hL : TokOk L) (hn : L.length ≤ 100000) (hm : m ≤ 32) {un ex : PM Int} (hu : m ≠ 0 → Up L un 0 0) (he : m ≠ 0 → Up L ex 0 0)
    (h1 : ∀ m', m = m' + 1 → ∀ s, SOk L 0 s → C1 L m' 155 [] un (fun k => Ti k) s)
    (h2 : ∀ m', m = m' + 1 → ∀ s, SOk L 0 s → C1 L m' 85 [] ex (fun k => Ti k) s) (s : PS) (hs : SOk L 0 s) : C1 L m 155 [] (unF L m un ex) (fun k => Ti k) s := by
  refine C1.of fun T hT => ?_
  unfold unF at hT
  obtain ⟨i, xs, ts⟩ := s
  have hi := hs.lt
  have hxl := hs.lx
  have hdeep : ∀ {x : PM Int}, (m ≠ 0 → Up L x 0 0) → ∀ b, Up L (enterM m b >>= fun _ => x) 0 0 := fun {x} h b => by
    by_cases h0 : m = 0
    · intro s c hs
      subst h0
      have e : (enterM 0 b >>= fun _ => x) s = .err s.i (if b = true then 8 else 4) := by cases b <;> rfl
      rw [e]
      cases b
      · exact ⟨Nat.le_refl _, hs.i, by decide, by decide⟩
      · exact ⟨Nat.le_refl _, hs.i, by decide, by decide⟩
    · exact (Up.enter m b 0).and fun _ => h h0
  have hbg := fun h => begins_c (L := L) (m := m) (i + 1) h
  rcases hv : isV L i t_bang with _ | _
  · replace hT := atn hT hv
    rcases hv2 : isV L i t_lpar with _ | _
    · replace hT := atn hT hv2
      have hnm := named_c (m := m) i hi
      rcases hv3 : namedV L i with _ | _ <;> rw [hv3] at hnm
      · replace hT := atn hT hv3
        refine fn_ruleP (C := ⟨Tryz.prog, layF, Tryz.f155.ntmps, ΓL, 6, [], []⟩) layF_ok mixed Tryz.func155 rfl (by kernel_rfl) rfl rfl rfl SLe.rfl ?_
        refine sC (CallsM.ren ((may_no i hi _ hv)) [0, 1] 6 rfl rfl rfl rfl) ?_
        repeat' (first | refine tT ?_ | refine tF ?_ | refine ex_dec (fun _ => ?_) (fun _ => ?_) | refine t8 ?_ | refine tI ?_ | refine tU ?_ | refine tA ?_ | refine tB ?_ | refine tL ?_ | refine tN ?_ | fail "no step")
        refine sC (CallsM.ren ((may_no i hi _ hv2)) [0, 1] 6 rfl rfl rfl rfl) ?_
        repeat' (first | refine tT ?_ | refine tF ?_ | refine ex_dec (fun _ => ?_) (fun _ => ?_) | refine t8 ?_ | refine tI ?_ | refine tU ?_ | refine tA ?_ | refine tB ?_ | refine tL ?_ | refine tN ?_ | fail "no step")
        refine sC (CallsM.ren (hnm) [0, 1] 6 rfl rfl rfl rfl) ?_
        repeat' (first | refine tT ?_ | refine tF ?_ | refine ex_dec (fun _ => ?_) (fun _ => ?_) | refine t8 ?_ | refine tI ?_ | refine tU ?_ | refine tA ?_ | refine tB ?_ | refine tL ?_ | refine tN ?_ | fail "no step")
        have hcon := num_c (m := m) ⟨i, xs, ts⟩ hs.i (by omega)
        rcases hx129 : (numberM L) ⟨i, xs, ts⟩ with ⟨n, s9⟩ | ⟨i9, e9⟩
        rotate_left
        · obtain rfl := (and_err hx129).symm.trans hT
          refine sC (CallsM.ren (hcon.err hx129) [0, 1] 6 rfl rfl rfl rfl) ?_
          first | exact ⟨⟨_, rfl, rfl⟩, rfl, rfl⟩ | exact ⟨by kernel_rfl, ⟨_, rfl, rfl⟩, rfl, rfl⟩
        replace hT := (and_ok hx129).symm.trans hT
        refine sC (CallsM.ren (hcon.ok hx129) [0, 1] 6 rfl rfl rfl rfl) ?_
        clear hcon
        have hs1 := (Up.ok (Up.number hL 0) hs hx129).1
        obtain rfl := mv_num1 hx129
        repeat' (first | refine tT ?_ | refine tF ?_ | refine ex_dec (fun _ => ?_) (fun _ => ?_) | refine t8 ?_ | refine tI ?_ | refine tU ?_ | refine tA ?_ | refine tB ?_ | refine tL ?_ | refine tN ?_ | fail "no step")
        obtain rfl : PR.ok (xs.length : Int) ⟨i + 1, xs ++ [(⟨0, [], n, [], []⟩ : EX)], ts⟩ = T := hT
        refine sC (CallsM.ren ((put0_c (m := m) (i + 1) xs 0 n [] (by omega))) [0, 1, 2, 3, 4, 5] 6 rfl rfl rfl rfl) ?_
        repeat' (first | refine tT ?_ | refine tF ?_ | refine ex_dec (fun _ => ?_) (fun _ => ?_) | refine t8 ?_ | refine tI ?_ | refine tU ?_ | refine tA ?_ | refine tB ?_ | refine tL ?_ | refine tN ?_ | fail "no step")
        exact ⟨rfl, TLe.rfl, rfl, rfl⟩
      · replace hT := aty hT hv3
        refine fn_ruleP (C := ⟨Tryz.prog, layF, Tryz.f155.ntmps, ΓL, 6, [], []⟩) layF_ok mixed Tryz.func155 rfl (by kernel_rfl) rfl rfl rfl SLe.rfl ?_
        refine sC (CallsM.ren ((may_no i hi _ hv)) [0, 1] 6 rfl rfl rfl rfl) ?_
        repeat' (first | refine tT ?_ | refine tF ?_ | refine ex_dec (fun _ => ?_) (fun _ => ?_) | refine t8 ?_ | refine tI ?_ | refine tU ?_ | refine tA ?_ | refine tB ?_ | refine tL ?_ | refine tN ?_ | fail "no step")
        refine sC (CallsM.ren ((may_no i hi _ hv2)) [0, 1] 6 rfl rfl rfl rfl) ?_
        repeat' (first | refine tT ?_ | refine tF ?_ | refine ex_dec (fun _ => ?_) (fun _ => ?_) | refine t8 ?_ | refine tI ?_ | refine tU ?_ | refine tA ?_ | refine tB ?_ | refine tL ?_ | refine tN ?_ | fail "no step")
        refine sC (CallsM.ren (hnm) [0, 1] 6 rfl rfl rfl rfl) ?_
        repeat' (first | refine tT ?_ | refine tF ?_ | refine ex_dec (fun _ => ?_) (fun _ => ?_) | refine t8 ?_ | refine tI ?_ | refine tU ?_ | refine tA ?_ | refine tB ?_ | refine tL ?_ | refine tN ?_ | fail "no step")
        have hcon := name_c (m := m) ⟨i, xs, ts⟩ hs.i (by omega)
        rcases hx143 : (nameM L) ⟨i, xs, ts⟩ with ⟨w, s9⟩ | ⟨i9, e9⟩
        rotate_left
        · obtain rfl := (and_err hx143).symm.trans hT
          refine sC (CallsM.ren (hcon.err hx143) [0, 1] 6 rfl rfl rfl rfl) ?_
          first | exact ⟨⟨_, rfl, rfl⟩, rfl, rfl⟩ | exact ⟨by kernel_rfl, ⟨_, rfl, rfl⟩, rfl, rfl⟩
        replace hT := (and_ok hx143).symm.trans hT
        refine sC (CallsM.ren (hcon.ok hx143) [0, 1] 6 rfl rfl rfl rfl) ?_
        clear hcon
        have hs1 := (Up.ok (Up.name hL 0) hs hx143).1
        obtain rfl := mv_name1 hx143
        repeat' (first | refine tT ?_ | refine tF ?_ | refine ex_dec (fun _ => ?_) (fun _ => ?_) | refine t8 ?_ | refine tI ?_ | refine tU ?_ | refine tA ?_ | refine tB ?_ | refine tL ?_ | refine tN ?_ | fail "no step")
        obtain rfl : PR.ok (xs.length : Int) ⟨i + 1, xs ++ [(⟨1, [], 0, w, []⟩ : EX)], ts⟩ = T := hT
        refine sC (CallsM.ren ((put0_c (m := m) (i + 1) xs 1 0 w (by omega))) [0, 1, 2, 3, 4, 5] 6 rfl rfl rfl rfl) ?_
        repeat' (first | refine tT ?_ | refine tF ?_ | refine ex_dec (fun _ => ?_) (fun _ => ?_) | refine t8 ?_ | refine tI ?_ | refine tU ?_ | refine tA ?_ | refine tB ?_ | refine tL ?_ | refine tN ?_ | fail "no step")
        exact ⟨rfl, TLe.rfl, rfl, rfl⟩
    · replace hT := deep_assoc (stp1 (aty hT hv2))
      have hs1 := stpS hL hs (isV_k hv2)
      refine fn_ruleP (C := ⟨Tryz.prog, layF, Tryz.f155.ntmps, ΓL, 6, [], []⟩) layF_ok mixed Tryz.func155 rfl (by kernel_rfl) rfl rfl rfl SLe.rfl ?_
      refine sC (CallsM.ren ((may_no i hi _ hv)) [0, 1] 6 rfl rfl rfl rfl) ?_
      repeat' (first | refine tT ?_ | refine tF ?_ | refine ex_dec (fun _ => ?_) (fun _ => ?_) | refine t8 ?_ | refine tI ?_ | refine tU ?_ | refine tA ?_ | refine tB ?_ | refine tL ?_ | refine tN ?_ | fail "no step")
      refine sC (CallsM.ren ((may_yes i hi (by omega) _ hv2)) [0, 1] 6 rfl rfl rfl rfl) ?_
      repeat' (first | refine tT ?_ | refine tF ?_ | refine ex_dec (fun _ => ?_) (fun _ => ?_) | refine t8 ?_ | refine tI ?_ | refine tU ?_ | refine tA ?_ | refine tB ?_ | refine tL ?_ | refine tN ?_ | fail "no step")
      refine sC (CallsM.ren ((hbg hs1.lt)) [0, 1] 6 rfl rfl rfl rfl) ?_
      repeat' (first | refine tT ?_ | refine tF ?_ | refine ex_dec (fun _ => ?_) (fun _ => ?_) | refine t8 ?_ | refine tI ?_ | refine tU ?_ | refine tA ?_ | refine tB ?_ | refine tL ?_ | refine tN ?_ | fail "no step")
      have hcon := deeper1_c (m := m) ⟨i + 1, xs, ts⟩ hs1.lt hm (fun m' e => h2 m' e _ (hs1.less (by omega))) (beginsV L (i + 1))
      rcases hx : ((enterM m (beginsV L (i + 1)) >>= fun _ => ex)) ⟨i + 1, xs, ts⟩ with ⟨k, ⟨i2, xs2, ts2⟩⟩ | ⟨i9, e9⟩
      rotate_left
      · obtain rfl := (and_err hx).symm.trans hT
        refine sC (CallsM.ren (hcon.err hx) [0, 1, 2, 3, 4, 5] 6 rfl rfl rfl rfl) ?_
        first | exact ⟨⟨_, rfl, rfl⟩, rfl, rfl⟩ | exact ⟨by kernel_rfl, ⟨_, rfl, rfl⟩, rfl, rfl⟩
      replace hT := (and_ok hx).symm.trans hT
      refine sC (CallsM.ren (hcon.ok hx) [0, 1, 2, 3, 4, 5] 6 rfl rfl rfl rfl) ?_
      clear hcon
      have hs2 := (Up.ok ((hdeep he _).less (a' := 1) (b' := 1) 1 (by omega) (by omega)) hs1 hx).1
      repeat' (first | refine tT ?_ | refine tF ?_ | refine ex_dec (fun _ => ?_) (fun _ => ?_) | refine t8 ?_ | refine tI ?_ | refine tU ?_ | refine tA ?_ | refine tB ?_ | refine tL ?_ | refine tN ?_ | fail "no step")
      have hcon := take_c (m := m) ⟨i2, xs2, ts2⟩ hs2.i (by omega) t_rpar
      rcases hx160 : (takeM L t_rpar) ⟨i2, xs2, ts2⟩ with ⟨_, s9⟩ | ⟨i9, e9⟩
      rotate_left
      · obtain rfl := (and_err hx160).symm.trans hT
        refine sC (CallsM.ren (hcon.err hx160) [0, 1] 7 rfl rfl rfl rfl) ?_
        first | exact ⟨⟨_, rfl, rfl⟩, rfl, rfl⟩ | exact ⟨by kernel_rfl, ⟨_, rfl, rfl⟩, rfl, rfl⟩
      replace hT := (and_ok hx160).symm.trans hT
      refine sC (CallsM.ren (hcon.ok hx160) [0, 1] 7 rfl rfl rfl rfl) ?_
      clear hcon
      have hs3 := (Up.ok (Up.take hL t_rpar 0) hs2 hx160).1
      obtain rfl := mv_take1 hx160
      obtain rfl : PR.ok k ⟨i2 + 1, xs2, ts2⟩ = T := hT
      repeat' (first | refine tT ?_ | refine tF ?_ | refine ex_dec (fun _ => ?_) (fun _ => ?_) | refine t8 ?_ | refine tI ?_ | refine tU ?_ | refine tA ?_ | refine tB ?_ | refine tL ?_ | refine tN ?_ | fail "no step")
      exact ⟨rfl, TLe.rfl, rfl, rfl⟩
  · replace hT := deep_assoc (stp1 (aty hT hv))
    have hs1 := stpS hL hs (isV_k hv)
    refine fn_ruleP (C := ⟨Tryz.prog, layF, Tryz.f155.ntmps, ΓL, 6, [], []⟩) layF_ok mixed Tryz.func155 rfl (by kernel_rfl) rfl rfl rfl SLe.rfl ?_
    refine sC (CallsM.ren ((may_yes i hi (by omega) _ hv)) [0, 1] 6 rfl rfl rfl rfl) ?_
    repeat' (first | refine tT ?_ | refine tF ?_ | refine ex_dec (fun _ => ?_) (fun _ => ?_) | refine t8 ?_ | refine tI ?_ | refine tU ?_ | refine tA ?_ | refine tB ?_ | refine tL ?_ | refine tN ?_ | fail "no step")
    refine sC (CallsM.ren ((hbg hs1.lt)) [0, 1] 6 rfl rfl rfl rfl) ?_
    repeat' (first | refine tT ?_ | refine tF ?_ | refine ex_dec (fun _ => ?_) (fun _ => ?_) | refine t8 ?_ | refine tI ?_ | refine tU ?_ | refine tA ?_ | refine tB ?_ | refine tL ?_ | refine tN ?_ | fail "no step")
    have hcon := deeper1_c (m := m) ⟨i + 1, xs, ts⟩ hs1.lt hm (fun m' e => h1 m' e _ (hs1.less (by omega))) (beginsV L (i + 1))
    rcases hx : ((enterM m (beginsV L (i + 1)) >>= fun _ => un)) ⟨i + 1, xs, ts⟩ with ⟨k, ⟨i2, xs2, ts2⟩⟩ | ⟨i9, e9⟩
    rotate_left
    · obtain rfl := (and_err hx).symm.trans hT
      refine sC (CallsM.ren (hcon.err hx) [0, 1, 2, 3, 4, 5] 6 rfl rfl rfl rfl) ?_
      first | exact ⟨⟨_, rfl, rfl⟩, rfl, rfl⟩ | exact ⟨by kernel_rfl, ⟨_, rfl, rfl⟩, rfl, rfl⟩
    replace hT := (and_ok hx).symm.trans hT
    refine sC (CallsM.ren (hcon.ok hx) [0, 1, 2, 3, 4, 5] 6 rfl rfl rfl rfl) ?_
    clear hcon
    have hs2 := (Up.ok ((hdeep hu _).less (a' := 1) (b' := 1) 1 (by omega) (by omega)) hs1 hx).1
    repeat' (first | refine tT ?_ | refine tF ?_ | refine ex_dec (fun _ => ?_) (fun _ => ?_) | refine t8 ?_ | refine tI ?_ | refine tU ?_ | refine tA ?_ | refine tB ?_ | refine tL ?_ | refine tN ?_ | fail "no step")
    obtain rfl : PR.ok (xs2.length : Int) ⟨i2, xs2 ++ [(⟨2, [], 0, [], [k]⟩ : EX)], ts2⟩ = T := hT
    have hx2 := hs2.lx
    have hl2 := hs2.lt
    have hp := (put_c (L := L) (m := m) ⟨i2, xs2, ts2⟩ ⟨2, [], 0, [], [k]⟩ (by show xs2.length ≤ _; omega)).ok rfl
    refine sC (CallsM.ren (hp) [0, 1, 2, 3, 6, 5] 8 rfl rfl rfl rfl) ?_
    repeat' (first | refine tT ?_ | refine tF ?_ | refine ex_dec (fun _ => ?_) (fun _ => ?_) | refine t8 ?_ | refine tI ?_ | refine tU ?_ | refine tA ?_ | refine tB ?_ | refine tL ?_ | refine tN ?_ | fail "no step")
    exact ⟨rfl, TLe.rfl, rfl, rfl⟩
end
end Go.Proofs.YtoingpafcodojaaGreatDoor

namespace Go.Proofs.YtoingpafcodojaaGreatDoor
open Go.RowKit

section
variable {L : List TokP} {m : Nat}
set_option maxHeartbeats 4000000 in
theorem line_step (hL : TokOk L) (hn : L.length ≤ 100000) (j : Nat) (hj : j ≤ 7) {x : PM Int} (hx : Up L x 0 0) (hc : ∀ s, SOk L 0 s → C1 L m 124 [c1 (di (9 - (j : Int)))] x (fun k => Ti k) s) (s : PS) (hs : SOk L 0 s) :
    C1 L m 124 [c1 (di (9 - ((j + 1 : Nat) : Int)))] (x >>= fun left => fun s => lineN L (8 - j) x (L.length - s.i + 1) left s) (fun k => Ti k) s := by
  refine C1.of fun T hT => ?_
  obtain ⟨i, xs, ts⟩ := s
  have h8 := (level_c [42]).gL
  rw [show levelV [42] = 8 by decide +kernel] at h8
  refine fn_ruleP (C := ⟨Tryz.prog, layF, Tryz.f124.ntmps, ΓL, 6, [], []⟩) layF_ok mixed Tryz.func124 rfl (by kernel_rfl) rfl rfl rfl SLe.rfl ?_
  repeat' (first | refine ex_call h8 ?_ | refine ex_i64 (9 - (j : Int)) (by omega) (by omega) (by omega) ?_ | refine ex_u64 (9 - (j : Int)) (by omega) (by omega) (by omega) ?_ | refine ex_u8 (9 - (j : Int)) (by omega) (by omega) (by omega) ?_ | refine tT ?_ | refine tF ?_ | refine ex_dec (fun _ => ?_) (fun _ => ?_) | refine t8 ?_ | refine tI ?_ | refine tU ?_ | refine tA ?_ | refine tB ?_ | refine tL ?_ | refine tN ?_ | fail "no step")
  have hcon := hc ⟨i, xs, ts⟩ hs
  rcases hx1 : (x) ⟨i, xs, ts⟩ with ⟨left, ⟨i1, xs1, ts1⟩⟩ | ⟨i9, e9⟩
  rotate_left
  · obtain rfl := (and_err hx1).symm.trans hT
    refine sC (CallsM.ren (hcon.err hx1) [0, 1, 2, 3, 4, 5] 6 rfl rfl rfl rfl) ?_
    first | exact ⟨⟨_, rfl, rfl⟩, rfl, rfl⟩ | exact ⟨by kernel_rfl, ⟨_, rfl, rfl⟩, rfl, rfl⟩
  replace hT := (and_ok hx1).symm.trans hT
  refine sC (CallsM.ren (hcon.ok hx1) [0, 1, 2, 3, 4, 5] 6 rfl rfl rfl rfl) ?_
  clear hcon
  have hs1 := (Up.ok hx hs hx1).1
  repeat' (first | refine tT ?_ | refine tF ?_ | refine ex_dec (fun _ => ?_) (fun _ => ?_) | refine t8 ?_ | refine tI ?_ | refine tU ?_ | refine tA ?_ | refine tB ?_ | refine tL ?_ | refine tN ?_ | fail "no step")
  refine ex_loop (X := Nat × List EX × List TY × Int × Nat) (fun ⟨i, xs, _, left, _⟩ => ⟨[(0, .o P0), (1, Ti (9 - ((j + 1 : Nat) : Int))), (5, Ti left)], [(0, Qz L m i), (1, Fz 2 3 6 5), (4, .dead), (6, Xz xs)], 7⟩) (fun y => L.length - y.1)
    (fun ⟨i, xs, ts, left, n⟩ => SOk L 0 ⟨i, xs, ts⟩ ∧ L.length < i + n ∧ lineN L (8 - j) x n left ⟨i, xs, ts⟩ = T) (i1, xs1, ts1, left, L.length - i1 + 1) ⟨hs1, by omega, hT⟩ (SLe.of ⟨⟨rfl, rfl, rfl, trivial⟩, ⟨rfl, rfl, rfl, rfl, trivial⟩⟩) ?_
  clear hT hx1 hs1
  rintro ⟨i, xs, ts, left, n⟩ ⟨hs, hf, hT⟩
  have hi := hs.lt
  have ha := ahead_c (L := L) (m := m) i hi
  cases n with
  | zero => omega
  | succ n =>
    by_cases h2 : (tk L i).k = 2
    · have hlv := (level_c (tk L i).t).gL
      by_cases h3 : levelV (tk L i).t = 8 - j
      · have ho : opAt L (8 - j) i = true := by unfold opAt; rw [decide_eq_true h2, decide_eq_true h3]; rfl
        have hs1 := stpS hL hs (by omega)
        replace hT : (x >>= fun right => putM ⟨3, (tk L i).t, 0, [], [left, right]⟩ >>= fun k => lineN L (8 - j) x n k) ⟨i + 1, xs, ts⟩ = T := by
          rw [← hT, lineN]
          exact (if_pos ho).symm
        generalize tk L i = u at *
        refine sC (CallsM.ren (ha) [0, 1] 7 rfl rfl rfl rfl) ?_
        repeat' (first | refine tT ?_ | refine tF ?_ | refine ex_dec (fun _ => ?_) (fun _ => ?_) | refine t8 ?_ | refine tI ?_ | refine tU ?_ | refine tA ?_ | refine tB ?_ | refine tL ?_ | refine tN ?_ | fail "no step")
        refine sC (CallsM.ren (ha) [0, 1] 7 rfl rfl rfl rfl) ?_
        repeat' (first | refine ex_call hlv ?_ | refine tT ?_ | refine tF ?_ | refine ex_dec (fun _ => ?_) (fun _ => ?_) | refine t8 ?_ | refine tI ?_ | refine tU ?_ | refine tA ?_ | refine tB ?_ | refine tL ?_ | refine tN ?_ | fail "no step")
        refine sC (CallsM.ren (ha) [0, 1] 7 rfl rfl rfl rfl) ?_
        repeat' (first | refine ex_i64 (9 - (j : Int)) (by omega) (by omega) (by omega) ?_ | refine ex_u64 (9 - (j : Int)) (by omega) (by omega) (by omega) ?_ | refine ex_u8 (9 - (j : Int)) (by omega) (by omega) (by omega) ?_ | refine ex_i64 ((i + 1 : Nat) : Int) (by omega) (by omega) (by omega) ?_ | refine ex_u64 ((i + 1 : Nat) : Int) (by omega) (by omega) (by omega) ?_ | refine ex_u8 ((i + 1 : Nat) : Int) (by omega) (by omega) (by omega) ?_ | refine tT ?_ | refine tF ?_ | refine ex_dec (fun _ => ?_) (fun _ => ?_) | refine t8 ?_ | refine tI ?_ | refine tU ?_ | refine tA ?_ | refine tB ?_ | refine tL ?_ | refine tN ?_ | fail "no step")
        have hcon := hc ⟨i + 1, xs, ts⟩ (hs1.less (by omega))
        rcases hx1 : (x) ⟨i + 1, xs, ts⟩ with ⟨right, ⟨i1, xs1, ts1⟩⟩ | ⟨i9, e9⟩
        rotate_left
        · obtain rfl := (and_err hx1).symm.trans hT
          refine sC (CallsM.ren (hcon.err hx1) [0, 1, 2, 3, 6, 5] 7 rfl rfl rfl rfl) ?_
          first | exact ⟨⟨_, rfl, rfl⟩, rfl, rfl⟩ | exact ⟨by kernel_rfl, ⟨_, rfl, rfl⟩, rfl, rfl⟩
        replace hT := (and_ok hx1).symm.trans hT
        refine sC (CallsM.ren (hcon.ok hx1) [0, 1, 2, 3, 6, 5] 7 rfl rfl rfl rfl) ?_
        clear hcon
        have hs2 := (Up.ok (hx.less (a' := 1) (b' := 1) 1 (by omega) (by omega)) hs1 hx1).1
        repeat' (first | refine tT ?_ | refine tF ?_ | refine ex_dec (fun _ => ?_) (fun _ => ?_) | refine t8 ?_ | refine tI ?_ | refine tU ?_ | refine tA ?_ | refine tB ?_ | refine tL ?_ | refine tN ?_ | fail "no step")
        have hx2 := hs2.lx
        have hl2 := hs2.lt
        have hp := (put_c (L := L) (m := m) ⟨i1, xs1, ts1⟩ ⟨3, u.t, 0, [], [left, right]⟩ (by show xs1.length ≤ _; omega)).ok rfl
        refine sC (CallsM.ren (hp) [0, 1, 2, 3, 7, 5] 9 rfl rfl rfl rfl) ?_
        repeat' (first | refine tT ?_ | refine tF ?_ | refine ex_dec (fun _ => ?_) (fun _ => ?_) | refine t8 ?_ | refine tI ?_ | refine tU ?_ | refine tA ?_ | refine tB ?_ | refine tL ?_ | refine tN ?_ | fail "no step")
        have hi1 : i + 1 ≤ i1 := by have := (Up.ok hx (hs1.less (Nat.zero_le _)) hx1).2; exact this
        exact ex_round (i1, xs1 ++ [(⟨3, u.t, 0, [], [left, right]⟩ : EX)], ts1, (xs1.length : Int), n) ⟨(Up.ok (Up.put _ 0) hs2 rfl).1, by omega, hT⟩ (by show L.length - i1 < L.length - i; omega) (SLe.ren [(0, 0), (1, 1), (2, 2), (3, 3), (4, 4), (5, 5), (9, 6)] ⟨⟨rfl, rfl⟩, ⟨rfl, rfl⟩, ⟨rfl, rfl⟩, trivial⟩ ⟨⟨rfl, rfl⟩, ⟨rfl, rfl⟩, ⟨rfl, rfl⟩, ⟨rfl, rfl⟩, trivial⟩ rfl)
      · have ho : opAt L (8 - j) i = false := by unfold opAt; rw [decide_eq_false h3]; simp
        obtain rfl : PR.ok left ⟨i, xs, ts⟩ = T := by rw [← hT, lineN]; exact (if_neg (by rw [ho]; decide)).symm
        generalize tk L i = u at *
        refine sC (CallsM.ren (ha) [0, 1] 7 rfl rfl rfl rfl) ?_
        repeat' (first | refine tT ?_ | refine tF ?_ | refine ex_dec (fun _ => ?_) (fun _ => ?_) | refine t8 ?_ | refine tI ?_ | refine tU ?_ | refine tA ?_ | refine tB ?_ | refine tL ?_ | refine tN ?_ | fail "no step")
        refine sC (CallsM.ren (ha) [0, 1] 7 rfl rfl rfl rfl) ?_
        repeat' (first | refine ex_call hlv ?_ | refine tT ?_ | refine tF ?_ | refine ex_dec (fun _ => ?_) (fun _ => ?_) | refine t8 ?_ | refine tI ?_ | refine tU ?_ | refine tA ?_ | refine tB ?_ | refine tL ?_ | refine tN ?_ | fail "no step")
        exact ⟨rfl, TLe.rfl, rfl, rfl⟩
    · have ho : opAt L (8 - j) i = false := by unfold opAt; rw [decide_eq_false h2]; rfl
      obtain rfl : PR.ok left ⟨i, xs, ts⟩ = T := by rw [← hT, lineN]; exact (if_neg (by rw [ho]; decide)).symm
      generalize tk L i = u at *
      refine sC (CallsM.ren (ha) [0, 1] 7 rfl rfl rfl rfl) ?_
      repeat' (first | refine tT ?_ | refine tF ?_ | refine ex_dec (fun _ => ?_) (fun _ => ?_) | refine t8 ?_ | refine tI ?_ | refine tU ?_ | refine tA ?_ | refine tB ?_ | refine tL ?_ | refine tN ?_ | fail "no step")
      exact ⟨rfl, TLe.rfl, rfl, rfl⟩
theorem line0_c {un : PM Int} (s : PS) (hc : C1 L m 155 [] un (fun k => Ti k) s) : C1 L m 124 [c1 (di (9 - ((0 : Nat) : Int)))] un (fun k => Ti k) s := by
  refine C1.of fun T hT => ?_
  have h8 := (level_c [42]).gL
  rw [show levelV [42] = 8 by decide +kernel] at h8
  rcases T with ⟨k, s1⟩ | ⟨i, e⟩
  ·
    refine fn_ruleP (C := ⟨Tryz.prog, layF, Tryz.f124.ntmps, ΓL, 6, [], []⟩) layF_ok mixed Tryz.func124 rfl (by kernel_rfl) rfl rfl rfl SLe.rfl ?_
    repeat' (first | refine ex_call h8 ?_ | refine tT ?_ | refine tF ?_ | refine ex_dec (fun _ => ?_) (fun _ => ?_) | refine t8 ?_ | refine tI ?_ | refine tU ?_ | refine tA ?_ | refine tB ?_ | refine tL ?_ | refine tN ?_ | fail "no step")
    refine sC (CallsM.ren ((hc.ok hT)) [0, 1, 2, 3, 4, 5] 6 rfl rfl rfl rfl) ?_
    repeat' (first | refine tT ?_ | refine tF ?_ | refine ex_dec (fun _ => ?_) (fun _ => ?_) | refine t8 ?_ | refine tI ?_ | refine tU ?_ | refine tA ?_ | refine tB ?_ | refine tL ?_ | refine tN ?_ | fail "no step")
    exact ⟨rfl, TLe.rfl, rfl, rfl⟩
  ·
    refine fn_ruleP (C := ⟨Tryz.prog, layF, Tryz.f124.ntmps, ΓL, 6, [], []⟩) layF_ok mixed Tryz.func124 rfl (by kernel_rfl) rfl rfl rfl SLe.rfl ?_
    repeat' (first | refine ex_call h8 ?_ | refine tT ?_ | refine tF ?_ | refine ex_dec (fun _ => ?_) (fun _ => ?_) | refine t8 ?_ | refine tI ?_ | refine tU ?_ | refine tA ?_ | refine tB ?_ | refine tL ?_ | refine tN ?_ | fail "no step")
    refine sC (CallsM.ren ((hc.err hT)) [0, 1, 2, 3, 4, 5] 6 rfl rfl rfl rfl) ?_
    exact ⟨⟨_, rfl, rfl⟩, rfl, rfl⟩
theorem line_c (hL : TokOk L) (hn : L.length ≤ 100000) {un : PM Int} (hu : Up L un 0 0) (hc : ∀ s, SOk L 0 s → C1 L m 155 [] un (fun k => Ti k) s) : ∀ j : Nat, j ≤ 8 → ∀ s, SOk L 0 s → C1 L m 124 [c1 (di (9 - (j : Int)))] (lineJ L un j) (fun k => Ti k) s
  | 0, _, s, hs => line0_c s (hc s hs)
  | j + 1, hj, s, hs => line_step hL hn j (by omega) (up_lineJ hL hu j) (line_c hL hn hu hc j (by omega)) s hs
theorem expr_of {x : PM Int} (s : PS) (hc : C1 L m 124 [c1 (di (9 - ((8 : Nat) : Int)))] x (fun k => Ti k) s) : C1 L m 85 [] x (fun k => Ti k) s := by
  have hc : C1 L m 124 [c1 (di 1)] x (fun k => Ti k) s := hc
  refine C1.of fun T hT => ?_
  rcases T with ⟨k, s1⟩ | ⟨i, e⟩
  ·
    refine fn_ruleP (C := ⟨Tryz.prog, layF, Tryz.f85.ntmps, ΓL, 6, [], []⟩) layF_ok mixed Tryz.func85 rfl (by kernel_rfl) rfl rfl rfl SLe.rfl ?_
    repeat' (first | refine tT ?_ | refine tF ?_ | refine ex_dec (fun _ => ?_) (fun _ => ?_) | refine t8 ?_ | refine tI ?_ | refine tU ?_ | refine tA ?_ | refine tB ?_ | refine tL ?_ | refine tN ?_ | fail "no step")
    refine sC (CallsM.ren ((hc.ok hT)) [0, 1, 2, 3, 4, 5] 6 rfl rfl rfl rfl) ?_
    repeat' (first | refine tT ?_ | refine tF ?_ | refine ex_dec (fun _ => ?_) (fun _ => ?_) | refine t8 ?_ | refine tI ?_ | refine tU ?_ | refine tA ?_ | refine tB ?_ | refine tL ?_ | refine tN ?_ | fail "no step")
    exact ⟨rfl, TLe.rfl, rfl, rfl⟩
  ·
    refine fn_ruleP (C := ⟨Tryz.prog, layF, Tryz.f85.ntmps, ΓL, 6, [], []⟩) layF_ok mixed Tryz.func85 rfl (by kernel_rfl) rfl rfl rfl SLe.rfl ?_
    repeat' (first | refine tT ?_ | refine tF ?_ | refine ex_dec (fun _ => ?_) (fun _ => ?_) | refine t8 ?_ | refine tI ?_ | refine tU ?_ | refine tA ?_ | refine tB ?_ | refine tL ?_ | refine tN ?_ | fail "no step")
    refine sC (CallsM.ren ((hc.err hT)) [0, 1, 2, 3, 4, 5] 6 rfl rfl rfl rfl) ?_
    exact ⟨⟨_, rfl, rfl⟩, rfl, rfl⟩
theorem unary_c (hL : TokOk L) (hn : L.length ≤ 100000) : ∀ m, m ≤ 32 → ∀ s, SOk L 0 s → C1 L m 155 [] (unM L m) (fun k => Ti k) s
  | 0, hm, s, hs => unary_step hL hn hm (fun h => absurd rfl h) (fun h => absurd rfl h) (fun _ h => by omega) (fun _ h => by omega) s hs
  | m + 1, hm, s, hs => unary_step hL hn hm (fun _ => up_unM hL m) (fun _ => up_lineJ hL (up_unM hL m) 8)
      (fun m' h s hs => by
        obtain rfl : m = m' := by omega
        exact unary_c hL hn m (by omega) s hs)
      (fun m' h s hs => by
        obtain rfl : m = m' := by omega
        exact expr_of s (line_c hL hn (up_unM hL m) (unary_c hL hn m (by omega)) 8 (Nat.le_refl _) s hs)) s hs
theorem expr_c (hL : TokOk L) (hn : L.length ≤ 100000) (m : Nat) (hm : m ≤ 32) (s : PS) (hs : SOk L 0 s) : C1 L m 85 [] (exprM L m) (fun k => Ti k) s :=
  expr_of s (line_c hL hn (up_unM hL m) (unary_c hL hn m hm) 8 (Nat.le_refl _) s hs)
end
end Go.Proofs.YtoingpafcodojaaGreatDoor

namespace Go.Proofs.YtoingpafcodojaaGreatDoor
open Go.RowKit

def Keep {α : Type} (x : PM α) : Prop := ∀ s v s', x s = .ok v s' → s'.ts = s.ts
theorem Keep.and {α β : Type} {x : PM α} {f : α → PM β} (hx : Keep x) (hf : ∀ v, Keep (f v)) : Keep (x >>= f) := fun s v s' h => by
  have hb : PM.and x f s = .ok v s' := h
  unfold PM.and at hb
  rcases hxs : x s with ⟨u, s1⟩ | ⟨i, e⟩
  · rw [hxs] at hb; exact (hf u _ _ _ hb).trans (hx _ _ _ hxs)
  · rw [hxs] at hb; cases hb
theorem Keep.at {α : Type} {p : Nat → Bool} {x y : PM α} (hx : Keep x) (hy : Keep y) : Keep (atM p x y) := fun s v s' h => by
  unfold atM at h
  split at h
  · exact hx _ _ _ h
  · exact hy _ _ _ h
theorem Keep.pure {α : Type} (v : α) : Keep (pure v) := fun s v s' h => by cases h; rfl
theorem Keep.step : Keep stepM := fun s v s' h => by cases h; rfl
theorem Keep.put (x : EX) : Keep (putM x) := fun s v s' h => by cases h; rfl
section
variable {L : List TokP} {m : Nat}
theorem Keep.take (t : List UInt8) : Keep (takeM L t) := fun s v s' h => by unfold takeM at h; split at h <;> cases h; rfl
theorem Keep.name : Keep (nameM L) := fun s v s' h => by unfold nameM at h; split at h <;> cases h; rfl
theorem Keep.num : Keep (numberM L) := fun s v s' h => by unfold numberM at h; split at h <;> cases h; rfl
theorem Keep.enter (p : Nat → Bool) : Keep (fun s => enterM m (p s.i) s) := fun s v s' h => by
  dsimp only at h; unfold enterM at h; split at h
  · cases h
  · split at h <;> cases h; rfl
theorem Keep.fail {α : Type} (e : Nat) : Keep (failM e : PM α) := fun s v s' h => by cases h
theorem keep_un (m : Nat) {un ex : PM Int} (h1 : Keep un) (h2 : Keep ex) : Keep (unF L m un ex) := by
  unfold unF
  exact Keep.at (Keep.step.and fun _ => (Keep.enter _).and fun _ => h1.and fun _ => Keep.put _) (Keep.at (Keep.step.and fun _ => (Keep.enter _).and fun _ => h2.and fun _ => (Keep.take _).and fun _ => Keep.pure _) (Keep.at (Keep.name.and fun _ => Keep.put _) (Keep.num.and fun _ => Keep.put _)))
theorem keep_line (lv : Nat) {x : PM Int} (hx : Keep x) : ∀ n left, Keep (lineN L lv x n left)
  | 0, left => Keep.pure _
  | n + 1, left => fun s v s' h => by
    rw [lineN] at h
    change (if opAt L lv s.i = true then _ else _) = _ at h
    split at h
    · exact (Keep.step.and fun _ => hx.and fun r => (Keep.put ⟨3, (tk L s.i).t, 0, [], [left, r]⟩).and fun k => keep_line lv hx n k) _ _ _ h
    · cases h; rfl
theorem keep_lineJ {un : PM Int} (hx : Keep un) : ∀ j, Keep (lineJ L un j)
  | 0 => hx
  | j + 1 => (keep_lineJ hx j).and fun left => fun s v s' h => keep_line _ (keep_lineJ hx j) _ _ s v s' h
theorem keep_unM : ∀ m, Keep (unM L m)
  | 0 => keep_un 0 (Keep.fail _) (Keep.fail _)
  | m + 1 => keep_un _ (keep_unM m) (keep_lineJ (keep_unM m) 8)
theorem keep_expr (m : Nat) : Keep (exprM L m) := keep_lineJ (keep_unM m) 8
theorem keep_bracket (m : Nat) : Keep (bracketM L m) := (Keep.take _).and fun _ => (keep_expr m).and fun _ => (Keep.take _).and fun _ => Keep.pure _
theorem Keep.eq {α : Type} {x : PM α} (h : Keep x) {i i1 : Nat} {xs xs1 : List EX} {ts ts1 : List TY} {v : α} (hx : x ⟨i, xs, ts⟩ = .ok v ⟨i1, xs1, ts1⟩) : ts = ts1 := (h _ _ _ hx).symm
theorem keep_args : ∀ n l, Keep (argsN L m n l)
  | 0, l => Keep.pure _
  | n + 1, l => Keep.at (Keep.step.and fun _ => (show Keep (fun s => if beginsV L s.i = true then roomM l.length s else .ok () s) from fun s v s' h => by
      dsimp only at h
      split at h
      · unfold roomM at h; split at h <;> cases h; rfl
      · cases h; rfl).and fun _ => (keep_expr m).and fun x => keep_args n _) (Keep.pure _)
theorem keep_ref : Keep (refM L m) := Keep.name.and fun w => Keep.at (Keep.step.and fun _ => (keep_expr m).and fun x => (show Keep (fun s => argsN L m (L.length - s.i + 1) [x] s) from fun s v s' h => keep_args _ _ s v s' h).and fun l => (Keep.take _).and fun _ => Keep.pure _) (Keep.pure _)
theorem start1 {i : Nat} {xs : List EX} : SLe 6 ⟨argTm 0 [P0], [(4, .dead), (0, Qz L m i), (1, Fz 2 3 6 5), (6, Xz xs)], 7⟩ ⟨argTm 0 [P0], [(0, Qz L m i), (1, Fz 2 3 4 5), (4, Xz xs)], 6⟩ :=
  SLe.kill (nx := 7) 4 (SLe.ren [(0, 0), (1, 1), (2, 2), (3, 3), (4, 6), (5, 5)] ⟨⟨rfl, rfl⟩, trivial⟩ ⟨⟨rfl, rfl⟩, ⟨rfl, rfl⟩, ⟨rfl, rfl⟩, trivial⟩ rfl)
theorem start2 {i : Nat} {xs : List EX} {ts : List TY} : SLe 6 ⟨argTm 0 [P0], [(4, .dead), (0, Qz L m i), (1, Fz 2 3 6 5), (6, Xz xs), (5, Tz ts)], 7⟩ ⟨argTm 0 [P0], [(0, Qz L m i), (1, Fz 2 3 4 5), (4, Xz xs), (5, Tz ts)], 6⟩ :=
  SLe.kill (nx := 7) 4 (SLe.ren [(0, 0), (1, 1), (2, 2), (3, 3), (4, 6), (5, 5)] ⟨⟨rfl, rfl⟩, trivial⟩ ⟨⟨rfl, rfl⟩, ⟨rfl, rfl⟩, ⟨rfl, rfl⟩, ⟨rfl, rfl⟩, trivial⟩ rfl)
theorem start2t {i : Nat} {xs : List EX} {ts : List TY} {t : TY} : SLe 6 ⟨argTm 0 [P0, gD (tyD t)], [(4, .dead), (0, Qz L m i), (1, Fz 2 3 6 5), (6, Xz xs), (5, Tz ts)], 7⟩ ⟨argTm 0 [P0, gD (tyD t)], [(0, Qz L m i), (1, Fz 2 3 4 5), (4, Xz xs), (5, Tz ts)], 6⟩ :=
  SLe.kill (nx := 7) 4 (SLe.ren [(0, 0), (1, 1), (2, 2), (3, 3), (4, 6), (5, 5)] ⟨⟨rfl, rfl⟩, ⟨rfl, rfl⟩, trivial⟩ ⟨⟨rfl, rfl⟩, ⟨rfl, rfl⟩, ⟨rfl, rfl⟩, ⟨rfl, rfl⟩, trivial⟩ rfl)
theorem plain_c (k : Nat) : CallsA Tryz.prog ΓL 119 [c1 (di k)] (.o (gD [di k, di 0, db false, ds ⟨#[]⟩, dnil, di (-1), di (-1), dnil])) := by
  refine fn_rule (C := ⟨Tryz.prog, layF, Tryz.f119.ntmps, ΓL, 0, [], []⟩) layF_ok mixed Tryz.func119 rfl (by kernel_rfl) rfl rfl rfl ?_
  repeat' (first | refine tT ?_ | refine tF ?_ | refine ex_dec (fun _ => ?_) (fun _ => ?_) | refine t8 ?_ | refine tI ?_ | refine tU ?_ | refine tA ?_ | refine tB ?_ | refine tL ?_ | refine tN ?_ | fail "no step")
  exact TLe.rfl
theorem bracket_c (hL : TokOk L) (hn : L.length ≤ 100000) (hm : m ≤ 32) (s : PS) {c : Nat} (hs : SOk L c s) : C1 L m 120 [] (bracketM L m) (fun k => Ti k) s := by
  refine C1.of fun T hT => ?_
  unfold bracketM at hT
  obtain ⟨i, xs, ts⟩ := s
  refine fn_ruleP (C := ⟨Tryz.prog, layF, Tryz.f120.ntmps, ΓL, 6, [], []⟩) layF_ok mixed Tryz.func120 rfl (by kernel_rfl) rfl rfl rfl SLe.rfl ?_
  repeat' (first | refine tT ?_ | refine tF ?_ | refine ex_dec (fun _ => ?_) (fun _ => ?_) | refine t8 ?_ | refine tI ?_ | refine tU ?_ | refine tA ?_ | refine tB ?_ | refine tL ?_ | refine tN ?_ | fail "no step")
  have hcon := take_c (m := m) ⟨i, xs, ts⟩ hs.i (by omega) t_lsq
  rcases hx78 : (takeM L t_lsq) ⟨i, xs, ts⟩ with ⟨_, s9⟩ | ⟨i9, e9⟩
  rotate_left
  · obtain rfl := (and_err hx78).symm.trans hT
    refine sC (CallsM.ren (hcon.err hx78) [0, 1] 6 rfl rfl rfl rfl) ?_
    first | exact ⟨⟨_, rfl, rfl⟩, rfl, rfl⟩ | exact ⟨by kernel_rfl, ⟨_, rfl, rfl⟩, rfl, rfl⟩
  replace hT := (and_ok hx78).symm.trans hT
  refine sC (CallsM.ren (hcon.ok hx78) [0, 1] 6 rfl rfl rfl rfl) ?_
  clear hcon
  have hs1 := (Up.ok (Up.take hL t_lsq 0) hs hx78).1
  obtain rfl := mv_take1 hx78
  repeat' (first | refine tT ?_ | refine tF ?_ | refine ex_dec (fun _ => ?_) (fun _ => ?_) | refine t8 ?_ | refine tI ?_ | refine tU ?_ | refine tA ?_ | refine tB ?_ | refine tL ?_ | refine tN ?_ | fail "no step")
  have hcon := expr_c hL hn m hm ⟨i + 1, xs, ts⟩ (hs1.less (by omega))
  rcases hx : (exprM L m) ⟨i + 1, xs, ts⟩ with ⟨k, ⟨i2, xs2, ts2⟩⟩ | ⟨i9, e9⟩
  rotate_left
  · obtain rfl := (and_err hx).symm.trans hT
    refine sC (CallsM.ren (hcon.err hx) [0, 1, 2, 3, 4, 5] 6 rfl rfl rfl rfl) ?_
    first | exact ⟨⟨_, rfl, rfl⟩, rfl, rfl⟩ | exact ⟨by kernel_rfl, ⟨_, rfl, rfl⟩, rfl, rfl⟩
  replace hT := (and_ok hx).symm.trans hT
  refine sC (CallsM.ren (hcon.ok hx) [0, 1, 2, 3, 4, 5] 6 rfl rfl rfl rfl) ?_
  clear hcon
  have hs2 := (Up.ok (up_expr hL m 1) hs1 hx).1
  repeat' (first | refine tT ?_ | refine tF ?_ | refine ex_dec (fun _ => ?_) (fun _ => ?_) | refine t8 ?_ | refine tI ?_ | refine tU ?_ | refine tA ?_ | refine tB ?_ | refine tL ?_ | refine tN ?_ | fail "no step")
  have hcon := take_c (m := m) ⟨i2, xs2, ts2⟩ hs2.i (by omega) t_rsq
  rcases hx82 : (takeM L t_rsq) ⟨i2, xs2, ts2⟩ with ⟨_, s9⟩ | ⟨i9, e9⟩
  rotate_left
  · obtain rfl := (and_err hx82).symm.trans hT
    refine sC (CallsM.ren (hcon.err hx82) [0, 1] 7 rfl rfl rfl rfl) ?_
    first | exact ⟨⟨_, rfl, rfl⟩, rfl, rfl⟩ | exact ⟨by kernel_rfl, ⟨_, rfl, rfl⟩, rfl, rfl⟩
  replace hT := (and_ok hx82).symm.trans hT
  refine sC (CallsM.ren (hcon.ok hx82) [0, 1] 7 rfl rfl rfl rfl) ?_
  clear hcon
  have hs3 := (Up.ok (Up.take hL t_rsq 0) hs2 hx82).1
  obtain rfl := mv_take1 hx82
  obtain rfl : PR.ok k ⟨i2 + 1, xs2, ts2⟩ = T := hT
  repeat' (first | refine tT ?_ | refine tF ?_ | refine ex_dec (fun _ => ?_) (fun _ => ?_) | refine t8 ?_ | refine tI ?_ | refine tU ?_ | refine tA ?_ | refine tB ?_ | refine tL ?_ | refine tN ?_ | fail "no step")
  exact ⟨rfl, TLe.rfl, rfl, rfl⟩
theorem layn_c (i : Nat) (ts : List TY) (k size : Nat) (little : Bool) (w : List UInt8) (x n : Int) (hx : ts.length ≤ 1000000) : CallsM Tryz.prog ΓL 122 [(0, Qz L m i), (1, Fz 2 3 4 5), (5, Tz ts)] 6 [P0, gD [di k, di size, db little, ds (bs w), dnil, di x, di n, dnil]] (Ti ts.length) [(0, Qz L m i), (1, Fz 2 3 4 6), (5, .dead)] [Tz (ts ++ [⟨k, size, little, w, [], x, n, []⟩])] :=
  (lay_c (L := L) (m := m) ⟨i, [], ts⟩ ⟨k, size, little, w, [], x, n, []⟩ hx).argsLe (.cons T1Le.rfl (.cons (T1Le.g (.cons DLe.rfl (.cons DLe.rfl (.cons DLe.rfl (.cons DLe.rfl (.cons DLe.nil (.cons DLe.rfl (.cons DLe.rfl (.cons DLe.nil .nil))))))))) .nil))
set_option maxHeartbeats 4000000 in
theorem array_c (hL : TokOk L) (hn : L.length ≤ 100000) (hm : m ≤ 32) (t : TY) (s : PS) {c : Nat} (hs : SOk L (c + 1) s) : C2 L m 115 [gD (tyD t)] (arrayM L m t) (fun k => Ti k) s := by
  refine C2.of fun T hT => ?_
  unfold arrayM at hT
  obtain ⟨i, xs, ts⟩ := s
  have hi := hs.lt
  have hxl := hs.lx
  have htl := hs.lt'
  replace hT : atM (isV L · t_lsq) (bracketM L m >>= fun x => layM { tyP 5 with ex := x, inn := ts.length }) (pure (ts.length : Int)) ⟨i, xs, ts ++ [t]⟩ = T := hT
  have hq : SOk L c ⟨i, xs, ts ++ [t]⟩ := (Up.ok (Up.lay t 0) hs rfl).1
  have hl := lay_c (L := L) (m := m) ⟨i, xs, ts⟩ t (by show ts.length ≤ _; omega)
  refine fn_ruleP (C := ⟨Tryz.prog, layF, Tryz.f115.ntmps, ΓL, 6, [], []⟩) layF_ok mixed Tryz.func115 rfl (by kernel_rfl) rfl rfl rfl start2t ?_
  repeat' (first | refine tT ?_ | refine tF ?_ | refine ex_dec (fun _ => ?_) (fun _ => ?_) | refine t8 ?_ | refine tI ?_ | refine tU ?_ | refine tA ?_ | refine tB ?_ | refine tL ?_ | refine tN ?_ | fail "no step")
  refine sC (CallsM.ren (hl) [0, 1, 2, 3, 6, 5] 8 rfl rfl rfl rfl) ?_
  repeat' (first | refine tT ?_ | refine tF ?_ | refine ex_dec (fun _ => ?_) (fun _ => ?_) | refine t8 ?_ | refine tI ?_ | refine tU ?_ | refine tA ?_ | refine tB ?_ | refine tL ?_ | refine tN ?_ | fail "no step")
  rcases hv : isV L i t_lsq with _ | _
  · replace hT := atn hT hv
    obtain rfl : PR.ok (ts.length : Int) ⟨i, xs, ts ++ [t]⟩ = T := hT
    have hi := is_c (m := m) i hi t_lsq
    rw [hv] at hi
    refine sC (CallsM.ren (hi) [0, 1] 9 rfl rfl rfl rfl) ?_
    repeat' (first | refine tT ?_ | refine tF ?_ | refine ex_dec (fun _ => ?_) (fun _ => ?_) | refine t8 ?_ | refine tI ?_ | refine tU ?_ | refine tA ?_ | refine tB ?_ | refine tL ?_ | refine tN ?_ | fail "no step")
    exact ⟨rfl, TLe.rfl, rfl, rfl⟩
  · replace hT := aty hT hv
    have hi := is_c (m := m) i hi t_lsq
    rw [hv] at hi
    refine sC (CallsM.ren (hi) [0, 1] 9 rfl rfl rfl rfl) ?_
    repeat' (first | refine ex_call (plain_c 5) ?_ | refine tT ?_ | refine tF ?_ | refine ex_dec (fun _ => ?_) (fun _ => ?_) | refine t8 ?_ | refine tI ?_ | refine tU ?_ | refine tA ?_ | refine tB ?_ | refine tL ?_ | refine tN ?_ | fail "no step")
    have hcon := bracket_c hL hn hm ⟨i, xs, ts ++ [t]⟩ hq
    rcases hx : (bracketM L m) ⟨i, xs, ts ++ [t]⟩ with ⟨x, ⟨i2, xs2, ts2⟩⟩ | ⟨i9, e9⟩
    rotate_left
    · obtain rfl := (and_err hx).symm.trans hT
      refine sC (CallsM.ren (hcon.err hx) [0, 1, 2, 3, 6, 8] 10 rfl rfl rfl rfl) ?_
      first | exact ⟨⟨_, rfl, rfl⟩, rfl, rfl⟩ | exact ⟨by kernel_rfl, ⟨_, rfl, rfl⟩, rfl, rfl⟩
    replace hT := (and_ok hx).symm.trans hT
    refine sC (CallsM.ren (hcon.ok hx) [0, 1, 2, 3, 6, 8] 10 rfl rfl rfl rfl) ?_
    clear hcon
    have hs2 := (Up.ok (up_bracket hL m 0) hq hx).1
    obtain rfl := (keep_bracket m).eq hx
    have hl2 := hs2.lt'
    have hi2 := hs2.lt
    obtain rfl : PR.ok ((ts ++ [t]).length : Int) ⟨i2, xs2, (ts ++ [t]) ++ [(⟨5, 0, false, [], [], x, ts.length, []⟩ : TY)]⟩ = T := hT
    repeat' (first | refine tT ?_ | refine tF ?_ | refine ex_dec (fun _ => ?_) (fun _ => ?_) | refine t8 ?_ | refine tI ?_ | refine tU ?_ | refine tA ?_ | refine tB ?_ | refine tL ?_ | refine tN ?_ | fail "no step")
    refine sC (CallsM.ren ((layn_c (L := L) (m := m) i2 (ts ++ [t]) 5 0 false [] x ts.length (by omega))) [0, 1, 2, 3, 10, 8] 11 rfl rfl rfl rfl) ?_
    repeat' (first | refine tT ?_ | refine tF ?_ | refine ex_dec (fun _ => ?_) (fun _ => ?_) | refine t8 ?_ | refine tI ?_ | refine tU ?_ | refine tA ?_ | refine tB ?_ | refine tL ?_ | refine tN ?_ | fail "no step")
    exact ⟨rfl, TLe.rfl, rfl, rfl⟩
end
end Go.Proofs.YtoingpafcodojaaGreatDoor

namespace Go.Proofs.YtoingpafcodojaaGreatDoor
open Go.RowKit

section
variable {L : List TokP} {m : Nat}
section
variable {α β γ : Type} {x y : PM α} {g : α → PM β} {f : β → PM γ} {F : α → PM β} {p : Nat → Bool} {i : Nat} {xs : List EX} {ts : List TY}
theorem asc {s : PS} {T : PR γ} (h : ((x >>= g) >>= f) s = T) : (x >>= fun v => g v >>= f) s = T := by
  rw [← h]
  show PM.and x (fun v => PM.and (g v) f) s = PM.and (PM.and x g) f s
  unfold PM.and
  cases x s <;> rfl
theorem atyB {T : PR β} (hT : (atM p x y >>= F) ⟨i, xs, ts⟩ = T) (h : p i = true) : (x >>= F) ⟨i, xs, ts⟩ = T := by
  rw [← hT]
  show PM.and _ _ _ = PM.and _ _ _
  unfold PM.and
  rw [at_pos (s := ⟨i, xs, ts⟩) h]
theorem atnB {T : PR β} (hT : (atM p x y >>= F) ⟨i, xs, ts⟩ = T) (h : p i = false) : (y >>= F) ⟨i, xs, ts⟩ = T := by
  rw [← hT]
  show PM.and _ _ _ = PM.and _ _ _
  unfold PM.and
  rw [at_neg (s := ⟨i, xs, ts⟩) h]
theorem pureT {v : α} {s : PS} {T : PR β} (hT : ((pure v : PM α) >>= F) s = T) : F v s = T := hT
theorem rmT {n : Nat} {F : Unit → PM β} {T : PR β} (hT : ((fun s => if p s.i = true then roomM n s else .ok () s) >>= F) ⟨i, xs, ts⟩ = T) (h : p i = true) : (roomM n >>= F) ⟨i, xs, ts⟩ = T := by
  rw [← hT]
  show PM.and _ _ _ = PM.and _ _ _
  unfold PM.and
  dsimp only
  rw [if_pos h]
theorem rmF {n : Nat} {F : Unit → PM β} {T : PR β} (hT : ((fun s => if p s.i = true then roomM n s else .ok () s) >>= F) ⟨i, xs, ts⟩ = T) (h : p i = false) : F () ⟨i, xs, ts⟩ = T := by
  rw [← hT]
  show _ = PM.and _ _ _
  unfold PM.and
  dsimp only
  rw [if_neg (by rw [h]; decide)]
end
theorem tyLe {k size : Nat} {little : Bool} {w : List UInt8} {x n : Int} : TLe (.o (gD [di k, di size, db little, ds (bs w), dnil, di x, di n, dnil])) (.o (gD (tyD ⟨k, size, little, w, [], x, n, []⟩))) :=
  TLe.o (T1Le.g (.cons DLe.rfl (.cons DLe.rfl (.cons DLe.rfl (.cons DLe.rfl (.cons DLe.nil (.cons DLe.rfl (.cons DLe.rfl (.cons DLe.nil .nil)))))))))
theorem tyLe1 {k size : Nat} {little : Bool} {w : List UInt8} {x n : Int} {l : List Int} : TLe (.o (gD [di k, di size, db little, ds (bs w), intsD l, di x, di n, dnil])) (.o (gD (tyD ⟨k, size, little, w, l, x, n, []⟩))) :=
  TLe.o (T1Le.g (.cons DLe.rfl (.cons DLe.rfl (.cons DLe.rfl (.cons DLe.rfl (.cons DLe.rfl (.cons DLe.rfl (.cons DLe.rfl (.cons DLe.nil .nil)))))))))
set_option maxHeartbeats 4000000 in
theorem ref_c (hL : TokOk L) (hn : L.length ≤ 100000) (hm : m ≤ 32) (s : PS) {c : Nat} (hs : SOk L c s) : C1 L m 116 [] (refM L m) (fun t => .o (gD (tyD t))) s := by
  refine C1.of fun T hT => ?_
  unfold refM at hT
  obtain ⟨i, xs, ts⟩ := s
  refine fn_ruleP (C := ⟨Tryz.prog, layF, Tryz.f116.ntmps, ΓL, 6, [], []⟩) layF_ok mixed Tryz.func116 rfl (by kernel_rfl) rfl rfl rfl start1 ?_
  repeat' (first | refine ex_call (plain_c 10) ?_ | refine tT ?_ | refine tF ?_ | refine ex_dec (fun _ => ?_) (fun _ => ?_) | refine t8 ?_ | refine tI ?_ | refine tU ?_ | refine tA ?_ | refine tB ?_ | refine tL ?_ | refine tN ?_ | fail "no step")
  have hcon := name_c (m := m) ⟨i, xs, ts⟩ hs.i (by omega)
  rcases hx50 : (nameM L) ⟨i, xs, ts⟩ with ⟨w, s9⟩ | ⟨i9, e9⟩
  rotate_left
  · obtain rfl := (and_err hx50).symm.trans hT
    refine sC (CallsM.ren (hcon.err hx50) [0, 1] 9 rfl rfl rfl rfl) ?_
    first | exact ⟨⟨_, rfl, rfl⟩, rfl, rfl⟩ | exact ⟨by kernel_rfl, ⟨_, rfl, rfl⟩, rfl, rfl⟩
  replace hT := (and_ok hx50).symm.trans hT
  refine sC (CallsM.ren (hcon.ok hx50) [0, 1] 9 rfl rfl rfl rfl) ?_
  clear hcon
  have hs1 := (Up.ok (Up.name hL 0) hs hx50).1
  obtain rfl := mv_name1 hx50
  repeat' (first | refine tT ?_ | refine tF ?_ | refine ex_dec (fun _ => ?_) (fun _ => ?_) | refine t8 ?_ | refine tI ?_ | refine tU ?_ | refine tA ?_ | refine tB ?_ | refine tL ?_ | refine tN ?_ | fail "no step")
  rcases hv : isV L (i + 1) t_lpar with _ | _
  · replace hT := atn hT hv
    obtain rfl : PR.ok ({ tyP 10 with nm := w } : TY) ⟨i + 1, xs, ts⟩ = T := hT
    refine sC (CallsM.ren ((may_no (i + 1) hs1.lt _ hv)) [0, 1] 9 rfl rfl rfl rfl) ?_
    repeat' (first | refine tT ?_ | refine tF ?_ | refine ex_dec (fun _ => ?_) (fun _ => ?_) | refine t8 ?_ | refine tI ?_ | refine tU ?_ | refine tA ?_ | refine tB ?_ | refine tL ?_ | refine tN ?_ | fail "no step")
    exact ⟨rfl, tyLe, rfl, rfl⟩
  · replace hT := stp1 (aty hT hv)
    have hs2 := stpS hL hs1 (isV_k hv)
    refine sC (CallsM.ren ((may_yes (i + 1) hs1.lt (by omega) _ hv)) [0, 1] 9 rfl rfl rfl rfl) ?_
    repeat' (first | refine tT ?_ | refine tF ?_ | refine ex_dec (fun _ => ?_) (fun _ => ?_) | refine t8 ?_ | refine tI ?_ | refine tU ?_ | refine tA ?_ | refine tB ?_ | refine tL ?_ | refine tN ?_ | fail "no step")
    have hcon := expr_c hL hn m hm ⟨i + 1 + 1, xs, ts⟩ (hs2.less (by omega))
    rcases hx : (exprM L m) ⟨i + 1 + 1, xs, ts⟩ with ⟨x, ⟨i2, xs2, ts2⟩⟩ | ⟨i9, e9⟩
    rotate_left
    · obtain rfl := (and_err hx).symm.trans hT
      refine sC (CallsM.ren (hcon.err hx) [0, 1, 2, 3, 6, 5] 9 rfl rfl rfl rfl) ?_
      first | exact ⟨⟨_, rfl, rfl⟩, rfl, rfl⟩ | exact ⟨by kernel_rfl, ⟨_, rfl, rfl⟩, rfl, rfl⟩
    replace hT := (and_ok hx).symm.trans hT
    refine sC (CallsM.ren (hcon.ok hx) [0, 1, 2, 3, 6, 5] 9 rfl rfl rfl rfl) ?_
    clear hcon
    have hs3 := (Up.ok (up_expr hL m 2) hs2 hx).1
    repeat' (first | refine tT ?_ | refine tF ?_ | refine ex_dec (fun _ => ?_) (fun _ => ?_) | refine t8 ?_ | refine tI ?_ | refine tU ?_ | refine tA ?_ | refine tB ?_ | refine tL ?_ | refine tN ?_ | fail "no step")
    refine ex_app (0) (1) 1000 (by first | rfl | (simp; done) | (simp; omega)) (by first | rfl | (simp; done) | (simp; omega)) rfl (by omega) ?_
    refine ex_is (List.map (fun k : Int => [di k]) [x]) (rfl) ?_
    repeat' (first | refine tT ?_ | refine tF ?_ | refine ex_dec (fun _ => ?_) (fun _ => ?_) | refine t8 ?_ | refine tI ?_ | refine tU ?_ | refine tA ?_ | refine tB ?_ | refine tL ?_ | refine tN ?_ | fail "no step")
    replace hT : (argsN L m (L.length - i2 + 1) [x] >>= fun l => takeM L t_rpar >>= fun _ => pure ({ tyP 10 with nm := w, args := l } : TY)) ⟨i2, xs2, ts2⟩ = T := hT
    refine ex_loop (X := Nat × List EX × List TY × List Int × Nat) (fun ⟨i, xs, _, l, _⟩ => ⟨[(0, .o P0), (2, .o (.c (.ptr 7 0))), (3, .o (.c (.ptr 8 0)))], [(0, Qz L m i), (1, Fz 2 3 9 5), (4, .dead), (7, .obj [.d (di 0), .d (di 0), .d (db false), .d (ds ⟨#[]⟩), .d dnil, .d (di 0), .d (di 0), .d dnil]), (8, .obj [.d (di 10), .d (di 0), .d (db false), .d (ds (bs w)), .row 11, .d (di (-1)), .d (di (-1)), .d dnil]), (9, Xz xs), (11, .row 1 3 (l.map fun k => [di k]))], 12⟩) (fun y => L.length - y.1)
      (fun ⟨i, xs, ts, l, n⟩ => SOk L 2 ⟨i, xs, ts⟩ ∧ L.length < i + n ∧ l.length ≤ i ∧ (argsN L m n l >>= fun l => takeM L t_rpar >>= fun _ => pure ({ tyP 10 with nm := w, args := l } : TY)) ⟨i, xs, ts⟩ = T) (i2, xs2, ts2, [x], L.length - i2 + 1) ⟨hs3.less (by omega), by omega, by have := hs3.lx; show 1 ≤ i2; omega, hT⟩ (SLe.of ⟨⟨rfl, rfl, rfl, trivial⟩, ⟨rfl, rfl, rfl, rfl, rfl, rfl, rfl, trivial⟩⟩) ?_
    clear hT hx hs3 hs2 hs1 hs hv
    rintro ⟨i, xs, ts, l, n⟩ ⟨hs, hf, hll, hT⟩
    have hi := hs.lt
    cases n with
    | zero => omega
    | succ n =>
      rw [argsN] at hT
      rcases hv : isV L i t_comma with _ | _
      · replace hT := pureT (atnB hT hv)
        refine sC (CallsM.ren ((may_no i hi _ hv)) [0, 1] 12 rfl rfl rfl rfl) ?_
        repeat' (first | refine tT ?_ | refine tF ?_ | refine ex_dec (fun _ => ?_) (fun _ => ?_) | refine t8 ?_ | refine tI ?_ | refine tU ?_ | refine tA ?_ | refine tB ?_ | refine tL ?_ | refine tN ?_ | fail "no step")
        have hcon := take_c (m := m) ⟨i, xs, ts⟩ hs.i (by omega) t_rpar
        rcases hx81 : (takeM L t_rpar) ⟨i, xs, ts⟩ with ⟨_, s9⟩ | ⟨i9, e9⟩
        rotate_left
        · obtain rfl := (and_err hx81).symm.trans hT
          refine sC (CallsM.ren (hcon.err hx81) [0, 1] 12 rfl rfl rfl rfl) ?_
          first | exact ⟨⟨_, rfl, rfl⟩, rfl, rfl⟩ | exact ⟨by kernel_rfl, ⟨_, rfl, rfl⟩, rfl, rfl⟩
        replace hT := (and_ok hx81).symm.trans hT
        refine sC (CallsM.ren (hcon.ok hx81) [0, 1] 12 rfl rfl rfl rfl) ?_
        clear hcon
        have hs1 := (Up.ok (Up.take hL t_rpar 0) hs hx81).1
        obtain rfl := mv_take1 hx81
        obtain rfl : PR.ok ({ tyP 10 with nm := w, args := l } : TY) ⟨i + 1, xs, ts⟩ = T := hT
        repeat' (first | refine tT ?_ | refine tF ?_ | refine ex_dec (fun _ => ?_) (fun _ => ?_) | refine t8 ?_ | refine tI ?_ | refine tU ?_ | refine tA ?_ | refine tB ?_ | refine tL ?_ | refine tN ?_ | fail "no step")
        exact ⟨rfl, tyLe1, rfl, rfl⟩
      · replace hT := asc (stp1 (asc (atyB hT hv)))
        have hs1 := stpS hL hs (isV_k hv)
        have hbc := begins_c (L := L) (m := m) (i + 1) hs1.lt
        refine sC (CallsM.ren ((may_yes i hi (by omega) _ hv)) [0, 1] 12 rfl rfl rfl rfl) ?_
        repeat' (first | refine tT ?_ | refine tF ?_ | refine ex_dec (fun _ => ?_) (fun _ => ?_) | refine t8 ?_ | refine tI ?_ | refine tU ?_ | refine tA ?_ | refine tB ?_ | refine tL ?_ | refine tN ?_ | fail "no step")
        rcases hb : beginsV L (i + 1) with _ | _ <;> rw [hb] at hbc
        · replace hT := rmF hT hb
          refine sC (CallsM.ren (hbc) [0, 1] 12 rfl rfl rfl rfl) ?_
          repeat' (first | refine tT ?_ | refine tF ?_ | refine ex_dec (fun _ => ?_) (fun _ => ?_) | refine t8 ?_ | refine tI ?_ | refine tU ?_ | refine tA ?_ | refine tB ?_ | refine tL ?_ | refine tN ?_ | fail "no step")
          replace hT := asc hT
          have hcon := expr_c hL hn m hm ⟨i + 1, xs, ts⟩ (hs1.less (by omega))
          rcases hx : (exprM L m) ⟨i + 1, xs, ts⟩ with ⟨x, ⟨i2, xs2, ts2⟩⟩ | ⟨i9, e9⟩
          rotate_left
          · obtain rfl := (and_err hx).symm.trans hT
            refine sC (CallsM.ren (hcon.err hx) [0, 1, 2, 3, 9, 5] 12 rfl rfl rfl rfl) ?_
            first | exact ⟨⟨_, rfl, rfl⟩, rfl, rfl⟩ | exact ⟨by kernel_rfl, ⟨_, rfl, rfl⟩, rfl, rfl⟩
          replace hT := (and_ok hx).symm.trans hT
          refine sC (CallsM.ren (hcon.ok hx) [0, 1, 2, 3, 9, 5] 12 rfl rfl rfl rfl) ?_
          clear hcon
          have hs3 := (Up.ok (up_expr hL m 3) hs1 hx).1
          have hi2 : i + 1 ≤ i2 := (Up.ok (up_expr hL m 3) hs1 hx).2
          repeat' (first | refine tT ?_ | refine tF ?_ | refine ex_dec (fun _ => ?_) (fun _ => ?_) | refine t8 ?_ | refine tI ?_ | refine tU ?_ | refine tA ?_ | refine tB ?_ | refine tL ?_ | refine tN ?_ | fail "no step")
          refine ex_app (l.length) (1) 1000 (by first | rfl | (simp; done) | (simp; omega)) (by first | rfl | (simp; done) | (simp; omega)) rfl (by omega) ?_
          refine ex_is (List.map (fun k : Int => [di k]) (l ++ [x])) (by rw [List.map_append]; rfl) ?_
          repeat' (first | refine tT ?_ | refine tF ?_ | refine ex_dec (fun _ => ?_) (fun _ => ?_) | refine t8 ?_ | refine tI ?_ | refine tU ?_ | refine tA ?_ | refine tB ?_ | refine tL ?_ | refine tN ?_ | fail "no step")
          exact ex_round (i2, xs2, ts2, l ++ [x], n) ⟨hs3.less (by omega), by omega, by simp; omega, hT⟩ (by show L.length - i2 < L.length - i; omega) (SLe.ren [(0, 0), (1, 1), (2, 2), (3, 3), (4, 4), (5, 5), (7, 7), (8, 8), (12, 9), (14, 11)] ⟨⟨rfl, rfl⟩, ⟨rfl, rfl⟩, ⟨rfl, rfl⟩, trivial⟩ ⟨⟨rfl, rfl⟩, ⟨rfl, rfl⟩, ⟨rfl, rfl⟩, ⟨rfl, rfl⟩, ⟨rfl, rfl⟩, ⟨rfl, rfl⟩, ⟨rfl, rfl⟩, trivial⟩ rfl)
        · replace hT := rmT hT hb
          refine sC (CallsM.ren (hbc) [0, 1] 12 rfl rfl rfl rfl) ?_
          repeat' (first | refine ex_is l.length (by simp) ?_ | refine tT ?_ | refine tF ?_ | refine ex_dec (fun _ => ?_) (fun _ => ?_) | refine t8 ?_ | refine tI ?_ | refine tU ?_ | refine tA ?_ | refine tB ?_ | refine tL ?_ | refine tN ?_ | fail "no step")
          have hcon := room_c (m := m) ⟨i + 1, xs, ts⟩ hs1.lt l.length (by omega)
          rcases hr : (roomM l.length) ⟨i + 1, xs, ts⟩ with ⟨_, s9⟩ | ⟨i9, e9⟩
          rotate_left
          · obtain rfl := (and_err hr).symm.trans hT
            refine sC (CallsM.ren (hcon.err hr) [0, 1] 12 rfl rfl rfl rfl) ?_
            first | exact ⟨⟨_, rfl, rfl⟩, rfl, rfl⟩ | exact ⟨by kernel_rfl, ⟨_, rfl, rfl⟩, rfl, rfl⟩
          replace hT := (and_ok hr).symm.trans hT
          refine sC (CallsM.ren (hcon.ok hr) [0, 1] 12 rfl rfl rfl rfl) ?_
          clear hcon
          obtain rfl := mv_room1 hr
          repeat' (first | refine tT ?_ | refine tF ?_ | refine ex_dec (fun _ => ?_) (fun _ => ?_) | refine t8 ?_ | refine tI ?_ | refine tU ?_ | refine tA ?_ | refine tB ?_ | refine tL ?_ | refine tN ?_ | fail "no step")
          replace hT := asc hT
          have hcon := expr_c hL hn m hm ⟨i + 1, xs, ts⟩ (hs1.less (by omega))
          rcases hx : (exprM L m) ⟨i + 1, xs, ts⟩ with ⟨x, ⟨i2, xs2, ts2⟩⟩ | ⟨i9, e9⟩
          rotate_left
          · obtain rfl := (and_err hx).symm.trans hT
            refine sC (CallsM.ren (hcon.err hx) [0, 1, 2, 3, 9, 5] 12 rfl rfl rfl rfl) ?_
            first | exact ⟨⟨_, rfl, rfl⟩, rfl, rfl⟩ | exact ⟨by kernel_rfl, ⟨_, rfl, rfl⟩, rfl, rfl⟩
          replace hT := (and_ok hx).symm.trans hT
          refine sC (CallsM.ren (hcon.ok hx) [0, 1, 2, 3, 9, 5] 12 rfl rfl rfl rfl) ?_
          clear hcon
          have hs3 := (Up.ok (up_expr hL m 3) hs1 hx).1
          have hi2 : i + 1 ≤ i2 := (Up.ok (up_expr hL m 3) hs1 hx).2
          repeat' (first | refine tT ?_ | refine tF ?_ | refine ex_dec (fun _ => ?_) (fun _ => ?_) | refine t8 ?_ | refine tI ?_ | refine tU ?_ | refine tA ?_ | refine tB ?_ | refine tL ?_ | refine tN ?_ | fail "no step")
          refine ex_app (l.length) (1) 1000 (by first | rfl | (simp; done) | (simp; omega)) (by first | rfl | (simp; done) | (simp; omega)) rfl (by omega) ?_
          refine ex_is (List.map (fun k : Int => [di k]) (l ++ [x])) (by rw [List.map_append]; rfl) ?_
          repeat' (first | refine tT ?_ | refine tF ?_ | refine ex_dec (fun _ => ?_) (fun _ => ?_) | refine t8 ?_ | refine tI ?_ | refine tU ?_ | refine tA ?_ | refine tB ?_ | refine tL ?_ | refine tN ?_ | fail "no step")
          exact ex_round (i2, xs2, ts2, l ++ [x], n) ⟨hs3.less (by omega), by omega, by simp; omega, hT⟩ (by show L.length - i2 < L.length - i; omega) (SLe.ren [(0, 0), (1, 1), (2, 2), (3, 3), (4, 4), (5, 5), (7, 7), (8, 8), (12, 9), (14, 11)] ⟨⟨rfl, rfl⟩, ⟨rfl, rfl⟩, ⟨rfl, rfl⟩, trivial⟩ ⟨⟨rfl, rfl⟩, ⟨rfl, rfl⟩, ⟨rfl, rfl⟩, ⟨rfl, rfl⟩, ⟨rfl, rfl⟩, ⟨rfl, rfl⟩, ⟨rfl, rfl⟩, trivial⟩ rfl)
end
end Go.Proofs.YtoingpafcodojaaGreatDoor

namespace Go.Proofs.YtoingpafcodojaaGreatDoor
open Go.RowKit

section
variable {L : List TokP} {m : Nat}
theorem SLe.via {nx0 : Nat} {s t u : St} (h' : SLe nx0 t u) (h : SLe nx0 s t) : SLe nx0 s u := h.trans h'
theorem takeY {t : List UInt8} {i : Nat} {xs : List EX} {ts : List TY} (h : isV L i t = true) : takeM L t ⟨i, xs, ts⟩ = .ok () ⟨i + 1, xs, ts⟩ := if_pos h
theorem deeper2_c {x : PM Int} {h : FuncId} (s : PS) (hi : s.i < L.length) (hm : m ≤ 32) (hc : ∀ m', m = m' + 1 → C2 L m' h [] x (fun k => Ti k) s) (b : Bool) :
    C2 L m 153 [c1 (db b), .f h 1 [.ptr 0 0]] (enterM m b >>= fun _ => x) (fun k => Ti k) s := by
  refine C2.of fun T hT => ?_
  cases b
  · obtain rfl : PR.err s.i 4 = T := hT
    refine fn_ruleP (C := ⟨Tryz.prog, layF, Tryz.f153.ntmps, ΓL, 6, [], []⟩) layF_ok mixed Tryz.func153 rfl (by kernel_rfl) rfl rfl rfl SLe.rfl ?_
    repeat' (first | refine tT ?_ | refine tF ?_ | refine ex_dec (fun _ => ?_) (fun _ => ?_) | refine t8 ?_ | refine tI ?_ | refine tU ?_ | refine tA ?_ | refine tB ?_ | refine tL ?_ | refine tN ?_ | fail "no step")
    refine sC (CallsM.ren ((fail_c s.i 4 hi)) [0, 1] 6 rfl rfl rfl rfl) ?_
    exact ⟨⟨_, rfl, rfl⟩, rfl, rfl⟩
  · cases m with
    | zero =>
      obtain rfl : PR.err s.i 8 = T := hT
      refine fn_ruleP (C := ⟨Tryz.prog, layF, Tryz.f153.ntmps, ΓL, 6, [], []⟩) layF_ok mixed Tryz.func153 rfl (by kernel_rfl) rfl rfl rfl SLe.rfl ?_
      repeat' (first | refine tT ?_ | refine tF ?_ | refine ex_dec (fun _ => ?_) (fun _ => ?_) | refine t8 ?_ | refine tI ?_ | refine tU ?_ | refine tA ?_ | refine tB ?_ | refine tL ?_ | refine tN ?_ | fail "no step")
      refine sC (CallsM.ren ((fail_c s.i 8 hi)) [0, 1] 6 rfl rfl rfl rfl) ?_
      exact ⟨⟨_, rfl, rfl⟩, rfl, rfl⟩
    | succ m =>
      have hT : x s = T := hT
      have hc := hc m rfl
      rcases T with ⟨k, s1⟩ | ⟨i, e⟩
      ·
        refine fn_ruleP (C := ⟨Tryz.prog, layF, Tryz.f153.ntmps, ΓL, 6, [], []⟩) layF_ok mixed Tryz.func153 rfl (by kernel_rfl) rfl rfl rfl SLe.rfl ?_
        repeat' (first | refine ex_i64 (32 - ((m : Nat) : Int)) (by omega) (by omega) (by omega) ?_ | refine ex_u64 (32 - ((m : Nat) : Int)) (by omega) (by omega) (by omega) ?_ | refine ex_u8 (32 - ((m : Nat) : Int)) (by omega) (by omega) (by omega) ?_ | refine tT ?_ | refine tF ?_ | refine ex_dec (fun _ => ?_) (fun _ => ?_) | refine t8 ?_ | refine tI ?_ | refine tU ?_ | refine tA ?_ | refine tB ?_ | refine tL ?_ | refine tN ?_ | fail "no step")
        refine sC (CallsM.ren ((hc.ok hT)) [0, 1, 2, 3, 4, 5] 6 rfl rfl rfl rfl) ?_
        repeat' (first | refine ex_i64 (32 - ((m + 1 : Nat) : Int)) (by omega) (by omega) (by omega) ?_ | refine ex_u64 (32 - ((m + 1 : Nat) : Int)) (by omega) (by omega) (by omega) ?_ | refine ex_u8 (32 - ((m + 1 : Nat) : Int)) (by omega) (by omega) (by omega) ?_ | refine tT ?_ | refine tF ?_ | refine ex_dec (fun _ => ?_) (fun _ => ?_) | refine t8 ?_ | refine tI ?_ | refine tU ?_ | refine tA ?_ | refine tB ?_ | refine tL ?_ | refine tN ?_ | fail "no step")
        exact ⟨rfl, TLe.rfl, rfl, rfl⟩
      ·
        refine fn_ruleP (C := ⟨Tryz.prog, layF, Tryz.f153.ntmps, ΓL, 6, [], []⟩) layF_ok mixed Tryz.func153 rfl (by kernel_rfl) rfl rfl rfl SLe.rfl ?_
        repeat' (first | refine ex_i64 (32 - ((m : Nat) : Int)) (by omega) (by omega) (by omega) ?_ | refine ex_u64 (32 - ((m : Nat) : Int)) (by omega) (by omega) (by omega) ?_ | refine ex_u8 (32 - ((m : Nat) : Int)) (by omega) (by omega) (by omega) ?_ | refine tT ?_ | refine tF ?_ | refine ex_dec (fun _ => ?_) (fun _ => ?_) | refine t8 ?_ | refine tI ?_ | refine tU ?_ | refine tA ?_ | refine tB ?_ | refine tL ?_ | refine tN ?_ | fail "no step")
        refine sC (CallsM.ren ((hc.err hT)) [0, 1, 2, 3, 4, 5] 6 rfl rfl rfl rfl) ?_
        exact ⟨⟨_, rfl, rfl⟩, rfl, rfl⟩
theorem inner_c (hm : m ≤ 32) {kd : PM Int} (s : PS) (hi : s.i < L.length) (hc : ∀ m', m = m' + 1 → C2 L m' 83 [] kd (fun k => Ti k) s) : C2 L m 121 [] (innerM L m kd) (fun k => Ti k) s := by
  refine C2.of fun T hT => ?_
  have hT : (enterM m (startsV L s.i) >>= fun _ => kd) s = T := hT
  have hd := deeper2_c s hi hm hc (startsV L s.i)
  rcases T with ⟨k, s1⟩ | ⟨i, e⟩
  ·
    refine fn_ruleP (C := ⟨Tryz.prog, layF, Tryz.f121.ntmps, ΓL, 6, [], []⟩) layF_ok mixed Tryz.func121 rfl (by kernel_rfl) rfl rfl rfl SLe.rfl ?_
    repeat' (first | refine tT ?_ | refine tF ?_ | refine ex_dec (fun _ => ?_) (fun _ => ?_) | refine t8 ?_ | refine tI ?_ | refine tU ?_ | refine tA ?_ | refine tB ?_ | refine tL ?_ | refine tN ?_ | fail "no step")
    refine sC (CallsM.ren ((starts_c (m := m) s.i hi)) [0, 1] 6 rfl rfl rfl rfl) ?_
    repeat' (first | refine tT ?_ | refine tF ?_ | refine ex_dec (fun _ => ?_) (fun _ => ?_) | refine t8 ?_ | refine tI ?_ | refine tU ?_ | refine tA ?_ | refine tB ?_ | refine tL ?_ | refine tN ?_ | fail "no step")
    refine sC (CallsM.ren ((hd.ok hT)) [0, 1, 2, 3, 4, 5] 6 rfl rfl rfl rfl) ?_
    repeat' (first | refine tT ?_ | refine tF ?_ | refine ex_dec (fun _ => ?_) (fun _ => ?_) | refine t8 ?_ | refine tI ?_ | refine tU ?_ | refine tA ?_ | refine tB ?_ | refine tL ?_ | refine tN ?_ | fail "no step")
    exact ⟨rfl, TLe.rfl, rfl, rfl⟩
  ·
    refine fn_ruleP (C := ⟨Tryz.prog, layF, Tryz.f121.ntmps, ΓL, 6, [], []⟩) layF_ok mixed Tryz.func121 rfl (by kernel_rfl) rfl rfl rfl SLe.rfl ?_
    repeat' (first | refine tT ?_ | refine tF ?_ | refine ex_dec (fun _ => ?_) (fun _ => ?_) | refine t8 ?_ | refine tI ?_ | refine tU ?_ | refine tA ?_ | refine tB ?_ | refine tL ?_ | refine tN ?_ | fail "no step")
    refine sC (CallsM.ren ((starts_c (m := m) s.i hi)) [0, 1] 6 rfl rfl rfl rfl) ?_
    repeat' (first | refine tT ?_ | refine tF ?_ | refine ex_dec (fun _ => ?_) (fun _ => ?_) | refine t8 ?_ | refine tI ?_ | refine tU ?_ | refine tA ?_ | refine tB ?_ | refine tL ?_ | refine tN ?_ | fail "no step")
    refine sC (CallsM.ren ((hd.err hT)) [0, 1, 2, 3, 4, 5] 6 rfl rfl rfl rfl) ?_
    exact ⟨⟨_, rfl, rfl⟩, rfl, rfl⟩
theorem layc_c (i : Nat) (ts : List TY) (x n : Int) (cs : List CA) (hx : ts.length ≤ 1000000) : CallsM Tryz.prog ΓL 122 [(0, Qz L m i), (1, Fz 2 3 4 5), (5, Tz ts)] 6 [P0, gD [di 9, di 0, db false, ds ⟨#[]⟩, dnil, di x, di n, .sl 2 (cs.map caD)]] (Ti ts.length) [(0, Qz L m i), (1, Fz 2 3 4 6), (5, .dead)] [Tz (ts ++ [⟨9, 0, false, [], [], x, n, cs⟩])] :=
  (lay_c (L := L) (m := m) ⟨i, [], ts⟩ ⟨9, 0, false, [], [], x, n, cs⟩ hx).argsLe (.cons T1Le.rfl (.cons (T1Le.g (.cons DLe.rfl (.cons DLe.rfl (.cons DLe.rfl (.cons DLe.rfl (.cons DLe.nil (.cons DLe.rfl (.cons DLe.rfl (.cons DLe.rfl .nil))))))))) .nil))
set_option maxHeartbeats 4000000 in
theorem choice_c (hL : TokOk L) (hn : L.length ≤ 100000) (hm : m ≤ 32) {kd : PM Int} (hu : Up L kd 0 0) (hc : ∀ m', m = m' + 1 → ∀ s, SOk L 0 s → C2 L m' 83 [] kd (fun k => Ti k) s) (s : PS) {c : Nat} (hs : SOk L (c + 1) s) :
    C2 L m 123 [] (choiceM L m kd) (fun k => Ti k) s := by
  refine C2.of fun T hT => ?_
  unfold choiceM at hT
  obtain ⟨i, xs, ts⟩ := s
  have hin : ∀ s, SOk L 0 s → C2 L m 121 [] (innerM L m kd) (fun k => Ti k) s := fun s hs => inner_c hm s hs.i fun m' e => hc m' e s hs
  refine fn_ruleP (C := ⟨Tryz.prog, layF, Tryz.f123.ntmps, ΓL, 6, [], []⟩) layF_ok mixed Tryz.func123 rfl (by kernel_rfl) rfl rfl rfl SLe.rfl ?_
  repeat' (first | refine ex_call (plain_c 9) ?_ | refine tT ?_ | refine tF ?_ | refine ex_dec (fun _ => ?_) (fun _ => ?_) | refine t8 ?_ | refine tI ?_ | refine tU ?_ | refine tA ?_ | refine tB ?_ | refine tL ?_ | refine tN ?_ | fail "no step")
  have hcon := take_c (m := m) ⟨i, xs, ts⟩ hs.i (by omega) t_lpar
  rcases hx74 : (takeM L t_lpar) ⟨i, xs, ts⟩ with ⟨_, s9⟩ | ⟨i9, e9⟩
  rotate_left
  · obtain rfl := (and_err hx74).symm.trans hT
    refine sC (CallsM.ren (hcon.err hx74) [0, 1] 7 rfl rfl rfl rfl) ?_
    first | exact ⟨⟨_, rfl, rfl⟩, rfl, rfl⟩ | exact ⟨by kernel_rfl, ⟨_, rfl, rfl⟩, rfl, rfl⟩
  replace hT := (and_ok hx74).symm.trans hT
  refine sC (CallsM.ren (hcon.ok hx74) [0, 1] 7 rfl rfl rfl rfl) ?_
  clear hcon
  have hs1 := (Up.ok (Up.take hL t_lpar 0) hs hx74).1
  obtain rfl := mv_take1 hx74
  repeat' (first | refine tT ?_ | refine tF ?_ | refine ex_dec (fun _ => ?_) (fun _ => ?_) | refine t8 ?_ | refine tI ?_ | refine tU ?_ | refine tA ?_ | refine tB ?_ | refine tL ?_ | refine tN ?_ | fail "no step")
  have hcon := expr_c hL hn m hm ⟨i + 1, xs, ts⟩ (hs1.less (by omega))
  rcases hx : (exprM L m) ⟨i + 1, xs, ts⟩ with ⟨x, ⟨i2, xs2, ts2⟩⟩ | ⟨i9, e9⟩
  rotate_left
  · obtain rfl := (and_err hx).symm.trans hT
    refine sC (CallsM.ren (hcon.err hx) [0, 1, 2, 3, 4, 5] 7 rfl rfl rfl rfl) ?_
    first | exact ⟨⟨_, rfl, rfl⟩, rfl, rfl⟩ | exact ⟨by kernel_rfl, ⟨_, rfl, rfl⟩, rfl, rfl⟩
  replace hT := (and_ok hx).symm.trans hT
  refine sC (CallsM.ren (hcon.ok hx) [0, 1, 2, 3, 4, 5] 7 rfl rfl rfl rfl) ?_
  clear hcon
  have hs2 := (Up.ok (up_expr hL m 1) hs1 hx).1
  obtain rfl := (keep_expr m).eq hx
  repeat' (first | refine tT ?_ | refine tF ?_ | refine ex_dec (fun _ => ?_) (fun _ => ?_) | refine t8 ?_ | refine tI ?_ | refine tU ?_ | refine tA ?_ | refine tB ?_ | refine tL ?_ | refine tN ?_ | fail "no step")
  have hcon := take_c (m := m) ⟨i2, xs2, ts⟩ hs2.i (by omega) t_rpar
  rcases hx78 : (takeM L t_rpar) ⟨i2, xs2, ts⟩ with ⟨_, s9⟩ | ⟨i9, e9⟩
  rotate_left
  · obtain rfl := (and_err hx78).symm.trans hT
    refine sC (CallsM.ren (hcon.err hx78) [0, 1] 8 rfl rfl rfl rfl) ?_
    first | exact ⟨⟨_, rfl, rfl⟩, rfl, rfl⟩ | exact ⟨by kernel_rfl, ⟨_, rfl, rfl⟩, rfl, rfl⟩
  replace hT := (and_ok hx78).symm.trans hT
  refine sC (CallsM.ren (hcon.ok hx78) [0, 1] 8 rfl rfl rfl rfl) ?_
  clear hcon
  have hs3 := (Up.ok (Up.take hL t_rpar 0) hs2 hx78).1
  obtain rfl := mv_take1 hx78
  repeat' (first | refine tT ?_ | refine tF ?_ | refine ex_dec (fun _ => ?_) (fun _ => ?_) | refine t8 ?_ | refine tI ?_ | refine tU ?_ | refine tA ?_ | refine tB ?_ | refine tL ?_ | refine tN ?_ | fail "no step")
  have hcon := take_c (m := m) ⟨i2 + 1, xs2, ts⟩ hs3.i (by omega) t_lcur
  rcases hx80 : (takeM L t_lcur) ⟨i2 + 1, xs2, ts⟩ with ⟨_, s9⟩ | ⟨i9, e9⟩
  rotate_left
  · obtain rfl := (and_err hx80).symm.trans hT
    refine sC (CallsM.ren (hcon.err hx80) [0, 1] 8 rfl rfl rfl rfl) ?_
    first | exact ⟨⟨_, rfl, rfl⟩, rfl, rfl⟩ | exact ⟨by kernel_rfl, ⟨_, rfl, rfl⟩, rfl, rfl⟩
  replace hT := (and_ok hx80).symm.trans hT
  refine sC (CallsM.ren (hcon.ok hx80) [0, 1] 8 rfl rfl rfl rfl) ?_
  clear hcon
  have hs4 := (Up.ok (Up.take hL t_lcur 0) hs3 hx80).1
  obtain rfl := mv_take1 hx80
  repeat' (first | refine tT ?_ | refine tF ?_ | refine ex_dec (fun _ => ?_) (fun _ => ?_) | refine t8 ?_ | refine tI ?_ | refine tU ?_ | refine tA ?_ | refine tB ?_ | refine tL ?_ | refine tN ?_ | fail "no step")
  replace hT : (casesN L m kd (L.length - (i2 + 1 + 1) + 1) [] >>= fun cs => atM (isV L · w_else) (stepM >>= fun _ => takeM L t_colon >>= fun _ => innerM L m kd >>= fun k => takeM L t_semi >>= fun _ => pure k) (pure (-1)) >>= fun k => takeM L t_rcur >>= fun _ => layM { tyP 9 with ex := x, inn := k, cases := cs }) ⟨i2 + 1 + 1, xs2, ts⟩ = T := hT
  refine ex_loop (X := Nat × List EX × List TY × List CA × Nat) (fun ⟨i, xs, ts, cs, _⟩ => ⟨[(0, .o P0), (3, .o (.c (.ptr 6 0)))], [(5, .dead), (0, Qz L m i), (1, Fz 2 3 7 9), (4, .dead), (6, .obj [.d (di 9), .d (di 0), .d (db false), .d (ds ⟨#[]⟩), .d dnil, .d (di x), .d (di (-1)), .row 8]), (7, Xz xs), (8, .row 2 251 (cs.map caD)), (9, Tz ts)], 10⟩) (fun y => L.length - y.1)
    (fun ⟨i, xs, ts, cs, n⟩ => SOk L (c + 4) ⟨i, xs, ts⟩ ∧ L.length < i + n ∧ cs.length ≤ i ∧ (casesN L m kd n cs >>= fun cs => atM (isV L · w_else) (stepM >>= fun _ => takeM L t_colon >>= fun _ => innerM L m kd >>= fun k => takeM L t_semi >>= fun _ => pure k) (pure (-1)) >>= fun k => takeM L t_rcur >>= fun _ => layM { tyP 9 with ex := x, inn := k, cases := cs }) ⟨i, xs, ts⟩ = T) (i2 + 1 + 1, xs2, ts, [], L.length - (i2 + 1 + 1) + 1) ⟨hs4, by omega, Nat.zero_le _, hT⟩
    (SLe.kill (nx := 10) 5 (SLe.via (SLe.ownCell 6 7 8 2 251 rfl rfl rfl rfl rfl rfl) (SLe.ren [(0, 0), (1, 1), (2, 2), (3, 3), (4, 4), (6, 6), (7, 7), (8, 8), (5, 9)] ⟨⟨rfl, rfl⟩, ⟨rfl, rfl⟩, trivial⟩ ⟨⟨rfl, rfl⟩, ⟨rfl, rfl⟩, ⟨rfl, rfl⟩, ⟨rfl, rfl⟩, ⟨rfl, rfl⟩, ⟨rfl, rfl⟩, ⟨rfl, rfl⟩, trivial⟩ rfl))) ?_
  clear hT hx hs4 hs3 hs2 hs1 hs
  rintro ⟨i, xs, ts, cs, n⟩ ⟨hs, hf, hll, hT⟩
  have hi := hs.lt
  cases n with
  | zero => omega
  | succ n =>
    rw [casesN] at hT
    have his := is_c (m := m) i hi w_case
    rcases hv : isV L i w_case with _ | _ <;> rw [hv] at his
    · replace hT := pureT (atnB hT hv)
      refine sC (CallsM.ren (his) [0, 1] 10 rfl rfl rfl rfl) ?_
      repeat' (first | refine tT ?_ | refine tF ?_ | refine ex_dec (fun _ => ?_) (fun _ => ?_) | refine t8 ?_ | refine tI ?_ | refine tU ?_ | refine tA ?_ | refine tB ?_ | refine tL ?_ | refine tN ?_ | fail "no step")
      rcases hv2 : isV L i w_else with _ | _
      · replace hT := pureT (atnB hT hv2)
        refine sC (CallsM.ren ((may_no i hi _ hv2)) [0, 1] 10 rfl rfl rfl rfl) ?_
        repeat' (first | refine tT ?_ | refine tF ?_ | refine ex_dec (fun _ => ?_) (fun _ => ?_) | refine t8 ?_ | refine tI ?_ | refine tU ?_ | refine tA ?_ | refine tB ?_ | refine tL ?_ | refine tN ?_ | fail "no step")
        have hcon := take_c (m := m) ⟨i, xs, ts⟩ hs.i (by omega) t_rcur
        rcases hx102 : (takeM L t_rcur) ⟨i, xs, ts⟩ with ⟨_, s9⟩ | ⟨i9, e9⟩
        rotate_left
        · obtain rfl := (and_err hx102).symm.trans hT
          refine sC (CallsM.ren (hcon.err hx102) [0, 1] 10 rfl rfl rfl rfl) ?_
          first | exact ⟨⟨_, rfl, rfl⟩, rfl, rfl⟩ | exact ⟨by kernel_rfl, ⟨_, rfl, rfl⟩, rfl, rfl⟩
        replace hT := (and_ok hx102).symm.trans hT
        refine sC (CallsM.ren (hcon.ok hx102) [0, 1] 10 rfl rfl rfl rfl) ?_
        clear hcon
        have hs1 := (Up.ok (Up.take hL t_rcur 0) hs hx102).1
        obtain rfl := mv_take1 hx102
        obtain rfl : PR.ok (ts.length : Int) ⟨i + 1, xs, ts ++ [(⟨9, 0, false, [], [], x, -1, cs⟩ : TY)]⟩ = T := hT
        have htl := hs.lt'
        repeat' (first | refine tT ?_ | refine tF ?_ | refine ex_dec (fun _ => ?_) (fun _ => ?_) | refine t8 ?_ | refine tI ?_ | refine tU ?_ | refine tA ?_ | refine tB ?_ | refine tL ?_ | refine tN ?_ | fail "no step")
        refine sC (CallsM.ren ((layc_c (L := L) (m := m) (i + 1) ts x (-1) cs (by omega))) [0, 1, 2, 3, 7, 9] 10 rfl rfl rfl rfl) ?_
        repeat' (first | refine tT ?_ | refine tF ?_ | refine ex_dec (fun _ => ?_) (fun _ => ?_) | refine t8 ?_ | refine tI ?_ | refine tU ?_ | refine tA ?_ | refine tB ?_ | refine tL ?_ | refine tN ?_ | fail "no step")
        exact ⟨rfl, TLe.rfl, rfl, rfl⟩
      · replace hT := asc (stp1 (asc (atyB hT hv2)))
        have hs1 := stpS hL hs (isV_k hv2)
        refine sC (CallsM.ren ((may_yes i hi (by omega) _ hv2)) [0, 1] 10 rfl rfl rfl rfl) ?_
        repeat' (first | refine tT ?_ | refine tF ?_ | refine ex_dec (fun _ => ?_) (fun _ => ?_) | refine t8 ?_ | refine tI ?_ | refine tU ?_ | refine tA ?_ | refine tB ?_ | refine tL ?_ | refine tN ?_ | fail "no step")
        have hcon := take_c (m := m) ⟨i + 1, xs, ts⟩ hs1.i (by omega) t_colon
        rcases hx113 : (takeM L t_colon) ⟨i + 1, xs, ts⟩ with ⟨_, s9⟩ | ⟨i9, e9⟩
        rotate_left
        · obtain rfl := (and_err hx113).symm.trans hT
          refine sC (CallsM.ren (hcon.err hx113) [0, 1] 10 rfl rfl rfl rfl) ?_
          first | exact ⟨⟨_, rfl, rfl⟩, rfl, rfl⟩ | exact ⟨by kernel_rfl, ⟨_, rfl, rfl⟩, rfl, rfl⟩
        replace hT := (and_ok hx113).symm.trans hT
        refine sC (CallsM.ren (hcon.ok hx113) [0, 1] 10 rfl rfl rfl rfl) ?_
        clear hcon
        have hs2 := (Up.ok (Up.take hL t_colon 0) hs1 hx113).1
        obtain rfl := mv_take1 hx113
        repeat' (first | refine tT ?_ | refine tF ?_ | refine ex_dec (fun _ => ?_) (fun _ => ?_) | refine t8 ?_ | refine tI ?_ | refine tU ?_ | refine tA ?_ | refine tB ?_ | refine tL ?_ | refine tN ?_ | fail "no step")
        replace hT := asc hT
        have hcon := hin ⟨i + 1 + 1, xs, ts⟩ (hs2.less (by omega))
        rcases hx : (innerM L m kd) ⟨i + 1 + 1, xs, ts⟩ with ⟨k, ⟨i3, xs3, ts3⟩⟩ | ⟨i9, e9⟩
        rotate_left
        · obtain rfl := (and_err hx).symm.trans hT
          refine sC (CallsM.ren (hcon.err hx) [0, 1, 2, 3, 7, 9] 10 rfl rfl rfl rfl) ?_
          first | exact ⟨⟨_, rfl, rfl⟩, rfl, rfl⟩ | exact ⟨by kernel_rfl, ⟨_, rfl, rfl⟩, rfl, rfl⟩
        replace hT := (and_ok hx).symm.trans hT
        refine sC (CallsM.ren (hcon.ok hx) [0, 1, 2, 3, 7, 9] 10 rfl rfl rfl rfl) ?_
        clear hcon
        have hs3 := (Up.ok (up_inner m hu (c + 6)) (show SOk L (0 + (c + 6)) ⟨i + 1 + 1, xs, ts⟩ from hs2.less (by omega)) hx).1
        repeat' (first | refine tT ?_ | refine tF ?_ | refine ex_dec (fun _ => ?_) (fun _ => ?_) | refine t8 ?_ | refine tI ?_ | refine tU ?_ | refine tA ?_ | refine tB ?_ | refine tL ?_ | refine tN ?_ | fail "no step")
        replace hT := asc hT
        have hcon := take_c (m := m) ⟨i3, xs3, ts3⟩ hs3.i (by omega) t_semi
        rcases hx119 : (takeM L t_semi) ⟨i3, xs3, ts3⟩ with ⟨_, s9⟩ | ⟨i9, e9⟩
        rotate_left
        · obtain rfl := (and_err hx119).symm.trans hT
          refine sC (CallsM.ren (hcon.err hx119) [0, 1] 12 rfl rfl rfl rfl) ?_
          first | exact ⟨⟨_, rfl, rfl⟩, rfl, rfl⟩ | exact ⟨by kernel_rfl, ⟨_, rfl, rfl⟩, rfl, rfl⟩
        replace hT := (and_ok hx119).symm.trans hT
        refine sC (CallsM.ren (hcon.ok hx119) [0, 1] 12 rfl rfl rfl rfl) ?_
        clear hcon
        have hs4 := (Up.ok (Up.take hL t_semi 0) hs3 hx119).1
        obtain rfl := mv_take1 hx119
        replace hT := pureT hT
        repeat' (first | refine tT ?_ | refine tF ?_ | refine ex_dec (fun _ => ?_) (fun _ => ?_) | refine t8 ?_ | refine tI ?_ | refine tU ?_ | refine tA ?_ | refine tB ?_ | refine tL ?_ | refine tN ?_ | fail "no step")
        have hcon := take_c (m := m) ⟨i3 + 1, xs3, ts3⟩ hs4.i (by omega) t_rcur
        rcases hx122 : (takeM L t_rcur) ⟨i3 + 1, xs3, ts3⟩ with ⟨_, s9⟩ | ⟨i9, e9⟩
        rotate_left
        · obtain rfl := (and_err hx122).symm.trans hT
          refine sC (CallsM.ren (hcon.err hx122) [0, 1] 12 rfl rfl rfl rfl) ?_
          first | exact ⟨⟨_, rfl, rfl⟩, rfl, rfl⟩ | exact ⟨by kernel_rfl, ⟨_, rfl, rfl⟩, rfl, rfl⟩
        replace hT := (and_ok hx122).symm.trans hT
        refine sC (CallsM.ren (hcon.ok hx122) [0, 1] 12 rfl rfl rfl rfl) ?_
        clear hcon
        have hs5 := (Up.ok (Up.take hL t_rcur 0) hs4 hx122).1
        obtain rfl := mv_take1 hx122
        obtain rfl : PR.ok (ts3.length : Int) ⟨i3 + 1 + 1, xs3, ts3 ++ [(⟨9, 0, false, [], [], x, k, cs⟩ : TY)]⟩ = T := hT
        have htl := hs3.lt'
        have hi3 := hs3.lt
        repeat' (first | refine tT ?_ | refine tF ?_ | refine ex_dec (fun _ => ?_) (fun _ => ?_) | refine t8 ?_ | refine tI ?_ | refine tU ?_ | refine tA ?_ | refine tB ?_ | refine tL ?_ | refine tN ?_ | fail "no step")
        refine sC (CallsM.ren ((layc_c (L := L) (m := m) (i3 + 1 + 1) ts3 x k cs (by omega))) [0, 1, 2, 3, 10, 11] 12 rfl rfl rfl rfl) ?_
        repeat' (first | refine tT ?_ | refine tF ?_ | refine ex_dec (fun _ => ?_) (fun _ => ?_) | refine t8 ?_ | refine tI ?_ | refine tU ?_ | refine tA ?_ | refine tB ?_ | refine tL ?_ | refine tN ?_ | fail "no step")
        exact ⟨rfl, TLe.rfl, rfl, rfl⟩
    · replace hT := asc (atyB hT hv)
      refine sC (CallsM.ren (his) [0, 1] 10 rfl rfl rfl rfl) ?_
      repeat' (first | refine ex_is cs.length (by simp) ?_ | refine tT ?_ | refine tF ?_ | refine ex_dec (fun _ => ?_) (fun _ => ?_) | refine t8 ?_ | refine tI ?_ | refine tU ?_ | refine tA ?_ | refine tB ?_ | refine tL ?_ | refine tN ?_ | fail "no step")
      have hcon := room_c (m := m) ⟨i, xs, ts⟩ hi cs.length (by omega)
      rcases hr : (roomM cs.length) ⟨i, xs, ts⟩ with ⟨_, s9⟩ | ⟨i9, e9⟩
      rotate_left
      · obtain rfl := (and_err hr).symm.trans hT
        refine sC (CallsM.ren (hcon.err hr) [0, 1] 10 rfl rfl rfl rfl) ?_
        first | exact ⟨⟨_, rfl, rfl⟩, rfl, rfl⟩ | exact ⟨by kernel_rfl, ⟨_, rfl, rfl⟩, rfl, rfl⟩
      replace hT := (and_ok hr).symm.trans hT
      refine sC (CallsM.ren (hcon.ok hr) [0, 1] 10 rfl rfl rfl rfl) ?_
      clear hcon
      obtain rfl := mv_room1 hr
      replace hT := asc (stp1 (asc hT))
      have hs1 := stpS hL hs (isV_k hv)
      repeat' (first | refine tT ?_ | refine tF ?_ | refine ex_dec (fun _ => ?_) (fun _ => ?_) | refine t8 ?_ | refine tI ?_ | refine tU ?_ | refine tA ?_ | refine tB ?_ | refine tL ?_ | refine tN ?_ | fail "no step")
      refine sC (CallsM.ren (((take_c (m := m) ⟨i, xs, ts⟩ hi (by omega) w_case).ok (takeY hv))) [0, 1] 10 rfl rfl rfl rfl) ?_
      repeat' (first | refine tT ?_ | refine tF ?_ | refine ex_dec (fun _ => ?_) (fun _ => ?_) | refine t8 ?_ | refine tI ?_ | refine tU ?_ | refine tA ?_ | refine tB ?_ | refine tL ?_ | refine tN ?_ | fail "no step")
      have hcon := num_c (m := m) ⟨i + 1, xs, ts⟩ hs1.i (by omega)
      rcases hx139 : (numberM L) ⟨i + 1, xs, ts⟩ with ⟨v, s9⟩ | ⟨i9, e9⟩
      rotate_left
      · obtain rfl := (and_err hx139).symm.trans hT
        refine sC (CallsM.ren (hcon.err hx139) [0, 1] 10 rfl rfl rfl rfl) ?_
        first | exact ⟨⟨_, rfl, rfl⟩, rfl, rfl⟩ | exact ⟨by kernel_rfl, ⟨_, rfl, rfl⟩, rfl, rfl⟩
      replace hT := (and_ok hx139).symm.trans hT
      refine sC (CallsM.ren (hcon.ok hx139) [0, 1] 10 rfl rfl rfl rfl) ?_
      clear hcon
      have hs2 := (Up.ok (Up.number hL 0) hs1 hx139).1
      obtain rfl := mv_num1 hx139
      replace hT := asc hT
      repeat' (first | refine tT ?_ | refine tF ?_ | refine ex_dec (fun _ => ?_) (fun _ => ?_) | refine t8 ?_ | refine tI ?_ | refine tU ?_ | refine tA ?_ | refine tB ?_ | refine tL ?_ | refine tN ?_ | fail "no step")
      have hcon := take_c (m := m) ⟨i + 1 + 1, xs, ts⟩ hs2.i (by omega) t_colon
      rcases hx142 : (takeM L t_colon) ⟨i + 1 + 1, xs, ts⟩ with ⟨_, s9⟩ | ⟨i9, e9⟩
      rotate_left
      · obtain rfl := (and_err hx142).symm.trans hT
        refine sC (CallsM.ren (hcon.err hx142) [0, 1] 10 rfl rfl rfl rfl) ?_
        first | exact ⟨⟨_, rfl, rfl⟩, rfl, rfl⟩ | exact ⟨by kernel_rfl, ⟨_, rfl, rfl⟩, rfl, rfl⟩
      replace hT := (and_ok hx142).symm.trans hT
      refine sC (CallsM.ren (hcon.ok hx142) [0, 1] 10 rfl rfl rfl rfl) ?_
      clear hcon
      have hs3 := (Up.ok (Up.take hL t_colon 0) hs2 hx142).1
      obtain rfl := mv_take1 hx142
      replace hT := asc hT
      repeat' (first | refine tT ?_ | refine tF ?_ | refine ex_dec (fun _ => ?_) (fun _ => ?_) | refine t8 ?_ | refine tI ?_ | refine tU ?_ | refine tA ?_ | refine tB ?_ | refine tL ?_ | refine tN ?_ | fail "no step")
      have hcon := hin ⟨i + 1 + 1 + 1, xs, ts⟩ (hs3.less (by omega))
      rcases hx : (innerM L m kd) ⟨i + 1 + 1 + 1, xs, ts⟩ with ⟨k, ⟨i3, xs3, ts3⟩⟩ | ⟨i9, e9⟩
      rotate_left
      · obtain rfl := (and_err hx).symm.trans hT
        refine sC (CallsM.ren (hcon.err hx) [0, 1, 2, 3, 7, 9] 10 rfl rfl rfl rfl) ?_
        first | exact ⟨⟨_, rfl, rfl⟩, rfl, rfl⟩ | exact ⟨by kernel_rfl, ⟨_, rfl, rfl⟩, rfl, rfl⟩
      replace hT := (and_ok hx).symm.trans hT
      refine sC (CallsM.ren (hcon.ok hx) [0, 1, 2, 3, 7, 9] 10 rfl rfl rfl rfl) ?_
      clear hcon
      have hs4 := (Up.ok (up_inner m hu (c + 7)) (show SOk L (0 + (c + 7)) ⟨i + 1 + 1 + 1, xs, ts⟩ from hs3.less (by omega)) hx).1
      have hi3 : i + 1 + 1 + 1 ≤ i3 := (Up.ok (c := 0) (up_inner m hu 0) (hs3.less (by omega)) hx).2
      replace hs4 : SOk L (c + 7) ⟨i3, xs3, ts3⟩ := hs4.less (by omega)
      repeat' (first | refine tT ?_ | refine tF ?_ | refine ex_dec (fun _ => ?_) (fun _ => ?_) | refine t8 ?_ | refine tI ?_ | refine tU ?_ | refine tA ?_ | refine tB ?_ | refine tL ?_ | refine tN ?_ | fail "no step")
      refine ex_app (cs.length) (1) 1000 (by first | rfl | (simp; done) | (simp; omega)) (by first | rfl | (simp; done) | (simp; omega)) rfl (by omega) ?_
      refine ex_is (List.map caD (cs ++ [(⟨v, k⟩ : CA)])) (by rw [List.map_append]; rfl) ?_
      repeat' (first | refine tT ?_ | refine tF ?_ | refine ex_dec (fun _ => ?_) (fun _ => ?_) | refine t8 ?_ | refine tI ?_ | refine tU ?_ | refine tA ?_ | refine tB ?_ | refine tL ?_ | refine tN ?_ | fail "no step")
      replace hT := asc hT
      have hcon := take_c (m := m) ⟨i3, xs3, ts3⟩ hs4.i (by omega) t_semi
      rcases hx153 : (takeM L t_semi) ⟨i3, xs3, ts3⟩ with ⟨_, s9⟩ | ⟨i9, e9⟩
      rotate_left
      · obtain rfl := (and_err hx153).symm.trans hT
        refine sC (CallsM.ren (hcon.err hx153) [0, 1] 14 rfl rfl rfl rfl) ?_
        first | exact ⟨⟨_, rfl, rfl⟩, rfl, rfl⟩ | exact ⟨by kernel_rfl, ⟨_, rfl, rfl⟩, rfl, rfl⟩
      replace hT := (and_ok hx153).symm.trans hT
      refine sC (CallsM.ren (hcon.ok hx153) [0, 1] 14 rfl rfl rfl rfl) ?_
      clear hcon
      have hs5 := (Up.ok (Up.take hL t_semi 0) hs4 hx153).1
      obtain rfl := mv_take1 hx153
      repeat' (first | refine tT ?_ | refine tF ?_ | refine ex_dec (fun _ => ?_) (fun _ => ?_) | refine t8 ?_ | refine tI ?_ | refine tU ?_ | refine tA ?_ | refine tB ?_ | refine tL ?_ | refine tN ?_ | fail "no step")
      exact ex_round (i3 + 1, xs3, ts3, cs ++ [(⟨v, k⟩ : CA)], n) ⟨hs5.less (by omega), by omega, by simp; omega, hT⟩ (by show L.length - (i3 + 1) < L.length - i; omega) (SLe.ren [(0, 0), (1, 1), (2, 2), (3, 3), (4, 4), (5, 5), (6, 6), (10, 7), (13, 8), (11, 9)] ⟨⟨rfl, rfl⟩, ⟨rfl, rfl⟩, trivial⟩ ⟨⟨rfl, rfl⟩, ⟨rfl, rfl⟩, ⟨rfl, rfl⟩, ⟨rfl, rfl⟩, ⟨rfl, rfl⟩, ⟨rfl, rfl⟩, ⟨rfl, rfl⟩, ⟨rfl, rfl⟩, trivial⟩ rfl)
end
end Go.Proofs.YtoingpafcodojaaGreatDoor

namespace Go.Proofs.YtoingpafcodojaaGreatDoor
open Go.RowKit

section
variable {L : List TokP} {m : Nat}
def sizedTV : Option Nat → TV
  | some k => .tup [c1 (di k), c1 (db true)]
  | none => .tup [c1 (di 0), c1 (db false)]
theorem sized_c (w : List UInt8) : CallsA Tryz.prog ΓL 118 [c1 (ds (bs w))] (sizedTV (sizedV w)) := by
  by_cases h : w = w_bytes ∨ w = w_zero ∨ w = w_skip ∨ w = w_window ∨ w = w_at
  · rcases h with rfl | rfl | rfl | rfl | rfl
    all_goals
      refine fn_rule (C := ⟨Tryz.prog, layF, Tryz.f118.ntmps, ΓL, 0, [], []⟩) layF_ok mixed Tryz.func118 rfl (by kernel_rfl) rfl rfl rfl ?_
      repeat' (first | refine tT ?_ | refine tF ?_ | refine ex_dec (fun _ => ?_) (fun _ => ?_) | refine t8 ?_ | refine tI ?_ | refine tU ?_ | refine tA ?_ | refine tB ?_ | refine tL ?_ | refine tN ?_ | fail "no step")
      exact TLe.rfl
  · have hne : ∀ l, l ∈ [w_bytes, w_zero, w_skip, w_window, w_at] → ¬ bs w = bs l := fun l hl he => h (by
      rw [bsj.1 he]
      simpa only [List.mem_cons, List.not_mem_nil, or_false] using hl)
    have h0 : sizedV w = none := by
      unfold sizedV
      rw [if_neg (fun e => h (by simp [e])), if_neg (fun e => h (by simp [e])), if_neg (fun e => h (by simp [e])), if_neg (fun e => h (by simp [e])), if_neg (fun e => h (by simp [e]))]
    rw [h0]
    refine fn_rule (C := ⟨Tryz.prog, layF, Tryz.f118.ntmps, ΓL, 0, [], []⟩) layF_ok mixed Tryz.func118 rfl (by kernel_rfl) rfl rfl rfl ?_
    repeat' (first | refine ex_false (hne _ (by decide)) ?_ | refine tT ?_ | refine tF ?_ | refine ex_dec (fun _ => ?_) (fun _ => ?_) | refine t8 ?_ | refine tI ?_ | refine tU ?_ | refine tA ?_ | refine tB ?_ | refine tL ?_ | refine tN ?_ | fail "no step")
    exact TLe.rfl
set_option maxHeartbeats 4000000 in
theorem kind_named (hL : TokOk L) (hn : L.length ≤ 100000) (hm : m ≤ 32) (s : PS) (hs : SOk L 0 s) (hv : namedV L s.i = true) {kd : PM Int} : C2 L m 83 [] (kindF L m kd) (fun k => Ti k) s := by
  refine C2.of fun T hT => ?_
  unfold kindF at hT
  obtain ⟨i, xs, ts⟩ := s
  have hv : namedV L i = true := hv
  replace hT := aty hT hv
  have hnm := named_c (m := m) i hs.lt
  rw [hv] at hnm
  refine fn_ruleP (C := ⟨Tryz.prog, layF, Tryz.f83.ntmps, ΓL, 6, [], []⟩) layF_ok mixed Tryz.func83 rfl (by kernel_rfl) rfl rfl rfl SLe.rfl ?_
  repeat' (first | refine tT ?_ | refine tF ?_ | refine ex_dec (fun _ => ?_) (fun _ => ?_) | refine t8 ?_ | refine tI ?_ | refine tU ?_ | refine tA ?_ | refine tB ?_ | refine tL ?_ | refine tN ?_ | fail "no step")
  refine sC (CallsM.ren (hnm) [0, 1] 6 rfl rfl rfl rfl) ?_
  repeat' (first | refine tT ?_ | refine tF ?_ | refine ex_dec (fun _ => ?_) (fun _ => ?_) | refine t8 ?_ | refine tI ?_ | refine tU ?_ | refine tA ?_ | refine tB ?_ | refine tL ?_ | refine tN ?_ | fail "no step")
  have hcon := ref_c hL hn hm ⟨i, xs, ts⟩ hs
  rcases hx : (refM L m) ⟨i, xs, ts⟩ with ⟨t, ⟨i2, xs2, ts2⟩⟩ | ⟨i9, e9⟩
  rotate_left
  · obtain rfl := (and_err hx).symm.trans hT
    refine sC (CallsM.ren (hcon.err hx) [0, 1, 2, 3, 4, 5] 6 rfl rfl rfl rfl) ?_
    first | exact ⟨⟨_, rfl, rfl⟩, rfl, rfl⟩ | exact ⟨by kernel_rfl, ⟨_, rfl, rfl⟩, rfl, rfl⟩
  replace hT := (and_ok hx).symm.trans hT
  refine sC (CallsM.ren (hcon.ok hx) [0, 1, 2, 3, 4, 5] 6 rfl rfl rfl rfl) ?_
  clear hcon
  have hs2 := (Up.ok (up_ref hL m) hs hx).1
  obtain rfl := (keep_ref).eq hx
  have hcon := array_c hL hn hm t ⟨i2, xs2, ts⟩ hs2
  rcases hy : (arrayM L m t) ⟨i2, xs2, ts⟩ with ⟨k, ⟨i3, xs3, ts3⟩⟩ | ⟨i9, e9⟩
  rotate_left
  · obtain rfl := hy.symm.trans hT
    refine sC (CallsM.ren (hcon.err hy) [0, 1, 2, 3, 6, 5] 7 rfl rfl rfl rfl) ?_
    first | exact ⟨⟨_, rfl, rfl⟩, rfl, rfl⟩ | exact ⟨by kernel_rfl, ⟨_, rfl, rfl⟩, rfl, rfl⟩
  obtain rfl := hy.symm.trans hT
  refine sC (CallsM.ren (hcon.ok hy) [0, 1, 2, 3, 6, 5] 7 rfl rfl rfl rfl) ?_
  clear hcon
  repeat' (first | refine tT ?_ | refine tF ?_ | refine ex_dec (fun _ => ?_) (fun _ => ?_) | refine t8 ?_ | refine tI ?_ | refine tU ?_ | refine tA ?_ | refine tB ?_ | refine tL ?_ | refine tN ?_ | fail "no step")
  exact ⟨rfl, TLe.rfl, rfl, rfl⟩
theorem kind_bad (s : PS) (hi : s.i < L.length) (hv : startsV L s.i = false) {kd : PM Int} : C2 L m 83 [] (kindF L m kd) (fun k => Ti k) s := by
  refine C2.of fun T hT => ?_
  unfold kindF at hT
  obtain ⟨i, xs, ts⟩ := s
  have hv : startsV L i = false := hv
  have hi : i < L.length := hi
  have hv1 : namedV L i = false := by
    unfold startsV at hv
    rw [Bool.or_eq_false_iff] at hv
    exact hv.1
  obtain rfl : PR.err i 4 = T := atn (atn hT hv1) hv
  have hnm := named_c (m := m) i hi
  rw [hv1] at hnm
  have hst := starts_c (m := m) i hi
  rw [hv] at hst
  refine fn_ruleP (C := ⟨Tryz.prog, layF, Tryz.f83.ntmps, ΓL, 6, [], []⟩) layF_ok mixed Tryz.func83 rfl (by kernel_rfl) rfl rfl rfl SLe.rfl ?_
  repeat' (first | refine tT ?_ | refine tF ?_ | refine ex_dec (fun _ => ?_) (fun _ => ?_) | refine t8 ?_ | refine tI ?_ | refine tU ?_ | refine tA ?_ | refine tB ?_ | refine tL ?_ | refine tN ?_ | fail "no step")
  refine sC (CallsM.ren (hnm) [0, 1] 6 rfl rfl rfl rfl) ?_
  repeat' (first | refine tT ?_ | refine tF ?_ | refine ex_dec (fun _ => ?_) (fun _ => ?_) | refine t8 ?_ | refine tI ?_ | refine tU ?_ | refine tA ?_ | refine tB ?_ | refine tL ?_ | refine tN ?_ | fail "no step")
  refine sC (CallsM.ren (hst) [0, 1] 6 rfl rfl rfl rfl) ?_
  repeat' (first | refine tT ?_ | refine tF ?_ | refine ex_dec (fun _ => ?_) (fun _ => ?_) | refine t8 ?_ | refine tI ?_ | refine tU ?_ | refine tA ?_ | refine tB ?_ | refine tL ?_ | refine tN ?_ | fail "no step")
  refine sC (CallsM.ren ((fail_c (m := m) i 4 hi)) [0, 1] 6 rfl rfl rfl rfl) ?_
  exact ⟨⟨_, rfl, rfl⟩, rfl, rfl⟩
end
end Go.Proofs.YtoingpafcodojaaGreatDoor

namespace Go.Proofs.YtoingpafcodojaaGreatDoor
open Go.RowKit

section
variable {L : List TokP} {m : Nat}
set_option maxHeartbeats 8000000 in
theorem kind_word (hL : TokOk L) (hn : L.length ≤ 100000) (hm : m ≤ 32) {kd : PM Int} (hu : Up L kd 0 0) (hc : ∀ m', m = m' + 1 → ∀ s, SOk L 0 s → C2 L m' 83 [] kd (fun k => Ti k) s) (s : PS) (hs : SOk L 0 s) (hv1 : namedV L s.i = false) (hv : startsV L s.i = true) :
    C2 L m 83 [] (kindF L m kd) (fun k => Ti k) s := by
  refine C2.of fun T hT => ?_
  unfold kindF at hT
  obtain ⟨i, xs, ts⟩ := s
  have hv : startsV L i = true := hv
  have hv1 : namedV L i = false := hv1
  have hi := hs.lt
  have hin : ∀ s, SOk L 0 s → C2 L m 121 [] (innerM L m kd) (fun k => Ti k) s := fun s hs => inner_c hm s hs.i fun m' e => hc m' e s hs
  have hs1 := stpS hL hs (startsV_k hv)
  have hT1 := atn hT hv1
  have hT2 := aty hT1 hv
  have hT : wordM L m kd (tk L i).t ⟨i + 1, xs, ts⟩ = T := hT2
  clear hT1 hT2
  have hnm := named_c (m := m) i hi
  rw [hv1] at hnm
  have hst := starts_c (m := m) i hi
  rw [hv] at hst
  have ha := ahead_c (L := L) (m := m) i hi
  generalize tk L i = u at *
  obtain ⟨w, hw⟩ : ∃ w, u.t = w := ⟨_, rfl⟩
  simp only [tokD, hw] at ha
  rw [hw] at hT
  unfold wordM at hT
  have hz := sized_c w
  have htl := hs1.lt'
  refine fn_ruleP (C := ⟨Tryz.prog, layF, Tryz.f83.ntmps, ΓL, 6, [], []⟩) layF_ok mixed Tryz.func83 rfl (by kernel_rfl) rfl rfl rfl start2 ?_
  repeat' (first | refine tT ?_ | refine tF ?_ | refine ex_dec (fun _ => ?_) (fun _ => ?_) | refine t8 ?_ | refine tI ?_ | refine tU ?_ | refine tA ?_ | refine tB ?_ | refine tL ?_ | refine tN ?_ | fail "no step")
  refine sC (CallsM.ren (hnm) [0, 1] 7 rfl rfl rfl rfl) ?_
  repeat' (first | refine tT ?_ | refine tF ?_ | refine ex_dec (fun _ => ?_) (fun _ => ?_) | refine t8 ?_ | refine tI ?_ | refine tU ?_ | refine tA ?_ | refine tB ?_ | refine tL ?_ | refine tN ?_ | fail "no step")
  refine sC (CallsM.ren (hst) [0, 1] 7 rfl rfl rfl rfl) ?_
  repeat' (first | refine tT ?_ | refine tF ?_ | refine ex_dec (fun _ => ?_) (fun _ => ?_) | refine t8 ?_ | refine tI ?_ | refine tU ?_ | refine tA ?_ | refine tB ?_ | refine tL ?_ | refine tN ?_ | fail "no step")
  refine sC (CallsM.ren (ha) [0, 1] 7 rfl rfl rfl rfl) ?_
  rcases hzw : sizedV w with _ | k <;> rw [hzw] at hT hz
  · have hz : CallsA Tryz.prog ΓL 118 [c1 (ds (bs w))] (.tup [c1 (di 0), c1 (db false)]) := hz
    dsimp only at hT
    by_cases h1 : w = w_rest
    · subst h1
      rw [if_pos rfl] at hT
      repeat' (first | refine ex_call (plain_c 6) ?_ | refine ex_call hz ?_ | refine ex_i64 ((i + 1 : Nat) : Int) (by omega) (by omega) (by omega) ?_ | refine ex_u64 ((i + 1 : Nat) : Int) (by omega) (by omega) (by omega) ?_ | refine ex_u8 ((i + 1 : Nat) : Int) (by omega) (by omega) (by omega) ?_ | refine tT ?_ | refine tF ?_ | refine ex_dec (fun _ => ?_) (fun _ => ?_) | refine t8 ?_ | refine tI ?_ | refine tU ?_ | refine tA ?_ | refine tB ?_ | refine tL ?_ | refine tN ?_ | fail "no step")
      have hcon := hin ⟨i + 1, xs, ts⟩ (hs1.less (by omega))
      rcases hx : (innerM L m kd) ⟨i + 1, xs, ts⟩ with ⟨k, ⟨i3, xs3, ts3⟩⟩ | ⟨i9, e9⟩
      rotate_left
      · obtain rfl := (and_err hx).symm.trans hT
        refine sC (CallsM.ren (hcon.err hx) [0, 1, 2, 3, 6, 5] 8 rfl rfl rfl rfl) ?_
        first | exact ⟨⟨_, rfl, rfl⟩, rfl, rfl⟩ | exact ⟨by kernel_rfl, ⟨_, rfl, rfl⟩, rfl, rfl⟩
      replace hT := (and_ok hx).symm.trans hT
      refine sC (CallsM.ren (hcon.ok hx) [0, 1, 2, 3, 6, 5] 8 rfl rfl rfl rfl) ?_
      clear hcon
      have hs3 := (Up.ok (up_inner m hu 1) hs1 hx).1
      have htl := hs3.lt'
      have hi3 := hs3.lt
      obtain rfl : PR.ok (ts3.length : Int) ⟨i3, xs3, ts3 ++ [(⟨6, 0, false, [], [], -1, k, []⟩ : TY)]⟩ = T := hT
      repeat' (first | refine tT ?_ | refine tF ?_ | refine ex_dec (fun _ => ?_) (fun _ => ?_) | refine t8 ?_ | refine tI ?_ | refine tU ?_ | refine tA ?_ | refine tB ?_ | refine tL ?_ | refine tN ?_ | fail "no step")
      refine sC (CallsM.ren ((layn_c (L := L) (m := m) i3 ts3 6 0 false [] (-1) k (by omega))) [0, 1, 2, 3, 8, 9] 10 rfl rfl rfl rfl) ?_
      repeat' (first | refine tT ?_ | refine tF ?_ | refine ex_dec (fun _ => ?_) (fun _ => ?_) | refine t8 ?_ | refine tI ?_ | refine tU ?_ | refine tA ?_ | refine tB ?_ | refine tL ?_ | refine tN ?_ | fail "no step")
      exact ⟨rfl, TLe.rfl, rfl, rfl⟩
    · rw [if_neg h1] at hT
      by_cases h2 : w = w_tail
      · subst h2
        rw [if_pos rfl] at hT
        obtain rfl : PR.ok (ts.length : Int) ⟨i + 1, xs, ts ++ [(⟨4, 0, false, [], [], -1, -1, []⟩ : TY)]⟩ = T := hT
        repeat' (first | refine ex_call (plain_c 4) ?_ | refine ex_call hz ?_ | refine ex_i64 ((i + 1 : Nat) : Int) (by omega) (by omega) (by omega) ?_ | refine ex_u64 ((i + 1 : Nat) : Int) (by omega) (by omega) (by omega) ?_ | refine ex_u8 ((i + 1 : Nat) : Int) (by omega) (by omega) (by omega) ?_ | refine tT ?_ | refine tF ?_ | refine ex_dec (fun _ => ?_) (fun _ => ?_) | refine t8 ?_ | refine tI ?_ | refine tU ?_ | refine tA ?_ | refine tB ?_ | refine tL ?_ | refine tN ?_ | fail "no step")
        refine sC (CallsM.ren ((layn_c (L := L) (m := m) (i + 1) ts 4 0 false [] (-1) (-1) (by omega))) [0, 1, 2, 3, 6, 5] 7 rfl rfl rfl rfl) ?_
        repeat' (first | refine tT ?_ | refine tF ?_ | refine ex_dec (fun _ => ?_) (fun _ => ?_) | refine t8 ?_ | refine tI ?_ | refine tU ?_ | refine tA ?_ | refine tB ?_ | refine tL ?_ | refine tN ?_ | fail "no step")
        exact ⟨rfl, TLe.rfl, rfl, rfl⟩
      · rw [if_neg h2] at hT
        by_cases h3 : w = w_none
        · subst h3
          rw [if_pos rfl] at hT
          obtain rfl : PR.ok (ts.length : Int) ⟨i + 1, xs, ts ++ [(⟨11, 0, false, [], [], -1, -1, []⟩ : TY)]⟩ = T := hT
          repeat' (first | refine ex_call (plain_c 11) ?_ | refine ex_call hz ?_ | refine ex_i64 ((i + 1 : Nat) : Int) (by omega) (by omega) (by omega) ?_ | refine ex_u64 ((i + 1 : Nat) : Int) (by omega) (by omega) (by omega) ?_ | refine ex_u8 ((i + 1 : Nat) : Int) (by omega) (by omega) (by omega) ?_ | refine tT ?_ | refine tF ?_ | refine ex_dec (fun _ => ?_) (fun _ => ?_) | refine t8 ?_ | refine tI ?_ | refine tU ?_ | refine tA ?_ | refine tB ?_ | refine tL ?_ | refine tN ?_ | fail "no step")
          refine sC (CallsM.ren ((layn_c (L := L) (m := m) (i + 1) ts 11 0 false [] (-1) (-1) (by omega))) [0, 1, 2, 3, 6, 5] 7 rfl rfl rfl rfl) ?_
          repeat' (first | refine tT ?_ | refine tF ?_ | refine ex_dec (fun _ => ?_) (fun _ => ?_) | refine t8 ?_ | refine tI ?_ | refine tU ?_ | refine tA ?_ | refine tB ?_ | refine tL ?_ | refine tN ?_ | fail "no step")
          exact ⟨rfl, TLe.rfl, rfl, rfl⟩
        · rw [if_neg h3] at hT
          by_cases h4 : w = w_switch
          · subst h4
            rw [if_pos rfl] at hT
            repeat' (first | refine ex_call hz ?_ | refine ex_i64 ((i + 1 : Nat) : Int) (by omega) (by omega) (by omega) ?_ | refine ex_u64 ((i + 1 : Nat) : Int) (by omega) (by omega) (by omega) ?_ | refine ex_u8 ((i + 1 : Nat) : Int) (by omega) (by omega) (by omega) ?_ | refine tT ?_ | refine tF ?_ | refine ex_dec (fun _ => ?_) (fun _ => ?_) | refine t8 ?_ | refine tI ?_ | refine tU ?_ | refine tA ?_ | refine tB ?_ | refine tL ?_ | refine tN ?_ | fail "no step")
            have hcon := choice_c hL hn hm hu hc ⟨i + 1, xs, ts⟩ hs1
            rcases hy : (choiceM L m kd) ⟨i + 1, xs, ts⟩ with ⟨k, ⟨i3, xs3, ts3⟩⟩ | ⟨i9, e9⟩
            rotate_left
            · obtain rfl := hy.symm.trans hT
              refine sC (CallsM.ren (hcon.err hy) [0, 1, 2, 3, 6, 5] 7 rfl rfl rfl rfl) ?_
              first | exact ⟨⟨_, rfl, rfl⟩, rfl, rfl⟩ | exact ⟨by kernel_rfl, ⟨_, rfl, rfl⟩, rfl, rfl⟩
            obtain rfl := hy.symm.trans hT
            refine sC (CallsM.ren (hcon.ok hy) [0, 1, 2, 3, 6, 5] 7 rfl rfl rfl rfl) ?_
            clear hcon
            repeat' (first | refine tT ?_ | refine tF ?_ | refine ex_dec (fun _ => ?_) (fun _ => ?_) | refine t8 ?_ | refine tI ?_ | refine tU ?_ | refine tA ?_ | refine tB ?_ | refine tL ?_ | refine tN ?_ | fail "no step")
            exact ⟨rfl, TLe.rfl, rfl, rfl⟩
          · rw [if_neg h4] at hT
            have hq := (integer_c w).gL
            obtain ⟨z, lt, ok, hzl, hq⟩ : ∃ (z : Nat) (lt ok : Bool), (integerV w).getD (0, false) = (z, lt) ∧ CallsA Tryz.prog ΓL 82 [c1 (ds (bs w))] (.tup [c1 (di z), c1 (db lt), c1 (db ok)]) := by
              rcases hi : integerV w with _ | ⟨z, lt⟩ <;> rw [hi] at hq
              · exact ⟨0, false, false, rfl, hq⟩
              · exact ⟨z, lt, true, rfl, hq⟩
            rw [hzl] at hT
            repeat' (first | refine ex_call (plain_c 0) ?_ | refine ex_call hq ?_ | refine ex_call hz ?_ | refine ex_i64 ((i + 1 : Nat) : Int) (by omega) (by omega) (by omega) ?_ | refine ex_u64 ((i + 1 : Nat) : Int) (by omega) (by omega) (by omega) ?_ | refine ex_u8 ((i + 1 : Nat) : Int) (by omega) (by omega) (by omega) ?_ | refine ex_false (fun e => h4 (bsj.1 e)) ?_ | refine ex_false (fun e => h3 (bsj.1 e)) ?_ | refine ex_false (fun e => h2 (bsj.1 e)) ?_ | refine ex_false (fun e => h1 (bsj.1 e)) ?_ | refine tT ?_ | refine tF ?_ | refine ex_dec (fun _ => ?_) (fun _ => ?_) | refine t8 ?_ | refine tI ?_ | refine tU ?_ | refine tA ?_ | refine tB ?_ | refine tL ?_ | refine tN ?_ | fail "no step")
            have har := (array_c (L := L) hL hn hm (⟨0, z, lt, [], [], -1, -1, []⟩ : TY) ⟨i + 1, xs, ts⟩ hs1)
            rcases hy : arrayM L m (⟨0, z, lt, [], [], -1, -1, []⟩ : TY) ⟨i + 1, xs, ts⟩ with ⟨k, ⟨i3, xs3, ts3⟩⟩ | ⟨i9, e9⟩
            · obtain rfl := hy.symm.trans hT
              have hp := (har.ok hy).argsLe (xs := [P0, gD [di 0, di z, db lt, ds (bs []), dnil, di (-1), di (-1), dnil]]) (.cons T1Le.rfl (.cons (T1Le.g (.cons DLe.rfl (.cons DLe.rfl (.cons DLe.rfl (.cons DLe.rfl (.cons DLe.nil (.cons DLe.rfl (.cons DLe.rfl (.cons DLe.nil .nil))))))))) .nil))
              refine sC (CallsM.ren (hp) [0, 1, 2, 3, 6, 5] 8 rfl rfl rfl rfl) ?_
              repeat' (first | refine tT ?_ | refine tF ?_ | refine ex_dec (fun _ => ?_) (fun _ => ?_) | refine t8 ?_ | refine tI ?_ | refine tU ?_ | refine tA ?_ | refine tB ?_ | refine tL ?_ | refine tN ?_ | fail "no step")
              exact ⟨rfl, TLe.rfl, rfl, rfl⟩
            · obtain rfl := hy.symm.trans hT
              have hp := (har.err hy).argsLe (xs := [P0, gD [di 0, di z, db lt, ds (bs []), dnil, di (-1), di (-1), dnil]]) (.cons T1Le.rfl (.cons (T1Le.g (.cons DLe.rfl (.cons DLe.rfl (.cons DLe.rfl (.cons DLe.rfl (.cons DLe.nil (.cons DLe.rfl (.cons DLe.rfl (.cons DLe.nil .nil))))))))) .nil))
              refine sC (CallsM.ren (hp) [0, 1, 2, 3, 6, 5] 8 rfl rfl rfl rfl) ?_
              exact ⟨⟨_, rfl, rfl⟩, rfl, rfl⟩
  · have hz : CallsA Tryz.prog ΓL 118 [c1 (ds (bs w))] (.tup [c1 (di k), c1 (db true)]) := hz
    dsimp only at hT
    repeat' (first | refine ex_call (plain_c k) ?_ | refine ex_call hz ?_ | refine ex_i64 ((i + 1 : Nat) : Int) (by omega) (by omega) (by omega) ?_ | refine ex_u64 ((i + 1 : Nat) : Int) (by omega) (by omega) (by omega) ?_ | refine ex_u8 ((i + 1 : Nat) : Int) (by omega) (by omega) (by omega) ?_ | refine tT ?_ | refine tF ?_ | refine ex_dec (fun _ => ?_) (fun _ => ?_) | refine t8 ?_ | refine tI ?_ | refine tU ?_ | refine tA ?_ | refine tB ?_ | refine tL ?_ | refine tN ?_ | fail "no step")
    have hcon := bracket_c hL hn hm ⟨i + 1, xs, ts⟩ hs1
    rcases hx : (bracketM L m) ⟨i + 1, xs, ts⟩ with ⟨x, ⟨i2, xs2, ts2⟩⟩ | ⟨i9, e9⟩
    rotate_left
    · obtain rfl := (and_err hx).symm.trans hT
      refine sC (CallsM.ren (hcon.err hx) [0, 1, 2, 3, 6, 5] 8 rfl rfl rfl rfl) ?_
      first | exact ⟨⟨_, rfl, rfl⟩, rfl, rfl⟩ | exact ⟨by kernel_rfl, ⟨_, rfl, rfl⟩, rfl, rfl⟩
    replace hT := (and_ok hx).symm.trans hT
    refine sC (CallsM.ren (hcon.ok hx) [0, 1, 2, 3, 6, 5] 8 rfl rfl rfl rfl) ?_
    clear hcon
    have hs2 := (Up.ok (up_bracket hL m 1) hs1 hx).1
    obtain rfl := (keep_bracket m).eq hx
    have hi2 := hs2.lt
    by_cases hk : k = 7 ∨ k = 8
    · rw [if_pos hk] at hT
      rcases hk with rfl | rfl
      all_goals
        repeat' (first | refine tT ?_ | refine tF ?_ | refine ex_dec (fun _ => ?_) (fun _ => ?_) | refine t8 ?_ | refine tI ?_ | refine tU ?_ | refine tA ?_ | refine tB ?_ | refine tL ?_ | refine tN ?_ | fail "no step")
        have hcon := hin ⟨i2, xs2, ts⟩ (hs2.less (by omega))
        rcases hx2 : (innerM L m kd) ⟨i2, xs2, ts⟩ with ⟨n, ⟨i3, xs3, ts3⟩⟩ | ⟨i9, e9⟩
        rotate_left
        · obtain rfl := (and_err hx2).symm.trans hT
          refine sC (CallsM.ren (hcon.err hx2) [0, 1, 2, 3, 8, 5] 9 rfl rfl rfl rfl) ?_
          first | exact ⟨⟨_, rfl, rfl⟩, rfl, rfl⟩ | exact ⟨by kernel_rfl, ⟨_, rfl, rfl⟩, rfl, rfl⟩
        replace hT := (and_ok hx2).symm.trans hT
        refine sC (CallsM.ren (hcon.ok hx2) [0, 1, 2, 3, 8, 5] 9 rfl rfl rfl rfl) ?_
        clear hcon
        have hs3 := (Up.ok (c := 0) (up_inner m hu 3) hs2 hx2).1
        have htl := hs3.lt'
        have hi3 := hs3.lt
        repeat' (first | refine tT ?_ | refine tF ?_ | refine ex_dec (fun _ => ?_) (fun _ => ?_) | refine t8 ?_ | refine tI ?_ | refine tU ?_ | refine tA ?_ | refine tB ?_ | refine tL ?_ | refine tN ?_ | fail "no step")
      · obtain rfl : PR.ok (ts3.length : Int) ⟨i3, xs3, ts3 ++ [(⟨7, 0, false, [], [], x, n, []⟩ : TY)]⟩ = T := hT
        refine sC (CallsM.ren ((layn_c (L := L) (m := m) i3 ts3 7 0 false [] x n (by omega))) [0, 1, 2, 3, 9, 10] 11 rfl rfl rfl rfl) ?_
        repeat' (first | refine tT ?_ | refine tF ?_ | refine ex_dec (fun _ => ?_) (fun _ => ?_) | refine t8 ?_ | refine tI ?_ | refine tU ?_ | refine tA ?_ | refine tB ?_ | refine tL ?_ | refine tN ?_ | fail "no step")
        exact ⟨rfl, TLe.rfl, rfl, rfl⟩
      · obtain rfl : PR.ok (ts3.length : Int) ⟨i3, xs3, ts3 ++ [(⟨8, 0, false, [], [], x, n, []⟩ : TY)]⟩ = T := hT
        refine sC (CallsM.ren ((layn_c (L := L) (m := m) i3 ts3 8 0 false [] x n (by omega))) [0, 1, 2, 3, 9, 10] 11 rfl rfl rfl rfl) ?_
        repeat' (first | refine tT ?_ | refine tF ?_ | refine ex_dec (fun _ => ?_) (fun _ => ?_) | refine t8 ?_ | refine tI ?_ | refine tU ?_ | refine tA ?_ | refine tB ?_ | refine tL ?_ | refine tN ?_ | fail "no step")
        exact ⟨rfl, TLe.rfl, rfl, rfl⟩
    · rw [if_neg hk] at hT
      replace hT := pureT hT
      have htl2 := hs2.lt'
      obtain rfl : PR.ok (ts.length : Int) ⟨i2, xs2, ts ++ [(⟨k, 0, false, [], [], x, -1, []⟩ : TY)]⟩ = T := hT
      repeat' (first | refine tT ?_ | refine tF ?_ | refine ex_dec (fun _ => ?_) (fun _ => ?_) | refine t8 ?_ | refine tI ?_ | refine tU ?_ | refine tA ?_ | refine tB ?_ | refine tL ?_ | refine tN ?_ | fail "no step")
      refine sC (CallsM.ren ((layn_c (L := L) (m := m) i2 ts k 0 false [] x (-1) (by omega))) [0, 1, 2, 3, 8, 5] 9 rfl rfl rfl rfl) ?_
      repeat' (first | refine tT ?_ | refine tF ?_ | refine ex_dec (fun _ => ?_) (fun _ => ?_) | refine t8 ?_ | refine tI ?_ | refine tU ?_ | refine tA ?_ | refine tB ?_ | refine tL ?_ | refine tN ?_ | fail "no step")
      exact ⟨rfl, TLe.rfl, rfl, rfl⟩
theorem kind_step (hL : TokOk L) (hn : L.length ≤ 100000) (hm : m ≤ 32) {kd : PM Int} (hu : Up L kd 0 0) (hc : ∀ m', m = m' + 1 → ∀ s, SOk L 0 s → C2 L m' 83 [] kd (fun k => Ti k) s) (s : PS) (hs : SOk L 0 s) :
    C2 L m 83 [] (kindF L m kd) (fun k => Ti k) s := by
  rcases hv : startsV L s.i with _ | _
  · exact kind_bad s hs.i hv
  · rcases hv1 : namedV L s.i with _ | _
    · exact kind_word hL hn hm hu hc s hs hv1 hv
    · exact kind_named hL hn hm s hs hv1
theorem kind_c (hL : TokOk L) (hn : L.length ≤ 100000) : ∀ m, m ≤ 32 → ∀ s, SOk L 0 s → C2 L m 83 [] (kindM L m) (fun k => Ti k) s
  | 0, hm, s, hs => kind_step hL hn hm (Up.fail (by decide) (by decide) _ _) (fun _ h => by omega) s hs
  | m + 1, hm, s, hs => kind_step hL hn hm (up_kind hL m) (fun m' h s hs => by
      obtain rfl : m = m' := by omega
      exact kind_c hL hn m (by omega) s hs) s hs
end
end Go.Proofs.YtoingpafcodojaaGreatDoor

namespace Go.Proofs.YtoingpafcodojaaGreatDoor
open Go.RowKit

section
variable {P : Program} {Γ : Glob} {f : FuncId} {nx : Nat} {xs : List T1} {r : TV} {upd : List (Nat × Blk)} {new : List Blk} {a b c d e : Nat × Blk} {m : List (Nat × Blk)}
theorem CallsM.moreD (h : CallsM P Γ f [a, e] nx xs r upd new) : CallsM P Γ f [a, b, c, d, e] nx xs r upd new := h.more fun p hp => by
  simp only [List.mem_cons, List.not_mem_nil, or_false] at hp ⊢; rcases hp with hp | hp <;> simp [hp]
end
section
variable {L : List TokP} {m : Nat}
theorem isV_end {i : Nat} {t : List UInt8} (h : (tk L i).k = 3) : isV L i t = false := by unfold isV; simp [h]
theorem isV_not {i : Nat} {t w : List UInt8} (h : (tk L i).t = t) (hn : t ≠ w) : isV L i w = false := by unfold isV; rw [h, decide_eq_false hn, Bool.and_false]
theorem isV_yes {i : Nat} {t : List UInt8} (hk : (tk L i).k ≠ 3) (h : (tk L i).t = t) : isV L i t = true := by unfold isV; rw [h, decide_eq_false hk, decide_eq_true rfl]; rfl
abbrev Iz (nm : List UInt8) (ty : Int) (der : Nat) (a b : List UInt8) (wh : Int) : Blk := .obj [.d (ds (bs nm)), .d (di ty), .d (di der), .d (ds (bs a)), .d (ds (bs b)), .d (di wh), .d (di 0), .d (db false), .d dnil]
def PR.uD (L : List TokP) (m : Nat) (nm : List UInt8) (ty wh : Int) : PR (Nat × List UInt8 × List UInt8) → List (Nat × Blk)
  | .ok v s => [(0, Qz L m s.i), (2, Iz nm ty v.1 v.2.1 v.2.2 wh)]
  | .err _ _ => [(0, .dead), (2, .dead)]
set_option maxHeartbeats 4000000 in
theorem derived_c (hL : TokOk L) (hn : L.length ≤ 100000) (nm : List UInt8) (ty wh : Int) (s : PS) {c : Nat} (hs : SOk L c s) :
    CallsM Tryz.prog ΓL 84 [(0, Qz L m s.i), (2, Iz nm ty 0 [] [] wh)] 3 [P0, .c (.ptr 2 0)] ((derivedM L s).tv L fun _ => .tup []) ((derivedM L s).uD L m nm ty wh) [] := by
  obtain ⟨T, hT⟩ : ∃ T, derivedM L s = T := ⟨_, rfl⟩
  rw [hT]
  unfold derivedM at hT
  obtain ⟨i, xs, ts⟩ := s
  have hi := hs.lt
  have hbad : (∀ t, t ∈ [w_sizeof, w_countof, w_crc32, w_adler32] → isV L i t = false) → T = .err i 4 → CallsM Tryz.prog ΓL 84 [(0, Qz L m i), (2, Iz nm ty 0 [] [] wh)] 3 [P0, .c (.ptr 2 0)] (T.tv L fun _ => .tup []) (T.uD L m nm ty wh) [] := fun hv hTe => by
    subst hTe
    refine fn_ruleP (C := ⟨Tryz.prog, layF, Tryz.f84.ntmps, ΓL, 3, [], []⟩) layF_ok mixed Tryz.func84 rfl (by kernel_rfl) rfl rfl rfl SLe.rfl ?_
    refine sC (CallsM.ren ((may_no i hi _ (hv w_sizeof (by simp)))) [0, 1] 3 rfl rfl rfl rfl) ?_
    repeat' (first | refine tT ?_ | refine tF ?_ | refine ex_dec (fun _ => ?_) (fun _ => ?_) | refine t8 ?_ | refine tI ?_ | refine tU ?_ | refine tA ?_ | refine tB ?_ | refine tL ?_ | refine tN ?_ | fail "no step")
    refine sC (CallsM.ren ((may_no i hi _ (hv w_countof (by simp)))) [0, 1] 3 rfl rfl rfl rfl) ?_
    repeat' (first | refine tT ?_ | refine tF ?_ | refine ex_dec (fun _ => ?_) (fun _ => ?_) | refine t8 ?_ | refine tI ?_ | refine tU ?_ | refine tA ?_ | refine tB ?_ | refine tL ?_ | refine tN ?_ | fail "no step")
    refine sC (CallsM.ren ((may_no i hi _ (hv w_crc32 (by simp)))) [0, 1] 3 rfl rfl rfl rfl) ?_
    repeat' (first | refine tT ?_ | refine tF ?_ | refine ex_dec (fun _ => ?_) (fun _ => ?_) | refine t8 ?_ | refine tI ?_ | refine tU ?_ | refine tA ?_ | refine tB ?_ | refine tL ?_ | refine tN ?_ | fail "no step")
    refine sC (CallsM.ren ((may_no i hi _ (hv w_adler32 (by simp)))) [0, 1] 3 rfl rfl rfl rfl) ?_
    repeat' (first | refine tT ?_ | refine tF ?_ | refine ex_dec (fun _ => ?_) (fun _ => ?_) | refine t8 ?_ | refine tI ?_ | refine tU ?_ | refine tA ?_ | refine tB ?_ | refine tL ?_ | refine tN ?_ | fail "no step")
    refine sC (CallsM.ren ((fail_c i 4 hi)) [0, 1] 3 rfl rfl rfl rfl) ?_
    exact ⟨⟨_, rfl, rfl⟩, rfl, rfl⟩
  by_cases hk : (tk L i).k = 3
  · exact hbad (fun t _ => isV_end hk) (atn hT (by simp [hk])).symm
  · obtain ⟨w, hw⟩ : ∃ w, (tk L i).t = w := ⟨_, rfl⟩
    by_cases hm : w ∈ [w_sizeof, w_countof, w_crc32, w_adler32]
    · have hs1 := stpS hL hs hk
      have hd0 : derOf w ≠ 0 := by
        simp only [List.mem_cons, List.not_mem_nil, or_false] at hm
        rcases hm with rfl | rfl | rfl | rfl <;> decide
      have hT0 := aty hT (by simp [hk, hw, hd0])
      have hT : (takeM L t_lpar >>= fun _ => nameM L >>= fun a => (if 3 ≤ derOf w then takeM L t_dots >>= fun _ => nameM L else pure []) >>= fun b => takeM L t_rpar >>= fun _ => pure (derOf w, a, b)) ⟨i + 1, xs, ts⟩ = T := by rw [← hw]; exact hT0
      clear hT0
      simp only [List.mem_cons, List.not_mem_nil, or_false] at hm
      rcases hm with rfl | rfl | rfl | rfl
      · rw [show derOf w_sizeof = 1 by decide +kernel] at hT
        refine fn_ruleP (C := ⟨Tryz.prog, layF, Tryz.f84.ntmps, ΓL, 3, [], []⟩) layF_ok mixed Tryz.func84 rfl (by kernel_rfl) rfl rfl rfl SLe.rfl ?_
        refine sC (CallsM.ren ((may_yes i hi (by omega) _ (isV_yes hk hw))) [0, 1] 3 rfl rfl rfl rfl) ?_
        repeat' (first | refine tT ?_ | refine tF ?_ | refine ex_dec (fun _ => ?_) (fun _ => ?_) | refine t8 ?_ | refine tI ?_ | refine tU ?_ | refine tA ?_ | refine tB ?_ | refine tL ?_ | refine tN ?_ | fail "no step")
        have hcon := take_c (m := m) ⟨i + 1, xs, ts⟩ hs1.i (by omega) t_lpar
        rcases hx59 : (takeM L t_lpar) ⟨i + 1, xs, ts⟩ with ⟨_, s9⟩ | ⟨i9, e9⟩
        rotate_left
        · obtain rfl := (and_err hx59).symm.trans hT
          refine sC (CallsM.ren (hcon.err hx59) [0, 1] 3 rfl rfl rfl rfl) ?_
          first | exact ⟨⟨_, rfl, rfl⟩, rfl, rfl⟩ | exact ⟨by kernel_rfl, ⟨_, rfl, rfl⟩, rfl, rfl⟩
        replace hT := (and_ok hx59).symm.trans hT
        refine sC (CallsM.ren (hcon.ok hx59) [0, 1] 3 rfl rfl rfl rfl) ?_
        clear hcon
        have hs2 := (Up.ok (Up.take hL t_lpar 0) hs1 hx59).1
        obtain rfl := mv_take1 hx59
        repeat' (first | refine tT ?_ | refine tF ?_ | refine ex_dec (fun _ => ?_) (fun _ => ?_) | refine t8 ?_ | refine tI ?_ | refine tU ?_ | refine tA ?_ | refine tB ?_ | refine tL ?_ | refine tN ?_ | fail "no step")
        have hcon := name_c (m := m) ⟨i + 1 + 1, xs, ts⟩ hs2.i (by omega)
        rcases hx61 : (nameM L) ⟨i + 1 + 1, xs, ts⟩ with ⟨a, s9⟩ | ⟨i9, e9⟩
        rotate_left
        · obtain rfl := (and_err hx61).symm.trans hT
          refine sC (CallsM.ren (hcon.err hx61) [0, 1] 3 rfl rfl rfl rfl) ?_
          first | exact ⟨⟨_, rfl, rfl⟩, rfl, rfl⟩ | exact ⟨by kernel_rfl, ⟨_, rfl, rfl⟩, rfl, rfl⟩
        replace hT := (and_ok hx61).symm.trans hT
        refine sC (CallsM.ren (hcon.ok hx61) [0, 1] 3 rfl rfl rfl rfl) ?_
        clear hcon
        have hs3 := (Up.ok (Up.name hL 0) hs2 hx61).1
        obtain rfl := mv_name1 hx61
        repeat' (first | refine tT ?_ | refine tF ?_ | refine ex_dec (fun _ => ?_) (fun _ => ?_) | refine t8 ?_ | refine tI ?_ | refine tU ?_ | refine tA ?_ | refine tB ?_ | refine tL ?_ | refine tN ?_ | fail "no step")
        replace hT := pureT hT
        have hcon := take_c (m := m) ⟨i + 1 + 1 + 1, xs, ts⟩ hs3.i (by omega) t_rpar
        rcases hx64 : (takeM L t_rpar) ⟨i + 1 + 1 + 1, xs, ts⟩ with ⟨_, s9⟩ | ⟨i9, e9⟩
        rotate_left
        · obtain rfl := (and_err hx64).symm.trans hT
          refine sC (CallsM.ren (hcon.err hx64) [0, 1] 3 rfl rfl rfl rfl) ?_
          first | exact ⟨⟨_, rfl, rfl⟩, rfl, rfl⟩ | exact ⟨by kernel_rfl, ⟨_, rfl, rfl⟩, rfl, rfl⟩
        replace hT := (and_ok hx64).symm.trans hT
        refine sC (CallsM.ren (hcon.ok hx64) [0, 1] 3 rfl rfl rfl rfl) ?_
        clear hcon
        have hs4 := (Up.ok (Up.take hL t_rpar 0) hs3 hx64).1
        obtain rfl := mv_take1 hx64
        obtain rfl : PR.ok ((1 : Nat), a, ([] : List UInt8)) ⟨i + 1 + 1 + 1 + 1, xs, ts⟩ = T := hT
        repeat' (first | refine tT ?_ | refine tF ?_ | refine ex_dec (fun _ => ?_) (fun _ => ?_) | refine t8 ?_ | refine tI ?_ | refine tU ?_ | refine tA ?_ | refine tB ?_ | refine tL ?_ | refine tN ?_ | fail "no step")
        exact ⟨rfl, TLe.rfl, rfl, rfl⟩
      · rw [show derOf w_countof = 2 by decide +kernel] at hT
        refine fn_ruleP (C := ⟨Tryz.prog, layF, Tryz.f84.ntmps, ΓL, 3, [], []⟩) layF_ok mixed Tryz.func84 rfl (by kernel_rfl) rfl rfl rfl SLe.rfl ?_
        refine sC (CallsM.ren ((may_no i hi w_sizeof (isV_not hw (by decide)))) [0, 1] 3 rfl rfl rfl rfl) ?_
        repeat' (first | refine tT ?_ | refine tF ?_ | refine ex_dec (fun _ => ?_) (fun _ => ?_) | refine t8 ?_ | refine tI ?_ | refine tU ?_ | refine tA ?_ | refine tB ?_ | refine tL ?_ | refine tN ?_ | fail "no step")
        refine sC (CallsM.ren ((may_yes i hi (by omega) _ (isV_yes hk hw))) [0, 1] 3 rfl rfl rfl rfl) ?_
        repeat' (first | refine tT ?_ | refine tF ?_ | refine ex_dec (fun _ => ?_) (fun _ => ?_) | refine t8 ?_ | refine tI ?_ | refine tU ?_ | refine tA ?_ | refine tB ?_ | refine tL ?_ | refine tN ?_ | fail "no step")
        have hcon := take_c (m := m) ⟨i + 1, xs, ts⟩ hs1.i (by omega) t_lpar
        rcases hx74 : (takeM L t_lpar) ⟨i + 1, xs, ts⟩ with ⟨_, s9⟩ | ⟨i9, e9⟩
        rotate_left
        · obtain rfl := (and_err hx74).symm.trans hT
          refine sC (CallsM.ren (hcon.err hx74) [0, 1] 3 rfl rfl rfl rfl) ?_
          first | exact ⟨⟨_, rfl, rfl⟩, rfl, rfl⟩ | exact ⟨by kernel_rfl, ⟨_, rfl, rfl⟩, rfl, rfl⟩
        replace hT := (and_ok hx74).symm.trans hT
        refine sC (CallsM.ren (hcon.ok hx74) [0, 1] 3 rfl rfl rfl rfl) ?_
        clear hcon
        have hs2 := (Up.ok (Up.take hL t_lpar 0) hs1 hx74).1
        obtain rfl := mv_take1 hx74
        repeat' (first | refine tT ?_ | refine tF ?_ | refine ex_dec (fun _ => ?_) (fun _ => ?_) | refine t8 ?_ | refine tI ?_ | refine tU ?_ | refine tA ?_ | refine tB ?_ | refine tL ?_ | refine tN ?_ | fail "no step")
        have hcon := name_c (m := m) ⟨i + 1 + 1, xs, ts⟩ hs2.i (by omega)
        rcases hx76 : (nameM L) ⟨i + 1 + 1, xs, ts⟩ with ⟨a, s9⟩ | ⟨i9, e9⟩
        rotate_left
        · obtain rfl := (and_err hx76).symm.trans hT
          refine sC (CallsM.ren (hcon.err hx76) [0, 1] 3 rfl rfl rfl rfl) ?_
          first | exact ⟨⟨_, rfl, rfl⟩, rfl, rfl⟩ | exact ⟨by kernel_rfl, ⟨_, rfl, rfl⟩, rfl, rfl⟩
        replace hT := (and_ok hx76).symm.trans hT
        refine sC (CallsM.ren (hcon.ok hx76) [0, 1] 3 rfl rfl rfl rfl) ?_
        clear hcon
        have hs3 := (Up.ok (Up.name hL 0) hs2 hx76).1
        obtain rfl := mv_name1 hx76
        repeat' (first | refine tT ?_ | refine tF ?_ | refine ex_dec (fun _ => ?_) (fun _ => ?_) | refine t8 ?_ | refine tI ?_ | refine tU ?_ | refine tA ?_ | refine tB ?_ | refine tL ?_ | refine tN ?_ | fail "no step")
        replace hT := pureT hT
        have hcon := take_c (m := m) ⟨i + 1 + 1 + 1, xs, ts⟩ hs3.i (by omega) t_rpar
        rcases hx79 : (takeM L t_rpar) ⟨i + 1 + 1 + 1, xs, ts⟩ with ⟨_, s9⟩ | ⟨i9, e9⟩
        rotate_left
        · obtain rfl := (and_err hx79).symm.trans hT
          refine sC (CallsM.ren (hcon.err hx79) [0, 1] 3 rfl rfl rfl rfl) ?_
          first | exact ⟨⟨_, rfl, rfl⟩, rfl, rfl⟩ | exact ⟨by kernel_rfl, ⟨_, rfl, rfl⟩, rfl, rfl⟩
        replace hT := (and_ok hx79).symm.trans hT
        refine sC (CallsM.ren (hcon.ok hx79) [0, 1] 3 rfl rfl rfl rfl) ?_
        clear hcon
        have hs4 := (Up.ok (Up.take hL t_rpar 0) hs3 hx79).1
        obtain rfl := mv_take1 hx79
        obtain rfl : PR.ok ((2 : Nat), a, ([] : List UInt8)) ⟨i + 1 + 1 + 1 + 1, xs, ts⟩ = T := hT
        repeat' (first | refine tT ?_ | refine tF ?_ | refine ex_dec (fun _ => ?_) (fun _ => ?_) | refine t8 ?_ | refine tI ?_ | refine tU ?_ | refine tA ?_ | refine tB ?_ | refine tL ?_ | refine tN ?_ | fail "no step")
        exact ⟨rfl, TLe.rfl, rfl, rfl⟩
      · rw [show derOf w_crc32 = 3 by decide +kernel] at hT
        refine fn_ruleP (C := ⟨Tryz.prog, layF, Tryz.f84.ntmps, ΓL, 3, [], []⟩) layF_ok mixed Tryz.func84 rfl (by kernel_rfl) rfl rfl rfl SLe.rfl ?_
        refine sC (CallsM.ren ((may_no i hi w_sizeof (isV_not hw (by decide)))) [0, 1] 3 rfl rfl rfl rfl) ?_
        repeat' (first | refine tT ?_ | refine tF ?_ | refine ex_dec (fun _ => ?_) (fun _ => ?_) | refine t8 ?_ | refine tI ?_ | refine tU ?_ | refine tA ?_ | refine tB ?_ | refine tL ?_ | refine tN ?_ | fail "no step")
        refine sC (CallsM.ren ((may_no i hi w_countof (isV_not hw (by decide)))) [0, 1] 3 rfl rfl rfl rfl) ?_
        repeat' (first | refine tT ?_ | refine tF ?_ | refine ex_dec (fun _ => ?_) (fun _ => ?_) | refine t8 ?_ | refine tI ?_ | refine tU ?_ | refine tA ?_ | refine tB ?_ | refine tL ?_ | refine tN ?_ | fail "no step")
        refine sC (CallsM.ren ((may_yes i hi (by omega) _ (isV_yes hk hw))) [0, 1] 3 rfl rfl rfl rfl) ?_
        repeat' (first | refine tT ?_ | refine tF ?_ | refine ex_dec (fun _ => ?_) (fun _ => ?_) | refine t8 ?_ | refine tI ?_ | refine tU ?_ | refine tA ?_ | refine tB ?_ | refine tL ?_ | refine tN ?_ | fail "no step")
        have hcon := take_c (m := m) ⟨i + 1, xs, ts⟩ hs1.i (by omega) t_lpar
        rcases hx91 : (takeM L t_lpar) ⟨i + 1, xs, ts⟩ with ⟨_, s9⟩ | ⟨i9, e9⟩
        rotate_left
        · obtain rfl := (and_err hx91).symm.trans hT
          refine sC (CallsM.ren (hcon.err hx91) [0, 1] 3 rfl rfl rfl rfl) ?_
          first | exact ⟨⟨_, rfl, rfl⟩, rfl, rfl⟩ | exact ⟨by kernel_rfl, ⟨_, rfl, rfl⟩, rfl, rfl⟩
        replace hT := (and_ok hx91).symm.trans hT
        refine sC (CallsM.ren (hcon.ok hx91) [0, 1] 3 rfl rfl rfl rfl) ?_
        clear hcon
        have hs2 := (Up.ok (Up.take hL t_lpar 0) hs1 hx91).1
        obtain rfl := mv_take1 hx91
        repeat' (first | refine tT ?_ | refine tF ?_ | refine ex_dec (fun _ => ?_) (fun _ => ?_) | refine t8 ?_ | refine tI ?_ | refine tU ?_ | refine tA ?_ | refine tB ?_ | refine tL ?_ | refine tN ?_ | fail "no step")
        have hcon := name_c (m := m) ⟨i + 1 + 1, xs, ts⟩ hs2.i (by omega)
        rcases hx93 : (nameM L) ⟨i + 1 + 1, xs, ts⟩ with ⟨a, s9⟩ | ⟨i9, e9⟩
        rotate_left
        · obtain rfl := (and_err hx93).symm.trans hT
          refine sC (CallsM.ren (hcon.err hx93) [0, 1] 3 rfl rfl rfl rfl) ?_
          first | exact ⟨⟨_, rfl, rfl⟩, rfl, rfl⟩ | exact ⟨by kernel_rfl, ⟨_, rfl, rfl⟩, rfl, rfl⟩
        replace hT := (and_ok hx93).symm.trans hT
        refine sC (CallsM.ren (hcon.ok hx93) [0, 1] 3 rfl rfl rfl rfl) ?_
        clear hcon
        have hs3 := (Up.ok (Up.name hL 0) hs2 hx93).1
        obtain rfl := mv_name1 hx93
        repeat' (first | refine tT ?_ | refine tF ?_ | refine ex_dec (fun _ => ?_) (fun _ => ?_) | refine t8 ?_ | refine tI ?_ | refine tU ?_ | refine tA ?_ | refine tB ?_ | refine tL ?_ | refine tN ?_ | fail "no step")
        replace hT := asc hT
        have hcon := take_c (m := m) ⟨i + 1 + 1 + 1, xs, ts⟩ hs3.i (by omega) t_dots
        rcases hx96 : (takeM L t_dots) ⟨i + 1 + 1 + 1, xs, ts⟩ with ⟨_, s9⟩ | ⟨i9, e9⟩
        rotate_left
        · obtain rfl := (and_err hx96).symm.trans hT
          refine sC (CallsM.ren (hcon.err hx96) [0, 1] 3 rfl rfl rfl rfl) ?_
          first | exact ⟨⟨_, rfl, rfl⟩, rfl, rfl⟩ | exact ⟨by kernel_rfl, ⟨_, rfl, rfl⟩, rfl, rfl⟩
        replace hT := (and_ok hx96).symm.trans hT
        refine sC (CallsM.ren (hcon.ok hx96) [0, 1] 3 rfl rfl rfl rfl) ?_
        clear hcon
        have hs4 := (Up.ok (Up.take hL t_dots 0) hs3 hx96).1
        obtain rfl := mv_take1 hx96
        repeat' (first | refine tT ?_ | refine tF ?_ | refine ex_dec (fun _ => ?_) (fun _ => ?_) | refine t8 ?_ | refine tI ?_ | refine tU ?_ | refine tA ?_ | refine tB ?_ | refine tL ?_ | refine tN ?_ | fail "no step")
        have hcon := name_c (m := m) ⟨i + 1 + 1 + 1 + 1, xs, ts⟩ hs4.i (by omega)
        rcases hx98 : (nameM L) ⟨i + 1 + 1 + 1 + 1, xs, ts⟩ with ⟨b, s9⟩ | ⟨i9, e9⟩
        rotate_left
        · obtain rfl := (and_err hx98).symm.trans hT
          refine sC (CallsM.ren (hcon.err hx98) [0, 1] 3 rfl rfl rfl rfl) ?_
          first | exact ⟨⟨_, rfl, rfl⟩, rfl, rfl⟩ | exact ⟨by kernel_rfl, ⟨_, rfl, rfl⟩, rfl, rfl⟩
        replace hT := (and_ok hx98).symm.trans hT
        refine sC (CallsM.ren (hcon.ok hx98) [0, 1] 3 rfl rfl rfl rfl) ?_
        clear hcon
        have hs5 := (Up.ok (Up.name hL 0) hs4 hx98).1
        obtain rfl := mv_name1 hx98
        repeat' (first | refine tT ?_ | refine tF ?_ | refine ex_dec (fun _ => ?_) (fun _ => ?_) | refine t8 ?_ | refine tI ?_ | refine tU ?_ | refine tA ?_ | refine tB ?_ | refine tL ?_ | refine tN ?_ | fail "no step")
        have hcon := take_c (m := m) ⟨i + 1 + 1 + 1 + 1 + 1, xs, ts⟩ hs5.i (by omega) t_rpar
        rcases hx100 : (takeM L t_rpar) ⟨i + 1 + 1 + 1 + 1 + 1, xs, ts⟩ with ⟨_, s9⟩ | ⟨i9, e9⟩
        rotate_left
        · obtain rfl := (and_err hx100).symm.trans hT
          refine sC (CallsM.ren (hcon.err hx100) [0, 1] 3 rfl rfl rfl rfl) ?_
          first | exact ⟨⟨_, rfl, rfl⟩, rfl, rfl⟩ | exact ⟨by kernel_rfl, ⟨_, rfl, rfl⟩, rfl, rfl⟩
        replace hT := (and_ok hx100).symm.trans hT
        refine sC (CallsM.ren (hcon.ok hx100) [0, 1] 3 rfl rfl rfl rfl) ?_
        clear hcon
        have hs6 := (Up.ok (Up.take hL t_rpar 0) hs5 hx100).1
        obtain rfl := mv_take1 hx100
        obtain rfl : PR.ok ((3 : Nat), a, b) ⟨i + 1 + 1 + 1 + 1 + 1 + 1, xs, ts⟩ = T := hT
        repeat' (first | refine tT ?_ | refine tF ?_ | refine ex_dec (fun _ => ?_) (fun _ => ?_) | refine t8 ?_ | refine tI ?_ | refine tU ?_ | refine tA ?_ | refine tB ?_ | refine tL ?_ | refine tN ?_ | fail "no step")
        exact ⟨rfl, TLe.rfl, rfl, rfl⟩
      · rw [show derOf w_adler32 = 4 by decide +kernel] at hT
        refine fn_ruleP (C := ⟨Tryz.prog, layF, Tryz.f84.ntmps, ΓL, 3, [], []⟩) layF_ok mixed Tryz.func84 rfl (by kernel_rfl) rfl rfl rfl SLe.rfl ?_
        refine sC (CallsM.ren ((may_no i hi w_sizeof (isV_not hw (by decide)))) [0, 1] 3 rfl rfl rfl rfl) ?_
        repeat' (first | refine tT ?_ | refine tF ?_ | refine ex_dec (fun _ => ?_) (fun _ => ?_) | refine t8 ?_ | refine tI ?_ | refine tU ?_ | refine tA ?_ | refine tB ?_ | refine tL ?_ | refine tN ?_ | fail "no step")
        refine sC (CallsM.ren ((may_no i hi w_countof (isV_not hw (by decide)))) [0, 1] 3 rfl rfl rfl rfl) ?_
        repeat' (first | refine tT ?_ | refine tF ?_ | refine ex_dec (fun _ => ?_) (fun _ => ?_) | refine t8 ?_ | refine tI ?_ | refine tU ?_ | refine tA ?_ | refine tB ?_ | refine tL ?_ | refine tN ?_ | fail "no step")
        refine sC (CallsM.ren ((may_no i hi w_crc32 (isV_not hw (by decide)))) [0, 1] 3 rfl rfl rfl rfl) ?_
        repeat' (first | refine tT ?_ | refine tF ?_ | refine ex_dec (fun _ => ?_) (fun _ => ?_) | refine t8 ?_ | refine tI ?_ | refine tU ?_ | refine tA ?_ | refine tB ?_ | refine tL ?_ | refine tN ?_ | fail "no step")
        refine sC (CallsM.ren ((may_yes i hi (by omega) _ (isV_yes hk hw))) [0, 1] 3 rfl rfl rfl rfl) ?_
        repeat' (first | refine tT ?_ | refine tF ?_ | refine ex_dec (fun _ => ?_) (fun _ => ?_) | refine t8 ?_ | refine tI ?_ | refine tU ?_ | refine tA ?_ | refine tB ?_ | refine tL ?_ | refine tN ?_ | fail "no step")
        have hcon := take_c (m := m) ⟨i + 1, xs, ts⟩ hs1.i (by omega) t_lpar
        rcases hx114 : (takeM L t_lpar) ⟨i + 1, xs, ts⟩ with ⟨_, s9⟩ | ⟨i9, e9⟩
        rotate_left
        · obtain rfl := (and_err hx114).symm.trans hT
          refine sC (CallsM.ren (hcon.err hx114) [0, 1] 3 rfl rfl rfl rfl) ?_
          first | exact ⟨⟨_, rfl, rfl⟩, rfl, rfl⟩ | exact ⟨by kernel_rfl, ⟨_, rfl, rfl⟩, rfl, rfl⟩
        replace hT := (and_ok hx114).symm.trans hT
        refine sC (CallsM.ren (hcon.ok hx114) [0, 1] 3 rfl rfl rfl rfl) ?_
        clear hcon
        have hs2 := (Up.ok (Up.take hL t_lpar 0) hs1 hx114).1
        obtain rfl := mv_take1 hx114
        repeat' (first | refine tT ?_ | refine tF ?_ | refine ex_dec (fun _ => ?_) (fun _ => ?_) | refine t8 ?_ | refine tI ?_ | refine tU ?_ | refine tA ?_ | refine tB ?_ | refine tL ?_ | refine tN ?_ | fail "no step")
        have hcon := name_c (m := m) ⟨i + 1 + 1, xs, ts⟩ hs2.i (by omega)
        rcases hx116 : (nameM L) ⟨i + 1 + 1, xs, ts⟩ with ⟨a, s9⟩ | ⟨i9, e9⟩
        rotate_left
        · obtain rfl := (and_err hx116).symm.trans hT
          refine sC (CallsM.ren (hcon.err hx116) [0, 1] 3 rfl rfl rfl rfl) ?_
          first | exact ⟨⟨_, rfl, rfl⟩, rfl, rfl⟩ | exact ⟨by kernel_rfl, ⟨_, rfl, rfl⟩, rfl, rfl⟩
        replace hT := (and_ok hx116).symm.trans hT
        refine sC (CallsM.ren (hcon.ok hx116) [0, 1] 3 rfl rfl rfl rfl) ?_
        clear hcon
        have hs3 := (Up.ok (Up.name hL 0) hs2 hx116).1
        obtain rfl := mv_name1 hx116
        repeat' (first | refine tT ?_ | refine tF ?_ | refine ex_dec (fun _ => ?_) (fun _ => ?_) | refine t8 ?_ | refine tI ?_ | refine tU ?_ | refine tA ?_ | refine tB ?_ | refine tL ?_ | refine tN ?_ | fail "no step")
        replace hT := asc hT
        have hcon := take_c (m := m) ⟨i + 1 + 1 + 1, xs, ts⟩ hs3.i (by omega) t_dots
        rcases hx119 : (takeM L t_dots) ⟨i + 1 + 1 + 1, xs, ts⟩ with ⟨_, s9⟩ | ⟨i9, e9⟩
        rotate_left
        · obtain rfl := (and_err hx119).symm.trans hT
          refine sC (CallsM.ren (hcon.err hx119) [0, 1] 3 rfl rfl rfl rfl) ?_
          first | exact ⟨⟨_, rfl, rfl⟩, rfl, rfl⟩ | exact ⟨by kernel_rfl, ⟨_, rfl, rfl⟩, rfl, rfl⟩
        replace hT := (and_ok hx119).symm.trans hT
        refine sC (CallsM.ren (hcon.ok hx119) [0, 1] 3 rfl rfl rfl rfl) ?_
        clear hcon
        have hs4 := (Up.ok (Up.take hL t_dots 0) hs3 hx119).1
        obtain rfl := mv_take1 hx119
        repeat' (first | refine tT ?_ | refine tF ?_ | refine ex_dec (fun _ => ?_) (fun _ => ?_) | refine t8 ?_ | refine tI ?_ | refine tU ?_ | refine tA ?_ | refine tB ?_ | refine tL ?_ | refine tN ?_ | fail "no step")
        have hcon := name_c (m := m) ⟨i + 1 + 1 + 1 + 1, xs, ts⟩ hs4.i (by omega)
        rcases hx121 : (nameM L) ⟨i + 1 + 1 + 1 + 1, xs, ts⟩ with ⟨b, s9⟩ | ⟨i9, e9⟩
        rotate_left
        · obtain rfl := (and_err hx121).symm.trans hT
          refine sC (CallsM.ren (hcon.err hx121) [0, 1] 3 rfl rfl rfl rfl) ?_
          first | exact ⟨⟨_, rfl, rfl⟩, rfl, rfl⟩ | exact ⟨by kernel_rfl, ⟨_, rfl, rfl⟩, rfl, rfl⟩
        replace hT := (and_ok hx121).symm.trans hT
        refine sC (CallsM.ren (hcon.ok hx121) [0, 1] 3 rfl rfl rfl rfl) ?_
        clear hcon
        have hs5 := (Up.ok (Up.name hL 0) hs4 hx121).1
        obtain rfl := mv_name1 hx121
        repeat' (first | refine tT ?_ | refine tF ?_ | refine ex_dec (fun _ => ?_) (fun _ => ?_) | refine t8 ?_ | refine tI ?_ | refine tU ?_ | refine tA ?_ | refine tB ?_ | refine tL ?_ | refine tN ?_ | fail "no step")
        have hcon := take_c (m := m) ⟨i + 1 + 1 + 1 + 1 + 1, xs, ts⟩ hs5.i (by omega) t_rpar
        rcases hx123 : (takeM L t_rpar) ⟨i + 1 + 1 + 1 + 1 + 1, xs, ts⟩ with ⟨_, s9⟩ | ⟨i9, e9⟩
        rotate_left
        · obtain rfl := (and_err hx123).symm.trans hT
          refine sC (CallsM.ren (hcon.err hx123) [0, 1] 3 rfl rfl rfl rfl) ?_
          first | exact ⟨⟨_, rfl, rfl⟩, rfl, rfl⟩ | exact ⟨by kernel_rfl, ⟨_, rfl, rfl⟩, rfl, rfl⟩
        replace hT := (and_ok hx123).symm.trans hT
        refine sC (CallsM.ren (hcon.ok hx123) [0, 1] 3 rfl rfl rfl rfl) ?_
        clear hcon
        have hs6 := (Up.ok (Up.take hL t_rpar 0) hs5 hx123).1
        obtain rfl := mv_take1 hx123
        obtain rfl : PR.ok ((4 : Nat), a, b) ⟨i + 1 + 1 + 1 + 1 + 1 + 1, xs, ts⟩ = T := hT
        repeat' (first | refine tT ?_ | refine tF ?_ | refine ex_dec (fun _ => ?_) (fun _ => ?_) | refine t8 ?_ | refine tI ?_ | refine tU ?_ | refine tA ?_ | refine tB ?_ | refine tL ?_ | refine tN ?_ | fail "no step")
        exact ⟨rfl, TLe.rfl, rfl, rfl⟩
    · have h0 : derOf w = 0 := by
        unfold derOf
        rw [if_neg (fun e => hm (by simp [e])), if_neg (fun e => hm (by simp [e])), if_neg (fun e => hm (by simp [e])), if_neg (fun e => hm (by simp [e]))]
      exact hbad (fun t ht => isV_not hw (fun e => hm (by rw [e]; exact ht))) (atn hT (by simp [hw, h0])).symm
end
end Go.Proofs.YtoingpafcodojaaGreatDoor

namespace Go.Proofs.YtoingpafcodojaaGreatDoor
open Go.RowKit

section
variable {L : List TokP} {m : Nat}
theorem const_c (hL : TokOk L) (hn : L.length ≤ 100000) (s : PS) {c : Nat} (hs : SOk L c s) : C0 L m 40 [] (constM L) (fun v => .o (gD (coD v))) s := by
  refine C0.of fun T hT => ?_
  unfold constM at hT
  obtain ⟨i, xs, ts⟩ := s
  refine fn_ruleP (C := ⟨Tryz.prog, layF, Tryz.f40.ntmps, ΓL, 2, [], []⟩) layF_ok mixed Tryz.func40 rfl (by kernel_rfl) rfl rfl rfl SLe.rfl ?_
  repeat' (first | refine tT ?_ | refine tF ?_ | refine ex_dec (fun _ => ?_) (fun _ => ?_) | refine t8 ?_ | refine tI ?_ | refine tU ?_ | refine tA ?_ | refine tB ?_ | refine tL ?_ | refine tN ?_ | fail "no step")
  have hcon := take_c (m := m) ⟨i, xs, ts⟩ hs.i (by omega) w_const
  rcases hx14 : (takeM L w_const) ⟨i, xs, ts⟩ with ⟨_, s9⟩ | ⟨i9, e9⟩
  rotate_left
  · obtain rfl := (and_err hx14).symm.trans hT
    refine sC (CallsM.ren (hcon.err hx14) [0, 1] 3 rfl rfl rfl rfl) ?_
    first | exact ⟨⟨_, rfl, rfl⟩, rfl, rfl⟩ | exact ⟨by kernel_rfl, ⟨_, rfl, rfl⟩, rfl, rfl⟩
  replace hT := (and_ok hx14).symm.trans hT
  refine sC (CallsM.ren (hcon.ok hx14) [0, 1] 3 rfl rfl rfl rfl) ?_
  clear hcon
  have hs1 := (Up.ok (Up.take hL w_const 0) hs hx14).1
  obtain rfl := mv_take1 hx14
  repeat' (first | refine tT ?_ | refine tF ?_ | refine ex_dec (fun _ => ?_) (fun _ => ?_) | refine t8 ?_ | refine tI ?_ | refine tU ?_ | refine tA ?_ | refine tB ?_ | refine tL ?_ | refine tN ?_ | fail "no step")
  have hcon := name_c (m := m) ⟨i + 1, xs, ts⟩ hs1.i (by omega)
  rcases hx16 : (nameM L) ⟨i + 1, xs, ts⟩ with ⟨w, s9⟩ | ⟨i9, e9⟩
  rotate_left
  · obtain rfl := (and_err hx16).symm.trans hT
    refine sC (CallsM.ren (hcon.err hx16) [0, 1] 3 rfl rfl rfl rfl) ?_
    first | exact ⟨⟨_, rfl, rfl⟩, rfl, rfl⟩ | exact ⟨by kernel_rfl, ⟨_, rfl, rfl⟩, rfl, rfl⟩
  replace hT := (and_ok hx16).symm.trans hT
  refine sC (CallsM.ren (hcon.ok hx16) [0, 1] 3 rfl rfl rfl rfl) ?_
  clear hcon
  have hs2 := (Up.ok (Up.name hL 0) hs1 hx16).1
  obtain rfl := mv_name1 hx16
  repeat' (first | refine tT ?_ | refine tF ?_ | refine ex_dec (fun _ => ?_) (fun _ => ?_) | refine t8 ?_ | refine tI ?_ | refine tU ?_ | refine tA ?_ | refine tB ?_ | refine tL ?_ | refine tN ?_ | fail "no step")
  have hcon := take_c (m := m) ⟨i + 1 + 1, xs, ts⟩ hs2.i (by omega) t_eq
  rcases hx18 : (takeM L t_eq) ⟨i + 1 + 1, xs, ts⟩ with ⟨_, s9⟩ | ⟨i9, e9⟩
  rotate_left
  · obtain rfl := (and_err hx18).symm.trans hT
    refine sC (CallsM.ren (hcon.err hx18) [0, 1] 4 rfl rfl rfl rfl) ?_
    first | exact ⟨⟨_, rfl, rfl⟩, rfl, rfl⟩ | exact ⟨by kernel_rfl, ⟨_, rfl, rfl⟩, rfl, rfl⟩
  replace hT := (and_ok hx18).symm.trans hT
  refine sC (CallsM.ren (hcon.ok hx18) [0, 1] 4 rfl rfl rfl rfl) ?_
  clear hcon
  have hs3 := (Up.ok (Up.take hL t_eq 0) hs2 hx18).1
  obtain rfl := mv_take1 hx18
  repeat' (first | refine tT ?_ | refine tF ?_ | refine ex_dec (fun _ => ?_) (fun _ => ?_) | refine t8 ?_ | refine tI ?_ | refine tU ?_ | refine tA ?_ | refine tB ?_ | refine tL ?_ | refine tN ?_ | fail "no step")
  have hcon := num_c (m := m) ⟨i + 1 + 1 + 1, xs, ts⟩ hs3.i (by omega)
  rcases hx20 : (numberM L) ⟨i + 1 + 1 + 1, xs, ts⟩ with ⟨n, s9⟩ | ⟨i9, e9⟩
  rotate_left
  · obtain rfl := (and_err hx20).symm.trans hT
    refine sC (CallsM.ren (hcon.err hx20) [0, 1] 4 rfl rfl rfl rfl) ?_
    first | exact ⟨⟨_, rfl, rfl⟩, rfl, rfl⟩ | exact ⟨by kernel_rfl, ⟨_, rfl, rfl⟩, rfl, rfl⟩
  replace hT := (and_ok hx20).symm.trans hT
  refine sC (CallsM.ren (hcon.ok hx20) [0, 1] 4 rfl rfl rfl rfl) ?_
  clear hcon
  have hs4 := (Up.ok (Up.number hL 0) hs3 hx20).1
  obtain rfl := mv_num1 hx20
  repeat' (first | refine tT ?_ | refine tF ?_ | refine ex_dec (fun _ => ?_) (fun _ => ?_) | refine t8 ?_ | refine tI ?_ | refine tU ?_ | refine tA ?_ | refine tB ?_ | refine tL ?_ | refine tN ?_ | fail "no step")
  have hcon := take_c (m := m) ⟨i + 1 + 1 + 1 + 1, xs, ts⟩ hs4.i (by omega) t_semi
  rcases hx22 : (takeM L t_semi) ⟨i + 1 + 1 + 1 + 1, xs, ts⟩ with ⟨_, s9⟩ | ⟨i9, e9⟩
  rotate_left
  · obtain rfl := (and_err hx22).symm.trans hT
    refine sC (CallsM.ren (hcon.err hx22) [0, 1] 4 rfl rfl rfl rfl) ?_
    first | exact ⟨⟨_, rfl, rfl⟩, rfl, rfl⟩ | exact ⟨by kernel_rfl, ⟨_, rfl, rfl⟩, rfl, rfl⟩
  replace hT := (and_ok hx22).symm.trans hT
  refine sC (CallsM.ren (hcon.ok hx22) [0, 1] 4 rfl rfl rfl rfl) ?_
  clear hcon
  have hs5 := (Up.ok (Up.take hL t_semi 0) hs4 hx22).1
  obtain rfl := mv_take1 hx22
  obtain rfl : PR.ok (⟨w, n⟩ : CO) ⟨i + 1 + 1 + 1 + 1 + 1, xs, ts⟩ = T := hT
  repeat' (first | refine tT ?_ | refine tF ?_ | refine ex_dec (fun _ => ?_) (fun _ => ?_) | refine t8 ?_ | refine tI ?_ | refine tU ?_ | refine tA ?_ | refine tB ?_ | refine tL ?_ | refine tN ?_ | fail "no step")
  exact ⟨rfl, TLe.rfl, rfl, rfl⟩
theorem itLe {nm a b : List UInt8} {ty wh : Int} {der : Nat} : TLe (.o (gD [ds (bs nm), di ty, di der, ds (bs a), ds (bs b), di wh, di 0, db false, dnil])) (.o (gD (itD ⟨nm, ty, der, a, b, wh, 0, false, []⟩))) :=
  TLe.o (T1Le.g (.cons DLe.rfl (.cons DLe.rfl (.cons DLe.rfl (.cons DLe.rfl (.cons DLe.rfl (.cons DLe.rfl (.cons DLe.rfl (.cons DLe.rfl (.cons DLe.nil .nil))))))))))
theorem mv_derived (L : List TokP) : ∀ s v s', derivedM L s = .ok v s' → s'.xs = s.xs ∧ s'.ts = s.ts := fun s v s' h => by
  have mvand : ∀ {α β : Type} {x : PM α} {f : α → PM β}, (∀ s v s', x s = .ok v s' → s'.xs = s.xs ∧ s'.ts = s.ts) → (∀ u s v s', f u s = .ok v s' → s'.xs = s.xs ∧ s'.ts = s.ts) → ∀ s v s', (x >>= f) s = .ok v s' → s'.xs = s.xs ∧ s'.ts = s.ts := fun {α β x f} hx hf s v s' h => by
    have hb : PM.and x f s = .ok v s' := h
    unfold PM.and at hb
    rcases hxs : x s with ⟨u, s1⟩ | ⟨i, e⟩ <;> rw [hxs] at hb
    · have h1 := hx _ _ _ hxs
      have h2 := hf _ _ _ _ hb
      exact ⟨h2.1.trans h1.1, h2.2.trans h1.2⟩
    · cases hb
  have mt : ∀ t s v s', takeM L t s = .ok v s' → s'.xs = s.xs ∧ s'.ts = s.ts := fun t s v s' h => by unfold takeM at h; split at h <;> cases h; exact ⟨rfl, rfl⟩
  have mn : ∀ s v s', nameM L s = .ok v s' → s'.xs = s.xs ∧ s'.ts = s.ts := fun s v s' h => by unfold nameM at h; split at h <;> cases h; exact ⟨rfl, rfl⟩
  unfold derivedM atM at h
  split at h
  · refine mvand (x := stepM) (fun s v s' h => by cases h; exact ⟨rfl, rfl⟩) (fun _ => mvand (mt _) fun _ => mvand mn fun a => mvand ?_ fun b => mvand (mt _) fun _ => fun s v s' h => by cases h; exact ⟨rfl, rfl⟩) s v s' h
    intro s1 v1 s2 h1
    split at h1
    · exact mvand (mt _) (fun _ => mn) _ _ _ h1
    · cases h1; exact ⟨rfl, rfl⟩
  · cases h
set_option maxHeartbeats 8000000 in
theorem field_c (hL : TokOk L) (hn : L.length ≤ 100000) (hm : m = 32) (s : PS) (hs : SOk L 0 s) : C2 L m 62 [] (fieldM L) (fun v => .o (gD (itD v))) s := by
  refine C2.of fun T hT => ?_
  unfold fieldM at hT
  rw [← hm] at hT
  have hm2 : m ≤ 32 := by omega
  obtain ⟨i, xs, ts⟩ := s
  refine fn_ruleP (C := ⟨Tryz.prog, layF, Tryz.f62.ntmps, ΓL, 6, [], [6]⟩) layF_ok mixed Tryz.func62 rfl (by kernel_rfl) rfl rfl rfl SLe.rfl ?_
  repeat' (first | refine tT ?_ | refine tF ?_ | refine ex_dec (fun _ => ?_) (fun _ => ?_) | refine t8 ?_ | refine tI ?_ | refine tU ?_ | refine tA ?_ | refine tB ?_ | refine tL ?_ | refine tN ?_ | fail "no step")
  have hcon := name_c (m := m) ⟨i, xs, ts⟩ hs.i (by omega)
  rcases hx57 : (nameM L) ⟨i, xs, ts⟩ with ⟨w, s9⟩ | ⟨i9, e9⟩
  rotate_left
  · obtain rfl := (and_err hx57).symm.trans hT
    refine sC (CallsM.ren (hcon.err hx57) [0, 1] 7 rfl rfl rfl rfl) ?_
    first | exact ⟨⟨_, rfl, rfl⟩, rfl, rfl⟩ | exact ⟨by kernel_rfl, ⟨_, rfl, rfl⟩, rfl, rfl⟩
  replace hT := (and_ok hx57).symm.trans hT
  refine sC (CallsM.ren (hcon.ok hx57) [0, 1] 7 rfl rfl rfl rfl) ?_
  clear hcon
  have hs1 := (Up.ok (Up.name hL 0) hs hx57).1
  obtain rfl := mv_name1 hx57
  repeat' (first | refine tT ?_ | refine tF ?_ | refine ex_dec (fun _ => ?_) (fun _ => ?_) | refine t8 ?_ | refine tI ?_ | refine tU ?_ | refine tA ?_ | refine tB ?_ | refine tL ?_ | refine tN ?_ | fail "no step")
  have hcon := take_c (m := m) ⟨i + 1, xs, ts⟩ hs1.i (by omega) t_colon
  rcases hx59 : (takeM L t_colon) ⟨i + 1, xs, ts⟩ with ⟨_, s9⟩ | ⟨i9, e9⟩
  rotate_left
  · obtain rfl := (and_err hx59).symm.trans hT
    refine sC (CallsM.ren (hcon.err hx59) [0, 1] 8 rfl rfl rfl rfl) ?_
    first | exact ⟨⟨_, rfl, rfl⟩, rfl, rfl⟩ | exact ⟨by kernel_rfl, ⟨_, rfl, rfl⟩, rfl, rfl⟩
  replace hT := (and_ok hx59).symm.trans hT
  refine sC (CallsM.ren (hcon.ok hx59) [0, 1] 8 rfl rfl rfl rfl) ?_
  clear hcon
  have hs2 := (Up.ok (Up.take hL t_colon 0) hs1 hx59).1
  obtain rfl := mv_take1 hx59
  repeat' (first | refine tT ?_ | refine tF ?_ | refine ex_dec (fun _ => ?_) (fun _ => ?_) | refine t8 ?_ | refine tI ?_ | refine tU ?_ | refine tA ?_ | refine tB ?_ | refine tL ?_ | refine tN ?_ | fail "no step")
  have hcon := kind_c hL hn m hm2 ⟨i + 1 + 1, xs, ts⟩ (hs2.less (by omega))
  rcases hx : (kindM L m) ⟨i + 1 + 1, xs, ts⟩ with ⟨t, ⟨i2, xs2, ts2⟩⟩ | ⟨i9, e9⟩
  rotate_left
  · obtain rfl := (and_err hx).symm.trans hT
    refine sC (CallsM.ren (hcon.err hx) [0, 1, 2, 3, 4, 5] 8 rfl rfl rfl rfl) ?_
    first | exact ⟨⟨_, rfl, rfl⟩, rfl, rfl⟩ | exact ⟨by kernel_rfl, ⟨_, rfl, rfl⟩, rfl, rfl⟩
  replace hT := (and_ok hx).symm.trans hT
  refine sC (CallsM.ren (hcon.ok hx) [0, 1, 2, 3, 4, 5] 8 rfl rfl rfl rfl) ?_
  clear hcon
  have hs3 := (Up.ok (c := 0) ((up_kind hL m).less (a' := 2) (b' := 2) 2 (by omega) (by omega)) hs2 hx).1
  repeat' (first | refine tT ?_ | refine tF ?_ | refine ex_dec (fun _ => ?_) (fun _ => ?_) | refine t8 ?_ | refine tI ?_ | refine tU ?_ | refine tA ?_ | refine tB ?_ | refine tL ?_ | refine tN ?_ | fail "no step")
  refine ex_join (X := Nat × Nat × List UInt8 × List UInt8) (fun ⟨i, e, a, b⟩ => ⟨[(0, .o P0), (2, .o (.c (.ptr 6 0))), (3, .o (.c (.ptr 7 0)))], [(0, Qz L m i), (1, Fz 2 3 8 9), (4, .dead), (5, .dead), (6, .obj [.d (ds ⟨#[]⟩), .d (di 0), .d (di 0), .d (ds ⟨#[]⟩), .d (ds ⟨#[]⟩), .d (di 0), .d (di 0), .d (db false), .d dnil]), (7, Iz w t e a b (-1)), (8, Xz xs2), (9, Tz ts2)], 10⟩)
    (fun ⟨i, e, a, b⟩ => SOk L 2 ⟨i, xs2, ts2⟩ ∧ (atM (isV L · w_where) (stepM >>= fun _ => exprM L m) (pure (-1)) >>= fun x => takeM L t_semi >>= fun _ => pure (⟨w, t, e, a, b, x, 0, false, []⟩ : IT)) ⟨i, xs2, ts2⟩ = T) ?_ ?_
  · rcases hv : isV L i2 t_eq with _ | _
    · replace hT := pureT (atnB hT hv)
      refine sC (CallsM.ren ((may_no i2 hs3.lt _ hv)) [0, 1] 10 rfl rfl rfl rfl) ?_
      repeat' (first | refine tT ?_ | refine tF ?_ | refine ex_dec (fun _ => ?_) (fun _ => ?_) | refine t8 ?_ | refine tI ?_ | refine tU ?_ | refine tA ?_ | refine tB ?_ | refine tL ?_ | refine tN ?_ | fail "no step")
      exact ex_meet (i2, 0, [], []) ⟨hs3.less (by omega), hT⟩ (SLe.of ⟨⟨rfl, rfl, rfl, trivial⟩, ⟨rfl, rfl, rfl, rfl, rfl, rfl, rfl, rfl, trivial⟩⟩)
    · replace hT := stp1 (asc (atyB hT hv))
      have hs4 := stpS hL hs3 (isV_k hv)
      have hd := derived_c (m := m) hL hn w t (-1) ⟨i2 + 1, xs2, ts2⟩ hs4
      refine sC (CallsM.ren ((may_yes i2 hs3.lt (by omega) _ hv)) [0, 1] 10 rfl rfl rfl rfl) ?_
      repeat' (first | refine tT ?_ | refine tF ?_ | refine ex_dec (fun _ => ?_) (fun _ => ?_) | refine t8 ?_ | refine tI ?_ | refine tU ?_ | refine tA ?_ | refine tB ?_ | refine tL ?_ | refine tN ?_ | fail "no step")
      rcases hy : derivedM L ⟨i2 + 1, xs2, ts2⟩ with ⟨⟨e, a, b⟩, ⟨i3, xs3, ts3⟩⟩ | ⟨i9, e9⟩
      · replace hT := (and_ok hy).symm.trans hT
        obtain ⟨h1, h2⟩ : xs3 = xs2 ∧ ts3 = ts2 := mv_derived L _ _ _ hy
        subst h1 h2
        have hs5 := (Up.ok (up_derived hL 3) hs4 hy).1
        rw [hy] at hd
        refine ex_callM (CallsM.moreD (CallsM.ren hd [0, 1, 7] 10 rfl rfl rfl rfl)) ?_
        repeat' (first | refine tT ?_ | refine tF ?_ | refine ex_dec (fun _ => ?_) (fun _ => ?_) | refine t8 ?_ | refine tI ?_ | refine tU ?_ | refine tA ?_ | refine tB ?_ | refine tL ?_ | refine tN ?_ | fail "no step")
        exact ex_meet (i3, e, a, b) ⟨hs5.less (by omega), hT⟩ (SLe.of ⟨⟨rfl, rfl, rfl, trivial⟩, ⟨rfl, rfl, rfl, rfl, rfl, rfl, rfl, rfl, trivial⟩⟩)
      · obtain rfl := (and_err hy).symm.trans hT
        rw [hy] at hd
        refine ex_callM (CallsM.moreD (CallsM.ren hd [0, 1, 7] 10 rfl rfl rfl rfl)) ?_
        exact ⟨⟨_, rfl, rfl⟩, rfl, rfl⟩
  · rintro ⟨i, e, a, b⟩ ⟨hs, hT⟩
    rcases hv : isV L i w_where with _ | _
    · replace hT := pureT (atnB hT hv)
      refine sC (CallsM.ren ((may_no i hs.lt _ hv)) [0, 1] 10 rfl rfl rfl rfl) ?_
      repeat' (first | refine tT ?_ | refine tF ?_ | refine ex_dec (fun _ => ?_) (fun _ => ?_) | refine t8 ?_ | refine tI ?_ | refine tU ?_ | refine tA ?_ | refine tB ?_ | refine tL ?_ | refine tN ?_ | fail "no step")
      have hcon := take_c (m := m) ⟨i, xs2, ts2⟩ hs.i (by omega) t_semi
      rcases hx93 : (takeM L t_semi) ⟨i, xs2, ts2⟩ with ⟨_, s9⟩ | ⟨i9, e9⟩
      rotate_left
      · obtain rfl := (and_err hx93).symm.trans hT
        refine sC (CallsM.ren (hcon.err hx93) [0, 1] 10 rfl rfl rfl rfl) ?_
        first | exact ⟨⟨_, rfl, rfl⟩, rfl, rfl⟩ | exact ⟨by kernel_rfl, ⟨_, rfl, rfl⟩, rfl, rfl⟩
      replace hT := (and_ok hx93).symm.trans hT
      refine sC (CallsM.ren (hcon.ok hx93) [0, 1] 10 rfl rfl rfl rfl) ?_
      clear hcon
      have hs1 := (Up.ok (Up.take hL t_semi 0) hs hx93).1
      obtain rfl := mv_take1 hx93
      obtain rfl : PR.ok (⟨w, t, e, a, b, -1, 0, false, []⟩ : IT) ⟨i + 1, xs2, ts2⟩ = T := hT
      repeat' (first | refine tT ?_ | refine tF ?_ | refine ex_dec (fun _ => ?_) (fun _ => ?_) | refine t8 ?_ | refine tI ?_ | refine tU ?_ | refine tA ?_ | refine tB ?_ | refine tL ?_ | refine tN ?_ | fail "no step")
      exact ⟨rfl, itLe, rfl, rfl⟩
    · replace hT := stp1 (asc (atyB hT hv))
      have hs1 := stpS hL hs (isV_k hv)
      refine sC (CallsM.ren ((may_yes i hs.lt (by omega) _ hv)) [0, 1] 10 rfl rfl rfl rfl) ?_
      repeat' (first | refine tT ?_ | refine tF ?_ | refine ex_dec (fun _ => ?_) (fun _ => ?_) | refine t8 ?_ | refine tI ?_ | refine tU ?_ | refine tA ?_ | refine tB ?_ | refine tL ?_ | refine tN ?_ | fail "no step")
      have hcon := expr_c hL hn m hm2 ⟨i + 1, xs2, ts2⟩ (hs1.less (by omega))
      rcases hx : (exprM L m) ⟨i + 1, xs2, ts2⟩ with ⟨x, ⟨i4, xs4, ts4⟩⟩ | ⟨i9, e9⟩
      rotate_left
      · obtain rfl := (and_err hx).symm.trans hT
        refine sC (CallsM.ren (hcon.err hx) [0, 1, 2, 3, 8, 9] 10 rfl rfl rfl rfl) ?_
        first | exact ⟨⟨_, rfl, rfl⟩, rfl, rfl⟩ | exact ⟨by kernel_rfl, ⟨_, rfl, rfl⟩, rfl, rfl⟩
      replace hT := (and_ok hx).symm.trans hT
      refine sC (CallsM.ren (hcon.ok hx) [0, 1, 2, 3, 8, 9] 10 rfl rfl rfl rfl) ?_
      clear hcon
      have hs2 := (Up.ok (up_expr hL m 3) hs1 hx).1
      obtain rfl := (keep_expr m).eq hx
      repeat' (first | refine tT ?_ | refine tF ?_ | refine ex_dec (fun _ => ?_) (fun _ => ?_) | refine t8 ?_ | refine tI ?_ | refine tU ?_ | refine tA ?_ | refine tB ?_ | refine tL ?_ | refine tN ?_ | fail "no step")
      have hcon := take_c (m := m) ⟨i4, xs4, ts2⟩ hs2.i (by omega) t_semi
      rcases hx103 : (takeM L t_semi) ⟨i4, xs4, ts2⟩ with ⟨_, s9⟩ | ⟨i9, e9⟩
      rotate_left
      · obtain rfl := (and_err hx103).symm.trans hT
        refine sC (CallsM.ren (hcon.err hx103) [0, 1] 11 rfl rfl rfl rfl) ?_
        first | exact ⟨⟨_, rfl, rfl⟩, rfl, rfl⟩ | exact ⟨by kernel_rfl, ⟨_, rfl, rfl⟩, rfl, rfl⟩
      replace hT := (and_ok hx103).symm.trans hT
      refine sC (CallsM.ren (hcon.ok hx103) [0, 1] 11 rfl rfl rfl rfl) ?_
      clear hcon
      have hs3 := (Up.ok (Up.take hL t_semi 0) hs2 hx103).1
      obtain rfl := mv_take1 hx103
      obtain rfl : PR.ok (⟨w, t, e, a, b, x, 0, false, []⟩ : IT) ⟨i4 + 1, xs4, ts2⟩ = T := hT
      repeat' (first | refine tT ?_ | refine tF ?_ | refine ex_dec (fun _ => ?_) (fun _ => ?_) | refine t8 ?_ | refine tI ?_ | refine tU ?_ | refine tA ?_ | refine tB ?_ | refine tL ?_ | refine tN ?_ | fail "no step")
      exact ⟨rfl, itLe, rfl, rfl⟩
end
end Go.Proofs.YtoingpafcodojaaGreatDoor

namespace Go.Proofs.YtoingpafcodojaaGreatDoor

def Mo {α : Type} (x : PM α) : Prop := ∀ s v s', x s = .ok v s' → s.i ≤ s'.i
def Mo1 {α : Type} (x : PM α) : Prop := ∀ s v s', x s = .ok v s' → s.i < s'.i
theorem mo_inv {α β : Type} {x : PM α} {f : α → PM β} {s s' : PS} {v : β} (h : (x >>= f) s = .ok v s') : ∃ u s1, x s = .ok u s1 ∧ f u s1 = .ok v s' := by
  have hb : PM.and x f s = .ok v s' := h
  unfold PM.and at hb
  rcases hxs : x s with ⟨u, s1⟩ | ⟨i, e⟩
  · rw [hxs] at hb; exact ⟨u, s1, rfl, hb⟩
  · rw [hxs] at hb; cases hb
theorem Mo.and {α β : Type} {x : PM α} {f : α → PM β} (hx : Mo x) (hf : ∀ v, Mo (f v)) : Mo (x >>= f) := fun s v s' h => by
  obtain ⟨u, s1, h1, h2⟩ := mo_inv h
  exact Nat.le_trans (hx _ _ _ h1) (hf u _ _ _ h2)
theorem Mo1.and {α β : Type} {x : PM α} {f : α → PM β} (hx : Mo1 x) (hf : ∀ v, Mo (f v)) : Mo1 (x >>= f) := fun s v s' h => by
  obtain ⟨u, s1, h1, h2⟩ := mo_inv h
  exact Nat.lt_of_lt_of_le (hx _ _ _ h1) (hf u _ _ _ h2)
theorem Mo1.mo {α : Type} {x : PM α} (h : Mo1 x) : Mo x := fun s v s' hx => Nat.le_of_lt (h s v s' hx)
theorem Mo.at {α : Type} {p : Nat → Bool} {x y : PM α} (hx : Mo x) (hy : Mo y) : Mo (atM p x y) := fun s v s' h => by
  unfold atM at h
  split at h
  · exact hx _ _ _ h
  · exact hy _ _ _ h
theorem Mo.pure {α : Type} (v : α) : Mo (pure v) := fun s u s' h => by cases h; exact Nat.le_refl _
theorem Mo.put (x : EX) : Mo (putM x) := fun s u s' h => by cases h; exact Nat.le_refl _
theorem Mo.lay (x : TY) : Mo (layM x) := fun s u s' h => by cases h; exact Nat.le_refl _
theorem Mo.fail {α : Type} (e : Nat) : Mo (failM e : PM α) := fun s u s' h => by cases h
theorem Mo1.step : Mo1 stepM := fun s u s' h => by cases h; exact Nat.lt_succ_self _
theorem Mo.room (n : Nat) : Mo (roomM n) := fun s u s' h => by unfold roomM at h; split at h <;> cases h; exact Nat.le_refl _
theorem Mo.roomIf (p : Nat → Bool) (n : Nat) : Mo (fun s => if p s.i = true then roomM n s else .ok () s) := fun s u s' h => by
  dsimp only at h
  split at h
  · exact Mo.room n _ _ _ h
  · cases h; exact Nat.le_refl _
theorem Mo.enter (m : Nat) (p : Nat → Bool) : Mo (fun s => enterM m (p s.i) s) := fun s u s' h => by
  dsimp only at h; unfold enterM at h
  split at h
  · cases h
  · split at h <;> cases h; exact Nat.le_refl _
section
variable {L : List TokP}
theorem Mo1.take (t : List UInt8) : Mo1 (takeM L t) := fun s v s' h => by unfold takeM at h; split at h <;> cases h; exact Nat.lt_succ_self _
theorem Mo1.name : Mo1 (nameM L) := fun s v s' h => by unfold nameM at h; split at h <;> cases h; exact Nat.lt_succ_self _
theorem Mo1.num : Mo1 (numberM L) := fun s v s' h => by unfold numberM at h; split at h <;> cases h; exact Nat.lt_succ_self _
theorem mo_un (m : Nat) {un ex : PM Int} (h1 : Mo un) (h2 : Mo ex) : Mo (unF L m un ex) :=
  Mo.at (Mo1.step.mo.and fun _ => (Mo.enter _ _).and fun _ => h1.and fun _ => Mo.put _) (Mo.at (Mo1.step.mo.and fun _ => (Mo.enter _ _).and fun _ => h2.and fun _ => (Mo1.take _).mo.and fun _ => Mo.pure _) (Mo.at (Mo1.name.mo.and fun _ => Mo.put _) (Mo1.num.mo.and fun _ => Mo.put _)))
theorem mo_line (lv : Nat) {x : PM Int} (hx : Mo x) : ∀ n left, Mo (lineN L lv x n left)
  | 0, left => Mo.pure _
  | n + 1, left => fun s v s' h => by
    rw [lineN] at h
    change (if opAt L lv s.i = true then _ else _) = _ at h
    split at h
    · exact (Mo1.step.mo.and fun _ => hx.and fun r => (Mo.put ⟨3, (tk L s.i).t, 0, [], [left, r]⟩).and fun k => mo_line lv hx n k) _ _ _ h
    · cases h; exact Nat.le_refl _
theorem mo_lineJ {un : PM Int} (hx : Mo un) : ∀ j, Mo (lineJ L un j)
  | 0 => hx
  | j + 1 => (mo_lineJ hx j).and fun left => fun s v s' h => mo_line _ (mo_lineJ hx j) _ _ s v s' h
theorem mo_unM : ∀ m, Mo (unM L m)
  | 0 => mo_un 0 (Mo.fail _) (Mo.fail _)
  | m + 1 => mo_un _ (mo_unM m) (mo_lineJ (mo_unM m) 8)
theorem mo_expr (m : Nat) : Mo (exprM L m) := mo_lineJ (mo_unM m) 8
theorem mo_bracket (m : Nat) : Mo (bracketM L m) := (Mo1.take _).mo.and fun _ => (mo_expr m).and fun _ => (Mo1.take _).mo.and fun _ => Mo.pure _
theorem mo_array (m : Nat) (t : TY) : Mo (arrayM L m t) := (Mo.lay t).and fun k => Mo.at ((mo_bracket m).and fun x => Mo.lay _) (Mo.pure _)
theorem mo_args (m : Nat) : ∀ n l, Mo (argsN L m n l)
  | 0, l => Mo.pure _
  | n + 1, l => Mo.at (Mo1.step.mo.and fun _ => (Mo.roomIf (beginsV L ·) _).and fun _ => (mo_expr m).and fun x => mo_args m n _) (Mo.pure _)
theorem mo_ref (m : Nat) : Mo (refM L m) := Mo1.name.mo.and fun w => Mo.at (Mo1.step.mo.and fun _ => (mo_expr m).and fun x => (show Mo (fun s => argsN L m (L.length - s.i + 1) [x] s) from fun s v s' h => mo_args m _ _ s v s' h).and fun l => (Mo1.take _).mo.and fun _ => Mo.pure _) (Mo.pure _)
theorem mo_inner (m : Nat) {kd : PM Int} (h : Mo kd) : Mo (innerM L m kd) := (Mo.enter m (startsV L ·)).and fun _ => h
theorem mo_cases (m : Nat) {kd : PM Int} (h : Mo kd) : ∀ n l, Mo (casesN L m kd n l)
  | 0, l => Mo.pure _
  | n + 1, l => Mo.at ((Mo.room _).and fun _ => Mo1.step.mo.and fun _ => Mo1.num.mo.and fun c => (Mo1.take _).mo.and fun _ => (mo_inner m h).and fun k => (Mo1.take _).mo.and fun _ => mo_cases m h n _) (Mo.pure _)
theorem mo_choice (m : Nat) {kd : PM Int} (h : Mo kd) : Mo (choiceM L m kd) := by
  unfold choiceM
  exact (Mo1.take _).mo.and fun _ => (mo_expr m).and fun x => (Mo1.take _).mo.and fun _ => (Mo1.take _).mo.and fun _ => (show Mo (fun s => casesN L m kd (L.length - s.i + 1) [] s) from fun s v s' hx => mo_cases m h _ _ s v s' hx).and fun cs =>
    (Mo.at (Mo1.step.mo.and fun _ => (Mo1.take _).mo.and fun _ => (mo_inner m h).and fun k => (Mo1.take _).mo.and fun _ => Mo.pure _) (Mo.pure _)).and fun k => (Mo1.take _).mo.and fun _ => Mo.lay _
theorem mo_word (m : Nat) {kd : PM Int} (h : Mo kd) (w : List UInt8) : Mo (wordM L m kd w) := by
  unfold wordM
  split
  · refine (mo_bracket m).and fun x => ?_
    split
    · exact (mo_inner m h).and fun i => Mo.lay _
    · exact (Mo.pure _).and fun i => Mo.lay _
  · repeat' split
    · exact (mo_inner m h).and fun i => Mo.lay _
    · exact Mo.lay _
    · exact Mo.lay _
    · exact mo_choice m h
    · exact mo_array m _
theorem mo_kindF (m : Nat) {kd : PM Int} (h : Mo kd) : Mo (kindF L m kd) := Mo.at ((mo_ref m).and fun t => mo_array m t) (Mo.at (fun s v s' hx => (Mo1.step.mo.and fun _ => mo_word m h (tk L s.i).t) s v s' hx) (Mo.fail _))
theorem mo_kind : ∀ m, Mo (kindM L m)
  | 0 => mo_kindF 0 (Mo.fail _)
  | m + 1 => mo_kindF _ (mo_kind m)
theorem mo_derived : Mo (derivedM L) := by
  refine Mo.at (fun s v s' hx => (Mo1.step.mo.and fun _ => (Mo1.take t_lpar).mo.and fun _ => Mo1.name.mo.and fun a => Mo.and ?_ fun b => (Mo1.take t_rpar).mo.and fun _ => Mo.pure (derOf (tk L s.i).t, a, b)) s v s' hx) (Mo.fail _)
  split
  · exact (Mo1.take _).mo.and fun _ => Mo1.name.mo
  · exact Mo.pure _
theorem mo_field : Mo1 (fieldM L) := Mo1.name.and fun w => (Mo1.take _).mo.and fun _ => (mo_kind 32).and fun t => (Mo.at (Mo1.step.mo.and fun _ => mo_derived) (Mo.pure _)).and fun d => (Mo.at (Mo1.step.mo.and fun _ => mo_expr 32) (Mo.pure _)).and fun x => (Mo1.take _).mo.and fun _ => Mo.pure _
theorem mo_subs : ∀ n l, Mo (subsN L n l)
  | 0, l => Mo.pure _
  | n + 1, l => by
    rw [subsN]
    exact (Mo.roomIf (namedV L ·) _).and fun _ => Mo1.name.mo.and fun w => (Mo1.take _).mo.and fun _ => Mo1.num.mo.and fun b => (Mo1.take _).mo.and fun _ => Mo.at (mo_subs n _) (Mo.pure _)
theorem mo_pack : Mo1 (packM L) := (Mo1.take _).and fun _ => fun s v s' h => by
  split at h
  · cases h
  · exact (Mo1.step.mo.and fun _ => (Mo1.take _).mo.and fun _ => (show Mo (fun s => subsN L (L.length - s.i + 1) [] s) from fun s v s' hx => mo_subs _ _ s v s' hx).and fun l => (Mo1.take _).mo.and fun _ => Mo.pure _) _ _ _ h
theorem mo_pars : ∀ n l, Mo (parsN L n l)
  | 0, l => Mo.pure _
  | n + 1, l => Mo.at (Mo1.step.mo.and fun _ => (Mo.roomIf (namedV L ·) _).and fun _ => Mo1.name.mo.and fun x => mo_pars n _) (Mo.pure _)
theorem mo_items : ∀ n l, Mo (itemsN L n l)
  | 0, l => Mo.pure _
  | n + 1, l => Mo.at ((Mo.room _).and fun _ => (Mo.at mo_pack.mo mo_field.mo).and fun x => mo_items n _) (Mo.pure _)
theorem mo_record : Mo1 (recordM L) := (Mo1.take _).and fun _ => Mo1.name.mo.and fun w =>
  (Mo.at (Mo1.step.mo.and fun _ => Mo1.name.mo.and fun x => (show Mo (fun s => parsN L (L.length - s.i + 1) [x] s) from fun s v s' h => mo_pars _ _ s v s' h).and fun l => (Mo1.take _).mo.and fun _ => Mo.pure _) (Mo.pure _)).and fun ps =>
  (Mo1.take _).mo.and fun _ => (show Mo (fun s => itemsN L (L.length - s.i + 1) [] s) from fun s v s' h => mo_items _ _ s v s' h).and fun is => (Mo1.take _).mo.and fun _ => Mo.pure _
theorem mo_const : Mo1 (constM L) := (Mo1.take _).and fun _ => Mo1.name.mo.and fun w => (Mo1.take _).mo.and fun _ => Mo1.num.mo.and fun n => (Mo1.take _).mo.and fun _ => Mo.pure _
end
end Go.Proofs.YtoingpafcodojaaGreatDoor

namespace Go.Proofs.YtoingpafcodojaaGreatDoor
open Go.RowKit

section
variable {L : List TokP} {m : Nat}
def headN (L : List TokP) (n : Nat) (l : List SB) : PM (List SB) := if l = [] then subsN L n l else atM (namedV L ·) (subsN L n l) (pure l)
set_option maxHeartbeats 8000000 in
theorem pack_c (hL : TokOk L) (hn : L.length ≤ 100000) (s : PS) {c : Nat} (hs : SOk L c s) : C0 L m 61 [] (packM L) (fun v => .o (gD (itD v))) s := by
  refine C0.of fun T hT => ?_
  unfold packM at hT
  obtain ⟨i, xs, ts⟩ := s
  refine fn_ruleP (C := ⟨Tryz.prog, layF, Tryz.f61.ntmps, ΓL, 2, [], []⟩) layF_ok mixed Tryz.func61 rfl (by kernel_rfl) rfl rfl rfl SLe.rfl ?_
  repeat' (first | refine tT ?_ | refine tF ?_ | refine ex_dec (fun _ => ?_) (fun _ => ?_) | refine t8 ?_ | refine tI ?_ | refine tU ?_ | refine tA ?_ | refine tB ?_ | refine tL ?_ | refine tN ?_ | fail "no step")
  have hcon := take_c (m := m) ⟨i, xs, ts⟩ hs.i (by omega) w_pack
  rcases hx18 : (takeM L w_pack) ⟨i, xs, ts⟩ with ⟨_, s9⟩ | ⟨i9, e9⟩
  rotate_left
  · obtain rfl := (and_err hx18).symm.trans hT
    refine sC (CallsM.ren (hcon.err hx18) [0, 1] 3 rfl rfl rfl rfl) ?_
    first | exact ⟨⟨_, rfl, rfl⟩, rfl, rfl⟩ | exact ⟨by kernel_rfl, ⟨_, rfl, rfl⟩, rfl, rfl⟩
  replace hT := (and_ok hx18).symm.trans hT
  refine sC (CallsM.ren (hcon.ok hx18) [0, 1] 3 rfl rfl rfl rfl) ?_
  clear hcon
  have hs1 := (Up.ok (Up.take hL w_pack 0) hs hx18).1
  obtain rfl := mv_take1 hx18
  have ha := ahead_c (L := L) (m := m) (i + 1) hs1.lt
  have hT : (match (if (tk L (i + 1)).k = 0 then integerV (tk L (i + 1)).t else none) with
    | none => failM 4 ⟨i + 1, xs, ts⟩
    | some (z, lt) => (stepM >>= fun _ => takeM L t_lcur >>= fun _ => (fun s => subsN L (L.length - s.i + 1) [] s) >>= fun l => takeM L t_rcur >>= fun _ => pure (⟨[], -1, 0, [], [], -1, z, lt, l⟩ : IT)) ⟨i + 1, xs, ts⟩) = T := hT
  have hk3 : (tk L (i + 1)).k = 0 → (tk L (i + 1)).k ≠ 3 := fun h => by omega
  have hs2 := fun h => stpS hL hs1 (hk3 h)
  clear hk3
  generalize tk L (i + 1) = u at *
  have hq := (integer_c u.t).gL
  repeat' (first | refine tT ?_ | refine tF ?_ | refine ex_dec (fun _ => ?_) (fun _ => ?_) | refine t8 ?_ | refine tI ?_ | refine tU ?_ | refine tA ?_ | refine tB ?_ | refine tL ?_ | refine tN ?_ | fail "no step")
  refine sC (CallsM.ren (ha) [0, 1] 4 rfl rfl rfl rfl) ?_
  rcases hz : integerV u.t with _ | ⟨z, lt⟩ <;> rw [hz] at hT hq
  · have hq : CallsA Tryz.prog ΓL 82 [c1 (ds (bs u.t))] (.tup [c1 (di 0), c1 (db false), c1 (db false)]) := hq
    obtain rfl : PR.err (i + 1) 4 = T := by
      rw [← hT]
      by_cases hk : u.k = 0
      · rw [if_pos hk]; rfl
      · rw [if_neg hk]; rfl
    repeat' (first | refine ex_call hq ?_ | refine tT ?_ | refine tF ?_ | refine ex_dec (fun _ => ?_) (fun _ => ?_) | refine t8 ?_ | refine tI ?_ | refine tU ?_ | refine tA ?_ | refine tB ?_ | refine tL ?_ | refine tN ?_ | fail "no step")
    refine sC (CallsM.ren ((fail_c (m := m) (i + 1) 4 hs1.lt)) [0, 1] 4 rfl rfl rfl rfl) ?_
    exact ⟨⟨_, rfl, rfl⟩, rfl, rfl⟩
  · have hq : CallsA Tryz.prog ΓL 82 [c1 (ds (bs u.t))] (.tup [c1 (di z), c1 (db lt), c1 (db true)]) := hq
    by_cases hk : u.k = 0
    · rw [if_pos hk] at hT
      replace hs2 := hs2 hk
      have hi1 := hs1.lt
      have hi2 := hs2.lt
      repeat' (first | refine ex_call hq ?_ | refine tT ?_ | refine tF ?_ | refine ex_dec (fun _ => ?_) (fun _ => ?_) | refine t8 ?_ | refine tI ?_ | refine tU ?_ | refine tA ?_ | refine tB ?_ | refine tL ?_ | refine tN ?_ | fail "no step")
      refine sC (CallsM.ren (ha) [0, 1] 4 rfl rfl rfl rfl) ?_
      repeat' (first | refine ex_i64 ((i + 1 + 1 : Nat) : Int) (by omega) (by omega) (by omega) ?_ | refine ex_u64 ((i + 1 + 1 : Nat) : Int) (by omega) (by omega) (by omega) ?_ | refine ex_u8 ((i + 1 + 1 : Nat) : Int) (by omega) (by omega) (by omega) ?_ | refine tT ?_ | refine tF ?_ | refine ex_dec (fun _ => ?_) (fun _ => ?_) | refine t8 ?_ | refine tI ?_ | refine tU ?_ | refine tA ?_ | refine tB ?_ | refine tL ?_ | refine tN ?_ | fail "no step")
      replace hT : (takeM L t_lcur >>= fun _ => (fun s => subsN L (L.length - s.i + 1) [] s) >>= fun l => takeM L t_rcur >>= fun _ => pure (⟨[], -1, 0, [], [], -1, z, lt, l⟩ : IT)) ⟨i + 1 + 1, xs, ts⟩ = T := hT
      have hcon := take_c (m := m) ⟨i + 1 + 1, xs, ts⟩ hs2.i (by omega) t_lcur
      rcases hx50 : (takeM L t_lcur) ⟨i + 1 + 1, xs, ts⟩ with ⟨_, s9⟩ | ⟨i9, e9⟩
      rotate_left
      · obtain rfl := (and_err hx50).symm.trans hT
        refine sC (CallsM.ren (hcon.err hx50) [0, 1] 4 rfl rfl rfl rfl) ?_
        first | exact ⟨⟨_, rfl, rfl⟩, rfl, rfl⟩ | exact ⟨by kernel_rfl, ⟨_, rfl, rfl⟩, rfl, rfl⟩
      replace hT := (and_ok hx50).symm.trans hT
      refine sC (CallsM.ren (hcon.ok hx50) [0, 1] 4 rfl rfl rfl rfl) ?_
      clear hcon
      have hs3 := (Up.ok (Up.take hL t_lcur 0) hs2 hx50).1
      obtain rfl := mv_take1 hx50
      repeat' (first | refine tT ?_ | refine tF ?_ | refine ex_dec (fun _ => ?_) (fun _ => ?_) | refine t8 ?_ | refine tI ?_ | refine tU ?_ | refine tA ?_ | refine tB ?_ | refine tL ?_ | refine tN ?_ | fail "no step")
      replace hT : (headN L (L.length - (i + 1 + 1 + 1) + 1) [] >>= fun l => takeM L t_rcur >>= fun _ => pure (⟨[], -1, 0, [], [], -1, z, lt, l⟩ : IT)) ⟨i + 1 + 1 + 1, xs, ts⟩ = T := hT
      refine ex_loop (X := Nat × List SB × Nat) (fun ⟨i, l, _⟩ => ⟨[(0, .o P0), (2, .o (.c (.ptr 2 0))), (3, .o (.c (.ptr 3 0)))], [(0, Qz L m i), (2, .obj [.d (ds ⟨#[]⟩), .d (di 0), .d (di 0), .d (ds ⟨#[]⟩), .d (ds ⟨#[]⟩), .d (di 0), .d (di 0), .d (db false), .d dnil]), (3, .obj [.d (ds ⟨#[]⟩), .d (di (-1)), .d (di 0), .d (ds ⟨#[]⟩), .d (ds ⟨#[]⟩), .d (di (-1)), .d (di z), .d (db lt), .row 4]), (4, .row 2 198 (l.map sbD))], 5⟩) (fun y => L.length - y.1)
        (fun ⟨i, l, n⟩ => SOk L c ⟨i, xs, ts⟩ ∧ L.length < i + n ∧ l.length ≤ i ∧ (headN L n l >>= fun l => takeM L t_rcur >>= fun _ => pure (⟨[], -1, 0, [], [], -1, z, lt, l⟩ : IT)) ⟨i, xs, ts⟩ = T) (i + 1 + 1 + 1, [], L.length - (i + 1 + 1 + 1) + 1) ⟨hs3.less (by omega), by omega, Nat.zero_le _, hT⟩ (SLe.trans (SLe.of ⟨⟨rfl, rfl, rfl, trivial⟩, ⟨rfl, rfl, rfl, rfl, trivial⟩⟩) (SLe.ownCell 3 8 4 2 198 rfl rfl rfl rfl rfl rfl)) ?_
      clear hT hs3 hs2 hs1 ha hq hs
      rintro ⟨i, l, n⟩ ⟨hs, hf, hll, hT⟩
      have hi := hs.lt
      have hnm := named_c (m := m) i hi
      cases n with
      | zero => omega
      | succ n =>
        have hbody : (l = [] ∨ namedV L i = true) → (subsN L (n + 1) l >>= fun l => takeM L t_rcur >>= fun _ => pure (⟨[], -1, 0, [], [], -1, z, lt, l⟩ : IT)) ⟨i, xs, ts⟩ = T := fun h => by
          unfold headN at hT
          by_cases hl : l = []
          · rwa [if_pos hl] at hT
          · rw [if_neg hl] at hT
            exact atyB hT (h.resolve_left hl)
        by_cases hgo : l = [] ∨ namedV L i = true
        · replace hT := hbody hgo
          rw [subsN] at hT
          replace hT := asc hT
          by_cases hl : l = []
          · subst hl
            repeat' (first | refine ex_is (α := Nat) 0 rfl ?_ | refine tT ?_ | refine tF ?_ | refine ex_dec (fun _ => ?_) (fun _ => ?_) | refine t8 ?_ | refine tI ?_ | refine tU ?_ | refine tA ?_ | refine tB ?_ | refine tL ?_ | refine tN ?_ | fail "no step")
            rcases hnv : namedV L i with _ | _ <;> rw [hnv] at hnm
            · replace hT := asc (rmF hT hnv)
              refine sC (CallsM.ren (hnm) [0, 1] 5 rfl rfl rfl rfl) ?_
              repeat' (first | refine tT ?_ | refine tF ?_ | refine ex_dec (fun _ => ?_) (fun _ => ?_) | refine t8 ?_ | refine tI ?_ | refine tU ?_ | refine tA ?_ | refine tB ?_ | refine tL ?_ | refine tN ?_ | fail "no step")
              have hcon := name_c (m := m) ⟨i, xs, ts⟩ hs.i (by omega)
              rcases hx79 : (nameM L) ⟨i, xs, ts⟩ with ⟨w, s9⟩ | ⟨i9, e9⟩
              rotate_left
              · obtain rfl := (and_err hx79).symm.trans hT
                refine sC (CallsM.ren (hcon.err hx79) [0, 1] 5 rfl rfl rfl rfl) ?_
                first | exact ⟨⟨_, rfl, rfl⟩, rfl, rfl⟩ | exact ⟨by kernel_rfl, ⟨_, rfl, rfl⟩, rfl, rfl⟩
              replace hT := (and_ok hx79).symm.trans hT
              refine sC (CallsM.ren (hcon.ok hx79) [0, 1] 5 rfl rfl rfl rfl) ?_
              clear hcon
              have hs1 := (Up.ok (Up.name hL 0) hs hx79).1
              obtain rfl := mv_name1 hx79
              replace hT := asc hT
              repeat' (first | refine tT ?_ | refine tF ?_ | refine ex_dec (fun _ => ?_) (fun _ => ?_) | refine t8 ?_ | refine tI ?_ | refine tU ?_ | refine tA ?_ | refine tB ?_ | refine tL ?_ | refine tN ?_ | fail "no step")
              have hcon := take_c (m := m) ⟨i + 1, xs, ts⟩ hs1.i (by omega) t_colon
              rcases hx82 : (takeM L t_colon) ⟨i + 1, xs, ts⟩ with ⟨_, s9⟩ | ⟨i9, e9⟩
              rotate_left
              · obtain rfl := (and_err hx82).symm.trans hT
                refine sC (CallsM.ren (hcon.err hx82) [0, 1] 5 rfl rfl rfl rfl) ?_
                first | exact ⟨⟨_, rfl, rfl⟩, rfl, rfl⟩ | exact ⟨by kernel_rfl, ⟨_, rfl, rfl⟩, rfl, rfl⟩
              replace hT := (and_ok hx82).symm.trans hT
              refine sC (CallsM.ren (hcon.ok hx82) [0, 1] 5 rfl rfl rfl rfl) ?_
              clear hcon
              have hs2 := (Up.ok (Up.take hL t_colon 0) hs1 hx82).1
              obtain rfl := mv_take1 hx82
              replace hT := asc hT
              repeat' (first | refine tT ?_ | refine tF ?_ | refine ex_dec (fun _ => ?_) (fun _ => ?_) | refine t8 ?_ | refine tI ?_ | refine tU ?_ | refine tA ?_ | refine tB ?_ | refine tL ?_ | refine tN ?_ | fail "no step")
              have hcon := num_c (m := m) ⟨i + 1 + 1, xs, ts⟩ hs2.i (by omega)
              rcases hx85 : (numberM L) ⟨i + 1 + 1, xs, ts⟩ with ⟨b, s9⟩ | ⟨i9, e9⟩
              rotate_left
              · obtain rfl := (and_err hx85).symm.trans hT
                refine sC (CallsM.ren (hcon.err hx85) [0, 1] 5 rfl rfl rfl rfl) ?_
                first | exact ⟨⟨_, rfl, rfl⟩, rfl, rfl⟩ | exact ⟨by kernel_rfl, ⟨_, rfl, rfl⟩, rfl, rfl⟩
              replace hT := (and_ok hx85).symm.trans hT
              refine sC (CallsM.ren (hcon.ok hx85) [0, 1] 5 rfl rfl rfl rfl) ?_
              clear hcon
              have hs3 := (Up.ok (Up.number hL 0) hs2 hx85).1
              obtain rfl := mv_num1 hx85
              replace hT := asc hT
              repeat' (first | refine tT ?_ | refine tF ?_ | refine ex_dec (fun _ => ?_) (fun _ => ?_) | refine t8 ?_ | refine tI ?_ | refine tU ?_ | refine tA ?_ | refine tB ?_ | refine tL ?_ | refine tN ?_ | fail "no step")
              have hcon := take_c (m := m) ⟨i + 1 + 1 + 1, xs, ts⟩ hs3.i (by omega) t_semi
              rcases hx88 : (takeM L t_semi) ⟨i + 1 + 1 + 1, xs, ts⟩ with ⟨_, s9⟩ | ⟨i9, e9⟩
              rotate_left
              · obtain rfl := (and_err hx88).symm.trans hT
                refine sC (CallsM.ren (hcon.err hx88) [0, 1] 5 rfl rfl rfl rfl) ?_
                first | exact ⟨⟨_, rfl, rfl⟩, rfl, rfl⟩ | exact ⟨by kernel_rfl, ⟨_, rfl, rfl⟩, rfl, rfl⟩
              replace hT := (and_ok hx88).symm.trans hT
              refine sC (CallsM.ren (hcon.ok hx88) [0, 1] 5 rfl rfl rfl rfl) ?_
              clear hcon
              have hs4 := (Up.ok (Up.take hL t_semi 0) hs3 hx88).1
              obtain rfl := mv_take1 hx88
              have hi4 := hs4.lt
              have hmin : (if (1048576 : Int) < (b : Int) then 1048576 else (b : Int)) = ((min b 1048576 : Nat) : Int) := by split <;> omega
              repeat' (first | refine ex_i64 ((min b 1048576 : Nat) : Int) (by omega) (by omega) (by omega) ?_ | refine ex_u64 ((min b 1048576 : Nat) : Int) (by omega) (by omega) (by omega) ?_ | refine ex_u8 ((min b 1048576 : Nat) : Int) (by omega) (by omega) (by omega) ?_ | refine ex_is ((min b 1048576 : Nat) : Int) hmin ?_ | refine tT ?_ | refine tF ?_ | refine ex_dec (fun _ => ?_) (fun _ => ?_) | refine t8 ?_ | refine tI ?_ | refine tU ?_ | refine tA ?_ | refine tB ?_ | refine tL ?_ | refine tN ?_ | fail "no step")
              refine ex_app (0) (1) 1000 (by first | rfl | (simp; done) | (simp; omega)) (by first | rfl | (simp; done) | (simp; omega)) rfl (by omega) ?_
              refine ex_is (List.map sbD ([] ++ [(⟨w, min b 1048576⟩ : SB)])) (by rw [List.map_append]; rfl) ?_
              repeat' (first | refine tT ?_ | refine tF ?_ | refine ex_dec (fun _ => ?_) (fun _ => ?_) | refine t8 ?_ | refine tI ?_ | refine tU ?_ | refine tA ?_ | refine tB ?_ | refine tL ?_ | refine tN ?_ | fail "no step")
              exact ex_round (i + 1 + 1 + 1 + 1, [] ++ [(⟨w, min b 1048576⟩ : SB)], n) ⟨hs4.less (by omega), by omega, by simp <;> omega, by unfold headN; rw [if_neg (by simp)]; exact hT⟩ (by show L.length - (i + 1 + 1 + 1 + 1) < L.length - i; omega) (SLe.ren [(0, 0), (2, 2), (3, 3), (6, 4), (1, 1)] ⟨⟨rfl, rfl⟩, ⟨rfl, rfl⟩, ⟨rfl, rfl⟩, trivial⟩ ⟨⟨rfl, rfl⟩, ⟨rfl, rfl⟩, ⟨rfl, rfl⟩, ⟨rfl, rfl⟩, trivial⟩ rfl)
            · replace hT := rmT hT hnv
              refine sC (CallsM.ren (hnm) [0, 1] 5 rfl rfl rfl rfl) ?_
              repeat' (first | refine ex_is (α := Nat) 0 rfl ?_ | refine tT ?_ | refine tF ?_ | refine ex_dec (fun _ => ?_) (fun _ => ?_) | refine t8 ?_ | refine tI ?_ | refine tU ?_ | refine tA ?_ | refine tB ?_ | refine tL ?_ | refine tN ?_ | fail "no step")
              have hcon := room_c (m := m) ⟨i, xs, ts⟩ hi 0 (by omega)
              rcases hr : (roomM 0) ⟨i, xs, ts⟩ with ⟨_, s9⟩ | ⟨i9, e9⟩
              rotate_left
              · obtain rfl := (and_err hr).symm.trans hT
                refine sC (CallsM.ren (hcon.err hr) [0, 1] 5 rfl rfl rfl rfl) ?_
                first | exact ⟨⟨_, rfl, rfl⟩, rfl, rfl⟩ | exact ⟨by kernel_rfl, ⟨_, rfl, rfl⟩, rfl, rfl⟩
              replace hT := (and_ok hr).symm.trans hT
              refine sC (CallsM.ren (hcon.ok hr) [0, 1] 5 rfl rfl rfl rfl) ?_
              clear hcon
              obtain rfl := mv_room1 hr
              replace hT := asc hT
              repeat' (first | refine tT ?_ | refine tF ?_ | refine ex_dec (fun _ => ?_) (fun _ => ?_) | refine t8 ?_ | refine tI ?_ | refine tU ?_ | refine tA ?_ | refine tB ?_ | refine tL ?_ | refine tN ?_ | fail "no step")
              have hcon := name_c (m := m) ⟨i, xs, ts⟩ hs.i (by omega)
              rcases hx102 : (nameM L) ⟨i, xs, ts⟩ with ⟨w, s9⟩ | ⟨i9, e9⟩
              rotate_left
              · obtain rfl := (and_err hx102).symm.trans hT
                refine sC (CallsM.ren (hcon.err hx102) [0, 1] 5 rfl rfl rfl rfl) ?_
                first | exact ⟨⟨_, rfl, rfl⟩, rfl, rfl⟩ | exact ⟨by kernel_rfl, ⟨_, rfl, rfl⟩, rfl, rfl⟩
              replace hT := (and_ok hx102).symm.trans hT
              refine sC (CallsM.ren (hcon.ok hx102) [0, 1] 5 rfl rfl rfl rfl) ?_
              clear hcon
              have hs1 := (Up.ok (Up.name hL 0) hs hx102).1
              obtain rfl := mv_name1 hx102
              replace hT := asc hT
              repeat' (first | refine tT ?_ | refine tF ?_ | refine ex_dec (fun _ => ?_) (fun _ => ?_) | refine t8 ?_ | refine tI ?_ | refine tU ?_ | refine tA ?_ | refine tB ?_ | refine tL ?_ | refine tN ?_ | fail "no step")
              have hcon := take_c (m := m) ⟨i + 1, xs, ts⟩ hs1.i (by omega) t_colon
              rcases hx105 : (takeM L t_colon) ⟨i + 1, xs, ts⟩ with ⟨_, s9⟩ | ⟨i9, e9⟩
              rotate_left
              · obtain rfl := (and_err hx105).symm.trans hT
                refine sC (CallsM.ren (hcon.err hx105) [0, 1] 5 rfl rfl rfl rfl) ?_
                first | exact ⟨⟨_, rfl, rfl⟩, rfl, rfl⟩ | exact ⟨by kernel_rfl, ⟨_, rfl, rfl⟩, rfl, rfl⟩
              replace hT := (and_ok hx105).symm.trans hT
              refine sC (CallsM.ren (hcon.ok hx105) [0, 1] 5 rfl rfl rfl rfl) ?_
              clear hcon
              have hs2 := (Up.ok (Up.take hL t_colon 0) hs1 hx105).1
              obtain rfl := mv_take1 hx105
              replace hT := asc hT
              repeat' (first | refine tT ?_ | refine tF ?_ | refine ex_dec (fun _ => ?_) (fun _ => ?_) | refine t8 ?_ | refine tI ?_ | refine tU ?_ | refine tA ?_ | refine tB ?_ | refine tL ?_ | refine tN ?_ | fail "no step")
              have hcon := num_c (m := m) ⟨i + 1 + 1, xs, ts⟩ hs2.i (by omega)
              rcases hx108 : (numberM L) ⟨i + 1 + 1, xs, ts⟩ with ⟨b, s9⟩ | ⟨i9, e9⟩
              rotate_left
              · obtain rfl := (and_err hx108).symm.trans hT
                refine sC (CallsM.ren (hcon.err hx108) [0, 1] 5 rfl rfl rfl rfl) ?_
                first | exact ⟨⟨_, rfl, rfl⟩, rfl, rfl⟩ | exact ⟨by kernel_rfl, ⟨_, rfl, rfl⟩, rfl, rfl⟩
              replace hT := (and_ok hx108).symm.trans hT
              refine sC (CallsM.ren (hcon.ok hx108) [0, 1] 5 rfl rfl rfl rfl) ?_
              clear hcon
              have hs3 := (Up.ok (Up.number hL 0) hs2 hx108).1
              obtain rfl := mv_num1 hx108
              replace hT := asc hT
              repeat' (first | refine tT ?_ | refine tF ?_ | refine ex_dec (fun _ => ?_) (fun _ => ?_) | refine t8 ?_ | refine tI ?_ | refine tU ?_ | refine tA ?_ | refine tB ?_ | refine tL ?_ | refine tN ?_ | fail "no step")
              have hcon := take_c (m := m) ⟨i + 1 + 1 + 1, xs, ts⟩ hs3.i (by omega) t_semi
              rcases hx111 : (takeM L t_semi) ⟨i + 1 + 1 + 1, xs, ts⟩ with ⟨_, s9⟩ | ⟨i9, e9⟩
              rotate_left
              · obtain rfl := (and_err hx111).symm.trans hT
                refine sC (CallsM.ren (hcon.err hx111) [0, 1] 5 rfl rfl rfl rfl) ?_
                first | exact ⟨⟨_, rfl, rfl⟩, rfl, rfl⟩ | exact ⟨by kernel_rfl, ⟨_, rfl, rfl⟩, rfl, rfl⟩
              replace hT := (and_ok hx111).symm.trans hT
              refine sC (CallsM.ren (hcon.ok hx111) [0, 1] 5 rfl rfl rfl rfl) ?_
              clear hcon
              have hs4 := (Up.ok (Up.take hL t_semi 0) hs3 hx111).1
              obtain rfl := mv_take1 hx111
              have hi4 := hs4.lt
              have hmin : (if (1048576 : Int) < (b : Int) then 1048576 else (b : Int)) = ((min b 1048576 : Nat) : Int) := by split <;> omega
              repeat' (first | refine ex_i64 ((min b 1048576 : Nat) : Int) (by omega) (by omega) (by omega) ?_ | refine ex_u64 ((min b 1048576 : Nat) : Int) (by omega) (by omega) (by omega) ?_ | refine ex_u8 ((min b 1048576 : Nat) : Int) (by omega) (by omega) (by omega) ?_ | refine ex_is ((min b 1048576 : Nat) : Int) hmin ?_ | refine tT ?_ | refine tF ?_ | refine ex_dec (fun _ => ?_) (fun _ => ?_) | refine t8 ?_ | refine tI ?_ | refine tU ?_ | refine tA ?_ | refine tB ?_ | refine tL ?_ | refine tN ?_ | fail "no step")
              refine ex_app (0) (1) 1000 (by first | rfl | (simp; done) | (simp; omega)) (by first | rfl | (simp; done) | (simp; omega)) rfl (by omega) ?_
              refine ex_is (List.map sbD ([] ++ [(⟨w, min b 1048576⟩ : SB)])) (by rw [List.map_append]; rfl) ?_
              repeat' (first | refine tT ?_ | refine tF ?_ | refine ex_dec (fun _ => ?_) (fun _ => ?_) | refine t8 ?_ | refine tI ?_ | refine tU ?_ | refine tA ?_ | refine tB ?_ | refine tL ?_ | refine tN ?_ | fail "no step")
              exact ex_round (i + 1 + 1 + 1 + 1, [] ++ [(⟨w, min b 1048576⟩ : SB)], n) ⟨hs4.less (by omega), by omega, by simp <;> omega, by unfold headN; rw [if_neg (by simp)]; exact hT⟩ (by show L.length - (i + 1 + 1 + 1 + 1) < L.length - i; omega) (SLe.ren [(0, 0), (2, 2), (3, 3), (6, 4), (1, 1)] ⟨⟨rfl, rfl⟩, ⟨rfl, rfl⟩, ⟨rfl, rfl⟩, trivial⟩ ⟨⟨rfl, rfl⟩, ⟨rfl, rfl⟩, ⟨rfl, rfl⟩, ⟨rfl, rfl⟩, trivial⟩ rfl)
          · have hnv : namedV L i = true := hgo.resolve_left hl
            have hl0 : l.length ≠ 0 := fun e => hl (List.eq_nil_of_length_eq_zero e)
            rw [hnv] at hnm
            repeat' (first | refine ex_is l.length (by simp) ?_ | refine tT ?_ | refine tF ?_ | refine ex_dec (fun _ => ?_) (fun _ => ?_) | refine t8 ?_ | refine tI ?_ | refine tU ?_ | refine tA ?_ | refine tB ?_ | refine tL ?_ | refine tN ?_ | fail "no step")
            refine sC (CallsM.ren (hnm) [0, 1] 5 rfl rfl rfl rfl) ?_
            repeat' (first | refine tT ?_ | refine tF ?_ | refine ex_dec (fun _ => ?_) (fun _ => ?_) | refine t8 ?_ | refine tI ?_ | refine tU ?_ | refine tA ?_ | refine tB ?_ | refine tL ?_ | refine tN ?_ | fail "no step")
            replace hT := rmT hT hnv
            refine sC (CallsM.ren (hnm) [0, 1] 5 rfl rfl rfl rfl) ?_
            repeat' (first | refine ex_is l.length (by simp) ?_ | refine tT ?_ | refine tF ?_ | refine ex_dec (fun _ => ?_) (fun _ => ?_) | refine t8 ?_ | refine tI ?_ | refine tU ?_ | refine tA ?_ | refine tB ?_ | refine tL ?_ | refine tN ?_ | fail "no step")
            have hcon := room_c (m := m) ⟨i, xs, ts⟩ hi l.length (by omega)
            rcases hr : (roomM l.length) ⟨i, xs, ts⟩ with ⟨_, s9⟩ | ⟨i9, e9⟩
            rotate_left
            · obtain rfl := (and_err hr).symm.trans hT
              refine sC (CallsM.ren (hcon.err hr) [0, 1] 5 rfl rfl rfl rfl) ?_
              first | exact ⟨⟨_, rfl, rfl⟩, rfl, rfl⟩ | exact ⟨by kernel_rfl, ⟨_, rfl, rfl⟩, rfl, rfl⟩
            replace hT := (and_ok hr).symm.trans hT
            refine sC (CallsM.ren (hcon.ok hr) [0, 1] 5 rfl rfl rfl rfl) ?_
            clear hcon
            obtain rfl := mv_room1 hr
            replace hT := asc hT
            repeat' (first | refine tT ?_ | refine tF ?_ | refine ex_dec (fun _ => ?_) (fun _ => ?_) | refine t8 ?_ | refine tI ?_ | refine tU ?_ | refine tA ?_ | refine tB ?_ | refine tL ?_ | refine tN ?_ | fail "no step")
            have hcon := name_c (m := m) ⟨i, xs, ts⟩ hs.i (by omega)
            rcases hx131 : (nameM L) ⟨i, xs, ts⟩ with ⟨w, s9⟩ | ⟨i9, e9⟩
            rotate_left
            · obtain rfl := (and_err hx131).symm.trans hT
              refine sC (CallsM.ren (hcon.err hx131) [0, 1] 5 rfl rfl rfl rfl) ?_
              first | exact ⟨⟨_, rfl, rfl⟩, rfl, rfl⟩ | exact ⟨by kernel_rfl, ⟨_, rfl, rfl⟩, rfl, rfl⟩
            replace hT := (and_ok hx131).symm.trans hT
            refine sC (CallsM.ren (hcon.ok hx131) [0, 1] 5 rfl rfl rfl rfl) ?_
            clear hcon
            have hs1 := (Up.ok (Up.name hL 0) hs hx131).1
            obtain rfl := mv_name1 hx131
            replace hT := asc hT
            repeat' (first | refine tT ?_ | refine tF ?_ | refine ex_dec (fun _ => ?_) (fun _ => ?_) | refine t8 ?_ | refine tI ?_ | refine tU ?_ | refine tA ?_ | refine tB ?_ | refine tL ?_ | refine tN ?_ | fail "no step")
            have hcon := take_c (m := m) ⟨i + 1, xs, ts⟩ hs1.i (by omega) t_colon
            rcases hx134 : (takeM L t_colon) ⟨i + 1, xs, ts⟩ with ⟨_, s9⟩ | ⟨i9, e9⟩
            rotate_left
            · obtain rfl := (and_err hx134).symm.trans hT
              refine sC (CallsM.ren (hcon.err hx134) [0, 1] 5 rfl rfl rfl rfl) ?_
              first | exact ⟨⟨_, rfl, rfl⟩, rfl, rfl⟩ | exact ⟨by kernel_rfl, ⟨_, rfl, rfl⟩, rfl, rfl⟩
            replace hT := (and_ok hx134).symm.trans hT
            refine sC (CallsM.ren (hcon.ok hx134) [0, 1] 5 rfl rfl rfl rfl) ?_
            clear hcon
            have hs2 := (Up.ok (Up.take hL t_colon 0) hs1 hx134).1
            obtain rfl := mv_take1 hx134
            replace hT := asc hT
            repeat' (first | refine tT ?_ | refine tF ?_ | refine ex_dec (fun _ => ?_) (fun _ => ?_) | refine t8 ?_ | refine tI ?_ | refine tU ?_ | refine tA ?_ | refine tB ?_ | refine tL ?_ | refine tN ?_ | fail "no step")
            have hcon := num_c (m := m) ⟨i + 1 + 1, xs, ts⟩ hs2.i (by omega)
            rcases hx137 : (numberM L) ⟨i + 1 + 1, xs, ts⟩ with ⟨b, s9⟩ | ⟨i9, e9⟩
            rotate_left
            · obtain rfl := (and_err hx137).symm.trans hT
              refine sC (CallsM.ren (hcon.err hx137) [0, 1] 5 rfl rfl rfl rfl) ?_
              first | exact ⟨⟨_, rfl, rfl⟩, rfl, rfl⟩ | exact ⟨by kernel_rfl, ⟨_, rfl, rfl⟩, rfl, rfl⟩
            replace hT := (and_ok hx137).symm.trans hT
            refine sC (CallsM.ren (hcon.ok hx137) [0, 1] 5 rfl rfl rfl rfl) ?_
            clear hcon
            have hs3 := (Up.ok (Up.number hL 0) hs2 hx137).1
            obtain rfl := mv_num1 hx137
            replace hT := asc hT
            repeat' (first | refine tT ?_ | refine tF ?_ | refine ex_dec (fun _ => ?_) (fun _ => ?_) | refine t8 ?_ | refine tI ?_ | refine tU ?_ | refine tA ?_ | refine tB ?_ | refine tL ?_ | refine tN ?_ | fail "no step")
            have hcon := take_c (m := m) ⟨i + 1 + 1 + 1, xs, ts⟩ hs3.i (by omega) t_semi
            rcases hx140 : (takeM L t_semi) ⟨i + 1 + 1 + 1, xs, ts⟩ with ⟨_, s9⟩ | ⟨i9, e9⟩
            rotate_left
            · obtain rfl := (and_err hx140).symm.trans hT
              refine sC (CallsM.ren (hcon.err hx140) [0, 1] 5 rfl rfl rfl rfl) ?_
              first | exact ⟨⟨_, rfl, rfl⟩, rfl, rfl⟩ | exact ⟨by kernel_rfl, ⟨_, rfl, rfl⟩, rfl, rfl⟩
            replace hT := (and_ok hx140).symm.trans hT
            refine sC (CallsM.ren (hcon.ok hx140) [0, 1] 5 rfl rfl rfl rfl) ?_
            clear hcon
            have hs4 := (Up.ok (Up.take hL t_semi 0) hs3 hx140).1
            obtain rfl := mv_take1 hx140
            have hi4 := hs4.lt
            have hmin : (if (1048576 : Int) < (b : Int) then 1048576 else (b : Int)) = ((min b 1048576 : Nat) : Int) := by split <;> omega
            repeat' (first | refine ex_i64 ((min b 1048576 : Nat) : Int) (by omega) (by omega) (by omega) ?_ | refine ex_u64 ((min b 1048576 : Nat) : Int) (by omega) (by omega) (by omega) ?_ | refine ex_u8 ((min b 1048576 : Nat) : Int) (by omega) (by omega) (by omega) ?_ | refine ex_is ((min b 1048576 : Nat) : Int) hmin ?_ | refine tT ?_ | refine tF ?_ | refine ex_dec (fun _ => ?_) (fun _ => ?_) | refine t8 ?_ | refine tI ?_ | refine tU ?_ | refine tA ?_ | refine tB ?_ | refine tL ?_ | refine tN ?_ | fail "no step")
            refine ex_app (l.length) (1) 1000 (by first | rfl | (simp; done) | (simp; omega)) (by first | rfl | (simp; done) | (simp; omega)) rfl (by omega) ?_
            refine ex_is (List.map sbD (l ++ [(⟨w, min b 1048576⟩ : SB)])) (by rw [List.map_append]; rfl) ?_
            repeat' (first | refine tT ?_ | refine tF ?_ | refine ex_dec (fun _ => ?_) (fun _ => ?_) | refine t8 ?_ | refine tI ?_ | refine tU ?_ | refine tA ?_ | refine tB ?_ | refine tL ?_ | refine tN ?_ | fail "no step")
            exact ex_round (i + 1 + 1 + 1 + 1, l ++ [(⟨w, min b 1048576⟩ : SB)], n) ⟨hs4.less (by omega), by omega, by simp <;> omega, by unfold headN; rw [if_neg (by simp)]; exact hT⟩ (by show L.length - (i + 1 + 1 + 1 + 1) < L.length - i; omega) (SLe.ren [(0, 0), (2, 2), (3, 3), (6, 4), (1, 1)] ⟨⟨rfl, rfl⟩, ⟨rfl, rfl⟩, ⟨rfl, rfl⟩, trivial⟩ ⟨⟨rfl, rfl⟩, ⟨rfl, rfl⟩, ⟨rfl, rfl⟩, ⟨rfl, rfl⟩, trivial⟩ rfl)
        · have hl : l ≠ [] := fun e => hgo (.inl e)
          have hnv : namedV L i = false := by simpa using fun e => hgo (.inr e)
          rw [hnv] at hnm
          unfold headN at hT
          rw [if_neg hl] at hT
          replace hT := pureT (atnB hT hnv)
          have hl0 : l.length ≠ 0 := fun e => hl (List.eq_nil_of_length_eq_zero e)
          repeat' (first | refine ex_is l.length (by simp) ?_ | refine tT ?_ | refine tF ?_ | refine ex_dec (fun _ => ?_) (fun _ => ?_) | refine t8 ?_ | refine tI ?_ | refine tU ?_ | refine tA ?_ | refine tB ?_ | refine tL ?_ | refine tN ?_ | fail "no step")
          refine sC (CallsM.ren (hnm) [0, 1] 5 rfl rfl rfl rfl) ?_
          repeat' (first | refine tT ?_ | refine tF ?_ | refine ex_dec (fun _ => ?_) (fun _ => ?_) | refine t8 ?_ | refine tI ?_ | refine tU ?_ | refine tA ?_ | refine tB ?_ | refine tL ?_ | refine tN ?_ | fail "no step")
          have hcon := take_c (m := m) ⟨i, xs, ts⟩ hs.i (by omega) t_rcur
          rcases hx158 : (takeM L t_rcur) ⟨i, xs, ts⟩ with ⟨_, s9⟩ | ⟨i9, e9⟩
          rotate_left
          · obtain rfl := (and_err hx158).symm.trans hT
            refine sC (CallsM.ren (hcon.err hx158) [0, 1] 5 rfl rfl rfl rfl) ?_
            first | exact ⟨⟨_, rfl, rfl⟩, rfl, rfl⟩ | exact ⟨by kernel_rfl, ⟨_, rfl, rfl⟩, rfl, rfl⟩
          replace hT := (and_ok hx158).symm.trans hT
          refine sC (CallsM.ren (hcon.ok hx158) [0, 1] 5 rfl rfl rfl rfl) ?_
          clear hcon
          have hs1 := (Up.ok (Up.take hL t_rcur 0) hs hx158).1
          obtain rfl := mv_take1 hx158
          obtain rfl : PR.ok (⟨[], -1, 0, [], [], -1, z, lt, l⟩ : IT) ⟨i + 1, xs, ts⟩ = T := hT
          repeat' (first | refine tT ?_ | refine tF ?_ | refine ex_dec (fun _ => ?_) (fun _ => ?_) | refine t8 ?_ | refine tI ?_ | refine tU ?_ | refine tA ?_ | refine tB ?_ | refine tL ?_ | refine tN ?_ | fail "no step")
          exact ⟨rfl, TLe.rfl, rfl, rfl⟩
    · rw [if_neg hk] at hT
      obtain rfl : PR.err (i + 1) 4 = T := hT
      repeat' (first | refine ex_call hq ?_ | refine tT ?_ | refine tF ?_ | refine ex_dec (fun _ => ?_) (fun _ => ?_) | refine t8 ?_ | refine tI ?_ | refine tU ?_ | refine tA ?_ | refine tB ?_ | refine tL ?_ | refine tN ?_ | fail "no step")
      refine sC (CallsM.ren (ha) [0, 1] 4 rfl rfl rfl rfl) ?_
      repeat' (first | refine tT ?_ | refine tF ?_ | refine ex_dec (fun _ => ?_) (fun _ => ?_) | refine t8 ?_ | refine tI ?_ | refine tU ?_ | refine tA ?_ | refine tB ?_ | refine tL ?_ | refine tN ?_ | fail "no step")
      refine sC (CallsM.ren ((fail_c (m := m) (i + 1) 4 hs1.lt)) [0, 1] 4 rfl rfl rfl rfl) ?_
      exact ⟨⟨_, rfl, rfl⟩, rfl, rfl⟩
end
end Go.Proofs.YtoingpafcodojaaGreatDoor
