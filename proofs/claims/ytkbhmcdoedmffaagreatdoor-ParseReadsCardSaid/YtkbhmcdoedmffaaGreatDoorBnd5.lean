/- Texts that the last one leans on: The document's parser: switches. Conditions: the tokens end with the end; at most 100000 of them. The document's parser: types. Conditions: the tokens end with the end; at most 100000 of them. The document's parser: how a field is derived. Conditions: the tokens end with the end, which has no text; at most 100000 of them. The document's parser: fields. Conditions: the tokens end with the end, which has no text; at most 100000 of them. The document's parser: packs. Conditions: the tokens end with the end; at most 100000 of them. Plain law of the parser: the place never goes back; a field and a pack read at least one token. No condition. The document's parser: structs. Conditions: the tokens end with the end, which has no text; at most 100000 of them. Plain law of ParseEnds: a description cut behind a token is read alike up to there, and fails at its end or is one. Condition: none. A function whose one deferred closure recovers. No condition. A function with one deferred closure that recovers and an early end, whose results may be pointers to still cells; an object that is written no more. No condition. The parser's switches. Conditions: the tokens end with the end; at most 100000 of them. The parser's types. Conditions: the tokens end with the end; at most 100000 of them. The parser's types that begin with a word. Conditions: the tokens end with the end; at most 100000 of them. The parser's items: how a field is derived; fields. Conditions: th -/
import Derived.Defers
import Derived.Recover
import Derived.Test.YtkbhmcdoedmffaaGreatDoorBnd1
import Derived.Test.YtkbhmcdoedmffaaGreatDoorBnd2
import Derived.Test.YtkbhmcdoedmffaaGreatDoorBnd3
import Derived.Test.YtkbhmcdoedmffaaGreatDoorBnd4
set_option linter.unusedVariables false
set_option linter.unusedSimpArgs false
set_option maxRecDepth 100000
namespace Go.Proofs.YtkbhmcdoedmffaaGreatDoor
open Go.RowKit

section
variable {L : List TokP} {m : Nat}
theorem casesR_err {kd : RM Int} {s : RSt} (h : s.err ≠ 0) (n : Nat) (l : List CA) : casesR L kd n l s = (l, s) := by
  cases n with
  | zero => rfl
  | succ n => exact if_neg h
theorem rlayc_c (st : RSt) (x n : Int) (cs : List CA) (hx : st.ts.length ≤ 1000000) (X : List EX) (T : List TY) (hT : st.ts = T) : CallsM Tryz.prog ΓL 95 [(0, Rz L st 1 2 3 4), (3, Xr X), (4, Tr T)] 5 [P0, gD [di 9, di 0, db false, ds ⟨#[]⟩, dnil, di x, di n, .sl 2 (cs.map caD)]] (Ti st.ts.length) [(0, Rz L st 1 2 3 5), (4, .dead)] [Tr (st.ts ++ [⟨9, 0, false, [], [], x, n, cs⟩])] :=
  (rlay2_c (L := L) st ⟨9, 0, false, [], [], x, n, cs⟩ hx X T hT).argsLe (.cons T1Le.rfl (.cons (T1Le.g (.cons DLe.rfl (.cons DLe.rfl (.cons DLe.rfl (.cons DLe.rfl (.cons DLe.nil (.cons DLe.rfl (.cons DLe.rfl (.cons DLe.rfl .nil))))))))) .nil))
set_option maxHeartbeats 8000000 in
theorem rchoice_c (hL : TokOk L) (hn : L.length ≤ 100000) (hm : m ≤ 32) {kd : PM Int} {kd' : RM Int} {c : Nat} (hsm : ∀ m', m = m' + 1 → Sim L m' kd kd' 0 0 c 0) (hc : 1 ≤ c) (hc2 : c ≤ 400) (b1 : ∀ st, st.err ≠ 0 → kd' st = (0, st))
    (hkd : ∀ m', m = m' + 1 → ∀ st, Gd L m' 0 1000 st → W2 L 76 [] kd' (fun k => Ti k) st) (hke : ∀ st, st.err ≠ 0 → st.err ≤ 10 → W2 L 76 [] kd' (fun k => Ti k) st)
    (st : RSt) (hg : Gd L m 0 900 st) : W2 L 96 [] (choiceR L m kd') (fun k => Ti k) st := fun v st' hT X T hX hTt => by
  subst hX
  subst hTt
  have kx_st : st.xs = st.xs := rfl
  have kt_st : st.ts = st.ts := rfl
  have hin : ∀ st, Gd L m 0 990 st → W2 L 94 [] (innerR L kd') (fun k => Ti k) st := fun st hg => rinner_c hn hm hsm hc (by omega) b1 hkd hke st hg
  have hsi := fun a => sim_inner (m := m) hsm (fun s h => by rw [b1 s h]; exact Stay.rfl) hc a
  unfold choiceR at hT
  refine fn_ruleP (C := ⟨Tryz.prog, layF, Tryz.f96.ntmps, ΓL, 5, [], [16]⟩) layF_ok mixed Tryz.func96 rfl (by kernel_rfl) rfl rfl rfl startR2 ?_
  repeat' (first | refine tT ?_ | refine tF ?_ | refine ex_dec (fun _ => ?_) (fun _ => ?_) | refine t8 ?_ | refine tI ?_ | refine tU ?_ | refine tA ?_ | refine tB ?_ | refine tL ?_ | refine tN ?_ | fail "no step")
  rcases h1 : (takeR L t_lpar) (st) with ⟨_, st1⟩
  replace hT := (rand h1).symm.trans hT
  refine sC (CallsM.ren ((rtake_c st hg.i hn t_lpar) _ _ h1) [0, 1, 2, 5, 6] 8 rfl rfl rfl rfl) ?_
  have kx_st1 := (keep_take h1).1.trans kx_st
  have kt_st1 := (keep_take h1).2.trans kt_st
  have hg1 := (Sim.take (m := m) hL t_lpar 0).gd hg (by omega) h1
  repeat' (first | refine tT ?_ | refine tF ?_ | refine ex_dec (fun _ => ?_) (fun _ => ?_) | refine t8 ?_ | refine tI ?_ | refine tU ?_ | refine tA ?_ | refine tB ?_ | refine tL ?_ | refine tN ?_ | fail "no step")
  rcases h2 : (exprR L m) (st1) with ⟨x, st2⟩
  replace hT := (rand h2).symm.trans hT
  refine sC (CallsM.ren ((rexpr_c hL hn hm st1 (hg1.le (by omega) (by omega))) _ _ h2 _ kx_st1) [0, 1, 2, 5, 6] 8 rfl rfl rfl rfl) ?_
  have kx_st2 : st2.xs = st2.xs := rfl
  have kt_st2 := ((keepT_expr m).eq h2).trans kt_st1
  have hg2 := (sim_expr hL m 1).gd hg1 (by omega) h2
  repeat' (first | refine tT ?_ | refine tF ?_ | refine ex_dec (fun _ => ?_) (fun _ => ?_) | refine t8 ?_ | refine tI ?_ | refine tU ?_ | refine tA ?_ | refine tB ?_ | refine tL ?_ | refine tN ?_ | fail "no step")
  rcases h3 : (takeR L t_rpar) (st2) with ⟨_, st3⟩
  replace hT := (rand h3).symm.trans hT
  refine sC (CallsM.ren ((rtake_c st2 hg2.i hn t_rpar) _ _ h3) [0, 1, 2, 8, 6] 9 rfl rfl rfl rfl) ?_
  have kx_st3 := (keep_take h3).1.trans kx_st2
  have kt_st3 := (keep_take h3).2.trans kt_st2
  have hg3 := (Sim.take (m := m) hL t_rpar 1).gd hg2 (by omega) h3
  repeat' (first | refine tT ?_ | refine tF ?_ | refine ex_dec (fun _ => ?_) (fun _ => ?_) | refine t8 ?_ | refine tI ?_ | refine tU ?_ | refine tA ?_ | refine tB ?_ | refine tL ?_ | refine tN ?_ | fail "no step")
  rcases h4 : (takeR L t_lcur) (st3) with ⟨_, st4⟩
  replace hT := (rand h4).symm.trans hT
  refine sC (CallsM.ren ((rtake_c st3 hg3.i hn t_lcur) _ _ h4) [0, 1, 2, 8, 6] 9 rfl rfl rfl rfl) ?_
  have kx_st4 := (keep_take h4).1.trans kx_st3
  have kt_st4 := (keep_take h4).2.trans kt_st3
  have hg4 := (Sim.take (m := m) hL t_lcur 2).gd hg3 (by omega) h4
  repeat' (first | refine tT ?_ | refine tF ?_ | refine ex_dec (fun _ => ?_) (fun _ => ?_) | refine t8 ?_ | refine tI ?_ | refine tU ?_ | refine tA ?_ | refine tB ?_ | refine tL ?_ | refine tN ?_ | fail "no step")
  obtain ⟨K, hK⟩ : ∃ K : List CA → RM Int, (fun cs : List CA => atR (isV L · w_else) (guardR (-1) (takeR L w_else >>= fun _ => takeR L t_colon >>= fun _ => innerR L kd' >>= fun k => takeR L t_semi >>= fun _ => pure k)) (pure (-1)) >>= fun k => takeR L t_rcur >>= fun _ => layR ({ tyP 9 with ex := x, inn := k, cases := cs } : TY)) = K := ⟨_, rfl⟩
  replace hT : (casesR L kd' (L.length - st4.i + 1) [] >>= K) st4 = (v, st') := by rw [← hK]; exact hT
  refine ex_join (X := RSt × List EX × List TY × List CA) (fun ⟨s, xl, tl, cs⟩ => ⟨[(0, .o P0), (3, .o (.c (.ptr 7 0)))], [(0, Rz L s 1 2 9 10), (3, .dead), (4, .dead), (7, .obj [.d (di 9), .d (di 0), .d (db false), .d (ds ⟨#[]⟩), .d dnil, .d (di x), .d (di (-1)), .row 11]), (9, Xr xl), (10, Tr tl), (11, .row 2 156 (cs.map caD))], 12⟩) (fun ⟨s, xl, tl, cs⟩ => Gd L m 3 920 s ∧ s.xs = xl ∧ s.ts = tl ∧ cs.length ≤ L.length + 1 ∧ K cs s = (v, st')) ?_ ?_
  · refine ex_loop (X := RSt × List EX × List TY × List CA × Nat) (fun ⟨s, xl, tl, cs, _⟩ => ⟨[(0, .o P0), (3, .o (.c (.ptr 7 0)))], [(0, Rz L s 1 2 9 10), (3, .dead), (4, .dead), (7, .obj [.d (di 9), .d (di 0), .d (db false), .d (ds ⟨#[]⟩), .d dnil, .d (di x), .d (di (-1)), .row 11]), (9, Xr xl), (10, Tr tl), (11, .row 2 156 (cs.map caD))], 12⟩) (fun y => y.2.2.2.2)
      (fun ⟨s, xl, tl, cs, n⟩ => Gd L m 3 920 s ∧ s.xs = xl ∧ s.ts = tl ∧ (s.err = 0 → L.length < s.i + n ∧ cs.length ≤ s.i) ∧ cs.length ≤ L.length + 1 ∧ (casesR L kd' n cs >>= K) s = (v, st')) (st4, st2.xs, st.ts, [], L.length - st4.i + 1) ⟨hg4.le (by omega) (by omega), kx_st4, kt_st4, fun _ => ⟨by have := hg4.i; omega, Nat.zero_le _⟩, Nat.zero_le _, hT⟩ ?_ ?_
    · exact SLe.thru (SLe.ownCell 7 7 9 2 156 rfl rfl rfl rfl rfl rfl) (SLe.ren [(0, 0), (1, 1), (2, 2), (3, 3), (4, 4), (7, 7), (8, 9), (6, 10), (9, 11)] ⟨⟨rfl, rfl⟩, ⟨rfl, rfl⟩, trivial⟩ ⟨⟨rfl, rfl⟩, ⟨rfl, rfl⟩, ⟨rfl, rfl⟩, ⟨rfl, rfl⟩, ⟨rfl, rfl⟩, ⟨rfl, rfl⟩, ⟨rfl, rfl⟩, trivial⟩ rfl)
    clear hT kx_st1 kt_st1 kx_st2 kt_st2 kx_st3 kt_st3 kx_st4 kt_st4 kx_st kt_st hg4 hg3 hg2 hg1 h1 h2 h3 h4 hg
    rintro ⟨s, xl, tl, cs, n⟩ ⟨hs, kx_s, kt_s, hf, hcl, hT⟩
    have hsi9 := hs.i
    have h10 := hs.e
    by_cases he : s.err = 0
    · obtain ⟨hf, hll⟩ := hf he
      cases n with
      | zero => omega
      | succ n =>
        rw [casesR] at hT
        replace hT := gdRyB hT he
        have his := ris_c s hsi9 w_case
        rcases hv : isV L s.i w_case with _ | _ <;> rw [hv] at his
        · replace hT := atRnB hT hv
          replace hT : K cs s = (v, st') := hT
          repeat' (first | refine tT ?_ | refine tF ?_ | refine ex_dec (fun _ => ?_) (fun _ => ?_) | refine t8 ?_ | refine tI ?_ | refine tU ?_ | refine tA ?_ | refine tB ?_ | refine tL ?_ | refine tN ?_ | fail "no step")
          refine sC (CallsM.ren (his) [0, 1, 2, 9, 10] 12 rfl rfl rfl rfl) ?_
          repeat' (first | refine tT ?_ | refine tF ?_ | refine ex_dec (fun _ => ?_) (fun _ => ?_) | refine t8 ?_ | refine tI ?_ | refine tU ?_ | refine tA ?_ | refine tB ?_ | refine tL ?_ | refine tN ?_ | fail "no step")
          exact ex_meet (s, xl, tl, cs) ⟨hs, kx_s, kt_s, hcl, hT⟩ (SLe.of ⟨⟨rfl, rfl, trivial⟩, ⟨rfl, rfl, rfl, rfl, rfl, rfl, rfl, trivial⟩⟩)
        · replace hT := atRyB hT hv
          have hs0 := hs.fresh he 400
          replace hT : (roomR cs.length >>= fun _ => takeR L w_case >>= fun _ => numberR L >>= fun c => takeR L t_colon >>= fun _ => innerR L kd' >>= fun k => takeR L t_semi >>= fun _ => casesR L kd' n (cs ++ [⟨c, k⟩]) >>= K) s = (v, st') := hT
          repeat' (first | refine tT ?_ | refine tF ?_ | refine ex_dec (fun _ => ?_) (fun _ => ?_) | refine t8 ?_ | refine tI ?_ | refine tU ?_ | refine tA ?_ | refine tB ?_ | refine tL ?_ | refine tN ?_ | fail "no step")
          refine sC (CallsM.ren (his) [0, 1, 2, 9, 10] 12 rfl rfl rfl rfl) ?_
          repeat' (first | refine ex_is cs.length (by simp) ?_ | refine tT ?_ | refine tF ?_ | refine ex_dec (fun _ => ?_) (fun _ => ?_) | refine t8 ?_ | refine tI ?_ | refine tU ?_ | refine tA ?_ | refine tB ?_ | refine tL ?_ | refine tN ?_ | fail "no step")
          rcases q1 : (roomR cs.length) (s) with ⟨_, s1⟩
          replace hT := (rand q1).symm.trans hT
          refine sC (CallsM.ren ((rroom_c s cs.length (by omega)) _ _ q1) [0, 1, 2, 9, 10] 12 rfl rfl rfl rfl) ?_
          have kx_s1 := (keep_room q1).1.trans kx_s
          have kt_s1 := (keep_room q1).2.trans kt_s
          have g1 := (Sim.room (L := L) (m := m) cs.length 3).gd hs0 (by omega) q1
          have i1 := room_i q1
          repeat' (first | refine tT ?_ | refine tF ?_ | refine ex_dec (fun _ => ?_) (fun _ => ?_) | refine t8 ?_ | refine tI ?_ | refine tU ?_ | refine tA ?_ | refine tB ?_ | refine tL ?_ | refine tN ?_ | fail "no step")
          rcases q2 : (takeR L w_case) (s1) with ⟨_, s2⟩
          replace hT := (rand q2).symm.trans hT
          refine sC (CallsM.ren ((rtake_c s1 g1.i hn w_case) _ _ q2) [0, 1, 2, 9, 10] 12 rfl rfl rfl rfl) ?_
          have kx_s2 := (keep_take q2).1.trans kx_s1
          have kt_s2 := (keep_take q2).2.trans kt_s1
          have g2 := (Sim.take (m := m) hL w_case 3).gd g1 (by omega) q2
          repeat' (first | refine tT ?_ | refine tF ?_ | refine ex_dec (fun _ => ?_) (fun _ => ?_) | refine t8 ?_ | refine tI ?_ | refine tU ?_ | refine tA ?_ | refine tB ?_ | refine tL ?_ | refine tN ?_ | fail "no step")
          rcases q3 : (numberR L) (s2) with ⟨u, s3⟩
          replace hT := (rand q3).symm.trans hT
          refine sC (CallsM.ren ((rnum_c s2 g2.i hn) _ _ q3) [0, 1, 2, 9, 10] 12 rfl rfl rfl rfl) ?_
          have kx_s3 := (keep_num q3).1.trans kx_s2
          have kt_s3 := (keep_num q3).2.trans kt_s2
          have g3 := (Sim.number (m := m) hL 4).gd g2 (by omega) q3
          repeat' (first | refine tT ?_ | refine tF ?_ | refine ex_dec (fun _ => ?_) (fun _ => ?_) | refine t8 ?_ | refine tI ?_ | refine tU ?_ | refine tA ?_ | refine tB ?_ | refine tL ?_ | refine tN ?_ | fail "no step")
          rcases q4 : (takeR L t_colon) (s3) with ⟨_, s4⟩
          replace hT := (rand q4).symm.trans hT
          refine sC (CallsM.ren ((rtake_c s3 g3.i hn t_colon) _ _ q4) [0, 1, 2, 9, 10] 12 rfl rfl rfl rfl) ?_
          have kx_s4 := (keep_take q4).1.trans kx_s3
          have kt_s4 := (keep_take q4).2.trans kt_s3
          have g4 := (Sim.take (m := m) hL t_colon 5).gd g3 (by omega) q4
          repeat' (first | refine tT ?_ | refine tF ?_ | refine ex_dec (fun _ => ?_) (fun _ => ?_) | refine t8 ?_ | refine tI ?_ | refine tU ?_ | refine tA ?_ | refine tB ?_ | refine tL ?_ | refine tN ?_ | fail "no step")
          rcases q5 : (innerR L kd') (s4) with ⟨k, s5⟩
          replace hT := (rand q5).symm.trans hT
          refine sC (CallsM.ren ((hin s4 (g4.le (by omega) (by omega))) _ _ q5 _ _ kx_s4 kt_s4) [0, 1, 2, 9, 10] 12 rfl rfl rfl rfl) ?_
          have kx_s5 : s5.xs = s5.xs := rfl
          have kt_s5 : s5.ts = s5.ts := rfl
          have g5 := (hsi 6).gd g4 (by omega) q5
          repeat' (first | refine tT ?_ | refine tF ?_ | refine ex_dec (fun _ => ?_) (fun _ => ?_) | refine t8 ?_ | refine tI ?_ | refine tU ?_ | refine tA ?_ | refine tB ?_ | refine tL ?_ | refine tN ?_ | fail "no step")
          rcases q6 : (takeR L t_semi) (s5) with ⟨_, s6⟩
          replace hT := (rand q6).symm.trans hT
          refine sC (CallsM.ren ((rtake_c s5 g5.i hn t_semi) _ _ q6) [0, 1, 2, 12, 13] 14 rfl rfl rfl rfl) ?_
          have kx_s6 := (keep_take q6).1.trans kx_s5
          have kt_s6 := (keep_take q6).2.trans kt_s5
          have g6 := (Sim.take (m := m) hL t_semi 6).gd g5 (by omega) q6
          have hgrow : s6.err = 0 → s.i + 1 ≤ s6.i := fun h6 => by
            have a6 := (Sim.take (m := m) hL t_semi 6).grow g5 q6 h6
            have a5 := (hsi 6).grow g4 q5 a6.1
            have a4 := (Sim.take (m := m) hL t_colon 5).grow g3 q4 a5.1
            have a3 := (Sim.number (m := m) hL 4).grow g2 q3 a4.1
            have a2 := (Sim.take (m := m) hL w_case 3).grow g1 q2 a3.1
            rw [take_yes a2.1 (by rw [i1]; exact hv)] at q2
            obtain rfl := congrArg Prod.snd q2
            have a3' : s1.i + 1 ≤ s3.i := a3.2
            omega
          have hlc : (cs ++ [(⟨u, k⟩ : CA)]).length = cs.length + 1 := by simp
          repeat' (first | refine tT ?_ | refine tF ?_ | refine ex_dec (fun _ => ?_) (fun _ => ?_) | refine t8 ?_ | refine tI ?_ | refine tU ?_ | refine tA ?_ | refine tB ?_ | refine tL ?_ | refine tN ?_ | fail "no step")
          refine ex_app (cs.length) (1) 1000 (by first | rfl | (simp; done) | (simp; omega)) (by first | rfl | (simp; done) | (simp; omega)) rfl (by omega) ?_
          refine ex_is (List.map caD (cs ++ [⟨u, k⟩])) (by rw [List.map_append]; rfl) ?_
          repeat' (first | refine tT ?_ | refine tF ?_ | refine ex_dec (fun _ => ?_) (fun _ => ?_) | refine t8 ?_ | refine tI ?_ | refine tU ?_ | refine tA ?_ | refine tB ?_ | refine tL ?_ | refine tN ?_ | fail "no step")
          exact ex_round (s6, s5.xs, s5.ts, cs ++ [⟨u, k⟩], n) ⟨g6.le (by omega) (by omega), kx_s6, kt_s6, fun h => ⟨by have := hgrow h; omega, by rw [hlc]; have := hgrow h; omega⟩, by rw [hlc]; omega, hT⟩ (by show n < n + 1; omega) (SLe.ren [(0, 0), (1, 1), (2, 2), (3, 3), (4, 4), (7, 7), (12, 9), (13, 10), (15, 11)] ⟨⟨rfl, rfl⟩, ⟨rfl, rfl⟩, trivial⟩ ⟨⟨rfl, rfl⟩, ⟨rfl, rfl⟩, ⟨rfl, rfl⟩, ⟨rfl, rfl⟩, ⟨rfl, rfl⟩, ⟨rfl, rfl⟩, ⟨rfl, rfl⟩, trivial⟩ rfl)
    · replace hT := (rand (casesR_err he n cs)).symm.trans hT
      repeat' (first | refine tT ?_ | refine tF ?_ | refine ex_dec (fun _ => ?_) (fun _ => ?_) | refine t8 ?_ | refine tI ?_ | refine tU ?_ | refine tA ?_ | refine tB ?_ | refine tL ?_ | refine tN ?_ | fail "no step")
      exact ex_meet (s, xl, tl, cs) ⟨hs, kx_s, kt_s, hcl, hT⟩ (SLe.of ⟨⟨rfl, rfl, trivial⟩, ⟨rfl, rfl, rfl, rfl, rfl, rfl, rfl, trivial⟩⟩)
  · clear hT kx_st1 kt_st1 kx_st2 kt_st2 kx_st3 kt_st3 kx_st4 kt_st4 kx_st kt_st hg4 hg3 hg2 hg1 h1 h2 h3 h4 hg
    rintro ⟨s, xl, tl, cs⟩ ⟨hs, kx_s, kt_s, hcl, hT⟩
    rw [← hK] at hT
    clear hK
    have hsi9 := hs.i
    have h10 := hs.e
    have his := ris_c s hsi9 w_else
    rcases hv : isV L s.i w_else with _ | _ <;> rw [hv] at his
    · replace hT := atRnB hT hv
      replace hT : (takeR L t_rcur >>= fun _ => layR ({ tyP 9 with ex := x, inn := -1, cases := cs } : TY)) s = (v, st') := hT
      repeat' (first | refine tT ?_ | refine tF ?_ | refine ex_dec (fun _ => ?_) (fun _ => ?_) | refine t8 ?_ | refine tI ?_ | refine tU ?_ | refine tA ?_ | refine tB ?_ | refine tL ?_ | refine tN ?_ | fail "no step")
      refine sC (CallsM.ren (his) [0, 1, 2, 9, 10] 12 rfl rfl rfl rfl) ?_
      repeat' (first | refine tT ?_ | refine tF ?_ | refine ex_dec (fun _ => ?_) (fun _ => ?_) | refine t8 ?_ | refine tI ?_ | refine tU ?_ | refine tA ?_ | refine tB ?_ | refine tL ?_ | refine tN ?_ | fail "no step")
      rcases q1 : (takeR L t_rcur) (s) with ⟨_, s1⟩
      replace hT := (rand q1).symm.trans hT
      refine sC (CallsM.ren ((rtake_c s hsi9 hn t_rcur) _ _ q1) [0, 1, 2, 9, 10] 12 rfl rfl rfl rfl) ?_
      have kx_s1 := (keep_take q1).1.trans kx_s
      have kt_s1 := (keep_take q1).2.trans kt_s
      have g1 := (Sim.take (m := m) hL t_rcur 3).gd hs (by omega) q1
      have ht1 := g1.t
      obtain rfl : (s1.ts.length : Int) = v := congrArg Prod.fst hT
      obtain rfl : { s1 with ts := s1.ts ++ [({ tyP 9 with ex := x, inn := -1, cases := cs } : TY)] } = st' := congrArg Prod.snd hT
      repeat' (first | refine tT ?_ | refine tF ?_ | refine ex_dec (fun _ => ?_) (fun _ => ?_) | refine t8 ?_ | refine tI ?_ | refine tU ?_ | refine tA ?_ | refine tB ?_ | refine tL ?_ | refine tN ?_ | fail "no step")
      refine sC (CallsM.ren ((rlayc_c (L := L) s1 x (-1) cs (by omega) xl _ kt_s1)) [0, 1, 2, 9, 10] 12 rfl rfl rfl rfl) ?_
      repeat' (first | refine tT ?_ | refine tF ?_ | refine ex_dec (fun _ => ?_) (fun _ => ?_) | refine t8 ?_ | refine tI ?_ | refine tU ?_ | refine tA ?_ | refine tB ?_ | refine tL ?_ | refine tN ?_ | fail "no step")
      subst kx_s1
      exact ⟨rfl, TLe.rfl, rfl, rfl⟩
    · replace hT := atRyB hT hv
      by_cases he : s.err = 0
      · replace hT := gdRyB hT he
        replace hT : (takeR L w_else >>= fun _ => takeR L t_colon >>= fun _ => innerR L kd' >>= fun k => takeR L t_semi >>= fun _ => takeR L t_rcur >>= fun _ => layR ({ tyP 9 with ex := x, inn := k, cases := cs } : TY)) s = (v, st') := hT
        have hs0 := hs.fresh he 400
        repeat' (first | refine tT ?_ | refine tF ?_ | refine ex_dec (fun _ => ?_) (fun _ => ?_) | refine t8 ?_ | refine tI ?_ | refine tU ?_ | refine tA ?_ | refine tB ?_ | refine tL ?_ | refine tN ?_ | fail "no step")
        refine sC (CallsM.ren (his) [0, 1, 2, 9, 10] 12 rfl rfl rfl rfl) ?_
        repeat' (first | refine tT ?_ | refine tF ?_ | refine ex_dec (fun _ => ?_) (fun _ => ?_) | refine t8 ?_ | refine tI ?_ | refine tU ?_ | refine tA ?_ | refine tB ?_ | refine tL ?_ | refine tN ?_ | fail "no step")
        rcases q1 : (takeR L w_else) (s) with ⟨_, s1⟩
        replace hT := (rand q1).symm.trans hT
        refine sC (CallsM.ren ((rtake_c s hsi9 hn w_else) _ _ q1) [0, 1, 2, 9, 10] 12 rfl rfl rfl rfl) ?_
        have kx_s1 := (keep_take q1).1.trans kx_s
        have kt_s1 := (keep_take q1).2.trans kt_s
        have g1 := (Sim.take (m := m) hL w_else 3).gd hs0 (by omega) q1
        repeat' (first | refine tT ?_ | refine tF ?_ | refine ex_dec (fun _ => ?_) (fun _ => ?_) | refine t8 ?_ | refine tI ?_ | refine tU ?_ | refine tA ?_ | refine tB ?_ | refine tL ?_ | refine tN ?_ | fail "no step")
        rcases q2 : (takeR L t_colon) (s1) with ⟨_, s2⟩
        replace hT := (rand q2).symm.trans hT
        refine sC (CallsM.ren ((rtake_c s1 g1.i hn t_colon) _ _ q2) [0, 1, 2, 9, 10] 12 rfl rfl rfl rfl) ?_
        have kx_s2 := (keep_take q2).1.trans kx_s1
        have kt_s2 := (keep_take q2).2.trans kt_s1
        have g2 := (Sim.take (m := m) hL t_colon 4).gd g1 (by omega) q2
        repeat' (first | refine tT ?_ | refine tF ?_ | refine ex_dec (fun _ => ?_) (fun _ => ?_) | refine t8 ?_ | refine tI ?_ | refine tU ?_ | refine tA ?_ | refine tB ?_ | refine tL ?_ | refine tN ?_ | fail "no step")
        rcases q3 : (innerR L kd') (s2) with ⟨k, s3⟩
        replace hT := (rand q3).symm.trans hT
        refine sC (CallsM.ren ((hin s2 (g2.le (by omega) (by omega))) _ _ q3 _ _ kx_s2 kt_s2) [0, 1, 2, 9, 10] 12 rfl rfl rfl rfl) ?_
        have kx_s3 : s3.xs = s3.xs := rfl
        have kt_s3 : s3.ts = s3.ts := rfl
        have g3 := (hsi 5).gd g2 (by omega) q3
        repeat' (first | refine tT ?_ | refine tF ?_ | refine ex_dec (fun _ => ?_) (fun _ => ?_) | refine t8 ?_ | refine tI ?_ | refine tU ?_ | refine tA ?_ | refine tB ?_ | refine tL ?_ | refine tN ?_ | fail "no step")
        rcases q4 : (takeR L t_semi) (s3) with ⟨_, s4⟩
        replace hT := (rand q4).symm.trans hT
        refine sC (CallsM.ren ((rtake_c s3 g3.i hn t_semi) _ _ q4) [0, 1, 2, 12, 13] 14 rfl rfl rfl rfl) ?_
        have kx_s4 := (keep_take q4).1.trans kx_s3
        have kt_s4 := (keep_take q4).2.trans kt_s3
        have g4 := (Sim.take (m := m) hL t_semi 5).gd g3 (by omega) q4
        repeat' (first | refine tT ?_ | refine tF ?_ | refine ex_dec (fun _ => ?_) (fun _ => ?_) | refine t8 ?_ | refine tI ?_ | refine tU ?_ | refine tA ?_ | refine tB ?_ | refine tL ?_ | refine tN ?_ | fail "no step")
        rcases q5 : (takeR L t_rcur) (s4) with ⟨_, s5⟩
        replace hT := (rand q5).symm.trans hT
        refine sC (CallsM.ren ((rtake_c s4 g4.i hn t_rcur) _ _ q5) [0, 1, 2, 12, 13] 14 rfl rfl rfl rfl) ?_
        have kx_s5 := (keep_take q5).1.trans kx_s4
        have kt_s5 := (keep_take q5).2.trans kt_s4
        have g5 := (Sim.take (m := m) hL t_rcur 6).gd g4 (by omega) q5
        have ht1 := g5.t
        obtain rfl : (s5.ts.length : Int) = v := congrArg Prod.fst hT
        obtain rfl : { s5 with ts := s5.ts ++ [({ tyP 9 with ex := x, inn := k, cases := cs } : TY)] } = st' := congrArg Prod.snd hT
        repeat' (first | refine tT ?_ | refine tF ?_ | refine ex_dec (fun _ => ?_) (fun _ => ?_) | refine t8 ?_ | refine tI ?_ | refine tU ?_ | refine tA ?_ | refine tB ?_ | refine tL ?_ | refine tN ?_ | fail "no step")
        refine sC (CallsM.ren ((rlayc_c (L := L) s5 x k cs (by omega) s3.xs _ kt_s5)) [0, 1, 2, 12, 13] 14 rfl rfl rfl rfl) ?_
        repeat' (first | refine tT ?_ | refine tF ?_ | refine ex_dec (fun _ => ?_) (fun _ => ?_) | refine t8 ?_ | refine tI ?_ | refine tU ?_ | refine tA ?_ | refine tB ?_ | refine tL ?_ | refine tN ?_ | fail "no step")
        rw [← kx_s5]
        exact ⟨rfl, TLe.rfl, rfl, rfl⟩
      · replace hT := gdRnB hT he
        replace hT : (takeR L t_rcur >>= fun _ => layR ({ tyP 9 with ex := x, inn := -1, cases := cs } : TY)) s = (v, st') := hT
        repeat' (first | refine tT ?_ | refine tF ?_ | refine ex_dec (fun _ => ?_) (fun _ => ?_) | refine t8 ?_ | refine tI ?_ | refine tU ?_ | refine tA ?_ | refine tB ?_ | refine tL ?_ | refine tN ?_ | fail "no step")
        refine sC (CallsM.ren (his) [0, 1, 2, 9, 10] 12 rfl rfl rfl rfl) ?_
        repeat' (first | refine tT ?_ | refine tF ?_ | refine ex_dec (fun _ => ?_) (fun _ => ?_) | refine t8 ?_ | refine tI ?_ | refine tU ?_ | refine tA ?_ | refine tB ?_ | refine tL ?_ | refine tN ?_ | fail "no step")
        rcases q1 : (takeR L t_rcur) (s) with ⟨_, s1⟩
        replace hT := (rand q1).symm.trans hT
        refine sC (CallsM.ren ((rtake_c s hsi9 hn t_rcur) _ _ q1) [0, 1, 2, 9, 10] 12 rfl rfl rfl rfl) ?_
        have kx_s1 := (keep_take q1).1.trans kx_s
        have kt_s1 := (keep_take q1).2.trans kt_s
        have g1 := (Sim.take (m := m) hL t_rcur 3).gd hs (by omega) q1
        have ht1 := g1.t
        obtain rfl : (s1.ts.length : Int) = v := congrArg Prod.fst hT
        obtain rfl : { s1 with ts := s1.ts ++ [({ tyP 9 with ex := x, inn := -1, cases := cs } : TY)] } = st' := congrArg Prod.snd hT
        repeat' (first | refine tT ?_ | refine tF ?_ | refine ex_dec (fun _ => ?_) (fun _ => ?_) | refine t8 ?_ | refine tI ?_ | refine tU ?_ | refine tA ?_ | refine tB ?_ | refine tL ?_ | refine tN ?_ | fail "no step")
        refine sC (CallsM.ren ((rlayc_c (L := L) s1 x (-1) cs (by omega) xl _ kt_s1)) [0, 1, 2, 9, 10] 12 rfl rfl rfl rfl) ?_
        repeat' (first | refine tT ?_ | refine tF ?_ | refine ex_dec (fun _ => ?_) (fun _ => ?_) | refine t8 ?_ | refine tI ?_ | refine tU ?_ | refine tA ?_ | refine tB ?_ | refine tL ?_ | refine tN ?_ | fail "no step")
        subst kx_s1
        exact ⟨rfl, TLe.rfl, rfl, rfl⟩
end
end Go.Proofs.YtkbhmcdoedmffaaGreatDoor

namespace Go.Proofs.YtkbhmcdoedmffaaGreatDoor
open Go.RowKit

section
variable {L : List TokP} {m : Nat}
theorem rkind_err {y : RM Int} {st : RSt} (he : st.err ≠ 0) (h10 : st.err ≤ 10) (hy : y st = (0, st)) : W2 L 76 [] y (fun k => Ti k) st := fun v st' hT X T hX hTt => by
  subst hX
  subst hTt
  rw [hy] at hT
  obtain rfl : (0 : Int) = v := congrArg Prod.fst hT
  obtain rfl : st = st' := congrArg Prod.snd hT
  refine fn_ruleP (C := ⟨Tryz.prog, layF, Tryz.f76.ntmps, ΓL, 5, [], []⟩) layF_ok mixed Tryz.func76 rfl (by kernel_rfl) rfl rfl rfl startR2 ?_
  repeat' (first | refine tT ?_ | refine tF ?_ | refine ex_dec (fun _ => ?_) (fun _ => ?_) | refine t8 ?_ | refine tI ?_ | refine tU ?_ | refine tA ?_ | refine tB ?_ | refine tL ?_ | refine tN ?_ | fail "no step")
  exact ⟨rfl, TLe.rfl, rfl, rfl⟩
theorem rarrayn_c (hL : TokOk L) (hn : L.length ≤ 100000) (hm : m ≤ 32) (k size : Nat) (little : Bool) (st : RSt) (hg : Gd L m 1 900 st) (v : Int) (st' : RSt) (hT : arrayR L m ⟨k, size, little, [], [], -1, -1, []⟩ st = (v, st')) (X : List EX) (T : List TY) (hX : st.xs = X) (hTt : st.ts = T) :
    CallsM Tryz.prog ΓL 91 [(0, Rz L st 1 2 3 4), (3, Xr X), (4, Tr T)] 5 [P0, gD [di k, di size, db little, ds ⟨#[]⟩, dnil, di (-1), di (-1), dnil]] (Ti v) [(0, Rz L st' 1 2 5 6), (3, .dead), (4, .dead)] [Xr st'.xs, Tr st'.ts] :=
  (rarray_c hL hn hm ⟨k, size, little, [], [], -1, -1, []⟩ st hg v st' hT X T hX hTt).argsLe (.cons T1Le.rfl (.cons (T1Le.g (.cons DLe.rfl (.cons DLe.rfl (.cons DLe.rfl (.cons DLe.rfl (.cons DLe.nil (.cons DLe.rfl (.cons DLe.rfl (.cons DLe.nil .nil))))))))) .nil))
set_option maxHeartbeats 16000000 in
theorem rkind_step (hL : TokOk L) (hn : L.length ≤ 100000) (hm : m ≤ 32) {kd : PM Int} {kd' : RM Int} {c : Nat} (hsm : ∀ m', m = m' + 1 → Sim L m' kd kd' 0 0 c 0) (hc : 1 ≤ c) (hc2 : c ≤ 400) (b1 : ∀ st, st.err ≠ 0 → kd' st = (0, st))
    (hkd : ∀ m', m = m' + 1 → ∀ st, Gd L m' 0 1000 st → W2 L 76 [] kd' (fun k => Ti k) st)
    (st : RSt) (hg : Gd L m 0 1000 st) : W2 L 76 [] (kindFR L m kd') (fun k => Ti k) st := fun v st' hT X T hX hTt => by
  subst hX
  subst hTt
  have kx_st : st.xs = st.xs := rfl
  have kt_st : st.ts = st.ts := rfl
  have hke : ∀ st, st.err ≠ 0 → st.err ≤ 10 → W2 L 76 [] kd' (fun k => Ti k) st := fun st he h10 => rkind_err he h10 (b1 st he)
  have hin : ∀ st, Gd L m 0 990 st → W2 L 94 [] (innerR L kd') (fun k => Ti k) st := fun st hg => rinner_c hn hm hsm hc (by omega) b1 hkd hke st hg
  have hsi := fun a => sim_inner (m := m) hsm (fun s h => by rw [b1 s h]; exact Stay.rfl) hc a
  have hi := hg.i
  have h10 := hg.e
  by_cases he : st.err = 0
  rotate_left
  · exact rkind_err he h10 (if_neg he) v st' hT _ _ rfl rfl
  replace hT := gdRy hT he
  have hg0 := hg.fresh he 400
  have hnm := rnamed_c st hi
  rcases hv : namedV L st.i with _ | _ <;> rw [hv] at hnm
  rotate_left
  · replace hT := atRy hT hv
    refine fn_ruleP (C := ⟨Tryz.prog, layF, Tryz.f76.ntmps, ΓL, 5, [], []⟩) layF_ok mixed Tryz.func76 rfl (by kernel_rfl) rfl rfl rfl startR2 ?_
    repeat' (first | refine tT ?_ | refine tF ?_ | refine ex_dec (fun _ => ?_) (fun _ => ?_) | refine t8 ?_ | refine tI ?_ | refine tU ?_ | refine tA ?_ | refine tB ?_ | refine tL ?_ | refine tN ?_ | fail "no step")
    refine sC (CallsM.ren (hnm) [0, 1, 2, 5, 6] 7 rfl rfl rfl rfl) ?_
    repeat' (first | refine tT ?_ | refine tF ?_ | refine ex_dec (fun _ => ?_) (fun _ => ?_) | refine t8 ?_ | refine tI ?_ | refine tU ?_ | refine tA ?_ | refine tB ?_ | refine tL ?_ | refine tN ?_ | fail "no step")
    rcases q1 : (refR L m) (st) with ⟨t, st1⟩
    replace hT := (rand q1).symm.trans hT
    refine sC (CallsM.ren ((rref_c hL hn hm st (hg0.le (by omega) (by omega))) _ _ q1 _ kx_st) [0, 1, 2, 5, 6] 7 rfl rfl rfl rfl) ?_
    have kx_st1 : st1.xs = st1.xs := rfl
    have kt_st1 := ((keepT_ref m).eq q1).trans kt_st
    have g1 := (sim_ref hL m).gd hg0 (by omega) q1
    repeat' (first | refine tT ?_ | refine tF ?_ | refine ex_dec (fun _ => ?_) (fun _ => ?_) | refine t8 ?_ | refine tI ?_ | refine tU ?_ | refine tA ?_ | refine tB ?_ | refine tL ?_ | refine tN ?_ | fail "no step")
    refine sC (CallsM.ren ((rarray_c hL hn hm t st1 (g1.le (by omega) (by omega))) _ _ hT _ _ kx_st1 kt_st1) [0, 1, 2, 7, 6] 9 rfl rfl rfl rfl) ?_
    repeat' (first | refine tT ?_ | refine tF ?_ | refine ex_dec (fun _ => ?_) (fun _ => ?_) | refine t8 ?_ | refine tI ?_ | refine tU ?_ | refine tA ?_ | refine tB ?_ | refine tL ?_ | refine tN ?_ | fail "no step")
    exact ⟨rfl, TLe.rfl, rfl, rfl⟩
  replace hT := atRn hT hv
  have hty := rtyped_c st hi
  rcases hv2 : startsV L st.i with _ | _ <;> rw [hv2] at hty
  · replace hT := atRn hT hv2
    obtain rfl : (0 : Int) = v := congrArg Prod.fst hT
    obtain rfl : { st with err := 4 } = st' := congrArg Prod.snd hT
    have hf := rfail_c (L := L) st 4 (by omega)
    rw [show failR 4 st = { st with err := 4 } from if_pos he] at hf
    refine fn_ruleP (C := ⟨Tryz.prog, layF, Tryz.f76.ntmps, ΓL, 5, [], []⟩) layF_ok mixed Tryz.func76 rfl (by kernel_rfl) rfl rfl rfl startR2 ?_
    repeat' (first | refine tT ?_ | refine tF ?_ | refine ex_dec (fun _ => ?_) (fun _ => ?_) | refine t8 ?_ | refine tI ?_ | refine tU ?_ | refine tA ?_ | refine tB ?_ | refine tL ?_ | refine tN ?_ | fail "no step")
    refine sC (CallsM.ren (hnm) [0, 1, 2, 5, 6] 7 rfl rfl rfl rfl) ?_
    repeat' (first | refine tT ?_ | refine tF ?_ | refine ex_dec (fun _ => ?_) (fun _ => ?_) | refine t8 ?_ | refine tI ?_ | refine tU ?_ | refine tA ?_ | refine tB ?_ | refine tL ?_ | refine tN ?_ | fail "no step")
    refine sC (CallsM.ren (hty) [0, 1, 2, 5, 6] 7 rfl rfl rfl rfl) ?_
    repeat' (first | refine tT ?_ | refine tF ?_ | refine ex_dec (fun _ => ?_) (fun _ => ?_) | refine t8 ?_ | refine tI ?_ | refine tU ?_ | refine tA ?_ | refine tB ?_ | refine tL ?_ | refine tN ?_ | fail "no step")
    refine sC (CallsM.ren (hf) [0, 1, 2, 5, 6] 7 rfl rfl rfl rfl) ?_
    repeat' (first | refine tT ?_ | refine tF ?_ | refine ex_dec (fun _ => ?_) (fun _ => ?_) | refine t8 ?_ | refine tI ?_ | refine tU ?_ | refine tA ?_ | refine tB ?_ | refine tL ?_ | refine tN ?_ | fail "no step")
    exact ⟨rfl, TLe.rfl, rfl, rfl⟩
  · replace hT := atRy hT hv2
    replace hT : wordR L m kd' (tk L st.i).t { st with i := st.i + 1 } = (v, st') := hT
    have hgs := hg0.step hL he (startsV_k hv2) 400
    have hk := tk_at hi
    clear hv hv2
    generalize tk L st.i = u at *
    obtain ⟨uk, w, un, ul, uc⟩ := u
    replace hT : wordR L m kd' w { st with i := st.i + 1 } = (v, st') := hT
    have hrow : ∀ {K : List D → Prop} , K [di uk, ds (bs w), du un, di ul, di uc] → ∃ r, 0 ≤ (st.i : Int) ∧ (L.map tokD)[(st.i : Int).toNat]? = some r ∧ K r := fun h => ex_rowE st.i _ _ rfl hk rfl h
    by_cases hmm : w ∈ typesL
    · simp only [typesL, List.mem_cons, List.not_mem_nil, or_false] at hmm
      rcases hmm with rfl | rfl | rfl | rfl | rfl | rfl | rfl | rfl | rfl
      · replace hT : (bracketR L m >>= fun x => layR ({ tyP 1 with ex := x, inn := -1 } : TY)) ({ st with i := st.i + 1 }) = (v, st') := by
          have h := hT
          unfold wordR at h
          rw [show sizedV w_bytes = some 1 by decide +kernel] at h
          dsimp only at h
          rw [if_neg (by decide)] at h
          exact h
        refine fn_ruleP (C := ⟨Tryz.prog, layF, Tryz.f76.ntmps, ΓL, 5, [], []⟩) layF_ok mixed Tryz.func76 rfl (by kernel_rfl) rfl rfl rfl startR2 ?_
        repeat' (first | refine tT ?_ | refine tF ?_ | refine ex_dec (fun _ => ?_) (fun _ => ?_) | refine t8 ?_ | refine tI ?_ | refine tU ?_ | refine tA ?_ | refine tB ?_ | refine tL ?_ | refine tN ?_ | fail "no step")
        refine sC (CallsM.ren (hnm) [0, 1, 2, 5, 6] 7 rfl rfl rfl rfl) ?_
        repeat' (first | refine tT ?_ | refine tF ?_ | refine ex_dec (fun _ => ?_) (fun _ => ?_) | refine t8 ?_ | refine tI ?_ | refine tU ?_ | refine tA ?_ | refine tB ?_ | refine tL ?_ | refine tN ?_ | fail "no step")
        refine sC (CallsM.ren (hty) [0, 1, 2, 5, 6] 7 rfl rfl rfl rfl) ?_
        repeat' (first | refine ex_i64 ((st.i + 1 : Nat) : Int) (by omega) (by omega) (by omega) ?_ | refine ex_u64 ((st.i + 1 : Nat) : Int) (by omega) (by omega) (by omega) ?_ | refine ex_u8 ((st.i + 1 : Nat) : Int) (by omega) (by omega) (by omega) ?_ | refine hrow ?_ | refine tT ?_ | refine tF ?_ | refine ex_dec (fun _ => ?_) (fun _ => ?_) | refine t8 ?_ | refine tI ?_ | refine tU ?_ | refine tA ?_ | refine tB ?_ | refine tL ?_ | refine tN ?_ | fail "no step")
        rcases q1 : (bracketR L m) ({ st with i := st.i + 1 }) with ⟨x, s2⟩
        replace hT := (rand q1).symm.trans hT
        refine sC (CallsM.ren ((rbracket_c hL hn hm { st with i := st.i + 1 } (hgs.le (by omega) (by omega))) _ _ q1 _ rfl) [0, 1, 2, 5, 6] 8 rfl rfl rfl rfl) ?_
        have kx_s2 : s2.xs = s2.xs := rfl
        have kt_s2 := ((keepT_bracket m).eq q1).trans rfl
        have g2 := (sim_bracket hL m 1).gd hgs (by omega) q1
        have ht2 := g2.t
        obtain rfl : (s2.ts.length : Int) = v := congrArg Prod.fst hT
        obtain rfl : { s2 with ts := s2.ts ++ [({ tyP 1 with ex := x, inn := -1 } : TY)] } = st' := congrArg Prod.snd hT
        repeat' (first | refine tT ?_ | refine tF ?_ | refine ex_dec (fun _ => ?_) (fun _ => ?_) | refine t8 ?_ | refine tI ?_ | refine tU ?_ | refine tA ?_ | refine tB ?_ | refine tL ?_ | refine tN ?_ | fail "no step")
        refine sC (CallsM.ren ((rlayn_c (L := L) s2 1 0 false [] x (-1) (by omega) s2.xs _ kt_s2)) [0, 1, 2, 8, 6] 9 rfl rfl rfl rfl) ?_
        repeat' (first | refine tT ?_ | refine tF ?_ | refine ex_dec (fun _ => ?_) (fun _ => ?_) | refine t8 ?_ | refine tI ?_ | refine tU ?_ | refine tA ?_ | refine tB ?_ | refine tL ?_ | refine tN ?_ | fail "no step")
        exact ⟨rfl, TLe.rfl, rfl, rfl⟩
      · replace hT : (bracketR L m >>= fun x => layR ({ tyP 2 with ex := x, inn := -1 } : TY)) ({ st with i := st.i + 1 }) = (v, st') := by
          have h := hT
          unfold wordR at h
          rw [show sizedV w_zero = some 2 by decide +kernel] at h
          dsimp only at h
          rw [if_neg (by decide)] at h
          exact h
        refine fn_ruleP (C := ⟨Tryz.prog, layF, Tryz.f76.ntmps, ΓL, 5, [], []⟩) layF_ok mixed Tryz.func76 rfl (by kernel_rfl) rfl rfl rfl startR2 ?_
        repeat' (first | refine tT ?_ | refine tF ?_ | refine ex_dec (fun _ => ?_) (fun _ => ?_) | refine t8 ?_ | refine tI ?_ | refine tU ?_ | refine tA ?_ | refine tB ?_ | refine tL ?_ | refine tN ?_ | fail "no step")
        refine sC (CallsM.ren (hnm) [0, 1, 2, 5, 6] 7 rfl rfl rfl rfl) ?_
        repeat' (first | refine tT ?_ | refine tF ?_ | refine ex_dec (fun _ => ?_) (fun _ => ?_) | refine t8 ?_ | refine tI ?_ | refine tU ?_ | refine tA ?_ | refine tB ?_ | refine tL ?_ | refine tN ?_ | fail "no step")
        refine sC (CallsM.ren (hty) [0, 1, 2, 5, 6] 7 rfl rfl rfl rfl) ?_
        repeat' (first | refine ex_i64 ((st.i + 1 : Nat) : Int) (by omega) (by omega) (by omega) ?_ | refine ex_u64 ((st.i + 1 : Nat) : Int) (by omega) (by omega) (by omega) ?_ | refine ex_u8 ((st.i + 1 : Nat) : Int) (by omega) (by omega) (by omega) ?_ | refine hrow ?_ | refine tT ?_ | refine tF ?_ | refine ex_dec (fun _ => ?_) (fun _ => ?_) | refine t8 ?_ | refine tI ?_ | refine tU ?_ | refine tA ?_ | refine tB ?_ | refine tL ?_ | refine tN ?_ | fail "no step")
        rcases q1 : (bracketR L m) ({ st with i := st.i + 1 }) with ⟨x, s2⟩
        replace hT := (rand q1).symm.trans hT
        refine sC (CallsM.ren ((rbracket_c hL hn hm { st with i := st.i + 1 } (hgs.le (by omega) (by omega))) _ _ q1 _ rfl) [0, 1, 2, 5, 6] 8 rfl rfl rfl rfl) ?_
        have kx_s2 : s2.xs = s2.xs := rfl
        have kt_s2 := ((keepT_bracket m).eq q1).trans rfl
        have g2 := (sim_bracket hL m 1).gd hgs (by omega) q1
        have ht2 := g2.t
        obtain rfl : (s2.ts.length : Int) = v := congrArg Prod.fst hT
        obtain rfl : { s2 with ts := s2.ts ++ [({ tyP 2 with ex := x, inn := -1 } : TY)] } = st' := congrArg Prod.snd hT
        repeat' (first | refine tT ?_ | refine tF ?_ | refine ex_dec (fun _ => ?_) (fun _ => ?_) | refine t8 ?_ | refine tI ?_ | refine tU ?_ | refine tA ?_ | refine tB ?_ | refine tL ?_ | refine tN ?_ | fail "no step")
        refine sC (CallsM.ren ((rlayn_c (L := L) s2 2 0 false [] x (-1) (by omega) s2.xs _ kt_s2)) [0, 1, 2, 8, 6] 9 rfl rfl rfl rfl) ?_
        repeat' (first | refine tT ?_ | refine tF ?_ | refine ex_dec (fun _ => ?_) (fun _ => ?_) | refine t8 ?_ | refine tI ?_ | refine tU ?_ | refine tA ?_ | refine tB ?_ | refine tL ?_ | refine tN ?_ | fail "no step")
        exact ⟨rfl, TLe.rfl, rfl, rfl⟩
      · replace hT : (bracketR L m >>= fun x => layR ({ tyP 3 with ex := x, inn := -1 } : TY)) ({ st with i := st.i + 1 }) = (v, st') := by
          have h := hT
          unfold wordR at h
          rw [show sizedV w_skip = some 3 by decide +kernel] at h
          dsimp only at h
          rw [if_neg (by decide)] at h
          exact h
        refine fn_ruleP (C := ⟨Tryz.prog, layF, Tryz.f76.ntmps, ΓL, 5, [], []⟩) layF_ok mixed Tryz.func76 rfl (by kernel_rfl) rfl rfl rfl startR2 ?_
        repeat' (first | refine tT ?_ | refine tF ?_ | refine ex_dec (fun _ => ?_) (fun _ => ?_) | refine t8 ?_ | refine tI ?_ | refine tU ?_ | refine tA ?_ | refine tB ?_ | refine tL ?_ | refine tN ?_ | fail "no step")
        refine sC (CallsM.ren (hnm) [0, 1, 2, 5, 6] 7 rfl rfl rfl rfl) ?_
        repeat' (first | refine tT ?_ | refine tF ?_ | refine ex_dec (fun _ => ?_) (fun _ => ?_) | refine t8 ?_ | refine tI ?_ | refine tU ?_ | refine tA ?_ | refine tB ?_ | refine tL ?_ | refine tN ?_ | fail "no step")
        refine sC (CallsM.ren (hty) [0, 1, 2, 5, 6] 7 rfl rfl rfl rfl) ?_
        repeat' (first | refine ex_i64 ((st.i + 1 : Nat) : Int) (by omega) (by omega) (by omega) ?_ | refine ex_u64 ((st.i + 1 : Nat) : Int) (by omega) (by omega) (by omega) ?_ | refine ex_u8 ((st.i + 1 : Nat) : Int) (by omega) (by omega) (by omega) ?_ | refine hrow ?_ | refine tT ?_ | refine tF ?_ | refine ex_dec (fun _ => ?_) (fun _ => ?_) | refine t8 ?_ | refine tI ?_ | refine tU ?_ | refine tA ?_ | refine tB ?_ | refine tL ?_ | refine tN ?_ | fail "no step")
        rcases q1 : (bracketR L m) ({ st with i := st.i + 1 }) with ⟨x, s2⟩
        replace hT := (rand q1).symm.trans hT
        refine sC (CallsM.ren ((rbracket_c hL hn hm { st with i := st.i + 1 } (hgs.le (by omega) (by omega))) _ _ q1 _ rfl) [0, 1, 2, 5, 6] 8 rfl rfl rfl rfl) ?_
        have kx_s2 : s2.xs = s2.xs := rfl
        have kt_s2 := ((keepT_bracket m).eq q1).trans rfl
        have g2 := (sim_bracket hL m 1).gd hgs (by omega) q1
        have ht2 := g2.t
        obtain rfl : (s2.ts.length : Int) = v := congrArg Prod.fst hT
        obtain rfl : { s2 with ts := s2.ts ++ [({ tyP 3 with ex := x, inn := -1 } : TY)] } = st' := congrArg Prod.snd hT
        repeat' (first | refine tT ?_ | refine tF ?_ | refine ex_dec (fun _ => ?_) (fun _ => ?_) | refine t8 ?_ | refine tI ?_ | refine tU ?_ | refine tA ?_ | refine tB ?_ | refine tL ?_ | refine tN ?_ | fail "no step")
        refine sC (CallsM.ren ((rlayn_c (L := L) s2 3 0 false [] x (-1) (by omega) s2.xs _ kt_s2)) [0, 1, 2, 8, 6] 9 rfl rfl rfl rfl) ?_
        repeat' (first | refine tT ?_ | refine tF ?_ | refine ex_dec (fun _ => ?_) (fun _ => ?_) | refine t8 ?_ | refine tI ?_ | refine tU ?_ | refine tA ?_ | refine tB ?_ | refine tL ?_ | refine tN ?_ | fail "no step")
        exact ⟨rfl, TLe.rfl, rfl, rfl⟩
      · replace hT : (bracketR L m >>= fun x => innerR L kd' >>= fun i => layR ({ tyP 7 with ex := x, inn := i } : TY)) ({ st with i := st.i + 1 }) = (v, st') := by
          have h := hT
          unfold wordR at h
          rw [show sizedV w_window = some 7 by decide +kernel] at h
          dsimp only at h
          rw [if_pos (by decide)] at h
          exact h
        refine fn_ruleP (C := ⟨Tryz.prog, layF, Tryz.f76.ntmps, ΓL, 5, [], []⟩) layF_ok mixed Tryz.func76 rfl (by kernel_rfl) rfl rfl rfl startR2 ?_
        repeat' (first | refine tT ?_ | refine tF ?_ | refine ex_dec (fun _ => ?_) (fun _ => ?_) | refine t8 ?_ | refine tI ?_ | refine tU ?_ | refine tA ?_ | refine tB ?_ | refine tL ?_ | refine tN ?_ | fail "no step")
        refine sC (CallsM.ren (hnm) [0, 1, 2, 5, 6] 7 rfl rfl rfl rfl) ?_
        repeat' (first | refine tT ?_ | refine tF ?_ | refine ex_dec (fun _ => ?_) (fun _ => ?_) | refine t8 ?_ | refine tI ?_ | refine tU ?_ | refine tA ?_ | refine tB ?_ | refine tL ?_ | refine tN ?_ | fail "no step")
        refine sC (CallsM.ren (hty) [0, 1, 2, 5, 6] 7 rfl rfl rfl rfl) ?_
        repeat' (first | refine ex_i64 ((st.i + 1 : Nat) : Int) (by omega) (by omega) (by omega) ?_ | refine ex_u64 ((st.i + 1 : Nat) : Int) (by omega) (by omega) (by omega) ?_ | refine ex_u8 ((st.i + 1 : Nat) : Int) (by omega) (by omega) (by omega) ?_ | refine hrow ?_ | refine tT ?_ | refine tF ?_ | refine ex_dec (fun _ => ?_) (fun _ => ?_) | refine t8 ?_ | refine tI ?_ | refine tU ?_ | refine tA ?_ | refine tB ?_ | refine tL ?_ | refine tN ?_ | fail "no step")
        rcases q1 : (bracketR L m) ({ st with i := st.i + 1 }) with ⟨x, s2⟩
        replace hT := (rand q1).symm.trans hT
        refine sC (CallsM.ren ((rbracket_c hL hn hm { st with i := st.i + 1 } (hgs.le (by omega) (by omega))) _ _ q1 _ rfl) [0, 1, 2, 5, 6] 8 rfl rfl rfl rfl) ?_
        have kx_s2 : s2.xs = s2.xs := rfl
        have kt_s2 := ((keepT_bracket m).eq q1).trans rfl
        have g2 := (sim_bracket hL m 1).gd hgs (by omega) q1
        have ht2 := g2.t
        repeat' (first | refine tT ?_ | refine tF ?_ | refine ex_dec (fun _ => ?_) (fun _ => ?_) | refine t8 ?_ | refine tI ?_ | refine tU ?_ | refine tA ?_ | refine tB ?_ | refine tL ?_ | refine tN ?_ | fail "no step")
        rcases q2 : (innerR L kd') (s2) with ⟨k, s3⟩
        replace hT := (rand q2).symm.trans hT
        refine sC (CallsM.ren ((hin s2 (g2.le (by omega) (by omega))) _ _ q2 _ _ kx_s2 kt_s2) [0, 1, 2, 8, 6] 9 rfl rfl rfl rfl) ?_
        have kx_s3 : s3.xs = s3.xs := rfl
        have kt_s3 : s3.ts = s3.ts := rfl
        have g3 := (hsi 3).gd g2 (by omega) q2
        have ht3 := g3.t
        obtain rfl : (s3.ts.length : Int) = v := congrArg Prod.fst hT
        obtain rfl : { s3 with ts := s3.ts ++ [({ tyP 7 with ex := x, inn := k } : TY)] } = st' := congrArg Prod.snd hT
        repeat' (first | refine tT ?_ | refine tF ?_ | refine ex_dec (fun _ => ?_) (fun _ => ?_) | refine t8 ?_ | refine tI ?_ | refine tU ?_ | refine tA ?_ | refine tB ?_ | refine tL ?_ | refine tN ?_ | fail "no step")
        refine sC (CallsM.ren ((rlayn_c (L := L) s3 7 0 false [] x k (by omega) s3.xs _ rfl)) [0, 1, 2, 9, 10] 11 rfl rfl rfl rfl) ?_
        repeat' (first | refine tT ?_ | refine tF ?_ | refine ex_dec (fun _ => ?_) (fun _ => ?_) | refine t8 ?_ | refine tI ?_ | refine tU ?_ | refine tA ?_ | refine tB ?_ | refine tL ?_ | refine tN ?_ | fail "no step")
        exact ⟨rfl, TLe.rfl, rfl, rfl⟩
      · replace hT : (bracketR L m >>= fun x => innerR L kd' >>= fun i => layR ({ tyP 8 with ex := x, inn := i } : TY)) ({ st with i := st.i + 1 }) = (v, st') := by
          have h := hT
          unfold wordR at h
          rw [show sizedV w_at = some 8 by decide +kernel] at h
          dsimp only at h
          rw [if_pos (by decide)] at h
          exact h
        refine fn_ruleP (C := ⟨Tryz.prog, layF, Tryz.f76.ntmps, ΓL, 5, [], []⟩) layF_ok mixed Tryz.func76 rfl (by kernel_rfl) rfl rfl rfl startR2 ?_
        repeat' (first | refine tT ?_ | refine tF ?_ | refine ex_dec (fun _ => ?_) (fun _ => ?_) | refine t8 ?_ | refine tI ?_ | refine tU ?_ | refine tA ?_ | refine tB ?_ | refine tL ?_ | refine tN ?_ | fail "no step")
        refine sC (CallsM.ren (hnm) [0, 1, 2, 5, 6] 7 rfl rfl rfl rfl) ?_
        repeat' (first | refine tT ?_ | refine tF ?_ | refine ex_dec (fun _ => ?_) (fun _ => ?_) | refine t8 ?_ | refine tI ?_ | refine tU ?_ | refine tA ?_ | refine tB ?_ | refine tL ?_ | refine tN ?_ | fail "no step")
        refine sC (CallsM.ren (hty) [0, 1, 2, 5, 6] 7 rfl rfl rfl rfl) ?_
        repeat' (first | refine ex_i64 ((st.i + 1 : Nat) : Int) (by omega) (by omega) (by omega) ?_ | refine ex_u64 ((st.i + 1 : Nat) : Int) (by omega) (by omega) (by omega) ?_ | refine ex_u8 ((st.i + 1 : Nat) : Int) (by omega) (by omega) (by omega) ?_ | refine hrow ?_ | refine tT ?_ | refine tF ?_ | refine ex_dec (fun _ => ?_) (fun _ => ?_) | refine t8 ?_ | refine tI ?_ | refine tU ?_ | refine tA ?_ | refine tB ?_ | refine tL ?_ | refine tN ?_ | fail "no step")
        rcases q1 : (bracketR L m) ({ st with i := st.i + 1 }) with ⟨x, s2⟩
        replace hT := (rand q1).symm.trans hT
        refine sC (CallsM.ren ((rbracket_c hL hn hm { st with i := st.i + 1 } (hgs.le (by omega) (by omega))) _ _ q1 _ rfl) [0, 1, 2, 5, 6] 8 rfl rfl rfl rfl) ?_
        have kx_s2 : s2.xs = s2.xs := rfl
        have kt_s2 := ((keepT_bracket m).eq q1).trans rfl
        have g2 := (sim_bracket hL m 1).gd hgs (by omega) q1
        have ht2 := g2.t
        repeat' (first | refine tT ?_ | refine tF ?_ | refine ex_dec (fun _ => ?_) (fun _ => ?_) | refine t8 ?_ | refine tI ?_ | refine tU ?_ | refine tA ?_ | refine tB ?_ | refine tL ?_ | refine tN ?_ | fail "no step")
        rcases q2 : (innerR L kd') (s2) with ⟨k, s3⟩
        replace hT := (rand q2).symm.trans hT
        refine sC (CallsM.ren ((hin s2 (g2.le (by omega) (by omega))) _ _ q2 _ _ kx_s2 kt_s2) [0, 1, 2, 8, 6] 9 rfl rfl rfl rfl) ?_
        have kx_s3 : s3.xs = s3.xs := rfl
        have kt_s3 : s3.ts = s3.ts := rfl
        have g3 := (hsi 3).gd g2 (by omega) q2
        have ht3 := g3.t
        obtain rfl : (s3.ts.length : Int) = v := congrArg Prod.fst hT
        obtain rfl : { s3 with ts := s3.ts ++ [({ tyP 8 with ex := x, inn := k } : TY)] } = st' := congrArg Prod.snd hT
        repeat' (first | refine tT ?_ | refine tF ?_ | refine ex_dec (fun _ => ?_) (fun _ => ?_) | refine t8 ?_ | refine tI ?_ | refine tU ?_ | refine tA ?_ | refine tB ?_ | refine tL ?_ | refine tN ?_ | fail "no step")
        refine sC (CallsM.ren ((rlayn_c (L := L) s3 8 0 false [] x k (by omega) s3.xs _ rfl)) [0, 1, 2, 9, 10] 11 rfl rfl rfl rfl) ?_
        repeat' (first | refine tT ?_ | refine tF ?_ | refine ex_dec (fun _ => ?_) (fun _ => ?_) | refine t8 ?_ | refine tI ?_ | refine tU ?_ | refine tA ?_ | refine tB ?_ | refine tL ?_ | refine tN ?_ | fail "no step")
        exact ⟨rfl, TLe.rfl, rfl, rfl⟩
      · replace hT : (innerR L kd' >>= fun i => layR ({ tyP 6 with inn := i } : TY)) ({ st with i := st.i + 1 }) = (v, st') := by
          have h := hT
          unfold wordR at h
          rw [show sizedV w_rest = none by decide +kernel] at h
          dsimp only at h
          rw [if_pos rfl] at h
          exact h
        refine fn_ruleP (C := ⟨Tryz.prog, layF, Tryz.f76.ntmps, ΓL, 5, [], []⟩) layF_ok mixed Tryz.func76 rfl (by kernel_rfl) rfl rfl rfl startR2 ?_
        repeat' (first | refine tT ?_ | refine tF ?_ | refine ex_dec (fun _ => ?_) (fun _ => ?_) | refine t8 ?_ | refine tI ?_ | refine tU ?_ | refine tA ?_ | refine tB ?_ | refine tL ?_ | refine tN ?_ | fail "no step")
        refine sC (CallsM.ren (hnm) [0, 1, 2, 5, 6] 7 rfl rfl rfl rfl) ?_
        repeat' (first | refine tT ?_ | refine tF ?_ | refine ex_dec (fun _ => ?_) (fun _ => ?_) | refine t8 ?_ | refine tI ?_ | refine tU ?_ | refine tA ?_ | refine tB ?_ | refine tL ?_ | refine tN ?_ | fail "no step")
        refine sC (CallsM.ren (hty) [0, 1, 2, 5, 6] 7 rfl rfl rfl rfl) ?_
        repeat' (first | refine ex_i64 ((st.i + 1 : Nat) : Int) (by omega) (by omega) (by omega) ?_ | refine ex_u64 ((st.i + 1 : Nat) : Int) (by omega) (by omega) (by omega) ?_ | refine ex_u8 ((st.i + 1 : Nat) : Int) (by omega) (by omega) (by omega) ?_ | refine hrow ?_ | refine tT ?_ | refine tF ?_ | refine ex_dec (fun _ => ?_) (fun _ => ?_) | refine t8 ?_ | refine tI ?_ | refine tU ?_ | refine tA ?_ | refine tB ?_ | refine tL ?_ | refine tN ?_ | fail "no step")
        rcases q2 : (innerR L kd') ({ st with i := st.i + 1 }) with ⟨k, s3⟩
        replace hT := (rand q2).symm.trans hT
        refine sC (CallsM.ren ((hin { st with i := st.i + 1 } (hgs.le (by omega) (by omega))) _ _ q2 _ _ rfl rfl) [0, 1, 2, 5, 6] 8 rfl rfl rfl rfl) ?_
        have kx_s3 : s3.xs = s3.xs := rfl
        have kt_s3 : s3.ts = s3.ts := rfl
        have g3 := (hsi 1).gd hgs (by omega) q2
        have ht3 := g3.t
        obtain rfl : (s3.ts.length : Int) = v := congrArg Prod.fst hT
        obtain rfl : { s3 with ts := s3.ts ++ [({ tyP 6 with inn := k } : TY)] } = st' := congrArg Prod.snd hT
        repeat' (first | refine tT ?_ | refine tF ?_ | refine ex_dec (fun _ => ?_) (fun _ => ?_) | refine t8 ?_ | refine tI ?_ | refine tU ?_ | refine tA ?_ | refine tB ?_ | refine tL ?_ | refine tN ?_ | fail "no step")
        refine sC (CallsM.ren ((rlayn_c (L := L) s3 6 0 false [] (-1) k (by omega) s3.xs _ rfl)) [0, 1, 2, 8, 9] 10 rfl rfl rfl rfl) ?_
        repeat' (first | refine tT ?_ | refine tF ?_ | refine ex_dec (fun _ => ?_) (fun _ => ?_) | refine t8 ?_ | refine tI ?_ | refine tU ?_ | refine tA ?_ | refine tB ?_ | refine tL ?_ | refine tN ?_ | fail "no step")
        exact ⟨rfl, TLe.rfl, rfl, rfl⟩
      · replace hT : layR (tyP 4) ({ st with i := st.i + 1 }) = (v, st') := by
          have h := hT
          unfold wordR at h
          rw [show sizedV w_tail = none by decide +kernel] at h
          dsimp only at h
          rw [if_neg (by decide), if_pos rfl] at h
          exact h
        have ht3 := hgs.t
        obtain rfl : (st.ts.length : Int) = v := congrArg Prod.fst hT
        obtain rfl : { st with i := st.i + 1, ts := st.ts ++ [tyP 4] } = st' := congrArg Prod.snd hT
        refine fn_ruleP (C := ⟨Tryz.prog, layF, Tryz.f76.ntmps, ΓL, 5, [], []⟩) layF_ok mixed Tryz.func76 rfl (by kernel_rfl) rfl rfl rfl startR2 ?_
        repeat' (first | refine tT ?_ | refine tF ?_ | refine ex_dec (fun _ => ?_) (fun _ => ?_) | refine t8 ?_ | refine tI ?_ | refine tU ?_ | refine tA ?_ | refine tB ?_ | refine tL ?_ | refine tN ?_ | fail "no step")
        refine sC (CallsM.ren (hnm) [0, 1, 2, 5, 6] 7 rfl rfl rfl rfl) ?_
        repeat' (first | refine tT ?_ | refine tF ?_ | refine ex_dec (fun _ => ?_) (fun _ => ?_) | refine t8 ?_ | refine tI ?_ | refine tU ?_ | refine tA ?_ | refine tB ?_ | refine tL ?_ | refine tN ?_ | fail "no step")
        refine sC (CallsM.ren (hty) [0, 1, 2, 5, 6] 7 rfl rfl rfl rfl) ?_
        repeat' (first | refine ex_i64 ((st.i + 1 : Nat) : Int) (by omega) (by omega) (by omega) ?_ | refine ex_u64 ((st.i + 1 : Nat) : Int) (by omega) (by omega) (by omega) ?_ | refine ex_u8 ((st.i + 1 : Nat) : Int) (by omega) (by omega) (by omega) ?_ | refine hrow ?_ | refine tT ?_ | refine tF ?_ | refine ex_dec (fun _ => ?_) (fun _ => ?_) | refine t8 ?_ | refine tI ?_ | refine tU ?_ | refine tA ?_ | refine tB ?_ | refine tL ?_ | refine tN ?_ | fail "no step")
        refine sC (CallsM.ren ((rlayn_c (L := L) { st with i := st.i + 1 } 4 0 false [] (-1) (-1) (by omega) st.xs _ rfl)) [0, 1, 2, 5, 6] 8 rfl rfl rfl rfl) ?_
        repeat' (first | refine tT ?_ | refine tF ?_ | refine ex_dec (fun _ => ?_) (fun _ => ?_) | refine t8 ?_ | refine tI ?_ | refine tU ?_ | refine tA ?_ | refine tB ?_ | refine tL ?_ | refine tN ?_ | fail "no step")
        exact ⟨rfl, TLe.rfl, rfl, rfl⟩
      · replace hT : layR (tyP 11) ({ st with i := st.i + 1 }) = (v, st') := by
          have h := hT
          unfold wordR at h
          rw [show sizedV w_none = none by decide +kernel] at h
          dsimp only at h
          rw [if_neg (by decide), if_neg (by decide), if_pos rfl] at h
          exact h
        have ht3 := hgs.t
        obtain rfl : (st.ts.length : Int) = v := congrArg Prod.fst hT
        obtain rfl : { st with i := st.i + 1, ts := st.ts ++ [tyP 11] } = st' := congrArg Prod.snd hT
        refine fn_ruleP (C := ⟨Tryz.prog, layF, Tryz.f76.ntmps, ΓL, 5, [], []⟩) layF_ok mixed Tryz.func76 rfl (by kernel_rfl) rfl rfl rfl startR2 ?_
        repeat' (first | refine tT ?_ | refine tF ?_ | refine ex_dec (fun _ => ?_) (fun _ => ?_) | refine t8 ?_ | refine tI ?_ | refine tU ?_ | refine tA ?_ | refine tB ?_ | refine tL ?_ | refine tN ?_ | fail "no step")
        refine sC (CallsM.ren (hnm) [0, 1, 2, 5, 6] 7 rfl rfl rfl rfl) ?_
        repeat' (first | refine tT ?_ | refine tF ?_ | refine ex_dec (fun _ => ?_) (fun _ => ?_) | refine t8 ?_ | refine tI ?_ | refine tU ?_ | refine tA ?_ | refine tB ?_ | refine tL ?_ | refine tN ?_ | fail "no step")
        refine sC (CallsM.ren (hty) [0, 1, 2, 5, 6] 7 rfl rfl rfl rfl) ?_
        repeat' (first | refine ex_i64 ((st.i + 1 : Nat) : Int) (by omega) (by omega) (by omega) ?_ | refine ex_u64 ((st.i + 1 : Nat) : Int) (by omega) (by omega) (by omega) ?_ | refine ex_u8 ((st.i + 1 : Nat) : Int) (by omega) (by omega) (by omega) ?_ | refine hrow ?_ | refine tT ?_ | refine tF ?_ | refine ex_dec (fun _ => ?_) (fun _ => ?_) | refine t8 ?_ | refine tI ?_ | refine tU ?_ | refine tA ?_ | refine tB ?_ | refine tL ?_ | refine tN ?_ | fail "no step")
        refine sC (CallsM.ren ((rlayn_c (L := L) { st with i := st.i + 1 } 11 0 false [] (-1) (-1) (by omega) st.xs _ rfl)) [0, 1, 2, 5, 6] 8 rfl rfl rfl rfl) ?_
        repeat' (first | refine tT ?_ | refine tF ?_ | refine ex_dec (fun _ => ?_) (fun _ => ?_) | refine t8 ?_ | refine tI ?_ | refine tU ?_ | refine tA ?_ | refine tB ?_ | refine tL ?_ | refine tN ?_ | fail "no step")
        exact ⟨rfl, TLe.rfl, rfl, rfl⟩
      · replace hT : choiceR L m kd' ({ st with i := st.i + 1 }) = (v, st') := by
          have h := hT
          unfold wordR at h
          rw [show sizedV w_switch = none by decide +kernel] at h
          dsimp only at h
          rw [if_neg (by decide), if_neg (by decide), if_neg (by decide), if_pos rfl] at h
          exact h
        refine fn_ruleP (C := ⟨Tryz.prog, layF, Tryz.f76.ntmps, ΓL, 5, [], []⟩) layF_ok mixed Tryz.func76 rfl (by kernel_rfl) rfl rfl rfl startR2 ?_
        repeat' (first | refine tT ?_ | refine tF ?_ | refine ex_dec (fun _ => ?_) (fun _ => ?_) | refine t8 ?_ | refine tI ?_ | refine tU ?_ | refine tA ?_ | refine tB ?_ | refine tL ?_ | refine tN ?_ | fail "no step")
        refine sC (CallsM.ren (hnm) [0, 1, 2, 5, 6] 7 rfl rfl rfl rfl) ?_
        repeat' (first | refine tT ?_ | refine tF ?_ | refine ex_dec (fun _ => ?_) (fun _ => ?_) | refine t8 ?_ | refine tI ?_ | refine tU ?_ | refine tA ?_ | refine tB ?_ | refine tL ?_ | refine tN ?_ | fail "no step")
        refine sC (CallsM.ren (hty) [0, 1, 2, 5, 6] 7 rfl rfl rfl rfl) ?_
        repeat' (first | refine ex_i64 ((st.i + 1 : Nat) : Int) (by omega) (by omega) (by omega) ?_ | refine ex_u64 ((st.i + 1 : Nat) : Int) (by omega) (by omega) (by omega) ?_ | refine ex_u8 ((st.i + 1 : Nat) : Int) (by omega) (by omega) (by omega) ?_ | refine hrow ?_ | refine tT ?_ | refine tF ?_ | refine ex_dec (fun _ => ?_) (fun _ => ?_) | refine t8 ?_ | refine tI ?_ | refine tU ?_ | refine tA ?_ | refine tB ?_ | refine tL ?_ | refine tN ?_ | fail "no step")
        refine sC (CallsM.ren ((rchoice_c hL hn hm hsm hc hc2 b1 hkd hke { st with i := st.i + 1 } (hgs.le (by omega) (by omega))) _ _ hT _ _ rfl rfl) [0, 1, 2, 5, 6] 8 rfl rfl rfl rfl) ?_
        repeat' (first | refine tT ?_ | refine tF ?_ | refine ex_dec (fun _ => ?_) (fun _ => ?_) | refine t8 ?_ | refine tI ?_ | refine tU ?_ | refine tA ?_ | refine tB ?_ | refine tL ?_ | refine tN ?_ | fail "no step")
        exact ⟨rfl, TLe.rfl, rfl, rfl⟩
    · have hne : ∀ l, l ∈ typesL → ¬ bs w = bs l := fun l hl h => hmm (by rw [bsj.1 h]; exact hl)
      have hnw : ∀ l, l ∈ typesL → w ≠ l := fun l hl h => hmm (h ▸ hl)
      replace hT : arrayR L m { tyP 0 with size := ((integerV w).getD (0, false)).1, little := ((integerV w).getD (0, false)).2 } { st with i := st.i + 1 } = (v, st') := by
        have h := hT
        unfold wordR at h
        rw [show sizedV w = none by unfold sizedV; rw [if_neg (hnw _ (by decide)), if_neg (hnw _ (by decide)), if_neg (hnw _ (by decide)), if_neg (hnw _ (by decide)), if_neg (hnw _ (by decide))]] at h
        dsimp only at h
        rw [if_neg (hnw _ (by decide)), if_neg (hnw _ (by decide)), if_neg (hnw _ (by decide)), if_neg (hnw _ (by decide))] at h
        exact h
      have hcz := (rinteger_c w).gL
      obtain ⟨z, lt, hz, hz2⟩ : ∃ z lt, rintTV (integerV w) = .tup [c1 (di (z : Nat)), c1 (db lt)] ∧ (integerV w).getD (0, false) = (z, lt) := by
        rcases integerV w with _ | ⟨z, lt⟩
        · exact ⟨0, false, rfl, rfl⟩
        · exact ⟨z, lt, rfl, rfl⟩
      rw [hz] at hcz
      rw [hz2] at hT
      refine fn_ruleP (C := ⟨Tryz.prog, layF, Tryz.f76.ntmps, ΓL, 5, [], []⟩) layF_ok mixed Tryz.func76 rfl (by kernel_rfl) rfl rfl rfl startR2 ?_
      repeat' (first | refine tT ?_ | refine tF ?_ | refine ex_dec (fun _ => ?_) (fun _ => ?_) | refine t8 ?_ | refine tI ?_ | refine tU ?_ | refine tA ?_ | refine tB ?_ | refine tL ?_ | refine tN ?_ | fail "no step")
      refine sC (CallsM.ren (hnm) [0, 1, 2, 5, 6] 7 rfl rfl rfl rfl) ?_
      repeat' (first | refine tT ?_ | refine tF ?_ | refine ex_dec (fun _ => ?_) (fun _ => ?_) | refine t8 ?_ | refine tI ?_ | refine tU ?_ | refine tA ?_ | refine tB ?_ | refine tL ?_ | refine tN ?_ | fail "no step")
      refine sC (CallsM.ren (hty) [0, 1, 2, 5, 6] 7 rfl rfl rfl rfl) ?_
      repeat' (first | refine ex_call hcz ?_ | refine ex_i64 ((st.i + 1 : Nat) : Int) (by omega) (by omega) (by omega) ?_ | refine ex_u64 ((st.i + 1 : Nat) : Int) (by omega) (by omega) (by omega) ?_ | refine ex_u8 ((st.i + 1 : Nat) : Int) (by omega) (by omega) (by omega) ?_ | refine ex_false (hne _ (by decide)) ?_ | refine hrow ?_ | refine tT ?_ | refine tF ?_ | refine ex_dec (fun _ => ?_) (fun _ => ?_) | refine t8 ?_ | refine tI ?_ | refine tU ?_ | refine tA ?_ | refine tB ?_ | refine tL ?_ | refine tN ?_ | fail "no step")
      refine sC (CallsM.ren ((rarrayn_c hL hn hm 0 z lt { st with i := st.i + 1 } (hgs.le (by omega) (by omega)) v st' hT _ _ rfl rfl)) [0, 1, 2, 5, 6] 8 rfl rfl rfl rfl) ?_
      repeat' (first | refine tT ?_ | refine tF ?_ | refine ex_dec (fun _ => ?_) (fun _ => ?_) | refine t8 ?_ | refine tI ?_ | refine tU ?_ | refine tA ?_ | refine tB ?_ | refine tL ?_ | refine tN ?_ | fail "no step")
      exact ⟨rfl, TLe.rfl, rfl, rfl⟩
theorem kindR_err : ∀ m (st : RSt), st.err ≠ 0 → kindR L m st = (0, st)
  | 0, st, h => if_neg h
  | m + 1, st, h => if_neg h
theorem rkind_c (hL : TokOk L) (hn : L.length ≤ 100000) : ∀ m, m ≤ 32 → ∀ st, Gd L m 0 1000 st → W2 L 76 [] (kindR L m) (fun k => Ti k) st
  | 0, hm, st, hg => rkind_step hL hn hm (kd := pure 0) (kd' := pure 0) (c := 1) (fun _ h => by omega) (by omega) (by omega) (fun _ _ => rfl) (fun _ h => by omega) st hg
  | m + 1, hm, st, hg => rkind_step hL hn hm (kd := kindM L m) (kd' := kindR L m) (c := 12 + 9 * m) (fun m' h => by
        obtain rfl : m = m' := by omega
        exact sim_kind hL m) (by omega) (by omega) (kindR_err m) (fun m' h st hg => by
        obtain rfl : m = m' := by omega
        exact rkind_c hL hn m (by omega) st hg) st hg
end
end Go.Proofs.YtkbhmcdoedmffaaGreatDoor

namespace Go.Proofs.YtkbhmcdoedmffaaGreatDoor
open Go.RowKit

section
variable {L : List TokP} {m : Nat}
abbrev itn (w : List UInt8) (t : Int) (der : Nat) (a b : List UInt8) (x : Int) : List D := [ds (bs w), di t, di der, ds (bs a), ds (bs b), di x, di 0, db false, dnil]
def dersL : List (List UInt8) := [w_sizeof, w_countof, w_crc32, w_adler32]
theorem der_none {w : List UInt8} (h : w ∉ dersL) : derOf w = 0 := by
  have hn : ∀ l, l ∈ dersL → w ≠ l := fun l hl e => h (e ▸ hl)
  unfold derOf
  rw [if_neg (hn _ (by decide)), if_neg (hn _ (by decide)), if_neg (hn _ (by decide)), if_neg (hn _ (by decide))]
set_option maxHeartbeats 4000000 in
theorem rderived_c (hL : TokOk L) (hE : EndE L) (hn : L.length ≤ 100000) (w : List UInt8) (t : Int) (st : RSt) (he : st.err = 0) (hg : Gd L m 0 1000 st) : ∀ v st', derivedR L st = (v, st') →
    CallsM Tryz.prog ΓL 77 [(0, Rz L st 1 2 3 4)] 5 [P0, gD (itn w t 0 [] [] (-1))] (.o (gD (itn w t v.1 v.2.1 v.2.2 (-1)))) [(0, Rz L st' 1 2 3 4)] [] := fun v st' hT => by
  have kx_st : st.xs = st.xs := rfl
  have kt_st : st.ts = st.ts := rfl
  have hi := hg.i
  have hk := tk_at hi
  have hg0 := hg.fresh he 400
  unfold derivedR at hT
  have hE1 := hE st.i
  have hstep := fun h => hg0.step hL he h 400
  by_cases hd : derOf (tk L st.i).t = 0
  · replace hT := atRn hT (by rw [decide_eq_true hd]; rfl)
    obtain rfl : ((0, [], []) : Nat × List UInt8 × List UInt8) = v := congrArg Prod.fst hT
    obtain rfl : failR 4 st = st' := congrArg Prod.snd hT
    have hne : ∀ l, l ∈ dersL → ¬ bs (tk L st.i).t = bs l := fun l hl h => by
      rw [bsj.1 h] at hd
      have : ∀ l ∈ dersL, derOf l ≠ 0 := by decide +kernel
      exact this l hl hd
    clear hE1 hstep
    generalize tk L st.i = u at *
    refine fn_ruleM (C := ⟨Tryz.prog, layF, Tryz.f77.ntmps, ΓL, 5, [], []⟩) layF_ok mixed Tryz.func77 rfl (by kernel_rfl) rfl rfl rfl ?_
    repeat' (first | refine ex_false (hne _ (by decide)) ?_ | refine (ex_row st.i u rfl hk) ?_ | refine tT ?_ | refine tF ?_ | refine ex_dec (fun _ => ?_) (fun _ => ?_) | refine t8 ?_ | refine tI ?_ | refine tU ?_ | refine tA ?_ | refine tB ?_ | refine tL ?_ | refine tN ?_ | fail "no step")
    refine sC (CallsM.ren ((rfail_c (L := L) st 4 (by omega))) [0, 1, 2, 3, 4] 7 rfl rfl rfl rfl) ?_
    repeat' (first | refine tT ?_ | refine tF ?_ | refine ex_dec (fun _ => ?_) (fun _ => ?_) | refine t8 ?_ | refine tI ?_ | refine tU ?_ | refine tA ?_ | refine tB ?_ | refine tL ?_ | refine tN ?_ | fail "no step")
    exact ⟨rfl, TLe.rfl, rfl, rfl⟩
  · replace hT := atRy hT (by rw [decide_eq_false hd]; rfl)
    have hgs := hstep (fun h3 => hd (by rw [hE1 h3]; decide +kernel))
    clear hE1 hstep
    generalize tk L st.i = u at *
    obtain ⟨uk, w9, un, ul, uc⟩ := u
    have hrow : ∀ {K : List D → Prop} , K [di uk, ds (bs w9), du un, di ul, di uc] → ∃ r, 0 ≤ (st.i : Int) ∧ (L.map tokD)[(st.i : Int).toNat]? = some r ∧ K r := fun h => ex_rowE st.i _ _ rfl hk rfl h
    have hm9 : w9 ∈ dersL := by
      by_cases h : w9 ∈ dersL
      · exact h
      · exact absurd (der_none h) hd
    simp only [dersL, List.mem_cons, List.not_mem_nil, or_false] at hm9
    rcases hm9 with rfl | rfl | rfl | rfl
    · replace hT : (takeR L t_lpar >>= fun _ => nameR L >>= fun a => takeR L t_rpar >>= fun _ => pure (1, a, []) : RM (Nat × List UInt8 × List UInt8)) { st with i := st.i + 1 } = (v, st') := hT
      refine fn_ruleM (C := ⟨Tryz.prog, layF, Tryz.f77.ntmps, ΓL, 5, [], []⟩) layF_ok mixed Tryz.func77 rfl (by kernel_rfl) rfl rfl rfl ?_
      repeat' (first | refine ex_i64 ((st.i + 1 : Nat) : Int) (by omega) (by omega) (by omega) ?_ | refine ex_u64 ((st.i + 1 : Nat) : Int) (by omega) (by omega) (by omega) ?_ | refine ex_u8 ((st.i + 1 : Nat) : Int) (by omega) (by omega) (by omega) ?_ | refine hrow ?_ | refine tT ?_ | refine tF ?_ | refine ex_dec (fun _ => ?_) (fun _ => ?_) | refine t8 ?_ | refine tI ?_ | refine tU ?_ | refine tA ?_ | refine tB ?_ | refine tL ?_ | refine tN ?_ | fail "no step")
      rcases q1 : (takeR L t_lpar) ({ st with i := st.i + 1 }) with ⟨_, s1⟩
      replace hT := (rand q1).symm.trans hT
      refine sC (CallsM.ren ((rtake_c { st with i := st.i + 1 } hgs.i hn t_lpar) _ _ q1) [0, 1, 2, 3, 4] 7 rfl rfl rfl rfl) ?_
      have kx_s1 := (keep_take q1).1.trans rfl
      have kt_s1 := (keep_take q1).2.trans rfl
      have g1 := (Sim.take (m := m) hL t_lpar 1).gd hgs (by omega) q1
      repeat' (first | refine tT ?_ | refine tF ?_ | refine ex_dec (fun _ => ?_) (fun _ => ?_) | refine t8 ?_ | refine tI ?_ | refine tU ?_ | refine tA ?_ | refine tB ?_ | refine tL ?_ | refine tN ?_ | fail "no step")
      rcases q2 : (nameR L) (s1) with ⟨a, s2⟩
      replace hT := (rand q2).symm.trans hT
      refine sC (CallsM.ren ((rname_c s1 g1.i hn) _ _ q2) [0, 1, 2, 3, 4] 7 rfl rfl rfl rfl) ?_
      have kx_s2 := (keep_name q2).1.trans kx_s1
      have kt_s2 := (keep_name q2).2.trans kt_s1
      have g2 := (Sim.name (m := m) hL 2).gd g1 (by omega) q2
      repeat' (first | refine tT ?_ | refine tF ?_ | refine ex_dec (fun _ => ?_) (fun _ => ?_) | refine t8 ?_ | refine tI ?_ | refine tU ?_ | refine tA ?_ | refine tB ?_ | refine tL ?_ | refine tN ?_ | fail "no step")
      rcases q5 : (takeR L t_rpar) (s2) with ⟨_, s5⟩
      replace hT := (rand q5).symm.trans hT
      refine sC (CallsM.ren ((rtake_c s2 g2.i hn t_rpar) _ _ q5) [0, 1, 2, 3, 4] 7 rfl rfl rfl rfl) ?_
      have kx_s5 := (keep_take q5).1.trans kx_s2
      have kt_s5 := (keep_take q5).2.trans kt_s2
      obtain rfl : ((1, a, []) : Nat × List UInt8 × List UInt8) = v := congrArg Prod.fst hT
      obtain rfl : s5 = st' := congrArg Prod.snd hT
      repeat' (first | refine tT ?_ | refine tF ?_ | refine ex_dec (fun _ => ?_) (fun _ => ?_) | refine t8 ?_ | refine tI ?_ | refine tU ?_ | refine tA ?_ | refine tB ?_ | refine tL ?_ | refine tN ?_ | fail "no step")
      exact ⟨rfl, TLe.rfl, rfl, rfl⟩
    · replace hT : (takeR L t_lpar >>= fun _ => nameR L >>= fun a => takeR L t_rpar >>= fun _ => pure (2, a, []) : RM (Nat × List UInt8 × List UInt8)) { st with i := st.i + 1 } = (v, st') := hT
      refine fn_ruleM (C := ⟨Tryz.prog, layF, Tryz.f77.ntmps, ΓL, 5, [], []⟩) layF_ok mixed Tryz.func77 rfl (by kernel_rfl) rfl rfl rfl ?_
      repeat' (first | refine ex_i64 ((st.i + 1 : Nat) : Int) (by omega) (by omega) (by omega) ?_ | refine ex_u64 ((st.i + 1 : Nat) : Int) (by omega) (by omega) (by omega) ?_ | refine ex_u8 ((st.i + 1 : Nat) : Int) (by omega) (by omega) (by omega) ?_ | refine hrow ?_ | refine tT ?_ | refine tF ?_ | refine ex_dec (fun _ => ?_) (fun _ => ?_) | refine t8 ?_ | refine tI ?_ | refine tU ?_ | refine tA ?_ | refine tB ?_ | refine tL ?_ | refine tN ?_ | fail "no step")
      rcases q1 : (takeR L t_lpar) ({ st with i := st.i + 1 }) with ⟨_, s1⟩
      replace hT := (rand q1).symm.trans hT
      refine sC (CallsM.ren ((rtake_c { st with i := st.i + 1 } hgs.i hn t_lpar) _ _ q1) [0, 1, 2, 3, 4] 7 rfl rfl rfl rfl) ?_
      have kx_s1 := (keep_take q1).1.trans rfl
      have kt_s1 := (keep_take q1).2.trans rfl
      have g1 := (Sim.take (m := m) hL t_lpar 1).gd hgs (by omega) q1
      repeat' (first | refine tT ?_ | refine tF ?_ | refine ex_dec (fun _ => ?_) (fun _ => ?_) | refine t8 ?_ | refine tI ?_ | refine tU ?_ | refine tA ?_ | refine tB ?_ | refine tL ?_ | refine tN ?_ | fail "no step")
      rcases q2 : (nameR L) (s1) with ⟨a, s2⟩
      replace hT := (rand q2).symm.trans hT
      refine sC (CallsM.ren ((rname_c s1 g1.i hn) _ _ q2) [0, 1, 2, 3, 4] 7 rfl rfl rfl rfl) ?_
      have kx_s2 := (keep_name q2).1.trans kx_s1
      have kt_s2 := (keep_name q2).2.trans kt_s1
      have g2 := (Sim.name (m := m) hL 2).gd g1 (by omega) q2
      repeat' (first | refine tT ?_ | refine tF ?_ | refine ex_dec (fun _ => ?_) (fun _ => ?_) | refine t8 ?_ | refine tI ?_ | refine tU ?_ | refine tA ?_ | refine tB ?_ | refine tL ?_ | refine tN ?_ | fail "no step")
      rcases q5 : (takeR L t_rpar) (s2) with ⟨_, s5⟩
      replace hT := (rand q5).symm.trans hT
      refine sC (CallsM.ren ((rtake_c s2 g2.i hn t_rpar) _ _ q5) [0, 1, 2, 3, 4] 7 rfl rfl rfl rfl) ?_
      have kx_s5 := (keep_take q5).1.trans kx_s2
      have kt_s5 := (keep_take q5).2.trans kt_s2
      obtain rfl : ((2, a, []) : Nat × List UInt8 × List UInt8) = v := congrArg Prod.fst hT
      obtain rfl : s5 = st' := congrArg Prod.snd hT
      repeat' (first | refine tT ?_ | refine tF ?_ | refine ex_dec (fun _ => ?_) (fun _ => ?_) | refine t8 ?_ | refine tI ?_ | refine tU ?_ | refine tA ?_ | refine tB ?_ | refine tL ?_ | refine tN ?_ | fail "no step")
      exact ⟨rfl, TLe.rfl, rfl, rfl⟩
    · replace hT : (takeR L t_lpar >>= fun _ => nameR L >>= fun a => takeR L t_dots >>= fun _ => nameR L >>= fun b => takeR L t_rpar >>= fun _ => pure (3, a, b) : RM (Nat × List UInt8 × List UInt8)) { st with i := st.i + 1 } = (v, st') := hT
      refine fn_ruleM (C := ⟨Tryz.prog, layF, Tryz.f77.ntmps, ΓL, 5, [], []⟩) layF_ok mixed Tryz.func77 rfl (by kernel_rfl) rfl rfl rfl ?_
      repeat' (first | refine ex_i64 ((st.i + 1 : Nat) : Int) (by omega) (by omega) (by omega) ?_ | refine ex_u64 ((st.i + 1 : Nat) : Int) (by omega) (by omega) (by omega) ?_ | refine ex_u8 ((st.i + 1 : Nat) : Int) (by omega) (by omega) (by omega) ?_ | refine hrow ?_ | refine tT ?_ | refine tF ?_ | refine ex_dec (fun _ => ?_) (fun _ => ?_) | refine t8 ?_ | refine tI ?_ | refine tU ?_ | refine tA ?_ | refine tB ?_ | refine tL ?_ | refine tN ?_ | fail "no step")
      rcases q1 : (takeR L t_lpar) ({ st with i := st.i + 1 }) with ⟨_, s1⟩
      replace hT := (rand q1).symm.trans hT
      refine sC (CallsM.ren ((rtake_c { st with i := st.i + 1 } hgs.i hn t_lpar) _ _ q1) [0, 1, 2, 3, 4] 7 rfl rfl rfl rfl) ?_
      have kx_s1 := (keep_take q1).1.trans rfl
      have kt_s1 := (keep_take q1).2.trans rfl
      have g1 := (Sim.take (m := m) hL t_lpar 1).gd hgs (by omega) q1
      repeat' (first | refine tT ?_ | refine tF ?_ | refine ex_dec (fun _ => ?_) (fun _ => ?_) | refine t8 ?_ | refine tI ?_ | refine tU ?_ | refine tA ?_ | refine tB ?_ | refine tL ?_ | refine tN ?_ | fail "no step")
      rcases q2 : (nameR L) (s1) with ⟨a, s2⟩
      replace hT := (rand q2).symm.trans hT
      refine sC (CallsM.ren ((rname_c s1 g1.i hn) _ _ q2) [0, 1, 2, 3, 4] 7 rfl rfl rfl rfl) ?_
      have kx_s2 := (keep_name q2).1.trans kx_s1
      have kt_s2 := (keep_name q2).2.trans kt_s1
      have g2 := (Sim.name (m := m) hL 2).gd g1 (by omega) q2
      repeat' (first | refine tT ?_ | refine tF ?_ | refine ex_dec (fun _ => ?_) (fun _ => ?_) | refine t8 ?_ | refine tI ?_ | refine tU ?_ | refine tA ?_ | refine tB ?_ | refine tL ?_ | refine tN ?_ | fail "no step")
      rcases q3 : (takeR L t_dots) (s2) with ⟨_, s3⟩
      replace hT := (rand q3).symm.trans hT
      refine sC (CallsM.ren ((rtake_c s2 g2.i hn t_dots) _ _ q3) [0, 1, 2, 3, 4] 7 rfl rfl rfl rfl) ?_
      have kx_s3 := (keep_take q3).1.trans kx_s2
      have kt_s3 := (keep_take q3).2.trans kt_s2
      have g3 := (Sim.take (m := m) hL t_dots 3).gd g2 (by omega) q3
      repeat' (first | refine tT ?_ | refine tF ?_ | refine ex_dec (fun _ => ?_) (fun _ => ?_) | refine t8 ?_ | refine tI ?_ | refine tU ?_ | refine tA ?_ | refine tB ?_ | refine tL ?_ | refine tN ?_ | fail "no step")
      rcases q4 : (nameR L) (s3) with ⟨b, s4⟩
      replace hT := (rand q4).symm.trans hT
      refine sC (CallsM.ren ((rname_c s3 g3.i hn) _ _ q4) [0, 1, 2, 3, 4] 7 rfl rfl rfl rfl) ?_
      have kx_s4 := (keep_name q4).1.trans kx_s3
      have kt_s4 := (keep_name q4).2.trans kt_s3
      have g4 := (Sim.name (m := m) hL 4).gd g3 (by omega) q4
      repeat' (first | refine tT ?_ | refine tF ?_ | refine ex_dec (fun _ => ?_) (fun _ => ?_) | refine t8 ?_ | refine tI ?_ | refine tU ?_ | refine tA ?_ | refine tB ?_ | refine tL ?_ | refine tN ?_ | fail "no step")
      rcases q5 : (takeR L t_rpar) (s4) with ⟨_, s5⟩
      replace hT := (rand q5).symm.trans hT
      refine sC (CallsM.ren ((rtake_c s4 g4.i hn t_rpar) _ _ q5) [0, 1, 2, 3, 4] 7 rfl rfl rfl rfl) ?_
      have kx_s5 := (keep_take q5).1.trans kx_s4
      have kt_s5 := (keep_take q5).2.trans kt_s4
      obtain rfl : ((3, a, b) : Nat × List UInt8 × List UInt8) = v := congrArg Prod.fst hT
      obtain rfl : s5 = st' := congrArg Prod.snd hT
      repeat' (first | refine tT ?_ | refine tF ?_ | refine ex_dec (fun _ => ?_) (fun _ => ?_) | refine t8 ?_ | refine tI ?_ | refine tU ?_ | refine tA ?_ | refine tB ?_ | refine tL ?_ | refine tN ?_ | fail "no step")
      exact ⟨rfl, TLe.rfl, rfl, rfl⟩
    · replace hT : (takeR L t_lpar >>= fun _ => nameR L >>= fun a => takeR L t_dots >>= fun _ => nameR L >>= fun b => takeR L t_rpar >>= fun _ => pure (4, a, b) : RM (Nat × List UInt8 × List UInt8)) { st with i := st.i + 1 } = (v, st') := hT
      refine fn_ruleM (C := ⟨Tryz.prog, layF, Tryz.f77.ntmps, ΓL, 5, [], []⟩) layF_ok mixed Tryz.func77 rfl (by kernel_rfl) rfl rfl rfl ?_
      repeat' (first | refine ex_i64 ((st.i + 1 : Nat) : Int) (by omega) (by omega) (by omega) ?_ | refine ex_u64 ((st.i + 1 : Nat) : Int) (by omega) (by omega) (by omega) ?_ | refine ex_u8 ((st.i + 1 : Nat) : Int) (by omega) (by omega) (by omega) ?_ | refine hrow ?_ | refine tT ?_ | refine tF ?_ | refine ex_dec (fun _ => ?_) (fun _ => ?_) | refine t8 ?_ | refine tI ?_ | refine tU ?_ | refine tA ?_ | refine tB ?_ | refine tL ?_ | refine tN ?_ | fail "no step")
      rcases q1 : (takeR L t_lpar) ({ st with i := st.i + 1 }) with ⟨_, s1⟩
      replace hT := (rand q1).symm.trans hT
      refine sC (CallsM.ren ((rtake_c { st with i := st.i + 1 } hgs.i hn t_lpar) _ _ q1) [0, 1, 2, 3, 4] 7 rfl rfl rfl rfl) ?_
      have kx_s1 := (keep_take q1).1.trans rfl
      have kt_s1 := (keep_take q1).2.trans rfl
      have g1 := (Sim.take (m := m) hL t_lpar 1).gd hgs (by omega) q1
      repeat' (first | refine tT ?_ | refine tF ?_ | refine ex_dec (fun _ => ?_) (fun _ => ?_) | refine t8 ?_ | refine tI ?_ | refine tU ?_ | refine tA ?_ | refine tB ?_ | refine tL ?_ | refine tN ?_ | fail "no step")
      rcases q2 : (nameR L) (s1) with ⟨a, s2⟩
      replace hT := (rand q2).symm.trans hT
      refine sC (CallsM.ren ((rname_c s1 g1.i hn) _ _ q2) [0, 1, 2, 3, 4] 7 rfl rfl rfl rfl) ?_
      have kx_s2 := (keep_name q2).1.trans kx_s1
      have kt_s2 := (keep_name q2).2.trans kt_s1
      have g2 := (Sim.name (m := m) hL 2).gd g1 (by omega) q2
      repeat' (first | refine tT ?_ | refine tF ?_ | refine ex_dec (fun _ => ?_) (fun _ => ?_) | refine t8 ?_ | refine tI ?_ | refine tU ?_ | refine tA ?_ | refine tB ?_ | refine tL ?_ | refine tN ?_ | fail "no step")
      rcases q3 : (takeR L t_dots) (s2) with ⟨_, s3⟩
      replace hT := (rand q3).symm.trans hT
      refine sC (CallsM.ren ((rtake_c s2 g2.i hn t_dots) _ _ q3) [0, 1, 2, 3, 4] 7 rfl rfl rfl rfl) ?_
      have kx_s3 := (keep_take q3).1.trans kx_s2
      have kt_s3 := (keep_take q3).2.trans kt_s2
      have g3 := (Sim.take (m := m) hL t_dots 3).gd g2 (by omega) q3
      repeat' (first | refine tT ?_ | refine tF ?_ | refine ex_dec (fun _ => ?_) (fun _ => ?_) | refine t8 ?_ | refine tI ?_ | refine tU ?_ | refine tA ?_ | refine tB ?_ | refine tL ?_ | refine tN ?_ | fail "no step")
      rcases q4 : (nameR L) (s3) with ⟨b, s4⟩
      replace hT := (rand q4).symm.trans hT
      refine sC (CallsM.ren ((rname_c s3 g3.i hn) _ _ q4) [0, 1, 2, 3, 4] 7 rfl rfl rfl rfl) ?_
      have kx_s4 := (keep_name q4).1.trans kx_s3
      have kt_s4 := (keep_name q4).2.trans kt_s3
      have g4 := (Sim.name (m := m) hL 4).gd g3 (by omega) q4
      repeat' (first | refine tT ?_ | refine tF ?_ | refine ex_dec (fun _ => ?_) (fun _ => ?_) | refine t8 ?_ | refine tI ?_ | refine tU ?_ | refine tA ?_ | refine tB ?_ | refine tL ?_ | refine tN ?_ | fail "no step")
      rcases q5 : (takeR L t_rpar) (s4) with ⟨_, s5⟩
      replace hT := (rand q5).symm.trans hT
      refine sC (CallsM.ren ((rtake_c s4 g4.i hn t_rpar) _ _ q5) [0, 1, 2, 3, 4] 7 rfl rfl rfl rfl) ?_
      have kx_s5 := (keep_take q5).1.trans kx_s4
      have kt_s5 := (keep_take q5).2.trans kt_s4
      obtain rfl : ((4, a, b) : Nat × List UInt8 × List UInt8) = v := congrArg Prod.fst hT
      obtain rfl : s5 = st' := congrArg Prod.snd hT
      repeat' (first | refine tT ?_ | refine tF ?_ | refine ex_dec (fun _ => ?_) (fun _ => ?_) | refine t8 ?_ | refine tI ?_ | refine tU ?_ | refine tA ?_ | refine tB ?_ | refine tL ?_ | refine tN ?_ | fail "no step")
      exact ⟨rfl, TLe.rfl, rfl, rfl⟩
end
end Go.Proofs.YtkbhmcdoedmffaaGreatDoor

namespace Go.Proofs.YtkbhmcdoedmffaaGreatDoor
open Go.RowKit

section
variable {L : List TokP}
theorem itnLe {w a b : List UInt8} {t x : Int} {der : Nat} : TLe (.o (gD (itn w t der a b x))) (.o (gD (itD ⟨w, t, der, a, b, x, 0, false, []⟩))) :=
  TLe.o (T1Le.g (.cons DLe.rfl (.cons DLe.rfl (.cons DLe.rfl (.cons DLe.rfl (.cons DLe.rfl (.cons DLe.rfl (.cons DLe.rfl (.cons DLe.rfl (.cons DLe.nil .nil))))))))))
theorem keep_derived (hL : TokOk L) {st st1 : RSt} {v : Nat × List UInt8 × List UInt8} (h : derivedR L st = (v, st1)) : st1.xs = st.xs ∧ st1.ts = st.ts := by
  have kx : ∀ {α β : Type} {x : RM α} {f : α → RM β}, (∀ s, (x s).2.xs = s.xs ∧ (x s).2.ts = s.ts) → (∀ v s, (f v s).2.xs = s.xs ∧ (f v s).2.ts = s.ts) → ∀ s, ((x >>= f) s).2.xs = s.xs ∧ ((x >>= f) s).2.ts = s.ts := fun {α β x f} h1 h2 s =>
    ⟨(h2 (x s).1 (x s).2).1.trans (h1 s).1, (h2 (x s).1 (x s).2).2.trans (h1 s).2⟩
  have kt : ∀ t s, (takeR L t s).2.xs = s.xs ∧ (takeR L t s).2.ts = s.ts := fun t s => keep_take (v := (takeR L t s).1) rfl
  have kn : ∀ s, (nameR L s).2.xs = s.xs ∧ (nameR L s).2.ts = s.ts := fun s => keep_name (v := (nameR L s).1) rfl
  have key : (derivedR L st).2.xs = st.xs ∧ (derivedR L st).2.ts = st.ts := by
    unfold derivedR atR
    by_cases hp : (!decide (derOf (tk L st.i).t = 0)) = true
    · rw [if_pos hp]
      refine kx (fun s => ⟨rfl, rfl⟩) (fun _ => kx (kt _) fun _ => kx kn fun a => kx ?_ fun b => kx (kt _) fun _ s => ⟨rfl, rfl⟩) st
      split
      · exact kx (kt _) fun _ => kn
      · exact fun s => ⟨rfl, rfl⟩
    · rw [if_neg hp]; exact keep_fail
  rw [h] at key
  exact key
theorem Sim0.gd {m : Nat} {α : Type} {x : PM α} {y : RM α} {a a' c b : Nat} (h : Sim0 L m x y a a' c) {st st' : RSt} {v : α} (hg : Gd L m a b st) (he : st.err = 0) (hc : c ≤ b) (hx : y st = (v, st')) : Gd L m a' b st' := by
  have hs := hg.ok he
  have h1 := h.ok 0 _ (by rw [Nat.zero_add]; exact hs)
  have hu := h.up _ 0 (by rw [Nat.zero_add]; exact hs)
  rw [← hg.emb he] at h1
  revert h1 hu
  cases x ⟨st.i, st.xs, st.ts⟩ with
  | ok w t =>
    intro h1 hu
    dsimp only at h1 hu
    rw [hx] at h1
    cases h1
    exact gd_emb (by have := hu.1; rwa [Nat.zero_add] at this)
  | err i e =>
    intro h1 hu
    dsimp only at h1 hu
    rw [hx] at h1
    have h1 : Bad L m c i e st' := h1
    exact ⟨by rw [h1.i]; exact hu.2.1, by have := h1.x; omega, by have := h1.t; omega, by have := h1.d1; omega, h1.d2, by rw [h1.e]; exact hu.2.2.2, fun h0 => by rw [h1.e] at h0; omega, fun h0 => by rw [h1.e] at h0; omega⟩
set_option maxHeartbeats 8000000 in
theorem rfield_c (hL : TokOk L) (hE : EndE L) (hn : L.length ≤ 100000) (st : RSt) (hg : Gd L 32 0 900 st) : W2 L 56 [] (fieldR L) (fun x => .o (gD (itD x))) st := fun v st' hT X T hX hTt => by
  subst hX
  subst hTt
  have kx_st : st.xs = st.xs := rfl
  have kt_st : st.ts = st.ts := rfl
  unfold fieldR at hT
  refine fn_ruleP (C := ⟨Tryz.prog, layF, Tryz.f56.ntmps, ΓL, 5, [], [9,13]⟩) layF_ok mixed Tryz.func56 rfl (by kernel_rfl) rfl rfl rfl startR2 ?_
  repeat' (first | refine tT ?_ | refine tF ?_ | refine ex_dec (fun _ => ?_) (fun _ => ?_) | refine t8 ?_ | refine tI ?_ | refine tU ?_ | refine tA ?_ | refine tB ?_ | refine tL ?_ | refine tN ?_ | fail "no step")
  rcases q1 : (nameR L) (st) with ⟨w, s1⟩
  replace hT := (rand q1).symm.trans hT
  refine sC (CallsM.ren ((rname_c st hg.i hn) _ _ q1) [0, 1, 2, 5, 6] 8 rfl rfl rfl rfl) ?_
  have kx_s1 := (keep_name q1).1.trans kx_st
  have kt_s1 := (keep_name q1).2.trans kt_st
  have g1 := (Sim.name (m := 32) hL 0).gd hg (by omega) q1
  repeat' (first | refine tT ?_ | refine tF ?_ | refine ex_dec (fun _ => ?_) (fun _ => ?_) | refine t8 ?_ | refine tI ?_ | refine tU ?_ | refine tA ?_ | refine tB ?_ | refine tL ?_ | refine tN ?_ | fail "no step")
  rcases q2 : (takeR L t_colon) (s1) with ⟨_, s2⟩
  replace hT := (rand q2).symm.trans hT
  refine sC (CallsM.ren ((rtake_c s1 g1.i hn t_colon) _ _ q2) [0, 1, 2, 5, 6] 9 rfl rfl rfl rfl) ?_
  have kx_s2 := (keep_take q2).1.trans kx_s1
  have kt_s2 := (keep_take q2).2.trans kt_s1
  have g2 := (Sim.take (m := 32) hL t_colon 1).gd g1 (by omega) q2
  repeat' (first | refine tT ?_ | refine tF ?_ | refine ex_dec (fun _ => ?_) (fun _ => ?_) | refine t8 ?_ | refine tI ?_ | refine tU ?_ | refine tA ?_ | refine tB ?_ | refine tL ?_ | refine tN ?_ | fail "no step")
  rcases q3 : (kindR L 32) (s2) with ⟨t, s3⟩
  replace hT := (rand q3).symm.trans hT
  refine sC (CallsM.ren ((rkind_c hL hn 32 (by omega) s2 (g2.le (by omega) (by omega))) _ _ q3 _ _ kx_s2 kt_s2) [0, 1, 2, 5, 6] 9 rfl rfl rfl rfl) ?_
  have kx_s3 : s3.xs = s3.xs := rfl
  have kt_s3 : s3.ts = s3.ts := rfl
  have g3 := ((sim_kind hL 32).less (a' := 2) (b' := 2) 2 (by omega) (by omega)).gd g2 (by omega) q3
  have his := ris_c s3 g3.i t_eq
  have h10 := g3.e
  repeat' (first | refine tT ?_ | refine tF ?_ | refine ex_dec (fun _ => ?_) (fun _ => ?_) | refine t8 ?_ | refine tI ?_ | refine tU ?_ | refine tA ?_ | refine tB ?_ | refine tL ?_ | refine tN ?_ | fail "no step")
  obtain ⟨K, hK⟩ : ∃ K : Nat × List UInt8 × List UInt8 → RM IT, (fun d : Nat × List UInt8 × List UInt8 => atR (isV L · w_where) (guardR (-1) (takeR L w_where >>= fun _ => exprR L 32)) (pure (-1)) >>= fun x => takeR L t_semi >>= fun _ => pure (⟨w, t, d.1, d.2.1, d.2.2, x, 0, false, []⟩ : IT)) = K := ⟨_, rfl⟩
  replace hT : (atR (isV L · t_eq) (guardR (0, [], []) (takeR L t_eq >>= fun _ => derivedR L)) (pure (0, [], [])) >>= K) s3 = (v, st') := by rw [← hK]; exact hT
  obtain ⟨b, hv⟩ : ∃ b, isV L s3.i t_eq = b := ⟨_, rfl⟩
  rw [hv] at his
  refine sC (CallsM.ren (his) [0, 1, 2, 9, 10] 11 rfl rfl rfl rfl) ?_
  repeat' (first | refine tT ?_ | refine tF ?_ | refine ex_dec (fun _ => ?_) (fun _ => ?_) | refine t8 ?_ | refine tI ?_ | refine tU ?_ | refine tA ?_ | refine tB ?_ | refine tL ?_ | refine tN ?_ | fail "no step")
  refine ex_join (X := RSt × List EX × List TY × (Nat × List UInt8 × List UInt8)) (fun ⟨s, xl, tl, d⟩ => ⟨[(0, .o P0), (2, .o (.c (.ptr 7 0))), (4, .o (.c (.ptr 8 0)))], [(0, Rz L s 1 2 9 10), (3, .dead), (4, .dead), (7, .obj [.d (ds ⟨#[]⟩), .d (di 0), .d (di 0), .d (ds ⟨#[]⟩), .d (ds ⟨#[]⟩), .d (di 0), .d (di 0), .d (db false), .d dnil]), (8, .obj [.d (ds (bs w)), .d (di t), .d (di d.1), .d (ds (bs d.2.1)), .d (ds (bs d.2.2)), .d (di (-1)), .d (di 0), .d (db false), .d dnil]), (9, Xr xl), (10, Tr tl)], 11⟩) (fun ⟨s, xl, tl, d⟩ => Gd L 32 2 920 s ∧ s.xs = xl ∧ s.ts = tl ∧ K d s = (v, st')) ?_ ?_
  · cases b
    · replace hT := atRnB hT hv
      replace hT : K (0, [], []) s3 = (v, st') := hT
      repeat' (first | refine tT ?_ | refine tF ?_ | refine ex_dec (fun _ => ?_) (fun _ => ?_) | refine t8 ?_ | refine tI ?_ | refine tU ?_ | refine tA ?_ | refine tB ?_ | refine tL ?_ | refine tN ?_ | fail "no step")
      exact ex_meet (s3, s3.xs, s3.ts, (0, [], [])) ⟨g3.le (by omega) (by omega), rfl, rfl, hT⟩ (SLe.of ⟨⟨rfl, rfl, rfl, trivial⟩, ⟨rfl, rfl, rfl, rfl, rfl, rfl, rfl, trivial⟩⟩)
    · replace hT := atRyB hT hv
      by_cases he : s3.err = 0
      · replace hT := gdRyB hT he
        replace hT : (takeR L t_eq >>= fun _ => derivedR L >>= K) s3 = (v, st') := hT
        have g3' := g3.fresh he 400
        repeat' (first | refine tT ?_ | refine tF ?_ | refine ex_dec (fun _ => ?_) (fun _ => ?_) | refine t8 ?_ | refine tI ?_ | refine tU ?_ | refine tA ?_ | refine tB ?_ | refine tL ?_ | refine tN ?_ | fail "no step")
        rcases q4 : (takeR L t_eq) (s3) with ⟨_, s4⟩
        replace hT := (rand q4).symm.trans hT
        refine sC (CallsM.ren ((rtake_c s3 g3.i hn t_eq) _ _ q4) [0, 1, 2, 9, 10] 11 rfl rfl rfl rfl) ?_
        have kx_s4 := (keep_take q4).1.trans kx_s3
        have kt_s4 := (keep_take q4).2.trans kt_s3
        have g4 := (Sim.take (m := 32) hL t_eq 2).gd g3' (by omega) q4
        have he4 : s4.err = 0 := by
          rw [take_yes he hv] at q4
          have e4 : { s3 with i := s3.i + 1 } = s4 := congrArg Prod.snd q4
          rw [← e4]
          exact he
        rcases q5 : derivedR L s4 with ⟨d, s5⟩
        replace hT := (rand q5).symm.trans hT
        have g5 := ((sim_derived (m := 32) hL hE 2).less 0 (a' := 3) (b' := 2) (by omega) (by omega)).gd g4 he4 (by omega) q5
        have kd5 := keep_derived hL q5
        have hcd := rderived_c hL hE hn w t s4 he4 (g4.le (by omega) (by omega)) _ _ q5
        repeat' (first | refine tT ?_ | refine tF ?_ | refine ex_dec (fun _ => ?_) (fun _ => ?_) | refine t8 ?_ | refine tI ?_ | refine tU ?_ | refine tA ?_ | refine tB ?_ | refine tL ?_ | refine tN ?_ | fail "no step")
        refine sC (CallsM.ren (hcd) [0, 1, 2, 9, 10] 11 rfl rfl rfl rfl) ?_
        repeat' (first | refine tT ?_ | refine tF ?_ | refine ex_dec (fun _ => ?_) (fun _ => ?_) | refine t8 ?_ | refine tI ?_ | refine tU ?_ | refine tA ?_ | refine tB ?_ | refine tL ?_ | refine tN ?_ | fail "no step")
        exact ex_meet (s5, s3.xs, s3.ts, d) ⟨g5.le (by omega) (by omega), kd5.1.trans kx_s4, kd5.2.trans kt_s4, hT⟩ (SLe.of ⟨⟨rfl, rfl, rfl, trivial⟩, ⟨rfl, rfl, rfl, rfl, rfl, rfl, rfl, trivial⟩⟩)
      · replace hT := gdRnB hT he
        repeat' (first | refine tT ?_ | refine tF ?_ | refine ex_dec (fun _ => ?_) (fun _ => ?_) | refine t8 ?_ | refine tI ?_ | refine tU ?_ | refine tA ?_ | refine tB ?_ | refine tL ?_ | refine tN ?_ | fail "no step")
        exact ex_meet (s3, s3.xs, s3.ts, (0, [], [])) ⟨g3.le (by omega) (by omega), rfl, rfl, hT⟩ (SLe.of ⟨⟨rfl, rfl, rfl, trivial⟩, ⟨rfl, rfl, rfl, rfl, rfl, rfl, rfl, trivial⟩⟩)
  clear hT hv his g1 g2 g3 q1 q2 q3 kx_st kt_st kx_s1 kt_s1 kx_s2 kt_s2 kx_s3 kt_s3 h10 hg
  rintro ⟨s, xl, tl, d⟩ ⟨hs, kx_s, kt_s, hT⟩
  rw [← hK] at hT
  clear hK
  have h10 := hs.e
  have his := ris_c s hs.i w_where
  obtain ⟨b, hv⟩ : ∃ b, isV L s.i w_where = b := ⟨_, rfl⟩
  rw [hv] at his
  repeat' (first | refine tT ?_ | refine tF ?_ | refine ex_dec (fun _ => ?_) (fun _ => ?_) | refine t8 ?_ | refine tI ?_ | refine tU ?_ | refine tA ?_ | refine tB ?_ | refine tL ?_ | refine tN ?_ | fail "no step")
  refine sC (CallsM.ren (his) [0, 1, 2, 9, 10] 11 rfl rfl rfl rfl) ?_
  repeat' (first | refine tT ?_ | refine tF ?_ | refine ex_dec (fun _ => ?_) (fun _ => ?_) | refine t8 ?_ | refine tI ?_ | refine tU ?_ | refine tA ?_ | refine tB ?_ | refine tL ?_ | refine tN ?_ | fail "no step")
  refine ex_join (X := RSt × List EX × List TY × Int) (fun ⟨s, xl, tl, x⟩ => ⟨[(0, .o P0), (2, .o (.c (.ptr 7 0))), (4, .o (.c (.ptr 8 0)))], [(0, Rz L s 1 2 9 10), (3, .dead), (4, .dead), (7, .obj [.d (ds ⟨#[]⟩), .d (di 0), .d (di 0), .d (ds ⟨#[]⟩), .d (ds ⟨#[]⟩), .d (di 0), .d (di 0), .d (db false), .d dnil]), (8, .obj [.d (ds (bs w)), .d (di t), .d (di d.1), .d (ds (bs d.2.1)), .d (ds (bs d.2.2)), .d (di x), .d (di 0), .d (db false), .d dnil]), (9, Xr xl), (10, Tr tl)], 11⟩) (fun ⟨s, xl, tl, x⟩ => Gd L 32 2 940 s ∧ s.xs = xl ∧ s.ts = tl ∧ (takeR L t_semi >>= fun _ => pure (⟨w, t, d.1, d.2.1, d.2.2, x, 0, false, []⟩ : IT)) s = (v, st')) ?_ ?_
  · cases b
    · replace hT := atRnB hT hv
      repeat' (first | refine tT ?_ | refine tF ?_ | refine ex_dec (fun _ => ?_) (fun _ => ?_) | refine t8 ?_ | refine tI ?_ | refine tU ?_ | refine tA ?_ | refine tB ?_ | refine tL ?_ | refine tN ?_ | fail "no step")
      exact ex_meet (s, xl, tl, -1) ⟨hs.le (by omega) (by omega), kx_s, kt_s, hT⟩ (SLe.of ⟨⟨rfl, rfl, rfl, trivial⟩, ⟨rfl, rfl, rfl, rfl, rfl, rfl, rfl, trivial⟩⟩)
    · replace hT := atRyB hT hv
      by_cases he : s.err = 0
      · replace hT := gdRyB hT he
        replace hT : (takeR L w_where >>= fun _ => exprR L 32 >>= fun x => takeR L t_semi >>= fun _ => pure (⟨w, t, d.1, d.2.1, d.2.2, x, 0, false, []⟩ : IT)) s = (v, st') := hT
        have hs' := hs.fresh he 400
        repeat' (first | refine tT ?_ | refine tF ?_ | refine ex_dec (fun _ => ?_) (fun _ => ?_) | refine t8 ?_ | refine tI ?_ | refine tU ?_ | refine tA ?_ | refine tB ?_ | refine tL ?_ | refine tN ?_ | fail "no step")
        rcases q4 : (takeR L w_where) (s) with ⟨_, s4⟩
        replace hT := (rand q4).symm.trans hT
        refine sC (CallsM.ren ((rtake_c s hs.i hn w_where) _ _ q4) [0, 1, 2, 9, 10] 11 rfl rfl rfl rfl) ?_
        have kx_s4 := (keep_take q4).1.trans kx_s
        have kt_s4 := (keep_take q4).2.trans kt_s
        have g4 := (Sim.take (m := 32) hL w_where 2).gd hs' (by omega) q4
        repeat' (first | refine tT ?_ | refine tF ?_ | refine ex_dec (fun _ => ?_) (fun _ => ?_) | refine t8 ?_ | refine tI ?_ | refine tU ?_ | refine tA ?_ | refine tB ?_ | refine tL ?_ | refine tN ?_ | fail "no step")
        rcases q5 : (exprR L 32) (s4) with ⟨x, s5⟩
        replace hT := (rand q5).symm.trans hT
        refine sC (CallsM.ren ((rexpr_c hL hn (by omega) s4 (g4.le (by omega) (by omega))) _ _ q5 _ kx_s4) [0, 1, 2, 9, 10] 11 rfl rfl rfl rfl) ?_
        have kx_s5 : s5.xs = s5.xs := rfl
        have kt_s5 := ((keepT_expr 32).eq q5).trans kt_s4
        have g5 := (sim_expr hL 32 3).gd g4 (by omega) q5
        repeat' (first | refine tT ?_ | refine tF ?_ | refine ex_dec (fun _ => ?_) (fun _ => ?_) | refine t8 ?_ | refine tI ?_ | refine tU ?_ | refine tA ?_ | refine tB ?_ | refine tL ?_ | refine tN ?_ | fail "no step")
        exact ex_meet (s5, s5.xs, tl, x) ⟨g5.le (by omega) (by omega), rfl, kt_s5, hT⟩ (SLe.ren [(0, 0), (1, 1), (2, 2), (3, 3), (4, 4), (7, 7), (8, 8), (10, 10), (11, 9)] ⟨⟨rfl, rfl⟩, ⟨rfl, rfl⟩, ⟨rfl, rfl⟩, trivial⟩ ⟨⟨rfl, rfl⟩, ⟨rfl, rfl⟩, ⟨rfl, rfl⟩, ⟨rfl, rfl⟩, ⟨rfl, rfl⟩, ⟨rfl, rfl⟩, ⟨rfl, rfl⟩, trivial⟩ rfl)
      · replace hT := gdRnB hT he
        repeat' (first | refine tT ?_ | refine tF ?_ | refine ex_dec (fun _ => ?_) (fun _ => ?_) | refine t8 ?_ | refine tI ?_ | refine tU ?_ | refine tA ?_ | refine tB ?_ | refine tL ?_ | refine tN ?_ | fail "no step")
        exact ex_meet (s, xl, tl, -1) ⟨hs.le (by omega) (by omega), kx_s, kt_s, hT⟩ (SLe.of ⟨⟨rfl, rfl, rfl, trivial⟩, ⟨rfl, rfl, rfl, rfl, rfl, rfl, rfl, trivial⟩⟩)
  clear hT hv his hs kx_s kt_s h10 s xl tl
  rintro ⟨s, xl, tl, x⟩ ⟨hs, kx_s, kt_s, hT⟩
  repeat' (first | refine tT ?_ | refine tF ?_ | refine ex_dec (fun _ => ?_) (fun _ => ?_) | refine t8 ?_ | refine tI ?_ | refine tU ?_ | refine tA ?_ | refine tB ?_ | refine tL ?_ | refine tN ?_ | fail "no step")
  rcases q1 : (takeR L t_semi) (s) with ⟨_, s1⟩
  replace hT := (rand q1).symm.trans hT
  refine sC (CallsM.ren ((rtake_c s hs.i hn t_semi) _ _ q1) [0, 1, 2, 9, 10] 11 rfl rfl rfl rfl) ?_
  have kx_s1 := (keep_take q1).1.trans kx_s
  have kt_s1 := (keep_take q1).2.trans kt_s
  obtain rfl : (⟨w, t, d.1, d.2.1, d.2.2, x, 0, false, []⟩ : IT) = v := congrArg Prod.fst hT
  obtain rfl : s1 = st' := congrArg Prod.snd hT
  repeat' (first | refine tT ?_ | refine tF ?_ | refine ex_dec (fun _ => ?_) (fun _ => ?_) | refine t8 ?_ | refine tI ?_ | refine tU ?_ | refine tA ?_ | refine tB ?_ | refine tL ?_ | refine tN ?_ | fail "no step")
  subst kx_s1
  subst kt_s1
  exact ⟨rfl, itnLe, rfl, rfl⟩
end
end Go.Proofs.YtkbhmcdoedmffaaGreatDoor

namespace Go.Proofs.YtkbhmcdoedmffaaGreatDoor
open Go.RowKit

section
variable {L : List TokP} {m : Nat}
theorem name_step {s s2 : RSt} {w : List UInt8} (h : nameR L s = (w, s2)) (he : s.err = 0) (he2 : s2.err = 0) : s2.i = s.i + 1 := by
  unfold nameR guardR at h
  rw [if_pos he] at h
  dsimp only at h
  split at h
  · have := congrArg Prod.snd h
    dsimp only at this
    rw [← this]
  · have := congrArg Prod.snd h
    dsimp only at this
    rw [← this] at he2
    cases he2
def NumOk (L : List TokP) : Prop := ∀ i, (tk L i).n < 18446744073709551616
theorem number_lt (hq : NumOk L) {s s2 : RSt} {b : Nat} (h : numberR L s = (b, s2)) : b < 18446744073709551616 := by
  unfold numberR guardR at h
  split at h
  · dsimp only at h
    split at h
    · have := congrArg Prod.fst h
      dsimp only at this
      rw [← this]; exact hq _
    · have := congrArg Prod.fst h
      dsimp only at this
      omega
  · have := congrArg Prod.fst h
    dsimp only at this
    omega
theorem subsR_err {s : RSt} (h : s.err ≠ 0) (n : Nat) (l : List SB) : subsR L n l s = (l, s) := by
  cases n with
  | zero => rfl
  | succ n => exact if_neg h
theorem subs_next {K : List SB → RM IT} {l : List SB} {n : Nat} {s : RSt} {T : IT × RSt} (hT : (atR (namedV L ·) (subsR L n l) (pure l) >>= K) s = T) :
    (namedV L s.i = true ∧ s.err = 0 ∧ (subsR L n l >>= K) s = T) ∨ (¬ (namedV L s.i = true ∧ s.err = 0) ∧ K l s = T) := by
  rcases hv : namedV L s.i with _ | _
  · exact .inr ⟨fun h => (by cases h.1), atRnB hT hv⟩
  · have h1 := atRyB hT hv
    by_cases he : s.err = 0
    · exact .inl ⟨rfl, he, h1⟩
    · exact .inr ⟨fun h => he h.2, (rand (subsR_err he n l)).symm.trans h1⟩
theorem itPLe {z : Nat} {lt : Bool} {l : List SB} : TLe (.o (gD [ds ⟨#[]⟩, di (-1), di 0, ds ⟨#[]⟩, ds ⟨#[]⟩, di (-1), di z, db lt, .sl 2 (l.map sbD)])) (.o (gD (itD ⟨[], -1, 0, [], [], -1, z, lt, l⟩))) := TLe.rfl
set_option maxHeartbeats 8000000 in
theorem rpack_c (hL : TokOk L) (hn : L.length ≤ 100000) (hq : NumOk L) (st : RSt) (hg : Gd L m 0 900 st) (hp : isV L st.i w_pack = true) : W0 L 55 [] (packR L) (fun x => .o (gD (itD x))) st := fun v st' hT => by
  have kx_st : st.xs = st.xs := rfl
  have kt_st : st.ts = st.ts := rfl
  unfold packR at hT
  have h10 := hg.e
  refine fn_ruleM (C := ⟨Tryz.prog, layF, Tryz.f55.ntmps, ΓL, 5, [], []⟩) layF_ok mixed Tryz.func55 rfl (by kernel_rfl) rfl rfl rfl ?_
  repeat' (first | refine tT ?_ | refine tF ?_ | refine ex_dec (fun _ => ?_) (fun _ => ?_) | refine t8 ?_ | refine tI ?_ | refine tU ?_ | refine tA ?_ | refine tB ?_ | refine tL ?_ | refine tN ?_ | fail "no step")
  rcases q1 : (takeR L w_pack) (st) with ⟨_, s1⟩
  replace hT := (rand q1).symm.trans hT
  refine sC (CallsM.ren ((rtake_c st hg.i hn w_pack) _ _ q1) [0, 1, 2, 3, 4] 6 rfl rfl rfl rfl) ?_
  have kx_s1 := (keep_take q1).1.trans kx_st
  have kt_s1 := (keep_take q1).2.trans kt_st
  have g1 := (Sim.take (m := m) hL w_pack 0).gd hg (by omega) q1
  have h11 := g1.e
  have hk := tk_at g1.i
  have hsi1 := g1.i
  replace hT : (match (if (tk L s1.i).k = 0 then integerV (tk L s1.i).t else none) with
    | none => ((⟨[], -1, 0, [], [], -1, 0, false, []⟩ : IT), failR 4 s1)
    | some (z, lt) => (stepR >>= fun _ => takeR L t_lcur >>= fun _ => (fun s => subsR L (L.length - s.i + 1) [] s) >>= fun l => takeR L t_rcur >>= fun _ => pure (⟨[], -1, 0, [], [], -1, z, lt, l⟩ : IT)) s1) = (v, st') := hT
  by_cases hint : (if (tk L s1.i).k = 0 then integerV (tk L s1.i).t else none) = none
  · rw [hint] at hT
    dsimp only at hT
    obtain rfl := congrArg Prod.fst hT
    obtain rfl := congrArg Prod.snd hT
    have hcz := (rinteger_c (tk L s1.i).t).gL
    by_cases hk0 : (tk L s1.i).k = 0
    · rw [if_pos hk0] at hint
      rw [hint] at hcz
      have hcz : CallsA Tryz.prog ΓL 13 [c1 (ds (bs (tk L s1.i).t))] (.tup [c1 (di 0), c1 (db false)]) := hcz
      generalize tk L s1.i = u at *
      repeat' (first | refine ex_call hcz ?_ | refine (ex_row s1.i u rfl hk) ?_ | refine tT ?_ | refine tF ?_ | refine ex_dec (fun _ => ?_) (fun _ => ?_) | refine t8 ?_ | refine tI ?_ | refine tU ?_ | refine tA ?_ | refine tB ?_ | refine tL ?_ | refine tN ?_ | fail "no step")
      refine sC (CallsM.ren ((rfail_c (L := L) s1 4 (by omega))) [0, 1, 2, 3, 4] 7 rfl rfl rfl rfl) ?_
      repeat' (first | refine tT ?_ | refine tF ?_ | refine ex_dec (fun _ => ?_) (fun _ => ?_) | refine t8 ?_ | refine tI ?_ | refine tU ?_ | refine tA ?_ | refine tB ?_ | refine tL ?_ | refine tN ?_ | fail "no step")
      exact ⟨rfl, itnLe (w := []) (a := []) (b := []), rfl, rfl⟩
    · obtain ⟨z, lt, hz⟩ : ∃ z lt, rintTV (integerV (tk L s1.i).t) = .tup [c1 (di (z : Nat)), c1 (db lt)] := by
        rcases integerV (tk L s1.i).t with _ | ⟨z, lt⟩
        · exact ⟨0, false, rfl⟩
        · exact ⟨z, lt, rfl⟩
      rw [hz] at hcz
      clear hint hz
      generalize tk L s1.i = u at *
      repeat' (first | refine ex_call hcz ?_ | refine (ex_row s1.i u rfl hk) ?_ | refine tT ?_ | refine tF ?_ | refine ex_dec (fun _ => ?_) (fun _ => ?_) | refine t8 ?_ | refine tI ?_ | refine tU ?_ | refine tA ?_ | refine tB ?_ | refine tL ?_ | refine tN ?_ | fail "no step")
      all_goals
        refine sC (CallsM.ren ((rfail_c (L := L) s1 4 (by omega))) [0, 1, 2, 3, 4] 7 rfl rfl rfl rfl) ?_
        repeat' (first | refine tT ?_ | refine tF ?_ | refine ex_dec (fun _ => ?_) (fun _ => ?_) | refine t8 ?_ | refine tI ?_ | refine tU ?_ | refine tA ?_ | refine tB ?_ | refine tL ?_ | refine tN ?_ | fail "no step")
        exact ⟨rfl, itnLe (w := []) (a := []) (b := []), rfl, rfl⟩
  · obtain ⟨⟨z, lt⟩, hint⟩ := Option.ne_none_iff_exists'.1 hint
    rw [hint] at hT
    dsimp only at hT
    have hk0 : (tk L s1.i).k = 0 := by
      by_cases h : (tk L s1.i).k = 0
      · exact h
      · rw [if_neg h] at hint; cases hint
    rw [if_pos hk0] at hint
    have he1 : s1.err = 0 := by
      by_cases h : st.err = 0
      · rw [take_yes h hp] at q1
        have e4 : { st with i := st.i + 1 } = s1 := congrArg Prod.snd q1
        rw [← e4]; exact h
      · rw [take_err h] at q1
        have e4 : st = s1 := congrArg Prod.snd q1
        subst e4
        have : (tk L st.i).t = w_pack := by
          unfold isV at hp
          rw [Bool.and_eq_true] at hp
          exact of_decide_eq_true hp.2
        rw [this, pack_none] at hint
        cases hint
    have hcz := (rinteger_c (tk L s1.i).t).gL
    rw [hint] at hcz
    have hcz : CallsA Tryz.prog ΓL 13 [c1 (ds (bs (tk L s1.i).t))] (.tup [c1 (di z), c1 (db lt)]) := hcz
    have hz := int_pos hint
    have g1s := (g1.fresh he1 400).step hL he1 (by omega) 400
    clear hint
    generalize tk L s1.i = u at *
    replace hT : (takeR L t_lcur >>= fun _ => (fun s => subsR L (L.length - s.i + 1) [] s) >>= fun l => takeR L t_rcur >>= fun _ => pure (⟨[], -1, 0, [], [], -1, z, lt, l⟩ : IT)) { s1 with i := s1.i + 1 } = (v, st') := hT
    repeat' (first | refine ex_call hcz ?_ | refine ex_i64 ((s1.i + 1 : Nat) : Int) (by omega) (by omega) (by omega) ?_ | refine ex_u64 ((s1.i + 1 : Nat) : Int) (by omega) (by omega) (by omega) ?_ | refine ex_u8 ((s1.i + 1 : Nat) : Int) (by omega) (by omega) (by omega) ?_ | refine (ex_row s1.i u rfl hk) ?_ | refine tT ?_ | refine tF ?_ | refine ex_dec (fun _ => ?_) (fun _ => ?_) | refine t8 ?_ | refine tI ?_ | refine tU ?_ | refine tA ?_ | refine tB ?_ | refine tL ?_ | refine tN ?_ | fail "no step")
    rcases q6 : (takeR L t_lcur) ({ s1 with i := s1.i + 1 }) with ⟨_, s6⟩
    replace hT := (rand q6).symm.trans hT
    refine sC (CallsM.ren ((rtake_c { s1 with i := s1.i + 1 } g1s.i hn t_lcur) _ _ q6) [0, 1, 2, 3, 4] 7 rfl rfl rfl rfl) ?_
    have kx_s6 := (keep_take q6).1.trans rfl
    have kt_s6 := (keep_take q6).2.trans rfl
    have g6 := (Sim.take (m := m) hL t_lcur 2).gd g1s (by omega) q6
    obtain ⟨K, hK⟩ : ∃ K : List SB → RM IT, (fun l : List SB => takeR L t_rcur >>= fun _ => pure (⟨[], -1, 0, [], [], -1, z, lt, l⟩ : IT)) = K := ⟨_, rfl⟩
    replace hT : (subsR L (L.length - s6.i + 1) [] >>= K) s6 = (v, st') := by rw [← hK]; exact hT
    have hi6 := g6.i
    repeat' (first | refine tT ?_ | refine tF ?_ | refine ex_dec (fun _ => ?_) (fun _ => ?_) | refine t8 ?_ | refine tI ?_ | refine tU ?_ | refine tA ?_ | refine tB ?_ | refine tL ?_ | refine tN ?_ | fail "no step")
    refine ex_loop (X := RSt × Bool × List SB × Nat) (fun ⟨s, more, l, _⟩ => ⟨[(0, .o P0), (2, .o (.c (.ptr 5 0))), (3, .o (.c (.ptr 6 0))), (6, Tb more)], [(0, Rz L s 1 2 3 4), (5, .obj [.d (ds ⟨#[]⟩), .d (di 0), .d (di 0), .d (ds ⟨#[]⟩), .d (ds ⟨#[]⟩), .d (di 0), .d (di 0), .d (db false), .d dnil]), (6, .obj [.d (ds ⟨#[]⟩), .d (di (-1)), .d (di 0), .d (ds ⟨#[]⟩), .d (ds ⟨#[]⟩), .d (di (-1)), .d (di z), .d (db lt), .row 7]), (7, .row 2 158 (l.map sbD))], 8⟩) (fun y => if y.2.1 = true ∧ y.1.err = 0 then y.2.2.2 else 0)
      (fun ⟨s, more, l, n⟩ => Gd L m 3 910 s ∧ s.xs = st.xs ∧ s.ts = st.ts ∧ (more = true → s.err = 0 → l.length ≤ s.i) ∧ l.length ≤ L.length + 1 ∧ (s.err = 0 → L.length < s.i + n) ∧ ((more = true ∧ s.err = 0 ∧ (subsR L n l >>= K) s = (v, st')) ∨ (¬ (more = true ∧ s.err = 0) ∧ K l s = (v, st')))) (s6, true, [], L.length - s6.i + 1) ⟨g6.le (by omega) (by omega), kx_s6.trans kx_s1, kt_s6.trans kt_s1, fun _ _ => Nat.zero_le _, Nat.zero_le _, fun _ => by omega, ?_⟩ ?_ ?_
    · by_cases he : s6.err = 0
      · exact .inl ⟨rfl, he, hT⟩
      · exact .inr ⟨fun h => he h.2, (rand (subsR_err he _ _)).symm.trans hT⟩
    · exact SLe.thru (SLe.ownCell 6 8 7 2 158 rfl rfl rfl rfl rfl rfl) (SLe.of ⟨⟨rfl, rfl, rfl, rfl, trivial⟩, ⟨rfl, rfl, rfl, rfl, trivial⟩⟩)
    clear hT q1 q6 g1 g1s g6 hsi1 kx_s6 kt_s6 hi6 hcz hk hk0 h11
    rintro ⟨s, more, l, n⟩ ⟨hs, kx_s, kt_s, hl1, hl2, hf, hC⟩
    have hsi := hs.i
    have h10 := hs.e
    rcases hC with ⟨rfl, hse, hT⟩ | ⟨hno, hT⟩
    · have hl1 := hl1 rfl hse
      have hf := hf hse
      cases n with
      | zero => omega
      | succ n =>
        rw [subsR] at hT
        replace hT := gdRyB hT hse
        have hs0 := hs.fresh hse 400
        replace hT : ((fun s => if namedV L s.i = true then roomR l.length s else ((), s)) >>= fun _ => nameR L >>= fun w => takeR L t_colon >>= fun _ => numberR L >>= fun b => takeR L t_semi >>= fun _ => atR (namedV L ·) (subsR L n (l ++ [⟨w, min b 1048576⟩])) (pure (l ++ [⟨w, min b 1048576⟩])) >>= K) s = (v, st') := hT
        have hnm := rnamed_c s hsi
        rcases hb : namedV L s.i with _ | _ <;> rw [hb] at hnm
        · replace hT := (rand (roomIf_no hb)).symm.trans hT
          repeat' (first | refine tT ?_ | refine tF ?_ | refine ex_dec (fun _ => ?_) (fun _ => ?_) | refine t8 ?_ | refine tI ?_ | refine tU ?_ | refine tA ?_ | refine tB ?_ | refine tL ?_ | refine tN ?_ | fail "no step")
          refine sC (CallsM.ren (hnm) [0, 1, 2, 3, 4] 8 rfl rfl rfl rfl) ?_
          repeat' (first | refine tT ?_ | refine tF ?_ | refine ex_dec (fun _ => ?_) (fun _ => ?_) | refine t8 ?_ | refine tI ?_ | refine tU ?_ | refine tA ?_ | refine tB ?_ | refine tL ?_ | refine tN ?_ | fail "no step")
          rcases q2 : (nameR L) (s) with ⟨w, s2⟩
          replace hT := (rand q2).symm.trans hT
          refine sC (CallsM.ren ((rname_c s hs0.i hn) _ _ q2) [0, 1, 2, 3, 4] 8 rfl rfl rfl rfl) ?_
          have kx_s2 := (keep_name q2).1.trans kx_s
          have kt_s2 := (keep_name q2).2.trans kt_s
          have g2 := (Sim.name (m := m) hL 3).gd hs0 (by omega) q2
          repeat' (first | refine tT ?_ | refine tF ?_ | refine ex_dec (fun _ => ?_) (fun _ => ?_) | refine t8 ?_ | refine tI ?_ | refine tU ?_ | refine tA ?_ | refine tB ?_ | refine tL ?_ | refine tN ?_ | fail "no step")
          rcases q3 : (takeR L t_colon) (s2) with ⟨_, s3⟩
          replace hT := (rand q3).symm.trans hT
          refine sC (CallsM.ren ((rtake_c s2 g2.i hn t_colon) _ _ q3) [0, 1, 2, 3, 4] 8 rfl rfl rfl rfl) ?_
          have kx_s3 := (keep_take q3).1.trans kx_s2
          have kt_s3 := (keep_take q3).2.trans kt_s2
          have g3 := (Sim.take (m := m) hL t_colon 4).gd g2 (by omega) q3
          repeat' (first | refine tT ?_ | refine tF ?_ | refine ex_dec (fun _ => ?_) (fun _ => ?_) | refine t8 ?_ | refine tI ?_ | refine tU ?_ | refine tA ?_ | refine tB ?_ | refine tL ?_ | refine tN ?_ | fail "no step")
          rcases q4 : (numberR L) (s3) with ⟨b, s4⟩
          replace hT := (rand q4).symm.trans hT
          refine sC (CallsM.ren ((rnum_c s3 g3.i hn) _ _ q4) [0, 1, 2, 3, 4] 8 rfl rfl rfl rfl) ?_
          have kx_s4 := (keep_num q4).1.trans kx_s3
          have kt_s4 := (keep_num q4).2.trans kt_s3
          have g4 := (Sim.number (m := m) hL 5).gd g3 (by omega) q4
          repeat' (first | refine tT ?_ | refine tF ?_ | refine ex_dec (fun _ => ?_) (fun _ => ?_) | refine t8 ?_ | refine tI ?_ | refine tU ?_ | refine tA ?_ | refine tB ?_ | refine tL ?_ | refine tN ?_ | fail "no step")
          rcases q5 : (takeR L t_semi) (s4) with ⟨_, s5⟩
          replace hT := (rand q5).symm.trans hT
          refine sC (CallsM.ren ((rtake_c s4 g4.i hn t_semi) _ _ q5) [0, 1, 2, 3, 4] 8 rfl rfl rfl rfl) ?_
          have kx_s5 := (keep_take q5).1.trans kx_s4
          have kt_s5 := (keep_take q5).2.trans kt_s4
          have g5 := (Sim.take (m := m) hL t_semi 6).gd g4 (by omega) q5
          have hgrow : s5.err = 0 → s.i + 1 ≤ s5.i := fun h5 => by
            have a5 := (Sim.take (m := m) hL t_semi 6).grow g4 q5 h5
            have a4 := (Sim.number (m := m) hL 5).grow g3 q4 a5.1
            have a3 := (Sim.take (m := m) hL t_colon 4).grow g2 q3 a4.1
            have a2 := (Sim.name (m := m) hL 3).grow hs0 q2 a3.1
            have a1 := name_step q2 a2.1 a3.1
            skip
            omega
          have hnx := rnamed_c s5 g5.i
          obtain ⟨b9, hb9⟩ : ∃ b9, min b 1048576 = b9 := ⟨_, rfl⟩
          have hnum := number_lt hq q4
          have hlc : (l ++ [(⟨w, b9⟩ : SB)]).length = l.length + 1 := by simp
          have hnext := subs_next (K := K) (l := l ++ [(⟨w, b9⟩ : SB)]) (n := n) (s := s5) (T := (v, st')) (by rw [← hb9]; exact hT)
          by_cases hbb : 1048576 < b
          · obtain rfl : 1048576 = b9 := by rw [← hb9]; omega
            repeat' (first | refine ex_i64 ((1048576 : Nat) : Int) (by omega) (by omega) (by omega) ?_ | refine ex_u64 ((1048576 : Nat) : Int) (by omega) (by omega) (by omega) ?_ | refine ex_u8 ((1048576 : Nat) : Int) (by omega) (by omega) (by omega) ?_ | refine tT ?_ | refine tF ?_ | refine ex_dec (fun _ => ?_) (fun _ => ?_) | refine t8 ?_ | refine tI ?_ | refine tU ?_ | refine tA ?_ | refine tB ?_ | refine tL ?_ | refine tN ?_ | fail "no step")
            refine ex_app (l.length) (1) 1000 (by first | rfl | (simp; done) | (simp; omega)) (by first | rfl | (simp; done) | (simp; omega)) rfl (by omega) ?_
            refine ex_is (List.map sbD (l ++ [⟨w, 1048576⟩])) (by rw [List.map_append]; rfl) ?_
            repeat' (first | refine tT ?_ | refine tF ?_ | refine ex_dec (fun _ => ?_) (fun _ => ?_) | refine t8 ?_ | refine tI ?_ | refine tU ?_ | refine tA ?_ | refine tB ?_ | refine tL ?_ | refine tN ?_ | fail "no step")
            refine sC (CallsM.ren (hnx) [0, 1, 2, 3, 4] 10 rfl rfl rfl rfl) ?_
            repeat' (first | refine tT ?_ | refine tF ?_ | refine ex_dec (fun _ => ?_) (fun _ => ?_) | refine t8 ?_ | refine tI ?_ | refine tU ?_ | refine tA ?_ | refine tB ?_ | refine tL ?_ | refine tN ?_ | fail "no step")
            exact ex_round (s5, namedV L s5.i, l ++ [⟨w, 1048576⟩], n) ⟨g5.le (by omega) (by omega), kx_s5, kt_s5, fun _ h => by rw [hlc]; have := hgrow h; omega, by rw [hlc]; omega, fun h => by have := hgrow h; omega, hnext⟩ (by show (if namedV L s5.i = true ∧ s5.err = 0 then n else 0) < (if true = true ∧ s.err = 0 then n + 1 else 0); rw [if_pos (show true = true ∧ s.err = 0 from ⟨rfl, hse⟩)]; split <;> omega) (SLe.ren [(0, 0), (1, 1), (2, 2), (3, 3), (4, 4), (5, 5), (6, 6), (9, 7)] ⟨⟨rfl, rfl⟩, ⟨rfl, rfl⟩, ⟨rfl, rfl⟩, ⟨rfl, rfl⟩, trivial⟩ ⟨⟨rfl, rfl⟩, ⟨rfl, rfl⟩, ⟨rfl, rfl⟩, ⟨rfl, rfl⟩, trivial⟩ rfl)
          · obtain rfl : b = b9 := by rw [← hb9]; omega
            repeat' (first | refine ex_i64 ((b : Nat) : Int) (by omega) (by omega) (by omega) ?_ | refine ex_u64 ((b : Nat) : Int) (by omega) (by omega) (by omega) ?_ | refine ex_u8 ((b : Nat) : Int) (by omega) (by omega) (by omega) ?_ | refine tT ?_ | refine tF ?_ | refine ex_dec (fun _ => ?_) (fun _ => ?_) | refine t8 ?_ | refine tI ?_ | refine tU ?_ | refine tA ?_ | refine tB ?_ | refine tL ?_ | refine tN ?_ | fail "no step")
            refine ex_app (l.length) (1) 1000 (by first | rfl | (simp; done) | (simp; omega)) (by first | rfl | (simp; done) | (simp; omega)) rfl (by omega) ?_
            refine ex_is (List.map sbD (l ++ [⟨w, b⟩])) (by rw [List.map_append]; rfl) ?_
            repeat' (first | refine tT ?_ | refine tF ?_ | refine ex_dec (fun _ => ?_) (fun _ => ?_) | refine t8 ?_ | refine tI ?_ | refine tU ?_ | refine tA ?_ | refine tB ?_ | refine tL ?_ | refine tN ?_ | fail "no step")
            refine sC (CallsM.ren (hnx) [0, 1, 2, 3, 4] 10 rfl rfl rfl rfl) ?_
            repeat' (first | refine tT ?_ | refine tF ?_ | refine ex_dec (fun _ => ?_) (fun _ => ?_) | refine t8 ?_ | refine tI ?_ | refine tU ?_ | refine tA ?_ | refine tB ?_ | refine tL ?_ | refine tN ?_ | fail "no step")
            exact ex_round (s5, namedV L s5.i, l ++ [⟨w, b⟩], n) ⟨g5.le (by omega) (by omega), kx_s5, kt_s5, fun _ h => by rw [hlc]; have := hgrow h; omega, by rw [hlc]; omega, fun h => by have := hgrow h; omega, hnext⟩ (by show (if namedV L s5.i = true ∧ s5.err = 0 then n else 0) < (if true = true ∧ s.err = 0 then n + 1 else 0); rw [if_pos (show true = true ∧ s.err = 0 from ⟨rfl, hse⟩)]; split <;> omega) (SLe.ren [(0, 0), (1, 1), (2, 2), (3, 3), (4, 4), (5, 5), (6, 6), (9, 7)] ⟨⟨rfl, rfl⟩, ⟨rfl, rfl⟩, ⟨rfl, rfl⟩, ⟨rfl, rfl⟩, trivial⟩ ⟨⟨rfl, rfl⟩, ⟨rfl, rfl⟩, ⟨rfl, rfl⟩, ⟨rfl, rfl⟩, trivial⟩ rfl)
        · rcases hr : roomR l.length s with ⟨u1, s1⟩
          replace hT := (rand (roomIf_yes hb hr)).symm.trans hT
          have kr := keep_room hr
          have g9 := ((Sim.room (L := L) (m := m) l.length 3).gd hs0 (by omega) hr)
          have kx_s1 := kr.1.trans kx_s
          have kt_s1 := kr.2.trans kt_s
          have hri := room_i hr
          repeat' (first | refine tT ?_ | refine tF ?_ | refine ex_dec (fun _ => ?_) (fun _ => ?_) | refine t8 ?_ | refine tI ?_ | refine tU ?_ | refine tA ?_ | refine tB ?_ | refine tL ?_ | refine tN ?_ | fail "no step")
          refine sC (CallsM.ren (hnm) [0, 1, 2, 3, 4] 8 rfl rfl rfl rfl) ?_
          repeat' (first | refine ex_is l.length (by simp) ?_ | refine tT ?_ | refine tF ?_ | refine ex_dec (fun _ => ?_) (fun _ => ?_) | refine t8 ?_ | refine tI ?_ | refine tU ?_ | refine tA ?_ | refine tB ?_ | refine tL ?_ | refine tN ?_ | fail "no step")
          refine sC (CallsM.ren (((rroom_c s l.length (by omega)) _ _ hr)) [0, 1, 2, 3, 4] 8 rfl rfl rfl rfl) ?_
          repeat' (first | refine tT ?_ | refine tF ?_ | refine ex_dec (fun _ => ?_) (fun _ => ?_) | refine t8 ?_ | refine tI ?_ | refine tU ?_ | refine tA ?_ | refine tB ?_ | refine tL ?_ | refine tN ?_ | fail "no step")
          rcases q2 : (nameR L) (s1) with ⟨w, s2⟩
          replace hT := (rand q2).symm.trans hT
          refine sC (CallsM.ren ((rname_c s1 g9.i hn) _ _ q2) [0, 1, 2, 3, 4] 8 rfl rfl rfl rfl) ?_
          have kx_s2 := (keep_name q2).1.trans kx_s1
          have kt_s2 := (keep_name q2).2.trans kt_s1
          have g2 := (Sim.name (m := m) hL 3).gd g9 (by omega) q2
          repeat' (first | refine tT ?_ | refine tF ?_ | refine ex_dec (fun _ => ?_) (fun _ => ?_) | refine t8 ?_ | refine tI ?_ | refine tU ?_ | refine tA ?_ | refine tB ?_ | refine tL ?_ | refine tN ?_ | fail "no step")
          rcases q3 : (takeR L t_colon) (s2) with ⟨_, s3⟩
          replace hT := (rand q3).symm.trans hT
          refine sC (CallsM.ren ((rtake_c s2 g2.i hn t_colon) _ _ q3) [0, 1, 2, 3, 4] 8 rfl rfl rfl rfl) ?_
          have kx_s3 := (keep_take q3).1.trans kx_s2
          have kt_s3 := (keep_take q3).2.trans kt_s2
          have g3 := (Sim.take (m := m) hL t_colon 4).gd g2 (by omega) q3
          repeat' (first | refine tT ?_ | refine tF ?_ | refine ex_dec (fun _ => ?_) (fun _ => ?_) | refine t8 ?_ | refine tI ?_ | refine tU ?_ | refine tA ?_ | refine tB ?_ | refine tL ?_ | refine tN ?_ | fail "no step")
          rcases q4 : (numberR L) (s3) with ⟨b, s4⟩
          replace hT := (rand q4).symm.trans hT
          refine sC (CallsM.ren ((rnum_c s3 g3.i hn) _ _ q4) [0, 1, 2, 3, 4] 8 rfl rfl rfl rfl) ?_
          have kx_s4 := (keep_num q4).1.trans kx_s3
          have kt_s4 := (keep_num q4).2.trans kt_s3
          have g4 := (Sim.number (m := m) hL 5).gd g3 (by omega) q4
          repeat' (first | refine tT ?_ | refine tF ?_ | refine ex_dec (fun _ => ?_) (fun _ => ?_) | refine t8 ?_ | refine tI ?_ | refine tU ?_ | refine tA ?_ | refine tB ?_ | refine tL ?_ | refine tN ?_ | fail "no step")
          rcases q5 : (takeR L t_semi) (s4) with ⟨_, s5⟩
          replace hT := (rand q5).symm.trans hT
          refine sC (CallsM.ren ((rtake_c s4 g4.i hn t_semi) _ _ q5) [0, 1, 2, 3, 4] 8 rfl rfl rfl rfl) ?_
          have kx_s5 := (keep_take q5).1.trans kx_s4
          have kt_s5 := (keep_take q5).2.trans kt_s4
          have g5 := (Sim.take (m := m) hL t_semi 6).gd g4 (by omega) q5
          have hgrow : s5.err = 0 → s.i + 1 ≤ s5.i := fun h5 => by
            have a5 := (Sim.take (m := m) hL t_semi 6).grow g4 q5 h5
            have a4 := (Sim.number (m := m) hL 5).grow g3 q4 a5.1
            have a3 := (Sim.take (m := m) hL t_colon 4).grow g2 q3 a4.1
            have a2 := (Sim.name (m := m) hL 3).grow g9 q2 a3.1
            have a1 := name_step q2 a2.1 a3.1
            have := hri
            omega
          have hnx := rnamed_c s5 g5.i
          obtain ⟨b9, hb9⟩ : ∃ b9, min b 1048576 = b9 := ⟨_, rfl⟩
          have hnum := number_lt hq q4
          have hlc : (l ++ [(⟨w, b9⟩ : SB)]).length = l.length + 1 := by simp
          have hnext := subs_next (K := K) (l := l ++ [(⟨w, b9⟩ : SB)]) (n := n) (s := s5) (T := (v, st')) (by rw [← hb9]; exact hT)
          by_cases hbb : 1048576 < b
          · obtain rfl : 1048576 = b9 := by rw [← hb9]; omega
            repeat' (first | refine ex_i64 ((1048576 : Nat) : Int) (by omega) (by omega) (by omega) ?_ | refine ex_u64 ((1048576 : Nat) : Int) (by omega) (by omega) (by omega) ?_ | refine ex_u8 ((1048576 : Nat) : Int) (by omega) (by omega) (by omega) ?_ | refine tT ?_ | refine tF ?_ | refine ex_dec (fun _ => ?_) (fun _ => ?_) | refine t8 ?_ | refine tI ?_ | refine tU ?_ | refine tA ?_ | refine tB ?_ | refine tL ?_ | refine tN ?_ | fail "no step")
            refine ex_app (l.length) (1) 1000 (by first | rfl | (simp; done) | (simp; omega)) (by first | rfl | (simp; done) | (simp; omega)) rfl (by omega) ?_
            refine ex_is (List.map sbD (l ++ [⟨w, 1048576⟩])) (by rw [List.map_append]; rfl) ?_
            repeat' (first | refine tT ?_ | refine tF ?_ | refine ex_dec (fun _ => ?_) (fun _ => ?_) | refine t8 ?_ | refine tI ?_ | refine tU ?_ | refine tA ?_ | refine tB ?_ | refine tL ?_ | refine tN ?_ | fail "no step")
            refine sC (CallsM.ren (hnx) [0, 1, 2, 3, 4] 10 rfl rfl rfl rfl) ?_
            repeat' (first | refine tT ?_ | refine tF ?_ | refine ex_dec (fun _ => ?_) (fun _ => ?_) | refine t8 ?_ | refine tI ?_ | refine tU ?_ | refine tA ?_ | refine tB ?_ | refine tL ?_ | refine tN ?_ | fail "no step")
            exact ex_round (s5, namedV L s5.i, l ++ [⟨w, 1048576⟩], n) ⟨g5.le (by omega) (by omega), kx_s5, kt_s5, fun _ h => by rw [hlc]; have := hgrow h; omega, by rw [hlc]; omega, fun h => by have := hgrow h; omega, hnext⟩ (by show (if namedV L s5.i = true ∧ s5.err = 0 then n else 0) < (if true = true ∧ s.err = 0 then n + 1 else 0); rw [if_pos (show true = true ∧ s.err = 0 from ⟨rfl, hse⟩)]; split <;> omega) (SLe.ren [(0, 0), (1, 1), (2, 2), (3, 3), (4, 4), (5, 5), (6, 6), (9, 7)] ⟨⟨rfl, rfl⟩, ⟨rfl, rfl⟩, ⟨rfl, rfl⟩, ⟨rfl, rfl⟩, trivial⟩ ⟨⟨rfl, rfl⟩, ⟨rfl, rfl⟩, ⟨rfl, rfl⟩, ⟨rfl, rfl⟩, trivial⟩ rfl)
          · obtain rfl : b = b9 := by rw [← hb9]; omega
            repeat' (first | refine ex_i64 ((b : Nat) : Int) (by omega) (by omega) (by omega) ?_ | refine ex_u64 ((b : Nat) : Int) (by omega) (by omega) (by omega) ?_ | refine ex_u8 ((b : Nat) : Int) (by omega) (by omega) (by omega) ?_ | refine tT ?_ | refine tF ?_ | refine ex_dec (fun _ => ?_) (fun _ => ?_) | refine t8 ?_ | refine tI ?_ | refine tU ?_ | refine tA ?_ | refine tB ?_ | refine tL ?_ | refine tN ?_ | fail "no step")
            refine ex_app (l.length) (1) 1000 (by first | rfl | (simp; done) | (simp; omega)) (by first | rfl | (simp; done) | (simp; omega)) rfl (by omega) ?_
            refine ex_is (List.map sbD (l ++ [⟨w, b⟩])) (by rw [List.map_append]; rfl) ?_
            repeat' (first | refine tT ?_ | refine tF ?_ | refine ex_dec (fun _ => ?_) (fun _ => ?_) | refine t8 ?_ | refine tI ?_ | refine tU ?_ | refine tA ?_ | refine tB ?_ | refine tL ?_ | refine tN ?_ | fail "no step")
            refine sC (CallsM.ren (hnx) [0, 1, 2, 3, 4] 10 rfl rfl rfl rfl) ?_
            repeat' (first | refine tT ?_ | refine tF ?_ | refine ex_dec (fun _ => ?_) (fun _ => ?_) | refine t8 ?_ | refine tI ?_ | refine tU ?_ | refine tA ?_ | refine tB ?_ | refine tL ?_ | refine tN ?_ | fail "no step")
            exact ex_round (s5, namedV L s5.i, l ++ [⟨w, b⟩], n) ⟨g5.le (by omega) (by omega), kx_s5, kt_s5, fun _ h => by rw [hlc]; have := hgrow h; omega, by rw [hlc]; omega, fun h => by have := hgrow h; omega, hnext⟩ (by show (if namedV L s5.i = true ∧ s5.err = 0 then n else 0) < (if true = true ∧ s.err = 0 then n + 1 else 0); rw [if_pos (show true = true ∧ s.err = 0 from ⟨rfl, hse⟩)]; split <;> omega) (SLe.ren [(0, 0), (1, 1), (2, 2), (3, 3), (4, 4), (5, 5), (6, 6), (9, 7)] ⟨⟨rfl, rfl⟩, ⟨rfl, rfl⟩, ⟨rfl, rfl⟩, ⟨rfl, rfl⟩, trivial⟩ ⟨⟨rfl, rfl⟩, ⟨rfl, rfl⟩, ⟨rfl, rfl⟩, ⟨rfl, rfl⟩, trivial⟩ rfl)
    · rw [← hK] at hT
      rcases q4 : takeR L t_rcur s with ⟨u4, s4⟩
      replace hT := (rand q4).symm.trans hT
      obtain rfl : (⟨[], -1, 0, [], [], -1, z, lt, l⟩ : IT) = v := congrArg Prod.fst hT
      obtain rfl : s4 = st' := congrArg Prod.snd hT
      have hcon := (rtake_c s hsi hn t_rcur) _ _ q4
      cases more
      · repeat' (first | refine tT ?_ | refine tF ?_ | refine ex_dec (fun _ => ?_) (fun _ => ?_) | refine t8 ?_ | refine tI ?_ | refine tU ?_ | refine tA ?_ | refine tB ?_ | refine tL ?_ | refine tN ?_ | fail "no step")
        refine sC (CallsM.ren (hcon) [0, 1, 2, 3, 4] 8 rfl rfl rfl rfl) ?_
        repeat' (first | refine tT ?_ | refine tF ?_ | refine ex_dec (fun _ => ?_) (fun _ => ?_) | refine t8 ?_ | refine tI ?_ | refine tU ?_ | refine tA ?_ | refine tB ?_ | refine tL ?_ | refine tN ?_ | fail "no step")
        exact ⟨rfl, itPLe, rfl, rfl⟩
      · have hse : s.err ≠ 0 := fun h => hno ⟨rfl, h⟩
        repeat' (first | refine tT ?_ | refine tF ?_ | refine ex_dec (fun _ => ?_) (fun _ => ?_) | refine t8 ?_ | refine tI ?_ | refine tU ?_ | refine tA ?_ | refine tB ?_ | refine tL ?_ | refine tN ?_ | fail "no step")
        refine sC (CallsM.ren (hcon) [0, 1, 2, 3, 4] 8 rfl rfl rfl rfl) ?_
        repeat' (first | refine tT ?_ | refine tF ?_ | refine ex_dec (fun _ => ?_) (fun _ => ?_) | refine t8 ?_ | refine tI ?_ | refine tU ?_ | refine tA ?_ | refine tB ?_ | refine tL ?_ | refine tN ?_ | fail "no step")
        exact ⟨rfl, itPLe, rfl, rfl⟩
end
end Go.Proofs.YtkbhmcdoedmffaaGreatDoor

namespace Go.Proofs.YtkbhmcdoedmffaaGreatDoor

def Mo {α : Type} (x : PM α) : Prop := ∀ s v s', x s = .ok v s' → s.i ≤ s'.i
def Mo1 {α : Type} (x : PM α) : Prop := ∀ s v s', x s = .ok v s' → s.i < s'.i
theorem mo_inv {α β : Type} {x : PM α} {f : α → PM β} {s s' : PS} {v : β} (h : (x >>= f) s = .ok v s') : ∃ u s1, x s = .ok u s1 ∧ f u s1 = .ok v s' := by
  have hb : PM.and x f s = .ok v s' := h
  unfold PM.and at hb
  rcases hxs : x s with ⟨u, s1⟩ | ⟨i, e⟩
  · rw [hxs] at hb; exact ⟨u, s1, rfl, hb⟩
  · rw [hxs] at hb; cases hb
theorem Mo.and {α β : Type} {x : PM α} {f : α → PM β} (hx : Mo x) (hf : ∀ v, Mo (f v)) : Mo (x >>= f) := fun s v s' h => by
  obtain ⟨u, s1, h1, h2⟩ := mo_inv h
  exact Nat.le_trans (hx _ _ _ h1) (hf u _ _ _ h2)
theorem Mo1.and {α β : Type} {x : PM α} {f : α → PM β} (hx : Mo1 x) (hf : ∀ v, Mo (f v)) : Mo1 (x >>= f) := fun s v s' h => by
  obtain ⟨u, s1, h1, h2⟩ := mo_inv h
  exact Nat.lt_of_lt_of_le (hx _ _ _ h1) (hf u _ _ _ h2)
theorem Mo1.mo {α : Type} {x : PM α} (h : Mo1 x) : Mo x := fun s v s' hx => Nat.le_of_lt (h s v s' hx)
theorem Mo.at {α : Type} {p : Nat → Bool} {x y : PM α} (hx : Mo x) (hy : Mo y) : Mo (atM p x y) := fun s v s' h => by
  unfold atM at h
  split at h
  · exact hx _ _ _ h
  · exact hy _ _ _ h
theorem Mo.pure {α : Type} (v : α) : Mo (pure v) := fun s u s' h => by cases h; exact Nat.le_refl _
theorem Mo.put (x : EX) : Mo (putM x) := fun s u s' h => by cases h; exact Nat.le_refl _
theorem Mo.lay (x : TY) : Mo (layM x) := fun s u s' h => by cases h; exact Nat.le_refl _
theorem Mo.fail {α : Type} (e : Nat) : Mo (failM e : PM α) := fun s u s' h => by cases h
theorem Mo1.step : Mo1 stepM := fun s u s' h => by cases h; exact Nat.lt_succ_self _
theorem Mo.room (n : Nat) : Mo (roomM n) := fun s u s' h => by unfold roomM at h; split at h <;> cases h; exact Nat.le_refl _
theorem Mo.roomIf (p : Nat → Bool) (n : Nat) : Mo (fun s => if p s.i = true then roomM n s else .ok () s) := fun s u s' h => by
  dsimp only at h
  split at h
  · exact Mo.room n _ _ _ h
  · cases h; exact Nat.le_refl _
theorem Mo.enter (m : Nat) (p : Nat → Bool) : Mo (fun s => enterM m (p s.i) s) := fun s u s' h => by
  dsimp only at h; unfold enterM at h
  split at h
  · cases h
  · split at h <;> cases h; exact Nat.le_refl _
section
variable {L : List TokP}
theorem Mo1.take (t : List UInt8) : Mo1 (takeM L t) := fun s v s' h => by unfold takeM at h; split at h <;> cases h; exact Nat.lt_succ_self _
theorem Mo1.name : Mo1 (nameM L) := fun s v s' h => by unfold nameM at h; split at h <;> cases h; exact Nat.lt_succ_self _
theorem Mo1.num : Mo1 (numberM L) := fun s v s' h => by unfold numberM at h; split at h <;> cases h; exact Nat.lt_succ_self _
theorem mo_un (m : Nat) {un ex : PM Int} (h1 : Mo un) (h2 : Mo ex) : Mo (unF L m un ex) :=
  Mo.at (Mo1.step.mo.and fun _ => (Mo.enter _ _).and fun _ => h1.and fun _ => Mo.put _) (Mo.at (Mo1.step.mo.and fun _ => (Mo.enter _ _).and fun _ => h2.and fun _ => (Mo1.take _).mo.and fun _ => Mo.pure _) (Mo.at (Mo1.name.mo.and fun _ => Mo.put _) (Mo1.num.mo.and fun _ => Mo.put _)))
theorem mo_line (lv : Nat) {x : PM Int} (hx : Mo x) : ∀ n left, Mo (lineN L lv x n left)
  | 0, left => Mo.pure _
  | n + 1, left => fun s v s' h => by
    rw [lineN] at h
    change (if opAt L lv s.i = true then _ else _) = _ at h
    split at h
    · exact (Mo1.step.mo.and fun _ => hx.and fun r => (Mo.put ⟨3, (tk L s.i).t, 0, [], [left, r]⟩).and fun k => mo_line lv hx n k) _ _ _ h
    · cases h; exact Nat.le_refl _
theorem mo_lineJ {un : PM Int} (hx : Mo un) : ∀ j, Mo (lineJ L un j)
  | 0 => hx
  | j + 1 => (mo_lineJ hx j).and fun left => fun s v s' h => mo_line _ (mo_lineJ hx j) _ _ s v s' h
theorem mo_unM : ∀ m, Mo (unM L m)
  | 0 => mo_un 0 (Mo.fail _) (Mo.fail _)
  | m + 1 => mo_un _ (mo_unM m) (mo_lineJ (mo_unM m) 8)
theorem mo_expr (m : Nat) : Mo (exprM L m) := mo_lineJ (mo_unM m) 8
theorem mo_bracket (m : Nat) : Mo (bracketM L m) := (Mo1.take _).mo.and fun _ => (mo_expr m).and fun _ => (Mo1.take _).mo.and fun _ => Mo.pure _
theorem mo_array (m : Nat) (t : TY) : Mo (arrayM L m t) := (Mo.lay t).and fun k => Mo.at ((mo_bracket m).and fun x => Mo.lay _) (Mo.pure _)
theorem mo_args (m : Nat) : ∀ n l, Mo (argsN L m n l)
  | 0, l => Mo.pure _
  | n + 1, l => Mo.at (Mo1.step.mo.and fun _ => (Mo.roomIf (beginsV L ·) _).and fun _ => (mo_expr m).and fun x => mo_args m n _) (Mo.pure _)
theorem mo_ref (m : Nat) : Mo (refM L m) := Mo1.name.mo.and fun w => Mo.at (Mo1.step.mo.and fun _ => (mo_expr m).and fun x => (show Mo (fun s => argsN L m (L.length - s.i + 1) [x] s) from fun s v s' h => mo_args m _ _ s v s' h).and fun l => (Mo1.take _).mo.and fun _ => Mo.pure _) (Mo.pure _)
theorem mo_inner (m : Nat) {kd : PM Int} (h : Mo kd) : Mo (innerM L m kd) := (Mo.enter m (startsV L ·)).and fun _ => h
theorem mo_cases (m : Nat) {kd : PM Int} (h : Mo kd) : ∀ n l, Mo (casesN L m kd n l)
  | 0, l => Mo.pure _
  | n + 1, l => Mo.at ((Mo.room _).and fun _ => Mo1.step.mo.and fun _ => Mo1.num.mo.and fun c => (Mo1.take _).mo.and fun _ => (mo_inner m h).and fun k => (Mo1.take _).mo.and fun _ => mo_cases m h n _) (Mo.pure _)
theorem mo_choice (m : Nat) {kd : PM Int} (h : Mo kd) : Mo (choiceM L m kd) := by
  unfold choiceM
  exact (Mo1.take _).mo.and fun _ => (mo_expr m).and fun x => (Mo1.take _).mo.and fun _ => (Mo1.take _).mo.and fun _ => (show Mo (fun s => casesN L m kd (L.length - s.i + 1) [] s) from fun s v s' hx => mo_cases m h _ _ s v s' hx).and fun cs =>
    (Mo.at (Mo1.step.mo.and fun _ => (Mo1.take _).mo.and fun _ => (mo_inner m h).and fun k => (Mo1.take _).mo.and fun _ => Mo.pure _) (Mo.pure _)).and fun k => (Mo1.take _).mo.and fun _ => Mo.lay _
theorem mo_word (m : Nat) {kd : PM Int} (h : Mo kd) (w : List UInt8) : Mo (wordM L m kd w) := by
  unfold wordM
  split
  · refine (mo_bracket m).and fun x => ?_
    split
    · exact (mo_inner m h).and fun i => Mo.lay _
    · exact (Mo.pure _).and fun i => Mo.lay _
  · repeat' split
    · exact (mo_inner m h).and fun i => Mo.lay _
    · exact Mo.lay _
    · exact Mo.lay _
    · exact mo_choice m h
    · exact mo_array m _
theorem mo_kindF (m : Nat) {kd : PM Int} (h : Mo kd) : Mo (kindF L m kd) := Mo.at ((mo_ref m).and fun t => mo_array m t) (Mo.at (fun s v s' hx => (Mo1.step.mo.and fun _ => mo_word m h (tk L s.i).t) s v s' hx) (Mo.fail _))
theorem mo_kind : ∀ m, Mo (kindM L m)
  | 0 => mo_kindF 0 (Mo.fail _)
  | m + 1 => mo_kindF _ (mo_kind m)
theorem mo_derived : Mo (derivedM L) := by
  refine Mo.at (fun s v s' hx => (Mo1.step.mo.and fun _ => (Mo1.take t_lpar).mo.and fun _ => Mo1.name.mo.and fun a => Mo.and ?_ fun b => (Mo1.take t_rpar).mo.and fun _ => Mo.pure (derOf (tk L s.i).t, a, b)) s v s' hx) (Mo.fail _)
  split
  · exact (Mo1.take _).mo.and fun _ => Mo1.name.mo
  · exact Mo.pure _
theorem mo_field : Mo1 (fieldM L) := Mo1.name.and fun w => (Mo1.take _).mo.and fun _ => (mo_kind 32).and fun t => (Mo.at (Mo1.step.mo.and fun _ => mo_derived) (Mo.pure _)).and fun d => (Mo.at (Mo1.step.mo.and fun _ => mo_expr 32) (Mo.pure _)).and fun x => (Mo1.take _).mo.and fun _ => Mo.pure _
theorem mo_subs : ∀ n l, Mo (subsN L n l)
  | 0, l => Mo.pure _
  | n + 1, l => by
    rw [subsN]
    exact (Mo.roomIf (namedV L ·) _).and fun _ => Mo1.name.mo.and fun w => (Mo1.take _).mo.and fun _ => Mo1.num.mo.and fun b => (Mo1.take _).mo.and fun _ => Mo.at (mo_subs n _) (Mo.pure _)
theorem mo_pack : Mo1 (packM L) := (Mo1.take _).and fun _ => fun s v s' h => by
  split at h
  · cases h
  · exact (Mo1.step.mo.and fun _ => (Mo1.take _).mo.and fun _ => (show Mo (fun s => subsN L (L.length - s.i + 1) [] s) from fun s v s' hx => mo_subs _ _ s v s' hx).and fun l => (Mo1.take _).mo.and fun _ => Mo.pure _) _ _ _ h
theorem mo_pars : ∀ n l, Mo (parsN L n l)
  | 0, l => Mo.pure _
  | n + 1, l => Mo.at (Mo1.step.mo.and fun _ => (Mo.roomIf (namedV L ·) _).and fun _ => Mo1.name.mo.and fun x => mo_pars n _) (Mo.pure _)
theorem mo_items : ∀ n l, Mo (itemsN L n l)
  | 0, l => Mo.pure _
  | n + 1, l => Mo.at ((Mo.room _).and fun _ => (Mo.at mo_pack.mo mo_field.mo).and fun x => mo_items n _) (Mo.pure _)
theorem mo_record : Mo1 (recordM L) := (Mo1.take _).and fun _ => Mo1.name.mo.and fun w =>
  (Mo.at (Mo1.step.mo.and fun _ => Mo1.name.mo.and fun x => (show Mo (fun s => parsN L (L.length - s.i + 1) [x] s) from fun s v s' h => mo_pars _ _ s v s' h).and fun l => (Mo1.take _).mo.and fun _ => Mo.pure _) (Mo.pure _)).and fun ps =>
  (Mo1.take _).mo.and fun _ => (show Mo (fun s => itemsN L (L.length - s.i + 1) [] s) from fun s v s' h => mo_items _ _ s v s' h).and fun is => (Mo1.take _).mo.and fun _ => Mo.pure _
theorem mo_const : Mo1 (constM L) := (Mo1.take _).and fun _ => Mo1.name.mo.and fun w => (Mo1.take _).mo.and fun _ => Mo1.num.mo.and fun n => (Mo1.take _).mo.and fun _ => Mo.pure _
end
end Go.Proofs.YtkbhmcdoedmffaaGreatDoor

namespace Go.Proofs.YtkbhmcdoedmffaaGreatDoor
open Go.RowKit

section
variable {L : List TokP}
theorem Sim.grow1 {m : Nat} {α : Type} {x : PM α} {y : RM α} {a a' c d b : Nat} (h : Sim L m x y a a' c d) (hm : Mo1 x) {st st' : RSt} {v : α} (hg : Gd L m a b st) (hx : y st = (v, st')) (he : st'.err = 0) : st.i + 1 ≤ st'.i := by
  by_cases h0 : st.err = 0
  · have hs := hg.ok h0
    have h1 := h.ok 0 _ (by rw [Nat.zero_add]; exact hs)
    rw [← hg.emb h0] at h1
    cases hxs : x ⟨st.i, st.xs, st.ts⟩ with
    | ok w t =>
      rw [hxs] at h1
      dsimp only at h1
      rw [hx] at h1
      cases h1
      exact hm _ _ _ hxs
    | err i e =>
      have hu := h.up _ 0 (by rw [Nat.zero_add]; exact hs)
      rw [hxs] at h1 hu
      dsimp only at h1 hu
      rw [hx] at h1
      have h1 : Bad L m c i e st' := h1
      rw [h1.e] at he
      omega
  · have h1 := h.bad st h0
    rw [hx] at h1
    have h1 : Stay d st st' := h1
    exact absurd (h1.e.symm.trans he) h0
theorem parsR_err {s : RSt} (h : s.err ≠ 0) (n : Nat) (l : List (List UInt8)) : parsR L n l s = (l, s) := by
  cases n with
  | zero => rfl
  | succ n => exact if_neg h
theorem keep_pack {st st1 : RSt} {v : IT} (h : packR L st = (v, st1)) : st1.xs = st.xs ∧ st1.ts = st.ts := by
  have kx : ∀ {α β : Type} {x : RM α} {f : α → RM β}, (∀ s, (x s).2.xs = s.xs ∧ (x s).2.ts = s.ts) → (∀ v s, (f v s).2.xs = s.xs ∧ (f v s).2.ts = s.ts) → ∀ s, ((x >>= f) s).2.xs = s.xs ∧ ((x >>= f) s).2.ts = s.ts := fun {α β x f} h1 h2 s =>
    ⟨(h2 (x s).1 (x s).2).1.trans (h1 s).1, (h2 (x s).1 (x s).2).2.trans (h1 s).2⟩
  have kt : ∀ t s, (takeR L t s).2.xs = s.xs ∧ (takeR L t s).2.ts = s.ts := fun t s => keep_take (v := (takeR L t s).1) rfl
  have kn : ∀ s, (nameR L s).2.xs = s.xs ∧ (nameR L s).2.ts = s.ts := fun s => keep_name (v := (nameR L s).1) rfl
  have kb : ∀ s, (numberR L s).2.xs = s.xs ∧ (numberR L s).2.ts = s.ts := fun s => keep_num (v := (numberR L s).1) rfl
  have kr : ∀ n s, (roomR n s).2.xs = s.xs ∧ (roomR n s).2.ts = s.ts := fun n s => keep_room (v := (roomR n s).1) rfl
  have ks : ∀ n l s, (subsR L n l s).2.xs = s.xs ∧ (subsR L n l s).2.ts = s.ts := by
    intro n
    induction n with
    | zero => exact fun l s => ⟨rfl, rfl⟩
    | succ n ih =>
      intro l s
      rw [subsR]
      unfold guardR
      split
      · refine kx (fun s => ?_) (fun _ => kx kn fun w => kx (kt _) fun _ => kx kb fun b => kx (kt _) fun _ s => ?_) s
        · show (if namedV L s.i = true then roomR l.length s else ((), s)).2.xs = s.xs ∧ (if namedV L s.i = true then roomR l.length s else ((), s)).2.ts = s.ts
          split
          · exact kr _ s
          · exact ⟨rfl, rfl⟩
        · unfold atR
          split
          · exact ih _ s
          · exact ⟨rfl, rfl⟩
      · exact ⟨rfl, rfl⟩
  have key : (packR L st).2.xs = st.xs ∧ (packR L st).2.ts = st.ts := by
    unfold packR
    refine kx (kt _) (fun _ s => ?_) st
    generalize (if (tk L s.i).k = 0 then integerV (tk L s.i).t else none) = q
    rcases q with _ | ⟨z, lt⟩
    · exact keep_fail
    · exact kx (fun s => ⟨rfl, rfl⟩) (fun _ => kx (kt _) fun _ => kx (fun s => ks _ _ s) fun l => kx (kt _) fun _ s => ⟨rfl, rfl⟩) s
  rw [h] at key
  exact key
theorem mo_packAt : Mo1 (atM (isV L · w_pack) (packM L) (fieldM L)) := fun s v s' h => by
  unfold atM at h
  split at h
  · exact mo_pack _ _ _ h
  · exact mo_field _ _ _ h
theorem itemsR_err {s : RSt} (h : s.err ≠ 0) (n : Nat) (l : List IT) : itemsR L n l s = (l, s) := by
  cases n with
  | zero => rfl
  | succ n => exact if_neg h
theorem pars_out {K : List (List UInt8) → RM RC} {s2 : RSt} {n : Nat} {l : List (List UInt8)} {T : RC × RSt} (hcv : isV L s2.i t_comma = false) (hF : s2.err = 0 → L.length < s2.i + n) (hi : s2.i < L.length) (hT : (parsR L n l >>= K) s2 = T) : K l s2 = T := by
  by_cases he : s2.err = 0
  · have := hF he
    cases n with
    | zero => omega
    | succ n =>
      rw [parsR] at hT
      have h1 := gdRyB hT he
      have h2 := atRnB h1 hcv
      exact h2
  · exact (rand (parsR_err he n l)).symm.trans hT
theorem pars_in {K : List (List UInt8) → RM RC} {s2 s3 : RSt} {n : Nat} {l : List (List UInt8)} {T : RC × RSt} {u : Unit} (hcv : isV L s2.i t_comma = true) (hi : s2.i < L.length) (hF : s2.err = 0 → L.length < s2.i + n) (hT : (parsR L n l >>= K) s2 = T) (ht : takeR L t_comma s2 = (u, s3)) :
    (true = true ∧ s3.err = 0 ∧ (∀ s' : RSt, s3.i ≤ s'.i → s'.err = 0 → L.length < s'.i + (n - 1)) ∧ ((fun s => if namedV L s.i = true then roomR l.length s else ((), s)) >>= fun _ => nameR L >>= fun x => (fun s => parsR L (n - 1) (l ++ [x]) s : RM (List (List UInt8))) >>= K) s3 = T) ∨ (¬ (true = true ∧ s3.err = 0) ∧ K l s3 = T) := by
  by_cases he : s2.err = 0
  · have := hF he
    cases n with
    | zero => omega
    | succ n =>
      rw [parsR] at hT
      have h1 := gdRyB hT he
      have h2 := atRyB h1 hcv
      rw [take_yes he hcv] at ht
      obtain rfl := congrArg Prod.snd ht
      refine .inl ⟨rfl, he, fun s' h1 h2 => by have h1 : s2.i + 1 ≤ s'.i := h1; show _ < _ + n; omega, ?_⟩
      have h3 : RM.and _ _ s2 = T := h2
      unfold RM.and at h3
      rw [rand (take_yes he hcv)] at h3
      exact h3
  · rw [take_err he] at ht
    obtain rfl : s2 = s3 := congrArg Prod.snd ht
    exact .inr ⟨fun h => he h.2, (rand (parsR_err he n l)).symm.trans hT⟩
set_option maxHeartbeats 8000000 in
theorem rrecord_c (hL : TokOk L) (hE : EndE L) (hn : L.length ≤ 100000) (hq : NumOk L) (st : RSt) (hg : Gd L 32 0 900 st) : W2 L 31 [] (recordR L) (fun x => .o (gD (rcD x))) st := fun v st' hT X T hX hTt => by
  subst hX
  subst hTt
  have kx_st : st.xs = st.xs := rfl
  have kt_st : st.ts = st.ts := rfl
  unfold recordR at hT
  refine fn_ruleP (C := ⟨Tryz.prog, layF, Tryz.f31.ntmps, ΓL, 5, [], [17]⟩) layF_ok mixed Tryz.func31 rfl (by kernel_rfl) rfl rfl rfl startR2 ?_
  repeat' (first | refine tT ?_ | refine tF ?_ | refine ex_dec (fun _ => ?_) (fun _ => ?_) | refine t8 ?_ | refine tI ?_ | refine tU ?_ | refine tA ?_ | refine tB ?_ | refine tL ?_ | refine tN ?_ | fail "no step")
  rcases q1 : (takeR L w_struct) (st) with ⟨_, s1⟩
  replace hT := (rand q1).symm.trans hT
  refine sC (CallsM.ren ((rtake_c st hg.i hn w_struct) _ _ q1) [0, 1, 2, 5, 6] 8 rfl rfl rfl rfl) ?_
  have kx_s1 := (keep_take q1).1.trans kx_st
  have kt_s1 := (keep_take q1).2.trans kt_st
  have g1 := (Sim.take (m := 32) hL w_struct 0).gd hg (by omega) q1
  repeat' (first | refine tT ?_ | refine tF ?_ | refine ex_dec (fun _ => ?_) (fun _ => ?_) | refine t8 ?_ | refine tI ?_ | refine tU ?_ | refine tA ?_ | refine tB ?_ | refine tL ?_ | refine tN ?_ | fail "no step")
  rcases q2 : (nameR L) (s1) with ⟨w, s2⟩
  replace hT := (rand q2).symm.trans hT
  refine sC (CallsM.ren ((rname_c s1 g1.i hn) _ _ q2) [0, 1, 2, 5, 6] 8 rfl rfl rfl rfl) ?_
  have kx_s2 := (keep_name q2).1.trans kx_s1
  have kt_s2 := (keep_name q2).2.trans kt_s1
  have g2 := (Sim.name (m := 32) hL 1).gd g1 (by omega) q2
  have his := ris_c s2 g2.i t_lpar
  obtain ⟨b, hv⟩ : ∃ b, isV L s2.i t_lpar = b := ⟨_, rfl⟩
  rw [hv] at his
  have h10 := g2.e
  repeat' (first | refine tT ?_ | refine tF ?_ | refine ex_dec (fun _ => ?_) (fun _ => ?_) | refine t8 ?_ | refine tI ?_ | refine tU ?_ | refine tA ?_ | refine tB ?_ | refine tL ?_ | refine tN ?_ | fail "no step")
  refine sC (CallsM.ren (his) [0, 1, 2, 5, 6] 9 rfl rfl rfl rfl) ?_
  repeat' (first | refine tT ?_ | refine tF ?_ | refine ex_dec (fun _ => ?_) (fun _ => ?_) | refine t8 ?_ | refine tI ?_ | refine tU ?_ | refine tA ?_ | refine tB ?_ | refine tL ?_ | refine tN ?_ | fail "no step")
  obtain ⟨K, hK⟩ : ∃ K : List (List UInt8) → RM RC, (fun ps : List (List UInt8) => takeR L t_lcur >>= fun _ => (fun s => itemsR L (L.length - s.i + 1) [] s) >>= fun is => takeR L t_rcur >>= fun _ => pure (⟨w, ps, is⟩ : RC)) = K := ⟨_, rfl⟩
  replace hT : (atR (isV L · t_lpar) (guardR [] (takeR L t_lpar >>= fun _ => nameR L >>= fun x => (fun s => parsR L (L.length - s.i + 1) [x] s) >>= fun l => takeR L t_rpar >>= fun _ => pure l)) (pure []) >>= K) s2 = (v, st') := by rw [← hK]; exact hT
  refine ex_join (X := RSt × List (List UInt8)) (fun ⟨s, l⟩ => ⟨[(0, .o P0), (2, .o (.c (.ptr 7 0))), (4, .o (.c (.ptr 8 0)))], [(0, Rz L s 1 2 5 6), (3, .dead), (4, .dead), (7, .obj [.d (ds ⟨#[]⟩), .d dnil, .d dnil]), (8, .obj [.d (ds (bs w)), .row 9, .d dnil]), (9, .row 1 9 (l.map fun p => [ds (bs p)])), (5, Xr st.xs), (6, Tr st.ts)], 10⟩) (fun ⟨s, l⟩ => Gd L 32 2 930 s ∧ s.xs = st.xs ∧ s.ts = st.ts ∧ K l s = (v, st')) ?_ ?_
  · cases b
    · replace hT := atRnB hT hv
      replace hT : K [] s2 = (v, st') := hT
      repeat' (first | refine tT ?_ | refine tF ?_ | refine ex_dec (fun _ => ?_) (fun _ => ?_) | refine t8 ?_ | refine tI ?_ | refine tU ?_ | refine tA ?_ | refine tB ?_ | refine tL ?_ | refine tN ?_ | fail "no step")
      exact ex_meet (s2, []) ⟨g2.le (by omega) (by omega), kx_s2, kt_s2, hT⟩ (SLe.thru (SLe.ownCell 8 1 9 1 9 rfl rfl rfl rfl rfl rfl) (SLe.of ⟨⟨rfl, rfl, rfl, trivial⟩, ⟨rfl, rfl, rfl, rfl, rfl, rfl, rfl, rfl, trivial⟩⟩))
    · replace hT := atRyB hT hv
      by_cases he : s2.err = 0
      · replace hT := gdRyB hT he
        replace hT : (takeR L t_lpar >>= fun _ => nameR L >>= fun x => (fun s => parsR L (L.length - s.i + 1) [x] s : RM (List (List UInt8))) >>= fun l => takeR L t_rpar >>= fun _ => K l) s2 = (v, st') := hT
        repeat' (first | refine tT ?_ | refine tF ?_ | refine ex_dec (fun _ => ?_) (fun _ => ?_) | refine t8 ?_ | refine tI ?_ | refine tU ?_ | refine tA ?_ | refine tB ?_ | refine tL ?_ | refine tN ?_ | fail "no step")
        rcases q3 : (takeR L t_lpar) (s2) with ⟨_, s3⟩
        replace hT := (rand q3).symm.trans hT
        refine sC (CallsM.ren ((rtake_c s2 g2.i hn t_lpar) _ _ q3) [0, 1, 2, 5, 6] 9 rfl rfl rfl rfl) ?_
        have kx_s3 := (keep_take q3).1.trans kx_s2
        have kt_s3 := (keep_take q3).2.trans kt_s2
        have g3 := (Sim.take (m := 32) hL t_lpar 2).gd g2 (by omega) q3
        have he3 : s3.err = 0 := by
          rw [take_yes he hv] at q3
          have e4 : { s2 with i := s2.i + 1 } = s3 := congrArg Prod.snd q3
          rw [← e4]
          exact he
        repeat' (first | refine tT ?_ | refine tF ?_ | refine ex_dec (fun _ => ?_) (fun _ => ?_) | refine t8 ?_ | refine tI ?_ | refine tU ?_ | refine tA ?_ | refine tB ?_ | refine tL ?_ | refine tN ?_ | fail "no step")
        refine ex_loop (X := RSt × Bool × List (List UInt8) × (RSt → Nat)) (fun ⟨s, more, l, _⟩ => ⟨[(0, .o P0), (2, .o (.c (.ptr 7 0))), (4, .o (.c (.ptr 8 0))), (5, Tb more)], [(0, Rz L s 1 2 5 6), (3, .dead), (4, .dead), (7, .obj [.d (ds ⟨#[]⟩), .d dnil, .d dnil]), (8, .obj [.d (ds (bs w)), .row 9, .d dnil]), (9, .row 1 9 (l.map fun p => [ds (bs p)])), (5, Xr st.xs), (6, Tr st.ts)], 10⟩)
          (fun y => if y.2.1 = true ∧ y.1.err = 0 then L.length - y.1.i + 1 else 0)
          (fun ⟨s, more, l, F⟩ => Gd L 32 3 910 s ∧ s.xs = st.xs ∧ s.ts = st.ts ∧ (more = true → s.err = 0 → l.length ≤ s.i) ∧ l.length ≤ L.length + 1 ∧
            ((more = true ∧ s.err = 0 ∧ (∀ s' : RSt, s.i ≤ s'.i → s'.err = 0 → L.length < s'.i + F s') ∧ ((fun s => if namedV L s.i = true then roomR l.length s else ((), s)) >>= fun _ => nameR L >>= fun x => (fun s => parsR L (F s) (l ++ [x]) s : RM (List (List UInt8))) >>= fun l => takeR L t_rpar >>= fun _ => K l) s = (v, st')) ∨
              (¬ (more = true ∧ s.err = 0) ∧ (takeR L t_rpar >>= fun _ => K l) s = (v, st')))) (s3, true, [], fun s => L.length - s.i + 1) ⟨g3.le (by omega) (by omega), kx_s3, kt_s3, fun _ _ => Nat.zero_le _, Nat.zero_le _, .inl ⟨rfl, he3, fun s' h1 h2 => by show L.length < s'.i + (L.length - s'.i + 1); omega, (rand roomIf_nil).trans hT⟩⟩ ?_ ?_
        · exact SLe.thru (SLe.ownCell 8 1 9 1 9 rfl rfl rfl rfl rfl rfl) (SLe.of ⟨⟨rfl, rfl, rfl, rfl, trivial⟩, ⟨rfl, rfl, rfl, rfl, rfl, rfl, rfl, rfl, trivial⟩⟩)
        clear hT kx_s1 kt_s1 kx_s2 kt_s2 kx_s3 kt_s3 kx_st kt_st g1 g2 g3 q1 q2 q3 hg hv his he he3 h10 hK
        rintro ⟨s, more, l, F⟩ ⟨hs, kx_s, kt_s, hl1, hl2, hC⟩
        have hsi := hs.i
        have h10 := hs.e
        rcases hC with ⟨rfl, hse, hF, hT⟩ | ⟨hno, hT⟩
        · have hl1 := hl1 rfl hse
          have hop := rnamed_c s hsi
          rcases hb : namedV L s.i with _ | _ <;> rw [hb] at hop
          · replace hT := (rand (roomIf_no hb)).symm.trans hT
            repeat' (first | refine tT ?_ | refine tF ?_ | refine ex_dec (fun _ => ?_) (fun _ => ?_) | refine t8 ?_ | refine tI ?_ | refine tU ?_ | refine tA ?_ | refine tB ?_ | refine tL ?_ | refine tN ?_ | fail "no step")
            refine sC (CallsM.ren (hop) [0, 1, 2, 5, 6] 10 rfl rfl rfl rfl) ?_
            repeat' (first | refine tT ?_ | refine tF ?_ | refine ex_dec (fun _ => ?_) (fun _ => ?_) | refine t8 ?_ | refine tI ?_ | refine tU ?_ | refine tA ?_ | refine tB ?_ | refine tL ?_ | refine tN ?_ | fail "no step")
            rcases hx : (nameR L) (s) with ⟨x, s2⟩
            replace hT := (rand hx).symm.trans hT
            refine sC (CallsM.ren ((rname_c s hs.i hn) _ _ hx) [0, 1, 2, 5, 6] 10 rfl rfl rfl rfl) ?_
            have kx_s2 := (keep_name hx).1.trans kx_s
            have kt_s2 := (keep_name hx).2.trans kt_s
            have hg2 := (Sim.name (m := 32) hL 3).gd hs (by omega) hx
            have hgr := fun h => ((Sim.name (m := 32) hL 3).grow hs hx h).2
            have hsi2 := hg2.i
            replace hT : (parsR L (F s2) (l ++ [x]) >>= fun l => takeR L t_rpar >>= fun _ => K l) s2 = (v, st') := hT
            have hlx : (l ++ [x]).length = l.length + 1 := by simp
            have hle : s2.err = 0 → l.length ≤ s2.i := fun h => by
              have := hgr h
              skip
              omega
            repeat' (first | refine tT ?_ | refine tF ?_ | refine ex_dec (fun _ => ?_) (fun _ => ?_) | refine t8 ?_ | refine tI ?_ | refine tU ?_ | refine tA ?_ | refine tB ?_ | refine tL ?_ | refine tN ?_ | fail "no step")
            refine ex_app (l.length) (1) 1000 (by first | rfl | (simp; done) | (simp; omega)) (by first | rfl | (simp; done) | (simp; omega)) rfl (by omega) ?_
            refine ex_is (List.map (fun p : List UInt8 => [ds (bs p)]) (l ++ [x])) (by rw [List.map_append]; rfl) ?_
            repeat' (first | refine tT ?_ | refine tF ?_ | refine ex_dec (fun _ => ?_) (fun _ => ?_) | refine t8 ?_ | refine tI ?_ | refine tU ?_ | refine tA ?_ | refine tB ?_ | refine tL ?_ | refine tN ?_ | fail "no step")
            have hi2 := ris_c s2 hsi2 t_comma
            rcases hcv : isV L s2.i t_comma with _ | _ <;> rw [hcv] at hi2
            ·
              refine sC (CallsM.ren (hi2) [0, 1, 2, 5, 6] 12 rfl rfl rfl rfl) ?_
              repeat' (first | refine tT ?_ | refine tF ?_ | refine ex_dec (fun _ => ?_) (fun _ => ?_) | refine t8 ?_ | refine tI ?_ | refine tU ?_ | refine tA ?_ | refine tB ?_ | refine tL ?_ | refine tN ?_ | fail "no step")
              exact ex_round (s2, false, l ++ [x], F) ⟨hg2.le (by omega) (by omega), kx_s2, kt_s2, fun h => (by cases h), by rw [hlx]; omega, .inr ⟨fun h => (by cases h.1), pars_out (K := fun l => takeR L t_rpar >>= fun _ => K l) hcv (fun h => hF s2 (by have := hgr h; skip; omega) h) hsi2 hT⟩⟩ (by show (if false = true ∧ s2.err = 0 then L.length - s2.i + 1 else 0) < (if true = true ∧ s.err = 0 then L.length - s.i + 1 else 0); rw [if_neg (by simp), if_pos ⟨rfl, hse⟩]; omega) (SLe.ren [(0, 0), (1, 1), (2, 2), (3, 3), (4, 4), (5, 5), (6, 6), (7, 7), (8, 8), (11, 9)] ⟨⟨rfl, rfl⟩, ⟨rfl, rfl⟩, ⟨rfl, rfl⟩, ⟨rfl, rfl⟩, trivial⟩ ⟨⟨rfl, rfl⟩, ⟨rfl, rfl⟩, ⟨rfl, rfl⟩, ⟨rfl, rfl⟩, ⟨rfl, rfl⟩, ⟨rfl, rfl⟩, ⟨rfl, rfl⟩, ⟨rfl, rfl⟩, trivial⟩ rfl)
            ·
              refine sC (CallsM.ren (hi2) [0, 1, 2, 5, 6] 12 rfl rfl rfl rfl) ?_
              repeat' (first | refine tT ?_ | refine tF ?_ | refine ex_dec (fun _ => ?_) (fun _ => ?_) | refine t8 ?_ | refine tI ?_ | refine tU ?_ | refine tA ?_ | refine tB ?_ | refine tL ?_ | refine tN ?_ | fail "no step")
              rcases htk : takeR L t_comma s2 with ⟨u3, s3⟩
              have ht3 := rtake_c s2 hsi2 hn t_comma
              refine sC (CallsM.ren ((ht3 _ _ htk)) [0, 1, 2, 5, 6] 12 rfl rfl rfl rfl) ?_
              repeat' (first | refine tT ?_ | refine tF ?_ | refine ex_dec (fun _ => ?_) (fun _ => ?_) | refine t8 ?_ | refine tI ?_ | refine tU ?_ | refine tA ?_ | refine tB ?_ | refine tL ?_ | refine tN ?_ | fail "no step")
              have kk := keep_take htk
              have hg3 := (Sim.take (m := 32) hL t_comma 4).gd hg2 (by omega) htk
              refine ex_round (s3, true, l ++ [x], fun _ => F s2 - 1) ⟨hg3.le (by omega) (by omega), kk.1.trans kx_s2, kk.2.trans kt_s2, ?_, by rw [hlx]; omega, ?_⟩ ?_ (SLe.ren [(0, 0), (1, 1), (2, 2), (3, 3), (4, 4), (5, 5), (6, 6), (7, 7), (8, 8), (11, 9)] ⟨⟨rfl, rfl⟩, ⟨rfl, rfl⟩, ⟨rfl, rfl⟩, ⟨rfl, rfl⟩, trivial⟩ ⟨⟨rfl, rfl⟩, ⟨rfl, rfl⟩, ⟨rfl, rfl⟩, ⟨rfl, rfl⟩, ⟨rfl, rfl⟩, ⟨rfl, rfl⟩, ⟨rfl, rfl⟩, ⟨rfl, rfl⟩, trivial⟩ rfl)
              · intro _ h
                rw [hlx]
                by_cases he2 : s2.err = 0
                · have := hle he2
                  rw [take_yes he2 hcv] at htk
                  obtain rfl := congrArg Prod.snd htk
                  show _ ≤ s2.i + 1
                  omega
                · rw [take_err he2] at htk
                  obtain rfl : s2 = s3 := congrArg Prod.snd htk
                  exact absurd h he2
              · exact pars_in hcv hsi2 (fun h => hF s2 (by have := hgr h; skip; omega) h) hT htk
              · by_cases he2 : s2.err = 0
                · have := hgr he2
                  skip
                  rw [take_yes he2 hcv] at htk
                  obtain rfl := congrArg Prod.snd htk
                  show (if true = true ∧ s2.err = 0 then L.length - (s2.i + 1) + 1 else 0) < (if true = true ∧ s.err = 0 then L.length - s.i + 1 else 0)
                  rw [if_pos ⟨rfl, he2⟩, if_pos ⟨rfl, hse⟩]
                  omega
                · rw [take_err he2] at htk
                  obtain rfl : s2 = s3 := congrArg Prod.snd htk
                  show (if true = true ∧ s2.err = 0 then L.length - s2.i + 1 else 0) < (if true = true ∧ s.err = 0 then L.length - s.i + 1 else 0)
                  rw [if_neg (fun h => he2 h.2), if_pos ⟨rfl, hse⟩]
                  omega
          · rcases hr : roomR l.length s with ⟨u1, s1⟩
            replace hT := (rand (roomIf_yes hb hr)).symm.trans hT
            have kr := keep_room hr
            have hg1 := (Sim.room (L := L) (m := 32) l.length 3).gd hs (by omega) hr
            have kx_s1 := kr.1.trans kx_s
            have kt_s1 := kr.2.trans kt_s
            have hri : s1.i = s.i := room_i hr
            repeat' (first | refine tT ?_ | refine tF ?_ | refine ex_dec (fun _ => ?_) (fun _ => ?_) | refine t8 ?_ | refine tI ?_ | refine tU ?_ | refine tA ?_ | refine tB ?_ | refine tL ?_ | refine tN ?_ | fail "no step")
            refine sC (CallsM.ren (hop) [0, 1, 2, 5, 6] 10 rfl rfl rfl rfl) ?_
            repeat' (first | refine ex_is l.length (by simp) ?_ | refine tT ?_ | refine tF ?_ | refine ex_dec (fun _ => ?_) (fun _ => ?_) | refine t8 ?_ | refine tI ?_ | refine tU ?_ | refine tA ?_ | refine tB ?_ | refine tL ?_ | refine tN ?_ | fail "no step")
            refine sC (CallsM.ren (((rroom_c s l.length (by omega)) _ _ hr)) [0, 1, 2, 5, 6] 10 rfl rfl rfl rfl) ?_
            repeat' (first | refine tT ?_ | refine tF ?_ | refine ex_dec (fun _ => ?_) (fun _ => ?_) | refine t8 ?_ | refine tI ?_ | refine tU ?_ | refine tA ?_ | refine tB ?_ | refine tL ?_ | refine tN ?_ | fail "no step")
            rcases hx : (nameR L) (s1) with ⟨x, s2⟩
            replace hT := (rand hx).symm.trans hT
            refine sC (CallsM.ren ((rname_c s1 hg1.i hn) _ _ hx) [0, 1, 2, 5, 6] 10 rfl rfl rfl rfl) ?_
            have kx_s2 := (keep_name hx).1.trans kx_s1
            have kt_s2 := (keep_name hx).2.trans kt_s1
            have hg2 := (Sim.name (m := 32) hL 3).gd hg1 (by omega) hx
            have hgr := fun h => ((Sim.name (m := 32) hL 3).grow hg1 hx h).2
            have hsi2 := hg2.i
            replace hT : (parsR L (F s2) (l ++ [x]) >>= fun l => takeR L t_rpar >>= fun _ => K l) s2 = (v, st') := hT
            have hlx : (l ++ [x]).length = l.length + 1 := by simp
            have hle : s2.err = 0 → l.length ≤ s2.i := fun h => by
              have := hgr h
              have := hri
              omega
            repeat' (first | refine tT ?_ | refine tF ?_ | refine ex_dec (fun _ => ?_) (fun _ => ?_) | refine t8 ?_ | refine tI ?_ | refine tU ?_ | refine tA ?_ | refine tB ?_ | refine tL ?_ | refine tN ?_ | fail "no step")
            refine ex_app (l.length) (1) 1000 (by first | rfl | (simp; done) | (simp; omega)) (by first | rfl | (simp; done) | (simp; omega)) rfl (by omega) ?_
            refine ex_is (List.map (fun p : List UInt8 => [ds (bs p)]) (l ++ [x])) (by rw [List.map_append]; rfl) ?_
            repeat' (first | refine tT ?_ | refine tF ?_ | refine ex_dec (fun _ => ?_) (fun _ => ?_) | refine t8 ?_ | refine tI ?_ | refine tU ?_ | refine tA ?_ | refine tB ?_ | refine tL ?_ | refine tN ?_ | fail "no step")
            have hi2 := ris_c s2 hsi2 t_comma
            rcases hcv : isV L s2.i t_comma with _ | _ <;> rw [hcv] at hi2
            ·
              refine sC (CallsM.ren (hi2) [0, 1, 2, 5, 6] 12 rfl rfl rfl rfl) ?_
              repeat' (first | refine tT ?_ | refine tF ?_ | refine ex_dec (fun _ => ?_) (fun _ => ?_) | refine t8 ?_ | refine tI ?_ | refine tU ?_ | refine tA ?_ | refine tB ?_ | refine tL ?_ | refine tN ?_ | fail "no step")
              exact ex_round (s2, false, l ++ [x], F) ⟨hg2.le (by omega) (by omega), kx_s2, kt_s2, fun h => (by cases h), by rw [hlx]; omega, .inr ⟨fun h => (by cases h.1), pars_out (K := fun l => takeR L t_rpar >>= fun _ => K l) hcv (fun h => hF s2 (by have := hgr h; have := hri; omega) h) hsi2 hT⟩⟩ (by show (if false = true ∧ s2.err = 0 then L.length - s2.i + 1 else 0) < (if true = true ∧ s.err = 0 then L.length - s.i + 1 else 0); rw [if_neg (by simp), if_pos ⟨rfl, hse⟩]; omega) (SLe.ren [(0, 0), (1, 1), (2, 2), (3, 3), (4, 4), (5, 5), (6, 6), (7, 7), (8, 8), (11, 9)] ⟨⟨rfl, rfl⟩, ⟨rfl, rfl⟩, ⟨rfl, rfl⟩, ⟨rfl, rfl⟩, trivial⟩ ⟨⟨rfl, rfl⟩, ⟨rfl, rfl⟩, ⟨rfl, rfl⟩, ⟨rfl, rfl⟩, ⟨rfl, rfl⟩, ⟨rfl, rfl⟩, ⟨rfl, rfl⟩, ⟨rfl, rfl⟩, trivial⟩ rfl)
            ·
              refine sC (CallsM.ren (hi2) [0, 1, 2, 5, 6] 12 rfl rfl rfl rfl) ?_
              repeat' (first | refine tT ?_ | refine tF ?_ | refine ex_dec (fun _ => ?_) (fun _ => ?_) | refine t8 ?_ | refine tI ?_ | refine tU ?_ | refine tA ?_ | refine tB ?_ | refine tL ?_ | refine tN ?_ | fail "no step")
              rcases htk : takeR L t_comma s2 with ⟨u3, s3⟩
              have ht3 := rtake_c s2 hsi2 hn t_comma
              refine sC (CallsM.ren ((ht3 _ _ htk)) [0, 1, 2, 5, 6] 12 rfl rfl rfl rfl) ?_
              repeat' (first | refine tT ?_ | refine tF ?_ | refine ex_dec (fun _ => ?_) (fun _ => ?_) | refine t8 ?_ | refine tI ?_ | refine tU ?_ | refine tA ?_ | refine tB ?_ | refine tL ?_ | refine tN ?_ | fail "no step")
              have kk := keep_take htk
              have hg3 := (Sim.take (m := 32) hL t_comma 4).gd hg2 (by omega) htk
              refine ex_round (s3, true, l ++ [x], fun _ => F s2 - 1) ⟨hg3.le (by omega) (by omega), kk.1.trans kx_s2, kk.2.trans kt_s2, ?_, by rw [hlx]; omega, ?_⟩ ?_ (SLe.ren [(0, 0), (1, 1), (2, 2), (3, 3), (4, 4), (5, 5), (6, 6), (7, 7), (8, 8), (11, 9)] ⟨⟨rfl, rfl⟩, ⟨rfl, rfl⟩, ⟨rfl, rfl⟩, ⟨rfl, rfl⟩, trivial⟩ ⟨⟨rfl, rfl⟩, ⟨rfl, rfl⟩, ⟨rfl, rfl⟩, ⟨rfl, rfl⟩, ⟨rfl, rfl⟩, ⟨rfl, rfl⟩, ⟨rfl, rfl⟩, ⟨rfl, rfl⟩, trivial⟩ rfl)
              · intro _ h
                rw [hlx]
                by_cases he2 : s2.err = 0
                · have := hle he2
                  rw [take_yes he2 hcv] at htk
                  obtain rfl := congrArg Prod.snd htk
                  show _ ≤ s2.i + 1
                  omega
                · rw [take_err he2] at htk
                  obtain rfl : s2 = s3 := congrArg Prod.snd htk
                  exact absurd h he2
              · exact pars_in hcv hsi2 (fun h => hF s2 (by have := hgr h; have := hri; omega) h) hT htk
              · by_cases he2 : s2.err = 0
                · have := hgr he2
                  have := hri
                  rw [take_yes he2 hcv] at htk
                  obtain rfl := congrArg Prod.snd htk
                  show (if true = true ∧ s2.err = 0 then L.length - (s2.i + 1) + 1 else 0) < (if true = true ∧ s.err = 0 then L.length - s.i + 1 else 0)
                  rw [if_pos ⟨rfl, he2⟩, if_pos ⟨rfl, hse⟩]
                  omega
                · rw [take_err he2] at htk
                  obtain rfl : s2 = s3 := congrArg Prod.snd htk
                  show (if true = true ∧ s2.err = 0 then L.length - s2.i + 1 else 0) < (if true = true ∧ s.err = 0 then L.length - s.i + 1 else 0)
                  rw [if_neg (fun h => he2 h.2), if_pos ⟨rfl, hse⟩]
                  omega
        · rcases h4 : takeR L t_rpar s with ⟨u4, s4⟩
          replace hT := (rand h4).symm.trans hT
          have kk := keep_take h4
          have g4 := (Sim.take (m := 32) hL t_rpar 3).gd hs (by omega) h4
          have hcon := (rtake_c s hsi hn t_rpar) _ _ h4
          cases more
          · repeat' (first | refine tT ?_ | refine tF ?_ | refine ex_dec (fun _ => ?_) (fun _ => ?_) | refine t8 ?_ | refine tI ?_ | refine tU ?_ | refine tA ?_ | refine tB ?_ | refine tL ?_ | refine tN ?_ | fail "no step")
            refine sC (CallsM.ren (hcon) [0, 1, 2, 5, 6] 10 rfl rfl rfl rfl) ?_
            repeat' (first | refine tT ?_ | refine tF ?_ | refine ex_dec (fun _ => ?_) (fun _ => ?_) | refine t8 ?_ | refine tI ?_ | refine tU ?_ | refine tA ?_ | refine tB ?_ | refine tL ?_ | refine tN ?_ | fail "no step")
            exact ex_meet (s4, l) ⟨g4.le (by omega) (by omega), kk.1.trans kx_s, kk.2.trans kt_s, hT⟩ (SLe.of ⟨⟨rfl, rfl, rfl, trivial⟩, ⟨rfl, rfl, rfl, rfl, rfl, rfl, rfl, rfl, trivial⟩⟩)
          · have hse : s.err ≠ 0 := fun h => hno ⟨rfl, h⟩
            repeat' (first | refine tT ?_ | refine tF ?_ | refine ex_dec (fun _ => ?_) (fun _ => ?_) | refine t8 ?_ | refine tI ?_ | refine tU ?_ | refine tA ?_ | refine tB ?_ | refine tL ?_ | refine tN ?_ | fail "no step")
            refine sC (CallsM.ren (hcon) [0, 1, 2, 5, 6] 10 rfl rfl rfl rfl) ?_
            repeat' (first | refine tT ?_ | refine tF ?_ | refine ex_dec (fun _ => ?_) (fun _ => ?_) | refine t8 ?_ | refine tI ?_ | refine tU ?_ | refine tA ?_ | refine tB ?_ | refine tL ?_ | refine tN ?_ | fail "no step")
            exact ex_meet (s4, l) ⟨g4.le (by omega) (by omega), kk.1.trans kx_s, kk.2.trans kt_s, hT⟩ (SLe.of ⟨⟨rfl, rfl, rfl, trivial⟩, ⟨rfl, rfl, rfl, rfl, rfl, rfl, rfl, rfl, trivial⟩⟩)
      · replace hT := gdRnB hT he
        repeat' (first | refine tT ?_ | refine tF ?_ | refine ex_dec (fun _ => ?_) (fun _ => ?_) | refine t8 ?_ | refine tI ?_ | refine tU ?_ | refine tA ?_ | refine tB ?_ | refine tL ?_ | refine tN ?_ | fail "no step")
        exact ex_meet (s2, []) ⟨g2.le (by omega) (by omega), kx_s2, kt_s2, hT⟩ (SLe.thru (SLe.ownCell 8 1 9 1 9 rfl rfl rfl rfl rfl rfl) (SLe.of ⟨⟨rfl, rfl, rfl, trivial⟩, ⟨rfl, rfl, rfl, rfl, rfl, rfl, rfl, rfl, trivial⟩⟩))
  · clear hT hv his g1 g2 q1 q2 kx_st kt_st kx_s1 kt_s1 kx_s2 kt_s2 h10 hg
    rintro ⟨s, ps⟩ ⟨hs, kx_s, kt_s, hT⟩
    rw [← hK] at hT
    clear hK
    replace hT : (takeR L t_lcur >>= fun _ => (fun s => itemsR L (L.length - s.i + 1) [] s : RM (List IT)) >>= fun is => takeR L t_rcur >>= fun _ => pure (⟨w, ps, is⟩ : RC)) s = (v, st') := hT
    repeat' (first | refine tT ?_ | refine tF ?_ | refine ex_dec (fun _ => ?_) (fun _ => ?_) | refine t8 ?_ | refine tI ?_ | refine tU ?_ | refine tA ?_ | refine tB ?_ | refine tL ?_ | refine tN ?_ | fail "no step")
    rcases q1 : (takeR L t_lcur) (s) with ⟨_, s1⟩
    replace hT := (rand q1).symm.trans hT
    refine sC (CallsM.ren ((rtake_c s hs.i hn t_lcur) _ _ q1) [0, 1, 2, 5, 6] 10 rfl rfl rfl rfl) ?_
    have kx_s1 := (keep_take q1).1.trans kx_s
    have kt_s1 := (keep_take q1).2.trans kt_s
    have g1 := (Sim.take (m := 32) hL t_lcur 2).gd hs (by omega) q1
    have hi1 := g1.i
    obtain ⟨K, hK⟩ : ∃ K : List IT → RM RC, (fun is : List IT => takeR L t_rcur >>= fun _ => pure (⟨w, ps, is⟩ : RC)) = K := ⟨_, rfl⟩
    replace hT : (itemsR L (L.length - s1.i + 1) [] >>= K) s1 = (v, st') := by rw [← hK]; exact hT
    repeat' (first | refine tT ?_ | refine tF ?_ | refine ex_dec (fun _ => ?_) (fun _ => ?_) | refine t8 ?_ | refine tI ?_ | refine tU ?_ | refine tA ?_ | refine tB ?_ | refine tL ?_ | refine tN ?_ | fail "no step")
    refine ex_loop (X := RSt × List EX × List TY × List IT × Nat) (fun ⟨s, xl, tl, l, _⟩ => ⟨[(0, .o P0), (2, .o (.c (.ptr 7 0))), (4, .o (.c (.ptr 8 0)))], [(0, Rz L s 1 2 11 12), (3, .dead), (4, .dead), (7, .obj [.d (ds ⟨#[]⟩), .d dnil, .d dnil]), (8, .obj [.d (ds (bs w)), .row 9, .row 10]), (9, .row 1 9 (ps.map fun p => [ds (bs p)])), (10, .row 9 119 (l.map itD)), (11, Xr xl), (12, Tr tl)], 13⟩) (fun y => y.2.2.2.2)
      (fun ⟨s, xl, tl, l, n⟩ => Gd L 32 3 940 s ∧ s.xs = xl ∧ s.ts = tl ∧ (s.err = 0 → L.length < s.i + n ∧ l.length ≤ s.i) ∧ l.length ≤ L.length + 1 ∧ (itemsR L n l >>= K) s = (v, st')) (s1, st.xs, st.ts, [], L.length - s1.i + 1) ⟨g1.le (by omega) (by omega), kx_s1, kt_s1, fun _ => ⟨by omega, Nat.zero_le _⟩, Nat.zero_le _, hT⟩ ?_ ?_
    · exact SLe.thru (SLe.ownCell 8 2 10 9 119 rfl rfl rfl rfl rfl rfl) (SLe.ren [(0, 0), (1, 1), (2, 2), (3, 3), (4, 4), (7, 7), (8, 8), (9, 9), (10, 10), (5, 11), (6, 12)] ⟨⟨rfl, rfl⟩, ⟨rfl, rfl⟩, ⟨rfl, rfl⟩, trivial⟩ ⟨⟨rfl, rfl⟩, ⟨rfl, rfl⟩, ⟨rfl, rfl⟩, ⟨rfl, rfl⟩, ⟨rfl, rfl⟩, ⟨rfl, rfl⟩, ⟨rfl, rfl⟩, ⟨rfl, rfl⟩, ⟨rfl, rfl⟩, trivial⟩ rfl)
    clear hT q1 g1 hi1 kx_s1 kt_s1 hs kx_s kt_s
    rintro ⟨s, xl, tl, l, n⟩ ⟨hs, kx_s, kt_s, hf, hcl, hT⟩
    have hsi := hs.i
    have h10 := hs.e
    have hnm := rnamed_c s hsi
    have hpk := ris_c s hsi w_pack
    by_cases he : s.err = 0
    · obtain ⟨hf, hll⟩ := hf he
      cases n with
      | zero => omega
      | succ n =>
        rw [itemsR] at hT
        replace hT := gdRyB hT he
        have hs0 := hs.fresh he 400
        rcases hv : isV L s.i w_pack with _ | _ <;> rw [hv] at hpk
        · rcases hb : namedV L s.i with _ | _ <;> rw [hb] at hnm
          · replace hT := atRnB hT (by rw [hv, hb]; rfl)
            replace hT : K l s = (v, st') := hT
            rw [← hK] at hT
            replace hT : (takeR L t_rcur >>= fun _ => pure (⟨w, ps, l⟩ : RC)) s = (v, st') := hT
            repeat' (first | refine tT ?_ | refine tF ?_ | refine ex_dec (fun _ => ?_) (fun _ => ?_) | refine t8 ?_ | refine tI ?_ | refine tU ?_ | refine tA ?_ | refine tB ?_ | refine tL ?_ | refine tN ?_ | fail "no step")
            refine sC (CallsM.ren (hnm) [0, 1, 2, 11, 12] 13 rfl rfl rfl rfl) ?_
            repeat' (first | refine tT ?_ | refine tF ?_ | refine ex_dec (fun _ => ?_) (fun _ => ?_) | refine t8 ?_ | refine tI ?_ | refine tU ?_ | refine tA ?_ | refine tB ?_ | refine tL ?_ | refine tN ?_ | fail "no step")
            refine sC (CallsM.ren (hpk) [0, 1, 2, 11, 12] 13 rfl rfl rfl rfl) ?_
            repeat' (first | refine tT ?_ | refine tF ?_ | refine ex_dec (fun _ => ?_) (fun _ => ?_) | refine t8 ?_ | refine tI ?_ | refine tU ?_ | refine tA ?_ | refine tB ?_ | refine tL ?_ | refine tN ?_ | fail "no step")
            rcases q1 : (takeR L t_rcur) (s) with ⟨_, s1⟩
            replace hT := (rand q1).symm.trans hT
            refine sC (CallsM.ren ((rtake_c s hsi hn t_rcur) _ _ q1) [0, 1, 2, 11, 12] 13 rfl rfl rfl rfl) ?_
            have kx_s1 := (keep_take q1).1.trans kx_s
            have kt_s1 := (keep_take q1).2.trans kt_s
            obtain rfl : (⟨w, ps, l⟩ : RC) = v := congrArg Prod.fst hT
            obtain rfl : s1 = st' := congrArg Prod.snd hT
            repeat' (first | refine tT ?_ | refine tF ?_ | refine ex_dec (fun _ => ?_) (fun _ => ?_) | refine t8 ?_ | refine tI ?_ | refine tU ?_ | refine tA ?_ | refine tB ?_ | refine tL ?_ | refine tN ?_ | fail "no step")
            subst kx_s1
            subst kt_s1
            exact ⟨rfl, TLe.rfl, rfl, rfl⟩
          · replace hT := atRyB hT (by rw [hv, hb]; rfl)
            replace hT : (roomR l.length >>= fun _ => atR (isV L · w_pack) (packR L) (fieldR L) >>= fun x => itemsR L n (l ++ [x]) >>= K) s = (v, st') := hT
            repeat' (first | refine tT ?_ | refine tF ?_ | refine ex_dec (fun _ => ?_) (fun _ => ?_) | refine t8 ?_ | refine tI ?_ | refine tU ?_ | refine tA ?_ | refine tB ?_ | refine tL ?_ | refine tN ?_ | fail "no step")
            refine sC (CallsM.ren (hnm) [0, 1, 2, 11, 12] 13 rfl rfl rfl rfl) ?_
            repeat' (first | refine tT ?_ | refine tF ?_ | refine ex_dec (fun _ => ?_) (fun _ => ?_) | refine t8 ?_ | refine tI ?_ | refine tU ?_ | refine tA ?_ | refine tB ?_ | refine tL ?_ | refine tN ?_ | fail "no step")
            refine sC (CallsM.ren (hpk) [0, 1, 2, 11, 12] 13 rfl rfl rfl rfl) ?_
            repeat' (first | refine ex_is l.length (by simp) ?_ | refine tT ?_ | refine tF ?_ | refine ex_dec (fun _ => ?_) (fun _ => ?_) | refine t8 ?_ | refine tI ?_ | refine tU ?_ | refine tA ?_ | refine tB ?_ | refine tL ?_ | refine tN ?_ | fail "no step")
            rcases q1 : (roomR l.length) (s) with ⟨_, s1⟩
            replace hT := (rand q1).symm.trans hT
            refine sC (CallsM.ren ((rroom_c s l.length (by omega)) _ _ q1) [0, 1, 2, 11, 12] 13 rfl rfl rfl rfl) ?_
            have kx_s1 := (keep_room q1).1.trans kx_s
            have kt_s1 := (keep_room q1).2.trans kt_s
            have g1 := (Sim.room (L := L) (m := 32) l.length 3).gd hs0 (by omega) q1
            have i1 := room_i q1
            have hv1 : isV L s1.i w_pack = false := by rw [i1]; exact hv
            replace hT := atRnB hT hv1
            repeat' (first | refine tT ?_ | refine tF ?_ | refine ex_dec (fun _ => ?_) (fun _ => ?_) | refine t8 ?_ | refine tI ?_ | refine tU ?_ | refine tA ?_ | refine tB ?_ | refine tL ?_ | refine tN ?_ | fail "no step")
            rcases q2 : (fieldR L) (s1) with ⟨x, s2⟩
            replace hT := (rand q2).symm.trans hT
            refine sC (CallsM.ren ((rfield_c hL hE hn s1 (g1.le (by omega) (by omega))) _ _ q2 _ _ kx_s1 kt_s1) [0, 1, 2, 11, 12] 14 rfl rfl rfl rfl) ?_
            have kx_s2 : s2.xs = s2.xs := rfl
            have kt_s2 : s2.ts = s2.ts := rfl
            have q2' : atR (isV L · w_pack) (packR L) (fieldR L) s1 = (x, s2) := by unfold atR; rw [if_neg (show ¬ isV L s1.i w_pack = true by rw [hv1]; decide)]; exact q2
            have hsim := (sim_packAt (m := 32) hL (sim_field hL hE)).less (a' := 3) (b' := 3) 3 (by omega) (by omega)
            have g2 := hsim.gd g1 (by omega) q2'
            have hgrow : s2.err = 0 → s.i + 1 ≤ s2.i := fun h2 => by
              have := hsim.grow1 mo_packAt g1 q2' h2
              omega
            have hlc : (l ++ [x]).length = l.length + 1 := by simp
            clear q2 q2' hsim
            repeat' (first | refine tT ?_ | refine tF ?_ | refine ex_dec (fun _ => ?_) (fun _ => ?_) | refine t8 ?_ | refine tI ?_ | refine tU ?_ | refine tA ?_ | refine tB ?_ | refine tL ?_ | refine tN ?_ | fail "no step")
            refine ex_app (l.length) (1) 1000 (by first | rfl | (simp; done) | (simp; omega)) (by first | rfl | (simp; done) | (simp; omega)) rfl (by omega) ?_
            refine ex_is (List.map itD (l ++ [x])) (by rw [List.map_append]; rfl) ?_
            repeat' (first | refine tT ?_ | refine tF ?_ | refine ex_dec (fun _ => ?_) (fun _ => ?_) | refine t8 ?_ | refine tI ?_ | refine tU ?_ | refine tA ?_ | refine tB ?_ | refine tL ?_ | refine tN ?_ | fail "no step")
            exact ex_round (s2, s2.xs, s2.ts, l ++ [x], n) ⟨g2.le (by omega) (by omega), rfl, rfl, fun h => ⟨by have := hgrow h; omega, by rw [hlc]; have := hgrow h; omega⟩, by rw [hlc]; omega, hT⟩ (by show n < n + 1; omega) (SLe.ren [(0, 0), (1, 1), (2, 2), (3, 3), (4, 4), (7, 7), (8, 8), (9, 9), (17, 10), (14, 11), (15, 12)] ⟨⟨rfl, rfl⟩, ⟨rfl, rfl⟩, ⟨rfl, rfl⟩, trivial⟩ ⟨⟨rfl, rfl⟩, ⟨rfl, rfl⟩, ⟨rfl, rfl⟩, ⟨rfl, rfl⟩, ⟨rfl, rfl⟩, ⟨rfl, rfl⟩, ⟨rfl, rfl⟩, ⟨rfl, rfl⟩, ⟨rfl, rfl⟩, trivial⟩ rfl)
        · replace hT := atRyB hT (by rw [hv]; rfl)
          replace hT : (roomR l.length >>= fun _ => atR (isV L · w_pack) (packR L) (fieldR L) >>= fun x => itemsR L n (l ++ [x]) >>= K) s = (v, st') := hT
          obtain ⟨b, hb⟩ : ∃ b, namedV L s.i = b := ⟨_, rfl⟩
          rw [hb] at hnm
          cases b
          all_goals
            repeat' (first | refine tT ?_ | refine tF ?_ | refine ex_dec (fun _ => ?_) (fun _ => ?_) | refine t8 ?_ | refine tI ?_ | refine tU ?_ | refine tA ?_ | refine tB ?_ | refine tL ?_ | refine tN ?_ | fail "no step")
            refine sC (CallsM.ren (hnm) [0, 1, 2, 11, 12] 13 rfl rfl rfl rfl) ?_
            repeat' (first | refine tT ?_ | refine tF ?_ | refine ex_dec (fun _ => ?_) (fun _ => ?_) | refine t8 ?_ | refine tI ?_ | refine tU ?_ | refine tA ?_ | refine tB ?_ | refine tL ?_ | refine tN ?_ | fail "no step")
            refine sC (CallsM.ren (hpk) [0, 1, 2, 11, 12] 13 rfl rfl rfl rfl) ?_
            repeat' (first | refine ex_is l.length (by simp) ?_ | refine tT ?_ | refine tF ?_ | refine ex_dec (fun _ => ?_) (fun _ => ?_) | refine t8 ?_ | refine tI ?_ | refine tU ?_ | refine tA ?_ | refine tB ?_ | refine tL ?_ | refine tN ?_ | fail "no step")
            rcases q1 : (roomR l.length) (s) with ⟨_, s1⟩
            replace hT := (rand q1).symm.trans hT
            refine sC (CallsM.ren ((rroom_c s l.length (by omega)) _ _ q1) [0, 1, 2, 11, 12] 13 rfl rfl rfl rfl) ?_
            have kx_s1 := (keep_room q1).1.trans kx_s
            have kt_s1 := (keep_room q1).2.trans kt_s
            have g1 := (Sim.room (L := L) (m := 32) l.length 3).gd hs0 (by omega) q1
            have i1 := room_i q1
            have hv1 : isV L s1.i w_pack = true := by rw [i1]; exact hv
            replace hT := atRyB hT hv1
            repeat' (first | refine tT ?_ | refine tF ?_ | refine ex_dec (fun _ => ?_) (fun _ => ?_) | refine t8 ?_ | refine tI ?_ | refine tU ?_ | refine tA ?_ | refine tB ?_ | refine tL ?_ | refine tN ?_ | fail "no step")
            rcases q2 : (packR L) (s1) with ⟨x, s2⟩
            replace hT := (rand q2).symm.trans hT
            refine sC (CallsM.ren ((rpack_c (m := 32) hL hn hq s1 (g1.le (by omega) (by omega)) hv1) _ _ q2) [0, 1, 2, 11, 12] 14 rfl rfl rfl rfl) ?_
            have kx_s2 := (keep_pack q2).1.trans kx_s1
            have kt_s2 := (keep_pack q2).2.trans kt_s1
            have q2' : atR (isV L · w_pack) (packR L) (fieldR L) s1 = (x, s2) := by unfold atR; rw [if_pos hv1]; exact q2
            have hsim := (sim_packAt (m := 32) hL (sim_field hL hE)).less (a' := 3) (b' := 3) 3 (by omega) (by omega)
            have g2 := hsim.gd g1 (by omega) q2'
            have hgrow : s2.err = 0 → s.i + 1 ≤ s2.i := fun h2 => by
              have := hsim.grow1 mo_packAt g1 q2' h2
              omega
            have hlc : (l ++ [x]).length = l.length + 1 := by simp
            clear q2 q2' hsim
            repeat' (first | refine tT ?_ | refine tF ?_ | refine ex_dec (fun _ => ?_) (fun _ => ?_) | refine t8 ?_ | refine tI ?_ | refine tU ?_ | refine tA ?_ | refine tB ?_ | refine tL ?_ | refine tN ?_ | fail "no step")
            refine ex_app (l.length) (1) 1000 (by first | rfl | (simp; done) | (simp; omega)) (by first | rfl | (simp; done) | (simp; omega)) rfl (by omega) ?_
            refine ex_is (List.map itD (l ++ [x])) (by rw [List.map_append]; rfl) ?_
            repeat' (first | refine tT ?_ | refine tF ?_ | refine ex_dec (fun _ => ?_) (fun _ => ?_) | refine t8 ?_ | refine tI ?_ | refine tU ?_ | refine tA ?_ | refine tB ?_ | refine tL ?_ | refine tN ?_ | fail "no step")
            exact ex_round (s2, xl, tl, l ++ [x], n) ⟨g2.le (by omega) (by omega), kx_s2, kt_s2, fun h => ⟨by have := hgrow h; omega, by rw [hlc]; have := hgrow h; omega⟩, by rw [hlc]; omega, hT⟩ (by show n < n + 1; omega) (SLe.ren [(0, 0), (1, 1), (2, 2), (3, 3), (4, 4), (7, 7), (8, 8), (9, 9), (15, 10), (11, 11), (12, 12)] ⟨⟨rfl, rfl⟩, ⟨rfl, rfl⟩, ⟨rfl, rfl⟩, trivial⟩ ⟨⟨rfl, rfl⟩, ⟨rfl, rfl⟩, ⟨rfl, rfl⟩, ⟨rfl, rfl⟩, ⟨rfl, rfl⟩, ⟨rfl, rfl⟩, ⟨rfl, rfl⟩, ⟨rfl, rfl⟩, ⟨rfl, rfl⟩, trivial⟩ rfl)
    · replace hT := (rand (itemsR_err he n l)).symm.trans hT
      rw [← hK] at hT
      replace hT : (takeR L t_rcur >>= fun _ => pure (⟨w, ps, l⟩ : RC)) s = (v, st') := hT
      repeat' (first | refine tT ?_ | refine tF ?_ | refine ex_dec (fun _ => ?_) (fun _ => ?_) | refine t8 ?_ | refine tI ?_ | refine tU ?_ | refine tA ?_ | refine tB ?_ | refine tL ?_ | refine tN ?_ | fail "no step")
      rcases q1 : (takeR L t_rcur) (s) with ⟨_, s1⟩
      replace hT := (rand q1).symm.trans hT
      refine sC (CallsM.ren ((rtake_c s hsi hn t_rcur) _ _ q1) [0, 1, 2, 11, 12] 13 rfl rfl rfl rfl) ?_
      have kx_s1 := (keep_take q1).1.trans kx_s
      have kt_s1 := (keep_take q1).2.trans kt_s
      obtain rfl : (⟨w, ps, l⟩ : RC) = v := congrArg Prod.fst hT
      obtain rfl : s1 = st' := congrArg Prod.snd hT
      repeat' (first | refine tT ?_ | refine tF ?_ | refine ex_dec (fun _ => ?_) (fun _ => ?_) | refine t8 ?_ | refine tI ?_ | refine tU ?_ | refine tA ?_ | refine tB ?_ | refine tL ?_ | refine tN ?_ | fail "no step")
      subst kx_s1
      subst kt_s1
      exact ⟨rfl, TLe.rfl, rfl, rfl⟩
end
end Go.Proofs.YtkbhmcdoedmffaaGreatDoor

namespace Go.Proofs.YtkbhmcdoedmffaaGreatDoor

structure Cut (L L' : List TokP) (k : Nat) : Prop where
  lo : ∀ i, i < k → (tk L' i).k = (tk L i).k ∧ (tk L' i).t = (tk L i).t ∧ (tk L' i).n = (tk L i).n
  fin : (tk L' k).k = 3
  len : L'.length = k + 1
  le : k < L.length
def EndK (k : Nat) {α : Type} (r : PR α) : Prop := r = .err k 4 ∨ ∃ v s, r = .ok v s ∧ s.i = k
structure PA (k lo : Nat) {α : Type} (x x' : PM α) : Prop where
  mono : ∀ s v s', x s = .ok v s' → s.i ≤ s'.i
  pre : ∀ s v s', lo ≤ s.i → s.i ≤ k → x s = .ok v s' → (s'.i ≤ k ∧ x' s = .ok v s') ∨ EndK k (x' s)
  fin : ∀ s, s.i = k → EndK k (x' s)
section
variable {k lo : Nat} {L L' : List TokP} {α β : Type}
structure Ask (L L' : List TokP) (k : Nat) (p p' : Nat → Bool) : Prop where
  lo : ∀ i, i < k → p' i = p i
  fin : p' k = false
variable (hc : Cut L L' k)
include hc
def lineB (lv : Nat) (x : PM Int) (n : Nat) (left : Int) (t : List UInt8) : PM Int := x >>= fun right => putM ⟨3, t, 0, [], [left, right]⟩ >>= fun k => lineN L lv x n k
omit hc in
def derB (L : List TokP) (t : List UInt8) : PM (Nat × List UInt8 × List UInt8) := takeM L t_lpar >>= fun _ => nameM L >>= fun a => (if 3 ≤ derOf t then takeM L t_dots >>= fun _ => nameM L else pure []) >>= fun b => takeM L t_rpar >>= fun _ => pure (derOf t, a, b)
def packB (L : List TokP) (z : Nat) (lt : Bool) : PM IT := takeM L t_lcur >>= fun _ => (fun s => subsN L (L.length - s.i + 1) [] s) >>= fun l => takeM L t_rcur >>= fun _ => pure (⟨[], -1, 0, [], [], -1, z, lt, l⟩ : IT)
def packC (L : List TokP) : PM IT := fun s => match (if (tk L s.i).k = 0 then integerV (tk L s.i).t else none) with
  | none => failM 4 s
  | some (z, lt) => (stepM >>= fun _ => packB L z lt) s
end
end Go.Proofs.YtkbhmcdoedmffaaGreatDoor

namespace Go.Proofs.YtkbhmcdoedmffaaGreatDoor
open Go.RowKit

theorem code_after {C : Ctx} {c : Code} (hL : LOk C.P C.L) (hm : C.P.follows .mixedOrders = true) {tm : List (Nat × TV)} {m : List (Nat × Blk)} (hml : (m.all fun p => Nat.blt p.1 C.nx0) = true) {upd : List (Nat × Blk)} {new : List Blk}
    (h : vc C c ⟨tm, m, C.nx0⟩ fun e st => match e with
      | .normal => retOkP (m.map (·.1)) C.nx0 upd new st
      | _ => False)
    {ι : Nat → Value} {S : Nat → Prop} {w : World} {a : Act} (hS : ∀ b, S b → b < w.heap.size) (hG : C.Γ.G S w) (hblk : ∀ p ∈ m, BlkOk ι S w p.1 p.2)
    (hdst : ∀ p ∈ m, ∀ q ∈ m, ∀ g, p.2.live = true → q.2.live = true → blkOf (ι p.1) = some g → blkOf (ι q.1) = some g → p.1 = q.1) (htm : ∀ t tv, findL tm t = some tv → V ι S w tv (a.tmps.getD t undef)) (hsz : a.tmps.size = C.n) (hdn : a.defers = []) :
    c.wp C.P (fun e a' w' => e = .normal ∧ a'.defers = [] ∧ ∃ ι' S', After ι S w C.nx0 ⟨.und, m.map (·.1), upd, new⟩ undef ι' S' w') a w := by
  have hmlt : ∀ p ∈ m, p.1 < C.nx0 := fun p hp => Nat.lt_of_succ_le (Nat.le_of_ble_eq_true (List.all_eq_true.1 hml p hp))
  have hR : RS ⟨w, fun g => ∃ p ∈ m, p.2.live = true ∧ blkOf (ι p.1) = some g, S, C.n, C.Γ, ι, C.nx0, []⟩ ⟨tm, m, C.nx0⟩ a w :=
    ⟨ι, S, rfl, rfl, rfl, Nat.le_refl _, fun _ _ _ => rfl, hS, fun _ h => h, fun _ h => .inl h, htm, fun k b hk => hblk _ (findL_mem hk), fun k b hk hl g hg => .inl ⟨(k, b), findL_mem hk, hl, hg⟩, fun k k' b b' g hk hk' hl hl' hg hg' => hdst _ (findL_mem hk) _ (findL_mem hk') g hl hl' hg hg', hdn, hsz, hG, fun _ _ => rfl⟩
  refine Code.wp_mono (fun e a' w' hq => ?_) (vc_ok hL ⟨rfl, rfl, rfl⟩ hm c _ _ _ w h hR)
  obtain ⟨st, ⟨ι1, S1, I⟩, hq⟩ := hq
  cases e with
  | normal =>
    have hq : retOkP (m.map (·.1)) C.nx0 upd new st := hq
    unfold retOkP at hq
    split at hq
    · rename_i u n src hex
      obtain ⟨hchk, hu, hnw⟩ := hq
      obtain ⟨ι', S', A⟩ := core_after (C := C) hmlt ι1 S1 .und undef [] u n src I hex hchk hu hnw (by simp) (fun _ => rfl)
      exact ⟨rfl, I.dn, ι', S', A⟩
    · exact hq.elim
  | _ => exact hq.elim
def caughtSt (st : St) (upd : List (Nat × Blk)) : St := ⟨st.tm, upd ++ st.mem, st.nx⟩
def fnQD (L : Nat → Option Lay) (rs : List ResultVar) (r : TV) (Hit : Value → St → List (Nat × Blk) → Prop) : Exit → St → Prop
  | .normal, st | .ret, st => retOk L rs r st
  | .panic ch, st => ∃ v upd, ch = panE v ∧ Hit v st upd ∧ (upd.all fun p => match findL st.mem p.1 with | some b => b.live | none => false) = true ∧ uniqB upd = true ∧ retOk L rs r (caughtSt st upd)
  | _, _ => False
def capsOk : List Nat → List Nat → St → Prop
  | t :: ts, k :: ks, st => findL st.tm t = some (.o (.c (.ptr k 0))) ∧ capsOk ts ks st
  | [], [], _ => True
  | _, _, _ => False
theorem capsOk_vs {E : Env} {ι : Nat → Value} {S : Nat → Prop} {st : St} {a : Act} {w : World} (I : Inv E ι S (findL st.tm) (findL st.mem) a w) : ∀ {caps capN : List Nat}, capsOk caps capN st → (caps.map fun t => a.tmps.getD t undef) = capN.map ι
  | [], [], _ => rfl
  | t :: ts, k :: ks, h => by
    rw [List.map_cons, List.map_cons, capsOk_vs I h.2]
    obtain ⟨b, h1, h2⟩ := I.tms t _ h.1
    rw [h2, h1]
  | [], _ :: _, h => h.elim
  | _ :: _, [], h => h.elim
end Go.Proofs.YtkbhmcdoedmffaaGreatDoor

namespace Go.Proofs.YtkbhmcdoedmffaaGreatDoor
open Go.RowKit

theorem sle_fixO {nx0 : Nat} {tm : List (Nat × TV)} {mem : List (Nat × Blk)} {nx : Nat} (k0 j k : Nat) {cells : List CV} {tg0 tg : TypeId} {dl : List D} (h0 : findL mem k0 = some (.obj cells tg0)) (hj : cells[j]? = some (.ptr k 0)) (hk : findL mem k = some (.obj (dl.map .d) tg)) (hne : Nat.beq k0 k = false) :
    SLe nx0 ⟨tm, (k0, .obj (cells.set j (.eptr dl)) tg0) :: (k, .dead) :: mem, nx⟩ ⟨tm, mem, nx⟩ := fun E a w he ⟨ι, S, I⟩ => by
  have hne' := Nat.ne_of_beq_eq_false hne
  obtain ⟨b, arr, ty, e1, e2, e3, e4⟩ := I.blk k _ hk
  have hbk : blkOf (ι k) = some b := by rw [e1]; rfl
  obtain ⟨S', hS'⟩ : ∃ S' : Nat → Prop, ∀ g, S' g ↔ S g ∨ g = b := ⟨fun g => S g ∨ g = b, fun _ => Iff.rfl⟩
  have hSS : ∀ g, S g → S' g := fun g h => (hS' g).2 (.inl h)
  have hblt : b < w.heap.size := (Array.getElem?_eq_some_iff.1 e2).1
  have hcase : ∀ n c, findL ((k0, Blk.obj (cells.set j (.eptr dl)) tg0) :: (k, Blk.dead) :: mem) n = some c → c.live = true → (n = k0 ∧ c = .obj (cells.set j (.eptr dl)) tg0) ∨ (n ≠ k ∧ findL mem n = some c) := fun n c hn hl => by
    simp only [findL] at hn
    split at hn
    · rename_i e; cases hn; exact .inl ⟨e.symm, rfl⟩
    · split at hn
      · cases hn; cases hl
      · rename_i e; exact .inr ⟨fun h => e h.symm, hn⟩
  have hold : ∀ n c, findL mem n = some c → c.live = true → n ≠ k → BlkOk ι S' w n c := fun n c hn hl hnk => by
    have hc := I.blk n c hn
    refine BlkOk.mono (fun _ _ => rfl) hSS (fun _ => rfl) (fun _ _ => rfl) (fun _ g hg => ⟨rfl, fun hs => ?_⟩) hc
    rcases (hS' g).1 hs with h | h
    · exact ((hc.sep hl hg).2) h
    · subst h
      exact hnk (I.dst n k c _ g hn hk hl rfl hg hbk)
  refine ⟨ι, S', I.os, I.tape, I.output, I.size, I.old, fun g hg => ?_, fun g hg => hSS g (I.s0 g hg), fun g hg => ?_, fun t tv ht => V.mono (fun _ _ => rfl) hSS (fun _ _ => rfl) (I.tms t tv ht), fun n c hn => ?_, fun n c hn hl g hg => ?_, fun n n' c c' g hn hn' hl hl' hg hg' => ?_, I.dn, I.sz, E.Γ.mono (fun _ _ => rfl) hSS I.gl, I.ik⟩
  · rcases (hS' g).1 hg with h | h
    · exact I.slt g h
    · subst h; exact hblt
  · rcases (hS' g).1 hg with h | h
    · exact I.sg g h
    · subst h
      rcases I.mutb k _ hk rfl g hbk with h | h
      · exact .inr (.inr h)
      · exact .inr (.inl h)
  · cases hl : c.live with
    | false => cases c <;> first | trivial | cases hl
    | true =>
      rcases hcase n c hn hl with ⟨rfl, rfl⟩ | ⟨hnk, hn⟩
      · obtain ⟨b2, arr2, ty2, f1, f2, f3, f4⟩ := hold n _ h0 rfl hne'
        refine ⟨b2, arr2, ty2, f1, f2, ⟨by simpa using f3.len, fun i x u hx hu => ?_⟩, f4⟩
        rw [List.getElem?_set] at hx
        split at hx
        · rename_i ei
          subst ei
          split at hx
          · cases hx
            have : VC ι S' w (.ptr k 0) u := f3.get j _ u hj hu
            obtain ⟨b3, g1, g2⟩ := this
            rw [e1] at g1
            cases g1
            have e3' : All2 (fun (d : D) u => Imm S w d u) dl arr.toList := (All2.of_map_left (R := VC ι S w) (f := CV.d) e3).mono fun _ _ h => h
            refine ⟨b, 0, fun i => arr.toList.getD i undef, g2, fun _ => (hS' b).2 (.inr rfl), fun i d hd => ?_⟩
            obtain ⟨u1, hu1, hd1⟩ := e3'.at_left hd
            rw [Nat.zero_add, cell_of_row w b i arr ty.1 (0, 0) e2]
            have hg : arr.toList.getD i undef = u1 := by rw [List.getD_eq_getElem?_getD, hu1]; rfl
            refine ⟨?_, ?_⟩
            · show arr[i]? = some (arr.toList.getD i undef)
              rw [hg, ← hu1]; simp
            · show Imm S' w d (arr.toList.getD i undef)
              rw [hg]; exact hd1.mono (fun _ _ => rfl) hSS
          · cases hx
        · exact f3.get i x u hx hu
      · exact hold n c hn hl hnk
  · rcases hcase n c hn hl with ⟨rfl, rfl⟩ | ⟨hnk, hn⟩
    · exact I.mutb _ _ h0 rfl g hg
    · exact I.mutb n c hn hl g hg
  · have key : ∀ n c, findL ((k0, Blk.obj (cells.set j (.eptr dl)) tg0) :: (k, Blk.dead) :: mem) n = some c → c.live = true → ∃ c', findL mem n = some c' ∧ c'.live = true := fun n c hn hl => by
      rcases hcase n c hn hl with ⟨rfl, rfl⟩ | ⟨hnk, hn⟩
      · exact ⟨_, h0, rfl⟩
      · exact ⟨c, hn, hl⟩
    obtain ⟨d1, q1, q2⟩ := key n c hn hl
    obtain ⟨d2, q3, q4⟩ := key n' c' hn' hl'
    exact I.dst n n' d1 d2 g q1 q3 q2 q4 hg hg'
def plainOk (L : Nat → Option Lay) (rs : List ResultVar) (r : TV) (st : St) : Prop :=
  match plainT (rs.map (resC L st)) with
  | some ys => TLe (retT ys) r ∧ (retT ys).pure = true
  | none => False
def retOkE (nx0 : Nat) (L : Nat → Option Lay) (rs : List ResultVar) (r : TV) (st : St) : Prop := ∃ st', SLe nx0 st' st ∧ plainOk L rs r st'
theorem end_dataE {C : Ctx} (hL : LOk C.P C.L) {S : Nat → Prop} {w w' : World} {st : St} {a : Act} {dd : List Deferred} {ιx : Nat → Value} {nxx : Nat} {fn : Func} {r : TV} (hR' : RS ⟨w, fun _ => False, S, C.n, C.Γ, ιx, nxx, dd⟩ st a w') (hret : retOkE nxx C.L fn.results.toList r st) :
    ∃ v, (results fn a.tmps).run C.P w' = .ok v w' ∧ ∃ x S', Ending.returned v = .returned x ∧ Below w.heap.size w w' ∧ (∀ b, S b → S' b) ∧ (∀ b, S' b → S b ∨ w.heap.size ≤ b) ∧ (∀ b, S' b → b < w'.heap.size) ∧ V ι0 S' w' r x := by
  obtain ⟨st', hle, hp⟩ := hret
  obtain ⟨ι, S1, I⟩ := hle _ _ _ rfl hR'
  unfold plainOk at hp
  split at hp
  · rename_i ys hy
    obtain ⟨v, h1, h2⟩ := results_okR hL I hy
    refine ⟨v, h1, v, S1, rfl, ⟨I.os, I.tape, I.output, I.size, fun b hb => I.old b hb (fun h => h)⟩, I.s0, fun b hb => ?_, I.slt, hp.1 _ _ _ _ (V.mono (fun _ _ => rfl) (fun _ h => h) (fun k hk => ?_) h2)⟩
    · rcases I.sg b hb with h | h | h
      · exact .inl h
      · exact .inr h
      · exact h.elim
    · rw [TV.pure_men hp.2 k] at hk; cases hk
  · exact hp.elim
def fnQE (nx0 : Nat) (L : Nat → Option Lay) (rs : List ResultVar) (r : TV) (Hit : Value → St → List (Nat × Blk) → Prop) : Exit → St → Prop
  | .normal, st | .ret, st => retOkE nx0 L rs r st
  | .panic ch, st => ∃ v upd, ch = panE v ∧ Hit v st upd ∧ (upd.all fun p => match findL st.mem p.1 with | some b => b.live | none => false) = true ∧ uniqB upd = true ∧ retOkE nx0 L rs r (caughtSt st upd)
  | _, _ => False
theorem fn_ruleE {C : Ctx} {f g : FuncId} {fn : Func} {x0 x1 x2 rg c : Code} {t9 nx2 : Nat} {caps capN : List Nat} (hL : LOk C.P C.L) (hm : C.P.follows .mixedOrders = true) (hf : C.P.funcs[f]? = some fn) (hb : fn.body = some (.seq x0 (.seq x1 (.seq x2 (.seq rg c))))) (hname : (fn.name == "runtime.NumGoroutine") = false)
    (hn : fn.ntmps = C.n) (h0 : C.nx0 = 0) {xs : List T1} (hx : Nat.ble xs.length C.n = true) {r : TV} (Hit : Value → St → List (Nat × Blk) → Prop)
    (hdef : ∀ (a : Act) (w : World) (Q : Exit → Act → World → Prop), a.tmps.size = C.n → (∀ u : Value, Q .normal { tmps := a.tmps.setIfInBounds t9 u, defers := { target := .fn (.func g) (caps.map fun t => a.tmps.getD t undef).toArray, args := #[] } :: a.defers } w) → rg.wp C.P Q a w)
    (henter : ∀ (vs : Array Value) (w : World), (callFunc g vs).run C.P w = .ok (.enter g vs) w)
    (hidle : ∀ (vs : List Value) (w : World), vs.length = capN.length → CallsD C.P g vs.toArray .returning w fun e u' w' => e = .returned (.tuple #[]) ∧ u' = .returning ∧ w' = w)
    (hcn : (capN.all fun k => Nat.blt k nx2) = true)
    (hhit : ∀ v st upd, Hit v st upd → ∀ (ι : Nat → Value) (S : Nat → Prop) (w : World), (∀ b, S b → b < w.heap.size) → C.Γ.G S w → (∀ k b, findL st.mem k = some b → BlkOk ι S w k b) →
      (∀ k k' b b' g, findL st.mem k = some b → findL st.mem k' = some b' → b.live = true → b'.live = true → blkOf (ι k) = some g → blkOf (ι k') = some g → k = k') →
      CallsD C.P g (capN.map ι).toArray (.panicking (panE v)) w fun e' u' w' => e' = .returned (.tuple #[]) ∧ u' = .panicking [{ v, recovered := true }] ∧ ∃ ι' S', After ι S w st.nx ⟨.und, [], upd, []⟩ undef ι' S' w')
    (h : vc C x0 ⟨argTm 0 xs, [], 0⟩ fun e st => match e with
      | .normal => vc C x1 st fun e st => match e with
        | .normal => vc C x2 st fun e st => match e with
          | .normal => capsOk caps capN st ∧ Nat.ble nx2 st.nx = true ∧ vc { C with nx0 := nx2 } c ⟨(t9, .no) :: st.tm, st.mem, st.nx⟩ (fnQE nx2 C.L fn.results.toList r Hit)
          | .ret => retOkE 0 C.L fn.results.toList r st
          | _ => False
        | _ => False
      | _ => False) : CallsA C.P C.Γ f xs r := by
  refine ⟨⟨fn, hf, hname, by rw [hb]; rfl⟩, fun S w vs hS hG hvs => ?_⟩
  have hxl := Nat.le_of_ble_eq_true hx
  have hlen := hvs.len
  refine calls_of_wp_defers hf hb ?_
  have hR : RS ⟨w, fun _ => False, S, C.n, C.Γ, ι0, 0, []⟩ ⟨argTm 0 xs, [], 0⟩ { tmps := vs.toArray ++ Array.replicate (fn.ntmps - vs.toArray.size) undef, defers := [] } w := by
    refine ⟨ι0, S, rfl, rfl, rfl, Nat.le_refl _, fun _ _ _ => rfl, hS, fun _ h => h, fun _ h => .inl h, fun t tv ht => ?_, (fun k b hk => by cases hk), (fun k b hk => by cases hk), (fun k k' b b' g hk => by cases hk), rfl, ?_, hG, fun _ _ => rfl⟩
    · obtain ⟨x, rfl, _, hx⟩ := argTm_find xs 0 t tv ht
      rw [Nat.sub_zero] at hx
      obtain ⟨u, hu, hv⟩ := hvs.at_left hx
      have hlt := (List.getElem?_eq_some_iff.1 hu).1
      have : (vs.toArray ++ Array.replicate (fn.ntmps - vs.toArray.size) undef).getD t undef = u := by
        simp [Array.getElem?_append, hlt, hu]
        have h2 := (List.getElem?_eq_some_iff.1 hu).2
        exact h2
      show V ι0 S w (.o x) _
      dsimp only
      rw [this]
      exact hv
    · simp; omega
  refine wp_seq (Code.wp_mono (fun e a w1 hq => ?_) (vc_ok hL ⟨rfl, rfl, h0.symm⟩ hm x0 _ _ _ w h hR))
  obtain ⟨st1, hR1, hq⟩ := hq
  cases e with
  | normal =>
    refine wp_seq (Code.wp_mono (fun e a1 w1b hq1 => ?_) (vc_ok hL ⟨rfl, rfl, h0.symm⟩ hm x1 _ _ _ w1 hq hR1))
    obtain ⟨st1b, hR1b, hq1⟩ := hq1
    cases e with
    | normal =>
     refine wp_seq (Code.wp_mono (fun e a2 w2 hq2 => ?_) (vc_ok hL ⟨rfl, rfl, h0.symm⟩ hm x2 _ _ _ w1b hq1 hR1b))
     obtain ⟨st2, hR2, hq2⟩ := hq2
     cases e with
     | ret =>
      have hq2 : retOkE 0 C.L fn.results.toList r st2 := hq2
      obtain ⟨v, h1, h2⟩ := end_dataE hL hR2 hq2
      obtain ⟨ι2, S2, I2⟩ := hR2
      show Leaves C.P fn a2.tmps _ a2.defers .returning w2
      rw [I2.dn]
      exact ⟨v, h1, h2⟩
     | normal =>
      obtain ⟨ι2, S2, I2⟩ := hR2
      refine wp_seq (hdef a2 w2 _ I2.sz fun u => ?_)
      rw [I2.dn]
      obtain ⟨hcaps, hnx2, hq2⟩ := hq2
      rw [capsOk_vs I2 hcaps]
      obtain ⟨d, hd⟩ : ∃ d : Deferred, d = { target := .fn (.func g) (capN.map ι2).toArray, args := #[] } := ⟨_, rfl⟩
      rw [← hd]
      have hR3 : RS ⟨w, fun _ => False, S, C.n, C.Γ, ι2, nx2, [d]⟩ ⟨(t9, .no) :: st2.tm, st2.mem, st2.nx⟩ { tmps := a2.tmps.setIfInBounds t9 u, defers := [d] } w2 := by
        refine ⟨ι2, S2, I2.os, I2.tape, I2.output, I2.size, I2.old, I2.slt, I2.s0, I2.sg, fun t tv ht => ?_, I2.blk, I2.mutb, I2.dst, rfl, by simpa using I2.sz, I2.gl, fun _ _ => rfl⟩
        simp only [findL] at ht
        split at ht
        · cases ht; trivial
        · rename_i hne
          have := I2.tms t tv ht
          have e : (a2.tmps.setIfInBounds t9 u).getD t undef = a2.tmps.getD t undef := by
            simp only [Array.getD_eq_getD_getElem?]
            rw [Array.getElem?_setIfInBounds_ne hne]
          show V ι2 S2 w2 tv ((a2.tmps.setIfInBounds t9 u).getD t undef)
          rw [e]
          exact this
      refine Code.wp_mono (fun e a3 w3 hq3 => ?_) (vc_ok (C := { C with nx0 := nx2 }) hL ⟨rfl, rfl, rfl⟩ hm c _ _ _ w2 hq2 hR3)
      obtain ⟨st3, hR4, hq3⟩ := hq3
      have key : retOkE nx2 C.L fn.results.toList r st3 → Leaves C.P fn a3.tmps (fun e w' => ∃ x S', e = .returned x ∧ Below w.heap.size w w' ∧ (∀ b, S b → S' b) ∧ (∀ b, S' b → S b ∨ w.heap.size ≤ b) ∧ (∀ b, S' b → b < w'.heap.size) ∧ V ι0 S' w' r x) a3.defers .returning w3 := fun hret => by
        obtain ⟨v, h1, h2⟩ := end_dataE hL hR4 hret
        obtain ⟨ι4, S4, I4⟩ := hR4
        rw [I4.dn, hd]
        refine leaves_cons (f := g) (args := (capN.map ι2).toArray) (by simp) (by simp [invoke, henter]) ?_
        refine (hidle _ _ (by simp)).mono ?_
        rintro e' u' w4 ⟨rfl, rfl, rfl⟩
        exact ⟨v, h1, h2⟩
      cases e with
      | normal => exact key hq3
      | ret => exact key hq3
      | panic ch =>
        obtain ⟨v, upd, rfl, hh, hlive, huq, hret⟩ := hq3
        obtain ⟨ι4, S4, I4⟩ := hR4
        show Leaves C.P fn a3.tmps _ a3.defers (.panicking (panE v)) w3
        rw [I4.dn, hd]
        have hι : capN.map ι2 = capN.map ι4 := List.map_congr_left fun k hk => (I4.ik k (by have := List.all_eq_true.1 hcn k hk; simpa [Nat.blt_eq] using this)).symm
        rw [hι]
        refine leaves_cons (f := g) (args := (capN.map ι4).toArray) (by simp) (by simp [invoke, henter]) ?_
        refine (hhit v st3 upd hh ι4 S4 w3 I4.slt I4.gl I4.blk I4.dst).mono ?_
        rintro e' u' w4 ⟨rfl, rfl, ι5, S5, A⟩
        have I5 := step_inv (tm' := findL st3.tm) (a' := a3) I4 A (fun k b hk => ?_) (fun i hi => by simp at hi) (fun h => by simp at h) (fun k b b' => uniqB_ok huq k b b') (fun hSb hmen t tv ht => ?_) I4.dn I4.sz
        · have hR5 : RS ⟨w, fun _ => False, S, C.n, C.Γ, ι2, nx2, [d]⟩ (caughtSt st3 upd) a3 w4 := by
            refine ⟨ι5, S5, ?_⟩
            have e : updF (findL st3.mem) ⟨.und, [], upd, []⟩ st3.nx = findL (caughtSt st3 upd).mem := updF_step st3 none ⟨.und, [], upd, []⟩
            rw [← e]
            exact I5
          obtain ⟨v5, h1, h2⟩ := end_dataE hL hR5 hret
          exact ⟨v5, h1, h2⟩
        · have := List.all_eq_true.1 hlive _ hk
          simp only at this
          split at this
          · rename_i b' hb'; exact ⟨b', hb', this⟩
          · cases this
        · exact V.mono hSb A.smono (hmen tv fun i hi => by simp at hi) (I4.tms t tv ht)
      | _ => exact hq3.elim
     | _ => exact hq2.elim
    | _ => exact hq1.elim
  | _ => exact hq.elim
end Go.Proofs.YtkbhmcdoedmffaaGreatDoor

namespace Go.Proofs.YtkbhmcdoedmffaaGreatDoor
open Go.RowKit

section
variable {L : List TokP} {m : Nat}
theorem SLe.via {nx0 : Nat} {s t u : St} (h' : SLe nx0 t u) (h : SLe nx0 s t) : SLe nx0 s u := h.trans h'
theorem takeY {t : List UInt8} {i : Nat} {xs : List EX} {ts : List TY} (h : isV L i t = true) : takeM L t ⟨i, xs, ts⟩ = .ok () ⟨i + 1, xs, ts⟩ := if_pos h
theorem deeper2_c {x : PM Int} {h : FuncId} (s : PS) (hi : s.i < L.length) (hm : m ≤ 32) (hc : ∀ m', m = m' + 1 → C2 L m' h [] x (fun k => Ti k) s) (b : Bool) :
    C2 L m 134 [c1 (db b), .f h 1 [.ptr 0 0]] (enterM m b >>= fun _ => x) (fun k => Ti k) s := by
  refine C2.of fun T hT => ?_
  cases b
  · obtain rfl : PR.err s.i 4 = T := hT
    refine fn_ruleP (C := ⟨Tryz.prog, layF, Tryz.f134.ntmps, ΓL, 6, [], []⟩) layF_ok mixed Tryz.func134 rfl (by kernel_rfl) rfl rfl rfl SLe.rfl ?_
    repeat' (first | refine tT ?_ | refine tF ?_ | refine ex_dec (fun _ => ?_) (fun _ => ?_) | refine t8 ?_ | refine tI ?_ | refine tU ?_ | refine tA ?_ | refine tB ?_ | refine tL ?_ | refine tN ?_ | fail "no step")
    refine sC (CallsM.ren ((fail_c s.i 4 hi)) [0, 1] 6 rfl rfl rfl rfl) ?_
    exact ⟨⟨_, rfl, rfl⟩, rfl, rfl⟩
  · cases m with
    | zero =>
      obtain rfl : PR.err s.i 8 = T := hT
      refine fn_ruleP (C := ⟨Tryz.prog, layF, Tryz.f134.ntmps, ΓL, 6, [], []⟩) layF_ok mixed Tryz.func134 rfl (by kernel_rfl) rfl rfl rfl SLe.rfl ?_
      repeat' (first | refine tT ?_ | refine tF ?_ | refine ex_dec (fun _ => ?_) (fun _ => ?_) | refine t8 ?_ | refine tI ?_ | refine tU ?_ | refine tA ?_ | refine tB ?_ | refine tL ?_ | refine tN ?_ | fail "no step")
      refine sC (CallsM.ren ((fail_c s.i 8 hi)) [0, 1] 6 rfl rfl rfl rfl) ?_
      exact ⟨⟨_, rfl, rfl⟩, rfl, rfl⟩
    | succ m =>
      have hT : x s = T := hT
      have hc := hc m rfl
      rcases T with ⟨k, s1⟩ | ⟨i, e⟩
      ·
        refine fn_ruleP (C := ⟨Tryz.prog, layF, Tryz.f134.ntmps, ΓL, 6, [], []⟩) layF_ok mixed Tryz.func134 rfl (by kernel_rfl) rfl rfl rfl SLe.rfl ?_
        repeat' (first | refine ex_i64 (32 - ((m : Nat) : Int)) (by omega) (by omega) (by omega) ?_ | refine ex_u64 (32 - ((m : Nat) : Int)) (by omega) (by omega) (by omega) ?_ | refine ex_u8 (32 - ((m : Nat) : Int)) (by omega) (by omega) (by omega) ?_ | refine tT ?_ | refine tF ?_ | refine ex_dec (fun _ => ?_) (fun _ => ?_) | refine t8 ?_ | refine tI ?_ | refine tU ?_ | refine tA ?_ | refine tB ?_ | refine tL ?_ | refine tN ?_ | fail "no step")
        refine sC (CallsM.ren ((hc.ok hT)) [0, 1, 2, 3, 4, 5] 6 rfl rfl rfl rfl) ?_
        repeat' (first | refine ex_i64 (32 - ((m + 1 : Nat) : Int)) (by omega) (by omega) (by omega) ?_ | refine ex_u64 (32 - ((m + 1 : Nat) : Int)) (by omega) (by omega) (by omega) ?_ | refine ex_u8 (32 - ((m + 1 : Nat) : Int)) (by omega) (by omega) (by omega) ?_ | refine tT ?_ | refine tF ?_ | refine ex_dec (fun _ => ?_) (fun _ => ?_) | refine t8 ?_ | refine tI ?_ | refine tU ?_ | refine tA ?_ | refine tB ?_ | refine tL ?_ | refine tN ?_ | fail "no step")
        exact ⟨rfl, TLe.rfl, rfl, rfl⟩
      ·
        refine fn_ruleP (C := ⟨Tryz.prog, layF, Tryz.f134.ntmps, ΓL, 6, [], []⟩) layF_ok mixed Tryz.func134 rfl (by kernel_rfl) rfl rfl rfl SLe.rfl ?_
        repeat' (first | refine ex_i64 (32 - ((m : Nat) : Int)) (by omega) (by omega) (by omega) ?_ | refine ex_u64 (32 - ((m : Nat) : Int)) (by omega) (by omega) (by omega) ?_ | refine ex_u8 (32 - ((m : Nat) : Int)) (by omega) (by omega) (by omega) ?_ | refine tT ?_ | refine tF ?_ | refine ex_dec (fun _ => ?_) (fun _ => ?_) | refine t8 ?_ | refine tI ?_ | refine tU ?_ | refine tA ?_ | refine tB ?_ | refine tL ?_ | refine tN ?_ | fail "no step")
        refine sC (CallsM.ren ((hc.err hT)) [0, 1, 2, 3, 4, 5] 6 rfl rfl rfl rfl) ?_
        exact ⟨⟨_, rfl, rfl⟩, rfl, rfl⟩
theorem inner_c (hm : m ≤ 32) {kd : PM Int} (s : PS) (hi : s.i < L.length) (hc : ∀ m', m = m' + 1 → C2 L m' 85 [] kd (fun k => Ti k) s) : C2 L m 113 [] (innerM L m kd) (fun k => Ti k) s := by
  refine C2.of fun T hT => ?_
  have hT : (enterM m (startsV L s.i) >>= fun _ => kd) s = T := hT
  have hd := deeper2_c s hi hm hc (startsV L s.i)
  rcases T with ⟨k, s1⟩ | ⟨i, e⟩
  ·
    refine fn_ruleP (C := ⟨Tryz.prog, layF, Tryz.f113.ntmps, ΓL, 6, [], []⟩) layF_ok mixed Tryz.func113 rfl (by kernel_rfl) rfl rfl rfl SLe.rfl ?_
    repeat' (first | refine tT ?_ | refine tF ?_ | refine ex_dec (fun _ => ?_) (fun _ => ?_) | refine t8 ?_ | refine tI ?_ | refine tU ?_ | refine tA ?_ | refine tB ?_ | refine tL ?_ | refine tN ?_ | fail "no step")
    refine sC (CallsM.ren ((starts_c (m := m) s.i hi)) [0, 1] 6 rfl rfl rfl rfl) ?_
    repeat' (first | refine tT ?_ | refine tF ?_ | refine ex_dec (fun _ => ?_) (fun _ => ?_) | refine t8 ?_ | refine tI ?_ | refine tU ?_ | refine tA ?_ | refine tB ?_ | refine tL ?_ | refine tN ?_ | fail "no step")
    refine sC (CallsM.ren ((hd.ok hT)) [0, 1, 2, 3, 4, 5] 6 rfl rfl rfl rfl) ?_
    repeat' (first | refine tT ?_ | refine tF ?_ | refine ex_dec (fun _ => ?_) (fun _ => ?_) | refine t8 ?_ | refine tI ?_ | refine tU ?_ | refine tA ?_ | refine tB ?_ | refine tL ?_ | refine tN ?_ | fail "no step")
    exact ⟨rfl, TLe.rfl, rfl, rfl⟩
  ·
    refine fn_ruleP (C := ⟨Tryz.prog, layF, Tryz.f113.ntmps, ΓL, 6, [], []⟩) layF_ok mixed Tryz.func113 rfl (by kernel_rfl) rfl rfl rfl SLe.rfl ?_
    repeat' (first | refine tT ?_ | refine tF ?_ | refine ex_dec (fun _ => ?_) (fun _ => ?_) | refine t8 ?_ | refine tI ?_ | refine tU ?_ | refine tA ?_ | refine tB ?_ | refine tL ?_ | refine tN ?_ | fail "no step")
    refine sC (CallsM.ren ((starts_c (m := m) s.i hi)) [0, 1] 6 rfl rfl rfl rfl) ?_
    repeat' (first | refine tT ?_ | refine tF ?_ | refine ex_dec (fun _ => ?_) (fun _ => ?_) | refine t8 ?_ | refine tI ?_ | refine tU ?_ | refine tA ?_ | refine tB ?_ | refine tL ?_ | refine tN ?_ | fail "no step")
    refine sC (CallsM.ren ((hd.err hT)) [0, 1, 2, 3, 4, 5] 6 rfl rfl rfl rfl) ?_
    exact ⟨⟨_, rfl, rfl⟩, rfl, rfl⟩
theorem layc_c (i : Nat) (ts : List TY) (x n : Int) (cs : List CA) (hx : ts.length ≤ 1000000) : CallsM Tryz.prog ΓL 114 [(0, Qz L m i), (1, Fz 2 3 4 5), (5, Tz ts)] 6 [P0, gD [di 9, di 0, db false, ds ⟨#[]⟩, dnil, di x, di n, .sl 2 (cs.map caD)]] (Ti ts.length) [(0, Qz L m i), (1, Fz 2 3 4 6), (5, .dead)] [Tz (ts ++ [⟨9, 0, false, [], [], x, n, cs⟩])] :=
  (lay_c (L := L) (m := m) ⟨i, [], ts⟩ ⟨9, 0, false, [], [], x, n, cs⟩ hx).argsLe (.cons T1Le.rfl (.cons (T1Le.g (.cons DLe.rfl (.cons DLe.rfl (.cons DLe.rfl (.cons DLe.rfl (.cons DLe.nil (.cons DLe.rfl (.cons DLe.rfl (.cons DLe.rfl .nil))))))))) .nil))
set_option maxHeartbeats 4000000 in
theorem choice_c (hL : TokOk L) (hn : L.length ≤ 100000) (hm : m ≤ 32) {kd : PM Int} (hu : Up L kd 0 0) (hc : ∀ m', m = m' + 1 → ∀ s, SOk L 0 s → C2 L m' 85 [] kd (fun k => Ti k) s) (s : PS) {c : Nat} (hs : SOk L (c + 1) s) :
    C2 L m 115 [] (choiceM L m kd) (fun k => Ti k) s := by
  refine C2.of fun T hT => ?_
  unfold choiceM at hT
  obtain ⟨i, xs, ts⟩ := s
  have hin : ∀ s, SOk L 0 s → C2 L m 113 [] (innerM L m kd) (fun k => Ti k) s := fun s hs => inner_c hm s hs.i fun m' e => hc m' e s hs
  refine fn_ruleP (C := ⟨Tryz.prog, layF, Tryz.f115.ntmps, ΓL, 6, [], []⟩) layF_ok mixed Tryz.func115 rfl (by kernel_rfl) rfl rfl rfl SLe.rfl ?_
  repeat' (first | refine ex_call (plain_c 9) ?_ | refine tT ?_ | refine tF ?_ | refine ex_dec (fun _ => ?_) (fun _ => ?_) | refine t8 ?_ | refine tI ?_ | refine tU ?_ | refine tA ?_ | refine tB ?_ | refine tL ?_ | refine tN ?_ | fail "no step")
  have hcon := take_c (m := m) ⟨i, xs, ts⟩ hs.i (by omega) t_lpar
  rcases hx74 : (takeM L t_lpar) ⟨i, xs, ts⟩ with ⟨_, s9⟩ | ⟨i9, e9⟩
  rotate_left
  · obtain rfl := (and_err hx74).symm.trans hT
    refine sC (CallsM.ren (hcon.err hx74) [0, 1] 7 rfl rfl rfl rfl) ?_
    first | exact ⟨⟨_, rfl, rfl⟩, rfl, rfl⟩ | exact ⟨by kernel_rfl, ⟨_, rfl, rfl⟩, rfl, rfl⟩
  replace hT := (and_ok hx74).symm.trans hT
  refine sC (CallsM.ren (hcon.ok hx74) [0, 1] 7 rfl rfl rfl rfl) ?_
  clear hcon
  have hs1 := (Up.ok (Up.take hL t_lpar 0) hs hx74).1
  obtain rfl := mv_take1 hx74
  repeat' (first | refine tT ?_ | refine tF ?_ | refine ex_dec (fun _ => ?_) (fun _ => ?_) | refine t8 ?_ | refine tI ?_ | refine tU ?_ | refine tA ?_ | refine tB ?_ | refine tL ?_ | refine tN ?_ | fail "no step")
  have hcon := expr_c hL hn m hm ⟨i + 1, xs, ts⟩ (hs1.less (by omega))
  rcases hx : (exprM L m) ⟨i + 1, xs, ts⟩ with ⟨x, ⟨i2, xs2, ts2⟩⟩ | ⟨i9, e9⟩
  rotate_left
  · obtain rfl := (and_err hx).symm.trans hT
    refine sC (CallsM.ren (hcon.err hx) [0, 1, 2, 3, 4, 5] 7 rfl rfl rfl rfl) ?_
    first | exact ⟨⟨_, rfl, rfl⟩, rfl, rfl⟩ | exact ⟨by kernel_rfl, ⟨_, rfl, rfl⟩, rfl, rfl⟩
  replace hT := (and_ok hx).symm.trans hT
  refine sC (CallsM.ren (hcon.ok hx) [0, 1, 2, 3, 4, 5] 7 rfl rfl rfl rfl) ?_
  clear hcon
  have hs2 := (Up.ok (up_expr hL m 1) hs1 hx).1
  obtain rfl := (keep_expr m).eq hx
  repeat' (first | refine tT ?_ | refine tF ?_ | refine ex_dec (fun _ => ?_) (fun _ => ?_) | refine t8 ?_ | refine tI ?_ | refine tU ?_ | refine tA ?_ | refine tB ?_ | refine tL ?_ | refine tN ?_ | fail "no step")
  have hcon := take_c (m := m) ⟨i2, xs2, ts⟩ hs2.i (by omega) t_rpar
  rcases hx78 : (takeM L t_rpar) ⟨i2, xs2, ts⟩ with ⟨_, s9⟩ | ⟨i9, e9⟩
  rotate_left
  · obtain rfl := (and_err hx78).symm.trans hT
    refine sC (CallsM.ren (hcon.err hx78) [0, 1] 8 rfl rfl rfl rfl) ?_
    first | exact ⟨⟨_, rfl, rfl⟩, rfl, rfl⟩ | exact ⟨by kernel_rfl, ⟨_, rfl, rfl⟩, rfl, rfl⟩
  replace hT := (and_ok hx78).symm.trans hT
  refine sC (CallsM.ren (hcon.ok hx78) [0, 1] 8 rfl rfl rfl rfl) ?_
  clear hcon
  have hs3 := (Up.ok (Up.take hL t_rpar 0) hs2 hx78).1
  obtain rfl := mv_take1 hx78
  repeat' (first | refine tT ?_ | refine tF ?_ | refine ex_dec (fun _ => ?_) (fun _ => ?_) | refine t8 ?_ | refine tI ?_ | refine tU ?_ | refine tA ?_ | refine tB ?_ | refine tL ?_ | refine tN ?_ | fail "no step")
  have hcon := take_c (m := m) ⟨i2 + 1, xs2, ts⟩ hs3.i (by omega) t_lcur
  rcases hx80 : (takeM L t_lcur) ⟨i2 + 1, xs2, ts⟩ with ⟨_, s9⟩ | ⟨i9, e9⟩
  rotate_left
  · obtain rfl := (and_err hx80).symm.trans hT
    refine sC (CallsM.ren (hcon.err hx80) [0, 1] 8 rfl rfl rfl rfl) ?_
    first | exact ⟨⟨_, rfl, rfl⟩, rfl, rfl⟩ | exact ⟨by kernel_rfl, ⟨_, rfl, rfl⟩, rfl, rfl⟩
  replace hT := (and_ok hx80).symm.trans hT
  refine sC (CallsM.ren (hcon.ok hx80) [0, 1] 8 rfl rfl rfl rfl) ?_
  clear hcon
  have hs4 := (Up.ok (Up.take hL t_lcur 0) hs3 hx80).1
  obtain rfl := mv_take1 hx80
  repeat' (first | refine tT ?_ | refine tF ?_ | refine ex_dec (fun _ => ?_) (fun _ => ?_) | refine t8 ?_ | refine tI ?_ | refine tU ?_ | refine tA ?_ | refine tB ?_ | refine tL ?_ | refine tN ?_ | fail "no step")
  replace hT : (casesN L m kd (L.length - (i2 + 1 + 1) + 1) [] >>= fun cs => atM (isV L · w_else) (stepM >>= fun _ => takeM L t_colon >>= fun _ => innerM L m kd >>= fun k => takeM L t_semi >>= fun _ => pure k) (pure (-1)) >>= fun k => takeM L t_rcur >>= fun _ => layM { tyP 9 with ex := x, inn := k, cases := cs }) ⟨i2 + 1 + 1, xs2, ts⟩ = T := hT
  refine ex_loop (X := Nat × List EX × List TY × List CA × Nat) (fun ⟨i, xs, ts, cs, _⟩ => ⟨[(0, .o P0), (3, .o (.c (.ptr 6 0)))], [(5, .dead), (0, Qz L m i), (1, Fz 2 3 7 9), (4, .dead), (6, .obj [.d (di 9), .d (di 0), .d (db false), .d (ds ⟨#[]⟩), .d dnil, .d (di x), .d (di (-1)), .row 8]), (7, Xz xs), (8, .row 2 65 (cs.map caD)), (9, Tz ts)], 10⟩) (fun y => L.length - y.1)
    (fun ⟨i, xs, ts, cs, n⟩ => SOk L (c + 4) ⟨i, xs, ts⟩ ∧ L.length < i + n ∧ cs.length ≤ i ∧ (casesN L m kd n cs >>= fun cs => atM (isV L · w_else) (stepM >>= fun _ => takeM L t_colon >>= fun _ => innerM L m kd >>= fun k => takeM L t_semi >>= fun _ => pure k) (pure (-1)) >>= fun k => takeM L t_rcur >>= fun _ => layM { tyP 9 with ex := x, inn := k, cases := cs }) ⟨i, xs, ts⟩ = T) (i2 + 1 + 1, xs2, ts, [], L.length - (i2 + 1 + 1) + 1) ⟨hs4, by omega, Nat.zero_le _, hT⟩
    (SLe.kill (nx := 10) 5 (SLe.via (SLe.ownCell 6 7 8 2 65 rfl rfl rfl rfl rfl rfl) (SLe.ren [(0, 0), (1, 1), (2, 2), (3, 3), (4, 4), (6, 6), (7, 7), (8, 8), (5, 9)] ⟨⟨rfl, rfl⟩, ⟨rfl, rfl⟩, trivial⟩ ⟨⟨rfl, rfl⟩, ⟨rfl, rfl⟩, ⟨rfl, rfl⟩, ⟨rfl, rfl⟩, ⟨rfl, rfl⟩, ⟨rfl, rfl⟩, ⟨rfl, rfl⟩, trivial⟩ rfl))) ?_
  clear hT hx hs4 hs3 hs2 hs1 hs
  rintro ⟨i, xs, ts, cs, n⟩ ⟨hs, hf, hll, hT⟩
  have hi := hs.lt
  cases n with
  | zero => omega
  | succ n =>
    rw [casesN] at hT
    have his := is_c (m := m) i hi w_case
    rcases hv : isV L i w_case with _ | _ <;> rw [hv] at his
    · replace hT := pureT (atnB hT hv)
      refine sC (CallsM.ren (his) [0, 1] 10 rfl rfl rfl rfl) ?_
      repeat' (first | refine tT ?_ | refine tF ?_ | refine ex_dec (fun _ => ?_) (fun _ => ?_) | refine t8 ?_ | refine tI ?_ | refine tU ?_ | refine tA ?_ | refine tB ?_ | refine tL ?_ | refine tN ?_ | fail "no step")
      rcases hv2 : isV L i w_else with _ | _
      · replace hT := pureT (atnB hT hv2)
        refine sC (CallsM.ren ((may_no i hi _ hv2)) [0, 1] 10 rfl rfl rfl rfl) ?_
        repeat' (first | refine tT ?_ | refine tF ?_ | refine ex_dec (fun _ => ?_) (fun _ => ?_) | refine t8 ?_ | refine tI ?_ | refine tU ?_ | refine tA ?_ | refine tB ?_ | refine tL ?_ | refine tN ?_ | fail "no step")
        have hcon := take_c (m := m) ⟨i, xs, ts⟩ hs.i (by omega) t_rcur
        rcases hx102 : (takeM L t_rcur) ⟨i, xs, ts⟩ with ⟨_, s9⟩ | ⟨i9, e9⟩
        rotate_left
        · obtain rfl := (and_err hx102).symm.trans hT
          refine sC (CallsM.ren (hcon.err hx102) [0, 1] 10 rfl rfl rfl rfl) ?_
          first | exact ⟨⟨_, rfl, rfl⟩, rfl, rfl⟩ | exact ⟨by kernel_rfl, ⟨_, rfl, rfl⟩, rfl, rfl⟩
        replace hT := (and_ok hx102).symm.trans hT
        refine sC (CallsM.ren (hcon.ok hx102) [0, 1] 10 rfl rfl rfl rfl) ?_
        clear hcon
        have hs1 := (Up.ok (Up.take hL t_rcur 0) hs hx102).1
        obtain rfl := mv_take1 hx102
        obtain rfl : PR.ok (ts.length : Int) ⟨i + 1, xs, ts ++ [(⟨9, 0, false, [], [], x, -1, cs⟩ : TY)]⟩ = T := hT
        have htl := hs.lt'
        repeat' (first | refine tT ?_ | refine tF ?_ | refine ex_dec (fun _ => ?_) (fun _ => ?_) | refine t8 ?_ | refine tI ?_ | refine tU ?_ | refine tA ?_ | refine tB ?_ | refine tL ?_ | refine tN ?_ | fail "no step")
        refine sC (CallsM.ren ((layc_c (L := L) (m := m) (i + 1) ts x (-1) cs (by omega))) [0, 1, 2, 3, 7, 9] 10 rfl rfl rfl rfl) ?_
        repeat' (first | refine tT ?_ | refine tF ?_ | refine ex_dec (fun _ => ?_) (fun _ => ?_) | refine t8 ?_ | refine tI ?_ | refine tU ?_ | refine tA ?_ | refine tB ?_ | refine tL ?_ | refine tN ?_ | fail "no step")
        exact ⟨rfl, TLe.rfl, rfl, rfl⟩
      · replace hT := asc (stp1 (asc (atyB hT hv2)))
        have hs1 := stpS hL hs (isV_k hv2)
        refine sC (CallsM.ren ((may_yes i hi (by omega) _ hv2)) [0, 1] 10 rfl rfl rfl rfl) ?_
        repeat' (first | refine tT ?_ | refine tF ?_ | refine ex_dec (fun _ => ?_) (fun _ => ?_) | refine t8 ?_ | refine tI ?_ | refine tU ?_ | refine tA ?_ | refine tB ?_ | refine tL ?_ | refine tN ?_ | fail "no step")
        have hcon := take_c (m := m) ⟨i + 1, xs, ts⟩ hs1.i (by omega) t_colon
        rcases hx113 : (takeM L t_colon) ⟨i + 1, xs, ts⟩ with ⟨_, s9⟩ | ⟨i9, e9⟩
        rotate_left
        · obtain rfl := (and_err hx113).symm.trans hT
          refine sC (CallsM.ren (hcon.err hx113) [0, 1] 10 rfl rfl rfl rfl) ?_
          first | exact ⟨⟨_, rfl, rfl⟩, rfl, rfl⟩ | exact ⟨by kernel_rfl, ⟨_, rfl, rfl⟩, rfl, rfl⟩
        replace hT := (and_ok hx113).symm.trans hT
        refine sC (CallsM.ren (hcon.ok hx113) [0, 1] 10 rfl rfl rfl rfl) ?_
        clear hcon
        have hs2 := (Up.ok (Up.take hL t_colon 0) hs1 hx113).1
        obtain rfl := mv_take1 hx113
        repeat' (first | refine tT ?_ | refine tF ?_ | refine ex_dec (fun _ => ?_) (fun _ => ?_) | refine t8 ?_ | refine tI ?_ | refine tU ?_ | refine tA ?_ | refine tB ?_ | refine tL ?_ | refine tN ?_ | fail "no step")
        replace hT := asc hT
        have hcon := hin ⟨i + 1 + 1, xs, ts⟩ (hs2.less (by omega))
        rcases hx : (innerM L m kd) ⟨i + 1 + 1, xs, ts⟩ with ⟨k, ⟨i3, xs3, ts3⟩⟩ | ⟨i9, e9⟩
        rotate_left
        · obtain rfl := (and_err hx).symm.trans hT
          refine sC (CallsM.ren (hcon.err hx) [0, 1, 2, 3, 7, 9] 10 rfl rfl rfl rfl) ?_
          first | exact ⟨⟨_, rfl, rfl⟩, rfl, rfl⟩ | exact ⟨by kernel_rfl, ⟨_, rfl, rfl⟩, rfl, rfl⟩
        replace hT := (and_ok hx).symm.trans hT
        refine sC (CallsM.ren (hcon.ok hx) [0, 1, 2, 3, 7, 9] 10 rfl rfl rfl rfl) ?_
        clear hcon
        have hs3 := (Up.ok (up_inner m hu (c + 6)) (show SOk L (0 + (c + 6)) ⟨i + 1 + 1, xs, ts⟩ from hs2.less (by omega)) hx).1
        repeat' (first | refine tT ?_ | refine tF ?_ | refine ex_dec (fun _ => ?_) (fun _ => ?_) | refine t8 ?_ | refine tI ?_ | refine tU ?_ | refine tA ?_ | refine tB ?_ | refine tL ?_ | refine tN ?_ | fail "no step")
        replace hT := asc hT
        have hcon := take_c (m := m) ⟨i3, xs3, ts3⟩ hs3.i (by omega) t_semi
        rcases hx119 : (takeM L t_semi) ⟨i3, xs3, ts3⟩ with ⟨_, s9⟩ | ⟨i9, e9⟩
        rotate_left
        · obtain rfl := (and_err hx119).symm.trans hT
          refine sC (CallsM.ren (hcon.err hx119) [0, 1] 12 rfl rfl rfl rfl) ?_
          first | exact ⟨⟨_, rfl, rfl⟩, rfl, rfl⟩ | exact ⟨by kernel_rfl, ⟨_, rfl, rfl⟩, rfl, rfl⟩
        replace hT := (and_ok hx119).symm.trans hT
        refine sC (CallsM.ren (hcon.ok hx119) [0, 1] 12 rfl rfl rfl rfl) ?_
        clear hcon
        have hs4 := (Up.ok (Up.take hL t_semi 0) hs3 hx119).1
        obtain rfl := mv_take1 hx119
        replace hT := pureT hT
        repeat' (first | refine tT ?_ | refine tF ?_ | refine ex_dec (fun _ => ?_) (fun _ => ?_) | refine t8 ?_ | refine tI ?_ | refine tU ?_ | refine tA ?_ | refine tB ?_ | refine tL ?_ | refine tN ?_ | fail "no step")
        have hcon := take_c (m := m) ⟨i3 + 1, xs3, ts3⟩ hs4.i (by omega) t_rcur
        rcases hx122 : (takeM L t_rcur) ⟨i3 + 1, xs3, ts3⟩ with ⟨_, s9⟩ | ⟨i9, e9⟩
        rotate_left
        · obtain rfl := (and_err hx122).symm.trans hT
          refine sC (CallsM.ren (hcon.err hx122) [0, 1] 12 rfl rfl rfl rfl) ?_
          first | exact ⟨⟨_, rfl, rfl⟩, rfl, rfl⟩ | exact ⟨by kernel_rfl, ⟨_, rfl, rfl⟩, rfl, rfl⟩
        replace hT := (and_ok hx122).symm.trans hT
        refine sC (CallsM.ren (hcon.ok hx122) [0, 1] 12 rfl rfl rfl rfl) ?_
        clear hcon
        have hs5 := (Up.ok (Up.take hL t_rcur 0) hs4 hx122).1
        obtain rfl := mv_take1 hx122
        obtain rfl : PR.ok (ts3.length : Int) ⟨i3 + 1 + 1, xs3, ts3 ++ [(⟨9, 0, false, [], [], x, k, cs⟩ : TY)]⟩ = T := hT
        have htl := hs3.lt'
        have hi3 := hs3.lt
        repeat' (first | refine tT ?_ | refine tF ?_ | refine ex_dec (fun _ => ?_) (fun _ => ?_) | refine t8 ?_ | refine tI ?_ | refine tU ?_ | refine tA ?_ | refine tB ?_ | refine tL ?_ | refine tN ?_ | fail "no step")
        refine sC (CallsM.ren ((layc_c (L := L) (m := m) (i3 + 1 + 1) ts3 x k cs (by omega))) [0, 1, 2, 3, 10, 11] 12 rfl rfl rfl rfl) ?_
        repeat' (first | refine tT ?_ | refine tF ?_ | refine ex_dec (fun _ => ?_) (fun _ => ?_) | refine t8 ?_ | refine tI ?_ | refine tU ?_ | refine tA ?_ | refine tB ?_ | refine tL ?_ | refine tN ?_ | fail "no step")
        exact ⟨rfl, TLe.rfl, rfl, rfl⟩
    · replace hT := asc (atyB hT hv)
      refine sC (CallsM.ren (his) [0, 1] 10 rfl rfl rfl rfl) ?_
      repeat' (first | refine ex_is cs.length (by simp) ?_ | refine tT ?_ | refine tF ?_ | refine ex_dec (fun _ => ?_) (fun _ => ?_) | refine t8 ?_ | refine tI ?_ | refine tU ?_ | refine tA ?_ | refine tB ?_ | refine tL ?_ | refine tN ?_ | fail "no step")
      have hcon := room_c (m := m) ⟨i, xs, ts⟩ hi cs.length (by omega)
      rcases hr : (roomM cs.length) ⟨i, xs, ts⟩ with ⟨_, s9⟩ | ⟨i9, e9⟩
      rotate_left
      · obtain rfl := (and_err hr).symm.trans hT
        refine sC (CallsM.ren (hcon.err hr) [0, 1] 10 rfl rfl rfl rfl) ?_
        first | exact ⟨⟨_, rfl, rfl⟩, rfl, rfl⟩ | exact ⟨by kernel_rfl, ⟨_, rfl, rfl⟩, rfl, rfl⟩
      replace hT := (and_ok hr).symm.trans hT
      refine sC (CallsM.ren (hcon.ok hr) [0, 1] 10 rfl rfl rfl rfl) ?_
      clear hcon
      obtain rfl := mv_room1 hr
      replace hT := asc (stp1 (asc hT))
      have hs1 := stpS hL hs (isV_k hv)
      repeat' (first | refine tT ?_ | refine tF ?_ | refine ex_dec (fun _ => ?_) (fun _ => ?_) | refine t8 ?_ | refine tI ?_ | refine tU ?_ | refine tA ?_ | refine tB ?_ | refine tL ?_ | refine tN ?_ | fail "no step")
      refine sC (CallsM.ren (((take_c (m := m) ⟨i, xs, ts⟩ hi (by omega) w_case).ok (takeY hv))) [0, 1] 10 rfl rfl rfl rfl) ?_
      repeat' (first | refine tT ?_ | refine tF ?_ | refine ex_dec (fun _ => ?_) (fun _ => ?_) | refine t8 ?_ | refine tI ?_ | refine tU ?_ | refine tA ?_ | refine tB ?_ | refine tL ?_ | refine tN ?_ | fail "no step")
      have hcon := num_c (m := m) ⟨i + 1, xs, ts⟩ hs1.i (by omega)
      rcases hx139 : (numberM L) ⟨i + 1, xs, ts⟩ with ⟨v, s9⟩ | ⟨i9, e9⟩
      rotate_left
      · obtain rfl := (and_err hx139).symm.trans hT
        refine sC (CallsM.ren (hcon.err hx139) [0, 1] 10 rfl rfl rfl rfl) ?_
        first | exact ⟨⟨_, rfl, rfl⟩, rfl, rfl⟩ | exact ⟨by kernel_rfl, ⟨_, rfl, rfl⟩, rfl, rfl⟩
      replace hT := (and_ok hx139).symm.trans hT
      refine sC (CallsM.ren (hcon.ok hx139) [0, 1] 10 rfl rfl rfl rfl) ?_
      clear hcon
      have hs2 := (Up.ok (Up.number hL 0) hs1 hx139).1
      obtain rfl := mv_num1 hx139
      replace hT := asc hT
      repeat' (first | refine tT ?_ | refine tF ?_ | refine ex_dec (fun _ => ?_) (fun _ => ?_) | refine t8 ?_ | refine tI ?_ | refine tU ?_ | refine tA ?_ | refine tB ?_ | refine tL ?_ | refine tN ?_ | fail "no step")
      have hcon := take_c (m := m) ⟨i + 1 + 1, xs, ts⟩ hs2.i (by omega) t_colon
      rcases hx142 : (takeM L t_colon) ⟨i + 1 + 1, xs, ts⟩ with ⟨_, s9⟩ | ⟨i9, e9⟩
      rotate_left
      · obtain rfl := (and_err hx142).symm.trans hT
        refine sC (CallsM.ren (hcon.err hx142) [0, 1] 10 rfl rfl rfl rfl) ?_
        first | exact ⟨⟨_, rfl, rfl⟩, rfl, rfl⟩ | exact ⟨by kernel_rfl, ⟨_, rfl, rfl⟩, rfl, rfl⟩
      replace hT := (and_ok hx142).symm.trans hT
      refine sC (CallsM.ren (hcon.ok hx142) [0, 1] 10 rfl rfl rfl rfl) ?_
      clear hcon
      have hs3 := (Up.ok (Up.take hL t_colon 0) hs2 hx142).1
      obtain rfl := mv_take1 hx142
      replace hT := asc hT
      repeat' (first | refine tT ?_ | refine tF ?_ | refine ex_dec (fun _ => ?_) (fun _ => ?_) | refine t8 ?_ | refine tI ?_ | refine tU ?_ | refine tA ?_ | refine tB ?_ | refine tL ?_ | refine tN ?_ | fail "no step")
      have hcon := hin ⟨i + 1 + 1 + 1, xs, ts⟩ (hs3.less (by omega))
      rcases hx : (innerM L m kd) ⟨i + 1 + 1 + 1, xs, ts⟩ with ⟨k, ⟨i3, xs3, ts3⟩⟩ | ⟨i9, e9⟩
      rotate_left
      · obtain rfl := (and_err hx).symm.trans hT
        refine sC (CallsM.ren (hcon.err hx) [0, 1, 2, 3, 7, 9] 10 rfl rfl rfl rfl) ?_
        first | exact ⟨⟨_, rfl, rfl⟩, rfl, rfl⟩ | exact ⟨by kernel_rfl, ⟨_, rfl, rfl⟩, rfl, rfl⟩
      replace hT := (and_ok hx).symm.trans hT
      refine sC (CallsM.ren (hcon.ok hx) [0, 1, 2, 3, 7, 9] 10 rfl rfl rfl rfl) ?_
      clear hcon
      have hs4 := (Up.ok (up_inner m hu (c + 7)) (show SOk L (0 + (c + 7)) ⟨i + 1 + 1 + 1, xs, ts⟩ from hs3.less (by omega)) hx).1
      have hi3 : i + 1 + 1 + 1 ≤ i3 := (Up.ok (c := 0) (up_inner m hu 0) (hs3.less (by omega)) hx).2
      replace hs4 : SOk L (c + 7) ⟨i3, xs3, ts3⟩ := hs4.less (by omega)
      repeat' (first | refine tT ?_ | refine tF ?_ | refine ex_dec (fun _ => ?_) (fun _ => ?_) | refine t8 ?_ | refine tI ?_ | refine tU ?_ | refine tA ?_ | refine tB ?_ | refine tL ?_ | refine tN ?_ | fail "no step")
      refine ex_app (cs.length) (1) 1000 (by first | rfl | (simp; done) | (simp; omega)) (by first | rfl | (simp; done) | (simp; omega)) rfl (by omega) ?_
      refine ex_is (List.map caD (cs ++ [(⟨v, k⟩ : CA)])) (by rw [List.map_append]; rfl) ?_
      repeat' (first | refine tT ?_ | refine tF ?_ | refine ex_dec (fun _ => ?_) (fun _ => ?_) | refine t8 ?_ | refine tI ?_ | refine tU ?_ | refine tA ?_ | refine tB ?_ | refine tL ?_ | refine tN ?_ | fail "no step")
      replace hT := asc hT
      have hcon := take_c (m := m) ⟨i3, xs3, ts3⟩ hs4.i (by omega) t_semi
      rcases hx153 : (takeM L t_semi) ⟨i3, xs3, ts3⟩ with ⟨_, s9⟩ | ⟨i9, e9⟩
      rotate_left
      · obtain rfl := (and_err hx153).symm.trans hT
        refine sC (CallsM.ren (hcon.err hx153) [0, 1] 14 rfl rfl rfl rfl) ?_
        first | exact ⟨⟨_, rfl, rfl⟩, rfl, rfl⟩ | exact ⟨by kernel_rfl, ⟨_, rfl, rfl⟩, rfl, rfl⟩
      replace hT := (and_ok hx153).symm.trans hT
      refine sC (CallsM.ren (hcon.ok hx153) [0, 1] 14 rfl rfl rfl rfl) ?_
      clear hcon
      have hs5 := (Up.ok (Up.take hL t_semi 0) hs4 hx153).1
      obtain rfl := mv_take1 hx153
      repeat' (first | refine tT ?_ | refine tF ?_ | refine ex_dec (fun _ => ?_) (fun _ => ?_) | refine t8 ?_ | refine tI ?_ | refine tU ?_ | refine tA ?_ | refine tB ?_ | refine tL ?_ | refine tN ?_ | fail "no step")
      exact ex_round (i3 + 1, xs3, ts3, cs ++ [(⟨v, k⟩ : CA)], n) ⟨hs5.less (by omega), by omega, by simp; omega, hT⟩ (by show L.length - (i3 + 1) < L.length - i; omega) (SLe.ren [(0, 0), (1, 1), (2, 2), (3, 3), (4, 4), (5, 5), (6, 6), (10, 7), (13, 8), (11, 9)] ⟨⟨rfl, rfl⟩, ⟨rfl, rfl⟩, trivial⟩ ⟨⟨rfl, rfl⟩, ⟨rfl, rfl⟩, ⟨rfl, rfl⟩, ⟨rfl, rfl⟩, ⟨rfl, rfl⟩, ⟨rfl, rfl⟩, ⟨rfl, rfl⟩, ⟨rfl, rfl⟩, trivial⟩ rfl)
end
end Go.Proofs.YtkbhmcdoedmffaaGreatDoor

namespace Go.Proofs.YtkbhmcdoedmffaaGreatDoor
open Go.RowKit

section
variable {L : List TokP} {m : Nat}
def sizedTV : Option Nat → TV
  | some k => .tup [c1 (di k), c1 (db true)]
  | none => .tup [c1 (di 0), c1 (db false)]
theorem sized_c (w : List UInt8) : CallsA Tryz.prog ΓL 110 [c1 (ds (bs w))] (sizedTV (sizedV w)) := by
  by_cases h : w = w_bytes ∨ w = w_zero ∨ w = w_skip ∨ w = w_window ∨ w = w_at
  · rcases h with rfl | rfl | rfl | rfl | rfl
    all_goals
      refine fn_rule (C := ⟨Tryz.prog, layF, Tryz.f110.ntmps, ΓL, 0, [], []⟩) layF_ok mixed Tryz.func110 rfl (by kernel_rfl) rfl rfl rfl ?_
      repeat' (first | refine tT ?_ | refine tF ?_ | refine ex_dec (fun _ => ?_) (fun _ => ?_) | refine t8 ?_ | refine tI ?_ | refine tU ?_ | refine tA ?_ | refine tB ?_ | refine tL ?_ | refine tN ?_ | fail "no step")
      exact TLe.rfl
  · have hne : ∀ l, l ∈ [w_bytes, w_zero, w_skip, w_window, w_at] → ¬ bs w = bs l := fun l hl he => h (by
      rw [bsj.1 he]
      simpa only [List.mem_cons, List.not_mem_nil, or_false] using hl)
    have h0 : sizedV w = none := by
      unfold sizedV
      rw [if_neg (fun e => h (by simp [e])), if_neg (fun e => h (by simp [e])), if_neg (fun e => h (by simp [e])), if_neg (fun e => h (by simp [e])), if_neg (fun e => h (by simp [e]))]
    rw [h0]
    refine fn_rule (C := ⟨Tryz.prog, layF, Tryz.f110.ntmps, ΓL, 0, [], []⟩) layF_ok mixed Tryz.func110 rfl (by kernel_rfl) rfl rfl rfl ?_
    repeat' (first | refine ex_false (hne _ (by decide)) ?_ | refine tT ?_ | refine tF ?_ | refine ex_dec (fun _ => ?_) (fun _ => ?_) | refine t8 ?_ | refine tI ?_ | refine tU ?_ | refine tA ?_ | refine tB ?_ | refine tL ?_ | refine tN ?_ | fail "no step")
    exact TLe.rfl
set_option maxHeartbeats 4000000 in
theorem kind_named (hL : TokOk L) (hn : L.length ≤ 100000) (hm : m ≤ 32) (s : PS) (hs : SOk L 0 s) (hv : namedV L s.i = true) {kd : PM Int} : C2 L m 85 [] (kindF L m kd) (fun k => Ti k) s := by
  refine C2.of fun T hT => ?_
  unfold kindF at hT
  obtain ⟨i, xs, ts⟩ := s
  have hv : namedV L i = true := hv
  replace hT := aty hT hv
  have hnm := named_c (m := m) i hs.lt
  rw [hv] at hnm
  refine fn_ruleP (C := ⟨Tryz.prog, layF, Tryz.f85.ntmps, ΓL, 6, [], []⟩) layF_ok mixed Tryz.func85 rfl (by kernel_rfl) rfl rfl rfl SLe.rfl ?_
  repeat' (first | refine tT ?_ | refine tF ?_ | refine ex_dec (fun _ => ?_) (fun _ => ?_) | refine t8 ?_ | refine tI ?_ | refine tU ?_ | refine tA ?_ | refine tB ?_ | refine tL ?_ | refine tN ?_ | fail "no step")
  refine sC (CallsM.ren (hnm) [0, 1] 6 rfl rfl rfl rfl) ?_
  repeat' (first | refine tT ?_ | refine tF ?_ | refine ex_dec (fun _ => ?_) (fun _ => ?_) | refine t8 ?_ | refine tI ?_ | refine tU ?_ | refine tA ?_ | refine tB ?_ | refine tL ?_ | refine tN ?_ | fail "no step")
  have hcon := ref_c hL hn hm ⟨i, xs, ts⟩ hs
  rcases hx : (refM L m) ⟨i, xs, ts⟩ with ⟨t, ⟨i2, xs2, ts2⟩⟩ | ⟨i9, e9⟩
  rotate_left
  · obtain rfl := (and_err hx).symm.trans hT
    refine sC (CallsM.ren (hcon.err hx) [0, 1, 2, 3, 4, 5] 6 rfl rfl rfl rfl) ?_
    first | exact ⟨⟨_, rfl, rfl⟩, rfl, rfl⟩ | exact ⟨by kernel_rfl, ⟨_, rfl, rfl⟩, rfl, rfl⟩
  replace hT := (and_ok hx).symm.trans hT
  refine sC (CallsM.ren (hcon.ok hx) [0, 1, 2, 3, 4, 5] 6 rfl rfl rfl rfl) ?_
  clear hcon
  have hs2 := (Up.ok (up_ref hL m) hs hx).1
  obtain rfl := (keep_ref).eq hx
  have hcon := array_c hL hn hm t ⟨i2, xs2, ts⟩ hs2
  rcases hy : (arrayM L m t) ⟨i2, xs2, ts⟩ with ⟨k, ⟨i3, xs3, ts3⟩⟩ | ⟨i9, e9⟩
  rotate_left
  · obtain rfl := hy.symm.trans hT
    refine sC (CallsM.ren (hcon.err hy) [0, 1, 2, 3, 6, 5] 7 rfl rfl rfl rfl) ?_
    first | exact ⟨⟨_, rfl, rfl⟩, rfl, rfl⟩ | exact ⟨by kernel_rfl, ⟨_, rfl, rfl⟩, rfl, rfl⟩
  obtain rfl := hy.symm.trans hT
  refine sC (CallsM.ren (hcon.ok hy) [0, 1, 2, 3, 6, 5] 7 rfl rfl rfl rfl) ?_
  clear hcon
  repeat' (first | refine tT ?_ | refine tF ?_ | refine ex_dec (fun _ => ?_) (fun _ => ?_) | refine t8 ?_ | refine tI ?_ | refine tU ?_ | refine tA ?_ | refine tB ?_ | refine tL ?_ | refine tN ?_ | fail "no step")
  exact ⟨rfl, TLe.rfl, rfl, rfl⟩
theorem kind_bad (s : PS) (hi : s.i < L.length) (hv : startsV L s.i = false) {kd : PM Int} : C2 L m 85 [] (kindF L m kd) (fun k => Ti k) s := by
  refine C2.of fun T hT => ?_
  unfold kindF at hT
  obtain ⟨i, xs, ts⟩ := s
  have hv : startsV L i = false := hv
  have hi : i < L.length := hi
  have hv1 : namedV L i = false := by
    unfold startsV at hv
    rw [Bool.or_eq_false_iff] at hv
    exact hv.1
  obtain rfl : PR.err i 4 = T := atn (atn hT hv1) hv
  have hnm := named_c (m := m) i hi
  rw [hv1] at hnm
  have hst := starts_c (m := m) i hi
  rw [hv] at hst
  refine fn_ruleP (C := ⟨Tryz.prog, layF, Tryz.f85.ntmps, ΓL, 6, [], []⟩) layF_ok mixed Tryz.func85 rfl (by kernel_rfl) rfl rfl rfl SLe.rfl ?_
  repeat' (first | refine tT ?_ | refine tF ?_ | refine ex_dec (fun _ => ?_) (fun _ => ?_) | refine t8 ?_ | refine tI ?_ | refine tU ?_ | refine tA ?_ | refine tB ?_ | refine tL ?_ | refine tN ?_ | fail "no step")
  refine sC (CallsM.ren (hnm) [0, 1] 6 rfl rfl rfl rfl) ?_
  repeat' (first | refine tT ?_ | refine tF ?_ | refine ex_dec (fun _ => ?_) (fun _ => ?_) | refine t8 ?_ | refine tI ?_ | refine tU ?_ | refine tA ?_ | refine tB ?_ | refine tL ?_ | refine tN ?_ | fail "no step")
  refine sC (CallsM.ren (hst) [0, 1] 6 rfl rfl rfl rfl) ?_
  repeat' (first | refine tT ?_ | refine tF ?_ | refine ex_dec (fun _ => ?_) (fun _ => ?_) | refine t8 ?_ | refine tI ?_ | refine tU ?_ | refine tA ?_ | refine tB ?_ | refine tL ?_ | refine tN ?_ | fail "no step")
  refine sC (CallsM.ren ((fail_c (m := m) i 4 hi)) [0, 1] 6 rfl rfl rfl rfl) ?_
  exact ⟨⟨_, rfl, rfl⟩, rfl, rfl⟩
end
end Go.Proofs.YtkbhmcdoedmffaaGreatDoor

namespace Go.Proofs.YtkbhmcdoedmffaaGreatDoor
open Go.RowKit

section
variable {L : List TokP} {m : Nat}
set_option maxHeartbeats 8000000 in
theorem kind_word (hL : TokOk L) (hn : L.length ≤ 100000) (hm : m ≤ 32) {kd : PM Int} (hu : Up L kd 0 0) (hc : ∀ m', m = m' + 1 → ∀ s, SOk L 0 s → C2 L m' 85 [] kd (fun k => Ti k) s) (s : PS) (hs : SOk L 0 s) (hv1 : namedV L s.i = false) (hv : startsV L s.i = true) :
    C2 L m 85 [] (kindF L m kd) (fun k => Ti k) s := by
  refine C2.of fun T hT => ?_
  unfold kindF at hT
  obtain ⟨i, xs, ts⟩ := s
  have hv : startsV L i = true := hv
  have hv1 : namedV L i = false := hv1
  have hi := hs.lt
  have hin : ∀ s, SOk L 0 s → C2 L m 113 [] (innerM L m kd) (fun k => Ti k) s := fun s hs => inner_c hm s hs.i fun m' e => hc m' e s hs
  have hs1 := stpS hL hs (startsV_k hv)
  have hT1 := atn hT hv1
  have hT2 := aty hT1 hv
  have hT : wordM L m kd (tk L i).t ⟨i + 1, xs, ts⟩ = T := hT2
  clear hT1 hT2
  have hnm := named_c (m := m) i hi
  rw [hv1] at hnm
  have hst := starts_c (m := m) i hi
  rw [hv] at hst
  have ha := ahead_c (L := L) (m := m) i hi
  generalize tk L i = u at *
  obtain ⟨w, hw⟩ : ∃ w, u.t = w := ⟨_, rfl⟩
  simp only [tokD, hw] at ha
  rw [hw] at hT
  unfold wordM at hT
  have hz := sized_c w
  have htl := hs1.lt'
  refine fn_ruleP (C := ⟨Tryz.prog, layF, Tryz.f85.ntmps, ΓL, 6, [], []⟩) layF_ok mixed Tryz.func85 rfl (by kernel_rfl) rfl rfl rfl start2 ?_
  repeat' (first | refine tT ?_ | refine tF ?_ | refine ex_dec (fun _ => ?_) (fun _ => ?_) | refine t8 ?_ | refine tI ?_ | refine tU ?_ | refine tA ?_ | refine tB ?_ | refine tL ?_ | refine tN ?_ | fail "no step")
  refine sC (CallsM.ren (hnm) [0, 1] 7 rfl rfl rfl rfl) ?_
  repeat' (first | refine tT ?_ | refine tF ?_ | refine ex_dec (fun _ => ?_) (fun _ => ?_) | refine t8 ?_ | refine tI ?_ | refine tU ?_ | refine tA ?_ | refine tB ?_ | refine tL ?_ | refine tN ?_ | fail "no step")
  refine sC (CallsM.ren (hst) [0, 1] 7 rfl rfl rfl rfl) ?_
  repeat' (first | refine tT ?_ | refine tF ?_ | refine ex_dec (fun _ => ?_) (fun _ => ?_) | refine t8 ?_ | refine tI ?_ | refine tU ?_ | refine tA ?_ | refine tB ?_ | refine tL ?_ | refine tN ?_ | fail "no step")
  refine sC (CallsM.ren (ha) [0, 1] 7 rfl rfl rfl rfl) ?_
  rcases hzw : sizedV w with _ | k <;> rw [hzw] at hT hz
  · have hz : CallsA Tryz.prog ΓL 110 [c1 (ds (bs w))] (.tup [c1 (di 0), c1 (db false)]) := hz
    dsimp only at hT
    by_cases h1 : w = w_rest
    · subst h1
      rw [if_pos rfl] at hT
      repeat' (first | refine ex_call (plain_c 6) ?_ | refine ex_call hz ?_ | refine ex_i64 ((i + 1 : Nat) : Int) (by omega) (by omega) (by omega) ?_ | refine ex_u64 ((i + 1 : Nat) : Int) (by omega) (by omega) (by omega) ?_ | refine ex_u8 ((i + 1 : Nat) : Int) (by omega) (by omega) (by omega) ?_ | refine tT ?_ | refine tF ?_ | refine ex_dec (fun _ => ?_) (fun _ => ?_) | refine t8 ?_ | refine tI ?_ | refine tU ?_ | refine tA ?_ | refine tB ?_ | refine tL ?_ | refine tN ?_ | fail "no step")
      have hcon := hin ⟨i + 1, xs, ts⟩ (hs1.less (by omega))
      rcases hx : (innerM L m kd) ⟨i + 1, xs, ts⟩ with ⟨k, ⟨i3, xs3, ts3⟩⟩ | ⟨i9, e9⟩
      rotate_left
      · obtain rfl := (and_err hx).symm.trans hT
        refine sC (CallsM.ren (hcon.err hx) [0, 1, 2, 3, 6, 5] 8 rfl rfl rfl rfl) ?_
        first | exact ⟨⟨_, rfl, rfl⟩, rfl, rfl⟩ | exact ⟨by kernel_rfl, ⟨_, rfl, rfl⟩, rfl, rfl⟩
      replace hT := (and_ok hx).symm.trans hT
      refine sC (CallsM.ren (hcon.ok hx) [0, 1, 2, 3, 6, 5] 8 rfl rfl rfl rfl) ?_
      clear hcon
      have hs3 := (Up.ok (up_inner m hu 1) hs1 hx).1
      have htl := hs3.lt'
      have hi3 := hs3.lt
      obtain rfl : PR.ok (ts3.length : Int) ⟨i3, xs3, ts3 ++ [(⟨6, 0, false, [], [], -1, k, []⟩ : TY)]⟩ = T := hT
      repeat' (first | refine tT ?_ | refine tF ?_ | refine ex_dec (fun _ => ?_) (fun _ => ?_) | refine t8 ?_ | refine tI ?_ | refine tU ?_ | refine tA ?_ | refine tB ?_ | refine tL ?_ | refine tN ?_ | fail "no step")
      refine sC (CallsM.ren ((layn_c (L := L) (m := m) i3 ts3 6 0 false [] (-1) k (by omega))) [0, 1, 2, 3, 8, 9] 10 rfl rfl rfl rfl) ?_
      repeat' (first | refine tT ?_ | refine tF ?_ | refine ex_dec (fun _ => ?_) (fun _ => ?_) | refine t8 ?_ | refine tI ?_ | refine tU ?_ | refine tA ?_ | refine tB ?_ | refine tL ?_ | refine tN ?_ | fail "no step")
      exact ⟨rfl, TLe.rfl, rfl, rfl⟩
    · rw [if_neg h1] at hT
      by_cases h2 : w = w_tail
      · subst h2
        rw [if_pos rfl] at hT
        obtain rfl : PR.ok (ts.length : Int) ⟨i + 1, xs, ts ++ [(⟨4, 0, false, [], [], -1, -1, []⟩ : TY)]⟩ = T := hT
        repeat' (first | refine ex_call (plain_c 4) ?_ | refine ex_call hz ?_ | refine ex_i64 ((i + 1 : Nat) : Int) (by omega) (by omega) (by omega) ?_ | refine ex_u64 ((i + 1 : Nat) : Int) (by omega) (by omega) (by omega) ?_ | refine ex_u8 ((i + 1 : Nat) : Int) (by omega) (by omega) (by omega) ?_ | refine tT ?_ | refine tF ?_ | refine ex_dec (fun _ => ?_) (fun _ => ?_) | refine t8 ?_ | refine tI ?_ | refine tU ?_ | refine tA ?_ | refine tB ?_ | refine tL ?_ | refine tN ?_ | fail "no step")
        refine sC (CallsM.ren ((layn_c (L := L) (m := m) (i + 1) ts 4 0 false [] (-1) (-1) (by omega))) [0, 1, 2, 3, 6, 5] 7 rfl rfl rfl rfl) ?_
        repeat' (first | refine tT ?_ | refine tF ?_ | refine ex_dec (fun _ => ?_) (fun _ => ?_) | refine t8 ?_ | refine tI ?_ | refine tU ?_ | refine tA ?_ | refine tB ?_ | refine tL ?_ | refine tN ?_ | fail "no step")
        exact ⟨rfl, TLe.rfl, rfl, rfl⟩
      · rw [if_neg h2] at hT
        by_cases h3 : w = w_none
        · subst h3
          rw [if_pos rfl] at hT
          obtain rfl : PR.ok (ts.length : Int) ⟨i + 1, xs, ts ++ [(⟨11, 0, false, [], [], -1, -1, []⟩ : TY)]⟩ = T := hT
          repeat' (first | refine ex_call (plain_c 11) ?_ | refine ex_call hz ?_ | refine ex_i64 ((i + 1 : Nat) : Int) (by omega) (by omega) (by omega) ?_ | refine ex_u64 ((i + 1 : Nat) : Int) (by omega) (by omega) (by omega) ?_ | refine ex_u8 ((i + 1 : Nat) : Int) (by omega) (by omega) (by omega) ?_ | refine tT ?_ | refine tF ?_ | refine ex_dec (fun _ => ?_) (fun _ => ?_) | refine t8 ?_ | refine tI ?_ | refine tU ?_ | refine tA ?_ | refine tB ?_ | refine tL ?_ | refine tN ?_ | fail "no step")
          refine sC (CallsM.ren ((layn_c (L := L) (m := m) (i + 1) ts 11 0 false [] (-1) (-1) (by omega))) [0, 1, 2, 3, 6, 5] 7 rfl rfl rfl rfl) ?_
          repeat' (first | refine tT ?_ | refine tF ?_ | refine ex_dec (fun _ => ?_) (fun _ => ?_) | refine t8 ?_ | refine tI ?_ | refine tU ?_ | refine tA ?_ | refine tB ?_ | refine tL ?_ | refine tN ?_ | fail "no step")
          exact ⟨rfl, TLe.rfl, rfl, rfl⟩
        · rw [if_neg h3] at hT
          by_cases h4 : w = w_switch
          · subst h4
            rw [if_pos rfl] at hT
            repeat' (first | refine ex_call hz ?_ | refine ex_i64 ((i + 1 : Nat) : Int) (by omega) (by omega) (by omega) ?_ | refine ex_u64 ((i + 1 : Nat) : Int) (by omega) (by omega) (by omega) ?_ | refine ex_u8 ((i + 1 : Nat) : Int) (by omega) (by omega) (by omega) ?_ | refine tT ?_ | refine tF ?_ | refine ex_dec (fun _ => ?_) (fun _ => ?_) | refine t8 ?_ | refine tI ?_ | refine tU ?_ | refine tA ?_ | refine tB ?_ | refine tL ?_ | refine tN ?_ | fail "no step")
            have hcon := choice_c hL hn hm hu hc ⟨i + 1, xs, ts⟩ hs1
            rcases hy : (choiceM L m kd) ⟨i + 1, xs, ts⟩ with ⟨k, ⟨i3, xs3, ts3⟩⟩ | ⟨i9, e9⟩
            rotate_left
            · obtain rfl := hy.symm.trans hT
              refine sC (CallsM.ren (hcon.err hy) [0, 1, 2, 3, 6, 5] 7 rfl rfl rfl rfl) ?_
              first | exact ⟨⟨_, rfl, rfl⟩, rfl, rfl⟩ | exact ⟨by kernel_rfl, ⟨_, rfl, rfl⟩, rfl, rfl⟩
            obtain rfl := hy.symm.trans hT
            refine sC (CallsM.ren (hcon.ok hy) [0, 1, 2, 3, 6, 5] 7 rfl rfl rfl rfl) ?_
            clear hcon
            repeat' (first | refine tT ?_ | refine tF ?_ | refine ex_dec (fun _ => ?_) (fun _ => ?_) | refine t8 ?_ | refine tI ?_ | refine tU ?_ | refine tA ?_ | refine tB ?_ | refine tL ?_ | refine tN ?_ | fail "no step")
            exact ⟨rfl, TLe.rfl, rfl, rfl⟩
          · rw [if_neg h4] at hT
            have hq := (integer_c w).gL
            obtain ⟨z, lt, ok, hzl, hq⟩ : ∃ (z : Nat) (lt ok : Bool), (integerV w).getD (0, false) = (z, lt) ∧ CallsA Tryz.prog ΓL 12 [c1 (ds (bs w))] (.tup [c1 (di z), c1 (db lt), c1 (db ok)]) := by
              rcases hi : integerV w with _ | ⟨z, lt⟩ <;> rw [hi] at hq
              · exact ⟨0, false, false, rfl, hq⟩
              · exact ⟨z, lt, true, rfl, hq⟩
            rw [hzl] at hT
            repeat' (first | refine ex_call (plain_c 0) ?_ | refine ex_call hq ?_ | refine ex_call hz ?_ | refine ex_i64 ((i + 1 : Nat) : Int) (by omega) (by omega) (by omega) ?_ | refine ex_u64 ((i + 1 : Nat) : Int) (by omega) (by omega) (by omega) ?_ | refine ex_u8 ((i + 1 : Nat) : Int) (by omega) (by omega) (by omega) ?_ | refine ex_false (fun e => h4 (bsj.1 e)) ?_ | refine ex_false (fun e => h3 (bsj.1 e)) ?_ | refine ex_false (fun e => h2 (bsj.1 e)) ?_ | refine ex_false (fun e => h1 (bsj.1 e)) ?_ | refine tT ?_ | refine tF ?_ | refine ex_dec (fun _ => ?_) (fun _ => ?_) | refine t8 ?_ | refine tI ?_ | refine tU ?_ | refine tA ?_ | refine tB ?_ | refine tL ?_ | refine tN ?_ | fail "no step")
            have har := (array_c (L := L) hL hn hm (⟨0, z, lt, [], [], -1, -1, []⟩ : TY) ⟨i + 1, xs, ts⟩ hs1)
            rcases hy : arrayM L m (⟨0, z, lt, [], [], -1, -1, []⟩ : TY) ⟨i + 1, xs, ts⟩ with ⟨k, ⟨i3, xs3, ts3⟩⟩ | ⟨i9, e9⟩
            · obtain rfl := hy.symm.trans hT
              have hp := (har.ok hy).argsLe (xs := [P0, gD [di 0, di z, db lt, ds (bs []), dnil, di (-1), di (-1), dnil]]) (.cons T1Le.rfl (.cons (T1Le.g (.cons DLe.rfl (.cons DLe.rfl (.cons DLe.rfl (.cons DLe.rfl (.cons DLe.nil (.cons DLe.rfl (.cons DLe.rfl (.cons DLe.nil .nil))))))))) .nil))
              refine sC (CallsM.ren (hp) [0, 1, 2, 3, 6, 5] 8 rfl rfl rfl rfl) ?_
              repeat' (first | refine tT ?_ | refine tF ?_ | refine ex_dec (fun _ => ?_) (fun _ => ?_) | refine t8 ?_ | refine tI ?_ | refine tU ?_ | refine tA ?_ | refine tB ?_ | refine tL ?_ | refine tN ?_ | fail "no step")
              exact ⟨rfl, TLe.rfl, rfl, rfl⟩
            · obtain rfl := hy.symm.trans hT
              have hp := (har.err hy).argsLe (xs := [P0, gD [di 0, di z, db lt, ds (bs []), dnil, di (-1), di (-1), dnil]]) (.cons T1Le.rfl (.cons (T1Le.g (.cons DLe.rfl (.cons DLe.rfl (.cons DLe.rfl (.cons DLe.rfl (.cons DLe.nil (.cons DLe.rfl (.cons DLe.rfl (.cons DLe.nil .nil))))))))) .nil))
              refine sC (CallsM.ren (hp) [0, 1, 2, 3, 6, 5] 8 rfl rfl rfl rfl) ?_
              exact ⟨⟨_, rfl, rfl⟩, rfl, rfl⟩
  · have hz : CallsA Tryz.prog ΓL 110 [c1 (ds (bs w))] (.tup [c1 (di k), c1 (db true)]) := hz
    dsimp only at hT
    repeat' (first | refine ex_call (plain_c k) ?_ | refine ex_call hz ?_ | refine ex_i64 ((i + 1 : Nat) : Int) (by omega) (by omega) (by omega) ?_ | refine ex_u64 ((i + 1 : Nat) : Int) (by omega) (by omega) (by omega) ?_ | refine ex_u8 ((i + 1 : Nat) : Int) (by omega) (by omega) (by omega) ?_ | refine tT ?_ | refine tF ?_ | refine ex_dec (fun _ => ?_) (fun _ => ?_) | refine t8 ?_ | refine tI ?_ | refine tU ?_ | refine tA ?_ | refine tB ?_ | refine tL ?_ | refine tN ?_ | fail "no step")
    have hcon := bracket_c hL hn hm ⟨i + 1, xs, ts⟩ hs1
    rcases hx : (bracketM L m) ⟨i + 1, xs, ts⟩ with ⟨x, ⟨i2, xs2, ts2⟩⟩ | ⟨i9, e9⟩
    rotate_left
    · obtain rfl := (and_err hx).symm.trans hT
      refine sC (CallsM.ren (hcon.err hx) [0, 1, 2, 3, 6, 5] 8 rfl rfl rfl rfl) ?_
      first | exact ⟨⟨_, rfl, rfl⟩, rfl, rfl⟩ | exact ⟨by kernel_rfl, ⟨_, rfl, rfl⟩, rfl, rfl⟩
    replace hT := (and_ok hx).symm.trans hT
    refine sC (CallsM.ren (hcon.ok hx) [0, 1, 2, 3, 6, 5] 8 rfl rfl rfl rfl) ?_
    clear hcon
    have hs2 := (Up.ok (up_bracket hL m 1) hs1 hx).1
    obtain rfl := (keep_bracket m).eq hx
    have hi2 := hs2.lt
    by_cases hk : k = 7 ∨ k = 8
    · rw [if_pos hk] at hT
      rcases hk with rfl | rfl
      all_goals
        repeat' (first | refine tT ?_ | refine tF ?_ | refine ex_dec (fun _ => ?_) (fun _ => ?_) | refine t8 ?_ | refine tI ?_ | refine tU ?_ | refine tA ?_ | refine tB ?_ | refine tL ?_ | refine tN ?_ | fail "no step")
        have hcon := hin ⟨i2, xs2, ts⟩ (hs2.less (by omega))
        rcases hx2 : (innerM L m kd) ⟨i2, xs2, ts⟩ with ⟨n, ⟨i3, xs3, ts3⟩⟩ | ⟨i9, e9⟩
        rotate_left
        · obtain rfl := (and_err hx2).symm.trans hT
          refine sC (CallsM.ren (hcon.err hx2) [0, 1, 2, 3, 8, 5] 9 rfl rfl rfl rfl) ?_
          first | exact ⟨⟨_, rfl, rfl⟩, rfl, rfl⟩ | exact ⟨by kernel_rfl, ⟨_, rfl, rfl⟩, rfl, rfl⟩
        replace hT := (and_ok hx2).symm.trans hT
        refine sC (CallsM.ren (hcon.ok hx2) [0, 1, 2, 3, 8, 5] 9 rfl rfl rfl rfl) ?_
        clear hcon
        have hs3 := (Up.ok (c := 0) (up_inner m hu 3) hs2 hx2).1
        have htl := hs3.lt'
        have hi3 := hs3.lt
        repeat' (first | refine tT ?_ | refine tF ?_ | refine ex_dec (fun _ => ?_) (fun _ => ?_) | refine t8 ?_ | refine tI ?_ | refine tU ?_ | refine tA ?_ | refine tB ?_ | refine tL ?_ | refine tN ?_ | fail "no step")
      · obtain rfl : PR.ok (ts3.length : Int) ⟨i3, xs3, ts3 ++ [(⟨7, 0, false, [], [], x, n, []⟩ : TY)]⟩ = T := hT
        refine sC (CallsM.ren ((layn_c (L := L) (m := m) i3 ts3 7 0 false [] x n (by omega))) [0, 1, 2, 3, 9, 10] 11 rfl rfl rfl rfl) ?_
        repeat' (first | refine tT ?_ | refine tF ?_ | refine ex_dec (fun _ => ?_) (fun _ => ?_) | refine t8 ?_ | refine tI ?_ | refine tU ?_ | refine tA ?_ | refine tB ?_ | refine tL ?_ | refine tN ?_ | fail "no step")
        exact ⟨rfl, TLe.rfl, rfl, rfl⟩
      · obtain rfl : PR.ok (ts3.length : Int) ⟨i3, xs3, ts3 ++ [(⟨8, 0, false, [], [], x, n, []⟩ : TY)]⟩ = T := hT
        refine sC (CallsM.ren ((layn_c (L := L) (m := m) i3 ts3 8 0 false [] x n (by omega))) [0, 1, 2, 3, 9, 10] 11 rfl rfl rfl rfl) ?_
        repeat' (first | refine tT ?_ | refine tF ?_ | refine ex_dec (fun _ => ?_) (fun _ => ?_) | refine t8 ?_ | refine tI ?_ | refine tU ?_ | refine tA ?_ | refine tB ?_ | refine tL ?_ | refine tN ?_ | fail "no step")
        exact ⟨rfl, TLe.rfl, rfl, rfl⟩
    · rw [if_neg hk] at hT
      replace hT := pureT hT
      have htl2 := hs2.lt'
      obtain rfl : PR.ok (ts.length : Int) ⟨i2, xs2, ts ++ [(⟨k, 0, false, [], [], x, -1, []⟩ : TY)]⟩ = T := hT
      repeat' (first | refine tT ?_ | refine tF ?_ | refine ex_dec (fun _ => ?_) (fun _ => ?_) | refine t8 ?_ | refine tI ?_ | refine tU ?_ | refine tA ?_ | refine tB ?_ | refine tL ?_ | refine tN ?_ | fail "no step")
      refine sC (CallsM.ren ((layn_c (L := L) (m := m) i2 ts k 0 false [] x (-1) (by omega))) [0, 1, 2, 3, 8, 5] 9 rfl rfl rfl rfl) ?_
      repeat' (first | refine tT ?_ | refine tF ?_ | refine ex_dec (fun _ => ?_) (fun _ => ?_) | refine t8 ?_ | refine tI ?_ | refine tU ?_ | refine tA ?_ | refine tB ?_ | refine tL ?_ | refine tN ?_ | fail "no step")
      exact ⟨rfl, TLe.rfl, rfl, rfl⟩
theorem kind_step (hL : TokOk L) (hn : L.length ≤ 100000) (hm : m ≤ 32) {kd : PM Int} (hu : Up L kd 0 0) (hc : ∀ m', m = m' + 1 → ∀ s, SOk L 0 s → C2 L m' 85 [] kd (fun k => Ti k) s) (s : PS) (hs : SOk L 0 s) :
    C2 L m 85 [] (kindF L m kd) (fun k => Ti k) s := by
  rcases hv : startsV L s.i with _ | _
  · exact kind_bad s hs.i hv
  · rcases hv1 : namedV L s.i with _ | _
    · exact kind_word hL hn hm hu hc s hs hv1 hv
    · exact kind_named hL hn hm s hs hv1
theorem kind_c (hL : TokOk L) (hn : L.length ≤ 100000) : ∀ m, m ≤ 32 → ∀ s, SOk L 0 s → C2 L m 85 [] (kindM L m) (fun k => Ti k) s
  | 0, hm, s, hs => kind_step hL hn hm (Up.fail (by decide) (by decide) _ _) (fun _ h => by omega) s hs
  | m + 1, hm, s, hs => kind_step hL hn hm (up_kind hL m) (fun m' h s hs => by
      obtain rfl : m = m' := by omega
      exact kind_c hL hn m (by omega) s hs) s hs
end
end Go.Proofs.YtkbhmcdoedmffaaGreatDoor

namespace Go.Proofs.YtkbhmcdoedmffaaGreatDoor
open Go.RowKit

section
variable {P : Program} {Γ : Glob} {f : FuncId} {nx : Nat} {xs : List T1} {r : TV} {upd : List (Nat × Blk)} {new : List Blk} {a b c d e : Nat × Blk} {m : List (Nat × Blk)}
theorem CallsM.moreD (h : CallsM P Γ f [a, e] nx xs r upd new) : CallsM P Γ f [a, b, c, d, e] nx xs r upd new := h.more fun p hp => by
  simp only [List.mem_cons, List.not_mem_nil, or_false] at hp ⊢; rcases hp with hp | hp <;> simp [hp]
end
section
variable {L : List TokP} {m : Nat}
theorem isV_end {i : Nat} {t : List UInt8} (h : (tk L i).k = 3) : isV L i t = false := by unfold isV; simp [h]
theorem isV_not {i : Nat} {t w : List UInt8} (h : (tk L i).t = t) (hn : t ≠ w) : isV L i w = false := by unfold isV; rw [h, decide_eq_false hn, Bool.and_false]
theorem isV_yes {i : Nat} {t : List UInt8} (hk : (tk L i).k ≠ 3) (h : (tk L i).t = t) : isV L i t = true := by unfold isV; rw [h, decide_eq_false hk, decide_eq_true rfl]; rfl
abbrev Iz (nm : List UInt8) (ty : Int) (der : Nat) (a b : List UInt8) (wh : Int) : Blk := .obj [.d (ds (bs nm)), .d (di ty), .d (di der), .d (ds (bs a)), .d (ds (bs b)), .d (di wh), .d (di 0), .d (db false), .d dnil]
def PR.uD (L : List TokP) (m : Nat) (nm : List UInt8) (ty wh : Int) : PR (Nat × List UInt8 × List UInt8) → List (Nat × Blk)
  | .ok v s => [(0, Qz L m s.i), (2, Iz nm ty v.1 v.2.1 v.2.2 wh)]
  | .err _ _ => [(0, .dead), (2, .dead)]
set_option maxHeartbeats 4000000 in
theorem derived_c (hL : TokOk L) (hn : L.length ≤ 100000) (nm : List UInt8) (ty wh : Int) (s : PS) {c : Nat} (hs : SOk L c s) :
    CallsM Tryz.prog ΓL 86 [(0, Qz L m s.i), (2, Iz nm ty 0 [] [] wh)] 3 [P0, .c (.ptr 2 0)] ((derivedM L s).tv L fun _ => .tup []) ((derivedM L s).uD L m nm ty wh) [] := by
  obtain ⟨T, hT⟩ : ∃ T, derivedM L s = T := ⟨_, rfl⟩
  rw [hT]
  unfold derivedM at hT
  obtain ⟨i, xs, ts⟩ := s
  have hi := hs.lt
  have hbad : (∀ t, t ∈ [w_sizeof, w_countof, w_crc32, w_adler32] → isV L i t = false) → T = .err i 4 → CallsM Tryz.prog ΓL 86 [(0, Qz L m i), (2, Iz nm ty 0 [] [] wh)] 3 [P0, .c (.ptr 2 0)] (T.tv L fun _ => .tup []) (T.uD L m nm ty wh) [] := fun hv hTe => by
    subst hTe
    refine fn_ruleP (C := ⟨Tryz.prog, layF, Tryz.f86.ntmps, ΓL, 3, [], []⟩) layF_ok mixed Tryz.func86 rfl (by kernel_rfl) rfl rfl rfl SLe.rfl ?_
    refine sC (CallsM.ren ((may_no i hi _ (hv w_sizeof (by simp)))) [0, 1] 3 rfl rfl rfl rfl) ?_
    repeat' (first | refine tT ?_ | refine tF ?_ | refine ex_dec (fun _ => ?_) (fun _ => ?_) | refine t8 ?_ | refine tI ?_ | refine tU ?_ | refine tA ?_ | refine tB ?_ | refine tL ?_ | refine tN ?_ | fail "no step")
    refine sC (CallsM.ren ((may_no i hi _ (hv w_countof (by simp)))) [0, 1] 3 rfl rfl rfl rfl) ?_
    repeat' (first | refine tT ?_ | refine tF ?_ | refine ex_dec (fun _ => ?_) (fun _ => ?_) | refine t8 ?_ | refine tI ?_ | refine tU ?_ | refine tA ?_ | refine tB ?_ | refine tL ?_ | refine tN ?_ | fail "no step")
    refine sC (CallsM.ren ((may_no i hi _ (hv w_crc32 (by simp)))) [0, 1] 3 rfl rfl rfl rfl) ?_
    repeat' (first | refine tT ?_ | refine tF ?_ | refine ex_dec (fun _ => ?_) (fun _ => ?_) | refine t8 ?_ | refine tI ?_ | refine tU ?_ | refine tA ?_ | refine tB ?_ | refine tL ?_ | refine tN ?_ | fail "no step")
    refine sC (CallsM.ren ((may_no i hi _ (hv w_adler32 (by simp)))) [0, 1] 3 rfl rfl rfl rfl) ?_
    repeat' (first | refine tT ?_ | refine tF ?_ | refine ex_dec (fun _ => ?_) (fun _ => ?_) | refine t8 ?_ | refine tI ?_ | refine tU ?_ | refine tA ?_ | refine tB ?_ | refine tL ?_ | refine tN ?_ | fail "no step")
    refine sC (CallsM.ren ((fail_c i 4 hi)) [0, 1] 3 rfl rfl rfl rfl) ?_
    exact ⟨⟨_, rfl, rfl⟩, rfl, rfl⟩
  by_cases hk : (tk L i).k = 3
  · exact hbad (fun t _ => isV_end hk) (atn hT (by simp [hk])).symm
  · obtain ⟨w, hw⟩ : ∃ w, (tk L i).t = w := ⟨_, rfl⟩
    by_cases hm : w ∈ [w_sizeof, w_countof, w_crc32, w_adler32]
    · have hs1 := stpS hL hs hk
      have hd0 : derOf w ≠ 0 := by
        simp only [List.mem_cons, List.not_mem_nil, or_false] at hm
        rcases hm with rfl | rfl | rfl | rfl <;> decide
      have hT0 := aty hT (by simp [hk, hw, hd0])
      have hT : (takeM L t_lpar >>= fun _ => nameM L >>= fun a => (if 3 ≤ derOf w then takeM L t_dots >>= fun _ => nameM L else pure []) >>= fun b => takeM L t_rpar >>= fun _ => pure (derOf w, a, b)) ⟨i + 1, xs, ts⟩ = T := by rw [← hw]; exact hT0
      clear hT0
      simp only [List.mem_cons, List.not_mem_nil, or_false] at hm
      rcases hm with rfl | rfl | rfl | rfl
      · rw [show derOf w_sizeof = 1 by decide +kernel] at hT
        refine fn_ruleP (C := ⟨Tryz.prog, layF, Tryz.f86.ntmps, ΓL, 3, [], []⟩) layF_ok mixed Tryz.func86 rfl (by kernel_rfl) rfl rfl rfl SLe.rfl ?_
        refine sC (CallsM.ren ((may_yes i hi (by omega) _ (isV_yes hk hw))) [0, 1] 3 rfl rfl rfl rfl) ?_
        repeat' (first | refine tT ?_ | refine tF ?_ | refine ex_dec (fun _ => ?_) (fun _ => ?_) | refine t8 ?_ | refine tI ?_ | refine tU ?_ | refine tA ?_ | refine tB ?_ | refine tL ?_ | refine tN ?_ | fail "no step")
        have hcon := take_c (m := m) ⟨i + 1, xs, ts⟩ hs1.i (by omega) t_lpar
        rcases hx59 : (takeM L t_lpar) ⟨i + 1, xs, ts⟩ with ⟨_, s9⟩ | ⟨i9, e9⟩
        rotate_left
        · obtain rfl := (and_err hx59).symm.trans hT
          refine sC (CallsM.ren (hcon.err hx59) [0, 1] 3 rfl rfl rfl rfl) ?_
          first | exact ⟨⟨_, rfl, rfl⟩, rfl, rfl⟩ | exact ⟨by kernel_rfl, ⟨_, rfl, rfl⟩, rfl, rfl⟩
        replace hT := (and_ok hx59).symm.trans hT
        refine sC (CallsM.ren (hcon.ok hx59) [0, 1] 3 rfl rfl rfl rfl) ?_
        clear hcon
        have hs2 := (Up.ok (Up.take hL t_lpar 0) hs1 hx59).1
        obtain rfl := mv_take1 hx59
        repeat' (first | refine tT ?_ | refine tF ?_ | refine ex_dec (fun _ => ?_) (fun _ => ?_) | refine t8 ?_ | refine tI ?_ | refine tU ?_ | refine tA ?_ | refine tB ?_ | refine tL ?_ | refine tN ?_ | fail "no step")
        have hcon := name_c (m := m) ⟨i + 1 + 1, xs, ts⟩ hs2.i (by omega)
        rcases hx61 : (nameM L) ⟨i + 1 + 1, xs, ts⟩ with ⟨a, s9⟩ | ⟨i9, e9⟩
        rotate_left
        · obtain rfl := (and_err hx61).symm.trans hT
          refine sC (CallsM.ren (hcon.err hx61) [0, 1] 3 rfl rfl rfl rfl) ?_
          first | exact ⟨⟨_, rfl, rfl⟩, rfl, rfl⟩ | exact ⟨by kernel_rfl, ⟨_, rfl, rfl⟩, rfl, rfl⟩
        replace hT := (and_ok hx61).symm.trans hT
        refine sC (CallsM.ren (hcon.ok hx61) [0, 1] 3 rfl rfl rfl rfl) ?_
        clear hcon
        have hs3 := (Up.ok (Up.name hL 0) hs2 hx61).1
        obtain rfl := mv_name1 hx61
        repeat' (first | refine tT ?_ | refine tF ?_ | refine ex_dec (fun _ => ?_) (fun _ => ?_) | refine t8 ?_ | refine tI ?_ | refine tU ?_ | refine tA ?_ | refine tB ?_ | refine tL ?_ | refine tN ?_ | fail "no step")
        replace hT := pureT hT
        have hcon := take_c (m := m) ⟨i + 1 + 1 + 1, xs, ts⟩ hs3.i (by omega) t_rpar
        rcases hx64 : (takeM L t_rpar) ⟨i + 1 + 1 + 1, xs, ts⟩ with ⟨_, s9⟩ | ⟨i9, e9⟩
        rotate_left
        · obtain rfl := (and_err hx64).symm.trans hT
          refine sC (CallsM.ren (hcon.err hx64) [0, 1] 3 rfl rfl rfl rfl) ?_
          first | exact ⟨⟨_, rfl, rfl⟩, rfl, rfl⟩ | exact ⟨by kernel_rfl, ⟨_, rfl, rfl⟩, rfl, rfl⟩
        replace hT := (and_ok hx64).symm.trans hT
        refine sC (CallsM.ren (hcon.ok hx64) [0, 1] 3 rfl rfl rfl rfl) ?_
        clear hcon
        have hs4 := (Up.ok (Up.take hL t_rpar 0) hs3 hx64).1
        obtain rfl := mv_take1 hx64
        obtain rfl : PR.ok ((1 : Nat), a, ([] : List UInt8)) ⟨i + 1 + 1 + 1 + 1, xs, ts⟩ = T := hT
        repeat' (first | refine tT ?_ | refine tF ?_ | refine ex_dec (fun _ => ?_) (fun _ => ?_) | refine t8 ?_ | refine tI ?_ | refine tU ?_ | refine tA ?_ | refine tB ?_ | refine tL ?_ | refine tN ?_ | fail "no step")
        exact ⟨rfl, TLe.rfl, rfl, rfl⟩
      · rw [show derOf w_countof = 2 by decide +kernel] at hT
        refine fn_ruleP (C := ⟨Tryz.prog, layF, Tryz.f86.ntmps, ΓL, 3, [], []⟩) layF_ok mixed Tryz.func86 rfl (by kernel_rfl) rfl rfl rfl SLe.rfl ?_
        refine sC (CallsM.ren ((may_no i hi w_sizeof (isV_not hw (by decide)))) [0, 1] 3 rfl rfl rfl rfl) ?_
        repeat' (first | refine tT ?_ | refine tF ?_ | refine ex_dec (fun _ => ?_) (fun _ => ?_) | refine t8 ?_ | refine tI ?_ | refine tU ?_ | refine tA ?_ | refine tB ?_ | refine tL ?_ | refine tN ?_ | fail "no step")
        refine sC (CallsM.ren ((may_yes i hi (by omega) _ (isV_yes hk hw))) [0, 1] 3 rfl rfl rfl rfl) ?_
        repeat' (first | refine tT ?_ | refine tF ?_ | refine ex_dec (fun _ => ?_) (fun _ => ?_) | refine t8 ?_ | refine tI ?_ | refine tU ?_ | refine tA ?_ | refine tB ?_ | refine tL ?_ | refine tN ?_ | fail "no step")
        have hcon := take_c (m := m) ⟨i + 1, xs, ts⟩ hs1.i (by omega) t_lpar
        rcases hx74 : (takeM L t_lpar) ⟨i + 1, xs, ts⟩ with ⟨_, s9⟩ | ⟨i9, e9⟩
        rotate_left
        · obtain rfl := (and_err hx74).symm.trans hT
          refine sC (CallsM.ren (hcon.err hx74) [0, 1] 3 rfl rfl rfl rfl) ?_
          first | exact ⟨⟨_, rfl, rfl⟩, rfl, rfl⟩ | exact ⟨by kernel_rfl, ⟨_, rfl, rfl⟩, rfl, rfl⟩
        replace hT := (and_ok hx74).symm.trans hT
        refine sC (CallsM.ren (hcon.ok hx74) [0, 1] 3 rfl rfl rfl rfl) ?_
        clear hcon
        have hs2 := (Up.ok (Up.take hL t_lpar 0) hs1 hx74).1
        obtain rfl := mv_take1 hx74
        repeat' (first | refine tT ?_ | refine tF ?_ | refine ex_dec (fun _ => ?_) (fun _ => ?_) | refine t8 ?_ | refine tI ?_ | refine tU ?_ | refine tA ?_ | refine tB ?_ | refine tL ?_ | refine tN ?_ | fail "no step")
        have hcon := name_c (m := m) ⟨i + 1 + 1, xs, ts⟩ hs2.i (by omega)
        rcases hx76 : (nameM L) ⟨i + 1 + 1, xs, ts⟩ with ⟨a, s9⟩ | ⟨i9, e9⟩
        rotate_left
        · obtain rfl := (and_err hx76).symm.trans hT
          refine sC (CallsM.ren (hcon.err hx76) [0, 1] 3 rfl rfl rfl rfl) ?_
          first | exact ⟨⟨_, rfl, rfl⟩, rfl, rfl⟩ | exact ⟨by kernel_rfl, ⟨_, rfl, rfl⟩, rfl, rfl⟩
        replace hT := (and_ok hx76).symm.trans hT
        refine sC (CallsM.ren (hcon.ok hx76) [0, 1] 3 rfl rfl rfl rfl) ?_
        clear hcon
        have hs3 := (Up.ok (Up.name hL 0) hs2 hx76).1
        obtain rfl := mv_name1 hx76
        repeat' (first | refine tT ?_ | refine tF ?_ | refine ex_dec (fun _ => ?_) (fun _ => ?_) | refine t8 ?_ | refine tI ?_ | refine tU ?_ | refine tA ?_ | refine tB ?_ | refine tL ?_ | refine tN ?_ | fail "no step")
        replace hT := pureT hT
        have hcon := take_c (m := m) ⟨i + 1 + 1 + 1, xs, ts⟩ hs3.i (by omega) t_rpar
        rcases hx79 : (takeM L t_rpar) ⟨i + 1 + 1 + 1, xs, ts⟩ with ⟨_, s9⟩ | ⟨i9, e9⟩
        rotate_left
        · obtain rfl := (and_err hx79).symm.trans hT
          refine sC (CallsM.ren (hcon.err hx79) [0, 1] 3 rfl rfl rfl rfl) ?_
          first | exact ⟨⟨_, rfl, rfl⟩, rfl, rfl⟩ | exact ⟨by kernel_rfl, ⟨_, rfl, rfl⟩, rfl, rfl⟩
        replace hT := (and_ok hx79).symm.trans hT
        refine sC (CallsM.ren (hcon.ok hx79) [0, 1] 3 rfl rfl rfl rfl) ?_
        clear hcon
        have hs4 := (Up.ok (Up.take hL t_rpar 0) hs3 hx79).1
        obtain rfl := mv_take1 hx79
        obtain rfl : PR.ok ((2 : Nat), a, ([] : List UInt8)) ⟨i + 1 + 1 + 1 + 1, xs, ts⟩ = T := hT
        repeat' (first | refine tT ?_ | refine tF ?_ | refine ex_dec (fun _ => ?_) (fun _ => ?_) | refine t8 ?_ | refine tI ?_ | refine tU ?_ | refine tA ?_ | refine tB ?_ | refine tL ?_ | refine tN ?_ | fail "no step")
        exact ⟨rfl, TLe.rfl, rfl, rfl⟩
      · rw [show derOf w_crc32 = 3 by decide +kernel] at hT
        refine fn_ruleP (C := ⟨Tryz.prog, layF, Tryz.f86.ntmps, ΓL, 3, [], []⟩) layF_ok mixed Tryz.func86 rfl (by kernel_rfl) rfl rfl rfl SLe.rfl ?_
        refine sC (CallsM.ren ((may_no i hi w_sizeof (isV_not hw (by decide)))) [0, 1] 3 rfl rfl rfl rfl) ?_
        repeat' (first | refine tT ?_ | refine tF ?_ | refine ex_dec (fun _ => ?_) (fun _ => ?_) | refine t8 ?_ | refine tI ?_ | refine tU ?_ | refine tA ?_ | refine tB ?_ | refine tL ?_ | refine tN ?_ | fail "no step")
        refine sC (CallsM.ren ((may_no i hi w_countof (isV_not hw (by decide)))) [0, 1] 3 rfl rfl rfl rfl) ?_
        repeat' (first | refine tT ?_ | refine tF ?_ | refine ex_dec (fun _ => ?_) (fun _ => ?_) | refine t8 ?_ | refine tI ?_ | refine tU ?_ | refine tA ?_ | refine tB ?_ | refine tL ?_ | refine tN ?_ | fail "no step")
        refine sC (CallsM.ren ((may_yes i hi (by omega) _ (isV_yes hk hw))) [0, 1] 3 rfl rfl rfl rfl) ?_
        repeat' (first | refine tT ?_ | refine tF ?_ | refine ex_dec (fun _ => ?_) (fun _ => ?_) | refine t8 ?_ | refine tI ?_ | refine tU ?_ | refine tA ?_ | refine tB ?_ | refine tL ?_ | refine tN ?_ | fail "no step")
        have hcon := take_c (m := m) ⟨i + 1, xs, ts⟩ hs1.i (by omega) t_lpar
        rcases hx91 : (takeM L t_lpar) ⟨i + 1, xs, ts⟩ with ⟨_, s9⟩ | ⟨i9, e9⟩
        rotate_left
        · obtain rfl := (and_err hx91).symm.trans hT
          refine sC (CallsM.ren (hcon.err hx91) [0, 1] 3 rfl rfl rfl rfl) ?_
          first | exact ⟨⟨_, rfl, rfl⟩, rfl, rfl⟩ | exact ⟨by kernel_rfl, ⟨_, rfl, rfl⟩, rfl, rfl⟩
        replace hT := (and_ok hx91).symm.trans hT
        refine sC (CallsM.ren (hcon.ok hx91) [0, 1] 3 rfl rfl rfl rfl) ?_
        clear hcon
        have hs2 := (Up.ok (Up.take hL t_lpar 0) hs1 hx91).1
        obtain rfl := mv_take1 hx91
        repeat' (first | refine tT ?_ | refine tF ?_ | refine ex_dec (fun _ => ?_) (fun _ => ?_) | refine t8 ?_ | refine tI ?_ | refine tU ?_ | refine tA ?_ | refine tB ?_ | refine tL ?_ | refine tN ?_ | fail "no step")
        have hcon := name_c (m := m) ⟨i + 1 + 1, xs, ts⟩ hs2.i (by omega)
        rcases hx93 : (nameM L) ⟨i + 1 + 1, xs, ts⟩ with ⟨a, s9⟩ | ⟨i9, e9⟩
        rotate_left
        · obtain rfl := (and_err hx93).symm.trans hT
          refine sC (CallsM.ren (hcon.err hx93) [0, 1] 3 rfl rfl rfl rfl) ?_
          first | exact ⟨⟨_, rfl, rfl⟩, rfl, rfl⟩ | exact ⟨by kernel_rfl, ⟨_, rfl, rfl⟩, rfl, rfl⟩
        replace hT := (and_ok hx93).symm.trans hT
        refine sC (CallsM.ren (hcon.ok hx93) [0, 1] 3 rfl rfl rfl rfl) ?_
        clear hcon
        have hs3 := (Up.ok (Up.name hL 0) hs2 hx93).1
        obtain rfl := mv_name1 hx93
        repeat' (first | refine tT ?_ | refine tF ?_ | refine ex_dec (fun _ => ?_) (fun _ => ?_) | refine t8 ?_ | refine tI ?_ | refine tU ?_ | refine tA ?_ | refine tB ?_ | refine tL ?_ | refine tN ?_ | fail "no step")
        replace hT := asc hT
        have hcon := take_c (m := m) ⟨i + 1 + 1 + 1, xs, ts⟩ hs3.i (by omega) t_dots
        rcases hx96 : (takeM L t_dots) ⟨i + 1 + 1 + 1, xs, ts⟩ with ⟨_, s9⟩ | ⟨i9, e9⟩
        rotate_left
        · obtain rfl := (and_err hx96).symm.trans hT
          refine sC (CallsM.ren (hcon.err hx96) [0, 1] 3 rfl rfl rfl rfl) ?_
          first | exact ⟨⟨_, rfl, rfl⟩, rfl, rfl⟩ | exact ⟨by kernel_rfl, ⟨_, rfl, rfl⟩, rfl, rfl⟩
        replace hT := (and_ok hx96).symm.trans hT
        refine sC (CallsM.ren (hcon.ok hx96) [0, 1] 3 rfl rfl rfl rfl) ?_
        clear hcon
        have hs4 := (Up.ok (Up.take hL t_dots 0) hs3 hx96).1
        obtain rfl := mv_take1 hx96
        repeat' (first | refine tT ?_ | refine tF ?_ | refine ex_dec (fun _ => ?_) (fun _ => ?_) | refine t8 ?_ | refine tI ?_ | refine tU ?_ | refine tA ?_ | refine tB ?_ | refine tL ?_ | refine tN ?_ | fail "no step")
        have hcon := name_c (m := m) ⟨i + 1 + 1 + 1 + 1, xs, ts⟩ hs4.i (by omega)
        rcases hx98 : (nameM L) ⟨i + 1 + 1 + 1 + 1, xs, ts⟩ with ⟨b, s9⟩ | ⟨i9, e9⟩
        rotate_left
        · obtain rfl := (and_err hx98).symm.trans hT
          refine sC (CallsM.ren (hcon.err hx98) [0, 1] 3 rfl rfl rfl rfl) ?_
          first | exact ⟨⟨_, rfl, rfl⟩, rfl, rfl⟩ | exact ⟨by kernel_rfl, ⟨_, rfl, rfl⟩, rfl, rfl⟩
        replace hT := (and_ok hx98).symm.trans hT
        refine sC (CallsM.ren (hcon.ok hx98) [0, 1] 3 rfl rfl rfl rfl) ?_
        clear hcon
        have hs5 := (Up.ok (Up.name hL 0) hs4 hx98).1
        obtain rfl := mv_name1 hx98
        repeat' (first | refine tT ?_ | refine tF ?_ | refine ex_dec (fun _ => ?_) (fun _ => ?_) | refine t8 ?_ | refine tI ?_ | refine tU ?_ | refine tA ?_ | refine tB ?_ | refine tL ?_ | refine tN ?_ | fail "no step")
        have hcon := take_c (m := m) ⟨i + 1 + 1 + 1 + 1 + 1, xs, ts⟩ hs5.i (by omega) t_rpar
        rcases hx100 : (takeM L t_rpar) ⟨i + 1 + 1 + 1 + 1 + 1, xs, ts⟩ with ⟨_, s9⟩ | ⟨i9, e9⟩
        rotate_left
        · obtain rfl := (and_err hx100).symm.trans hT
          refine sC (CallsM.ren (hcon.err hx100) [0, 1] 3 rfl rfl rfl rfl) ?_
          first | exact ⟨⟨_, rfl, rfl⟩, rfl, rfl⟩ | exact ⟨by kernel_rfl, ⟨_, rfl, rfl⟩, rfl, rfl⟩
        replace hT := (and_ok hx100).symm.trans hT
        refine sC (CallsM.ren (hcon.ok hx100) [0, 1] 3 rfl rfl rfl rfl) ?_
        clear hcon
        have hs6 := (Up.ok (Up.take hL t_rpar 0) hs5 hx100).1
        obtain rfl := mv_take1 hx100
        obtain rfl : PR.ok ((3 : Nat), a, b) ⟨i + 1 + 1 + 1 + 1 + 1 + 1, xs, ts⟩ = T := hT
        repeat' (first | refine tT ?_ | refine tF ?_ | refine ex_dec (fun _ => ?_) (fun _ => ?_) | refine t8 ?_ | refine tI ?_ | refine tU ?_ | refine tA ?_ | refine tB ?_ | refine tL ?_ | refine tN ?_ | fail "no step")
        exact ⟨rfl, TLe.rfl, rfl, rfl⟩
      · rw [show derOf w_adler32 = 4 by decide +kernel] at hT
        refine fn_ruleP (C := ⟨Tryz.prog, layF, Tryz.f86.ntmps, ΓL, 3, [], []⟩) layF_ok mixed Tryz.func86 rfl (by kernel_rfl) rfl rfl rfl SLe.rfl ?_
        refine sC (CallsM.ren ((may_no i hi w_sizeof (isV_not hw (by decide)))) [0, 1] 3 rfl rfl rfl rfl) ?_
        repeat' (first | refine tT ?_ | refine tF ?_ | refine ex_dec (fun _ => ?_) (fun _ => ?_) | refine t8 ?_ | refine tI ?_ | refine tU ?_ | refine tA ?_ | refine tB ?_ | refine tL ?_ | refine tN ?_ | fail "no step")
        refine sC (CallsM.ren ((may_no i hi w_countof (isV_not hw (by decide)))) [0, 1] 3 rfl rfl rfl rfl) ?_
        repeat' (first | refine tT ?_ | refine tF ?_ | refine ex_dec (fun _ => ?_) (fun _ => ?_) | refine t8 ?_ | refine tI ?_ | refine tU ?_ | refine tA ?_ | refine tB ?_ | refine tL ?_ | refine tN ?_ | fail "no step")
        refine sC (CallsM.ren ((may_no i hi w_crc32 (isV_not hw (by decide)))) [0, 1] 3 rfl rfl rfl rfl) ?_
        repeat' (first | refine tT ?_ | refine tF ?_ | refine ex_dec (fun _ => ?_) (fun _ => ?_) | refine t8 ?_ | refine tI ?_ | refine tU ?_ | refine tA ?_ | refine tB ?_ | refine tL ?_ | refine tN ?_ | fail "no step")
        refine sC (CallsM.ren ((may_yes i hi (by omega) _ (isV_yes hk hw))) [0, 1] 3 rfl rfl rfl rfl) ?_
        repeat' (first | refine tT ?_ | refine tF ?_ | refine ex_dec (fun _ => ?_) (fun _ => ?_) | refine t8 ?_ | refine tI ?_ | refine tU ?_ | refine tA ?_ | refine tB ?_ | refine tL ?_ | refine tN ?_ | fail "no step")
        have hcon := take_c (m := m) ⟨i + 1, xs, ts⟩ hs1.i (by omega) t_lpar
        rcases hx114 : (takeM L t_lpar) ⟨i + 1, xs, ts⟩ with ⟨_, s9⟩ | ⟨i9, e9⟩
        rotate_left
        · obtain rfl := (and_err hx114).symm.trans hT
          refine sC (CallsM.ren (hcon.err hx114) [0, 1] 3 rfl rfl rfl rfl) ?_
          first | exact ⟨⟨_, rfl, rfl⟩, rfl, rfl⟩ | exact ⟨by kernel_rfl, ⟨_, rfl, rfl⟩, rfl, rfl⟩
        replace hT := (and_ok hx114).symm.trans hT
        refine sC (CallsM.ren (hcon.ok hx114) [0, 1] 3 rfl rfl rfl rfl) ?_
        clear hcon
        have hs2 := (Up.ok (Up.take hL t_lpar 0) hs1 hx114).1
        obtain rfl := mv_take1 hx114
        repeat' (first | refine tT ?_ | refine tF ?_ | refine ex_dec (fun _ => ?_) (fun _ => ?_) | refine t8 ?_ | refine tI ?_ | refine tU ?_ | refine tA ?_ | refine tB ?_ | refine tL ?_ | refine tN ?_ | fail "no step")
        have hcon := name_c (m := m) ⟨i + 1 + 1, xs, ts⟩ hs2.i (by omega)
        rcases hx116 : (nameM L) ⟨i + 1 + 1, xs, ts⟩ with ⟨a, s9⟩ | ⟨i9, e9⟩
        rotate_left
        · obtain rfl := (and_err hx116).symm.trans hT
          refine sC (CallsM.ren (hcon.err hx116) [0, 1] 3 rfl rfl rfl rfl) ?_
          first | exact ⟨⟨_, rfl, rfl⟩, rfl, rfl⟩ | exact ⟨by kernel_rfl, ⟨_, rfl, rfl⟩, rfl, rfl⟩
        replace hT := (and_ok hx116).symm.trans hT
        refine sC (CallsM.ren (hcon.ok hx116) [0, 1] 3 rfl rfl rfl rfl) ?_
        clear hcon
        have hs3 := (Up.ok (Up.name hL 0) hs2 hx116).1
        obtain rfl := mv_name1 hx116
        repeat' (first | refine tT ?_ | refine tF ?_ | refine ex_dec (fun _ => ?_) (fun _ => ?_) | refine t8 ?_ | refine tI ?_ | refine tU ?_ | refine tA ?_ | refine tB ?_ | refine tL ?_ | refine tN ?_ | fail "no step")
        replace hT := asc hT
        have hcon := take_c (m := m) ⟨i + 1 + 1 + 1, xs, ts⟩ hs3.i (by omega) t_dots
        rcases hx119 : (takeM L t_dots) ⟨i + 1 + 1 + 1, xs, ts⟩ with ⟨_, s9⟩ | ⟨i9, e9⟩
        rotate_left
        · obtain rfl := (and_err hx119).symm.trans hT
          refine sC (CallsM.ren (hcon.err hx119) [0, 1] 3 rfl rfl rfl rfl) ?_
          first | exact ⟨⟨_, rfl, rfl⟩, rfl, rfl⟩ | exact ⟨by kernel_rfl, ⟨_, rfl, rfl⟩, rfl, rfl⟩
        replace hT := (and_ok hx119).symm.trans hT
        refine sC (CallsM.ren (hcon.ok hx119) [0, 1] 3 rfl rfl rfl rfl) ?_
        clear hcon
        have hs4 := (Up.ok (Up.take hL t_dots 0) hs3 hx119).1
        obtain rfl := mv_take1 hx119
        repeat' (first | refine tT ?_ | refine tF ?_ | refine ex_dec (fun _ => ?_) (fun _ => ?_) | refine t8 ?_ | refine tI ?_ | refine tU ?_ | refine tA ?_ | refine tB ?_ | refine tL ?_ | refine tN ?_ | fail "no step")
        have hcon := name_c (m := m) ⟨i + 1 + 1 + 1 + 1, xs, ts⟩ hs4.i (by omega)
        rcases hx121 : (nameM L) ⟨i + 1 + 1 + 1 + 1, xs, ts⟩ with ⟨b, s9⟩ | ⟨i9, e9⟩
        rotate_left
        · obtain rfl := (and_err hx121).symm.trans hT
          refine sC (CallsM.ren (hcon.err hx121) [0, 1] 3 rfl rfl rfl rfl) ?_
          first | exact ⟨⟨_, rfl, rfl⟩, rfl, rfl⟩ | exact ⟨by kernel_rfl, ⟨_, rfl, rfl⟩, rfl, rfl⟩
        replace hT := (and_ok hx121).symm.trans hT
        refine sC (CallsM.ren (hcon.ok hx121) [0, 1] 3 rfl rfl rfl rfl) ?_
        clear hcon
        have hs5 := (Up.ok (Up.name hL 0) hs4 hx121).1
        obtain rfl := mv_name1 hx121
        repeat' (first | refine tT ?_ | refine tF ?_ | refine ex_dec (fun _ => ?_) (fun _ => ?_) | refine t8 ?_ | refine tI ?_ | refine tU ?_ | refine tA ?_ | refine tB ?_ | refine tL ?_ | refine tN ?_ | fail "no step")
        have hcon := take_c (m := m) ⟨i + 1 + 1 + 1 + 1 + 1, xs, ts⟩ hs5.i (by omega) t_rpar
        rcases hx123 : (takeM L t_rpar) ⟨i + 1 + 1 + 1 + 1 + 1, xs, ts⟩ with ⟨_, s9⟩ | ⟨i9, e9⟩
        rotate_left
        · obtain rfl := (and_err hx123).symm.trans hT
          refine sC (CallsM.ren (hcon.err hx123) [0, 1] 3 rfl rfl rfl rfl) ?_
          first | exact ⟨⟨_, rfl, rfl⟩, rfl, rfl⟩ | exact ⟨by kernel_rfl, ⟨_, rfl, rfl⟩, rfl, rfl⟩
        replace hT := (and_ok hx123).symm.trans hT
        refine sC (CallsM.ren (hcon.ok hx123) [0, 1] 3 rfl rfl rfl rfl) ?_
        clear hcon
        have hs6 := (Up.ok (Up.take hL t_rpar 0) hs5 hx123).1
        obtain rfl := mv_take1 hx123
        obtain rfl : PR.ok ((4 : Nat), a, b) ⟨i + 1 + 1 + 1 + 1 + 1 + 1, xs, ts⟩ = T := hT
        repeat' (first | refine tT ?_ | refine tF ?_ | refine ex_dec (fun _ => ?_) (fun _ => ?_) | refine t8 ?_ | refine tI ?_ | refine tU ?_ | refine tA ?_ | refine tB ?_ | refine tL ?_ | refine tN ?_ | fail "no step")
        exact ⟨rfl, TLe.rfl, rfl, rfl⟩
    · have h0 : derOf w = 0 := by
        unfold derOf
        rw [if_neg (fun e => hm (by simp [e])), if_neg (fun e => hm (by simp [e])), if_neg (fun e => hm (by simp [e])), if_neg (fun e => hm (by simp [e]))]
      exact hbad (fun t ht => isV_not hw (fun e => hm (by rw [e]; exact ht))) (atn hT (by simp [hw, h0])).symm
end
end Go.Proofs.YtkbhmcdoedmffaaGreatDoor
