/- ExprText: the number of the expression of a text over an environment, or its error, is the document's. Condition: the listed package variables hold what the program's text lays. -/
import Derived.Laws.StructEq
import Derived.ChangeKeysEq
import Derived.Lib.LaidTab
import Derived.Test.YtoingpafcodojaaGreatDoorRows
import Derived.Lay
import Derived.MakeChecks
import Derived.Test.YtoingpafcodojaaGreatDoorCards
import Derived.Test.YtoingpafcodojaaGreatDoorTie
import Derived.SevenTiedAt
import Derived.Deep.DeepHandedRow
import Derived.Test.YtoingpafcodojaaGreatDoorBnd1
import Derived.Test.YtoingpafcodojaaGreatDoorBnd2
import Derived.Test.YtoingpafcodojaaGreatDoorBnd3
import Derived.Test.YtoingpafcodojaaGreatDoorBnd4
import Derived.Test.YtoingpafcodojaaGreatDoorBnd5
set_option linter.unusedVariables false
set_option linter.unusedSimpArgs false
set_option maxRecDepth 100000
namespace Go.Proofs.YtoingpafcodojaaGreatDoor
open Go.RowKit

section
variable {L : List TokP} {m : Nat}
theorem rkind_err {y : RM Int} {st : RSt} (he : st.err ≠ 0) (h10 : st.err ≤ 10) (hy : y st = (0, st)) : W2 L 69 [] y (fun k => Ti k) st := fun v st' hT X T hX hTt => by
 subst hX
 subst hTt
 rw [hy] at hT
 obtain rfl : (0 : Int) = v := congrArg Prod.fst hT
 obtain rfl : st = st' := congrArg Prod.snd hT
 refine fn_ruleP (C := ⟨Tryz.prog, layF, Tryz.f69.ntmps, ΓL, 5, [], []⟩) layF_ok mixed Tryz.func69 rfl (by kernel_rfl) rfl rfl rfl startR2 ?_
 repeat' (first | refine qgs ?_ | refine eD ?_ ?_ <;> intro)
 exact ⟨rfl, TLe.rfl, rfl, rfl⟩
theorem rarrayn_c (hL : TokOk L) (hn : L.length ≤ 100000) (hm : m ≤ 32) (k size : Nat) (little : Bool) (st : RSt) (hg : Gd L m 1 900 st) (v : Int) (st' : RSt) (hT : arrayR L m ⟨k, size, little, [], [], -1, -1, []⟩ st = (v, st')) (X : List EX) (T : List TY) (hX : st.xs = X) (hTt : st.ts = T) :
  CallsM Tryz.prog ΓL 89 [(0, Rz L st 1 2 3 4), (3, Xr X), (4, Tr T)] 5 [P0, gD [di k, di size, db little, ds ⟨#[]⟩, dnil, di (-1), di (-1), dnil]] (Ti v) [(0, Rz L st' 1 2 5 6), (3, .dead), (4, .dead)] [Xr st'.xs, Tr st'.ts] :=
 (rarray_c hL hn hm ⟨k, size, little, [], [], -1, -1, []⟩ st hg v st' hT X T hX hTt).argsLe (.cons T1Le.rfl (.cons (T1Le.g (.cons DLe.rfl (.cons DLe.rfl (.cons DLe.rfl (.cons DLe.rfl (.cons DLe.nil (.cons DLe.rfl (.cons DLe.rfl (.cons DLe.nil .nil))))))))) .nil))
set_option maxHeartbeats 16000000 in
theorem rkind_step (hL : TokOk L) (hn : L.length ≤ 100000) (hm : m ≤ 32) {kd : PM Int} {kd' : RM Int} {c : Nat} (hsm : ∀ m', m = m' + 1 → Sim L m' kd kd' 0 0 c 0) (hc : 1 ≤ c) (hc2 : c ≤ 400) (b1 : ∀ st, st.err ≠ 0 → kd' st = (0, st))
  (hkd : ∀ m', m = m' + 1 → ∀ st, Gd L m' 0 1000 st → W2 L 69 [] kd' (fun k => Ti k) st)
  (st : RSt) (hg : Gd L m 0 1000 st) : W2 L 69 [] (kindFR L m kd') (fun k => Ti k) st := fun v st' hT X T hX hTt => by
 subst hX
 subst hTt
 have kx_st : st.xs = st.xs := rfl
 have kt_st : st.ts = st.ts := rfl
 have hke : ∀ st, st.err ≠ 0 → st.err ≤ 10 → W2 L 69 [] kd' (fun k => Ti k) st := fun st he h10 => rkind_err he h10 (b1 st he)
 have hin : ∀ st, Gd L m 0 990 st → W2 L 92 [] (innerR L kd') (fun k => Ti k) st := fun st hg => rinner_c hn hm hsm hc (by omega) b1 hkd hke st hg
 have hsi := fun a => sim_inner (m := m) hsm (fun s h => by rw [b1 s h]; exact Stay.rfl) hc a
 have hi := hg.i
 have h10 := hg.e
 by_cases he : st.err = 0
 rotate_left
 ·exact rkind_err he h10 (if_neg he) v st' hT _ _ rfl rfl
 replace hT := gdRy hT he
 have hg0 := hg.fresh he 400
 have hnm := rnamed_c st hi
 rcases hv : namedV L st.i with _ | _ <;> rw [hv] at hnm
 rotate_left
 ·replace hT := atRy hT hv
  refine fn_ruleP (C := ⟨Tryz.prog, layF, Tryz.f69.ntmps, ΓL, 5, [], []⟩) layF_ok mixed Tryz.func69 rfl (by kernel_rfl) rfl rfl rfl startR2 ?_
  repeat' (first | refine qgs ?_ | refine eD ?_ ?_ <;> intro)
  refine sC (CallsM.ren (hnm) [0, 1, 2, 5, 6] 7 rfl rfl rfl rfl) ?_
  repeat' (first | refine qgs ?_ | refine eD ?_ ?_ <;> intro)
  rcases q1 : (refR L m) (st) with ⟨t, st1⟩
  replace hT := (rand q1).symm.trans hT
  refine sC (CallsM.ren ((rref_c hL hn hm st (hg0.le (by omega) (by omega))) _ _ q1 _ kx_st) [0, 1, 2, 5, 6] 7 rfl rfl rfl rfl) ?_
  have kx_st1 : st1.xs = st1.xs := rfl
  have kt_st1 := ((keepT_ref m).eq q1).trans kt_st
  have g1 := (sim_ref hL m).gd hg0 (by omega) q1
  repeat' (first | refine qgs ?_ | refine eD ?_ ?_ <;> intro)
  refine sC (CallsM.ren ((rarray_c hL hn hm t st1 (g1.le (by omega) (by omega))) _ _ hT _ _ kx_st1 kt_st1) [0, 1, 2, 7, 6] 9 rfl rfl rfl rfl) ?_
  repeat' (first | refine qgs ?_ | refine eD ?_ ?_ <;> intro)
  exact ⟨rfl, TLe.rfl, rfl, rfl⟩
 replace hT := atRn hT hv
 have hty := rtyped_c st hi
 rcases hv2 : startsV L st.i with _ | _ <;> rw [hv2] at hty
 ·replace hT := atRn hT hv2
  obtain rfl : (0 : Int) = v := congrArg Prod.fst hT
  obtain rfl : { st with err := 4 } = st' := congrArg Prod.snd hT
  have hf := rfail_c (L := L) st 4 (by omega)
  rw [show failR 4 st = { st with err := 4 } from if_pos he] at hf
  refine fn_ruleP (C := ⟨Tryz.prog, layF, Tryz.f69.ntmps, ΓL, 5, [], []⟩) layF_ok mixed Tryz.func69 rfl (by kernel_rfl) rfl rfl rfl startR2 ?_
  repeat' (first | refine qgs ?_ | refine eD ?_ ?_ <;> intro)
  refine sC (CallsM.ren (hnm) [0, 1, 2, 5, 6] 7 rfl rfl rfl rfl) ?_
  repeat' (first | refine qgs ?_ | refine eD ?_ ?_ <;> intro)
  refine sC (CallsM.ren (hty) [0, 1, 2, 5, 6] 7 rfl rfl rfl rfl) ?_
  repeat' (first | refine qgs ?_ | refine eD ?_ ?_ <;> intro)
  refine sC (CallsM.ren (hf) [0, 1, 2, 5, 6] 7 rfl rfl rfl rfl) ?_
  repeat' (first | refine qgs ?_ | refine eD ?_ ?_ <;> intro)
  exact ⟨rfl, TLe.rfl, rfl, rfl⟩
 ·replace hT := atRy hT hv2
  replace hT : wordR L m kd' (tk L st.i).t { st with i := st.i + 1 } = (v, st') := hT
  have hgs := hg0.step hL he (startsV_k hv2) 400
  have hk := tk_at hi
  clear hv hv2
  generalize tk L st.i = u at *
  obtain ⟨uk, w, un, ul, uc⟩ := u
  replace hT : wordR L m kd' w { st with i := st.i + 1 } = (v, st') := hT
  have hrow : ∀ {K : List D → Prop} , K [di uk, ds (bs w), du un, di ul, di uc] → ∃ r, 0 ≤ (st.i : Int) ∧ (L.map tokD)[(st.i : Int).toNat]? = some r ∧ K r := fun h => ex_rowE st.i _ _ rfl hk rfl h
  by_cases hmm : w ∈ typesL
  ·simp only [typesL, List.mem_cons, List.not_mem_nil, or_false] at hmm
   rcases hmm with rfl | rfl | rfl | rfl | rfl | rfl | rfl | rfl | rfl
   ·replace hT : (bracketR L m >>= fun x => layR ({ tyP 1 with ex := x, inn := -1 } : TY)) ({ st with i := st.i + 1 }) = (v, st') := by
     have h := hT
     unfold wordR at h
     rw [show sizedV w_bytes = some 1 by decide +kernel] at h
     dsimp only at h
     rw [if_neg (by decide)] at h
     exact h
    refine fn_ruleP (C := ⟨Tryz.prog, layF, Tryz.f69.ntmps, ΓL, 5, [], []⟩) layF_ok mixed Tryz.func69 rfl (by kernel_rfl) rfl rfl rfl startR2 ?_
    repeat' (first | refine qgs ?_ | refine eD ?_ ?_ <;> intro)
    refine sC (CallsM.ren (hnm) [0, 1, 2, 5, 6] 7 rfl rfl rfl rfl) ?_
    repeat' (first | refine qgs ?_ | refine eD ?_ ?_ <;> intro)
    refine sC (CallsM.ren (hty) [0, 1, 2, 5, 6] 7 rfl rfl rfl rfl) ?_
    repeat' (first | refine aI ((st.i + 1 : Nat) : Int) ?_ | refine aU ((st.i + 1 : Nat) : Int) ?_ | refine aB ((st.i + 1 : Nat) : Int) ?_ | refine hrow ?_ | refine qg1 ?_ | refine eD ?_ ?_ <;> intro)
    rcases q1 : (bracketR L m) ({ st with i := st.i + 1 }) with ⟨x, s2⟩
    replace hT := (rand q1).symm.trans hT
    refine sC (CallsM.ren ((rbracket_c hL hn hm { st with i := st.i + 1 } (hgs.le (by omega) (by omega))) _ _ q1 _ rfl) [0, 1, 2, 5, 6] 8 rfl rfl rfl rfl) ?_
    have kx_s2 : s2.xs = s2.xs := rfl
    have kt_s2 := ((keepT_bracket m).eq q1).trans rfl
    have g2 := (sim_bracket hL m 1).gd hgs (by omega) q1
    have ht2 := g2.t
    obtain rfl : (s2.ts.length : Int) = v := congrArg Prod.fst hT
    obtain rfl : { s2 with ts := s2.ts ++ [({ tyP 1 with ex := x, inn := -1 } : TY)] } = st' := congrArg Prod.snd hT
    repeat' (first | refine qgs ?_ | refine eD ?_ ?_ <;> intro)
    refine sC (CallsM.ren ((rlayn_c (L := L) s2 1 0 false [] x (-1) (by omega) s2.xs _ kt_s2)) [0, 1, 2, 8, 6] 9 rfl rfl rfl rfl) ?_
    repeat' (first | refine qgs ?_ | refine eD ?_ ?_ <;> intro)
    exact ⟨rfl, TLe.rfl, rfl, rfl⟩
   ·replace hT : (bracketR L m >>= fun x => layR ({ tyP 2 with ex := x, inn := -1 } : TY)) ({ st with i := st.i + 1 }) = (v, st') := by
     have h := hT
     unfold wordR at h
     rw [show sizedV w_zero = some 2 by decide +kernel] at h
     dsimp only at h
     rw [if_neg (by decide)] at h
     exact h
    refine fn_ruleP (C := ⟨Tryz.prog, layF, Tryz.f69.ntmps, ΓL, 5, [], []⟩) layF_ok mixed Tryz.func69 rfl (by kernel_rfl) rfl rfl rfl startR2 ?_
    repeat' (first | refine qgs ?_ | refine eD ?_ ?_ <;> intro)
    refine sC (CallsM.ren (hnm) [0, 1, 2, 5, 6] 7 rfl rfl rfl rfl) ?_
    repeat' (first | refine qgs ?_ | refine eD ?_ ?_ <;> intro)
    refine sC (CallsM.ren (hty) [0, 1, 2, 5, 6] 7 rfl rfl rfl rfl) ?_
    repeat' (first | refine aI ((st.i + 1 : Nat) : Int) ?_ | refine aU ((st.i + 1 : Nat) : Int) ?_ | refine aB ((st.i + 1 : Nat) : Int) ?_ | refine hrow ?_ | refine qg1 ?_ | refine eD ?_ ?_ <;> intro)
    rcases q1 : (bracketR L m) ({ st with i := st.i + 1 }) with ⟨x, s2⟩
    replace hT := (rand q1).symm.trans hT
    refine sC (CallsM.ren ((rbracket_c hL hn hm { st with i := st.i + 1 } (hgs.le (by omega) (by omega))) _ _ q1 _ rfl) [0, 1, 2, 5, 6] 8 rfl rfl rfl rfl) ?_
    have kx_s2 : s2.xs = s2.xs := rfl
    have kt_s2 := ((keepT_bracket m).eq q1).trans rfl
    have g2 := (sim_bracket hL m 1).gd hgs (by omega) q1
    have ht2 := g2.t
    obtain rfl : (s2.ts.length : Int) = v := congrArg Prod.fst hT
    obtain rfl : { s2 with ts := s2.ts ++ [({ tyP 2 with ex := x, inn := -1 } : TY)] } = st' := congrArg Prod.snd hT
    repeat' (first | refine qgs ?_ | refine eD ?_ ?_ <;> intro)
    refine sC (CallsM.ren ((rlayn_c (L := L) s2 2 0 false [] x (-1) (by omega) s2.xs _ kt_s2)) [0, 1, 2, 8, 6] 9 rfl rfl rfl rfl) ?_
    repeat' (first | refine qgs ?_ | refine eD ?_ ?_ <;> intro)
    exact ⟨rfl, TLe.rfl, rfl, rfl⟩
   ·replace hT : (bracketR L m >>= fun x => layR ({ tyP 3 with ex := x, inn := -1 } : TY)) ({ st with i := st.i + 1 }) = (v, st') := by
     have h := hT
     unfold wordR at h
     rw [show sizedV w_skip = some 3 by decide +kernel] at h
     dsimp only at h
     rw [if_neg (by decide)] at h
     exact h
    refine fn_ruleP (C := ⟨Tryz.prog, layF, Tryz.f69.ntmps, ΓL, 5, [], []⟩) layF_ok mixed Tryz.func69 rfl (by kernel_rfl) rfl rfl rfl startR2 ?_
    repeat' (first | refine qgs ?_ | refine eD ?_ ?_ <;> intro)
    refine sC (CallsM.ren (hnm) [0, 1, 2, 5, 6] 7 rfl rfl rfl rfl) ?_
    repeat' (first | refine qgs ?_ | refine eD ?_ ?_ <;> intro)
    refine sC (CallsM.ren (hty) [0, 1, 2, 5, 6] 7 rfl rfl rfl rfl) ?_
    repeat' (first | refine aI ((st.i + 1 : Nat) : Int) ?_ | refine aU ((st.i + 1 : Nat) : Int) ?_ | refine aB ((st.i + 1 : Nat) : Int) ?_ | refine hrow ?_ | refine qg1 ?_ | refine eD ?_ ?_ <;> intro)
    rcases q1 : (bracketR L m) ({ st with i := st.i + 1 }) with ⟨x, s2⟩
    replace hT := (rand q1).symm.trans hT
    refine sC (CallsM.ren ((rbracket_c hL hn hm { st with i := st.i + 1 } (hgs.le (by omega) (by omega))) _ _ q1 _ rfl) [0, 1, 2, 5, 6] 8 rfl rfl rfl rfl) ?_
    have kx_s2 : s2.xs = s2.xs := rfl
    have kt_s2 := ((keepT_bracket m).eq q1).trans rfl
    have g2 := (sim_bracket hL m 1).gd hgs (by omega) q1
    have ht2 := g2.t
    obtain rfl : (s2.ts.length : Int) = v := congrArg Prod.fst hT
    obtain rfl : { s2 with ts := s2.ts ++ [({ tyP 3 with ex := x, inn := -1 } : TY)] } = st' := congrArg Prod.snd hT
    repeat' (first | refine qgs ?_ | refine eD ?_ ?_ <;> intro)
    refine sC (CallsM.ren ((rlayn_c (L := L) s2 3 0 false [] x (-1) (by omega) s2.xs _ kt_s2)) [0, 1, 2, 8, 6] 9 rfl rfl rfl rfl) ?_
    repeat' (first | refine qgs ?_ | refine eD ?_ ?_ <;> intro)
    exact ⟨rfl, TLe.rfl, rfl, rfl⟩
   ·replace hT : (bracketR L m >>= fun x => innerR L kd' >>= fun i => layR ({ tyP 7 with ex := x, inn := i } : TY)) ({ st with i := st.i + 1 }) = (v, st') := by
     have h := hT
     unfold wordR at h
     rw [show sizedV w_window = some 7 by decide +kernel] at h
     dsimp only at h
     rw [if_pos (by decide)] at h
     exact h
    refine fn_ruleP (C := ⟨Tryz.prog, layF, Tryz.f69.ntmps, ΓL, 5, [], []⟩) layF_ok mixed Tryz.func69 rfl (by kernel_rfl) rfl rfl rfl startR2 ?_
    repeat' (first | refine qgs ?_ | refine eD ?_ ?_ <;> intro)
    refine sC (CallsM.ren (hnm) [0, 1, 2, 5, 6] 7 rfl rfl rfl rfl) ?_
    repeat' (first | refine qgs ?_ | refine eD ?_ ?_ <;> intro)
    refine sC (CallsM.ren (hty) [0, 1, 2, 5, 6] 7 rfl rfl rfl rfl) ?_
    repeat' (first | refine aI ((st.i + 1 : Nat) : Int) ?_ | refine aU ((st.i + 1 : Nat) : Int) ?_ | refine aB ((st.i + 1 : Nat) : Int) ?_ | refine hrow ?_ | refine qg1 ?_ | refine eD ?_ ?_ <;> intro)
    rcases q1 : (bracketR L m) ({ st with i := st.i + 1 }) with ⟨x, s2⟩
    replace hT := (rand q1).symm.trans hT
    refine sC (CallsM.ren ((rbracket_c hL hn hm { st with i := st.i + 1 } (hgs.le (by omega) (by omega))) _ _ q1 _ rfl) [0, 1, 2, 5, 6] 8 rfl rfl rfl rfl) ?_
    have kx_s2 : s2.xs = s2.xs := rfl
    have kt_s2 := ((keepT_bracket m).eq q1).trans rfl
    have g2 := (sim_bracket hL m 1).gd hgs (by omega) q1
    have ht2 := g2.t
    repeat' (first | refine qgs ?_ | refine eD ?_ ?_ <;> intro)
    rcases q2 : (innerR L kd') (s2) with ⟨k, s3⟩
    replace hT := (rand q2).symm.trans hT
    refine sC (CallsM.ren ((hin s2 (g2.le (by omega) (by omega))) _ _ q2 _ _ kx_s2 kt_s2) [0, 1, 2, 8, 6] 9 rfl rfl rfl rfl) ?_
    have kx_s3 : s3.xs = s3.xs := rfl
    have kt_s3 : s3.ts = s3.ts := rfl
    have g3 := (hsi 3).gd g2 (by omega) q2
    have ht3 := g3.t
    obtain rfl : (s3.ts.length : Int) = v := congrArg Prod.fst hT
    obtain rfl : { s3 with ts := s3.ts ++ [({ tyP 7 with ex := x, inn := k } : TY)] } = st' := congrArg Prod.snd hT
    repeat' (first | refine qgs ?_ | refine eD ?_ ?_ <;> intro)
    refine sC (CallsM.ren ((rlayn_c (L := L) s3 7 0 false [] x k (by omega) s3.xs _ rfl)) [0, 1, 2, 9, 10] 11 rfl rfl rfl rfl) ?_
    repeat' (first | refine qgs ?_ | refine eD ?_ ?_ <;> intro)
    exact ⟨rfl, TLe.rfl, rfl, rfl⟩
   ·replace hT : (bracketR L m >>= fun x => innerR L kd' >>= fun i => layR ({ tyP 8 with ex := x, inn := i } : TY)) ({ st with i := st.i + 1 }) = (v, st') := by
     have h := hT
     unfold wordR at h
     rw [show sizedV w_at = some 8 by decide +kernel] at h
     dsimp only at h
     rw [if_pos (by decide)] at h
     exact h
    refine fn_ruleP (C := ⟨Tryz.prog, layF, Tryz.f69.ntmps, ΓL, 5, [], []⟩) layF_ok mixed Tryz.func69 rfl (by kernel_rfl) rfl rfl rfl startR2 ?_
    repeat' (first | refine qgs ?_ | refine eD ?_ ?_ <;> intro)
    refine sC (CallsM.ren (hnm) [0, 1, 2, 5, 6] 7 rfl rfl rfl rfl) ?_
    repeat' (first | refine qgs ?_ | refine eD ?_ ?_ <;> intro)
    refine sC (CallsM.ren (hty) [0, 1, 2, 5, 6] 7 rfl rfl rfl rfl) ?_
    repeat' (first | refine aI ((st.i + 1 : Nat) : Int) ?_ | refine aU ((st.i + 1 : Nat) : Int) ?_ | refine aB ((st.i + 1 : Nat) : Int) ?_ | refine hrow ?_ | refine qg1 ?_ | refine eD ?_ ?_ <;> intro)
    rcases q1 : (bracketR L m) ({ st with i := st.i + 1 }) with ⟨x, s2⟩
    replace hT := (rand q1).symm.trans hT
    refine sC (CallsM.ren ((rbracket_c hL hn hm { st with i := st.i + 1 } (hgs.le (by omega) (by omega))) _ _ q1 _ rfl) [0, 1, 2, 5, 6] 8 rfl rfl rfl rfl) ?_
    have kx_s2 : s2.xs = s2.xs := rfl
    have kt_s2 := ((keepT_bracket m).eq q1).trans rfl
    have g2 := (sim_bracket hL m 1).gd hgs (by omega) q1
    have ht2 := g2.t
    repeat' (first | refine qgs ?_ | refine eD ?_ ?_ <;> intro)
    rcases q2 : (innerR L kd') (s2) with ⟨k, s3⟩
    replace hT := (rand q2).symm.trans hT
    refine sC (CallsM.ren ((hin s2 (g2.le (by omega) (by omega))) _ _ q2 _ _ kx_s2 kt_s2) [0, 1, 2, 8, 6] 9 rfl rfl rfl rfl) ?_
    have kx_s3 : s3.xs = s3.xs := rfl
    have kt_s3 : s3.ts = s3.ts := rfl
    have g3 := (hsi 3).gd g2 (by omega) q2
    have ht3 := g3.t
    obtain rfl : (s3.ts.length : Int) = v := congrArg Prod.fst hT
    obtain rfl : { s3 with ts := s3.ts ++ [({ tyP 8 with ex := x, inn := k } : TY)] } = st' := congrArg Prod.snd hT
    repeat' (first | refine qgs ?_ | refine eD ?_ ?_ <;> intro)
    refine sC (CallsM.ren ((rlayn_c (L := L) s3 8 0 false [] x k (by omega) s3.xs _ rfl)) [0, 1, 2, 9, 10] 11 rfl rfl rfl rfl) ?_
    repeat' (first | refine qgs ?_ | refine eD ?_ ?_ <;> intro)
    exact ⟨rfl, TLe.rfl, rfl, rfl⟩
   ·replace hT : (innerR L kd' >>= fun i => layR ({ tyP 6 with inn := i } : TY)) ({ st with i := st.i + 1 }) = (v, st') := by
     have h := hT
     unfold wordR at h
     rw [show sizedV w_rest = none by decide +kernel] at h
     dsimp only at h
     rw [if_pos rfl] at h
     exact h
    refine fn_ruleP (C := ⟨Tryz.prog, layF, Tryz.f69.ntmps, ΓL, 5, [], []⟩) layF_ok mixed Tryz.func69 rfl (by kernel_rfl) rfl rfl rfl startR2 ?_
    repeat' (first | refine qgs ?_ | refine eD ?_ ?_ <;> intro)
    refine sC (CallsM.ren (hnm) [0, 1, 2, 5, 6] 7 rfl rfl rfl rfl) ?_
    repeat' (first | refine qgs ?_ | refine eD ?_ ?_ <;> intro)
    refine sC (CallsM.ren (hty) [0, 1, 2, 5, 6] 7 rfl rfl rfl rfl) ?_
    repeat' (first | refine aI ((st.i + 1 : Nat) : Int) ?_ | refine aU ((st.i + 1 : Nat) : Int) ?_ | refine aB ((st.i + 1 : Nat) : Int) ?_ | refine hrow ?_ | refine qg1 ?_ | refine eD ?_ ?_ <;> intro)
    rcases q2 : (innerR L kd') ({ st with i := st.i + 1 }) with ⟨k, s3⟩
    replace hT := (rand q2).symm.trans hT
    refine sC (CallsM.ren ((hin { st with i := st.i + 1 } (hgs.le (by omega) (by omega))) _ _ q2 _ _ rfl rfl) [0, 1, 2, 5, 6] 8 rfl rfl rfl rfl) ?_
    have kx_s3 : s3.xs = s3.xs := rfl
    have kt_s3 : s3.ts = s3.ts := rfl
    have g3 := (hsi 1).gd hgs (by omega) q2
    have ht3 := g3.t
    obtain rfl : (s3.ts.length : Int) = v := congrArg Prod.fst hT
    obtain rfl : { s3 with ts := s3.ts ++ [({ tyP 6 with inn := k } : TY)] } = st' := congrArg Prod.snd hT
    repeat' (first | refine qgs ?_ | refine eD ?_ ?_ <;> intro)
    refine sC (CallsM.ren ((rlayn_c (L := L) s3 6 0 false [] (-1) k (by omega) s3.xs _ rfl)) [0, 1, 2, 8, 9] 10 rfl rfl rfl rfl) ?_
    repeat' (first | refine qgs ?_ | refine eD ?_ ?_ <;> intro)
    exact ⟨rfl, TLe.rfl, rfl, rfl⟩
   ·replace hT : layR (tyP 4) ({ st with i := st.i + 1 }) = (v, st') := by
     have h := hT
     unfold wordR at h
     rw [show sizedV w_tail = none by decide +kernel] at h
     dsimp only at h
     rw [if_neg (by decide), if_pos rfl] at h
     exact h
    have ht3 := hgs.t
    obtain rfl : (st.ts.length : Int) = v := congrArg Prod.fst hT
    obtain rfl : { st with i := st.i + 1, ts := st.ts ++ [tyP 4] } = st' := congrArg Prod.snd hT
    refine fn_ruleP (C := ⟨Tryz.prog, layF, Tryz.f69.ntmps, ΓL, 5, [], []⟩) layF_ok mixed Tryz.func69 rfl (by kernel_rfl) rfl rfl rfl startR2 ?_
    repeat' (first | refine qgs ?_ | refine eD ?_ ?_ <;> intro)
    refine sC (CallsM.ren (hnm) [0, 1, 2, 5, 6] 7 rfl rfl rfl rfl) ?_
    repeat' (first | refine qgs ?_ | refine eD ?_ ?_ <;> intro)
    refine sC (CallsM.ren (hty) [0, 1, 2, 5, 6] 7 rfl rfl rfl rfl) ?_
    repeat' (first | refine aI ((st.i + 1 : Nat) : Int) ?_ | refine aU ((st.i + 1 : Nat) : Int) ?_ | refine aB ((st.i + 1 : Nat) : Int) ?_ | refine hrow ?_ | refine qg1 ?_ | refine eD ?_ ?_ <;> intro)
    refine sC (CallsM.ren ((rlayn_c (L := L) { st with i := st.i + 1 } 4 0 false [] (-1) (-1) (by omega) st.xs _ rfl)) [0, 1, 2, 5, 6] 8 rfl rfl rfl rfl) ?_
    repeat' (first | refine qgs ?_ | refine eD ?_ ?_ <;> intro)
    exact ⟨rfl, TLe.rfl, rfl, rfl⟩
   ·replace hT : layR (tyP 11) ({ st with i := st.i + 1 }) = (v, st') := by
     have h := hT
     unfold wordR at h
     rw [show sizedV w_none = none by decide +kernel] at h
     dsimp only at h
     rw [if_neg (by decide), if_neg (by decide), if_pos rfl] at h
     exact h
    have ht3 := hgs.t
    obtain rfl : (st.ts.length : Int) = v := congrArg Prod.fst hT
    obtain rfl : { st with i := st.i + 1, ts := st.ts ++ [tyP 11] } = st' := congrArg Prod.snd hT
    refine fn_ruleP (C := ⟨Tryz.prog, layF, Tryz.f69.ntmps, ΓL, 5, [], []⟩) layF_ok mixed Tryz.func69 rfl (by kernel_rfl) rfl rfl rfl startR2 ?_
    repeat' (first | refine qgs ?_ | refine eD ?_ ?_ <;> intro)
    refine sC (CallsM.ren (hnm) [0, 1, 2, 5, 6] 7 rfl rfl rfl rfl) ?_
    repeat' (first | refine qgs ?_ | refine eD ?_ ?_ <;> intro)
    refine sC (CallsM.ren (hty) [0, 1, 2, 5, 6] 7 rfl rfl rfl rfl) ?_
    repeat' (first | refine aI ((st.i + 1 : Nat) : Int) ?_ | refine aU ((st.i + 1 : Nat) : Int) ?_ | refine aB ((st.i + 1 : Nat) : Int) ?_ | refine hrow ?_ | refine qg1 ?_ | refine eD ?_ ?_ <;> intro)
    refine sC (CallsM.ren ((rlayn_c (L := L) { st with i := st.i + 1 } 11 0 false [] (-1) (-1) (by omega) st.xs _ rfl)) [0, 1, 2, 5, 6] 8 rfl rfl rfl rfl) ?_
    repeat' (first | refine qgs ?_ | refine eD ?_ ?_ <;> intro)
    exact ⟨rfl, TLe.rfl, rfl, rfl⟩
   ·replace hT : choiceR L m kd' ({ st with i := st.i + 1 }) = (v, st') := by
     have h := hT
     unfold wordR at h
     rw [show sizedV w_switch = none by decide +kernel] at h
     dsimp only at h
     rw [if_neg (by decide), if_neg (by decide), if_neg (by decide), if_pos rfl] at h
     exact h
    refine fn_ruleP (C := ⟨Tryz.prog, layF, Tryz.f69.ntmps, ΓL, 5, [], []⟩) layF_ok mixed Tryz.func69 rfl (by kernel_rfl) rfl rfl rfl startR2 ?_
    repeat' (first | refine qgs ?_ | refine eD ?_ ?_ <;> intro)
    refine sC (CallsM.ren (hnm) [0, 1, 2, 5, 6] 7 rfl rfl rfl rfl) ?_
    repeat' (first | refine qgs ?_ | refine eD ?_ ?_ <;> intro)
    refine sC (CallsM.ren (hty) [0, 1, 2, 5, 6] 7 rfl rfl rfl rfl) ?_
    repeat' (first | refine aI ((st.i + 1 : Nat) : Int) ?_ | refine aU ((st.i + 1 : Nat) : Int) ?_ | refine aB ((st.i + 1 : Nat) : Int) ?_ | refine hrow ?_ | refine qg1 ?_ | refine eD ?_ ?_ <;> intro)
    refine sC (CallsM.ren ((rchoice_c hL hn hm hsm hc hc2 b1 hkd hke { st with i := st.i + 1 } (hgs.le (by omega) (by omega))) _ _ hT _ _ rfl rfl) [0, 1, 2, 5, 6] 8 rfl rfl rfl rfl) ?_
    repeat' (first | refine qgs ?_ | refine eD ?_ ?_ <;> intro)
    exact ⟨rfl, TLe.rfl, rfl, rfl⟩
  ·have hne : ∀ l, l ∈ typesL → ¬ bs w = bs l := fun l hl h => hmm (by rw [bsj.1 h]; exact hl)
   have hnw : ∀ l, l ∈ typesL → w ≠ l := fun l hl h => hmm (h ▸ hl)
   replace hT : arrayR L m { tyP 0 with size := ((integerV w).getD (0, false)).1, little := ((integerV w).getD (0, false)).2 } { st with i := st.i + 1 } = (v, st') := by
    have h := hT
    unfold wordR at h
    rw [show sizedV w = none by unfold sizedV; rw [if_neg (hnw _ (by decide)), if_neg (hnw _ (by decide)), if_neg (hnw _ (by decide)), if_neg (hnw _ (by decide)), if_neg (hnw _ (by decide))]] at h
    dsimp only at h
    rw [if_neg (hnw _ (by decide)), if_neg (hnw _ (by decide)), if_neg (hnw _ (by decide)), if_neg (hnw _ (by decide))] at h
    exact h
   have hcz := (rinteger_c w).gL
   obtain ⟨z, lt, hz, hz2⟩ : ∃ z lt, rintTV (integerV w) = .tup [c1 (di (z : Nat)), c1 (db lt)] ∧ (integerV w).getD (0, false) = (z, lt) := by
    rcases integerV w with _ | ⟨z, lt⟩
    ·exact ⟨0, false, rfl, rfl⟩
    ·exact ⟨z, lt, rfl, rfl⟩
   rw [hz] at hcz
   rw [hz2] at hT
   refine fn_ruleP (C := ⟨Tryz.prog, layF, Tryz.f69.ntmps, ΓL, 5, [], []⟩) layF_ok mixed Tryz.func69 rfl (by kernel_rfl) rfl rfl rfl startR2 ?_
   repeat' (first | refine qgs ?_ | refine eD ?_ ?_ <;> intro)
   refine sC (CallsM.ren (hnm) [0, 1, 2, 5, 6] 7 rfl rfl rfl rfl) ?_
   repeat' (first | refine qgs ?_ | refine eD ?_ ?_ <;> intro)
   refine sC (CallsM.ren (hty) [0, 1, 2, 5, 6] 7 rfl rfl rfl rfl) ?_
   repeat' (first | refine ex_call hcz ?_ | refine aI ((st.i + 1 : Nat) : Int) ?_ | refine aU ((st.i + 1 : Nat) : Int) ?_ | refine aB ((st.i + 1 : Nat) : Int) ?_ | refine ex_false (hne _ (by decide)) ?_ | refine hrow ?_ | refine qg1 ?_ | refine eD ?_ ?_ <;> intro)
   refine sC (CallsM.ren ((rarrayn_c hL hn hm 0 z lt { st with i := st.i + 1 } (hgs.le (by omega) (by omega)) v st' hT _ _ rfl rfl)) [0, 1, 2, 5, 6] 8 rfl rfl rfl rfl) ?_
   repeat' (first | refine qgs ?_ | refine eD ?_ ?_ <;> intro)
   exact ⟨rfl, TLe.rfl, rfl, rfl⟩
theorem kindR_err : ∀ m (st : RSt), st.err ≠ 0 → kindR L m st = (0, st)
 | 0, st, h => if_neg h
 | m + 1, st, h => if_neg h
theorem rkind_c (hL : TokOk L) (hn : L.length ≤ 100000) : ∀ m, m ≤ 32 → ∀ st, Gd L m 0 1000 st → W2 L 69 [] (kindR L m) (fun k => Ti k) st
 | 0, hm, st, hg => rkind_step hL hn hm (kd := pure 0) (kd' := pure 0) (c := 1) (fun _ h => by omega) (by omega) (by omega) (fun _ _ => rfl) (fun _ h => by omega) st hg
 | m + 1, hm, st, hg => rkind_step hL hn hm (kd := kindM L m) (kd' := kindR L m) (c := 12 + 9 * m) (fun m' h => by
    obtain rfl : m = m' := by omega
    exact sim_kind hL m) (by omega) (by omega) (kindR_err m) (fun m' h st hg => by
    obtain rfl : m = m' := by omega
    exact rkind_c hL hn m (by omega) st hg) st hg
end
end Go.Proofs.YtoingpafcodojaaGreatDoor

namespace Go.Proofs.YtoingpafcodojaaGreatDoor
open Go.RowKit

section
variable {L : List TokP} {m : Nat}
abbrev itn (w : List UInt8) (t : Int) (der : Nat) (a b : List UInt8) (x : Int) : List D := [ds (bs w), di t, di der, ds (bs a), ds (bs b), di x, di 0, db false, dnil]
def dersL : List (List UInt8) := [w_sizeof, w_countof, w_crc32, w_adler32]
theorem der_none {w : List UInt8} (h : w ∉ dersL) : derOf w = 0 := by
 have hn : ∀ l, l ∈ dersL → w ≠ l := fun l hl e => h (e ▸ hl)
 unfold derOf
 rw [if_neg (hn _ (by decide)), if_neg (hn _ (by decide)), if_neg (hn _ (by decide)), if_neg (hn _ (by decide))]
set_option maxHeartbeats 4000000 in
theorem rderived_c (hL : TokOk L) (hE : EndE L) (hn : L.length ≤ 100000) (w : List UInt8) (t : Int) (st : RSt) (he : st.err = 0) (hg : Gd L m 0 1000 st) : ∀ v st', derivedR L st = (v, st') →
  CallsM Tryz.prog ΓL 70 [(0, Rz L st 1 2 3 4)] 5 [P0, gD (itn w t 0 [] [] (-1))] (.o (gD (itn w t v.1 v.2.1 v.2.2 (-1)))) [(0, Rz L st' 1 2 3 4)] [] := fun v st' hT => by
 have kx_st : st.xs = st.xs := rfl
 have kt_st : st.ts = st.ts := rfl
 have hi := hg.i
 have hk := tk_at hi
 have hg0 := hg.fresh he 400
 unfold derivedR at hT
 have hE1 := hE st.i
 have hstep := fun h => hg0.step hL he h 400
 by_cases hd : derOf (tk L st.i).t = 0
 ·replace hT := atRn hT (by rw [decide_eq_true hd]; rfl)
  obtain rfl : ((0, [], []) : Nat × List UInt8 × List UInt8) = v := congrArg Prod.fst hT
  obtain rfl : failR 4 st = st' := congrArg Prod.snd hT
  have hne : ∀ l, l ∈ dersL → ¬ bs (tk L st.i).t = bs l := fun l hl h => by
   rw [bsj.1 h] at hd
   have : ∀ l ∈ dersL, derOf l ≠ 0 := by decide +kernel
   exact this l hl hd
  clear hE1 hstep
  generalize tk L st.i = u at *
  refine fn_ruleM (C := ⟨Tryz.prog, layF, Tryz.f70.ntmps, ΓL, 5, [], []⟩) layF_ok mixed Tryz.func70 rfl (by kernel_rfl) rfl rfl rfl ?_
  repeat' (first | refine ex_false (hne _ (by decide)) ?_ | refine (ex_row st.i u rfl hk) ?_ | refine qg1 ?_ | refine eD ?_ ?_ <;> intro)
  refine sC (CallsM.ren ((rfail_c (L := L) st 4 (by omega))) [0, 1, 2, 3, 4] 7 rfl rfl rfl rfl) ?_
  repeat' (first | refine qgs ?_ | refine eD ?_ ?_ <;> intro)
  exact ⟨rfl, TLe.rfl, rfl, rfl⟩
 ·replace hT := atRy hT (by rw [decide_eq_false hd]; rfl)
  have hgs := hstep (fun h3 => hd (by rw [hE1 h3]; decide +kernel))
  clear hE1 hstep
  generalize tk L st.i = u at *
  obtain ⟨uk, w9, un, ul, uc⟩ := u
  have hrow : ∀ {K : List D → Prop} , K [di uk, ds (bs w9), du un, di ul, di uc] → ∃ r, 0 ≤ (st.i : Int) ∧ (L.map tokD)[(st.i : Int).toNat]? = some r ∧ K r := fun h => ex_rowE st.i _ _ rfl hk rfl h
  have hm9 : w9 ∈ dersL := by
   by_cases h : w9 ∈ dersL
   ·exact h
   ·exact absurd (der_none h) hd
  simp only [dersL, List.mem_cons, List.not_mem_nil, or_false] at hm9
  rcases hm9 with rfl | rfl | rfl | rfl
  ·replace hT : (takeR L t_lpar >>= fun _ => nameR L >>= fun a => takeR L t_rpar >>= fun _ => pure (1, a, []) : RM (Nat × List UInt8 × List UInt8)) { st with i := st.i + 1 } = (v, st') := hT
   refine fn_ruleM (C := ⟨Tryz.prog, layF, Tryz.f70.ntmps, ΓL, 5, [], []⟩) layF_ok mixed Tryz.func70 rfl (by kernel_rfl) rfl rfl rfl ?_
   repeat' (first | refine aI ((st.i + 1 : Nat) : Int) ?_ | refine aU ((st.i + 1 : Nat) : Int) ?_ | refine aB ((st.i + 1 : Nat) : Int) ?_ | refine hrow ?_ | refine qg1 ?_ | refine eD ?_ ?_ <;> intro)
   rcases q1 : (takeR L t_lpar) ({ st with i := st.i + 1 }) with ⟨_, s1⟩
   replace hT := (rand q1).symm.trans hT
   refine sC (CallsM.ren ((rtake_c { st with i := st.i + 1 } hgs.i hn t_lpar) _ _ q1) [0, 1, 2, 3, 4] 7 rfl rfl rfl rfl) ?_
   have kx_s1 := (keep_take q1).1.trans rfl
   have kt_s1 := (keep_take q1).2.trans rfl
   have g1 := (Sim.take (m := m) hL t_lpar 1).gd hgs (by omega) q1
   repeat' (first | refine qgs ?_ | refine eD ?_ ?_ <;> intro)
   rcases q2 : (nameR L) (s1) with ⟨a, s2⟩
   replace hT := (rand q2).symm.trans hT
   refine sC (CallsM.ren ((rname_c s1 g1.i hn) _ _ q2) [0, 1, 2, 3, 4] 7 rfl rfl rfl rfl) ?_
   have kx_s2 := (keep_name q2).1.trans kx_s1
   have kt_s2 := (keep_name q2).2.trans kt_s1
   have g2 := (Sim.name (m := m) hL 2).gd g1 (by omega) q2
   repeat' (first | refine qgs ?_ | refine eD ?_ ?_ <;> intro)
   rcases q5 : (takeR L t_rpar) (s2) with ⟨_, s5⟩
   replace hT := (rand q5).symm.trans hT
   refine sC (CallsM.ren ((rtake_c s2 g2.i hn t_rpar) _ _ q5) [0, 1, 2, 3, 4] 7 rfl rfl rfl rfl) ?_
   have kx_s5 := (keep_take q5).1.trans kx_s2
   have kt_s5 := (keep_take q5).2.trans kt_s2
   obtain rfl : ((1, a, []) : Nat × List UInt8 × List UInt8) = v := congrArg Prod.fst hT
   obtain rfl : s5 = st' := congrArg Prod.snd hT
   repeat' (first | refine qgs ?_ | refine eD ?_ ?_ <;> intro)
   exact ⟨rfl, TLe.rfl, rfl, rfl⟩
  ·replace hT : (takeR L t_lpar >>= fun _ => nameR L >>= fun a => takeR L t_rpar >>= fun _ => pure (2, a, []) : RM (Nat × List UInt8 × List UInt8)) { st with i := st.i + 1 } = (v, st') := hT
   refine fn_ruleM (C := ⟨Tryz.prog, layF, Tryz.f70.ntmps, ΓL, 5, [], []⟩) layF_ok mixed Tryz.func70 rfl (by kernel_rfl) rfl rfl rfl ?_
   repeat' (first | refine aI ((st.i + 1 : Nat) : Int) ?_ | refine aU ((st.i + 1 : Nat) : Int) ?_ | refine aB ((st.i + 1 : Nat) : Int) ?_ | refine hrow ?_ | refine qg1 ?_ | refine eD ?_ ?_ <;> intro)
   rcases q1 : (takeR L t_lpar) ({ st with i := st.i + 1 }) with ⟨_, s1⟩
   replace hT := (rand q1).symm.trans hT
   refine sC (CallsM.ren ((rtake_c { st with i := st.i + 1 } hgs.i hn t_lpar) _ _ q1) [0, 1, 2, 3, 4] 7 rfl rfl rfl rfl) ?_
   have kx_s1 := (keep_take q1).1.trans rfl
   have kt_s1 := (keep_take q1).2.trans rfl
   have g1 := (Sim.take (m := m) hL t_lpar 1).gd hgs (by omega) q1
   repeat' (first | refine qgs ?_ | refine eD ?_ ?_ <;> intro)
   rcases q2 : (nameR L) (s1) with ⟨a, s2⟩
   replace hT := (rand q2).symm.trans hT
   refine sC (CallsM.ren ((rname_c s1 g1.i hn) _ _ q2) [0, 1, 2, 3, 4] 7 rfl rfl rfl rfl) ?_
   have kx_s2 := (keep_name q2).1.trans kx_s1
   have kt_s2 := (keep_name q2).2.trans kt_s1
   have g2 := (Sim.name (m := m) hL 2).gd g1 (by omega) q2
   repeat' (first | refine qgs ?_ | refine eD ?_ ?_ <;> intro)
   rcases q5 : (takeR L t_rpar) (s2) with ⟨_, s5⟩
   replace hT := (rand q5).symm.trans hT
   refine sC (CallsM.ren ((rtake_c s2 g2.i hn t_rpar) _ _ q5) [0, 1, 2, 3, 4] 7 rfl rfl rfl rfl) ?_
   have kx_s5 := (keep_take q5).1.trans kx_s2
   have kt_s5 := (keep_take q5).2.trans kt_s2
   obtain rfl : ((2, a, []) : Nat × List UInt8 × List UInt8) = v := congrArg Prod.fst hT
   obtain rfl : s5 = st' := congrArg Prod.snd hT
   repeat' (first | refine qgs ?_ | refine eD ?_ ?_ <;> intro)
   exact ⟨rfl, TLe.rfl, rfl, rfl⟩
  ·replace hT : (takeR L t_lpar >>= fun _ => nameR L >>= fun a => takeR L t_dots >>= fun _ => nameR L >>= fun b => takeR L t_rpar >>= fun _ => pure (3, a, b) : RM (Nat × List UInt8 × List UInt8)) { st with i := st.i + 1 } = (v, st') := hT
   refine fn_ruleM (C := ⟨Tryz.prog, layF, Tryz.f70.ntmps, ΓL, 5, [], []⟩) layF_ok mixed Tryz.func70 rfl (by kernel_rfl) rfl rfl rfl ?_
   repeat' (first | refine aI ((st.i + 1 : Nat) : Int) ?_ | refine aU ((st.i + 1 : Nat) : Int) ?_ | refine aB ((st.i + 1 : Nat) : Int) ?_ | refine hrow ?_ | refine qg1 ?_ | refine eD ?_ ?_ <;> intro)
   rcases q1 : (takeR L t_lpar) ({ st with i := st.i + 1 }) with ⟨_, s1⟩
   replace hT := (rand q1).symm.trans hT
   refine sC (CallsM.ren ((rtake_c { st with i := st.i + 1 } hgs.i hn t_lpar) _ _ q1) [0, 1, 2, 3, 4] 7 rfl rfl rfl rfl) ?_
   have kx_s1 := (keep_take q1).1.trans rfl
   have kt_s1 := (keep_take q1).2.trans rfl
   have g1 := (Sim.take (m := m) hL t_lpar 1).gd hgs (by omega) q1
   repeat' (first | refine qgs ?_ | refine eD ?_ ?_ <;> intro)
   rcases q2 : (nameR L) (s1) with ⟨a, s2⟩
   replace hT := (rand q2).symm.trans hT
   refine sC (CallsM.ren ((rname_c s1 g1.i hn) _ _ q2) [0, 1, 2, 3, 4] 7 rfl rfl rfl rfl) ?_
   have kx_s2 := (keep_name q2).1.trans kx_s1
   have kt_s2 := (keep_name q2).2.trans kt_s1
   have g2 := (Sim.name (m := m) hL 2).gd g1 (by omega) q2
   repeat' (first | refine qgs ?_ | refine eD ?_ ?_ <;> intro)
   rcases q3 : (takeR L t_dots) (s2) with ⟨_, s3⟩
   replace hT := (rand q3).symm.trans hT
   refine sC (CallsM.ren ((rtake_c s2 g2.i hn t_dots) _ _ q3) [0, 1, 2, 3, 4] 7 rfl rfl rfl rfl) ?_
   have kx_s3 := (keep_take q3).1.trans kx_s2
   have kt_s3 := (keep_take q3).2.trans kt_s2
   have g3 := (Sim.take (m := m) hL t_dots 3).gd g2 (by omega) q3
   repeat' (first | refine qgs ?_ | refine eD ?_ ?_ <;> intro)
   rcases q4 : (nameR L) (s3) with ⟨b, s4⟩
   replace hT := (rand q4).symm.trans hT
   refine sC (CallsM.ren ((rname_c s3 g3.i hn) _ _ q4) [0, 1, 2, 3, 4] 7 rfl rfl rfl rfl) ?_
   have kx_s4 := (keep_name q4).1.trans kx_s3
   have kt_s4 := (keep_name q4).2.trans kt_s3
   have g4 := (Sim.name (m := m) hL 4).gd g3 (by omega) q4
   repeat' (first | refine qgs ?_ | refine eD ?_ ?_ <;> intro)
   rcases q5 : (takeR L t_rpar) (s4) with ⟨_, s5⟩
   replace hT := (rand q5).symm.trans hT
   refine sC (CallsM.ren ((rtake_c s4 g4.i hn t_rpar) _ _ q5) [0, 1, 2, 3, 4] 7 rfl rfl rfl rfl) ?_
   have kx_s5 := (keep_take q5).1.trans kx_s4
   have kt_s5 := (keep_take q5).2.trans kt_s4
   obtain rfl : ((3, a, b) : Nat × List UInt8 × List UInt8) = v := congrArg Prod.fst hT
   obtain rfl : s5 = st' := congrArg Prod.snd hT
   repeat' (first | refine qgs ?_ | refine eD ?_ ?_ <;> intro)
   exact ⟨rfl, TLe.rfl, rfl, rfl⟩
  ·replace hT : (takeR L t_lpar >>= fun _ => nameR L >>= fun a => takeR L t_dots >>= fun _ => nameR L >>= fun b => takeR L t_rpar >>= fun _ => pure (4, a, b) : RM (Nat × List UInt8 × List UInt8)) { st with i := st.i + 1 } = (v, st') := hT
   refine fn_ruleM (C := ⟨Tryz.prog, layF, Tryz.f70.ntmps, ΓL, 5, [], []⟩) layF_ok mixed Tryz.func70 rfl (by kernel_rfl) rfl rfl rfl ?_
   repeat' (first | refine aI ((st.i + 1 : Nat) : Int) ?_ | refine aU ((st.i + 1 : Nat) : Int) ?_ | refine aB ((st.i + 1 : Nat) : Int) ?_ | refine hrow ?_ | refine qg1 ?_ | refine eD ?_ ?_ <;> intro)
   rcases q1 : (takeR L t_lpar) ({ st with i := st.i + 1 }) with ⟨_, s1⟩
   replace hT := (rand q1).symm.trans hT
   refine sC (CallsM.ren ((rtake_c { st with i := st.i + 1 } hgs.i hn t_lpar) _ _ q1) [0, 1, 2, 3, 4] 7 rfl rfl rfl rfl) ?_
   have kx_s1 := (keep_take q1).1.trans rfl
   have kt_s1 := (keep_take q1).2.trans rfl
   have g1 := (Sim.take (m := m) hL t_lpar 1).gd hgs (by omega) q1
   repeat' (first | refine qgs ?_ | refine eD ?_ ?_ <;> intro)
   rcases q2 : (nameR L) (s1) with ⟨a, s2⟩
   replace hT := (rand q2).symm.trans hT
   refine sC (CallsM.ren ((rname_c s1 g1.i hn) _ _ q2) [0, 1, 2, 3, 4] 7 rfl rfl rfl rfl) ?_
   have kx_s2 := (keep_name q2).1.trans kx_s1
   have kt_s2 := (keep_name q2).2.trans kt_s1
   have g2 := (Sim.name (m := m) hL 2).gd g1 (by omega) q2
   repeat' (first | refine qgs ?_ | refine eD ?_ ?_ <;> intro)
   rcases q3 : (takeR L t_dots) (s2) with ⟨_, s3⟩
   replace hT := (rand q3).symm.trans hT
   refine sC (CallsM.ren ((rtake_c s2 g2.i hn t_dots) _ _ q3) [0, 1, 2, 3, 4] 7 rfl rfl rfl rfl) ?_
   have kx_s3 := (keep_take q3).1.trans kx_s2
   have kt_s3 := (keep_take q3).2.trans kt_s2
   have g3 := (Sim.take (m := m) hL t_dots 3).gd g2 (by omega) q3
   repeat' (first | refine qgs ?_ | refine eD ?_ ?_ <;> intro)
   rcases q4 : (nameR L) (s3) with ⟨b, s4⟩
   replace hT := (rand q4).symm.trans hT
   refine sC (CallsM.ren ((rname_c s3 g3.i hn) _ _ q4) [0, 1, 2, 3, 4] 7 rfl rfl rfl rfl) ?_
   have kx_s4 := (keep_name q4).1.trans kx_s3
   have kt_s4 := (keep_name q4).2.trans kt_s3
   have g4 := (Sim.name (m := m) hL 4).gd g3 (by omega) q4
   repeat' (first | refine qgs ?_ | refine eD ?_ ?_ <;> intro)
   rcases q5 : (takeR L t_rpar) (s4) with ⟨_, s5⟩
   replace hT := (rand q5).symm.trans hT
   refine sC (CallsM.ren ((rtake_c s4 g4.i hn t_rpar) _ _ q5) [0, 1, 2, 3, 4] 7 rfl rfl rfl rfl) ?_
   have kx_s5 := (keep_take q5).1.trans kx_s4
   have kt_s5 := (keep_take q5).2.trans kt_s4
   obtain rfl : ((4, a, b) : Nat × List UInt8 × List UInt8) = v := congrArg Prod.fst hT
   obtain rfl : s5 = st' := congrArg Prod.snd hT
   repeat' (first | refine qgs ?_ | refine eD ?_ ?_ <;> intro)
   exact ⟨rfl, TLe.rfl, rfl, rfl⟩
end
end Go.Proofs.YtoingpafcodojaaGreatDoor

namespace Go.Proofs.YtoingpafcodojaaGreatDoor
open Go.RowKit

section
variable {L : List TokP}
theorem itnLe {w a b : List UInt8} {t x : Int} {der : Nat} : TLe (.o (gD (itn w t der a b x))) (.o (gD (itD ⟨w, t, der, a, b, x, 0, false, []⟩))) :=
 TLe.o (T1Le.g (.cons DLe.rfl (.cons DLe.rfl (.cons DLe.rfl (.cons DLe.rfl (.cons DLe.rfl (.cons DLe.rfl (.cons DLe.rfl (.cons DLe.rfl (.cons DLe.nil .nil))))))))))
theorem keep_derived (hL : TokOk L) {st st1 : RSt} {v : Nat × List UInt8 × List UInt8} (h : derivedR L st = (v, st1)) : st1.xs = st.xs ∧ st1.ts = st.ts := by
 have kx : ∀ {α β : Type} {x : RM α} {f : α → RM β}, (∀ s, (x s).2.xs = s.xs ∧ (x s).2.ts = s.ts) → (∀ v s, (f v s).2.xs = s.xs ∧ (f v s).2.ts = s.ts) → ∀ s, ((x >>= f) s).2.xs = s.xs ∧ ((x >>= f) s).2.ts = s.ts := fun {α β x f} h1 h2 s =>
  ⟨(h2 (x s).1 (x s).2).1.trans (h1 s).1, (h2 (x s).1 (x s).2).2.trans (h1 s).2⟩
 have kt : ∀ t s, (takeR L t s).2.xs = s.xs ∧ (takeR L t s).2.ts = s.ts := fun t s => keep_take (v := (takeR L t s).1) rfl
 have kn : ∀ s, (nameR L s).2.xs = s.xs ∧ (nameR L s).2.ts = s.ts := fun s => keep_name (v := (nameR L s).1) rfl
 have key : (derivedR L st).2.xs = st.xs ∧ (derivedR L st).2.ts = st.ts := by
  unfold derivedR atR
  by_cases hp : (!decide (derOf (tk L st.i).t = 0)) = true
  ·rw [if_pos hp]
   refine kx (fun s => ⟨rfl, rfl⟩) (fun _ => kx (kt _) fun _ => kx kn fun a => kx ?_ fun b => kx (kt _) fun _ s => ⟨rfl, rfl⟩) st
   split
   ·exact kx (kt _) fun _ => kn
   ·exact fun s => ⟨rfl, rfl⟩
  ·rw [if_neg hp]; exact keep_fail
 rw [h] at key
 exact key
theorem Sim0.gd {m : Nat} {α : Type} {x : PM α} {y : RM α} {a a' c b : Nat} (h : Sim0 L m x y a a' c) {st st' : RSt} {v : α} (hg : Gd L m a b st) (he : st.err = 0) (hc : c ≤ b) (hx : y st = (v, st')) : Gd L m a' b st' := by
 have hs := hg.ok he
 have h1 := h.ok 0 _ (by rw [Nat.zero_add]; exact hs)
 have hu := h.up _ 0 (by rw [Nat.zero_add]; exact hs)
 rw [← hg.emb he] at h1
 revert h1 hu
 cases x ⟨st.i, st.xs, st.ts⟩ with
 | ok w t =>
  intro h1 hu
  dsimp only at h1 hu
  rw [hx] at h1
  cases h1
  exact gd_emb (by have := hu.1; rwa [Nat.zero_add] at this)
 | err i e =>
  intro h1 hu
  dsimp only at h1 hu
  rw [hx] at h1
  have h1 : Bad L m c i e st' := h1
  exact ⟨by rw [h1.i]; exact hu.2.1, by have := h1.x; omega, by have := h1.t; omega, by have := h1.d1; omega, h1.d2, by rw [h1.e]; exact hu.2.2.2, fun h0 => by rw [h1.e] at h0; omega, fun h0 => by rw [h1.e] at h0; omega⟩
set_option maxHeartbeats 8000000 in
theorem rfield_c (hL : TokOk L) (hE : EndE L) (hn : L.length ≤ 100000) (st : RSt) (hg : Gd L 32 0 900 st) : W2 L 47 [] (fieldR L) (fun x => .o (gD (itD x))) st := fun v st' hT X T hX hTt => by
 subst hX
 subst hTt
 have kx_st : st.xs = st.xs := rfl
 have kt_st : st.ts = st.ts := rfl
 unfold fieldR at hT
 refine fn_ruleP (C := ⟨Tryz.prog, layF, Tryz.f47.ntmps, ΓL, 5, [], [9,13]⟩) layF_ok mixed Tryz.func47 rfl (by kernel_rfl) rfl rfl rfl startR2 ?_
 repeat' (first | refine qgs ?_ | refine eD ?_ ?_ <;> intro)
 rcases q1 : (nameR L) (st) with ⟨w, s1⟩
 replace hT := (rand q1).symm.trans hT
 refine sC (CallsM.ren ((rname_c st hg.i hn) _ _ q1) [0, 1, 2, 5, 6] 8 rfl rfl rfl rfl) ?_
 have kx_s1 := (keep_name q1).1.trans kx_st
 have kt_s1 := (keep_name q1).2.trans kt_st
 have g1 := (Sim.name (m := 32) hL 0).gd hg (by omega) q1
 repeat' (first | refine qgs ?_ | refine eD ?_ ?_ <;> intro)
 rcases q2 : (takeR L t_colon) (s1) with ⟨_, s2⟩
 replace hT := (rand q2).symm.trans hT
 refine sC (CallsM.ren ((rtake_c s1 g1.i hn t_colon) _ _ q2) [0, 1, 2, 5, 6] 9 rfl rfl rfl rfl) ?_
 have kx_s2 := (keep_take q2).1.trans kx_s1
 have kt_s2 := (keep_take q2).2.trans kt_s1
 have g2 := (Sim.take (m := 32) hL t_colon 1).gd g1 (by omega) q2
 repeat' (first | refine qgs ?_ | refine eD ?_ ?_ <;> intro)
 rcases q3 : (kindR L 32) (s2) with ⟨t, s3⟩
 replace hT := (rand q3).symm.trans hT
 refine sC (CallsM.ren ((rkind_c hL hn 32 (by omega) s2 (g2.le (by omega) (by omega))) _ _ q3 _ _ kx_s2 kt_s2) [0, 1, 2, 5, 6] 9 rfl rfl rfl rfl) ?_
 have kx_s3 : s3.xs = s3.xs := rfl
 have kt_s3 : s3.ts = s3.ts := rfl
 have g3 := ((sim_kind hL 32).less (a' := 2) (b' := 2) 2 (by omega) (by omega)).gd g2 (by omega) q3
 have his := ris_c s3 g3.i t_eq
 have h10 := g3.e
 repeat' (first | refine qgs ?_ | refine eD ?_ ?_ <;> intro)
 obtain ⟨K, hK⟩ : ∃ K : Nat × List UInt8 × List UInt8 → RM IT, (fun d : Nat × List UInt8 × List UInt8 => atR (isV L · w_where) (guardR (-1) (takeR L w_where >>= fun _ => exprR L 32)) (pure (-1)) >>= fun x => takeR L t_semi >>= fun _ => pure (⟨w, t, d.1, d.2.1, d.2.2, x, 0, false, []⟩ : IT)) = K := ⟨_, rfl⟩
 replace hT : (atR (isV L · t_eq) (guardR (0, [], []) (takeR L t_eq >>= fun _ => derivedR L)) (pure (0, [], [])) >>= K) s3 = (v, st') := by rw [← hK]; exact hT
 obtain ⟨b, hv⟩ : ∃ b, isV L s3.i t_eq = b := ⟨_, rfl⟩
 rw [hv] at his
 refine sC (CallsM.ren (his) [0, 1, 2, 9, 10] 11 rfl rfl rfl rfl) ?_
 repeat' (first | refine qgs ?_ | refine eD ?_ ?_ <;> intro)
 refine ex_join (X := RSt × List EX × List TY × (Nat × List UInt8 × List UInt8)) (fun ⟨s, xl, tl, d⟩ => ⟨[(0, .o P0), (2, .o (.c (.ptr 7 0))), (4, .o (.c (.ptr 8 0)))], [(0, Rz L s 1 2 9 10), (3, .dead), (4, .dead), (7, .obj [.d (ds ⟨#[]⟩), .d (di 0), .d (di 0), .d (ds ⟨#[]⟩), .d (ds ⟨#[]⟩), .d (di 0), .d (di 0), .d (db false), .d dnil]), (8, .obj [.d (ds (bs w)), .d (di t), .d (di d.1), .d (ds (bs d.2.1)), .d (ds (bs d.2.2)), .d (di (-1)), .d (di 0), .d (db false), .d dnil]), (9, Xr xl), (10, Tr tl)], 11⟩) (fun ⟨s, xl, tl, d⟩ => Gd L 32 2 920 s ∧ s.xs = xl ∧ s.ts = tl ∧ K d s = (v, st')) ?_ ?_
 ·cases b
  ·replace hT := atRnB hT hv
   replace hT : K (0, [], []) s3 = (v, st') := hT
   repeat' (first | refine qgs ?_ | refine eD ?_ ?_ <;> intro)
   exact ex_meet (s3, s3.xs, s3.ts, (0, [], [])) ⟨g3.le (by omega) (by omega), rfl, rfl, hT⟩ sS
  ·replace hT := atRyB hT hv
   by_cases he : s3.err = 0
   ·replace hT := gdRyB hT he
    replace hT : (takeR L t_eq >>= fun _ => derivedR L >>= K) s3 = (v, st') := hT
    have g3' := g3.fresh he 400
    repeat' (first | refine qgs ?_ | refine eD ?_ ?_ <;> intro)
    rcases q4 : (takeR L t_eq) (s3) with ⟨_, s4⟩
    replace hT := (rand q4).symm.trans hT
    refine sC (CallsM.ren ((rtake_c s3 g3.i hn t_eq) _ _ q4) [0, 1, 2, 9, 10] 11 rfl rfl rfl rfl) ?_
    have kx_s4 := (keep_take q4).1.trans kx_s3
    have kt_s4 := (keep_take q4).2.trans kt_s3
    have g4 := (Sim.take (m := 32) hL t_eq 2).gd g3' (by omega) q4
    have he4 : s4.err = 0 := by
     rw [take_yes he hv] at q4
     have e4 : { s3 with i := s3.i + 1 } = s4 := congrArg Prod.snd q4
     rw [← e4]
     exact he
    rcases q5 : derivedR L s4 with ⟨d, s5⟩
    replace hT := (rand q5).symm.trans hT
    have g5 := ((sim_derived (m := 32) hL hE 2).less 0 (a' := 3) (b' := 2) (by omega) (by omega)).gd g4 he4 (by omega) q5
    have kd5 := keep_derived hL q5
    have hcd := rderived_c hL hE hn w t s4 he4 (g4.le (by omega) (by omega)) _ _ q5
    repeat' (first | refine qgs ?_ | refine eD ?_ ?_ <;> intro)
    refine sC (CallsM.ren (hcd) [0, 1, 2, 9, 10] 11 rfl rfl rfl rfl) ?_
    repeat' (first | refine qgs ?_ | refine eD ?_ ?_ <;> intro)
    exact ex_meet (s5, s3.xs, s3.ts, d) ⟨g5.le (by omega) (by omega), kd5.1.trans kx_s4, kd5.2.trans kt_s4, hT⟩ sS
   ·replace hT := gdRnB hT he
    repeat' (first | refine qgs ?_ | refine eD ?_ ?_ <;> intro)
    exact ex_meet (s3, s3.xs, s3.ts, (0, [], [])) ⟨g3.le (by omega) (by omega), rfl, rfl, hT⟩ sS
 clear hT hv his g1 g2 g3 q1 q2 q3 kx_st kt_st kx_s1 kt_s1 kx_s2 kt_s2 kx_s3 kt_s3 h10 hg
 rintro ⟨s, xl, tl, d⟩ ⟨hs, kx_s, kt_s, hT⟩
 rw [← hK] at hT
 clear hK
 have h10 := hs.e
 have his := ris_c s hs.i w_where
 obtain ⟨b, hv⟩ : ∃ b, isV L s.i w_where = b := ⟨_, rfl⟩
 rw [hv] at his
 repeat' (first | refine qgs ?_ | refine eD ?_ ?_ <;> intro)
 refine sC (CallsM.ren (his) [0, 1, 2, 9, 10] 11 rfl rfl rfl rfl) ?_
 repeat' (first | refine qgs ?_ | refine eD ?_ ?_ <;> intro)
 refine ex_join (X := RSt × List EX × List TY × Int) (fun ⟨s, xl, tl, x⟩ => ⟨[(0, .o P0), (2, .o (.c (.ptr 7 0))), (4, .o (.c (.ptr 8 0)))], [(0, Rz L s 1 2 9 10), (3, .dead), (4, .dead), (7, .obj [.d (ds ⟨#[]⟩), .d (di 0), .d (di 0), .d (ds ⟨#[]⟩), .d (ds ⟨#[]⟩), .d (di 0), .d (di 0), .d (db false), .d dnil]), (8, .obj [.d (ds (bs w)), .d (di t), .d (di d.1), .d (ds (bs d.2.1)), .d (ds (bs d.2.2)), .d (di x), .d (di 0), .d (db false), .d dnil]), (9, Xr xl), (10, Tr tl)], 11⟩) (fun ⟨s, xl, tl, x⟩ => Gd L 32 2 940 s ∧ s.xs = xl ∧ s.ts = tl ∧ (takeR L t_semi >>= fun _ => pure (⟨w, t, d.1, d.2.1, d.2.2, x, 0, false, []⟩ : IT)) s = (v, st')) ?_ ?_
 ·cases b
  ·replace hT := atRnB hT hv
   repeat' (first | refine qgs ?_ | refine eD ?_ ?_ <;> intro)
   exact ex_meet (s, xl, tl, -1) ⟨hs.le (by omega) (by omega), kx_s, kt_s, hT⟩ sS
  ·replace hT := atRyB hT hv
   by_cases he : s.err = 0
   ·replace hT := gdRyB hT he
    replace hT : (takeR L w_where >>= fun _ => exprR L 32 >>= fun x => takeR L t_semi >>= fun _ => pure (⟨w, t, d.1, d.2.1, d.2.2, x, 0, false, []⟩ : IT)) s = (v, st') := hT
    have hs' := hs.fresh he 400
    repeat' (first | refine qgs ?_ | refine eD ?_ ?_ <;> intro)
    rcases q4 : (takeR L w_where) (s) with ⟨_, s4⟩
    replace hT := (rand q4).symm.trans hT
    refine sC (CallsM.ren ((rtake_c s hs.i hn w_where) _ _ q4) [0, 1, 2, 9, 10] 11 rfl rfl rfl rfl) ?_
    have kx_s4 := (keep_take q4).1.trans kx_s
    have kt_s4 := (keep_take q4).2.trans kt_s
    have g4 := (Sim.take (m := 32) hL w_where 2).gd hs' (by omega) q4
    repeat' (first | refine qgs ?_ | refine eD ?_ ?_ <;> intro)
    rcases q5 : (exprR L 32) (s4) with ⟨x, s5⟩
    replace hT := (rand q5).symm.trans hT
    refine sC (CallsM.ren ((rexpr_c hL hn (by omega) s4 (g4.le (by omega) (by omega))) _ _ q5 _ kx_s4) [0, 1, 2, 9, 10] 11 rfl rfl rfl rfl) ?_
    have kx_s5 : s5.xs = s5.xs := rfl
    have kt_s5 := ((keepT_expr 32).eq q5).trans kt_s4
    have g5 := (sim_expr hL 32 3).gd g4 (by omega) q5
    repeat' (first | refine qgs ?_ | refine eD ?_ ?_ <;> intro)
    exact ex_meet (s5, s5.xs, tl, x) ⟨g5.le (by omega) (by omega), rfl, kt_s5, hT⟩ (sR [(0, 0), (1, 1), (2, 2), (3, 3), (4, 4), (7, 7), (8, 8), (10, 10), (11, 9)])
   ·replace hT := gdRnB hT he
    repeat' (first | refine qgs ?_ | refine eD ?_ ?_ <;> intro)
    exact ex_meet (s, xl, tl, -1) ⟨hs.le (by omega) (by omega), kx_s, kt_s, hT⟩ sS
 clear hT hv his hs kx_s kt_s h10 s xl tl
 rintro ⟨s, xl, tl, x⟩ ⟨hs, kx_s, kt_s, hT⟩
 repeat' (first | refine qgs ?_ | refine eD ?_ ?_ <;> intro)
 rcases q1 : (takeR L t_semi) (s) with ⟨_, s1⟩
 replace hT := (rand q1).symm.trans hT
 refine sC (CallsM.ren ((rtake_c s hs.i hn t_semi) _ _ q1) [0, 1, 2, 9, 10] 11 rfl rfl rfl rfl) ?_
 have kx_s1 := (keep_take q1).1.trans kx_s
 have kt_s1 := (keep_take q1).2.trans kt_s
 obtain rfl : (⟨w, t, d.1, d.2.1, d.2.2, x, 0, false, []⟩ : IT) = v := congrArg Prod.fst hT
 obtain rfl : s1 = st' := congrArg Prod.snd hT
 repeat' (first | refine qgs ?_ | refine eD ?_ ?_ <;> intro)
 subst kx_s1
 subst kt_s1
 exact ⟨rfl, itnLe, rfl, rfl⟩
end
end Go.Proofs.YtoingpafcodojaaGreatDoor

namespace Go.Proofs.YtoingpafcodojaaGreatDoor
open Go.RowKit

section
variable {L : List TokP} {m : Nat}
theorem name_step {s s2 : RSt} {w : List UInt8} (h : nameR L s = (w, s2)) (he : s.err = 0) (he2 : s2.err = 0) : s2.i = s.i + 1 := by
 unfold nameR guardR at h
 rw [if_pos he] at h
 dsimp only at h
 split at h
 ·have := congrArg Prod.snd h
  dsimp only at this
  rw [← this]
 ·have := congrArg Prod.snd h
  dsimp only at this
  rw [← this] at he2
  cases he2
def NumOk (L : List TokP) : Prop := ∀ i, (tk L i).n < 18446744073709551616
theorem number_lt (hq : NumOk L) {s s2 : RSt} {b : Nat} (h : numberR L s = (b, s2)) : b < 18446744073709551616 := by
 unfold numberR guardR at h
 split at h
 ·dsimp only at h
  split at h
  ·have := congrArg Prod.fst h
   dsimp only at this
   rw [← this]; exact hq _
  ·have := congrArg Prod.fst h
   dsimp only at this
   omega
 ·have := congrArg Prod.fst h
  dsimp only at this
  omega
theorem subsR_err {s : RSt} (h : s.err ≠ 0) (n : Nat) (l : List SB) : subsR L n l s = (l, s) := by
 cases n with
 | zero => rfl
 | succ n => exact if_neg h
theorem subs_next {K : List SB → RM IT} {l : List SB} {n : Nat} {s : RSt} {T : IT × RSt} (hT : (atR (namedV L ·) (subsR L n l) (pure l) >>= K) s = T) :
  (namedV L s.i = true ∧ s.err = 0 ∧ (subsR L n l >>= K) s = T) ∨ (¬ (namedV L s.i = true ∧ s.err = 0) ∧ K l s = T) := by
 rcases hv : namedV L s.i with _ | _
 ·exact .inr ⟨fun h => (by cases h.1), atRnB hT hv⟩
 ·have h1 := atRyB hT hv
  by_cases he : s.err = 0
  ·exact .inl ⟨rfl, he, h1⟩
  ·exact .inr ⟨fun h => he h.2, (rand (subsR_err he n l)).symm.trans h1⟩
theorem itPLe {z : Nat} {lt : Bool} {l : List SB} : TLe (.o (gD [ds ⟨#[]⟩, di (-1), di 0, ds ⟨#[]⟩, ds ⟨#[]⟩, di (-1), di z, db lt, .sl 2 (l.map sbD)])) (.o (gD (itD ⟨[], -1, 0, [], [], -1, z, lt, l⟩))) := TLe.rfl
set_option maxHeartbeats 8000000 in
theorem rpack_c (hL : TokOk L) (hn : L.length ≤ 100000) (hq : NumOk L) (st : RSt) (hg : Gd L m 0 900 st) (hp : isV L st.i w_pack = true) : W0 L 46 [] (packR L) (fun x => .o (gD (itD x))) st := fun v st' hT => by
 have kx_st : st.xs = st.xs := rfl
 have kt_st : st.ts = st.ts := rfl
 unfold packR at hT
 have h10 := hg.e
 refine fn_ruleM (C := ⟨Tryz.prog, layF, Tryz.f46.ntmps, ΓL, 5, [], []⟩) layF_ok mixed Tryz.func46 rfl (by kernel_rfl) rfl rfl rfl ?_
 repeat' (first | refine qgs ?_ | refine eD ?_ ?_ <;> intro)
 rcases q1 : (takeR L w_pack) (st) with ⟨_, s1⟩
 replace hT := (rand q1).symm.trans hT
 refine sC (CallsM.ren ((rtake_c st hg.i hn w_pack) _ _ q1) [0, 1, 2, 3, 4] 6 rfl rfl rfl rfl) ?_
 have kx_s1 := (keep_take q1).1.trans kx_st
 have kt_s1 := (keep_take q1).2.trans kt_st
 have g1 := (Sim.take (m := m) hL w_pack 0).gd hg (by omega) q1
 have h11 := g1.e
 have hk := tk_at g1.i
 have hsi1 := g1.i
 replace hT : (match (if (tk L s1.i).k = 0 then integerV (tk L s1.i).t else none) with
  | none => ((⟨[], -1, 0, [], [], -1, 0, false, []⟩ : IT), failR 4 s1)
  | some (z, lt) => (stepR >>= fun _ => takeR L t_lcur >>= fun _ => (fun s => subsR L (L.length - s.i + 1) [] s) >>= fun l => takeR L t_rcur >>= fun _ => pure (⟨[], -1, 0, [], [], -1, z, lt, l⟩ : IT)) s1) = (v, st') := hT
 by_cases hint : (if (tk L s1.i).k = 0 then integerV (tk L s1.i).t else none) = none
 ·rw [hint] at hT
  dsimp only at hT
  obtain rfl := congrArg Prod.fst hT
  obtain rfl := congrArg Prod.snd hT
  have hcz := (rinteger_c (tk L s1.i).t).gL
  by_cases hk0 : (tk L s1.i).k = 0
  ·rw [if_pos hk0] at hint
   rw [hint] at hcz
   have hcz : CallsA Tryz.prog ΓL 68 [c1 (ds (bs (tk L s1.i).t))] (.tup [c1 (di 0), c1 (db false)]) := hcz
   generalize tk L s1.i = u at *
   repeat' (first | refine ex_call hcz ?_ | refine (ex_row s1.i u rfl hk) ?_ | refine qg1 ?_ | refine eD ?_ ?_ <;> intro)
   refine sC (CallsM.ren ((rfail_c (L := L) s1 4 (by omega))) [0, 1, 2, 3, 4] 7 rfl rfl rfl rfl) ?_
   repeat' (first | refine qgs ?_ | refine eD ?_ ?_ <;> intro)
   exact ⟨rfl, itnLe (w := []) (a := []) (b := []), rfl, rfl⟩
  ·obtain ⟨z, lt, hz⟩ : ∃ z lt, rintTV (integerV (tk L s1.i).t) = .tup [c1 (di (z : Nat)), c1 (db lt)] := by
    rcases integerV (tk L s1.i).t with _ | ⟨z, lt⟩
    ·exact ⟨0, false, rfl⟩
    ·exact ⟨z, lt, rfl⟩
   rw [hz] at hcz
   clear hint hz
   generalize tk L s1.i = u at *
   repeat' (first | refine ex_call hcz ?_ | refine (ex_row s1.i u rfl hk) ?_ | refine qg1 ?_ | refine eD ?_ ?_ <;> intro)
   all_goals
    refine sC (CallsM.ren ((rfail_c (L := L) s1 4 (by omega))) [0, 1, 2, 3, 4] 7 rfl rfl rfl rfl) ?_
    repeat' (first | refine qgs ?_ | refine eD ?_ ?_ <;> intro)
    exact ⟨rfl, itnLe (w := []) (a := []) (b := []), rfl, rfl⟩
 ·obtain ⟨⟨z, lt⟩, hint⟩ := Option.ne_none_iff_exists'.1 hint
  rw [hint] at hT
  dsimp only at hT
  have hk0 : (tk L s1.i).k = 0 := by
   by_cases h : (tk L s1.i).k = 0
   ·exact h
   ·rw [if_neg h] at hint; cases hint
  rw [if_pos hk0] at hint
  have he1 : s1.err = 0 := by
   by_cases h : st.err = 0
   ·rw [take_yes h hp] at q1
    have e4 : { st with i := st.i + 1 } = s1 := congrArg Prod.snd q1
    rw [← e4]; exact h
   ·rw [take_err h] at q1
    have e4 : st = s1 := congrArg Prod.snd q1
    subst e4
    have : (tk L st.i).t = w_pack := by
     unfold isV at hp
     rw [Bool.and_eq_true] at hp
     exact of_decide_eq_true hp.2
    rw [this, pack_none] at hint
    cases hint
  have hcz := (rinteger_c (tk L s1.i).t).gL
  rw [hint] at hcz
  have hcz : CallsA Tryz.prog ΓL 68 [c1 (ds (bs (tk L s1.i).t))] (.tup [c1 (di z), c1 (db lt)]) := hcz
  have hz := int_pos hint
  have g1s := (g1.fresh he1 400).step hL he1 (by omega) 400
  clear hint
  generalize tk L s1.i = u at *
  replace hT : (takeR L t_lcur >>= fun _ => (fun s => subsR L (L.length - s.i + 1) [] s) >>= fun l => takeR L t_rcur >>= fun _ => pure (⟨[], -1, 0, [], [], -1, z, lt, l⟩ : IT)) { s1 with i := s1.i + 1 } = (v, st') := hT
  repeat' (first | refine ex_call hcz ?_ | refine aI ((s1.i + 1 : Nat) : Int) ?_ | refine aU ((s1.i + 1 : Nat) : Int) ?_ | refine aB ((s1.i + 1 : Nat) : Int) ?_ | refine (ex_row s1.i u rfl hk) ?_ | refine qg1 ?_ | refine eD ?_ ?_ <;> intro)
  rcases q6 : (takeR L t_lcur) ({ s1 with i := s1.i + 1 }) with ⟨_, s6⟩
  replace hT := (rand q6).symm.trans hT
  refine sC (CallsM.ren ((rtake_c { s1 with i := s1.i + 1 } g1s.i hn t_lcur) _ _ q6) [0, 1, 2, 3, 4] 7 rfl rfl rfl rfl) ?_
  have kx_s6 := (keep_take q6).1.trans rfl
  have kt_s6 := (keep_take q6).2.trans rfl
  have g6 := (Sim.take (m := m) hL t_lcur 2).gd g1s (by omega) q6
  obtain ⟨K, hK⟩ : ∃ K : List SB → RM IT, (fun l : List SB => takeR L t_rcur >>= fun _ => pure (⟨[], -1, 0, [], [], -1, z, lt, l⟩ : IT)) = K := ⟨_, rfl⟩
  replace hT : (subsR L (L.length - s6.i + 1) [] >>= K) s6 = (v, st') := by rw [← hK]; exact hT
  have hi6 := g6.i
  repeat' (first | refine qgs ?_ | refine eD ?_ ?_ <;> intro)
  refine ex_loop (X := RSt × Bool × List SB × Nat) (fun ⟨s, more, l, _⟩ => ⟨[(0, .o P0), (2, .o (.c (.ptr 5 0))), (3, .o (.c (.ptr 6 0))), (6, Tb more)], [(0, Rz L s 1 2 3 4), (5, .obj [.d (ds ⟨#[]⟩), .d (di 0), .d (di 0), .d (ds ⟨#[]⟩), .d (ds ⟨#[]⟩), .d (di 0), .d (di 0), .d (db false), .d dnil]), (6, .obj [.d (ds ⟨#[]⟩), .d (di (-1)), .d (di 0), .d (ds ⟨#[]⟩), .d (ds ⟨#[]⟩), .d (di (-1)), .d (di z), .d (db lt), .row 7]), (7, .row 2 183 (l.map sbD))], 8⟩) (fun y => if y.2.1 = true ∧ y.1.err = 0 then y.2.2.2 else 0)
   (fun ⟨s, more, l, n⟩ => Gd L m 3 910 s ∧ s.xs = st.xs ∧ s.ts = st.ts ∧ (more = true → s.err = 0 → l.length ≤ s.i) ∧ l.length ≤ L.length + 1 ∧ (s.err = 0 → L.length < s.i + n) ∧ ((more = true ∧ s.err = 0 ∧ (subsR L n l >>= K) s = (v, st')) ∨ (¬ (more = true ∧ s.err = 0) ∧ K l s = (v, st')))) (s6, true, [], L.length - s6.i + 1) ⟨g6.le (by omega) (by omega), kx_s6.trans kx_s1, kt_s6.trans kt_s1, fun _ _ => Nat.zero_le _, Nat.zero_le _, fun _ => by omega, ?_⟩ ?_ ?_
  ·by_cases he : s6.err = 0
   ·exact .inl ⟨rfl, he, hT⟩
   ·exact .inr ⟨fun h => he h.2, (rand (subsR_err he _ _)).symm.trans hT⟩
  ·exact SLe.thru (SLe.ownCell 6 8 7 2 183 rfl rfl rfl rfl rfl rfl) sS
  clear hT q1 q6 g1 g1s g6 hsi1 kx_s6 kt_s6 hi6 hcz hk hk0 h11
  rintro ⟨s, more, l, n⟩ ⟨hs, kx_s, kt_s, hl1, hl2, hf, hC⟩
  have hsi := hs.i
  have h10 := hs.e
  rcases hC with ⟨rfl, hse, hT⟩ | ⟨hno, hT⟩
  ·have hl1 := hl1 rfl hse
   have hf := hf hse
   cases n with
   | zero => omega
   | succ n =>
    rw [subsR] at hT
    replace hT := gdRyB hT hse
    have hs0 := hs.fresh hse 400
    replace hT : ((fun s => if namedV L s.i = true then roomR l.length s else ((), s)) >>= fun _ => nameR L >>= fun w => takeR L t_colon >>= fun _ => numberR L >>= fun b => takeR L t_semi >>= fun _ => atR (namedV L ·) (subsR L n (l ++ [⟨w, min b 1048576⟩])) (pure (l ++ [⟨w, min b 1048576⟩])) >>= K) s = (v, st') := hT
    have hnm := rnamed_c s hsi
    rcases hb : namedV L s.i with _ | _ <;> rw [hb] at hnm
    ·replace hT := (rand (roomIf_no hb)).symm.trans hT
     repeat' (first | refine qgs ?_ | refine eD ?_ ?_ <;> intro)
     refine sC (CallsM.ren (hnm) [0, 1, 2, 3, 4] 8 rfl rfl rfl rfl) ?_
     repeat' (first | refine qgs ?_ | refine eD ?_ ?_ <;> intro)
     rcases q2 : (nameR L) (s) with ⟨w, s2⟩
     replace hT := (rand q2).symm.trans hT
     refine sC (CallsM.ren ((rname_c s hs0.i hn) _ _ q2) [0, 1, 2, 3, 4] 8 rfl rfl rfl rfl) ?_
     have kx_s2 := (keep_name q2).1.trans kx_s
     have kt_s2 := (keep_name q2).2.trans kt_s
     have g2 := (Sim.name (m := m) hL 3).gd hs0 (by omega) q2
     repeat' (first | refine qgs ?_ | refine eD ?_ ?_ <;> intro)
     rcases q3 : (takeR L t_colon) (s2) with ⟨_, s3⟩
     replace hT := (rand q3).symm.trans hT
     refine sC (CallsM.ren ((rtake_c s2 g2.i hn t_colon) _ _ q3) [0, 1, 2, 3, 4] 8 rfl rfl rfl rfl) ?_
     have kx_s3 := (keep_take q3).1.trans kx_s2
     have kt_s3 := (keep_take q3).2.trans kt_s2
     have g3 := (Sim.take (m := m) hL t_colon 4).gd g2 (by omega) q3
     repeat' (first | refine qgs ?_ | refine eD ?_ ?_ <;> intro)
     rcases q4 : (numberR L) (s3) with ⟨b, s4⟩
     replace hT := (rand q4).symm.trans hT
     refine sC (CallsM.ren ((rnum_c s3 g3.i hn) _ _ q4) [0, 1, 2, 3, 4] 8 rfl rfl rfl rfl) ?_
     have kx_s4 := (keep_num q4).1.trans kx_s3
     have kt_s4 := (keep_num q4).2.trans kt_s3
     have g4 := (Sim.number (m := m) hL 5).gd g3 (by omega) q4
     repeat' (first | refine qgs ?_ | refine eD ?_ ?_ <;> intro)
     rcases q5 : (takeR L t_semi) (s4) with ⟨_, s5⟩
     replace hT := (rand q5).symm.trans hT
     refine sC (CallsM.ren ((rtake_c s4 g4.i hn t_semi) _ _ q5) [0, 1, 2, 3, 4] 8 rfl rfl rfl rfl) ?_
     have kx_s5 := (keep_take q5).1.trans kx_s4
     have kt_s5 := (keep_take q5).2.trans kt_s4
     have g5 := (Sim.take (m := m) hL t_semi 6).gd g4 (by omega) q5
     have hgrow : s5.err = 0 → s.i + 1 ≤ s5.i := fun h5 => by
      have a5 := (Sim.take (m := m) hL t_semi 6).grow g4 q5 h5
      have a4 := (Sim.number (m := m) hL 5).grow g3 q4 a5.1
      have a3 := (Sim.take (m := m) hL t_colon 4).grow g2 q3 a4.1
      have a2 := (Sim.name (m := m) hL 3).grow hs0 q2 a3.1
      have a1 := name_step q2 a2.1 a3.1
      skip
      omega
     have hnx := rnamed_c s5 g5.i
     obtain ⟨b9, hb9⟩ : ∃ b9, min b 1048576 = b9 := ⟨_, rfl⟩
     have hnum := number_lt hq q4
     have hlc : (l ++ [(⟨w, b9⟩ : SB)]).length = l.length + 1 := by simp
     have hnext := subs_next (K := K) (l := l ++ [(⟨w, b9⟩ : SB)]) (n := n) (s := s5) (T := (v, st')) (by rw [← hb9]; exact hT)
     by_cases hbb : 1048576 < b
     ·obtain rfl : 1048576 = b9 := by rw [← hb9]; omega
      repeat' (first | refine aI ((1048576 : Nat) : Int) ?_ | refine aU ((1048576 : Nat) : Int) ?_ | refine aB ((1048576 : Nat) : Int) ?_ | refine qg1 ?_ | refine eD ?_ ?_ <;> intro)
      refine ex_app (l.length) (1) 1000 (by first | rfl | (simp; done) | (simp; omega)) (by first | rfl | (simp; done) | (simp; omega)) rfl (by omega) ?_
      refine ex_is (List.map sbD (l ++ [⟨w, 1048576⟩])) (by rw [List.map_append]; rfl) ?_
      repeat' (first | refine qgs ?_ | refine eD ?_ ?_ <;> intro)
      refine sC (CallsM.ren (hnx) [0, 1, 2, 3, 4] 10 rfl rfl rfl rfl) ?_
      repeat' (first | refine qgs ?_ | refine eD ?_ ?_ <;> intro)
      exact ex_round (s5, namedV L s5.i, l ++ [⟨w, 1048576⟩], n) ⟨g5.le (by omega) (by omega), kx_s5, kt_s5, fun _ h => by rw [hlc]; have := hgrow h; omega, by rw [hlc]; omega, fun h => by have := hgrow h; omega, hnext⟩ (by show (if namedV L s5.i = true ∧ s5.err = 0 then n else 0) < (if true = true ∧ s.err = 0 then n + 1 else 0); rw [if_pos (show true = true ∧ s.err = 0 from ⟨rfl, hse⟩)]; split <;> omega) (sR [(0, 0), (1, 1), (2, 2), (3, 3), (4, 4), (5, 5), (6, 6), (9, 7)])
     ·obtain rfl : b = b9 := by rw [← hb9]; omega
      repeat' (first | refine aI ((b : Nat) : Int) ?_ | refine aU ((b : Nat) : Int) ?_ | refine aB ((b : Nat) : Int) ?_ | refine qg1 ?_ | refine eD ?_ ?_ <;> intro)
      refine ex_app (l.length) (1) 1000 (by first | rfl | (simp; done) | (simp; omega)) (by first | rfl | (simp; done) | (simp; omega)) rfl (by omega) ?_
      refine ex_is (List.map sbD (l ++ [⟨w, b⟩])) (by rw [List.map_append]; rfl) ?_
      repeat' (first | refine qgs ?_ | refine eD ?_ ?_ <;> intro)
      refine sC (CallsM.ren (hnx) [0, 1, 2, 3, 4] 10 rfl rfl rfl rfl) ?_
      repeat' (first | refine qgs ?_ | refine eD ?_ ?_ <;> intro)
      exact ex_round (s5, namedV L s5.i, l ++ [⟨w, b⟩], n) ⟨g5.le (by omega) (by omega), kx_s5, kt_s5, fun _ h => by rw [hlc]; have := hgrow h; omega, by rw [hlc]; omega, fun h => by have := hgrow h; omega, hnext⟩ (by show (if namedV L s5.i = true ∧ s5.err = 0 then n else 0) < (if true = true ∧ s.err = 0 then n + 1 else 0); rw [if_pos (show true = true ∧ s.err = 0 from ⟨rfl, hse⟩)]; split <;> omega) (sR [(0, 0), (1, 1), (2, 2), (3, 3), (4, 4), (5, 5), (6, 6), (9, 7)])
    ·rcases hr : roomR l.length s with ⟨u1, s1⟩
     replace hT := (rand (roomIf_yes hb hr)).symm.trans hT
     have kr := keep_room hr
     have g9 := ((Sim.room (L := L) (m := m) l.length 3).gd hs0 (by omega) hr)
     have kx_s1 := kr.1.trans kx_s
     have kt_s1 := kr.2.trans kt_s
     have hri := room_i hr
     repeat' (first | refine qgs ?_ | refine eD ?_ ?_ <;> intro)
     refine sC (CallsM.ren (hnm) [0, 1, 2, 3, 4] 8 rfl rfl rfl rfl) ?_
     repeat' (first | refine ex_is l.length (by simp) ?_ | refine qg1 ?_ | refine eD ?_ ?_ <;> intro)
     refine sC (CallsM.ren (((rroom_c s l.length (by omega)) _ _ hr)) [0, 1, 2, 3, 4] 8 rfl rfl rfl rfl) ?_
     repeat' (first | refine qgs ?_ | refine eD ?_ ?_ <;> intro)
     rcases q2 : (nameR L) (s1) with ⟨w, s2⟩
     replace hT := (rand q2).symm.trans hT
     refine sC (CallsM.ren ((rname_c s1 g9.i hn) _ _ q2) [0, 1, 2, 3, 4] 8 rfl rfl rfl rfl) ?_
     have kx_s2 := (keep_name q2).1.trans kx_s1
     have kt_s2 := (keep_name q2).2.trans kt_s1
     have g2 := (Sim.name (m := m) hL 3).gd g9 (by omega) q2
     repeat' (first | refine qgs ?_ | refine eD ?_ ?_ <;> intro)
     rcases q3 : (takeR L t_colon) (s2) with ⟨_, s3⟩
     replace hT := (rand q3).symm.trans hT
     refine sC (CallsM.ren ((rtake_c s2 g2.i hn t_colon) _ _ q3) [0, 1, 2, 3, 4] 8 rfl rfl rfl rfl) ?_
     have kx_s3 := (keep_take q3).1.trans kx_s2
     have kt_s3 := (keep_take q3).2.trans kt_s2
     have g3 := (Sim.take (m := m) hL t_colon 4).gd g2 (by omega) q3
     repeat' (first | refine qgs ?_ | refine eD ?_ ?_ <;> intro)
     rcases q4 : (numberR L) (s3) with ⟨b, s4⟩
     replace hT := (rand q4).symm.trans hT
     refine sC (CallsM.ren ((rnum_c s3 g3.i hn) _ _ q4) [0, 1, 2, 3, 4] 8 rfl rfl rfl rfl) ?_
     have kx_s4 := (keep_num q4).1.trans kx_s3
     have kt_s4 := (keep_num q4).2.trans kt_s3
     have g4 := (Sim.number (m := m) hL 5).gd g3 (by omega) q4
     repeat' (first | refine qgs ?_ | refine eD ?_ ?_ <;> intro)
     rcases q5 : (takeR L t_semi) (s4) with ⟨_, s5⟩
     replace hT := (rand q5).symm.trans hT
     refine sC (CallsM.ren ((rtake_c s4 g4.i hn t_semi) _ _ q5) [0, 1, 2, 3, 4] 8 rfl rfl rfl rfl) ?_
     have kx_s5 := (keep_take q5).1.trans kx_s4
     have kt_s5 := (keep_take q5).2.trans kt_s4
     have g5 := (Sim.take (m := m) hL t_semi 6).gd g4 (by omega) q5
     have hgrow : s5.err = 0 → s.i + 1 ≤ s5.i := fun h5 => by
      have a5 := (Sim.take (m := m) hL t_semi 6).grow g4 q5 h5
      have a4 := (Sim.number (m := m) hL 5).grow g3 q4 a5.1
      have a3 := (Sim.take (m := m) hL t_colon 4).grow g2 q3 a4.1
      have a2 := (Sim.name (m := m) hL 3).grow g9 q2 a3.1
      have a1 := name_step q2 a2.1 a3.1
      have := hri
      omega
     have hnx := rnamed_c s5 g5.i
     obtain ⟨b9, hb9⟩ : ∃ b9, min b 1048576 = b9 := ⟨_, rfl⟩
     have hnum := number_lt hq q4
     have hlc : (l ++ [(⟨w, b9⟩ : SB)]).length = l.length + 1 := by simp
     have hnext := subs_next (K := K) (l := l ++ [(⟨w, b9⟩ : SB)]) (n := n) (s := s5) (T := (v, st')) (by rw [← hb9]; exact hT)
     by_cases hbb : 1048576 < b
     ·obtain rfl : 1048576 = b9 := by rw [← hb9]; omega
      repeat' (first | refine aI ((1048576 : Nat) : Int) ?_ | refine aU ((1048576 : Nat) : Int) ?_ | refine aB ((1048576 : Nat) : Int) ?_ | refine qg1 ?_ | refine eD ?_ ?_ <;> intro)
      refine ex_app (l.length) (1) 1000 (by first | rfl | (simp; done) | (simp; omega)) (by first | rfl | (simp; done) | (simp; omega)) rfl (by omega) ?_
      refine ex_is (List.map sbD (l ++ [⟨w, 1048576⟩])) (by rw [List.map_append]; rfl) ?_
      repeat' (first | refine qgs ?_ | refine eD ?_ ?_ <;> intro)
      refine sC (CallsM.ren (hnx) [0, 1, 2, 3, 4] 10 rfl rfl rfl rfl) ?_
      repeat' (first | refine qgs ?_ | refine eD ?_ ?_ <;> intro)
      exact ex_round (s5, namedV L s5.i, l ++ [⟨w, 1048576⟩], n) ⟨g5.le (by omega) (by omega), kx_s5, kt_s5, fun _ h => by rw [hlc]; have := hgrow h; omega, by rw [hlc]; omega, fun h => by have := hgrow h; omega, hnext⟩ (by show (if namedV L s5.i = true ∧ s5.err = 0 then n else 0) < (if true = true ∧ s.err = 0 then n + 1 else 0); rw [if_pos (show true = true ∧ s.err = 0 from ⟨rfl, hse⟩)]; split <;> omega) (sR [(0, 0), (1, 1), (2, 2), (3, 3), (4, 4), (5, 5), (6, 6), (9, 7)])
     ·obtain rfl : b = b9 := by rw [← hb9]; omega
      repeat' (first | refine aI ((b : Nat) : Int) ?_ | refine aU ((b : Nat) : Int) ?_ | refine aB ((b : Nat) : Int) ?_ | refine qg1 ?_ | refine eD ?_ ?_ <;> intro)
      refine ex_app (l.length) (1) 1000 (by first | rfl | (simp; done) | (simp; omega)) (by first | rfl | (simp; done) | (simp; omega)) rfl (by omega) ?_
      refine ex_is (List.map sbD (l ++ [⟨w, b⟩])) (by rw [List.map_append]; rfl) ?_
      repeat' (first | refine qgs ?_ | refine eD ?_ ?_ <;> intro)
      refine sC (CallsM.ren (hnx) [0, 1, 2, 3, 4] 10 rfl rfl rfl rfl) ?_
      repeat' (first | refine qgs ?_ | refine eD ?_ ?_ <;> intro)
      exact ex_round (s5, namedV L s5.i, l ++ [⟨w, b⟩], n) ⟨g5.le (by omega) (by omega), kx_s5, kt_s5, fun _ h => by rw [hlc]; have := hgrow h; omega, by rw [hlc]; omega, fun h => by have := hgrow h; omega, hnext⟩ (by show (if namedV L s5.i = true ∧ s5.err = 0 then n else 0) < (if true = true ∧ s.err = 0 then n + 1 else 0); rw [if_pos (show true = true ∧ s.err = 0 from ⟨rfl, hse⟩)]; split <;> omega) (sR [(0, 0), (1, 1), (2, 2), (3, 3), (4, 4), (5, 5), (6, 6), (9, 7)])
  ·rw [← hK] at hT
   rcases q4 : takeR L t_rcur s with ⟨u4, s4⟩
   replace hT := (rand q4).symm.trans hT
   obtain rfl : (⟨[], -1, 0, [], [], -1, z, lt, l⟩ : IT) = v := congrArg Prod.fst hT
   obtain rfl : s4 = st' := congrArg Prod.snd hT
   have hcon := (rtake_c s hsi hn t_rcur) _ _ q4
   cases more
   ·repeat' (first | refine qgs ?_ | refine eD ?_ ?_ <;> intro)
    refine sC (CallsM.ren (hcon) [0, 1, 2, 3, 4] 8 rfl rfl rfl rfl) ?_
    repeat' (first | refine qgs ?_ | refine eD ?_ ?_ <;> intro)
    exact ⟨rfl, itPLe, rfl, rfl⟩
   ·have hse : s.err ≠ 0 := fun h => hno ⟨rfl, h⟩
    repeat' (first | refine qgs ?_ | refine eD ?_ ?_ <;> intro)
    refine sC (CallsM.ren (hcon) [0, 1, 2, 3, 4] 8 rfl rfl rfl rfl) ?_
    repeat' (first | refine qgs ?_ | refine eD ?_ ?_ <;> intro)
    exact ⟨rfl, itPLe, rfl, rfl⟩
end
end Go.Proofs.YtoingpafcodojaaGreatDoor

namespace Go.Proofs.YtoingpafcodojaaGreatDoor
open Go.RowKit

section
variable {L : List TokP}
theorem Sim.grow1 {m : Nat} {α : Type} {x : PM α} {y : RM α} {a a' c d b : Nat} (h : Sim L m x y a a' c d) (hm : Mo1 x) {st st' : RSt} {v : α} (hg : Gd L m a b st) (hx : y st = (v, st')) (he : st'.err = 0) : st.i + 1 ≤ st'.i := by
 by_cases h0 : st.err = 0
 ·have hs := hg.ok h0
  have h1 := h.ok 0 _ (by rw [Nat.zero_add]; exact hs)
  rw [← hg.emb h0] at h1
  cases hxs : x ⟨st.i, st.xs, st.ts⟩ with
  | ok w t =>
   rw [hxs] at h1
   dsimp only at h1
   rw [hx] at h1
   cases h1
   exact hm _ _ _ hxs
  | err i e =>
   have hu := h.up _ 0 (by rw [Nat.zero_add]; exact hs)
   rw [hxs] at h1 hu
   dsimp only at h1 hu
   rw [hx] at h1
   have h1 : Bad L m c i e st' := h1
   rw [h1.e] at he
   omega
 ·have h1 := h.bad st h0
  rw [hx] at h1
  have h1 : Stay d st st' := h1
  exact absurd (h1.e.symm.trans he) h0
theorem parsR_err {s : RSt} (h : s.err ≠ 0) (n : Nat) (l : List (List UInt8)) : parsR L n l s = (l, s) := by
 cases n with
 | zero => rfl
 | succ n => exact if_neg h
theorem keep_pack {st st1 : RSt} {v : IT} (h : packR L st = (v, st1)) : st1.xs = st.xs ∧ st1.ts = st.ts := by
 have kx : ∀ {α β : Type} {x : RM α} {f : α → RM β}, (∀ s, (x s).2.xs = s.xs ∧ (x s).2.ts = s.ts) → (∀ v s, (f v s).2.xs = s.xs ∧ (f v s).2.ts = s.ts) → ∀ s, ((x >>= f) s).2.xs = s.xs ∧ ((x >>= f) s).2.ts = s.ts := fun {α β x f} h1 h2 s =>
  ⟨(h2 (x s).1 (x s).2).1.trans (h1 s).1, (h2 (x s).1 (x s).2).2.trans (h1 s).2⟩
 have kt : ∀ t s, (takeR L t s).2.xs = s.xs ∧ (takeR L t s).2.ts = s.ts := fun t s => keep_take (v := (takeR L t s).1) rfl
 have kn : ∀ s, (nameR L s).2.xs = s.xs ∧ (nameR L s).2.ts = s.ts := fun s => keep_name (v := (nameR L s).1) rfl
 have kb : ∀ s, (numberR L s).2.xs = s.xs ∧ (numberR L s).2.ts = s.ts := fun s => keep_num (v := (numberR L s).1) rfl
 have kr : ∀ n s, (roomR n s).2.xs = s.xs ∧ (roomR n s).2.ts = s.ts := fun n s => keep_room (v := (roomR n s).1) rfl
 have ks : ∀ n l s, (subsR L n l s).2.xs = s.xs ∧ (subsR L n l s).2.ts = s.ts := by
  intro n
  induction n with
  | zero => exact fun l s => ⟨rfl, rfl⟩
  | succ n ih =>
   intro l s
   rw [subsR]
   unfold guardR
   split
   ·refine kx (fun s => ?_) (fun _ => kx kn fun w => kx (kt _) fun _ => kx kb fun b => kx (kt _) fun _ s => ?_) s
    ·show (if namedV L s.i = true then roomR l.length s else ((), s)).2.xs = s.xs ∧ (if namedV L s.i = true then roomR l.length s else ((), s)).2.ts = s.ts
     split
     ·exact kr _ s
     ·exact ⟨rfl, rfl⟩
    ·unfold atR
     split
     ·exact ih _ s
     ·exact ⟨rfl, rfl⟩
   ·exact ⟨rfl, rfl⟩
 have key : (packR L st).2.xs = st.xs ∧ (packR L st).2.ts = st.ts := by
  unfold packR
  refine kx (kt _) (fun _ s => ?_) st
  generalize (if (tk L s.i).k = 0 then integerV (tk L s.i).t else none) = q
  rcases q with _ | ⟨z, lt⟩
  ·exact keep_fail
  ·exact kx (fun s => ⟨rfl, rfl⟩) (fun _ => kx (kt _) fun _ => kx (fun s => ks _ _ s) fun l => kx (kt _) fun _ s => ⟨rfl, rfl⟩) s
 rw [h] at key
 exact key
theorem mo_packAt : Mo1 (atM (isV L · w_pack) (packM L) (fieldM L)) := fun s v s' h => by
 unfold atM at h
 split at h
 ·exact mo_pack _ _ _ h
 ·exact mo_field _ _ _ h
theorem itemsR_err {s : RSt} (h : s.err ≠ 0) (n : Nat) (l : List IT) : itemsR L n l s = (l, s) := by
 cases n with
 | zero => rfl
 | succ n => exact if_neg h
theorem pars_out {K : List (List UInt8) → RM RC} {s2 : RSt} {n : Nat} {l : List (List UInt8)} {T : RC × RSt} (hcv : isV L s2.i t_comma = false) (hF : s2.err = 0 → L.length < s2.i + n) (hi : s2.i < L.length) (hT : (parsR L n l >>= K) s2 = T) : K l s2 = T := by
 by_cases he : s2.err = 0
 ·have := hF he
  cases n with
  | zero => omega
  | succ n =>
   rw [parsR] at hT
   have h1 := gdRyB hT he
   have h2 := atRnB h1 hcv
   exact h2
 ·exact (rand (parsR_err he n l)).symm.trans hT
theorem pars_in {K : List (List UInt8) → RM RC} {s2 s3 : RSt} {n : Nat} {l : List (List UInt8)} {T : RC × RSt} {u : Unit} (hcv : isV L s2.i t_comma = true) (hi : s2.i < L.length) (hF : s2.err = 0 → L.length < s2.i + n) (hT : (parsR L n l >>= K) s2 = T) (ht : takeR L t_comma s2 = (u, s3)) :
  (true = true ∧ s3.err = 0 ∧ (∀ s' : RSt, s3.i ≤ s'.i → s'.err = 0 → L.length < s'.i + (n - 1)) ∧ ((fun s => if namedV L s.i = true then roomR l.length s else ((), s)) >>= fun _ => nameR L >>= fun x => (fun s => parsR L (n - 1) (l ++ [x]) s : RM (List (List UInt8))) >>= K) s3 = T) ∨ (¬ (true = true ∧ s3.err = 0) ∧ K l s3 = T) := by
 by_cases he : s2.err = 0
 ·have := hF he
  cases n with
  | zero => omega
  | succ n =>
   rw [parsR] at hT
   have h1 := gdRyB hT he
   have h2 := atRyB h1 hcv
   rw [take_yes he hcv] at ht
   obtain rfl := congrArg Prod.snd ht
   refine .inl ⟨rfl, he, fun s' h1 h2 => by have h1 : s2.i + 1 ≤ s'.i := h1; show _ < _ + n; omega, ?_⟩
   have h3 : RM.and _ _ s2 = T := h2
   unfold RM.and at h3
   rw [rand (take_yes he hcv)] at h3
   exact h3
 ·rw [take_err he] at ht
  obtain rfl : s2 = s3 := congrArg Prod.snd ht
  exact .inr ⟨fun h => he h.2, (rand (parsR_err he n l)).symm.trans hT⟩
set_option maxHeartbeats 8000000 in
theorem rrecord_c (hL : TokOk L) (hE : EndE L) (hn : L.length ≤ 100000) (hq : NumOk L) (st : RSt) (hg : Gd L 32 0 900 st) : W2 L 28 [] (recordR L) (fun x => .o (gD (rcD x))) st := fun v st' hT X T hX hTt => by
 subst hX
 subst hTt
 have kx_st : st.xs = st.xs := rfl
 have kt_st : st.ts = st.ts := rfl
 unfold recordR at hT
 refine fn_ruleP (C := ⟨Tryz.prog, layF, Tryz.f28.ntmps, ΓL, 5, [], [17]⟩) layF_ok mixed Tryz.func28 rfl (by kernel_rfl) rfl rfl rfl startR2 ?_
 repeat' (first | refine qgs ?_ | refine eD ?_ ?_ <;> intro)
 rcases q1 : (takeR L w_struct) (st) with ⟨_, s1⟩
 replace hT := (rand q1).symm.trans hT
 refine sC (CallsM.ren ((rtake_c st hg.i hn w_struct) _ _ q1) [0, 1, 2, 5, 6] 8 rfl rfl rfl rfl) ?_
 have kx_s1 := (keep_take q1).1.trans kx_st
 have kt_s1 := (keep_take q1).2.trans kt_st
 have g1 := (Sim.take (m := 32) hL w_struct 0).gd hg (by omega) q1
 repeat' (first | refine qgs ?_ | refine eD ?_ ?_ <;> intro)
 rcases q2 : (nameR L) (s1) with ⟨w, s2⟩
 replace hT := (rand q2).symm.trans hT
 refine sC (CallsM.ren ((rname_c s1 g1.i hn) _ _ q2) [0, 1, 2, 5, 6] 8 rfl rfl rfl rfl) ?_
 have kx_s2 := (keep_name q2).1.trans kx_s1
 have kt_s2 := (keep_name q2).2.trans kt_s1
 have g2 := (Sim.name (m := 32) hL 1).gd g1 (by omega) q2
 have his := ris_c s2 g2.i t_lpar
 obtain ⟨b, hv⟩ : ∃ b, isV L s2.i t_lpar = b := ⟨_, rfl⟩
 rw [hv] at his
 have h10 := g2.e
 repeat' (first | refine qgs ?_ | refine eD ?_ ?_ <;> intro)
 refine sC (CallsM.ren (his) [0, 1, 2, 5, 6] 9 rfl rfl rfl rfl) ?_
 repeat' (first | refine qgs ?_ | refine eD ?_ ?_ <;> intro)
 obtain ⟨K, hK⟩ : ∃ K : List (List UInt8) → RM RC, (fun ps : List (List UInt8) => takeR L t_lcur >>= fun _ => (fun s => itemsR L (L.length - s.i + 1) [] s) >>= fun is => takeR L t_rcur >>= fun _ => pure (⟨w, ps, is⟩ : RC)) = K := ⟨_, rfl⟩
 replace hT : (atR (isV L · t_lpar) (guardR [] (takeR L t_lpar >>= fun _ => nameR L >>= fun x => (fun s => parsR L (L.length - s.i + 1) [x] s) >>= fun l => takeR L t_rpar >>= fun _ => pure l)) (pure []) >>= K) s2 = (v, st') := by rw [← hK]; exact hT
 refine ex_join (X := RSt × List (List UInt8)) (fun ⟨s, l⟩ => ⟨[(0, .o P0), (2, .o (.c (.ptr 7 0))), (4, .o (.c (.ptr 8 0)))], [(0, Rz L s 1 2 5 6), (3, .dead), (4, .dead), (7, .obj [.d (ds ⟨#[]⟩), .d dnil, .d dnil]), (8, .obj [.d (ds (bs w)), .row 9, .d dnil]), (9, .row 1 9 (l.map fun p => [ds (bs p)])), (5, Xr st.xs), (6, Tr st.ts)], 10⟩) (fun ⟨s, l⟩ => Gd L 32 2 930 s ∧ s.xs = st.xs ∧ s.ts = st.ts ∧ K l s = (v, st')) ?_ ?_
 ·cases b
  ·replace hT := atRnB hT hv
   replace hT : K [] s2 = (v, st') := hT
   repeat' (first | refine qgs ?_ | refine eD ?_ ?_ <;> intro)
   exact ex_meet (s2, []) ⟨g2.le (by omega) (by omega), kx_s2, kt_s2, hT⟩ (SLe.thru (SLe.ownCell 8 1 9 1 9 rfl rfl rfl rfl rfl rfl) sS)
  ·replace hT := atRyB hT hv
   by_cases he : s2.err = 0
   ·replace hT := gdRyB hT he
    replace hT : (takeR L t_lpar >>= fun _ => nameR L >>= fun x => (fun s => parsR L (L.length - s.i + 1) [x] s : RM (List (List UInt8))) >>= fun l => takeR L t_rpar >>= fun _ => K l) s2 = (v, st') := hT
    repeat' (first | refine qgs ?_ | refine eD ?_ ?_ <;> intro)
    rcases q3 : (takeR L t_lpar) (s2) with ⟨_, s3⟩
    replace hT := (rand q3).symm.trans hT
    refine sC (CallsM.ren ((rtake_c s2 g2.i hn t_lpar) _ _ q3) [0, 1, 2, 5, 6] 9 rfl rfl rfl rfl) ?_
    have kx_s3 := (keep_take q3).1.trans kx_s2
    have kt_s3 := (keep_take q3).2.trans kt_s2
    have g3 := (Sim.take (m := 32) hL t_lpar 2).gd g2 (by omega) q3
    have he3 : s3.err = 0 := by
     rw [take_yes he hv] at q3
     have e4 : { s2 with i := s2.i + 1 } = s3 := congrArg Prod.snd q3
     rw [← e4]
     exact he
    repeat' (first | refine qgs ?_ | refine eD ?_ ?_ <;> intro)
    refine ex_loop (X := RSt × Bool × List (List UInt8) × (RSt → Nat)) (fun ⟨s, more, l, _⟩ => ⟨[(0, .o P0), (2, .o (.c (.ptr 7 0))), (4, .o (.c (.ptr 8 0))), (5, Tb more)], [(0, Rz L s 1 2 5 6), (3, .dead), (4, .dead), (7, .obj [.d (ds ⟨#[]⟩), .d dnil, .d dnil]), (8, .obj [.d (ds (bs w)), .row 9, .d dnil]), (9, .row 1 9 (l.map fun p => [ds (bs p)])), (5, Xr st.xs), (6, Tr st.ts)], 10⟩)
     (fun y => if y.2.1 = true ∧ y.1.err = 0 then L.length - y.1.i + 1 else 0)
     (fun ⟨s, more, l, F⟩ => Gd L 32 3 910 s ∧ s.xs = st.xs ∧ s.ts = st.ts ∧ (more = true → s.err = 0 → l.length ≤ s.i) ∧ l.length ≤ L.length + 1 ∧
      ((more = true ∧ s.err = 0 ∧ (∀ s' : RSt, s.i ≤ s'.i → s'.err = 0 → L.length < s'.i + F s') ∧ ((fun s => if namedV L s.i = true then roomR l.length s else ((), s)) >>= fun _ => nameR L >>= fun x => (fun s => parsR L (F s) (l ++ [x]) s : RM (List (List UInt8))) >>= fun l => takeR L t_rpar >>= fun _ => K l) s = (v, st')) ∨
       (¬ (more = true ∧ s.err = 0) ∧ (takeR L t_rpar >>= fun _ => K l) s = (v, st')))) (s3, true, [], fun s => L.length - s.i + 1) ⟨g3.le (by omega) (by omega), kx_s3, kt_s3, fun _ _ => Nat.zero_le _, Nat.zero_le _, .inl ⟨rfl, he3, fun s' h1 h2 => by show L.length < s'.i + (L.length - s'.i + 1); omega, (rand roomIf_nil).trans hT⟩⟩ ?_ ?_
    ·exact SLe.thru (SLe.ownCell 8 1 9 1 9 rfl rfl rfl rfl rfl rfl) sS
    clear hT kx_s1 kt_s1 kx_s2 kt_s2 kx_s3 kt_s3 kx_st kt_st g1 g2 g3 q1 q2 q3 hg hv his he he3 h10 hK
    rintro ⟨s, more, l, F⟩ ⟨hs, kx_s, kt_s, hl1, hl2, hC⟩
    have hsi := hs.i
    have h10 := hs.e
    rcases hC with ⟨rfl, hse, hF, hT⟩ | ⟨hno, hT⟩
    ·have hl1 := hl1 rfl hse
     have hop := rnamed_c s hsi
     rcases hb : namedV L s.i with _ | _ <;> rw [hb] at hop
     ·replace hT := (rand (roomIf_no hb)).symm.trans hT
      repeat' (first | refine qgs ?_ | refine eD ?_ ?_ <;> intro)
      refine sC (CallsM.ren (hop) [0, 1, 2, 5, 6] 10 rfl rfl rfl rfl) ?_
      repeat' (first | refine qgs ?_ | refine eD ?_ ?_ <;> intro)
      rcases hx : (nameR L) (s) with ⟨x, s2⟩
      replace hT := (rand hx).symm.trans hT
      refine sC (CallsM.ren ((rname_c s hs.i hn) _ _ hx) [0, 1, 2, 5, 6] 10 rfl rfl rfl rfl) ?_
      have kx_s2 := (keep_name hx).1.trans kx_s
      have kt_s2 := (keep_name hx).2.trans kt_s
      have hg2 := (Sim.name (m := 32) hL 3).gd hs (by omega) hx
      have hgr := fun h => ((Sim.name (m := 32) hL 3).grow hs hx h).2
      have hsi2 := hg2.i
      replace hT : (parsR L (F s2) (l ++ [x]) >>= fun l => takeR L t_rpar >>= fun _ => K l) s2 = (v, st') := hT
      have hlx : (l ++ [x]).length = l.length + 1 := by simp
      have hle : s2.err = 0 → l.length ≤ s2.i := fun h => by
       have := hgr h
       skip
       omega
      repeat' (first | refine qgs ?_ | refine eD ?_ ?_ <;> intro)
      refine ex_app (l.length) (1) 1000 (by first | rfl | (simp; done) | (simp; omega)) (by first | rfl | (simp; done) | (simp; omega)) rfl (by omega) ?_
      refine ex_is (List.map (fun p : List UInt8 => [ds (bs p)]) (l ++ [x])) (by rw [List.map_append]; rfl) ?_
      repeat' (first | refine qgs ?_ | refine eD ?_ ?_ <;> intro)
      have hi2 := ris_c s2 hsi2 t_comma
      rcases hcv : isV L s2.i t_comma with _ | _ <;> rw [hcv] at hi2
      ·
       refine sC (CallsM.ren (hi2) [0, 1, 2, 5, 6] 12 rfl rfl rfl rfl) ?_
       repeat' (first | refine qgs ?_ | refine eD ?_ ?_ <;> intro)
       exact ex_round (s2, false, l ++ [x], F) ⟨hg2.le (by omega) (by omega), kx_s2, kt_s2, fun h => (by cases h), by rw [hlx]; omega, .inr ⟨fun h => (by cases h.1), pars_out (K := fun l => takeR L t_rpar >>= fun _ => K l) hcv (fun h => hF s2 (by have := hgr h; skip; omega) h) hsi2 hT⟩⟩ (by show (if false = true ∧ s2.err = 0 then L.length - s2.i + 1 else 0) < (if true = true ∧ s.err = 0 then L.length - s.i + 1 else 0); rw [if_neg (by simp), if_pos ⟨rfl, hse⟩]; omega) (sR [(0, 0), (1, 1), (2, 2), (3, 3), (4, 4), (5, 5), (6, 6), (7, 7), (8, 8), (11, 9)])
      ·
       refine sC (CallsM.ren (hi2) [0, 1, 2, 5, 6] 12 rfl rfl rfl rfl) ?_
       repeat' (first | refine qgs ?_ | refine eD ?_ ?_ <;> intro)
       rcases htk : takeR L t_comma s2 with ⟨u3, s3⟩
       have ht3 := rtake_c s2 hsi2 hn t_comma
       refine sC (CallsM.ren ((ht3 _ _ htk)) [0, 1, 2, 5, 6] 12 rfl rfl rfl rfl) ?_
       repeat' (first | refine qgs ?_ | refine eD ?_ ?_ <;> intro)
       have kk := keep_take htk
       have hg3 := (Sim.take (m := 32) hL t_comma 4).gd hg2 (by omega) htk
       refine ex_round (s3, true, l ++ [x], fun _ => F s2 - 1) ⟨hg3.le (by omega) (by omega), kk.1.trans kx_s2, kk.2.trans kt_s2, ?_, by rw [hlx]; omega, ?_⟩ ?_ (SLe.ren [(0, 0), (1, 1), (2, 2), (3, 3), (4, 4), (5, 5), (6, 6), (7, 7), (8, 8), (11, 9)] ⟨⟨rfl, rfl⟩, ⟨rfl, rfl⟩, ⟨rfl, rfl⟩, ⟨rfl, rfl⟩, trivial⟩ ⟨⟨rfl, rfl⟩, ⟨rfl, rfl⟩, ⟨rfl, rfl⟩, ⟨rfl, rfl⟩, ⟨rfl, rfl⟩, ⟨rfl, rfl⟩, ⟨rfl, rfl⟩, ⟨rfl, rfl⟩, trivial⟩ rfl)
       ·intro _ h
        rw [hlx]
        by_cases he2 : s2.err = 0
        ·have := hle he2
         rw [take_yes he2 hcv] at htk
         obtain rfl := congrArg Prod.snd htk
         show _ ≤ s2.i + 1
         omega
        ·rw [take_err he2] at htk
         obtain rfl : s2 = s3 := congrArg Prod.snd htk
         exact absurd h he2
       ·exact pars_in hcv hsi2 (fun h => hF s2 (by have := hgr h; skip; omega) h) hT htk
       ·by_cases he2 : s2.err = 0
        ·have := hgr he2
         skip
         rw [take_yes he2 hcv] at htk
         obtain rfl := congrArg Prod.snd htk
         show (if true = true ∧ s2.err = 0 then L.length - (s2.i + 1) + 1 else 0) < (if true = true ∧ s.err = 0 then L.length - s.i + 1 else 0)
         rw [if_pos ⟨rfl, he2⟩, if_pos ⟨rfl, hse⟩]
         omega
        ·rw [take_err he2] at htk
         obtain rfl : s2 = s3 := congrArg Prod.snd htk
         show (if true = true ∧ s2.err = 0 then L.length - s2.i + 1 else 0) < (if true = true ∧ s.err = 0 then L.length - s.i + 1 else 0)
         rw [if_neg (fun h => he2 h.2), if_pos ⟨rfl, hse⟩]
         omega
     ·rcases hr : roomR l.length s with ⟨u1, s1⟩
      replace hT := (rand (roomIf_yes hb hr)).symm.trans hT
      have kr := keep_room hr
      have hg1 := (Sim.room (L := L) (m := 32) l.length 3).gd hs (by omega) hr
      have kx_s1 := kr.1.trans kx_s
      have kt_s1 := kr.2.trans kt_s
      have hri : s1.i = s.i := room_i hr
      repeat' (first | refine qgs ?_ | refine eD ?_ ?_ <;> intro)
      refine sC (CallsM.ren (hop) [0, 1, 2, 5, 6] 10 rfl rfl rfl rfl) ?_
      repeat' (first | refine ex_is l.length (by simp) ?_ | refine qg1 ?_ | refine eD ?_ ?_ <;> intro)
      refine sC (CallsM.ren (((rroom_c s l.length (by omega)) _ _ hr)) [0, 1, 2, 5, 6] 10 rfl rfl rfl rfl) ?_
      repeat' (first | refine qgs ?_ | refine eD ?_ ?_ <;> intro)
      rcases hx : (nameR L) (s1) with ⟨x, s2⟩
      replace hT := (rand hx).symm.trans hT
      refine sC (CallsM.ren ((rname_c s1 hg1.i hn) _ _ hx) [0, 1, 2, 5, 6] 10 rfl rfl rfl rfl) ?_
      have kx_s2 := (keep_name hx).1.trans kx_s1
      have kt_s2 := (keep_name hx).2.trans kt_s1
      have hg2 := (Sim.name (m := 32) hL 3).gd hg1 (by omega) hx
      have hgr := fun h => ((Sim.name (m := 32) hL 3).grow hg1 hx h).2
      have hsi2 := hg2.i
      replace hT : (parsR L (F s2) (l ++ [x]) >>= fun l => takeR L t_rpar >>= fun _ => K l) s2 = (v, st') := hT
      have hlx : (l ++ [x]).length = l.length + 1 := by simp
      have hle : s2.err = 0 → l.length ≤ s2.i := fun h => by
       have := hgr h
       have := hri
       omega
      repeat' (first | refine qgs ?_ | refine eD ?_ ?_ <;> intro)
      refine ex_app (l.length) (1) 1000 (by first | rfl | (simp; done) | (simp; omega)) (by first | rfl | (simp; done) | (simp; omega)) rfl (by omega) ?_
      refine ex_is (List.map (fun p : List UInt8 => [ds (bs p)]) (l ++ [x])) (by rw [List.map_append]; rfl) ?_
      repeat' (first | refine qgs ?_ | refine eD ?_ ?_ <;> intro)
      have hi2 := ris_c s2 hsi2 t_comma
      rcases hcv : isV L s2.i t_comma with _ | _ <;> rw [hcv] at hi2
      ·
       refine sC (CallsM.ren (hi2) [0, 1, 2, 5, 6] 12 rfl rfl rfl rfl) ?_
       repeat' (first | refine qgs ?_ | refine eD ?_ ?_ <;> intro)
       exact ex_round (s2, false, l ++ [x], F) ⟨hg2.le (by omega) (by omega), kx_s2, kt_s2, fun h => (by cases h), by rw [hlx]; omega, .inr ⟨fun h => (by cases h.1), pars_out (K := fun l => takeR L t_rpar >>= fun _ => K l) hcv (fun h => hF s2 (by have := hgr h; have := hri; omega) h) hsi2 hT⟩⟩ (by show (if false = true ∧ s2.err = 0 then L.length - s2.i + 1 else 0) < (if true = true ∧ s.err = 0 then L.length - s.i + 1 else 0); rw [if_neg (by simp), if_pos ⟨rfl, hse⟩]; omega) (sR [(0, 0), (1, 1), (2, 2), (3, 3), (4, 4), (5, 5), (6, 6), (7, 7), (8, 8), (11, 9)])
      ·
       refine sC (CallsM.ren (hi2) [0, 1, 2, 5, 6] 12 rfl rfl rfl rfl) ?_
       repeat' (first | refine qgs ?_ | refine eD ?_ ?_ <;> intro)
       rcases htk : takeR L t_comma s2 with ⟨u3, s3⟩
       have ht3 := rtake_c s2 hsi2 hn t_comma
       refine sC (CallsM.ren ((ht3 _ _ htk)) [0, 1, 2, 5, 6] 12 rfl rfl rfl rfl) ?_
       repeat' (first | refine qgs ?_ | refine eD ?_ ?_ <;> intro)
       have kk := keep_take htk
       have hg3 := (Sim.take (m := 32) hL t_comma 4).gd hg2 (by omega) htk
       refine ex_round (s3, true, l ++ [x], fun _ => F s2 - 1) ⟨hg3.le (by omega) (by omega), kk.1.trans kx_s2, kk.2.trans kt_s2, ?_, by rw [hlx]; omega, ?_⟩ ?_ (SLe.ren [(0, 0), (1, 1), (2, 2), (3, 3), (4, 4), (5, 5), (6, 6), (7, 7), (8, 8), (11, 9)] ⟨⟨rfl, rfl⟩, ⟨rfl, rfl⟩, ⟨rfl, rfl⟩, ⟨rfl, rfl⟩, trivial⟩ ⟨⟨rfl, rfl⟩, ⟨rfl, rfl⟩, ⟨rfl, rfl⟩, ⟨rfl, rfl⟩, ⟨rfl, rfl⟩, ⟨rfl, rfl⟩, ⟨rfl, rfl⟩, ⟨rfl, rfl⟩, trivial⟩ rfl)
       ·intro _ h
        rw [hlx]
        by_cases he2 : s2.err = 0
        ·have := hle he2
         rw [take_yes he2 hcv] at htk
         obtain rfl := congrArg Prod.snd htk
         show _ ≤ s2.i + 1
         omega
        ·rw [take_err he2] at htk
         obtain rfl : s2 = s3 := congrArg Prod.snd htk
         exact absurd h he2
       ·exact pars_in hcv hsi2 (fun h => hF s2 (by have := hgr h; have := hri; omega) h) hT htk
       ·by_cases he2 : s2.err = 0
        ·have := hgr he2
         have := hri
         rw [take_yes he2 hcv] at htk
         obtain rfl := congrArg Prod.snd htk
         show (if true = true ∧ s2.err = 0 then L.length - (s2.i + 1) + 1 else 0) < (if true = true ∧ s.err = 0 then L.length - s.i + 1 else 0)
         rw [if_pos ⟨rfl, he2⟩, if_pos ⟨rfl, hse⟩]
         omega
        ·rw [take_err he2] at htk
         obtain rfl : s2 = s3 := congrArg Prod.snd htk
         show (if true = true ∧ s2.err = 0 then L.length - s2.i + 1 else 0) < (if true = true ∧ s.err = 0 then L.length - s.i + 1 else 0)
         rw [if_neg (fun h => he2 h.2), if_pos ⟨rfl, hse⟩]
         omega
    ·rcases h4 : takeR L t_rpar s with ⟨u4, s4⟩
     replace hT := (rand h4).symm.trans hT
     have kk := keep_take h4
     have g4 := (Sim.take (m := 32) hL t_rpar 3).gd hs (by omega) h4
     have hcon := (rtake_c s hsi hn t_rpar) _ _ h4
     cases more
     ·repeat' (first | refine qgs ?_ | refine eD ?_ ?_ <;> intro)
      refine sC (CallsM.ren (hcon) [0, 1, 2, 5, 6] 10 rfl rfl rfl rfl) ?_
      repeat' (first | refine qgs ?_ | refine eD ?_ ?_ <;> intro)
      exact ex_meet (s4, l) ⟨g4.le (by omega) (by omega), kk.1.trans kx_s, kk.2.trans kt_s, hT⟩ sS
     ·have hse : s.err ≠ 0 := fun h => hno ⟨rfl, h⟩
      repeat' (first | refine qgs ?_ | refine eD ?_ ?_ <;> intro)
      refine sC (CallsM.ren (hcon) [0, 1, 2, 5, 6] 10 rfl rfl rfl rfl) ?_
      repeat' (first | refine qgs ?_ | refine eD ?_ ?_ <;> intro)
      exact ex_meet (s4, l) ⟨g4.le (by omega) (by omega), kk.1.trans kx_s, kk.2.trans kt_s, hT⟩ sS
   ·replace hT := gdRnB hT he
    repeat' (first | refine qgs ?_ | refine eD ?_ ?_ <;> intro)
    exact ex_meet (s2, []) ⟨g2.le (by omega) (by omega), kx_s2, kt_s2, hT⟩ (SLe.thru (SLe.ownCell 8 1 9 1 9 rfl rfl rfl rfl rfl rfl) sS)
 ·clear hT hv his g1 g2 q1 q2 kx_st kt_st kx_s1 kt_s1 kx_s2 kt_s2 h10 hg
  rintro ⟨s, ps⟩ ⟨hs, kx_s, kt_s, hT⟩
  rw [← hK] at hT
  clear hK
  replace hT : (takeR L t_lcur >>= fun _ => (fun s => itemsR L (L.length - s.i + 1) [] s : RM (List IT)) >>= fun is => takeR L t_rcur >>= fun _ => pure (⟨w, ps, is⟩ : RC)) s = (v, st') := hT
  repeat' (first | refine qgs ?_ | refine eD ?_ ?_ <;> intro)
  rcases q1 : (takeR L t_lcur) (s) with ⟨_, s1⟩
  replace hT := (rand q1).symm.trans hT
  refine sC (CallsM.ren ((rtake_c s hs.i hn t_lcur) _ _ q1) [0, 1, 2, 5, 6] 10 rfl rfl rfl rfl) ?_
  have kx_s1 := (keep_take q1).1.trans kx_s
  have kt_s1 := (keep_take q1).2.trans kt_s
  have g1 := (Sim.take (m := 32) hL t_lcur 2).gd hs (by omega) q1
  have hi1 := g1.i
  obtain ⟨K, hK⟩ : ∃ K : List IT → RM RC, (fun is : List IT => takeR L t_rcur >>= fun _ => pure (⟨w, ps, is⟩ : RC)) = K := ⟨_, rfl⟩
  replace hT : (itemsR L (L.length - s1.i + 1) [] >>= K) s1 = (v, st') := by rw [← hK]; exact hT
  repeat' (first | refine qgs ?_ | refine eD ?_ ?_ <;> intro)
  refine ex_loop (X := RSt × List EX × List TY × List IT × Nat) (fun ⟨s, xl, tl, l, _⟩ => ⟨[(0, .o P0), (2, .o (.c (.ptr 7 0))), (4, .o (.c (.ptr 8 0)))], [(0, Rz L s 1 2 11 12), (3, .dead), (4, .dead), (7, .obj [.d (ds ⟨#[]⟩), .d dnil, .d dnil]), (8, .obj [.d (ds (bs w)), .row 9, .row 10]), (9, .row 1 9 (ps.map fun p => [ds (bs p)])), (10, .row 9 155 (l.map itD)), (11, Xr xl), (12, Tr tl)], 13⟩) (fun y => y.2.2.2.2)
   (fun ⟨s, xl, tl, l, n⟩ => Gd L 32 3 940 s ∧ s.xs = xl ∧ s.ts = tl ∧ (s.err = 0 → L.length < s.i + n ∧ l.length ≤ s.i) ∧ l.length ≤ L.length + 1 ∧ (itemsR L n l >>= K) s = (v, st')) (s1, st.xs, st.ts, [], L.length - s1.i + 1) ⟨g1.le (by omega) (by omega), kx_s1, kt_s1, fun _ => ⟨by omega, Nat.zero_le _⟩, Nat.zero_le _, hT⟩ ?_ ?_
  ·exact SLe.thru (SLe.ownCell 8 2 10 9 155 rfl rfl rfl rfl rfl rfl) (sR [(0, 0), (1, 1), (2, 2), (3, 3), (4, 4), (7, 7), (8, 8), (9, 9), (10, 10), (5, 11), (6, 12)])
  clear hT q1 g1 hi1 kx_s1 kt_s1 hs kx_s kt_s
  rintro ⟨s, xl, tl, l, n⟩ ⟨hs, kx_s, kt_s, hf, hcl, hT⟩
  have hsi := hs.i
  have h10 := hs.e
  have hnm := rnamed_c s hsi
  have hpk := ris_c s hsi w_pack
  by_cases he : s.err = 0
  ·obtain ⟨hf, hll⟩ := hf he
   cases n with
   | zero => omega
   | succ n =>
    rw [itemsR] at hT
    replace hT := gdRyB hT he
    have hs0 := hs.fresh he 400
    rcases hv : isV L s.i w_pack with _ | _ <;> rw [hv] at hpk
    ·rcases hb : namedV L s.i with _ | _ <;> rw [hb] at hnm
     ·replace hT := atRnB hT (by rw [hv, hb]; rfl)
      replace hT : K l s = (v, st') := hT
      rw [← hK] at hT
      replace hT : (takeR L t_rcur >>= fun _ => pure (⟨w, ps, l⟩ : RC)) s = (v, st') := hT
      repeat' (first | refine qgs ?_ | refine eD ?_ ?_ <;> intro)
      refine sC (CallsM.ren (hnm) [0, 1, 2, 11, 12] 13 rfl rfl rfl rfl) ?_
      repeat' (first | refine qgs ?_ | refine eD ?_ ?_ <;> intro)
      refine sC (CallsM.ren (hpk) [0, 1, 2, 11, 12] 13 rfl rfl rfl rfl) ?_
      repeat' (first | refine qgs ?_ | refine eD ?_ ?_ <;> intro)
      rcases q1 : (takeR L t_rcur) (s) with ⟨_, s1⟩
      replace hT := (rand q1).symm.trans hT
      refine sC (CallsM.ren ((rtake_c s hsi hn t_rcur) _ _ q1) [0, 1, 2, 11, 12] 13 rfl rfl rfl rfl) ?_
      have kx_s1 := (keep_take q1).1.trans kx_s
      have kt_s1 := (keep_take q1).2.trans kt_s
      obtain rfl : (⟨w, ps, l⟩ : RC) = v := congrArg Prod.fst hT
      obtain rfl : s1 = st' := congrArg Prod.snd hT
      repeat' (first | refine qgs ?_ | refine eD ?_ ?_ <;> intro)
      subst kx_s1
      subst kt_s1
      exact ⟨rfl, TLe.rfl, rfl, rfl⟩
     ·replace hT := atRyB hT (by rw [hv, hb]; rfl)
      replace hT : (roomR l.length >>= fun _ => atR (isV L · w_pack) (packR L) (fieldR L) >>= fun x => itemsR L n (l ++ [x]) >>= K) s = (v, st') := hT
      repeat' (first | refine qgs ?_ | refine eD ?_ ?_ <;> intro)
      refine sC (CallsM.ren (hnm) [0, 1, 2, 11, 12] 13 rfl rfl rfl rfl) ?_
      repeat' (first | refine qgs ?_ | refine eD ?_ ?_ <;> intro)
      refine sC (CallsM.ren (hpk) [0, 1, 2, 11, 12] 13 rfl rfl rfl rfl) ?_
      repeat' (first | refine ex_is l.length (by simp) ?_ | refine qg1 ?_ | refine eD ?_ ?_ <;> intro)
      rcases q1 : (roomR l.length) (s) with ⟨_, s1⟩
      replace hT := (rand q1).symm.trans hT
      refine sC (CallsM.ren ((rroom_c s l.length (by omega)) _ _ q1) [0, 1, 2, 11, 12] 13 rfl rfl rfl rfl) ?_
      have kx_s1 := (keep_room q1).1.trans kx_s
      have kt_s1 := (keep_room q1).2.trans kt_s
      have g1 := (Sim.room (L := L) (m := 32) l.length 3).gd hs0 (by omega) q1
      have i1 := room_i q1
      have hv1 : isV L s1.i w_pack = false := by rw [i1]; exact hv
      replace hT := atRnB hT hv1
      repeat' (first | refine qgs ?_ | refine eD ?_ ?_ <;> intro)
      rcases q2 : (fieldR L) (s1) with ⟨x, s2⟩
      replace hT := (rand q2).symm.trans hT
      refine sC (CallsM.ren ((rfield_c hL hE hn s1 (g1.le (by omega) (by omega))) _ _ q2 _ _ kx_s1 kt_s1) [0, 1, 2, 11, 12] 14 rfl rfl rfl rfl) ?_
      have kx_s2 : s2.xs = s2.xs := rfl
      have kt_s2 : s2.ts = s2.ts := rfl
      have q2' : atR (isV L · w_pack) (packR L) (fieldR L) s1 = (x, s2) := by unfold atR; rw [if_neg (show ¬ isV L s1.i w_pack = true by rw [hv1]; decide)]; exact q2
      have hsim := (sim_packAt (m := 32) hL (sim_field hL hE)).less (a' := 3) (b' := 3) 3 (by omega) (by omega)
      have g2 := hsim.gd g1 (by omega) q2'
      have hgrow : s2.err = 0 → s.i + 1 ≤ s2.i := fun h2 => by
       have := hsim.grow1 mo_packAt g1 q2' h2
       omega
      have hlc : (l ++ [x]).length = l.length + 1 := by simp
      clear q2 q2' hsim
      repeat' (first | refine qgs ?_ | refine eD ?_ ?_ <;> intro)
      refine ex_app (l.length) (1) 1000 (by first | rfl | (simp; done) | (simp; omega)) (by first | rfl | (simp; done) | (simp; omega)) rfl (by omega) ?_
      refine ex_is (List.map itD (l ++ [x])) (by rw [List.map_append]; rfl) ?_
      repeat' (first | refine qgs ?_ | refine eD ?_ ?_ <;> intro)
      exact ex_round (s2, s2.xs, s2.ts, l ++ [x], n) ⟨g2.le (by omega) (by omega), rfl, rfl, fun h => ⟨by have := hgrow h; omega, by rw [hlc]; have := hgrow h; omega⟩, by rw [hlc]; omega, hT⟩ (by show n < n + 1; omega) (sR [(0, 0), (1, 1), (2, 2), (3, 3), (4, 4), (7, 7), (8, 8), (9, 9), (17, 10), (14, 11), (15, 12)])
    ·replace hT := atRyB hT (by rw [hv]; rfl)
     replace hT : (roomR l.length >>= fun _ => atR (isV L · w_pack) (packR L) (fieldR L) >>= fun x => itemsR L n (l ++ [x]) >>= K) s = (v, st') := hT
     obtain ⟨b, hb⟩ : ∃ b, namedV L s.i = b := ⟨_, rfl⟩
     rw [hb] at hnm
     cases b
     all_goals
      repeat' (first | refine qgs ?_ | refine eD ?_ ?_ <;> intro)
      refine sC (CallsM.ren (hnm) [0, 1, 2, 11, 12] 13 rfl rfl rfl rfl) ?_
      repeat' (first | refine qgs ?_ | refine eD ?_ ?_ <;> intro)
      refine sC (CallsM.ren (hpk) [0, 1, 2, 11, 12] 13 rfl rfl rfl rfl) ?_
      repeat' (first | refine ex_is l.length (by simp) ?_ | refine qg1 ?_ | refine eD ?_ ?_ <;> intro)
      rcases q1 : (roomR l.length) (s) with ⟨_, s1⟩
      replace hT := (rand q1).symm.trans hT
      refine sC (CallsM.ren ((rroom_c s l.length (by omega)) _ _ q1) [0, 1, 2, 11, 12] 13 rfl rfl rfl rfl) ?_
      have kx_s1 := (keep_room q1).1.trans kx_s
      have kt_s1 := (keep_room q1).2.trans kt_s
      have g1 := (Sim.room (L := L) (m := 32) l.length 3).gd hs0 (by omega) q1
      have i1 := room_i q1
      have hv1 : isV L s1.i w_pack = true := by rw [i1]; exact hv
      replace hT := atRyB hT hv1
      repeat' (first | refine qgs ?_ | refine eD ?_ ?_ <;> intro)
      rcases q2 : (packR L) (s1) with ⟨x, s2⟩
      replace hT := (rand q2).symm.trans hT
      refine sC (CallsM.ren ((rpack_c (m := 32) hL hn hq s1 (g1.le (by omega) (by omega)) hv1) _ _ q2) [0, 1, 2, 11, 12] 14 rfl rfl rfl rfl) ?_
      have kx_s2 := (keep_pack q2).1.trans kx_s1
      have kt_s2 := (keep_pack q2).2.trans kt_s1
      have q2' : atR (isV L · w_pack) (packR L) (fieldR L) s1 = (x, s2) := by unfold atR; rw [if_pos hv1]; exact q2
      have hsim := (sim_packAt (m := 32) hL (sim_field hL hE)).less (a' := 3) (b' := 3) 3 (by omega) (by omega)
      have g2 := hsim.gd g1 (by omega) q2'
      have hgrow : s2.err = 0 → s.i + 1 ≤ s2.i := fun h2 => by
       have := hsim.grow1 mo_packAt g1 q2' h2
       omega
      have hlc : (l ++ [x]).length = l.length + 1 := by simp
      clear q2 q2' hsim
      repeat' (first | refine qgs ?_ | refine eD ?_ ?_ <;> intro)
      refine ex_app (l.length) (1) 1000 (by first | rfl | (simp; done) | (simp; omega)) (by first | rfl | (simp; done) | (simp; omega)) rfl (by omega) ?_
      refine ex_is (List.map itD (l ++ [x])) (by rw [List.map_append]; rfl) ?_
      repeat' (first | refine qgs ?_ | refine eD ?_ ?_ <;> intro)
      exact ex_round (s2, xl, tl, l ++ [x], n) ⟨g2.le (by omega) (by omega), kx_s2, kt_s2, fun h => ⟨by have := hgrow h; omega, by rw [hlc]; have := hgrow h; omega⟩, by rw [hlc]; omega, hT⟩ (by show n < n + 1; omega) (sR [(0, 0), (1, 1), (2, 2), (3, 3), (4, 4), (7, 7), (8, 8), (9, 9), (15, 10), (11, 11), (12, 12)])
  ·replace hT := (rand (itemsR_err he n l)).symm.trans hT
   rw [← hK] at hT
   replace hT : (takeR L t_rcur >>= fun _ => pure (⟨w, ps, l⟩ : RC)) s = (v, st') := hT
   repeat' (first | refine qgs ?_ | refine eD ?_ ?_ <;> intro)
   rcases q1 : (takeR L t_rcur) (s) with ⟨_, s1⟩
   replace hT := (rand q1).symm.trans hT
   refine sC (CallsM.ren ((rtake_c s hsi hn t_rcur) _ _ q1) [0, 1, 2, 11, 12] 13 rfl rfl rfl rfl) ?_
   have kx_s1 := (keep_take q1).1.trans kx_s
   have kt_s1 := (keep_take q1).2.trans kt_s
   obtain rfl : (⟨w, ps, l⟩ : RC) = v := congrArg Prod.fst hT
   obtain rfl : s1 = st' := congrArg Prod.snd hT
   repeat' (first | refine qgs ?_ | refine eD ?_ ?_ <;> intro)
   subst kx_s1
   subst kt_s1
   exact ⟨rfl, TLe.rfl, rfl, rfl⟩
end
end Go.Proofs.YtoingpafcodojaaGreatDoor

namespace Go.Proofs.YtoingpafcodojaaGreatDoor
open Go.RowKit

theorem tb_eq {x y : Bool} (h : x = true ↔ y = true) : Tb x = Tb y := congrArg Tb (Bool.eq_iff_iff.2 h)
theorem rdigit_c (b : UInt8) : CallsA Tryz.prog Γ0 63 [c1 (.v (.int .u8 b.toNat))] (Tb (isDig b)) := by
 have e : isDig b = true ↔ (48 : Int) ≤ b.toNat ∧ (b.toNat : Int) ≤ 57 := by
  simp only [isDig, Bool.and_eq_true, decide_eq_true_eq]; omega
 refine fn_rule (C := ⟨Tryz.prog, layF, Tryz.f63.ntmps, Γ0, 0, [], []⟩) layF_ok mixed Tryz.func63 rfl (by kernel_rfl) rfl rfl rfl ?_
 refine ex_dec (fun h => ?_) (fun h => ?_)
 ·refine ex_dec (fun h2 => ?_) (fun h2 => ?_)
  ·exact TLe.eq (tb_eq (by rw [e]; simp; omega))
  ·exact TLe.eq (tb_eq (by rw [e]; simp; omega))
 ·exact TLe.eq (tb_eq (by rw [e]; simp; omega))
theorem rletter_c (b : UInt8) : CallsA Tryz.prog Γ0 64 [c1 (.v (.int .u8 b.toNat))] (Tb (isLet b)) := by
 have e : isLet b = true ↔ ((65 : Int) ≤ b.toNat ∧ (b.toNat : Int) ≤ 90) ∨ (((97 : Int) ≤ b.toNat ∧ (b.toNat : Int) ≤ 122) ∨ (b.toNat : Int) = 95) := by
  simp only [isLet, Bool.and_eq_true, Bool.or_eq_true, decide_eq_true_eq]; omega
 refine fn_rule (C := ⟨Tryz.prog, layF, Tryz.f64.ntmps, Γ0, 0, [], []⟩) layF_ok mixed Tryz.func64 rfl (by kernel_rfl) rfl rfl rfl ?_
 all_goals repeat' (refine ex_dec (fun _ => ?_) (fun _ => ?_))
 all_goals exact TLe.eq (tb_eq (by rw [e]; simp; omega))
def hexI (b : UInt8) : Int := if isHex b then (hexN b : Nat) else -1
theorem rhex_c (b : UInt8) : CallsA Tryz.prog Γ0 86 [c1 (.v (.int .u8 b.toNat))] (Ti (hexI b)) := by
 have hb := b.toNat_lt
 have e : isHex b = true ↔ ((48 : Int) ≤ b.toNat ∧ (b.toNat : Int) ≤ 57) ∨ (((97 : Int) ≤ b.toNat ∧ (b.toNat : Int) ≤ 102) ∨ ((65 : Int) ≤ b.toNat ∧ (b.toNat : Int) ≤ 70)) := by
  simp only [isHex, isDig, Bool.and_eq_true, Bool.or_eq_true, decide_eq_true_eq]; omega
 refine fn_rule (C := ⟨Tryz.prog, layF, Tryz.f86.ntmps, Γ0, 0, [], []⟩) layF_ok mixed Tryz.func86 rfl (by kernel_rfl) rfl rfl rfl ?_
 have fin : ∀ {n : Int}, n = hexI b → TLe (Ti n) (Ti (hexI b)) := fun e => TLe.eq (congrArg Ti e)
 repeat' (first | refine qgs ?_ | refine eD ?_ ?_ <;> intro)
 all_goals (refine fin ?_; unfold hexI hexN; split <;> rename_i h0 <;> (first | rw [e] at h0 | skip) <;> (try split) <;> (try split) <;> omega)
def tvV : Option Nat → TV
 | some n => .tup [c1 (du n), c1 (di 0)]
 | none => .tup [c1 (du 0), c1 (di 5)]
theorem div_room {base d : Nat} (hb : 0 < base) (hd : d ≤ 18446744073709551615) (n : Nat) : (18446744073709551615 - d) / base < n ↔ 18446744073709551616 ≤ n * base + d := by
 rw [Nat.div_lt_iff_lt_mul hb]
 omega
theorem div_int (d base : Nat) (hd : d ≤ 18446744073709551615) : ((18446744073709551615 : Int) - (d : Nat)).tdiv (base : Nat) = ((18446744073709551615 - d) / base : Nat) := by
 rw [show (18446744073709551615 : Int) - (d : Nat) = ((18446744073709551615 - d : Nat) : Int) by omega]
 rfl
theorem rvalue_c (base : Nat) (hb : base = 10 ∨ base = 16) (l : List UInt8) (hl : l.length ≤ 16384) (hh : ∀ b ∈ l, isHex b = true ∧ hexN b < base) :
  CallsA Tryz.prog Γ0 87 [c1 (ds (bs l)), c1 (du base)] (tvV (valF base 0 l)) := by
 obtain ⟨R, hR⟩ : ∃ R, valF base 0 l = R := ⟨_, rfl⟩
 rw [hR]
 have hsz := bs_size l
 have hb0 : 0 < base := by omega
 refine fn_rule (C := ⟨Tryz.prog, layF, Tryz.f87.ntmps, Γ0, 0, [], []⟩) layF_ok mixed Tryz.func87 rfl (by kernel_rfl) rfl rfl rfl ?_
 refine ex_loop (X := Nat × Nat) (fun ⟨q, n⟩ => ⟨[(0, Tstr (bs l)), (1, Tu base), (6, Tu n), (7, Ti q)], [], 0⟩) (fun x => l.length - x.1) (fun ⟨q, n⟩ => q ≤ l.length ∧ n < 18446744073709551616 ∧ valF base n (l.drop q) = R) (0, 0) ⟨Nat.zero_le _, by decide, hR⟩ sS ?_
 rintro ⟨q, n⟩ ⟨hq, hn, hv⟩
 refine ex_dec (fun h => ?_) (fun h => ?_)
 ·have hql : q < l.length := by omega
  have hc : l[q]? = some l[q] := at_some hql
  have hm : l[q] ∈ l := List.getElem_mem hql
  rw [List.drop_eq_getElem_cons hql, valF] at hv
  generalize l[q] = c at *
  obtain ⟨h1, h2⟩ := hh c hm
  have hx : hexI c = (hexN c : Nat) := by unfold hexI; rw [if_pos h1]
  refine ex_chr q c rfl hc ?_
  refine ex_call (rhex_c c) ?_
  rw [hx]
  have hd := div_room (d := hexN c) hb0 (by omega) n
  generalize hz : (18446744073709551615 - hexN c) / base = z at hd
  repeat' (first | refine qgs ?_ | refine eD ?_ ?_ <;> intro)
  refine ex_u64 (z : Int) (by rw [div_int _ _ (by omega), hz]) (by omega) (by have := Nat.div_le_self (18446744073709551615 - hexN c) base; omega) ?_
  refine ex_dec (fun h3 => ?_) (fun h3 => ?_)
  ·rw [if_neg (by omega)] at hv
   subst hv
   repeat' (first | refine qgs ?_ | refine eD ?_ ?_ <;> intro)
   exact TLe.rfl
  ·rw [if_pos (by omega)] at hv
   refine ex_u64 ((n * base : Nat) : Int) (Int.natCast_mul n base).symm (by omega) (by omega) ?_
   refine aU ((n * base + hexN c : Nat) : Int) ?_
   repeat' (first | refine qgs ?_ | refine eD ?_ ?_ <;> intro)
   exact ex_round (q + 1, n * base + hexN c) ⟨by omega, by omega, hv⟩ (by show _ - _ < _ - _; omega) sS
 ·rw [List.drop_eq_nil_of_le (by omega), valF] at hv
  subst hv
  repeat' (first | refine qgs ?_ | refine eD ?_ ?_ <;> intro)
  exact TLe.rfl
end Go.Proofs.YtoingpafcodojaaGreatDoor

namespace Go.Proofs.YtoingpafcodojaaGreatDoor
open Go.RowKit

theorem val_ok {s : List UInt8} {base : Nat} (h : ∀ b ∈ s, isHex b = true ∧ hexN b < base) (hb : base = 10 ∨ base = 16) (hl : s.length ≤ 16384) : CallsA Tryz.prog Γ0 87 [c1 (ds (bs s)), c1 (du base)] (tvV (valF base 0 s)) := rvalue_c base hb s hl h
theorem dig_hex {b : UInt8} (h : isDig b = true) : isHex b = true ∧ hexN b < 10 := by
 have h2 := hex_bound b
 have h3 : isHex b = true := by unfold isHex; rw [h]; rfl
 rw [h3, h] at h2
 simp at h2
 exact ⟨h3, by omega⟩
theorem rnumber_c (s : List UInt8) (hl : s.length ≤ 16384) (h0 : s ≠ []) : CallsA Tryz.prog Γ0 65 [c1 (ds (bs s))] (tvT (numF s)) := by
 have hsz := bs_size s
 obtain ⟨pf, hpf⟩ : ∃ pf, (decide (2 < s.length) && [48, 120].isPrefixOf s) = pf := ⟨_, rfl⟩
 have h6 : sixteen s = (pf && ((s.take s.length).drop 2).all isHex) := by
  rw [← hpf, List.take_length]
  unfold sixteen
  rw [← Bool.and_assoc, Bool.and_comm (decide _) (List.isPrefixOf _ _)]
 have hten : s.all isDig = (s.take s.length).all isDig := by rw [List.take_length]
 have hval16 : sixteen s = true → CallsA Tryz.prog Γ0 87 [c1 (ds (bs (s.drop 2))), c1 (du 16)] (tvV (valF 16 0 (s.drop 2))) := fun h => val_ok (base := 16) (fun b hb => by
  have h7 := h
  unfold sixteen at h7
  simp only [Bool.and_eq_true, decide_eq_true_eq] at h7
  have h1 := List.all_eq_true.1 h7.2.2 b hb
  have h2 := hex_bound b
  rw [h1] at h2
  simp at h2
  exact ⟨h1, h2.1⟩) (.inr rfl) (by rw [List.length_drop]; omega)
 have hval10 : s.all isDig = true → CallsA Tryz.prog Γ0 87 [c1 (ds (bs s)), c1 (du 10)] (tvV (valF 10 0 s)) := fun h => val_ok (base := 10) (fun b hb => dig_hex (List.all_eq_true.1 h b hb)) (.inl rfl) hl
 unfold numF
 refine fn_rule (C := ⟨Tryz.prog, layF, Tryz.f65.ntmps, Γ0, 0, [], [2]⟩) layF_ok mixed Tryz.func65 rfl (by kernel_rfl) rfl rfl rfl ?_
 refine ex_join (X := Bool) (fun p => ⟨[(0, Tstr (bs s)), (2, .o (.c (.ptr 0 0))), (4, Tb p)], [(0, .obj [.d (di 0), .d (ds (bs [])), .d (du 0), .d (di 0), .d (di 0)])], 1⟩) (fun p => p = pf) ?_ ?_
 ·by_cases h2 : 2 < s.length
  ·obtain ⟨a, b, c, r, rfl⟩ : ∃ a b c r, s = a :: b :: c :: r := by
    match s, h2 with
    | a :: b :: c :: r, _ => exact ⟨a, b, c, r, rfl⟩
   have ha : (bs (a :: b :: c :: r)).data.toList[0]? = some a := rfl
   have hb : (bs (a :: b :: c :: r)).data.toList[1]? = some b := rfl
   have e1 : pf = (decide ((a.toNat : Int) = 48) && decide ((b.toNat : Int) = 120)) := by
    rw [← hpf, decide_eq_true h2, Bool.true_and]
    have hA : (48 == a) = decide ((a.toNat : Int) = 48) := Bool.eq_iff_iff.2 (by rw [beq_iff_eq, decide_eq_true_eq]; exact ⟨fun e => by rw [← e]; rfl, fun e => (UInt8.toNat_inj.1 (Int.ofNat_inj.1 e)).symm⟩)
    have hB : (120 == b) = decide ((b.toNat : Int) = 120) := Bool.eq_iff_iff.2 (by rw [beq_iff_eq, decide_eq_true_eq]; exact ⟨fun e => by rw [← e]; rfl, fun e => (UInt8.toNat_inj.1 (Int.ofNat_inj.1 e)).symm⟩)
    show (48 == a && (120 == b && true)) = _
    rw [hA, hB, Bool.and_true]
   repeat' (first | refine (ex_chr 1 b rfl hb) ?_ | refine (ex_chr 0 a rfl ha) ?_ | refine qg1 ?_ | refine eD ?_ ?_ <;> intro)
   all_goals first
    | exact ex_meet true (by rw [e1]; simp; omega) sS
    | exact ex_meet false (by rw [e1]; simp; omega) sS
  ·repeat' (first | refine qgs ?_ | refine eD ?_ ?_ <;> intro)
   exact ex_meet false (by rw [← hpf, decide_eq_false h2]; rfl) sS
 ·intro p hp
  rw [← hp] at h6 hpf
  clear hp
  repeat' (first | refine qgs ?_ | refine eD ?_ ?_ <;> intro)
  refine ex_loop (X := Nat × Bool × Bool) (fun ⟨q, x, y⟩ => ⟨[(0, Tstr (bs s)), (2, .o (.c (.ptr 0 0))), (4, Tb x), (5, Tb y), (6, Ti q)], [(0, .obj [.d (di 0), .d (ds (bs [])), .d (du 0), .d (di 0), .d (di 0)])], 1⟩) (fun x => s.length - x.1)
   (fun ⟨q, x, y⟩ => q ≤ s.length ∧ x = (p && ((s.take q).drop 2).all isHex) ∧ y = (s.take q).all isDig) (0, p, true) ⟨Nat.zero_le _, by simp, rfl⟩ sS ?_
  rintro ⟨q, x, y⟩ ⟨hq, hx, hy⟩
  refine ex_dec (fun h => ?_) (fun h => ?_)
  ·have hql : q < s.length := by omega
   have hc : s[q]? = some s[q] := at_some hql
   have htk : s.take (q + 1) = s.take q ++ [s[q]] := by rw [List.take_add_one, hc]; rfl
   have hlen : (s.take q).length = q := by rw [List.length_take]; omega
   have hd2 : ((s.take (q + 1)).drop 2).all isHex = if 1 < q then (((s.take q).drop 2).all isHex && isHex s[q]) else true := by
    rw [htk]
    split
    ·rw [List.drop_append_of_le_length (by omega), List.all_append]; simp
    ·rw [List.drop_eq_nil_of_le (by rw [List.length_append, hlen]; simp; omega)]; rfl
   have hd2' : ¬ 1 < q → ((s.take q).drop 2).all isHex = true := fun h => by rw [List.drop_eq_nil_of_le (by omega)]; rfl
   have hall : (s.take (q + 1)).all isDig = ((s.take q).all isDig && isDig s[q]) := by rw [htk, List.all_append]; simp
   generalize s[q] = c at *
   have hdg := rdigit_c c
   have hhx := rhex_c c
   have hI : hexI c = if isHex c then ((hexN c : Nat) : Int) else -1 := rfl
   generalize hexI c = z at *
   rcases hD : isDig c with _ | _ <;> rw [hD] at hdg hall <;> rcases hH : isHex c with _ | _ <;> rw [hH] at hI hd2 <;> simp only [if_true, if_false, Bool.false_eq_true] at hI
   all_goals
    repeat' (first | refine ex_call hhx ?_ | refine ex_call hdg ?_ | refine aI ((q + 1 : Nat) : Int) ?_ | refine aU ((q + 1 : Nat) : Int) ?_ | refine aB ((q + 1 : Nat) : Int) ?_ | refine (ex_chr q c rfl hc) ?_ | refine qg1 ?_ | refine eD ?_ ?_ <;> intro)
    all_goals
     rename_i h1q
     first
     | (rw [if_pos (by omega)] at hd2; exact ex_round (q + 1, _, _) ⟨by omega, by rw [hd2]; simp [hx], by rw [hall]; simp [hy]⟩ (by show _ - _ < _ - _; omega) (SLe.of ⟨⟨rfl, rfl, rfl, rfl, rfl, trivial⟩, ⟨rfl, trivial⟩⟩))
     | (rw [if_neg (by omega)] at hd2; exact ex_round (q + 1, _, _) ⟨by omega, by rw [hd2]; simp [hx, hd2' (by omega)], by rw [hall]; simp [hy]⟩ (by show _ - _ < _ - _; omega) (SLe.of ⟨⟨rfl, rfl, rfl, rfl, rfl, trivial⟩, ⟨rfl, trivial⟩⟩))
  ·have hq' : q = s.length := by omega
   subst hq'
   rw [← h6] at hx
   rw [← hten] at hy
   rcases h16 : sixteen s with _ | _ <;> rw [h16] at hx <;> subst hx
   ·rcases h10 : s.all isDig with _ | _ <;> rw [h10] at hy <;> subst hy
    ·repeat' (first | refine qgs ?_ | refine eD ?_ ?_ <;> intro)
     exact TLe.rfl
    ·have hv := hval10 h10
     cases he : valF 10 0 s with
     | none =>
      rw [he] at hv
      repeat' (first | refine ex_call hv ?_ | refine qg1 ?_ | refine eD ?_ ?_ <;> intro)
      exact TLe.rfl
     | some n =>
      rw [he] at hv
      repeat' (first | refine ex_call hv ?_ | refine qg1 ?_ | refine eD ?_ ?_ <;> intro)
      exact TLe.rfl
   ·have hv := hval16 h16
    have h2l : 2 ≤ s.length := by
     unfold sixteen at h16
     simp only [Bool.and_eq_true, decide_eq_true_eq] at h16
     omega
    have hex2 : (bs s).extract (Int.toNat 2) ((bs s).size : Int).toNat = bs (s.drop 2) := ext_drop s 2 h2l
    cases he : valF 16 0 (s.drop 2) with
    | none =>
     rw [he] at hv
     repeat' (first | refine qgs ?_ | refine eD ?_ ?_ <;> intro)
     rw [hex2]
     repeat' (first | refine ex_call hv ?_ | refine qg1 ?_ | refine eD ?_ ?_ <;> intro)
     exact TLe.rfl
    | some n =>
     rw [he] at hv
     repeat' (first | refine qgs ?_ | refine eD ?_ ?_ <;> intro)
     rw [hex2]
     repeat' (first | refine ex_call hv ?_ | refine qg1 ?_ | refine eD ?_ ?_ <;> intro)
     exact TLe.rfl
def optN : Option (List UInt8) → Nat
 | some t => t.length
 | none => 0
theorem bs_inj {a b : List UInt8} : bs a = bs b ↔ a = b := ⟨fun h => by have := congrArg (fun x : ByteArray => x.data.toList) h; simpa using this, fun h => by rw [h]⟩
def ones : List UInt8 := [123, 125, 40, 41, 91, 93, 59, 58, 44, 61, 60, 62, 43, 45, 42, 47, 37, 38, 124, 33]
theorem pre_two {t r : List UInt8} (ht : t.length = 2) (hr : 1 < r.length) : t.isPrefixOf r = true ↔ t = r.take 2 := by
 match t, r, ht, hr with
 | [x, x'], a :: b :: y, _, _ => simp [List.isPrefixOf]
theorem pre_short {t r : List UInt8} (ht : t.length = 2) (hr : r.length ≤ 1) : t.isPrefixOf r = false := by
 match t, r, ht, hr with
 | [x, x'], [], _, _ => rfl
 | [x, x'], [a], _, _ => simp [List.isPrefixOf]
theorem rsign_c (r : List UInt8) (h0 : r ≠ []) (hl : r.length ≤ 16384) : CallsA Tryz.prog Γ0 66 [c1 (ds (bs r))] (Ti (optN (signF r) : Nat)) := by
 have hsz := bs_size r
 obtain ⟨N, hN⟩ : ∃ N, optN (signF r) = N := ⟨_, rfl⟩
 rw [hN]
 have hpos := List.length_pos_iff.2 h0
 have two : ∀ q, q < 9 → (signsL.take 9)[q]? = some (signsL.getD q []) ∧ (signsL.getD q []).length = 2 ∧ signsL.drop q = signsL.getD q [] :: signsL.drop (q + 1) := by decide
 have one : ∀ q, q < 20 → ones[q]? = some (ones.getD q 0) ∧ signsL.drop (9 + q) = [ones.getD q 0] :: signsL.drop (9 + (q + 1)) := by decide
 have two' : ∀ t ∈ signsL.take 9, t.length = 2 := by decide
 have hshort : r.length ≤ 1 → signsL.find? (·.isPrefixOf r) = (signsL.drop 9).find? (·.isPrefixOf r) := fun h => by
  conv => lhs; rw [← List.take_append_drop 9 signsL]
  rw [List.find?_append, List.find?_eq_none.2 (fun t ht => by rw [pre_short (two' t ht) h]; decide), Option.none_or]
 have hE2 : (bs r).extract (Int.toNat 0) (Int.toNat 2) = bs (r.take 2) := ext_take r 2
 refine fn_rule (C := ⟨Tryz.prog, layF, Tryz.f66.ntmps, Γ0, 0, [], [7]⟩) layF_ok mixed Tryz.func66 rfl (by kernel_rfl) rfl rfl rfl ?_
 refine ex_join (X := Nat) (fun _ => ⟨[(0, Tstr (bs r))], [], 0⟩) (fun _ => optN ((signsL.drop 9).find? (·.isPrefixOf r)) = N) ?_ ?_
 ·repeat' (first | refine qgs ?_ | refine eD ?_ ?_ <;> intro)
  refine ex_loop (X := Nat) (fun q => ⟨[(0, Tstr (bs r)), (3, .o (c1 (.sl 1 ((signsL.take 9).map fun t => [ds (bs t)])))), (4, Ti q)], [], 1⟩) (fun q => 9 - q) (fun q => q ≤ 9 ∧ (q = 0 ∨ 1 < r.length) ∧ optN ((signsL.drop q).find? (·.isPrefixOf r)) = N) 0 ⟨by decide, .inl rfl, hN⟩ (SLe.trans sS (SLe.still 0 1 9 _ rfl)) ?_
  rintro q ⟨hq, hq1, hs⟩
  refine ex_is 9 rfl ?_
  refine ex_dec (fun h => ?_) (fun h => ?_)
  ·have hql : q < 9 := by omega
   obtain ⟨hc, ht2, hdr⟩ := two q hql
   rw [hdr, List.find?_cons] at hs
   generalize signsL.getD q [] = t at *
   by_cases h1 : 1 < r.length
   ·have hpt := pre_two ht2 h1
    refine ex_true (by omega) ?_
    refine ex_row q t rfl hc ?_
    rcases hp : t.isPrefixOf r with _ | _
    ·rw [hp] at hs
     have hne : ¬ bs t = (bs r).extract (Int.toNat 0) (Int.toNat 2) := fun e => by
      rw [hE2] at e
      have := hpt.2 (bs_inj.1 e)
      rw [hp] at this
      cases this
     repeat' (first | refine aI ((q + 1 : Nat) : Int) ?_ | refine aU ((q + 1 : Nat) : Int) ?_ | refine aB ((q + 1 : Nat) : Int) ?_ | refine qg1 ?_ | refine eD ?_ ?_ <;> intro)
     exact ex_round (q + 1) ⟨by omega, .inr h1, hs⟩ (by show _ - _ < _ - _; omega) sS
    ·rw [hp] at hs
     have heq : bs t = (bs r).extract (Int.toNat 0) (Int.toNat 2) := by rw [hE2]; exact bs_inj.2 (hpt.1 hp)
     have hs2 : N = 2 := by rw [← hs, ← ht2]; rfl
     subst hs2
     repeat' (first | refine qgs ?_ | refine eD ?_ ?_ <;> intro)
     exact TLe.rfl
   ·refine ex_false (by omega) ?_
    have hq0 : q = 0 := by omega
    subst hq0
    have hs' : optN ((signsL.drop 9).find? (·.isPrefixOf r)) = N := by rw [← hshort (by omega)]; exact hN
    exact ex_meet 0 hs' sS
  ·have hq9 : q = 9 := by omega
   subst hq9
   exact ex_meet 0 hs sS
 ·rintro - hq
  repeat' (first | refine qgs ?_ | refine eD ?_ ?_ <;> intro)
  refine ex_loop (X := Nat) (fun q => ⟨[(0, Tstr (bs r)), (5, Tstr (bs ones)), (6, Ti q)], [], 0⟩) (fun q => 20 - q) (fun q => q ≤ 20 ∧ optN ((signsL.drop (9 + q)).find? (·.isPrefixOf r)) = N) 0 ⟨by decide, hq⟩ sS ?_
  rintro q ⟨hq, hs⟩
  have hos : (bs ones).size = 20 := rfl
  refine ex_dec (fun h => ?_) (fun h => ?_)
  ·have hql : q < 20 := by omega
   obtain ⟨hc, hdr⟩ := one q hql
   rw [hdr, List.find?_cons] at hs
   generalize ones.getD q 0 = c at *
   obtain ⟨a, y, rfl⟩ : ∃ a y, r = a :: y := by rcases r with _ | ⟨a, y⟩; exact absurd rfl h0; exact ⟨a, y, rfl⟩
   have ha : (bs (a :: y)).data.toList[0]? = some a := rfl
   have hpe : [c].isPrefixOf (a :: y) = decide ((c.toNat : Int) = (a.toNat : Int)) := Bool.eq_iff_iff.2 (by
    rw [decide_eq_true_eq]
    show (c == a && true) = true ↔ _
    rw [Bool.and_true, beq_iff_eq]
    exact ⟨fun e => by rw [e], fun e => UInt8.toNat_inj.1 (Int.ofNat_inj.1 e)⟩)
   rw [hpe] at hs
   refine ex_chr q c rfl hc ?_
   refine ex_chr 0 a rfl ha ?_
   refine ex_dec (fun h2 => ?_) (fun h2 => ?_)
   ·rw [decide_eq_true h2] at hs
    have hs2 : N = 1 := hs.symm
    subst hs2
    repeat' (first | refine qgs ?_ | refine eD ?_ ?_ <;> intro)
    exact TLe.rfl
   ·rw [decide_eq_false h2] at hs
    repeat' (first | refine aI ((q + 1 : Nat) : Int) ?_ | refine aU ((q + 1 : Nat) : Int) ?_ | refine aB ((q + 1 : Nat) : Int) ?_ | refine qg1 ?_ | refine eD ?_ ?_ <;> intro)
    exact ex_round (q + 1) ⟨by omega, hs⟩ (by show _ - _ < _ - _; omega) sS
  ·have hq9 : q = 20 := by omega
   subst hq9
   have hs2 : N = 0 := hs.symm
   subst hs2
   exact TLe.rfl
end Go.Proofs.YtoingpafcodojaaGreatDoor

namespace Go.Proofs.YtoingpafcodojaaGreatDoor
open Go.RowKit

theorem tw_get {α} (p : α → Bool) : ∀ (l : List α) (q : Nat) (c : α), l[q]? = some c → q ≤ (l.takeWhile p).length → (q < (l.takeWhile p).length ↔ p c = true)
 | [], q, c, h, _ => by cases h
 | a :: l, 0, c, h, _ => by
  cases h
  rw [List.takeWhile_cons]
  split
  ·rename_i h; simp [h]
  ·rename_i h; simp [h]
 | a :: l, q + 1, c, h, hq => by
  rw [List.takeWhile_cons] at hq ⊢
  split at hq
  ·rename_i ha
   rw [if_pos ha]
   have := tw_get p l q c h (by simpa using hq)
   simp [this]
  ·exact absurd hq (by simp)
set_option maxHeartbeats 2000000 in
theorem rone_c (r : List UInt8) (h0 : r ≠ []) (hl : r.length ≤ 16384) : CallsA Tryz.prog Γ0 44 [c1 (ds (bs r))] (tvT (tokF r)) := by
 have hsz := bs_size r
 obtain ⟨T, hT⟩ : ∃ T, (r.takeWhile alnum).length = T := ⟨_, rfl⟩
 have hdl := drop_len alnum r
 have htl := take_len alnum r
 have htw := tw_get alnum r
 rw [hT] at htw hdl htl
 have hE := ext_take r T
 rw [htl] at hE
 refine fn_rule (C := ⟨Tryz.prog, layF, Tryz.f44.ntmps, Γ0, 0, [], [7]⟩) layF_ok mixed Tryz.func44 rfl (by kernel_rfl) rfl rfl rfl ?_
 refine ex_join (X := Nat) (fun q => ⟨[(0, Tstr (bs r)), (2, .o (.c (.ptr 0 0))), (4, Ti q)], [(0, .obj [.d (di 0), .d (ds (bs [])), .d (du 0), .d (di 0), .d (di 0)])], 1⟩) (fun q => q = T) ?_ ?_
 ·repeat' (first | refine qgs ?_ | refine eD ?_ ?_ <;> intro)
  refine ex_loop (X := Nat) (fun q => ⟨[(0, Tstr (bs r)), (2, .o (.c (.ptr 0 0))), (4, Ti q)], [(0, .obj [.d (di 0), .d (ds (bs [])), .d (du 0), .d (di 0), .d (di 0)])], 1⟩) (fun q => T - q) (fun q => q ≤ T) 0 (Nat.zero_le _) sS ?_
  intro q hq
  refine ex_dec (fun h => ?_) (fun h => ?_)
  ·have hql : q < r.length := by omega
   have hc : r[q]? = some r[q] := at_some hql
   have hw := htw q _ hc hq
   generalize r[q] = c at *
   have hdg := rdigit_c c
   have hlt := rletter_c c
   unfold alnum at hw
   rcases hD : isDig c with _ | _ <;> rw [hD] at hdg hw <;> rcases hL : isLet c with _ | _ <;> rw [hL] at hlt hw <;> simp at hw
   ·repeat' (first | refine ex_call hlt ?_ | refine ex_call hdg ?_ | refine (ex_chr q c rfl hc) ?_ | refine qg1 ?_ | refine eD ?_ ?_ <;> intro)
    exact ex_meet q (by omega) sS
   all_goals
    repeat' (first | refine ex_call hlt ?_ | refine ex_call hdg ?_ | refine aI ((q + 1 : Nat) : Int) ?_ | refine aU ((q + 1 : Nat) : Int) ?_ | refine aB ((q + 1 : Nat) : Int) ?_ | refine (ex_chr q c rfl hc) ?_ | refine qg1 ?_ | refine eD ?_ ?_ <;> intro)
    exact ex_round (q + 1) (by show q + 1 ≤ T; omega) (by show T - _ < T - _; omega) sS
  ·exact ex_meet q (by omega) sS
 ·intro q hq
  subst hq
  unfold tokF
  rcases hw : r.takeWhile alnum with _ | ⟨b, w⟩ <;> rw [hw] at hT
  ·have hT0 : q = 0 := hT.symm
   subst hT0
   have hs := rsign_c r h0 hl
   dsimp only
   rcases hsg : signF r with _ | t <;> rw [hsg] at hs
   ·have hs : CallsA Tryz.prog Γ0 66 [c1 (ds (bs r))] (Ti 0) := hs
    repeat' (first | refine ex_call hs ?_ | refine qg1 ?_ | refine eD ?_ ?_ <;> intro)
    exact TLe.rfl
   ·obtain ⟨hm, X, hX⟩ := signF_mem hsg
    have hl2 := signs_len t hm
    have hs : CallsA Tryz.prog Γ0 66 [c1 (ds (bs r))] (Ti (t.length : Nat)) := hs
    have hr2 : t.length ≤ r.length := by rw [hX, List.length_append]; omega
    have hE2 := ext_take r t.length
    rw [show r.take t.length = t by rw [hX, List.take_left]] at hE2
    repeat' (first | refine ex_call hs ?_ | refine qg1 ?_ | refine eD ?_ ?_ <;> intro)
    rw [hE2]
    exact TLe.rfl
  ·rw [hw] at hE
   have hpos : 0 < q := by rw [← hT]; simp
   have hb0 : r[0]? = some b := by
    obtain ⟨X, hX, -⟩ := takeWhile_split alnum r
    rw [hX, hw]; rfl
   have hdg := rdigit_c b
   have hN := rnumber_c (b :: w) (by omega) (by simp)
   dsimp only
   rcases hD : isDig b with _ | _ <;> rw [hD] at hdg
   ·generalize b :: w = y at *
    by_cases h32 : y.length ≤ 32
    ·rw [if_neg (by decide), if_pos h32]
     repeat' (first | refine ex_call hdg ?_ | refine (ex_chr 0 b rfl hb0) ?_ | refine qg1 ?_ | refine eD ?_ ?_ <;> intro)
     rw [hE]
     exact TLe.rfl
    ·rw [if_neg (by decide), if_neg h32]
     repeat' (first | refine ex_call hdg ?_ | refine (ex_chr 0 b rfl hb0) ?_ | refine qg1 ?_ | refine eD ?_ ?_ <;> intro)
     exact TLe.rfl
   ·rw [if_pos rfl]
    generalize b :: w = y at *
    rcases hn : numF y with ⟨k, t, n⟩ | e <;> rw [hn] at hN
    ·repeat' (first | refine ex_call hdg ?_ | refine (ex_chr 0 b rfl hb0) ?_ | refine qg1 ?_ | refine eD ?_ ?_ <;> intro)
     rw [hE]
     repeat' (first | refine ex_call hN ?_ | refine qg1 ?_ | refine eD ?_ ?_ <;> intro)
     exact TLe.rfl
    ·repeat' (first | refine ex_call hdg ?_ | refine (ex_chr 0 b rfl hb0) ?_ | refine qg1 ?_ | refine eD ?_ ?_ <;> intro)
     rw [hE]
     repeat' (first | refine ex_call hN ?_ | refine qg1 ?_ | refine eD ?_ ?_ <;> intro)
     exact TLe.rfl
end Go.Proofs.YtoingpafcodojaaGreatDoor

namespace Go.Proofs.YtoingpafcodojaaGreatDoor
open Go.RowKit

theorem u8_int {b : UInt8} (n : Nat) (hn : n < 256) : ((b.toNat : Nat) : Int) = (n : Int) ↔ b = UInt8.ofNat n := by
 constructor
 ·intro h
  have : b.toNat = n := by omega
  rw [← this]; simp
 ·rintro rfl
  rw [UInt8.toNat_ofNat']
  omega
theorem isCom_cons (b c : UInt8) (y : List UInt8) : isCom (b :: c :: y) = (decide (((b.toNat : Nat) : Int) = 47) && decide (((c.toNat : Nat) : Int) = 47)) := by
 have e : ∀ x : UInt8, (47 == x) = decide (((x.toNat : Nat) : Int) = 47) := fun x => Bool.eq_iff_iff.2 (by
  rw [beq_iff_eq, decide_eq_true_eq]
  exact ⟨fun e => by rw [← e]; rfl, fun e => (UInt8.toNat_inj.1 (Int.ofNat_inj.1 e)).symm⟩)
 show (47 == b && (47 == c && true)) = _
 rw [e, e, Bool.and_true]
set_option maxHeartbeats 4000000 in
theorem rlex_c (s : List UInt8) : CallsA Tryz.prog Γ0 22 [c1 (ds (bs s))] (lexT (lexV s)) := by
 have hsz := bs_size s
 unfold lexV
 by_cases hs : s.length ≤ 16384
 ·rw [if_pos hs]
  obtain ⟨R, hR⟩ : ∃ R, lexF s 1 1 = R := ⟨_, rfl⟩
  rw [hR]
  refine fn_rule (C := ⟨Tryz.prog, layF, Tryz.f22.ntmps, Γ0, 0, [], []⟩) layF_ok mixed Tryz.func22 rfl (by kernel_rfl) rfl rfl rfl ?_
  repeat' (first | refine qgs ?_ | refine eD ?_ ?_ <;> intro)
  refine ex_loop (X := Nat × Nat × Nat × List TokP) (fun ⟨i, u, v, o⟩ => ⟨[(0, Tstr (bs s)), (3, .o (.c (.ptr 0 0))), (5, .o (.c (.row 1))), (6, Ti u), (7, Ti v), (8, Ti i)], [(0, Pz), (1, .row 5 110 (o.map tokD))], 2⟩) (fun x => s.length - x.1)
   (fun ⟨i, u, v, o⟩ => i ≤ s.length ∧ Bd (u, v) (s.length - i) ∧ o.length ≤ i ∧ (lexF (s.drop i) u v).pre o = R) (0, 1, 1, []) ⟨Nat.zero_le _, ⟨by decide, by decide, by show 1 + _ ≤ _; omega, by show 1 + _ ≤ _; omega⟩, Nat.le_refl _, by rw [List.drop_zero, hR]; cases R <;> rfl⟩ (SLe.trans sS (SLe.own 5 1 5 110 rfl rfl rfl rfl rfl)) ?_
  rintro ⟨i, u, v, o⟩ ⟨hi, ⟨hb1, hb2, hb3, hb4⟩, hol, hs2⟩
  dsimp only at hb1 hb2 hb3 hb4
  refine ex_dec (fun h => ?_) (fun h => ?_)
  ·have hil : i < s.length := by omega
   have hc : s[i]? = some s[i] := at_some hil
   have hdr : s.drop i = s[i] :: s.drop (i + 1) := List.drop_eq_getElem_cons hil
   rw [hdr] at hs2
   generalize s[i] = b at *
   by_cases h10 : (b.toNat : Int) = 10
   ·have hb : b = 10 := (u8_int 10 (by decide)).1 h10
    rw [hb, lexF_eq] at hs2
    repeat' (first | refine aI ((i + 1 : Nat) : Int) ?_ | refine aU ((i + 1 : Nat) : Int) ?_ | refine aB ((i + 1 : Nat) : Int) ?_ | refine aI ((u + 1 : Nat) : Int) ?_ | refine aU ((u + 1 : Nat) : Int) ?_ | refine aB ((u + 1 : Nat) : Int) ?_ | refine (ex_chr i b rfl hc) ?_ | refine qg1 ?_ | refine eD ?_ ?_ <;> intro)
    exact ex_round (i + 1, u + 1, 1, o) ⟨by omega, ⟨by show 1 ≤ u + 1; omega, Nat.le_refl 1, by show u + 1 + _ ≤ _; omega, by show 1 + _ ≤ _; omega⟩, by omega, hs2⟩ (by show _ - _ < _ - _; omega) sS
   have n10 : b ≠ 10 := fun e => h10 ((u8_int 10 (by decide)).2 e)
   by_cases hbl : (b.toNat : Int) = 32 ∨ (b.toNat : Int) = 9 ∨ (b.toNat : Int) = 13
   ·have hb : b = 32 ∨ b = 9 ∨ b = 13 := by
     rcases hbl with h | h | h
     ·exact .inl ((u8_int 32 (by decide)).1 h)
     ·exact .inr (.inl ((u8_int 9 (by decide)).1 h))
     ·exact .inr (.inr ((u8_int 13 (by decide)).1 h))
    rw [lexF_eq, show stp (b :: s.drop (i + 1)) u v = .go (s.drop (i + 1)) u (v + 1) by unfold stp; dsimp only; rw [if_neg n10, if_pos hb]] at hs2
    repeat' (first | refine aI ((i + 1 : Nat) : Int) ?_ | refine aU ((i + 1 : Nat) : Int) ?_ | refine aB ((i + 1 : Nat) : Int) ?_ | refine aI ((v + 1 : Nat) : Int) ?_ | refine aU ((v + 1 : Nat) : Int) ?_ | refine aB ((v + 1 : Nat) : Int) ?_ | refine (ex_chr i b rfl hc) ?_ | refine qg1 ?_ | refine eD ?_ ?_ <;> intro)
    all_goals exact ex_round (i + 1, u, v + 1, o) ⟨by omega, ⟨hb1, by show 1 ≤ v + 1; omega, by show u + _ ≤ _; omega, by show v + 1 + _ ≤ _; omega⟩, by omega, hs2⟩ (by show _ - _ < _ - _; omega) sS
   have nbl : ¬ (b = 32 ∨ b = 9 ∨ b = 13) := by
    rintro (e | e | e)
    ·exact hbl (.inl ((u8_int 32 (by decide)).2 e))
    ·exact hbl (.inr (.inl ((u8_int 9 (by decide)).2 e)))
    ·exact hbl (.inr (.inr ((u8_int 13 (by decide)).2 e)))
   have n32 : ¬ (b.toNat : Int) = 32 := fun e => hbl (.inl e)
   have n9 : ¬ (b.toNat : Int) = 9 := fun e => hbl (.inr (.inl e))
   have n13 : ¬ (b.toNat : Int) = 13 := fun e => hbl (.inr (.inr e))
   have hx0 : b :: s.drop (i + 1) ≠ [] := by simp
   have hxl : (b :: s.drop (i + 1)).length = s.length - i := by rw [← hdr, List.length_drop]
   have hnb : ∀ d, (b :: s.drop (i + 1))[0]? = some d → blank d = false := fun d hd => by
    cases hd
    rcases hh : blank b with _ | _
    ·rfl
    ·simp [blank, n10] at hh; rcases hh with hh | hh | hh <;> simp [hh] at nbl
   have ht := rone_c (b :: s.drop (i + 1)) hx0 (by omega)
   have hE := ext_drop s i hi
   rw [hdr] at hE
   have tokC : isCom (b :: s.drop (i + 1)) = false → ∀ {k : Nat} {t : List UInt8} {n : Nat}, tokF (b :: s.drop (i + 1)) = .ok k t n → i + t.length ≤ s.length ∧ 0 < t.length ∧ (lexF (s.drop (i + t.length)) u (v + t.length)).pre (o ++ [⟨k, t, n, u, v⟩]) = R := by
    intro hcm k t n hk
    rw [lexF_tok u v hx0 hnb hcm, hk] at hs2
    obtain ⟨⟨X, hX⟩, ht0, -, -⟩ := tokF_ok hk
    have hpos : 0 < t.length := List.length_pos_iff.2 ht0
    rw [hX, List.length_append] at hxl
    dsimp only at hs2
    rw [LR.pre_pre, ← hdr, List.drop_drop] at hs2
    exact ⟨by omega, hpos, hs2⟩
   have tokE : isCom (b :: s.drop (i + 1)) = false → ∀ {e : Nat}, tokF (b :: s.drop (i + 1)) = .err e → .err u v e = R := by
    intro hcm e hk
    rw [lexF_tok u v hx0 hnb hcm, hk] at hs2
    exact hs2
   have comC : isCom (b :: s.drop (i + 1)) = true → ∀ T, ((b :: s.drop (i + 1)).takeWhile notNl).length = T → i + T ≤ s.length ∧ 2 ≤ T ∧ (lexF (s.drop (i + T)) u (v + T)).pre o = R := by
    intro hcm T hT
    rw [lexF_com (u, v) hcm, skip_line _ _ _ (takeWhile_nl _), dropWhile_eq, hT, ← hdr, List.drop_drop] at hs2
    have h1 := drop_len notNl (b :: s.drop (i + 1))
    obtain ⟨Z, hZ⟩ := isCom_eq hcm
    refine ⟨by omega, ?_, hs2⟩
    rw [← hT, hZ, List.takeWhile_cons, if_pos (by decide), List.takeWhile_cons, if_pos (by decide)]
    simp
   rcases hcm : isCom (b :: s.drop (i + 1)) with _ | _
   ·have hcase : ¬ (b.toNat : Int) = 47 ∨ ((b.toNat : Int) = 47 ∧ ¬ i + 1 < s.length) ∨ ((b.toNat : Int) = 47 ∧ i + 1 < s.length ∧ ∃ d : UInt8, s[i + 1]? = some d ∧ ¬ (d.toNat : Int) = 47) := by
     by_cases h47 : (b.toNat : Int) = 47
     ·by_cases hi1 : i + 1 < s.length
      ·refine .inr (.inr ⟨h47, hi1, s[i + 1], at_some hi1, fun hd => ?_⟩)
       rw [List.drop_eq_getElem_cons hi1, isCom_cons, decide_eq_true h47, decide_eq_true hd] at hcm
       cases hcm
      ·exact .inr (.inl ⟨h47, hi1⟩)
     ·exact .inl h47
    rcases hk : tokF (b :: s.drop (i + 1)) with ⟨k, t, n⟩ | e <;> rw [hk] at ht
    ·obtain ⟨hTl, hpos, hs3⟩ := tokC hcm hk
     have hbt := bs_size t
     rcases hcase with h47 | ⟨h47, hi1⟩ | ⟨h47, hi1, d, hc2, hd⟩
     all_goals
      repeat' (first | refine aI ((i + 1 : Nat) : Int) ?_ | refine aU ((i + 1 : Nat) : Int) ?_ | refine aB ((i + 1 : Nat) : Int) ?_ | refine (ex_chr (i + 1) _ rfl (by assumption)) ?_ | refine (ex_chr i b rfl hc) ?_ | refine qg1 ?_ | refine eD ?_ ?_ <;> intro)
      rw [hE]
      repeat' (first | refine ex_call ht ?_ | refine qg1 ?_ | refine eD ?_ ?_ <;> intro)
      refine ex_app (o.length) (1) 1000 (by first | rfl | (simp; done) | (simp; omega)) (by first | rfl | (simp; done) | (simp; omega)) rfl (by omega) ?_
      refine ex_is (List.map tokD (o ++ [(⟨k, t, n, u, v⟩ : TokP)])) (by rw [List.map_append]; rfl) ?_
      repeat' (first | refine aI ((v + t.length : Nat) : Int) ?_ | refine aU ((v + t.length : Nat) : Int) ?_ | refine aB ((v + t.length : Nat) : Int) ?_ | refine aI ((i + t.length : Nat) : Int) ?_ | refine aU ((i + t.length : Nat) : Int) ?_ | refine aB ((i + t.length : Nat) : Int) ?_ | refine qg1 ?_ | refine eD ?_ ?_ <;> intro)
      exact ex_round (i + t.length, u, v + t.length, o ++ [⟨k, t, n, u, v⟩]) ⟨hTl, ⟨hb1, by show 1 ≤ v + _; omega, by show u + _ ≤ _; omega, by show v + _ + _ ≤ _; omega⟩, by show (o ++ [_]).length ≤ _; rw [List.length_append, List.length_cons, List.length_nil]; omega, hs3⟩ (by show _ - _ < _ - _; omega) (sR [(0, 0), (4, 1)])
    ·have he := tokF_err hk
     have hs3 := tokE hcm hk
     subst hs3
     rcases hcase with h47 | ⟨h47, hi1⟩ | ⟨h47, hi1, d, hc2, hd⟩
     all_goals
      repeat' (first | refine aI ((i + 1 : Nat) : Int) ?_ | refine aU ((i + 1 : Nat) : Int) ?_ | refine aB ((i + 1 : Nat) : Int) ?_ | refine (ex_chr (i + 1) _ rfl (by assumption)) ?_ | refine (ex_chr i b rfl hc) ?_ | refine qg1 ?_ | refine eD ?_ ?_ <;> intro)
      rw [hE]
      repeat' (first | refine ex_call ht ?_ | refine qg1 ?_ | refine eD ?_ ?_ <;> intro)
      exact TLe.nilc
   ·obtain ⟨Z, hZ⟩ := isCom_eq hcm
    have hb47 : b = 47 := by injection hZ
    have h47 : (b.toNat : Int) = 47 := (u8_int 47 (by decide)).2 hb47
    have hcm2 := hcm
    have hi1 : i + 1 < s.length := by
     rw [hZ] at hxl
     simp at hxl
     omega
    have hc2 : s[i + 1]? = some s[i + 1] := at_some hi1
    have hcc : isCom (b :: s.drop (i + 1)) = decide ((s[i + 1].toNat : Int) = 47) := by
     rw [List.drop_eq_getElem_cons hi1, isCom_cons, decide_eq_true h47, Bool.true_and]
    generalize s[i + 1] = d at *
    have hd : (d.toNat : Int) = 47 := by rw [hcm] at hcc; exact of_decide_eq_true hcc.symm
    obtain ⟨T, hT⟩ : ∃ T, ((b :: s.drop (i + 1)).takeWhile notNl).length = T := ⟨_, rfl⟩
    obtain ⟨hTl, hT2, hs3⟩ := comC hcm T hT
    have htw := tw_get notNl (b :: s.drop (i + 1))
    rw [hT, ← hdr] at htw
    repeat' (first | refine aI ((i + 1 : Nat) : Int) ?_ | refine aU ((i + 1 : Nat) : Int) ?_ | refine aB ((i + 1 : Nat) : Int) ?_ | refine (ex_chr (i + 1) d rfl hc2) ?_ | refine (ex_chr i b rfl hc) ?_ | refine qg1 ?_ | refine eD ?_ ?_ <;> intro)
    refine ex_loop (X := Nat) (fun k => ⟨[(0, Tstr (bs s)), (3, .o (.c (.ptr 0 0))), (5, .o (.c (.row 1))), (6, Ti u), (7, Ti (v + k : Nat)), (8, Ti (i + k : Nat))], [(0, Pz), (1, .row 5 110 (o.map tokD))], 2⟩) (fun k => T - k) (fun k => k ≤ T) 0 (Nat.zero_le _) sS ?_
    intro k hk
    by_cases hkl : i + k < s.length
    ·have hc3 : s[i + k]? = some s[i + k] := at_some hkl
     have hw := htw k s[i + k] (by rw [List.getElem?_drop]; exact hc3) hk
     generalize s[i + k] = z at *
     by_cases hz : (z.toNat : Int) = 10
     ·have hkT : k = T := by
       have : notNl z = false := by rw [(u8_int 10 (by decide)).1 hz]; rfl
       rw [this] at hw
       simp at hw
       omega
      subst hkT
      repeat' (first | refine (ex_chr (i + k) z rfl hc3) ?_ | refine qg1 ?_ | refine eD ?_ ?_ <;> intro)
      exact ex_round (i + k, u, v + k, o) ⟨hTl, ⟨hb1, by show 1 ≤ v + k; omega, by show u + _ ≤ _; omega, by show v + k + _ ≤ _; omega⟩, by omega, hs3⟩ (by show _ - _ < _ - _; omega) sS
     ·have hkT : k < T := hw.2 (by
       rcases hh : notNl z with _ | _
       ·exact absurd ((u8_int 10 (by decide)).2 (by unfold notNl at hh; simpa using hh)) hz
       ·rfl)
      repeat' (first | refine aI ((v + (k + 1) : Nat) : Int) ?_ | refine aU ((v + (k + 1) : Nat) : Int) ?_ | refine aB ((v + (k + 1) : Nat) : Int) ?_ | refine aI ((i + (k + 1) : Nat) : Int) ?_ | refine aU ((i + (k + 1) : Nat) : Int) ?_ | refine aB ((i + (k + 1) : Nat) : Int) ?_ | refine (ex_chr (i + k) z rfl hc3) ?_ | refine qg1 ?_ | refine eD ?_ ?_ <;> intro)
      exact ex_round (k + 1) (by show k + 1 ≤ T; omega) (by show T - _ < T - _; omega) sS
    ·have hkT : k = T := by omega
     subst hkT
     repeat' (first | refine qgs ?_ | refine eD ?_ ?_ <;> intro)
     exact ex_round (i + k, u, v + k, o) ⟨hTl, ⟨hb1, by show 1 ≤ v + k; omega, by show u + _ ≤ _; omega, by show v + k + _ ≤ _; omega⟩, by omega, hs3⟩ (by show _ - _ < _ - _; omega) sS
  ·have hil : i = s.length := by omega
   subst hil
   rw [List.drop_length, lexF_nil] at hs2
   subst hs2
   repeat' (first | refine qgs ?_ | refine eD ?_ ?_ <;> intro)
   refine ex_app (o.length) (1) 1000 (by first | rfl | (simp; done) | (simp; omega)) (by first | rfl | (simp; done) | (simp; omega)) rfl (by omega) ?_
   refine ex_is (List.map tokD (o ++ [(⟨3, [], 0, u, v⟩ : TokP)])) (by rw [List.map_append]; rfl) ?_
   repeat' (first | refine qgs ?_ | refine eD ?_ ?_ <;> intro)
   exact TLe.rfl
 ·rw [if_neg hs]
  refine fn_rule (C := ⟨Tryz.prog, layF, Tryz.f22.ntmps, Γ0, 0, [], []⟩) layF_ok mixed Tryz.func22 rfl (by kernel_rfl) rfl rfl rfl ?_
  repeat' (first | refine qgs ?_ | refine eD ?_ ?_ <;> intro)
  exact TLe.nilc
end Go.Proofs.YtoingpafcodojaaGreatDoor

namespace Go.Proofs.YtoingpafcodojaaGreatDoor
open Go.RowKit

theorem lexV_toks {s : List UInt8} {L : List TokP} (h : lexV s = .ok L) : ∃ us l c, L = us ++ [⟨3, [], 0, l, c⟩] ∧ ∀ u ∈ us, GoodTok u := by
 unfold lexV at h
 split at h
 ·exact lexF_good h
 ·cases h

theorem valF_lt {base : Nat} : ∀ (l : List UInt8) (n m : Nat), n < 18446744073709551616 → valF base n l = some m → m < 18446744073709551616
 | [], n, m, h, e => by rw [valF] at e; injection e with e; omega
 | b :: r, n, m, h, e => by
  rw [valF] at e
  split at e
  ·exact valF_lt r _ m (by assumption) e
  ·cases e
theorem numR_lt {s t : List UInt8} {o : Option Nat} {k n : Nat} (ho : ∀ m, o = some m → m < 18446744073709551616) (h : numR s o = .ok k t n) : n < 18446744073709551616 := by
 cases o with
 | none => cases h
 | some m => cases h; exact ho _ rfl
theorem tokF_lt {r t : List UInt8} {k n : Nat} (h : tokF r = .ok k t n) : n < 18446744073709551616 := by
 unfold tokF at h
 split at h
 ·split at h
  ·cases h
  ·cases h; decide
 ·split at h
  ·unfold numF at h
   split at h
   ·exact numR_lt (fun m hm => valF_lt _ 0 m (by decide) hm) h
   ·split at h
    ·exact numR_lt (fun m hm => valF_lt _ 0 m (by decide) hm) h
    ·cases h
  ·split at h
   ·cases h; decide
   ·cases h
theorem lexV_tk {s : List UInt8} {L : List TokP} (h : lexV s = .ok L) (i : Nat) : ((tk L i).k < 3 ∧ (tk L i).n < 18446744073709551616) ∨ ((tk L i).t = [] ∧ (tk L i).n = 0) := by
 obtain ⟨us, l, c, rfl, hg⟩ := lexV_toks h
 by_cases hi : i < us.length
 ·left
  have e : tk (us ++ [(⟨3, [], 0, l, c⟩ : TokP)]) i = us[i] := by unfold tk; rw [List.getD_eq_getElem?_getD, List.getElem?_append_left hi, List.getElem?_eq_getElem hi]; rfl
  rw [e]
  obtain ⟨h1, _, r, h2⟩ := hg us[i] (List.getElem_mem hi)
  exact ⟨h1, tokF_lt h2⟩
 ·right
  unfold tk
  rw [List.getD_eq_getElem?_getD, List.getElem?_append_right (by omega)]
  by_cases h0 : i - us.length = 0
  ·rw [h0]; exact ⟨rfl, rfl⟩
  ·rw [List.getElem?_eq_none (by simp; omega)]; exact ⟨rfl, rfl⟩
theorem lexV_end {s : List UInt8} {L : List TokP} (h : lexV s = .ok L) : EndE L := fun i h3 => by
 rcases lexV_tk h i with ⟨h1, _⟩ | ⟨h1, _⟩
 ·omega
 ·exact h1
theorem lexV_num {s : List UInt8} {L : List TokP} (h : lexV s = .ok L) : NumOk L := fun i => by
 rcases lexV_tk h i with ⟨_, h1⟩ | ⟨_, h1⟩
 ·exact h1
 ·rw [h1]; decide
def parR (L : List TokP) (T : (List CO × List RC) × RSt) : FR := if T.2.err = 0 then .ok T.1.1 T.1.2 T.2.xs T.2.ts else .err (tk L T.2.i).l (tk L T.2.i).c T.2.err
theorem parR_eq {L : List TokP} (hL : TokOk L) (hE : EndE L) : parR L (wholeR L (L.length + 1) [] [] ⟨0, 0, 0, [], []⟩) = fileV (.ok L) := by
 have h := sim_whole hL hE (L.length + 1) [] []
 have hs : SOk L 0 ⟨0, [], []⟩ := ⟨hL.1, by simp, by simp⟩
 have h1 := h.ok 0 ⟨0, [], []⟩ hs
 have hu := h.up ⟨0, [], []⟩ 0 hs
 have e : emb 32 ⟨0, [], []⟩ = ⟨0, 0, 0, [], []⟩ := rfl
 rw [e] at h1
 unfold fileV
 dsimp only
 revert h1 hu
 rcases wholeN L (L.length + 1) [] [] ⟨0, [], []⟩ with ⟨⟨cs, rs⟩, s⟩ | ⟨i, er⟩
 ·intro h1 hu
  dsimp only at h1 ⊢
  rw [h1]
  rfl
 ·intro h1 hu
  dsimp only at h1 hu ⊢
  have h1 : Bad L 32 300 i er _ := h1
  unfold parR
  rw [if_neg (by rw [h1.e]; omega), h1.i, h1.e]
def rparT : FR → TV
 | .ok cs rs xs ts => .tup [gD (fileD cs rs xs ts), gD [di 0, di 0], c1 (di 0)]
 | .err l c e => .tup [gD [dnil, dnil, dnil, dnil], gD [di l, di c], c1 (di e)]
abbrev Cr (l : List CO) : Blk := .row 2 104 (l.map coD)
abbrev Ur (l : List RC) : Blk := .row 3 107 (l.map rcD)
theorem wholeR_err {L : List TokP} {s : RSt} (h : s.err ≠ 0) (n : Nat) (cs : List CO) (rs : List RC) : wholeR L n cs rs s = ((cs, rs), s) := by
 cases n with
 | zero => rfl
 | succ n => exact if_neg h
set_option maxHeartbeats 8000000 in
theorem rParse_c (s : List UInt8) : CallsA Tryz.prog ΓL 8 [c1 (ds (bs s))] (rparT (fileS s)) := by
 have hlx := (rlex_c s).of0 (Γ := ΓL)
 rcases hl : lexV s with L | ⟨l, c, e⟩
 ·rw [hl] at hlx
  have hlx : CallsA Tryz.prog ΓL 22 [c1 (ds (bs s))] (.tup [c1 (.sl 5 (L.map tokD)), gD [di 0, di 0], c1 (di 0)]) := hlx
  obtain ⟨hL, hn⟩ := lexV_ok hl
  have hE := lexV_end hl
  have hq := lexV_num hl
  obtain ⟨R, hR⟩ : ∃ R, fileS s = R := ⟨_, rfl⟩
  obtain ⟨T, hT⟩ : ∃ T, wholeR L (L.length + 1) [] [] ⟨0, 0, 0, [], []⟩ = T := ⟨_, rfl⟩
  have hP := parR_eq hL hE
  rw [hT, show fileV (.ok L) = R by rw [← hR]; unfold fileS; rw [hl]] at hP
  rw [hR]
  subst hP
  clear hR
  refine fn_rule (C := ⟨Tryz.prog, layF, Tryz.f8.ntmps, ΓL, 0, [], []⟩) layF_ok mixed Tryz.func8 rfl (by kernel_rfl) rfl rfl rfl ?_
  repeat' (first | refine ex_call hlx ?_ | refine qg1 ?_ | refine eD ?_ ?_ <;> intro)
  refine ex_loop (X := RSt × List EX × List TY × List CO × List RC × Nat) (fun ⟨s, xl, tl, cs, rs, _⟩ => ⟨[(2, .o (.c (.ptr 0 0))), (3, .o (.c (.ptr 1 0))), (8, .o (.c (.ptr 3 0)))], [(0, .obj [.d dnil, .d dnil, .d dnil, .d dnil]), (1, .obj [.d (di 0), .d (di 0)]), (3, Rz L s 4 5 6 7), (4, Cr cs), (5, Ur rs), (6, Xr xl), (7, Tr tl)], 8⟩) (fun y => y.2.2.2.2.2)
   (fun ⟨s, xl, tl, cs, rs, n⟩ => Gd L 32 0 400 s ∧ s.xs = xl ∧ s.ts = tl ∧ (s.err = 0 → L.length < s.i + n ∧ cs.length ≤ s.i ∧ rs.length ≤ s.i) ∧ cs.length ≤ L.length + 1 ∧ rs.length ≤ L.length + 1 ∧ wholeR L n cs rs s = T) (⟨0, 0, 0, [], []⟩, [], [], [], [], L.length + 1) ⟨gd_emb (m := 32) (b := 400) (s := ⟨0, [], []⟩) ⟨hL.1, by simp, by simp⟩, rfl, rfl, fun _ => ⟨by show L.length < 0 + (L.length + 1); omega, Nat.zero_le _, Nat.zero_le _⟩, Nat.zero_le _, Nat.zero_le _, hT⟩ ?_ ?_
  ·exact SLe.via (SLe.ownCell 3 3 4 2 104 rfl rfl rfl rfl rfl rfl) (SLe.via (SLe.ownCell 3 4 5 3 107 rfl rfl rfl rfl rfl rfl) (SLe.via (SLe.ownCell 3 5 6 5 127 rfl rfl rfl rfl rfl rfl) (SLe.via (SLe.ownCell 3 6 7 8 62 rfl rfl rfl rfl rfl rfl) sS)))
  clear hT
  rintro ⟨s, xl, tl, cs, rs, n⟩ ⟨hs, kx_s, kt_s, hf, hcl, hrl, hT⟩
  have hsi := hs.i
  have h10 := hs.e
  by_cases he : s.err = 0
  ·obtain ⟨hf, hlc, hlr⟩ := hf he
   cases n with
   | zero => omega
   | succ n =>
    rw [wholeR] at hT
    replace hT := gdRy hT he
    have hic := ris_c s hsi w_const
    have hir := ris_c s hsi w_struct
    rcases hv : isV L s.i w_const with _ | _ <;> rw [hv] at hic
    ·replace hT := atRn hT hv
     rcases hv2 : isV L s.i w_struct with _ | _ <;> rw [hv2] at hir
     ·replace hT := atRn hT hv2
      have hk := tk_at hsi
      by_cases h3 : (tk L s.i).k = 3
      ·replace hT := atRy hT (by rw [h3]; rfl)
       obtain rfl : ((cs, rs), s) = T := hT
       have hres : rparT (parR L ((cs, rs), s)) = .tup [gD (fileD cs rs s.xs s.ts), gD [di 0, di 0], c1 (di 0)] := by unfold parR; rw [if_pos he]; rfl
       rw [hres]
       clear hres
       generalize tk L s.i = u at *
       have hR : ∀ {K : List D → Prop}, K (tokD u) → ∃ r, 0 ≤ ((s.i : Nat) : Int) ∧ (L.map tokD)[((s.i : Nat) : Int).toNat]? = some r ∧ K r := fun h => ex_row s.i u rfl hk h
       repeat' (first | refine qgs ?_ | refine eD ?_ ?_ <;> intro)
       refine sC (CallsM.ren (hic) [3, 4, 5, 6, 7] 8 rfl rfl rfl rfl) ?_
       repeat' (first | refine qgs ?_ | refine eD ?_ ?_ <;> intro)
       refine sC (CallsM.ren (hir) [3, 4, 5, 6, 7] 8 rfl rfl rfl rfl) ?_
       repeat' (first | refine hR ?_ | refine qg1 ?_ | refine eD ?_ ?_ <;> intro)
       subst kx_s
       subst kt_s
       exact TLe.rfl
      ·replace hT := atRn hT (by simp [h3])
       obtain ⟨s2, hs2⟩ : ∃ s2, failR 4 s = s2 := ⟨_, rfl⟩
       have hfl := rfail_c (L := L) s 4 (by omega)
       rw [hs2] at hfl
       have e2 : s2 = { s with err := 4 } := by rw [← hs2]; exact if_pos he
       have hT : ((cs, rs), s2) = T := by rw [← hs2]; exact hT
       have he2 : s2.err ≠ 0 := by rw [e2]; show (4 : Nat) ≠ 0; omega
       generalize tk L s.i = u at *
       have hR : ∀ {K : List D → Prop}, K (tokD u) → ∃ r, 0 ≤ ((s.i : Nat) : Int) ∧ (L.map tokD)[((s.i : Nat) : Int).toNat]? = some r ∧ K r := fun h => ex_row s.i u rfl hk h
       repeat' (first | refine qgs ?_ | refine eD ?_ ?_ <;> intro)
       refine sC (CallsM.ren (hic) [3, 4, 5, 6, 7] 8 rfl rfl rfl rfl) ?_
       repeat' (first | refine qgs ?_ | refine eD ?_ ?_ <;> intro)
       refine sC (CallsM.ren (hir) [3, 4, 5, 6, 7] 8 rfl rfl rfl rfl) ?_
       repeat' (first | refine hR ?_ | refine qg1 ?_ | refine eD ?_ ?_ <;> intro)
       refine sC (CallsM.ren (hfl) [3, 4, 5, 6, 7] 8 rfl rfl rfl rfl) ?_
       repeat' (first | refine qgs ?_ | refine eD ?_ ?_ <;> intro)
       exact ex_round (s2, xl, tl, cs, rs, n) ⟨by rw [e2]; exact ⟨hs.i, hs.x, hs.t, hs.d1, hs.d2, (by show 4 ≤ 10; omega), fun h => (by cases h), fun h => (by cases h)⟩, by rw [e2]; exact kx_s, by rw [e2]; exact kt_s, fun h => absurd h he2, hcl, hrl, by rw [wholeR_err he2]; exact hT⟩ (by show n < n + 1; omega) sS
     ·replace hT := atRy hT hv2
      have hs0 := hs.fresh he 400
      replace hT : (roomR rs.length >>= fun _ => recordR L >>= fun r => wholeR L n cs (rs ++ [r])) s = T := hT
      repeat' (first | refine qgs ?_ | refine eD ?_ ?_ <;> intro)
      refine sC (CallsM.ren (hic) [3, 4, 5, 6, 7] 8 rfl rfl rfl rfl) ?_
      repeat' (first | refine qgs ?_ | refine eD ?_ ?_ <;> intro)
      refine sC (CallsM.ren (hir) [3, 4, 5, 6, 7] 8 rfl rfl rfl rfl) ?_
      repeat' (first | refine ex_is rs.length (by simp) ?_ | refine qg1 ?_ | refine eD ?_ ?_ <;> intro)
      rcases q1 : (roomR rs.length) (s) with ⟨_, s1⟩
      replace hT := (rand q1).symm.trans hT
      refine sC (CallsM.ren ((rroom_c s rs.length (by omega)) _ _ q1) [3, 4, 5, 6, 7] 8 rfl rfl rfl rfl) ?_
      have kx_s1 := (keep_room q1).1.trans kx_s
      have kt_s1 := (keep_room q1).2.trans kt_s
      have g1 := (Sim.room (L := L) (m := 32) rs.length 0).gd hs0 (by omega) q1
      have i1 := room_i q1
      repeat' (first | refine qgs ?_ | refine eD ?_ ?_ <;> intro)
      rcases q2 : (recordR L) (s1) with ⟨r, s2⟩
      replace hT := (rand q2).symm.trans hT
      refine sC (CallsM.ren ((rrecord_c hL hE hn hq s1 (g1.le (by omega) (by omega))) _ _ q2 _ _ kx_s1 kt_s1) [3, 4, 5, 6, 7] 8 rfl rfl rfl rfl) ?_
      have kx_s2 : s2.xs = s2.xs := rfl
      have kt_s2 : s2.ts = s2.ts := rfl
      have g2 := (sim_record hL hE).gd g1 (by omega) q2
      have hgrow : s2.err = 0 → s.i + 1 ≤ s2.i := fun h2 => by
       have := (sim_record hL hE).grow1 mo_record g1 q2 h2
       omega
      have hlc2 : (rs ++ [r]).length = rs.length + 1 := by simp
      repeat' (first | refine qgs ?_ | refine eD ?_ ?_ <;> intro)
      refine ex_app (rs.length) (1) 1000 (by first | rfl | (simp; done) | (simp; omega)) (by first | rfl | (simp; done) | (simp; omega)) rfl (by omega) ?_
      refine ex_is (List.map rcD (rs ++ [r])) (by rw [List.map_append]; rfl) ?_
      repeat' (first | refine qgs ?_ | refine eD ?_ ?_ <;> intro)
      exact ex_round (s2, s2.xs, s2.ts, cs, rs ++ [r], n) ⟨g2.le (by omega) (by omega), rfl, rfl, fun h => ⟨by have := hgrow h; omega, by have := hgrow h; omega, by rw [hlc2]; have := hgrow h; omega⟩, hcl, by rw [hlc2]; omega, hT⟩ (by show n < n + 1; omega) (sR [(0, 0), (1, 1), (3, 3), (4, 4), (12, 5), (8, 6), (9, 7)])
    ·replace hT := atRy hT hv
     have hs0 := hs.fresh he 400
     replace hT : (roomR cs.length >>= fun _ => takeR L w_const >>= fun _ => nameR L >>= fun w => takeR L t_eq >>= fun _ => numberR L >>= fun k => takeR L t_semi >>= fun _ => wholeR L n (cs ++ [⟨w, k⟩]) rs) s = T := hT
     obtain ⟨b, hb⟩ : ∃ b, isV L s.i w_struct = b := ⟨_, rfl⟩
     rw [hb] at hir
     repeat' (first | refine qgs ?_ | refine eD ?_ ?_ <;> intro)
     refine sC (CallsM.ren (hic) [3, 4, 5, 6, 7] 8 rfl rfl rfl rfl) ?_
     repeat' (first | refine qgs ?_ | refine eD ?_ ?_ <;> intro)
     refine sC (CallsM.ren (hir) [3, 4, 5, 6, 7] 8 rfl rfl rfl rfl) ?_
     repeat' (first | refine ex_is cs.length (by simp) ?_ | refine qg1 ?_ | refine eD ?_ ?_ <;> intro)
     rcases q1 : (roomR cs.length) (s) with ⟨_, s1⟩
     replace hT := (rand q1).symm.trans hT
     refine sC (CallsM.ren ((rroom_c s cs.length (by omega)) _ _ q1) [3, 4, 5, 6, 7] 8 rfl rfl rfl rfl) ?_
     have kx_s1 := (keep_room q1).1.trans kx_s
     have kt_s1 := (keep_room q1).2.trans kt_s
     have g1 := (Sim.room (L := L) (m := 32) cs.length 0).gd hs0 (by omega) q1
     have i1 := room_i q1
     repeat' (first | refine qgs ?_ | refine eD ?_ ?_ <;> intro)
     rcases q2 : (takeR L w_const) (s1) with ⟨_, s2⟩
     replace hT := (rand q2).symm.trans hT
     refine sC (CallsM.ren ((rtake_c s1 g1.i hn w_const) _ _ q2) [3, 4, 5, 6, 7] 8 rfl rfl rfl rfl) ?_
     have kx_s2 := (keep_take q2).1.trans kx_s1
     have kt_s2 := (keep_take q2).2.trans kt_s1
     have g2 := (Sim.take (m := 32) hL w_const 0).gd g1 (by omega) q2
     repeat' (first | refine qgs ?_ | refine eD ?_ ?_ <;> intro)
     rcases q3 : (nameR L) (s2) with ⟨w, s3⟩
     replace hT := (rand q3).symm.trans hT
     refine sC (CallsM.ren ((rname_c s2 g2.i hn) _ _ q3) [3, 4, 5, 6, 7] 8 rfl rfl rfl rfl) ?_
     have kx_s3 := (keep_name q3).1.trans kx_s2
     have kt_s3 := (keep_name q3).2.trans kt_s2
     have g3 := (Sim.name (m := 32) hL 1).gd g2 (by omega) q3
     repeat' (first | refine qgs ?_ | refine eD ?_ ?_ <;> intro)
     rcases q4 : (takeR L t_eq) (s3) with ⟨_, s4⟩
     replace hT := (rand q4).symm.trans hT
     refine sC (CallsM.ren ((rtake_c s3 g3.i hn t_eq) _ _ q4) [3, 4, 5, 6, 7] 8 rfl rfl rfl rfl) ?_
     have kx_s4 := (keep_take q4).1.trans kx_s3
     have kt_s4 := (keep_take q4).2.trans kt_s3
     have g4 := (Sim.take (m := 32) hL t_eq 2).gd g3 (by omega) q4
     repeat' (first | refine qgs ?_ | refine eD ?_ ?_ <;> intro)
     rcases q5 : (numberR L) (s4) with ⟨k, s5⟩
     replace hT := (rand q5).symm.trans hT
     refine sC (CallsM.ren ((rnum_c s4 g4.i hn) _ _ q5) [3, 4, 5, 6, 7] 8 rfl rfl rfl rfl) ?_
     have kx_s5 := (keep_num q5).1.trans kx_s4
     have kt_s5 := (keep_num q5).2.trans kt_s4
     have g5 := (Sim.number (m := 32) hL 3).gd g4 (by omega) q5
     repeat' (first | refine qgs ?_ | refine eD ?_ ?_ <;> intro)
     rcases q6 : (takeR L t_semi) (s5) with ⟨_, s6⟩
     replace hT := (rand q6).symm.trans hT
     refine sC (CallsM.ren ((rtake_c s5 g5.i hn t_semi) _ _ q6) [3, 4, 5, 6, 7] 8 rfl rfl rfl rfl) ?_
     have kx_s6 := (keep_take q6).1.trans kx_s5
     have kt_s6 := (keep_take q6).2.trans kt_s5
     have g6 := (Sim.take (m := 32) hL t_semi 4).gd g5 (by omega) q6
     have hgrow : s6.err = 0 → s.i + 1 ≤ s6.i := fun h6 => by
      have a6 := (Sim.take (m := 32) hL t_semi 4).grow g5 q6 h6
      have a5 := (Sim.number (m := 32) hL 3).grow g4 q5 a6.1
      have a4 := (Sim.take (m := 32) hL t_eq 2).grow g3 q4 a5.1
      have a3 := (Sim.name (m := 32) hL 1).grow g2 q3 a4.1
      have a2 := (Sim.take (m := 32) hL w_const 0).grow g1 q2 a3.1
      rw [take_yes a2.1 (by rw [i1]; exact hv)] at q2
      obtain rfl := congrArg Prod.snd q2
      have a3' : s1.i + 1 ≤ s3.i := a3.2
      omega
     have hlc2 : (cs ++ [(⟨w, k⟩ : CO)]).length = cs.length + 1 := by simp
     repeat' (first | refine qgs ?_ | refine eD ?_ ?_ <;> intro)
     refine ex_app (cs.length) (1) 1000 (by first | rfl | (simp; done) | (simp; omega)) (by first | rfl | (simp; done) | (simp; omega)) rfl (by omega) ?_
     refine ex_is (List.map coD (cs ++ [⟨w, k⟩])) (by rw [List.map_append]; rfl) ?_
     repeat' (first | refine qgs ?_ | refine eD ?_ ?_ <;> intro)
     exact ex_round (s6, xl, tl, cs ++ [⟨w, k⟩], rs, n) ⟨g6.le (by omega) (by omega), kx_s6, kt_s6, fun h => ⟨by have := hgrow h; omega, by rw [hlc2]; have := hgrow h; omega, by have := hgrow h; omega⟩, by rw [hlc2]; omega, hrl, hT⟩ (by show n < n + 1; omega) (sR [(0, 0), (1, 1), (3, 3), (9, 4), (5, 5), (6, 6), (7, 7)])
  ·obtain rfl : ((cs, rs), s) = T := (wholeR_err he n cs rs).symm.trans hT
   have hres : rparT (parR L ((cs, rs), s)) = .tup [gD [dnil, dnil, dnil, dnil], gD [di (tk L s.i).l, di (tk L s.i).c], c1 (di s.err)] := by unfold parR; rw [if_neg he]; rfl
   rw [hres]
   clear hres
   have hk := tk_at hsi
   generalize tk L s.i = u at *
   have hR : ∀ {K : List D → Prop}, K (tokD u) → ∃ r, 0 ≤ ((s.i : Nat) : Int) ∧ (L.map tokD)[((s.i : Nat) : Int).toNat]? = some r ∧ K r := fun h => ex_row s.i u rfl hk h
   repeat' (first | refine hR ?_ | refine qg1 ?_ | refine eD ?_ ?_ <;> intro)
   exact TLe.rfl
 ·rw [hl] at hlx
  have he := lexV_err hl
  have hlx : CallsA Tryz.prog ΓL 22 [c1 (ds (bs s))] (.tup [c1 (.sl 5 []), gD [di l, di c], c1 (di e)]) := hlx
  rw [show fileS s = .err l c e by unfold fileS; rw [hl]; rfl]
  refine fn_rule (C := ⟨Tryz.prog, layF, Tryz.f8.ntmps, ΓL, 0, [], []⟩) layF_ok mixed Tryz.func8 rfl (by kernel_rfl) rfl rfl rfl ?_
  repeat' (first | refine ex_call hlx ?_ | refine qg1 ?_ | refine eD ?_ ?_ <;> intro)
  exact TLe.rfl
end Go.Proofs.YtoingpafcodojaaGreatDoor

namespace Go.Proofs.YtoingpafcodojaaGreatDoor
open Go.RowKit

theorem reval_c (X : List EI) (A : EV) (z : Int) (hX : XsOk X) (hA : A.length ≤ 1000000) (hAn : EnvOk A) (hl : X.length ≤ 1000000) (hk : ∀ x ∈ X, x.kids.length ≤ 1000000) (hz : -9223372036854775808 ≤ z ∧ z ≤ 9223372036854775807) :
  CallsA Tryz.prog Γ0 12 [c1 (.sl 5 (X.map eiD)), c1 (di z), c1 (.sl 2 (A.map evD))] (owT (evalE X z A)) := by
 have hXm : (X.map eiD).length = X.length := List.length_map _
 by_cases h0 : z < 0
 ·rw [show evalE X z A = (0, 2) by unfold evalE; rw [exprE_out (.inl h0)]]
  refine fn_rule (C := ⟨Tryz.prog, layF, Tryz.f12.ntmps, Γ0, 0, [], []⟩) layF_ok mixed Tryz.func12 rfl (by kernel_rfl) rfl rfl rfl ?_
  repeat' (first | refine (ex_is _ hXm) ?_ | refine qg1 ?_ | refine eD ?_ ?_ <;> intro)
  exact TLe.rfl
 by_cases h1 : (X.length : Int) ≤ z
 ·rw [show evalE X z A = (0, 2) by unfold evalE; rw [exprE_out (.inr h1)]]
  refine fn_rule (C := ⟨Tryz.prog, layF, Tryz.f12.ntmps, Γ0, 0, [], []⟩) layF_ok mixed Tryz.func12 rfl (by kernel_rfl) rfl rfl rfl ?_
  repeat' (first | refine (ex_is _ hXm) ?_ | refine qg1 ?_ | refine eD ?_ ?_ <;> intro)
  exact TLe.rfl
 obtain ⟨a, rfl⟩ := Int.eq_ofNat_of_zero_le (Int.not_lt.1 h0)
 have ha : a < X.length := by omega
 have hall := rall_c X A a ha hX hA hAn hl hk
 have hRL : (resL X A).length = X.length := by unfold resL; rw [List.length_map, treesE_len]
 have hat : ((resL X A).take (a + 1))[a]? = some (evalE X a A) := by
  rw [List.getElem?_take, if_pos (by omega)]
  unfold resL evalE exprE kidE
  rw [if_pos (by omega), Int.toNat_natCast, List.getElem?_map]
  obtain ⟨o, ho⟩ : ∃ o, (treesE X)[a]? = some o := ⟨_, List.getElem?_eq_getElem (by rw [treesE_len]; exact ha)⟩
  rw [ho]
  cases o <;> rfl
 have hlen : ((resL X A).take (a + 1)).length = a + 1 := by rw [List.length_take, hRL]; omega
 obtain ⟨⟨n, e⟩, hv⟩ : ∃ v, evalE X a A = v := ⟨_, rfl⟩
 rw [hv] at hat ⊢
 generalize (resL X A).take (a + 1) = R at *
 have hR1 : (R.map nmR).length = a + 1 := by rw [List.length_map, hlen]
 have hR2 : (R.map erR).length = a + 1 := by rw [List.length_map, hlen]
 refine fn_rule (C := ⟨Tryz.prog, layF, Tryz.f12.ntmps, Γ0, 0, [], []⟩) layF_ok mixed Tryz.func12 rfl (by kernel_rfl) rfl rfl rfl ?_
 repeat' (first | refine ex_call hall ?_ | refine (ex_row a (n, e) rfl hat) ?_ | refine (ex_is _ hR2) ?_ | refine (ex_is _ hR1) ?_ | refine (ex_is _ hXm) ?_ | refine qg1 ?_ | refine eD ?_ ?_ <;> intro)
 exact TLe.rfl
theorem file_expr {s : List UInt8} {cs : List CO} {rs : List RC} {xs : List EX} {ts : List TY} (h : fileS s = .ok cs rs xs ts) :
  xs.length ≤ 100000 ∧ ts.length ≤ 100000 ∧ XsOk (xs.map EX.ei) ∧ (∀ x ∈ xs.map EX.ei, x.kids.length ≤ 1000000) ∧ ∀ t ∈ ts, -1 ≤ t.ex ∧ t.ex ≤ 100000 := by
 unfold fileS at h
 have hord := file_order h
 rcases hl : lexV s with L | ⟨l', c', e'⟩ <;> rw [hl] at h
 ·obtain ⟨hL, hn⟩ := lexV_ok hl
  have hq := lexV_num hl
  haveI : NumC L := ⟨hq⟩
  obtain ⟨h1, -⟩ := file_sized (L := L) (B := 1000000) (by omega) h
  have hu := up_whole hL (L.length + 1) [] [] ⟨0, [], []⟩ 0 ⟨hL.1, by simp, by simp⟩
  have hlen : xs.length ≤ 100000 ∧ ts.length ≤ 100000 := by
   unfold fileV at h
   dsimp only at h
   split at h
   ·rename_i c r s1 hw1
    rw [hw1] at hu
    cases h
    have := hu.1.x
    have := hu.1.t
    have := hu.1.i
    dsimp only at *
    omega
   ·cases h
  refine ⟨hlen.1, hlen.2, fun x hx => ?_, fun x hx => ?_, fun t ht => ?_⟩
  ·obtain ⟨y, hy, rfl⟩ := List.mem_map.1 hx
   exact (h1.x y hy).2
  ·obtain ⟨y, hy, rfl⟩ := List.mem_map.1 hx
   exact (h1.x y hy).1
  ·by_cases he : t.ex = -1
   ·rw [he]; exact ⟨Int.le_refl _, by decide⟩
   ·have := hord.xr t.ex (.inl (List.mem_append_right _ (List.mem_flatMap.2 ⟨t, ht, by unfold TY.subX; rw [if_neg he]; simp⟩)))
    have h2 := hlen.1
    dsimp only at this
    omega
 ·cases h
end Go.Proofs.YtoingpafcodojaaGreatDoor

namespace Go.Proofs.YtoingpafcodojaaGreatDoor
open Go.RowKit

theorem file_errA {s : List UInt8} {l c e : Nat} (h : fileS s = .err l c e) : 0 < e ∧ e ≤ 10 := by
 unfold fileS fileV at h
 rcases hl : lexV s with L | ⟨l', c', e'⟩ <;> rw [hl] at h <;> dsimp only at h
 ·obtain ⟨hL, hn⟩ := lexV_ok hl
  have := up_whole hL (L.length + 1) [] [] ⟨0, [], []⟩ 0 ⟨hL.1, by simp, by simp⟩
  split at h
  ·cases h
  ·rename_i i e0 hw
   rw [hw] at this
   cases h
   exact ⟨this.2.2.1, this.2.2.2⟩
 ·cases h
  have := lexV_err hl
  omega
set_option maxHeartbeats 4000000 in
theorem exprText_of (hw : CallsA Tryz.prog ΓL 9 [] (Tb true)) (s0 : List UInt8) (hs0 : s0.length ≤ 140737488351232) (e : EV) (hel : e.length ≤ 9223372036854775807) (hE : EnvOk e) :
  CallsA Tryz.prog ΓL 3 [c1 (ds (bs s0)), c1 (.sl 2 (e.map evD))] (Tb true) := by
 have hv := (envs_c e hel).gL
 have hAn : EnvOk (e.take 20) := fun p hp => hE p (List.mem_of_mem_take hp)
 have hAl : (e.take 20).length ≤ 20 := by rw [List.length_take]; omega
 generalize e.take 20 = A at *
 have hsz0 := bs_size s0
 obtain ⟨a, ha⟩ : ∃ a, min s0.length 300 = a := ⟨_, rfl⟩
 have e1 := ext_take s0 a
 obtain ⟨S, hS⟩ : ∃ S, s0.take a = S := ⟨_, rfl⟩
 have hSl : S.length ≤ 300 := by rw [← hS, List.length_take]; omega
 rw [hS] at e1
 have m1 : (if (300 : Int) < ((bs s0).size : Nat) then (300 : Int) else ((bs s0).size : Nat)) = (a : Nat) := by split <;> omega
 have e1 : (bs s0).extract (Int.toNat 0) ((a : Nat) : Int).toNat = bs S := e1
 have hsz1 := bs_size S
 obtain ⟨R, hR⟩ : ∃ R, fileS (textA S) = R := ⟨_, rfl⟩
 have hp := Parse_c (textA S)
 have hq := rParse_c (textA S)
 rw [hR] at hp hq
 have hp : CallsA Tryz.prog ΓL 7 [c1 (ds (bs preA ++ bs S ++ bs postA))] (parT R) := by
  rw [bs_app, bs_app]
  exact hp
 have hq : CallsA Tryz.prog ΓL 8 [c1 (ds (bs preA ++ bs S ++ bs postA))] (rparT R) := by
  rw [bs_app, bs_app]
  exact hq
 have q1 : (bs preA).size + (bs S).size ≤ 9223372036854775807 := by
  rw [hsz1]
  show 20 + S.length ≤ _
  omega
 have q2 : (bs preA ++ bs S).size + (bs postA).size ≤ 9223372036854775807 := by
  rw [ByteArray.size_append, hsz1]
  show 20 + S.length + 4 ≤ _
  omega
 rw [← e1] at hp hq q1 q2
 rcases R with ⟨cs, rs, xs, ts⟩ | ⟨l, c, er⟩
 ·obtain ⟨hxl, htl, hXn, hXk, hex⟩ := file_expr hR
  have hp : CallsA Tryz.prog ΓL 7 [c1 (ds (bs preA ++ (bs s0).extract (Int.toNat 0) ((a : Nat) : Int).toNat ++ bs postA))] (.tup [.c (.eptr (fileD cs rs xs ts)), gD [di 0, di 0], c1 (di 0)]) := hp
  have hq : CallsA Tryz.prog ΓL 8 [c1 (ds (bs preA ++ (bs s0).extract (Int.toNat 0) ((a : Nat) : Int).toNat ++ bs postA))] (.tup [gD (fileD cs rs xs ts), gD [di 0, di 0], c1 (di 0)]) := hq
  cases ts with
  | nil =>
   refine fn_rule (C := ⟨Tryz.prog, layF, Tryz.f3.ntmps, ΓL, 0, [], []⟩) layF_ok mixed Tryz.func3 rfl (by kernel_rfl) rfl rfl rfl ?_
   repeat' (first | refine qgs ?_ | refine eD ?_ ?_ <;> intro)
   refine ex_is _ m1 ?_
   repeat' (first | refine qgs ?_ | refine eD ?_ ?_ <;> intro)
   refine and_mk q1 ?_
   repeat' (first | refine qgs ?_ | refine eD ?_ ?_ <;> intro)
   refine and_mk q2 ?_
   repeat' (first | refine ex_call hp ?_ | refine qg1 ?_ | refine eD ?_ ?_ <;> intro)
   refine and_mk q1 ?_
   repeat' (first | refine qgs ?_ | refine eD ?_ ?_ <;> intro)
   refine and_mk q2 ?_
   repeat' (first | refine ex_call hw ?_ | refine ex_call hq ?_ | refine (ex_pn (by kernel_rfl) false (fun _ _ => by kernel_rfl)) ?_ | refine qg1 ?_ | refine eD ?_ ?_ <;> intro)
   exact TLe.rfl
  | cons t ts =>
   have hm : ((t :: ts).map tyD).length = ts.length + 1 := by simp
   have ht := hex t List.mem_cons_self
   have htl : ts.length + 1 ≤ 100000 := htl
   have hXl : (xs.map EX.ei).length ≤ 1000000 := by rw [List.length_map]; omega
   have hv1 := (eval_c (xs.map EX.ei) A (.sl 2 (cs.map coD)) (.sl 3 (rs.map rcD)) (.sl 8 ((t :: ts).map tyD)) t.ex hXn hAn (by omega) hXl hXk ⟨by omega, by omega⟩).gL
   have hv2 := (reval_c (xs.map EX.ei) A t.ex hXn (by omega) hAn hXl hXk ⟨by omega, by omega⟩).gL
   obtain ⟨⟨n, er⟩, hve⟩ : ∃ v, evalE (xs.map EX.ei) t.ex A = v := ⟨_, rfl⟩
   rw [hve] at hv1 hv2
   rw [← exD_map] at hv1 hv2
   have hv1 : CallsA Tryz.prog ΓL 11 [.c (.eptr (fileD cs rs xs (t :: ts))), c1 (di t.ex), c1 (.sl 2 (A.map evD))] (owT (n, er)) := hv1
   clear hex hXk hXn hE hAn
   refine fn_rule (C := ⟨Tryz.prog, layF, Tryz.f3.ntmps, ΓL, 0, [], []⟩) layF_ok mixed Tryz.func3 rfl (by kernel_rfl) rfl rfl rfl ?_
   repeat' (first | refine qgs ?_ | refine eD ?_ ?_ <;> intro)
   refine ex_is _ m1 ?_
   repeat' (first | refine qgs ?_ | refine eD ?_ ?_ <;> intro)
   refine and_mk q1 ?_
   repeat' (first | refine qgs ?_ | refine eD ?_ ?_ <;> intro)
   refine and_mk q2 ?_
   repeat' (first | refine ex_call hp ?_ | refine qg1 ?_ | refine eD ?_ ?_ <;> intro)
   refine and_mk q1 ?_
   repeat' (first | refine qgs ?_ | refine eD ?_ ?_ <;> intro)
   refine and_mk q2 ?_
   repeat' (first | refine ex_call hv ?_ | refine ex_call hw ?_ | refine ex_call hq ?_ | refine (ex_row (l := t :: ts) 0 t rfl rfl) ?_ | refine (ex_is _ hm) ?_ | refine (ex_pn (by kernel_rfl) false (fun _ _ => by kernel_rfl)) ?_ | refine qg1 ?_ | refine eD ?_ ?_ <;> intro)
   refine ex_callM (hv1.toM (by kernel_rfl) (by kernel_rfl) _) ?_
   repeat' (first | refine ex_call hv2 ?_ | refine (ex_row (l := t :: ts) 0 t rfl rfl) ?_ | refine (ex_is _ hm) ?_ | refine qg1 ?_ | refine eD ?_ ?_ <;> intro)
   exact TLe.rfl
 ·have he := file_errA hR
  have hp : CallsA Tryz.prog ΓL 7 [c1 (ds (bs preA ++ (bs s0).extract (Int.toNat 0) ((a : Nat) : Int).toNat ++ bs postA))] (.tup [c1 dnp, gD [di l, di c], c1 (di er)]) := hp
  have hq : CallsA Tryz.prog ΓL 8 [c1 (ds (bs preA ++ (bs s0).extract (Int.toNat 0) ((a : Nat) : Int).toNat ++ bs postA))] (.tup [gD [dnil, dnil, dnil, dnil], gD [di l, di c], c1 (di er)]) := hq
  refine fn_rule (C := ⟨Tryz.prog, layF, Tryz.f3.ntmps, ΓL, 0, [], []⟩) layF_ok mixed Tryz.func3 rfl (by kernel_rfl) rfl rfl rfl ?_
  repeat' (first | refine qgs ?_ | refine eD ?_ ?_ <;> intro)
  refine ex_is _ m1 ?_
  repeat' (first | refine qgs ?_ | refine eD ?_ ?_ <;> intro)
  refine and_mk q1 ?_
  repeat' (first | refine qgs ?_ | refine eD ?_ ?_ <;> intro)
  refine and_mk q2 ?_
  repeat' (first | refine ex_call hp ?_ | refine qg1 ?_ | refine eD ?_ ?_ <;> intro)
  refine and_mk q1 ?_
  repeat' (first | refine qgs ?_ | refine eD ?_ ?_ <;> intro)
  refine and_mk q2 ?_
  repeat' (first | refine ex_call hw ?_ | refine ex_call hq ?_ | refine qg1 ?_ | refine eD ?_ ?_ <;> intro)
  exact TLe.rfl
end Go.Proofs.YtoingpafcodojaaGreatDoor

namespace Go.Proofs.YtoingpafcodojaaGreatDoor
open Go.RowKit

def cutK (x : EI) : EI := { x with kids := x.kids.take 4 }
def fxD (xs : List EI) : List D := [dnil, dnil, .sl 5 (xs.map eiD), dnil]
end Go.Proofs.YtoingpafcodojaaGreatDoor

namespace Go.Proofs.YtoingpafcodojaaGreatDoor
open Go.RowKit Go.Shelf

def zqO : List UInt8 := [122, 113, 95, 111, 116, 104, 101, 114]
def zqL : List UInt8 := [122, 113, 95, 108, 97, 115, 116]
def MoreOk (A M : EV) : Prop := ∀ p ∈ M, (p.1 = zqO ∨ ∃ r ∈ A, r.1 = p.1) ∧ p.2 < 18446744073709551616
end Go.Proofs.YtoingpafcodojaaGreatDoor

namespace Go.Proofs.YtoingpafcodojaaGreatDoor
open Go.RowKit

def ΓW : Glob := ⟨ΓL.G, ΓL.mono, [15], ΓL.gl, ΓL.gok⟩
end Go.Proofs.YtoingpafcodojaaGreatDoor

namespace Go.Proofs.YtoingpafcodojaaGreatDoor
open Go.RowKit
section
variable {P : Program}
def EqT (P : Program) (d : Nat) (t : TypeId) (x y : Value) (c : Bool) : Prop := ∀ w, (Op.equalIn d t x y).run P w = .ok c w
def EqFs (P : Program) (d : Nat) (xs ys : List Value) (fs : List Field) (c : Bool) : Prop := ∀ w, (Op.eqFields d xs.toArray ys.toArray fs).run P w = .ok c w
def PartI (P : Program) (t : TypeId) (xs : List Value) (off : Nat) (x : Value) : Prop := ∀ w, (part t xs.toArray off).run P w = .ok x w
def fieldsK (P : Program) (t : TypeId) : List (Bool × Nat × Nat) := (P.fieldsOf t).toList.map fun f => (f.name != "_", f.type, f.offset)
def EqKs (P : Program) (d : Nat) (xs ys : List Value) (ks : List (Bool × Nat × Nat)) (c : Bool) : Prop := ∀ fs : List Field, fs.map (fun f => (f.name != "_", f.type, f.offset)) = ks → EqFs P d xs ys fs c
def isAggB (P : Program) (t : TypeId) : Bool := match P.underlying t with
 | some (.struct _) | some (.array _ _) => true
 | _ => false
def leafI (xs ys : List Value) : Option Bool := match xs, ys with
 | [.int k a], [.int k' b] => if k = k' then some (decide (a = b)) else none
 | _, _ => none
def leafS (xs ys : List Value) : Option Bool := match xs, ys with
 | [.string a], [.string b] => some (decide (a = b))
 | _, _ => none
def leafB (xs ys : List Value) : Option Bool := match xs, ys with
 | [.bool a], [.bool b] => some (decide (a = b))
 | _, _ => none
def eqV (P : Program) : Nat → TypeId → List Value → List Value → Option Bool
 | 0, _, _, _ => none
 | d + 1, t, xs, ys => match P.underlying t with
  | some (.int _) => leafI xs ys
  | some .string => leafS xs ys
  | some .bool => leafB xs ys
  | some (.struct fs) => match P.stoodInHeld t, P.info? t with
   | false, some _ => fs.toList.foldr (fun f r => match f.name != "_", eqV P d f.type ((xs.drop f.offset).take (P.cellsOf f.type)) ((ys.drop f.offset).take (P.cellsOf f.type)), r with
    | true, some b, some c => some (b && c)
    | _, _, _ => none) (some true)
   | _, _ => none
  | some (.array n e) => match P.info? e, P.info? t with
   | some _, some _ => (List.range n).foldr (fun i r => match eqV P d e ((xs.drop (i * P.cellsOf e)).take (P.cellsOf e)) ((ys.drop (i * P.cellsOf e)).take (P.cellsOf e)), r with
    | some b, some c => some (b && c)
    | _, _ => none) (some true)
   | _, _ => none
  | _ => none
def packV (P : Program) (t : TypeId) (xs : List Value) : Value := match isAggB P t with
 | true => .agg xs.toArray
 | false => xs.headD undef
end
end Go.Proofs.YtoingpafcodojaaGreatDoor

namespace Go.Proofs.YtoingpafcodojaaGreatDoor
open Go.RowKit

end Go.Proofs.YtoingpafcodojaaGreatDoor

namespace Go.Proofs.YtoingpafcodojaaGreatDoor
open Go.ChangeShapes Go.WideShapes Go.ChangeAt Go.RowKit

def tilesF (P : Program) : Nat → List Field → Nat → Bool
 | o, [], n => Nat.beq o n
 | o, f :: fs, n => Nat.beq f.offset o && tilesF P (o + P.cellsOf f.type) fs n
def okT (P : Program) : Nat → TypeId → Bool
 | 0, _ => false
 | d + 1, t => match P.underlying t with
  | some .bool | some (.int _) | some .string => true
  | some (.slice e) => Nat.blt 0 (P.cellsOf e) && okT P d e
  | some (.array n e) => Nat.beq (n * P.cellsOf e) (P.cellsOf t) && okT P d e
  | some (.struct fs) => tilesF P 0 fs.toList (P.cellsOf t) && fs.toList.all fun f => okT P d f.type
  | _ => false
def DT (P : Program) : Nat → TypeId → List D → Prop
 | 0, _, _ => False
 | d + 1, t, ds => match P.underlying t with
  | some .bool => ∃ b, ds = [.v (.bool b)]
  | some (.int k) => ∃ z, ds = [.v (.int k z)] ∧ (Lit.int k z).wf = true
  | some .string => ∃ s, ds = [.v (.string s)] ∧ s.size ≤ maxLen
  | some (.slice e) => ∃ rows, ds = [.sl (P.cellsOf e) rows] ∧ rows.length ≤ maxLen ∧ ∀ r ∈ rows, DT P d e r
  | some (.array n e) => ∃ ps : List (List D), ps.length = n ∧ ds = ps.flatten ∧ ∀ p ∈ ps, DT P d e p
  | some (.struct fs) => ∃ ps : List (List D), ds = ps.flatten ∧ All2 (fun (f : Field) p => DT P d f.type p) fs.toList ps
  | _ => False
theorem choose_list {α : Type} {Q : Nat → α → Prop} : ∀ {n : Nat}, (∀ i, i < n → ∃ a, Q i a) → ∃ L : List α, L.length = n ∧ ∀ i a, L[i]? = some a → Q i a
 | 0, _ => ⟨[], rfl, fun i a h => by simp at h⟩
 | n + 1, h => by
  obtain ⟨L, h1, h2⟩ := choose_list (n := n) (fun i hi => h i (by omega))
  obtain ⟨a, ha⟩ := h n (by omega)
  refine ⟨L ++ [a], by simp [h1], fun i b hb => ?_⟩
  rw [List.getElem?_append] at hb
  split at hb
  ·exact h2 i b hb
  ·rename_i hlt
   have hi : i - L.length = 0 := by
    rcases Nat.eq_zero_or_pos (i - L.length) with h | h
    ·exact h
    ·rw [List.getElem?_eq_none (by simp; omega)] at hb; cases hb
   rw [hi] at hb
   simp at hb
   obtain rfl : i = n := by omega
   rw [← hb]; exact ha
theorem flatten_at {α : Type} {size : Nat} (h0 : 0 < size) : ∀ {rows : List (List α)} (_ : ∀ r ∈ rows, r.length = size) {j : Nat} {d : α}, rows.flatten[j]? = some d → ∃ r, rows[j / size]? = some r ∧ r[j % size]? = some d
 | [], _, j, d, h => by simp at h
 | a :: rows, hr, j, d, h => by
  have ha := hr a (by simp)
  by_cases hj : j < size
  ·rw [List.flatten_cons, List.getElem?_append_left (by omega)] at h
   rw [Nat.div_eq_of_lt hj, Nat.mod_eq_of_lt hj]
   exact ⟨a, rfl, h⟩
  ·rw [List.flatten_cons, List.getElem?_append_right (by omega), ha] at h
   obtain ⟨r, h1, h2⟩ := flatten_at h0 (fun r hr' => hr r (by simp [hr'])) h
   refine ⟨r, ?_, ?_⟩
   ·rw [show j / size = (j - size) / size + 1 by rw [Nat.div_eq_sub_div h0 (by omega)]]
    simpa using h1
   ·rw [Nat.mod_eq_sub_mod (by omega)]; exact h2
def Sall (w : World) : Nat → Prop := fun b => b < w.heap.size
theorem cell_lt {w : World} {a : Addr} {u : Value} (h : w.cell? a = some u) : a.block < w.heap.size ∧ a.spot = none := by
 unfold World.cell? at h
 split at h
 ·rename_i c t f hc
  refine ⟨(Array.getElem?_eq_some_iff.1 hc).1, ?_⟩
  split at h
  ·cases h
  ·rename_i hs
   cases hsp : a.spot with
   | none => rfl
   | some k => rw [hsp] at hs; simp at hs
 ·cases h
theorem cells_get {w : World} {base : Nat} {a : Addr} {n : Nat} {cs : List Value} (h : w.cells? base a n = some cs) : cs.length = n ∧ ∀ i, i < n → w.cell? (a.add i) = cs[i]? := by
 unfold World.cells? at h
 split at h
 ·obtain ⟨h1, h2⟩ := mapM_isSome h
  rw [List.length_range] at h1
  refine ⟨h1.symm, fun i hi => ?_⟩
  obtain ⟨b, hb1, hb2⟩ := h2 i i (by simp [hi])
  rw [hb1, hb2]
 ·cases h
section
variable {H : Type} {enc : TypeId × Value → H} {P : Program} {w : World} {base : Nat} {sp : Nat → Bool} {held : Bool}
theorem parts_all {R : D → Value → Prop} {T : Field → List D → Prop} : ∀ (fs : List Field) (o : Nat) (cs : List Value) (n : Nat), cs.length = n → tilesF P o fs n = true → o ≤ n →
  (∀ f ∈ fs, ∃ ds, T f ds ∧ All2 R ds ((cs.drop f.offset).take (P.cellsOf f.type))) → ∃ ps : List (List D), All2 T fs ps ∧ All2 R ps.flatten (cs.drop o)
 | [], o, cs, n, hl, ht, _, _ => by
  have : o = n := Nat.eq_of_beq_eq_true ht
  exact ⟨[], .nil, by rw [List.drop_of_length_le (by omega)]; exact .nil⟩
 | f :: fs, o, cs, n, hl, ht, ho, h => by
  simp only [tilesF, Bool.and_eq_true] at ht
  have ho' : f.offset = o := Nat.eq_of_beq_eq_true ht.1
  obtain ⟨ds, h1, h2⟩ := h f (by simp)
  have hle : o + P.cellsOf f.type ≤ n := by
   have key : ∀ (fs : List Field) (o : Nat), tilesF P o fs n = true → o ≤ n := fun fs => by
    induction fs with
    | nil => intro o h; exact Nat.le_of_eq (Nat.eq_of_beq_eq_true h)
    | cons g gs ih =>
     intro o h
     simp only [tilesF, Bool.and_eq_true] at h
     have := ih _ h.2
     omega
   exact key fs _ ht.2
  obtain ⟨ps, h3, h4⟩ := parts_all fs _ cs n hl ht.2 hle (fun g hg => h g (by simp [hg]))
  refine ⟨ds :: ps, .cons h1 h3, ?_⟩
  rw [List.flatten_cons, ho'] at *
  have := h2.append h4
  rwa [← List.drop_drop, List.take_append_drop] at this
theorem trod_dt : ∀ (d fuel : Nat) (t : TypeId) (cs : List Value) (x : DataW H × List MemPlace), okT P d t = true → DataW.trod enc P w base sp held fuel t cs = some x → ∃ ds, DT P d t ds ∧ All2 (Imm (Sall w) w) ds cs
 | 0, _, _, _, _, h, _ => by cases h
 | d + 1, fuel, t, cs, x, hok, h => by
  unfold okT at hok
  unfold DT
  split at hok
  ·rename_i hu
   obtain ⟨b, rfl, _⟩ := DataW.trod_bool hu h
   exact ⟨_, ⟨b, rfl⟩, .cons (Imm.v rfl) .nil⟩
  ·rename_i k hu
   obtain ⟨n, rfl, _, hw⟩ := DataW.trod_int hu h
   exact ⟨_, ⟨n, rfl, hw⟩, .cons (Imm.v rfl) .nil⟩
  ·rename_i hu
   obtain ⟨s, rfl, _, hs⟩ := DataW.trod_string hu h
   exact ⟨_, ⟨s, rfl, hs⟩, .cons (Imm.v rfl) .nil⟩
  ·rename_i e hu
   simp only [Bool.and_eq_true] at hok
   have h0 : 0 < P.cellsOf e := Nat.lt_of_succ_le (Nat.le_of_ble_eq_true hok.1)
   rcases DataW.trod_slice hu h with ⟨rfl, _⟩ | ⟨a, len, cap, elems, rest, n, _, rfl, _, _, hlc, hcm, hel, hel2, _⟩
   ·exact ⟨_, ⟨[], rfl, by simp, by simp⟩, .cons Imm.nil .nil⟩
   ·have hone : ∀ i, i < len → ∃ ds, DT P d e ds ∧ ∃ cs', w.cells? base (a.add (i * P.cellsOf e)) (P.cellsOf e) = some cs' ∧ All2 (Imm (Sall w) w) ds cs' := fun i hi => by
     have h1 := hel2 i hi
     rw [List.getElem?_eq_getElem (by omega)] at h1
     obtain ⟨cs', h2, h3⟩ := Option.bind_eq_some_iff.1 h1
     obtain ⟨ds, h4, h5⟩ := trod_dt d n e cs' _ hok.2 h3
     exact ⟨ds, h4, cs', h2, h5⟩
    obtain ⟨rows, hr1, hr2⟩ := choose_list hone
    have hrm : ∀ r ∈ rows, ∃ i, i < len ∧ rows[i]? = some r := fun r hr => by
     obtain ⟨i, hi⟩ := List.getElem?_of_mem hr
     exact ⟨i, by have := (List.getElem?_eq_some_iff.1 hi).1; omega, hi⟩
    have hdt : ∀ r ∈ rows, DT P d e r := fun r hr => by
     obtain ⟨i, _, hi⟩ := hrm r hr
     exact (hr2 i r hi).1
    have hrl : ∀ r ∈ rows, r.length = P.cellsOf e := fun r hr => by
     obtain ⟨i, _, hi⟩ := hrm r hr
     obtain ⟨_, cs', h2, h3⟩ := hr2 i r hi
     rw [h3.len, (cells_get h2).1]
    refine ⟨_, ⟨rows, rfl, by omega, hdt⟩, .cons ?_ .nil⟩
    by_cases hz : len = 0
    ·subst hz
     obtain rfl := List.eq_nil_of_length_eq_zero hr1
     exact Imm.sl0
    ·obtain ⟨r0, _, cs0, h2, _⟩ := hone 0 (by omega)
     have h3 := (cells_get h2).2 0 h0
     rw [Nat.zero_mul] at h3
     have e0 : (a.add 0).add 0 = a := rfl
     rw [e0, List.getElem?_eq_getElem (by rw [(cells_get h2).1]; exact h0)] at h3
     obtain ⟨hb, hs⟩ := cell_lt h3
     obtain ⟨g, f, spot⟩ := a
     simp only at hs hb
     subst hs
     rw [← hr1]
     have hat : ∀ j dd, rows.flatten[j]? = some dd → ∃ u, w.cell? ⟨g, f + j, none⟩ = some u ∧ Imm (Sall w) w dd u := fun j dd hj => by
      obtain ⟨r, e1, e2⟩ := flatten_at h0 hrl hj
      obtain ⟨_, cs', e3, e4⟩ := hr2 _ r e1
      obtain ⟨u, e5, e6⟩ := e4.at_left e2
      refine ⟨u, ?_, e6⟩
      have e7 := (cells_get e3).2 (j % P.cellsOf e) (Nat.mod_lt _ h0)
      rw [Addr.add_lit, Addr.add_lit, e5] at e7
      rw [← e7]
      congr 2
      rw [Nat.add_assoc, Nat.mul_comm, Nat.div_add_mod]
     refine Imm.sl (fun j => (w.cell? ⟨g, f + j, none⟩).getD undef) hb (by omega) hrl (fun j dd hj => ?_) (fun j dd hj => ?_)
     ·obtain ⟨u, e1, _⟩ := hat j dd hj
      rw [e1]; rfl
     ·obtain ⟨u, e1, e2⟩ := hat j dd hj
      rw [e1]; exact e2
  ·rename_i n e hu
   simp only [Bool.and_eq_true] at hok
   have hn : n * P.cellsOf e = P.cellsOf t := Nat.eq_of_beq_eq_true hok.1
   obtain ⟨xs, m, _, _, hl, hx, hall⟩ := DataW.trod_array hu h
   have hone : ∀ i, i < n → ∃ ds, DT P d e ds ∧ All2 (Imm (Sall w) w) ds ((cs.drop (i * P.cellsOf e)).take (P.cellsOf e)) := fun i hi => by
    have h1 := hall i hi
    rw [List.getElem?_eq_getElem (by omega)] at h1
    exact trod_dt d m e _ _ hok.2 h1
   obtain ⟨ps, hp1, hp2⟩ := choose_list hone
   refine ⟨ps.flatten, ⟨ps, hp1, rfl, fun p hp => ?_⟩, ?_⟩
   ·obtain ⟨i, hi⟩ := List.getElem?_of_mem hp
    exact (hp2 i p hi).1
   ·have key : ∀ (ps : List (List D)) (o : Nat), (∀ i p, ps[i]? = some p → All2 (Imm (Sall w) w) p ((cs.drop ((o + i) * P.cellsOf e)).take (P.cellsOf e))) → (o + ps.length) * P.cellsOf e = cs.length → All2 (Imm (Sall w) w) ps.flatten (cs.drop (o * P.cellsOf e)) := fun ps => by
     induction ps with
     | nil => intro o _ hlen; rw [List.drop_of_length_le (by simp at hlen; omega)]; exact .nil
     | cons p ps ih =>
      intro o hp hlen
      have h1 := hp 0 p rfl
      have h2 := ih (o + 1) (fun i q hq => by have := hp (i + 1) q (by simpa using hq); rwa [show o + 1 + i = o + (i + 1) by omega]) (by rw [← hlen, List.length_cons]; congr 1; omega)
      rw [List.flatten_cons]
      have := h1.append h2
      rwa [Nat.add_zero, Nat.add_mul, Nat.one_mul, ← List.drop_drop, List.take_append_drop] at this
    have := key ps 0 (fun i p hi => by rw [Nat.zero_add]; exact (hp2 i p hi).2) (by rw [Nat.zero_add, hp1, hn, hl])
    simpa using this
  ·rename_i fs hu
   simp only [Bool.and_eq_true] at hok
   obtain ⟨xs, m, _, _, hl, hx, hall⟩ := DataW.trod_struct hu h
   obtain ⟨ps, h1, h2⟩ := parts_all (R := Imm (Sall w) w) (T := fun f p => DT P d f.type p) fs.toList 0 cs _ hl hok.1 (Nat.zero_le _) (fun f hf => by
    obtain ⟨i, hi⟩ := List.getElem?_of_mem hf
    have hlt := (List.getElem?_eq_some_iff.1 hi).1
    have h1 := hall i f (by simpa using hi)
    rw [List.getElem?_eq_getElem (by simp at hlt; omega)] at h1
    exact trod_dt d m f.type _ _ (List.all_eq_true.1 hok.2 f hf) h1)
   exact ⟨ps.flatten, ⟨ps, rfl, h1⟩, by simpa using h2⟩
  ·cases hok
theorem open_dt {d : Nat} {r : Reach} {b0 : Nat} {t : TypeId} {v : Value} {dd : DataW H} {ps : List MemPlace} (hok : okT P d t = true) (hag : (P.underlying t).map aggD = some false) (hval : Value.okWide P w r b0 t v) (hd : DataW.Trod enc P w base sp held t v dd ps) :
  ∃ x, DT P d t [x] ∧ Imm (Sall w) w x v := by
 obtain ⟨fuel, hf⟩ := hd
 obtain ⟨ds, h1, h2⟩ := trod_dt d fuel t _ _ hok hf
 have hone : v.oneCell' = true := by
  cases d with
  | zero => cases hok
  | succ d =>
   unfold okT at hok
   split at hok
   ·rename_i hu; obtain ⟨b, rfl⟩ := okWide_bool hu hval; rfl
   ·rename_i hu; obtain ⟨n, rfl⟩ := okWide_int hu hval; rfl
   ·rename_i hu; obtain ⟨s, rfl⟩ := okWide_string hu hval; rfl
   ·rename_i hu; obtain ⟨a, l, c, rfl⟩ := okWide_slice hu hval; rfl
   ·rename_i hu; rw [hu] at hag; cases hag
   ·rename_i hu; rw [hu] at hag; cases hag
   ·cases hok
 rw [oneCell_cells hone] at h2
 have hl := h2.len
 match ds, h2, hl with
 | [x], h2, _ => exact ⟨x, h1, h2.head⟩
end
end Go.Proofs.YtoingpafcodojaaGreatDoor

namespace Go.Proofs.YtoingpafcodojaaGreatDoor
open Go.ChangeShapes Go.WideShapes Go.ChangeAt Go.RowKit Go.ChangeMaps


theorem iface_open {P : Program} {w : World} {base fuel : Nat} {sp : Nat → Bool} {held : Bool} {enc : TypeId × Value → Unit} {t : TypeId} {l : List Value} {x : DataW Unit × List MemPlace} {ms : Array (String × TypeId)} (hi : P.underlying t = some (.interface ms))
  (hd : DataW.trod enc P w base sp held fuel t l = some x) : l = [.nilIface] ∨ ∃ u v, l = [.iface u v] := by
 cases fuel with
 | zero => cases hd
 | succ f =>
  simp only [DataW.trod, hi] at hd
  split at hd <;> first | exact .inl rfl | exact .inr ⟨_, _, rfl⟩ | (cases hd; done) | (rename_i h1; cases h1; done) | (rename_i h1 h2; cases h1; done) | (rename_i h1 h2 h3; cases h1; done)
theorem errAt_of {W : World} {n : String} {g : Nat} {cs : Array Value} (hg : Tryz.prog.globalNamed n = some g) (hv : W.var? Tryz.prog n = some cs) (h : cs.toList = [.nilIface] ∨ ∃ u v, cs.toList = [.iface u v]) : ErrAt W g ∧ g < W.heap.size := by
 have hc : ∀ ev, cs.toList = [ev] → W.cell? ⟨g, 0, none⟩ = some ev := fun ev he => by
  rw [World.var?_cell hg hv 0]
  have : cs = #[ev] := by cases cs; simpa using he
  rw [this]; rfl
 refine ⟨?_, ?_⟩
 ·rcases h with h | ⟨u, v, h⟩
  ·exact ⟨_, hc _ h, .inl rfl⟩
  ·exact ⟨_, hc _ h, .inr ⟨u, v, rfl⟩⟩
 ·unfold World.var? at hv
  rw [hg] at hv
  simp only [Option.bind_some] at hv
  by_cases hl : g < W.heap.size
  ·exact hl
  ·rw [Array.getElem?_eq_none (by omega)] at hv; cases hv

theorem list_of {α : Type} {f : α → List D} {p : α → Prop} : ∀ {rows : List (List D)}, (∀ r ∈ rows, ∃ x, p x ∧ r = f x) → ∃ l : List α, rows = l.map f ∧ ∀ x ∈ l, p x
 | [], _ => ⟨[], rfl, by simp⟩
 | r :: rows, h => by
  obtain ⟨x, h1, h2⟩ := h r (by simp)
  obtain ⟨l, h3, h4⟩ := list_of (rows := rows) (f := f) (p := p) (fun q hq => h q (List.mem_cons_of_mem _ hq))
  refine ⟨x :: l, by rw [h2, h3]; rfl, fun y hy => ?_⟩
  rcases List.mem_cons.1 hy with rfl | hy
  ·exact h1
  ·exact h4 y hy
section
variable {P : Program} {d : Nat} {t : TypeId} {ds : List D}
theorem DT_int {k : IntKind} (hu : P.underlying t = some (.int k)) (h : DT P (d + 1) t ds) : ∃ z, ds = [.v (.int k z)] ∧ (Lit.int k z).wf = true := by
 unfold DT at h; rw [hu] at h; exact h
theorem DT_bool (hu : P.underlying t = some .bool) (h : DT P (d + 1) t ds) : ∃ b, ds = [.v (.bool b)] := by
 unfold DT at h; rw [hu] at h; exact h
theorem DT_str (hu : P.underlying t = some .string) (h : DT P (d + 1) t ds) : ∃ s, ds = [.v (.string s)] ∧ s.size ≤ maxLen := by
 unfold DT at h; rw [hu] at h; exact h
theorem DT_slice {e : TypeId} (hu : P.underlying t = some (.slice e)) (h : DT P (d + 1) t ds) : ∃ rows, ds = [.sl (P.cellsOf e) rows] ∧ rows.length ≤ maxLen ∧ ∀ r ∈ rows, DT P d e r := by
 unfold DT at h; rw [hu] at h; exact h
theorem DT_struct {fs : Array Field} (hu : P.underlying t = some (.struct fs)) (h : DT P (d + 1) t ds) : ∃ ps : List (List D), ds = ps.flatten ∧ All2 (fun (f : Field) p => DT P d f.type p) fs.toList ps := by
 unfold DT at h; rw [hu] at h; exact h
theorem DT_array {n : Nat} {e : TypeId} (hu : P.underlying t = some (.array n e)) (h : DT P (d + 1) t ds) : ∃ ps : List (List D), ps.length = n ∧ ds = ps.flatten ∧ ∀ p ∈ ps, DT P d e p := by
 unfold DT at h; rw [hu] at h; exact h
end
theorem cells_of_strs {H : Type} {enc : TypeId × Value → H} {P : Program} {w : World} {base : Nat} {sp : Nat → Bool} {held : Bool} {fuel : Nat} {t e : TypeId} {n : Nat} {cs : List Value} {zs : List (List UInt8)} {p : List MemPlace}
  (ht : P.underlying t = some (.array n e)) (he : P.underlying e = some .string) (hce : P.cellsOf e = 1) (hct : P.cellsOf t = n)
  (h : DataW.trod enc P w base sp held fuel t cs = some (.agg (zs.map fun z => .lit (.string z)), p)) : cs = zs.map fun z => Value.string (bs z) := by
 cases fuel with
 | zero => simp [DataW.trod] at h
 | succ fuel =>
  simp only [DataW.trod, ht, hce, hct, Nat.mul_one] at h
  split at h
  ·rename_i hl
   obtain ⟨xs, hm, hx⟩ := Option.map_eq_some_iff.1 h
   have hxs : xs.map (·.1) = zs.map fun z => (DataW.lit (.string z) : DataW H) := by
    have := congrArg Prod.fst hx
    simpa using this
   have hxl : xs.length = n := by simpa using Lib.mapM_length hm
   have hzl : zs.length = n := by
    have := congrArg List.length hxs
    simp at this
    omega
   apply List.ext_getElem?
   intro i
   by_cases hi : i < n
   ·obtain ⟨b, hb, hf⟩ := Lib.mapM_at hm i i (by simp [hi])
    obtain ⟨z, hc, rfl, _⟩ := DataW.trod_string he hf
    have h1 : cs[i]? = some (.string z) := by
     have := congrArg (·[0]?) hc
     simpa [List.getElem?_take, List.getElem?_drop] using this
    have h2 : (xs.map (·.1))[i]? = some (DataW.lit (.string z.data.toList) : DataW H) := by simp [hb]
    rw [hxs] at h2
    simp only [List.getElem?_map, Option.map_eq_some_iff, DataW.lit.injEq, Lit.string.injEq] at h2
    obtain ⟨z', hz', rfl⟩ := h2
    simp [h1, hz']
   ·rw [List.getElem?_eq_none (by omega), List.getElem?_eq_none (by simp; omega)]
  ·cases h
theorem glob_env {W : World} (h : laidMetH Tryz.prog Rows.exprEnvRow.laid W) (hs : W.ShapedOpen Tryz.prog) : ΓL.G (Sall W) W := by
 obtain ⟨m, hm⟩ := Tryz.laysM145.s1_3 W hs
 rw [MakeChecks.laidMetH_plain _ _ _ (by kernel_rfl)] at h
 obtain ⟨ps, h, -⟩ := h
 obtain ⟨g1, t1, c1, f1, p1, q1, -, -, -, -, h, -⟩ := h
 obtain ⟨g2, t2, c2, f2, p2, q2, -, -, -, -, h, -⟩ := h
 obtain ⟨g3, t3, c3, f3, p3, q3, -, -, -, -, h, -⟩ := h
 obtain ⟨g0, t0, c0, f0, p0, q0, -, -, -, -, h, -⟩ := h
 obtain ⟨g4, t4, c4, f4, p4, q4, hg4, ht4, hv4, hd4, h, -⟩ := h
 obtain ⟨g5, t5, c5, f5, p5, q5, hg5, ht5, hv5, hd5, h, -⟩ := h
 obtain ⟨g6, t6, c6, f6, p6, q6, hg6, ht6, hv6, hd6, h, -⟩ := h
 obtain rfl := Option.some.inj ((show Tryz.prog.globalNamed "strconv.ErrRange" = some 3 by kernel_rfl).symm.trans hg4)
 obtain rfl := Option.some.inj ((show Tryz.prog.globalNamed "strconv.ErrSyntax" = some 2 by kernel_rfl).symm.trans hg5)
 obtain rfl := Option.some.inj ((show Tryz.prog.globalNamed "calliper/lex.signs" = some 0 by kernel_rfl).symm.trans hg6)
 obtain rfl := Option.some.inj ((show (Tryz.prog.globals[3]?).map (·.type) = some 193 by kernel_rfl).symm.trans ht4)
 obtain rfl := Option.some.inj ((show (Tryz.prog.globals[2]?).map (·.type) = some 193 by kernel_rfl).symm.trans ht5)
 obtain rfl := Option.some.inj ((show (Tryz.prog.globals[0]?).map (·.type) = some 169 by kernel_rfl).symm.trans ht6)
 have e4 := errAt_of hg4 hv4 (iface_open Tryz.underlying193 hd4)
 have e5 := errAt_of hg5 hv5 (iface_open Tryz.underlying193 hd5)
 have hc := cells_of_strs (zs := signsL) (n := 29) (t := 169) (e := 9) (by kernel_rfl) (by kernel_rfl) (by kernel_rfl) (by kernel_rfl) hd6
 refine ⟨e5, e4, ⟨m, hm, (cell_lt hm).1⟩, fun j l hj => ?_, ?_⟩
 ·rw [World.var?_cell hg6 hv6 j]
  have : c6 = ⟨signsL.map fun z => Value.string (bs z)⟩ := by cases c6; simpa using hc
  rw [this]
  rw [show (⟨signsL.map fun z => Value.string (bs z)⟩ : Array Value) = (signsL.map fun z => Value.string (bs z)).toArray from rfl, List.getElem?_toArray, List.getElem?_map, hj]
  rfl
 ·have hv := hv6
  unfold World.var? at hv
  rw [hg6] at hv
  simp only [Option.bind_some] at hv
  show 0 < W.heap.size
  by_cases hl : 0 < W.heap.size
  ·exact hl
  ·rw [Array.getElem?_eq_none (by omega)] at hv; cases hv
theorem dt_vars {d : Nat} {x : D} (h : DT Tryz.prog (d + 3) 22 [x]) : ∃ l : EV, x = .sl 2 (l.map evD) ∧ l.length ≤ 9223372036854775807 ∧ ∀ p ∈ l, p.2 < 18446744073709551616 := by
 obtain ⟨rows, h1, h2, h3⟩ := DT_slice Tryz.underlying22 h
 obtain ⟨l, h4, h5⟩ := list_of (f := evD) (p := fun v : BV => v.2 < 18446744073709551616) (fun r hr => by
  obtain ⟨ps, e1, hp⟩ := DT_struct Tryz.underlying112 (h3 r hr)
  obtain ⟨p0, ps, rfl, q0, hp⟩ := hp.cons_left
  obtain ⟨p1, ps, rfl, q1, hp⟩ := hp.cons_left
  obtain rfl := hp.nil_left
  obtain ⟨s, rfl, -⟩ := DT_str Tryz.underlying9 q0
  obtain ⟨z3, rfl, w3⟩ := DT_int Tryz.underlying50 q1
  have h1 := wf_u64 w3
  obtain ⟨n, rfl⟩ := Int.eq_ofNat_of_zero_le h1.1
  refine ⟨⟨s.data.toList, n⟩, by have := h1.2; show n < _; omega, ?_⟩
  rw [e1]
  show _ = [ds (bs s.data.toList), du n]
  rw [show bs s.data.toList = s by simp [bs]]
  rfl)
 have e : Tryz.prog.cellsOf 112 = 2 := by kernel_rfl
 rw [e, h4] at h1
 cases h1
 rw [h4, List.length_map] at h2
 exact ⟨l, rfl, h2, h5⟩
theorem bs_list (s : ByteArray) : bs s.data.toList = s := by simp [bs]
end Go.Proofs.YtoingpafcodojaaGreatDoor

namespace Go.Proofs.YtoingpafcodojaaGreatDoor
open Go.ChangeShapes Go.WideShapes Go.ChangeAt Go.RowKit Go.ChangeMaps

theorem glob_only {W : World} (h : laidMetH Tryz.prog Rows.exprOnlyRow.laid W) (hs : W.ShapedOpen Tryz.prog) : ΓL.G (Sall W) W := glob_env h hs
theorem bs_back (s : ByteArray) : ds (bs s.data.toList) = D.v (.string s) := by rw [bs_list]
theorem dt_exprs {d : Nat} {x : D} (h : DT Tryz.prog (d + 4) 71 [x]) : ∃ l : List EI, x = .sl 5 (l.map eiD) ∧ l.length ≤ 9223372036854775807 ∧ (∀ v ∈ l, v.kids.length ≤ 9223372036854775807) ∧ XsOk l := by
 obtain ⟨rows, h1, h2, h3⟩ := DT_slice Tryz.underlying71 h
 obtain ⟨l, h4, h5⟩ := list_of (f := eiD) (p := fun v : EI => v.kids.length ≤ 9223372036854775807 ∧ v.n < 18446744073709551616) (fun r hr => by
  obtain ⟨ps, e1, hp⟩ := DT_struct Tryz.underlying126 (h3 r hr)
  obtain ⟨p0, ps, rfl, q0, hp⟩ := hp.cons_left
  obtain ⟨p1, ps, rfl, q1, hp⟩ := hp.cons_left
  obtain ⟨p2, ps, rfl, q2, hp⟩ := hp.cons_left
  obtain ⟨p3, ps, rfl, q3, hp⟩ := hp.cons_left
  obtain ⟨p4, ps, rfl, q4, hp⟩ := hp.cons_left
  obtain rfl := hp.nil_left
  obtain ⟨z0, rfl, w0⟩ := DT_int Tryz.underlying3 q0
  obtain ⟨s1, rfl, -⟩ := DT_str Tryz.underlying9 q1
  obtain ⟨z2, rfl, w2⟩ := DT_int Tryz.underlying50 q2
  obtain ⟨s3, rfl, -⟩ := DT_str Tryz.underlying9 q3
  obtain ⟨krows, rfl, k2, k3⟩ := DT_slice Tryz.underlying54 q4
  obtain ⟨ks, rfl, -⟩ := list_of (f := fun z => [di z]) (p := fun _ : Int => True) (rows := krows) (fun r hr => by
   obtain ⟨z, hz, hw⟩ := DT_int Tryz.underlying3 (k3 r hr)
   exact ⟨z, trivial, hz⟩)
  have g1 := wf_u64 w2
  obtain ⟨n, rfl⟩ := Int.eq_ofNat_of_zero_le g1.1
  rw [List.length_map] at k2
  refine ⟨⟨z0, s1.data.toList, n, s3.data.toList, ks⟩, ⟨k2, by have := g1.2; show n < _; omega⟩, ?_⟩
  rw [e1]
  have e : Tryz.prog.cellsOf 3 = 1 := by kernel_rfl
  rw [e]
  show _ = [di z0, ds (bs s1.data.toList), du n, ds (bs s3.data.toList), intsD ks]
  rw [bs_back, bs_back]
  rfl)
 have e : Tryz.prog.cellsOf 126 = 5 := by kernel_rfl
 rw [e, h4] at h1
 cases h1
 rw [h4, List.length_map] at h2
 exact ⟨l, rfl, h2, fun v hv => (h5 v hv).1, fun v hv => (h5 v hv).2⟩
end Go.Proofs.YtoingpafcodojaaGreatDoor

namespace Go.Proofs.YtoingpafcodojaaGreatDoor
open Go.ChangeShapes Go.WideShapes Go.ChangeAt Go.RowKit Go.ChangeMaps

theorem glob_text {W : World} (h : laidMetH Tryz.prog Rows.exprTextRow.laid W) (hs : W.ShapedOpen Tryz.prog) : ΓL.G (Sall W) W := glob_env h hs
theorem exprText_a (s : ByteArray) (hs : s.size ≤ 140737488351232) (y : D) (hy : DT Tryz.prog 8 22 [y]) : CallsA Tryz.prog ΓL 3 [c1 (.v (.string s)), c1 y] (.o (c1 (db true))) := by
 obtain ⟨e, rfl, h4, h5⟩ := dt_vars hy
 have := exprText_of wakes10_c s.data.toList (by rw [Array.length_toList]; exact hs) e h4 h5
 rw [bs_back] at this
 exact this
namespace exprText
set_option maxRecDepth 100000 in
theorem lifted (os : Os) (started : os.Started) (H : Type) (enc : TypeId × Value → H) :
  ReturnsInHanded {} Tryz.checked os 3 .any (fun w args => (Rows.exprTextSpec.pre enc Tryz.prog Tryz.f3 Rows.exprTextRow.domain false w args ∧ laidMetH Tryz.prog Rows.exprTextRow.laid w) ∧ sizedMet enc Tryz.prog Tryz.f3 (OpenSpec.ofChange Rows.exprTextSpec) false w args) (Rows.exprTextSpec.post enc Tryz.prog Tryz.f3 false true false false) := by
 show ReturnsInHanded {} Tryz.checked os 3 .any ((OpenSpec.ofChange Rows.exprTextSpec).preRow enc Tryz.prog Tryz.f3 Rows.exprTextRow.domain false Rows.exprTextRow.laid) (((OpenSpec.ofChange Rows.exprTextSpec).at fun _ _ _ => 0).post enc Tryz.prog Tryz.f3 false true false false)
 refine returnsInHanded_of_row (C := Tryz.checked) own started (by kernel_rfl) Tryz.func3
  (ChangeSpec.witness_shaped (enc := enc) (C := Tryz.checked) (os := os) (X := fun w _ => laidMetH Tryz.prog Rows.exprTextRow.laid w) false (World.laidAll Tryz.prog os Rows.exprTextRow.laid) #[.string ByteArray.empty, .slice none 0 0] 8 (World.laidAll_os _ _ _) (World.shaped_of_ZipB (by kernel_rfl) (by kernel_rfl)) (by kernel_rfl) (by kernel_rfl) (by kernel_rfl)
   (by rw [MakeChecks.laidMetH_plain _ _ _ (by kernel_rfl)]; exact laidMet_laidAll _ (by kernel_rfl) (by kernel_rfl))) ?_
 intro W base args ds gs before hval0 hW _ _ hsz0 hLaid hShaped _
 have hsz : (DataW.weightsEach Tryz.prog (Tryz.f3.params.toList ++ Rows.exprTextSpec.plain.varTypes Tryz.prog) (ds ++ gs)).all (· ≤ reachBytes) = true := hsz0
 have hval : ∀ (j : Nat) t v, Tryz.f3.params[j]? = some t → args[j]? = some v → Value.okWide Tryz.prog W .any base t v := hval0
 clear hsz0 hval0
 have hW' := hW
 obtain ⟨p, q, hA0, hV, rfl, hfz, hnd⟩ := hW
 have hA : DataW.TrodAll enc Tryz.prog W 0 (fun _ => true) true Tryz.f3.params.toList args.toList ds p := hA0
 clear hA0
 rw [Tryz.params3] at hA hval hsz
 obtain ⟨v0, vs0, d0, ds0, p0, q0, hargs, rfl, rfl, h0, r0⟩ := trodAll_cons hA
 obtain ⟨v1, vs1, d1, ds1, p1, q1, rfl, rfl, rfl, h1, r1⟩ := trodAll_cons r0
 obtain ⟨rfl, rfl, rfl⟩ := trodAll_nil r1
 obtain rfl : args = #[v0, v1] := by cases args; simp_all
 obtain ⟨rfl, rfl⟩ := trodVars_none hV
 obtain ⟨s, rfl, rfl, rfl, hm0⟩ := open_string Tryz.underlying9 (hval 0 9 v0 rfl rfl) h0
 have w_s : s.size ≤ 140737488351232 := by simpa [reachBytes] using sized_string hsz (j := 0) rfl rfl
 obtain ⟨e, e_, m1⟩ := open_dt (d := 8) (by kernel_rfl) (by kernel_rfl) (hval 1 22 v1 rfl rfl) h1
 refine ((exprText_a s w_s e e_).2 (Sall W) W [.string s, v1] (fun _ h => h) (glob_text hLaid hShaped) (.cons (Imm.v rfl) (.cons m1 .nil))).mono fun e W' ⟨xr, _, he, hb, _, _, _, hv⟩ => ?_
 obtain rfl := V_v hv
 subst he
 exact ⟨_, rfl, law_post (ds := [_, _]) laidOut hW' rfl (by kernel_rfl) rfl Tryz.underlying4 rfl rfl rfl hb⟩

theorem proved : Rows.ExprTextSaid :=
 OpenClaim.holds_of_wide 3 Tryz.f3 rfl rfl rfl rfl rfl rfl rfl ⟨rfl, rfl, rfl, rfl, rfl⟩ rfl rfl rfl rfl rfl (by kernel_rfl) Tryz.func3 (by kernel_rfl)
  (of_decide_eq_true (by kernel_rfl)) (by unfold Func.isWrapper; first | (rw [if_pos (by decide +kernel)]; kernel_rfl) | (rw [if_neg (by decide +kernel)]; exact ⟨rfl, rfl⟩))
  (fun os started H enc _ => lifted os started H enc)
theorem card : Rows.ExprTextCardSaid :=
 Claim7.holds_tied_plain_at .later [] [.data, .data, .data, .data, .sentinel, .sentinel, .data, .pinned] true (true, "17becb4bdc0081d553c93ea4c651e4f2393ed5a7f930a22c0fd518b66bd7328d") true proved (fun _ h => by cases h) (by kernel_rfl) (fun _ h => by cases h) exprText_row_tie rfl ⟨rfl, rfl⟩ (by kernel_rfl) rfl
  (fun f fn hf hfn => by
   obtain rfl : f = 3 := Option.some.inj ((show Tryz.prog.funcNamed "calliper/calliperlaw10.ExprText" = some 3 by kernel_rfl).symm.trans hf) |>.symm
   obtain rfl : fn = Tryz.f3 := (Option.some.inj (Tryz.func3.symm.trans hfn)).symm
   exact ⟨by kernel_rfl, fun j t ht => by
    rw [Tryz.params3] at ht
    have hm : t ∈ [9, 22] := by simpa using Array.mem_of_getElem? ht
    have hall : ([9, 22].all fun u => !Tryz.prog.wantsStandIn u) = true := by kernel_rfl
    exact (show Tryz.prog.wantsStandIn t = false by simpa using List.all_eq_true.1 hall t hm)⟩)
  (by kernel_rfl)
end exprText
end Go.Proofs.YtoingpafcodojaaGreatDoor
