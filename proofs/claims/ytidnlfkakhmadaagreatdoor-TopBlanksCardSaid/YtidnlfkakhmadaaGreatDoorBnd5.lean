/- Texts that the last one leans on: The parser's types that begin with a word. Conditions: the tokens end with the end; at most 100000 of them. The parser's items: how a field is derived; fields. Conditions: the tokens end with the end; at most 100000 of them. The parser's fields and packs; consts. Conditions: the tokens end with the end; at most 100000 of them. The parser's packs. Conditions: the tokens end with the end; at most 100000 of them. The parser's structs. Conditions: the tokens end with the end; at most 100000 of them. The parser of a whole description. Conditions: the tokens end with the end; at most 100000 of them. Parse's deferred closure. Condition: none. Parse: the file of a description. Condition: the listed variables. show: its globals; visit, kids, weak, and the text of an expression. Conditions: numbers below 2^64; at most a million expressions. show: the text of an expression of a file. Conditions: numbers below 2^64; at most a million expressions; a text of at most 10^9 bytes. Plain law of the printed text: types, items, structs and files as text; the tokens of that text; it is read as the file. Condition: numbers below 2^64. Plain law of the printed text: the file of the text is the file. Condition: numbers below 2^64. show: expressions with commas between; the simple types. Conditions: as for expressions. show: the text of a type of a file, case by case. Printed by gens4.py. Conditions: as for expressions; at most a million types. show: switches, and th -/
import Derived.WalkKit
import Derived.Lib.Builder
import Derived.Test.YtidnlfkakhmadaaGreatDoorBnd1
import Derived.Test.YtidnlfkakhmadaaGreatDoorBnd2
import Derived.Test.YtidnlfkakhmadaaGreatDoorBnd3
import Derived.Test.YtidnlfkakhmadaaGreatDoorBnd4
set_option linter.unusedVariables false
set_option linter.unusedSimpArgs false
set_option maxRecDepth 100000
namespace Go.Proofs.YtidnlfkakhmadaaGreatDoor
open Go.RowKit

section
variable {L : List TokP} {m : Nat}
set_option maxHeartbeats 8000000 in
theorem kind_word (hL : TokOk L) (hn : L.length ≤ 100000) (hm : m ≤ 32) {kd : PM Int} (hu : Up L kd 0 0) (hc : ∀ m', m = m' + 1 → ∀ s, SOk L 0 s → C2 L m' 73 [] kd (fun k => Ti k) s) (s : PS) (hs : SOk L 0 s) (hv1 : namedV L s.i = false) (hv : startsV L s.i = true) :
  C2 L m 73 [] (kindF L m kd) (fun k => Ti k) s := by
 refine C2.of fun T hT => ?_
 unfold kindF at hT
 obtain ⟨i, xs, ts⟩ := s
 have hv : startsV L i = true := hv
 have hv1 : namedV L i = false := hv1
 have hi := hs.lt
 have hin : ∀ s, SOk L 0 s → C2 L m 99 [] (innerM L m kd) (fun k => Ti k) s := fun s hs => inner_c hm s hs.i fun m' e => hc m' e s hs
 have hs1 := stpS hL hs (startsV_k hv)
 have hT1 := atn hT hv1
 have hT2 := aty hT1 hv
 have hT : wordM L m kd (tk L i).t ⟨i + 1, xs, ts⟩ = T := hT2
 clear hT1 hT2
 have hnm := named_c (m := m) i hi
 rw [hv1] at hnm
 have hst := starts_c (m := m) i hi
 rw [hv] at hst
 have ha := ahead_c (L := L) (m := m) i hi
 generalize tk L i = u at *
 obtain ⟨w, hw⟩ : ∃ w, u.t = w := ⟨_, rfl⟩
 simp only [tokD, hw] at ha
 rw [hw] at hT
 unfold wordM at hT
 have hz := sized_c w
 have htl := hs1.lt'
 refine fn_ruleP (C := ⟨Tryz.prog, layF, Tryz.f73.ntmps, ΓL, 6, [], []⟩) layF_ok mixed Tryz.func73 rfl (by kernel_rfl) rfl rfl rfl start2 ?_
 repeat' (first | refine qgs ?_ | refine eD ?_ ?_ <;> intro)
 refine sC (CallsM.ren (hnm) [0, 1] 7 rfl rfl rfl rfl) ?_
 repeat' (first | refine qgs ?_ | refine eD ?_ ?_ <;> intro)
 refine sC (CallsM.ren (hst) [0, 1] 7 rfl rfl rfl rfl) ?_
 repeat' (first | refine qgs ?_ | refine eD ?_ ?_ <;> intro)
 refine sC (CallsM.ren (ha) [0, 1] 7 rfl rfl rfl rfl) ?_
 rcases hzw : sizedV w with _ | k <;> rw [hzw] at hT hz
 ·have hz : CallsA Tryz.prog ΓL 96 [c1 (ds (bs w))] (.tup [c1 (di 0), c1 (db false)]) := hz
  dsimp only at hT
  by_cases h1 : w = w_rest
  ·subst h1
   rw [if_pos rfl] at hT
   repeat' (first | refine ex_call (plain_c 6) ?_ | refine ex_call hz ?_ | refine aI ((i + 1 : Nat) : Int) ?_ | refine aU ((i + 1 : Nat) : Int) ?_ | refine aB ((i + 1 : Nat) : Int) ?_ | refine qg1 ?_ | refine eD ?_ ?_ <;> intro)
   have hcon := hin ⟨i + 1, xs, ts⟩ (hs1.less (by omega))
   rcases hx : (innerM L m kd) ⟨i + 1, xs, ts⟩ with ⟨k, ⟨i3, xs3, ts3⟩⟩ | ⟨i9, e9⟩
   rotate_left
   ·obtain rfl := (and_err hx).symm.trans hT
    refine sC (CallsM.ren (hcon.err hx) [0, 1, 2, 3, 6, 5] 8 rfl rfl rfl rfl) ?_
    first | exact ⟨⟨_, rfl, rfl⟩, rfl, rfl⟩ | exact ⟨by kernel_rfl, ⟨_, rfl, rfl⟩, rfl, rfl⟩
   replace hT := (and_ok hx).symm.trans hT
   refine sC (CallsM.ren (hcon.ok hx) [0, 1, 2, 3, 6, 5] 8 rfl rfl rfl rfl) ?_
   clear hcon
   have hs3 := (Up.ok (up_inner m hu 1) hs1 hx).1
   have htl := hs3.lt'
   have hi3 := hs3.lt
   obtain rfl : PR.ok (ts3.length : Int) ⟨i3, xs3, ts3 ++ [(⟨6, 0, false, [], [], -1, k, []⟩ : TY)]⟩ = T := hT
   repeat' (first | refine qgs ?_ | refine eD ?_ ?_ <;> intro)
   refine sC (CallsM.ren ((layn_c (L := L) (m := m) i3 ts3 6 0 false [] (-1) k (by omega))) [0, 1, 2, 3, 8, 9] 10 rfl rfl rfl rfl) ?_
   repeat' (first | refine qgs ?_ | refine eD ?_ ?_ <;> intro)
   exact ⟨rfl, TLe.rfl, rfl, rfl⟩
  ·rw [if_neg h1] at hT
   by_cases h2 : w = w_tail
   ·subst h2
    rw [if_pos rfl] at hT
    obtain rfl : PR.ok (ts.length : Int) ⟨i + 1, xs, ts ++ [(⟨4, 0, false, [], [], -1, -1, []⟩ : TY)]⟩ = T := hT
    repeat' (first | refine ex_call (plain_c 4) ?_ | refine ex_call hz ?_ | refine aI ((i + 1 : Nat) : Int) ?_ | refine aU ((i + 1 : Nat) : Int) ?_ | refine aB ((i + 1 : Nat) : Int) ?_ | refine qg1 ?_ | refine eD ?_ ?_ <;> intro)
    refine sC (CallsM.ren ((layn_c (L := L) (m := m) (i + 1) ts 4 0 false [] (-1) (-1) (by omega))) [0, 1, 2, 3, 6, 5] 7 rfl rfl rfl rfl) ?_
    repeat' (first | refine qgs ?_ | refine eD ?_ ?_ <;> intro)
    exact ⟨rfl, TLe.rfl, rfl, rfl⟩
   ·rw [if_neg h2] at hT
    by_cases h3 : w = w_none
    ·subst h3
     rw [if_pos rfl] at hT
     obtain rfl : PR.ok (ts.length : Int) ⟨i + 1, xs, ts ++ [(⟨11, 0, false, [], [], -1, -1, []⟩ : TY)]⟩ = T := hT
     repeat' (first | refine ex_call (plain_c 11) ?_ | refine ex_call hz ?_ | refine aI ((i + 1 : Nat) : Int) ?_ | refine aU ((i + 1 : Nat) : Int) ?_ | refine aB ((i + 1 : Nat) : Int) ?_ | refine qg1 ?_ | refine eD ?_ ?_ <;> intro)
     refine sC (CallsM.ren ((layn_c (L := L) (m := m) (i + 1) ts 11 0 false [] (-1) (-1) (by omega))) [0, 1, 2, 3, 6, 5] 7 rfl rfl rfl rfl) ?_
     repeat' (first | refine qgs ?_ | refine eD ?_ ?_ <;> intro)
     exact ⟨rfl, TLe.rfl, rfl, rfl⟩
    ·rw [if_neg h3] at hT
     by_cases h4 : w = w_switch
     ·subst h4
      rw [if_pos rfl] at hT
      repeat' (first | refine ex_call hz ?_ | refine aI ((i + 1 : Nat) : Int) ?_ | refine aU ((i + 1 : Nat) : Int) ?_ | refine aB ((i + 1 : Nat) : Int) ?_ | refine qg1 ?_ | refine eD ?_ ?_ <;> intro)
      have hcon := choice_c hL hn hm hu hc ⟨i + 1, xs, ts⟩ hs1
      rcases hy : (choiceM L m kd) ⟨i + 1, xs, ts⟩ with ⟨k, ⟨i3, xs3, ts3⟩⟩ | ⟨i9, e9⟩
      rotate_left
      ·obtain rfl := hy.symm.trans hT
       refine sC (CallsM.ren (hcon.err hy) [0, 1, 2, 3, 6, 5] 7 rfl rfl rfl rfl) ?_
       first | exact ⟨⟨_, rfl, rfl⟩, rfl, rfl⟩ | exact ⟨by kernel_rfl, ⟨_, rfl, rfl⟩, rfl, rfl⟩
      obtain rfl := hy.symm.trans hT
      refine sC (CallsM.ren (hcon.ok hy) [0, 1, 2, 3, 6, 5] 7 rfl rfl rfl rfl) ?_
      clear hcon
      repeat' (first | refine qgs ?_ | refine eD ?_ ?_ <;> intro)
      exact ⟨rfl, TLe.rfl, rfl, rfl⟩
     ·rw [if_neg h4] at hT
      have hq := (integer_c w).gL
      obtain ⟨z, lt, ok, hzl, hq⟩ : ∃ (z : Nat) (lt ok : Bool), (integerV w).getD (0, false) = (z, lt) ∧ CallsA Tryz.prog ΓL 27 [c1 (ds (bs w))] (.tup [c1 (di z), c1 (db lt), c1 (db ok)]) := by
       rcases hi : integerV w with _ | ⟨z, lt⟩ <;> rw [hi] at hq
       ·exact ⟨0, false, false, rfl, hq⟩
       ·exact ⟨z, lt, true, rfl, hq⟩
      rw [hzl] at hT
      repeat' (first | refine ex_call (plain_c 0) ?_ | refine ex_call hq ?_ | refine ex_call hz ?_ | refine aI ((i + 1 : Nat) : Int) ?_ | refine aU ((i + 1 : Nat) : Int) ?_ | refine aB ((i + 1 : Nat) : Int) ?_ | refine ex_false (fun e => h4 (bsj.1 e)) ?_ | refine ex_false (fun e => h3 (bsj.1 e)) ?_ | refine ex_false (fun e => h2 (bsj.1 e)) ?_ | refine ex_false (fun e => h1 (bsj.1 e)) ?_ | refine qg1 ?_ | refine eD ?_ ?_ <;> intro)
      have har := (array_c (L := L) hL hn hm (⟨0, z, lt, [], [], -1, -1, []⟩ : TY) ⟨i + 1, xs, ts⟩ hs1)
      rcases hy : arrayM L m (⟨0, z, lt, [], [], -1, -1, []⟩ : TY) ⟨i + 1, xs, ts⟩ with ⟨k, ⟨i3, xs3, ts3⟩⟩ | ⟨i9, e9⟩
      ·obtain rfl := hy.symm.trans hT
       have hp := (har.ok hy).argsLe (xs := [P0, gD [di 0, di z, db lt, ds (bs []), dnil, di (-1), di (-1), dnil]]) (.cons T1Le.rfl (.cons (T1Le.g (.cons DLe.rfl (.cons DLe.rfl (.cons DLe.rfl (.cons DLe.rfl (.cons DLe.nil (.cons DLe.rfl (.cons DLe.rfl (.cons DLe.nil .nil))))))))) .nil))
       refine sC (CallsM.ren (hp) [0, 1, 2, 3, 6, 5] 8 rfl rfl rfl rfl) ?_
       repeat' (first | refine qgs ?_ | refine eD ?_ ?_ <;> intro)
       exact ⟨rfl, TLe.rfl, rfl, rfl⟩
      ·obtain rfl := hy.symm.trans hT
       have hp := (har.err hy).argsLe (xs := [P0, gD [di 0, di z, db lt, ds (bs []), dnil, di (-1), di (-1), dnil]]) (.cons T1Le.rfl (.cons (T1Le.g (.cons DLe.rfl (.cons DLe.rfl (.cons DLe.rfl (.cons DLe.rfl (.cons DLe.nil (.cons DLe.rfl (.cons DLe.rfl (.cons DLe.nil .nil))))))))) .nil))
       refine sC (CallsM.ren (hp) [0, 1, 2, 3, 6, 5] 8 rfl rfl rfl rfl) ?_
       exact ⟨⟨_, rfl, rfl⟩, rfl, rfl⟩
 ·have hz : CallsA Tryz.prog ΓL 96 [c1 (ds (bs w))] (.tup [c1 (di k), c1 (db true)]) := hz
  dsimp only at hT
  repeat' (first | refine ex_call (plain_c k) ?_ | refine ex_call hz ?_ | refine aI ((i + 1 : Nat) : Int) ?_ | refine aU ((i + 1 : Nat) : Int) ?_ | refine aB ((i + 1 : Nat) : Int) ?_ | refine qg1 ?_ | refine eD ?_ ?_ <;> intro)
  have hcon := bracket_c hL hn hm ⟨i + 1, xs, ts⟩ hs1
  rcases hx : (bracketM L m) ⟨i + 1, xs, ts⟩ with ⟨x, ⟨i2, xs2, ts2⟩⟩ | ⟨i9, e9⟩
  rotate_left
  ·obtain rfl := (and_err hx).symm.trans hT
   refine sC (CallsM.ren (hcon.err hx) [0, 1, 2, 3, 6, 5] 8 rfl rfl rfl rfl) ?_
   first | exact ⟨⟨_, rfl, rfl⟩, rfl, rfl⟩ | exact ⟨by kernel_rfl, ⟨_, rfl, rfl⟩, rfl, rfl⟩
  replace hT := (and_ok hx).symm.trans hT
  refine sC (CallsM.ren (hcon.ok hx) [0, 1, 2, 3, 6, 5] 8 rfl rfl rfl rfl) ?_
  clear hcon
  have hs2 := (Up.ok (up_bracket hL m 1) hs1 hx).1
  obtain rfl := (keep_bracket m).eq hx
  have hi2 := hs2.lt
  by_cases hk : k = 7 ∨ k = 8
  ·rw [if_pos hk] at hT
   rcases hk with rfl | rfl
   all_goals
    repeat' (first | refine qgs ?_ | refine eD ?_ ?_ <;> intro)
    have hcon := hin ⟨i2, xs2, ts⟩ (hs2.less (by omega))
    rcases hx2 : (innerM L m kd) ⟨i2, xs2, ts⟩ with ⟨n, ⟨i3, xs3, ts3⟩⟩ | ⟨i9, e9⟩
    rotate_left
    ·obtain rfl := (and_err hx2).symm.trans hT
     refine sC (CallsM.ren (hcon.err hx2) [0, 1, 2, 3, 8, 5] 9 rfl rfl rfl rfl) ?_
     first | exact ⟨⟨_, rfl, rfl⟩, rfl, rfl⟩ | exact ⟨by kernel_rfl, ⟨_, rfl, rfl⟩, rfl, rfl⟩
    replace hT := (and_ok hx2).symm.trans hT
    refine sC (CallsM.ren (hcon.ok hx2) [0, 1, 2, 3, 8, 5] 9 rfl rfl rfl rfl) ?_
    clear hcon
    have hs3 := (Up.ok (c := 0) (up_inner m hu 3) hs2 hx2).1
    have htl := hs3.lt'
    have hi3 := hs3.lt
    repeat' (first | refine qgs ?_ | refine eD ?_ ?_ <;> intro)
   ·obtain rfl : PR.ok (ts3.length : Int) ⟨i3, xs3, ts3 ++ [(⟨7, 0, false, [], [], x, n, []⟩ : TY)]⟩ = T := hT
    refine sC (CallsM.ren ((layn_c (L := L) (m := m) i3 ts3 7 0 false [] x n (by omega))) [0, 1, 2, 3, 9, 10] 11 rfl rfl rfl rfl) ?_
    repeat' (first | refine qgs ?_ | refine eD ?_ ?_ <;> intro)
    exact ⟨rfl, TLe.rfl, rfl, rfl⟩
   ·obtain rfl : PR.ok (ts3.length : Int) ⟨i3, xs3, ts3 ++ [(⟨8, 0, false, [], [], x, n, []⟩ : TY)]⟩ = T := hT
    refine sC (CallsM.ren ((layn_c (L := L) (m := m) i3 ts3 8 0 false [] x n (by omega))) [0, 1, 2, 3, 9, 10] 11 rfl rfl rfl rfl) ?_
    repeat' (first | refine qgs ?_ | refine eD ?_ ?_ <;> intro)
    exact ⟨rfl, TLe.rfl, rfl, rfl⟩
  ·rw [if_neg hk] at hT
   replace hT := pureT hT
   have htl2 := hs2.lt'
   obtain rfl : PR.ok (ts.length : Int) ⟨i2, xs2, ts ++ [(⟨k, 0, false, [], [], x, -1, []⟩ : TY)]⟩ = T := hT
   repeat' (first | refine qgs ?_ | refine eD ?_ ?_ <;> intro)
   refine sC (CallsM.ren ((layn_c (L := L) (m := m) i2 ts k 0 false [] x (-1) (by omega))) [0, 1, 2, 3, 8, 5] 9 rfl rfl rfl rfl) ?_
   repeat' (first | refine qgs ?_ | refine eD ?_ ?_ <;> intro)
   exact ⟨rfl, TLe.rfl, rfl, rfl⟩
theorem kind_step (hL : TokOk L) (hn : L.length ≤ 100000) (hm : m ≤ 32) {kd : PM Int} (hu : Up L kd 0 0) (hc : ∀ m', m = m' + 1 → ∀ s, SOk L 0 s → C2 L m' 73 [] kd (fun k => Ti k) s) (s : PS) (hs : SOk L 0 s) :
  C2 L m 73 [] (kindF L m kd) (fun k => Ti k) s := by
 rcases hv : startsV L s.i with _ | _
 ·exact kind_bad s hs.i hv
 ·rcases hv1 : namedV L s.i with _ | _
  ·exact kind_word hL hn hm hu hc s hs hv1 hv
  ·exact kind_named hL hn hm s hs hv1
theorem kind_c (hL : TokOk L) (hn : L.length ≤ 100000) : ∀ m, m ≤ 32 → ∀ s, SOk L 0 s → C2 L m 73 [] (kindM L m) (fun k => Ti k) s
 | 0, hm, s, hs => kind_step hL hn hm (Up.fail (by decide) (by decide) _ _) (fun _ h => by omega) s hs
 | m + 1, hm, s, hs => kind_step hL hn hm (up_kind hL m) (fun m' h s hs => by
   obtain rfl : m = m' := by omega
   exact kind_c hL hn m (by omega) s hs) s hs
end
end Go.Proofs.YtidnlfkakhmadaaGreatDoor

namespace Go.Proofs.YtidnlfkakhmadaaGreatDoor
open Go.RowKit

section
variable {P : Program} {Γ : Glob} {f : FuncId} {nx : Nat} {xs : List T1} {r : TV} {upd : List (Nat × Blk)} {new : List Blk} {a b c d e : Nat × Blk} {m : List (Nat × Blk)}
theorem CallsM.moreD (h : CallsM P Γ f [a, e] nx xs r upd new) : CallsM P Γ f [a, b, c, d, e] nx xs r upd new := h.more fun p hp => by
 simp only [List.mem_cons, List.not_mem_nil, or_false] at hp ⊢; rcases hp with hp | hp <;> simp [hp]
end
section
variable {L : List TokP} {m : Nat}
theorem isV_end {i : Nat} {t : List UInt8} (h : (tk L i).k = 3) : isV L i t = false := by unfold isV; simp [h]
theorem isV_not {i : Nat} {t w : List UInt8} (h : (tk L i).t = t) (hn : t ≠ w) : isV L i w = false := by unfold isV; rw [h, decide_eq_false hn, Bool.and_false]
theorem isV_yes {i : Nat} {t : List UInt8} (hk : (tk L i).k ≠ 3) (h : (tk L i).t = t) : isV L i t = true := by unfold isV; rw [h, decide_eq_false hk, decide_eq_true rfl]; rfl
abbrev Iz (nm : List UInt8) (ty : Int) (der : Nat) (a b : List UInt8) (wh : Int) : Blk := .obj [.d (ds (bs nm)), .d (di ty), .d (di der), .d (ds (bs a)), .d (ds (bs b)), .d (di wh), .d (di 0), .d (db false), .d dnil]
def PR.uD (L : List TokP) (m : Nat) (nm : List UInt8) (ty wh : Int) : PR (Nat × List UInt8 × List UInt8) → List (Nat × Blk)
 | .ok v s => [(0, Qz L m s.i), (2, Iz nm ty v.1 v.2.1 v.2.2 wh)]
 | .err _ _ => [(0, .dead), (2, .dead)]
set_option maxHeartbeats 4000000 in
theorem derived_c (hL : TokOk L) (hn : L.length ≤ 100000) (nm : List UInt8) (ty wh : Int) (s : PS) {c : Nat} (hs : SOk L c s) :
  CallsM Tryz.prog ΓL 74 [(0, Qz L m s.i), (2, Iz nm ty 0 [] [] wh)] 3 [P0, .c (.ptr 2 0)] ((derivedM L s).tv L fun _ => .tup []) ((derivedM L s).uD L m nm ty wh) [] := by
 obtain ⟨T, hT⟩ : ∃ T, derivedM L s = T := ⟨_, rfl⟩
 rw [hT]
 unfold derivedM at hT
 obtain ⟨i, xs, ts⟩ := s
 have hi := hs.lt
 have hbad : (∀ t, t ∈ [w_sizeof, w_countof, w_crc32, w_adler32] → isV L i t = false) → T = .err i 4 → CallsM Tryz.prog ΓL 74 [(0, Qz L m i), (2, Iz nm ty 0 [] [] wh)] 3 [P0, .c (.ptr 2 0)] (T.tv L fun _ => .tup []) (T.uD L m nm ty wh) [] := fun hv hTe => by
  subst hTe
  refine fn_ruleP (C := ⟨Tryz.prog, layF, Tryz.f74.ntmps, ΓL, 3, [], []⟩) layF_ok mixed Tryz.func74 rfl (by kernel_rfl) rfl rfl rfl SLe.rfl ?_
  refine sC (CallsM.ren ((may_no i hi _ (hv w_sizeof (by simp)))) [0, 1] 3 rfl rfl rfl rfl) ?_
  repeat' (first | refine qgs ?_ | refine eD ?_ ?_ <;> intro)
  refine sC (CallsM.ren ((may_no i hi _ (hv w_countof (by simp)))) [0, 1] 3 rfl rfl rfl rfl) ?_
  repeat' (first | refine qgs ?_ | refine eD ?_ ?_ <;> intro)
  refine sC (CallsM.ren ((may_no i hi _ (hv w_crc32 (by simp)))) [0, 1] 3 rfl rfl rfl rfl) ?_
  repeat' (first | refine qgs ?_ | refine eD ?_ ?_ <;> intro)
  refine sC (CallsM.ren ((may_no i hi _ (hv w_adler32 (by simp)))) [0, 1] 3 rfl rfl rfl rfl) ?_
  repeat' (first | refine qgs ?_ | refine eD ?_ ?_ <;> intro)
  refine sC (CallsM.ren ((fail_c i 4 hi)) [0, 1] 3 rfl rfl rfl rfl) ?_
  exact ⟨⟨_, rfl, rfl⟩, rfl, rfl⟩
 by_cases hk : (tk L i).k = 3
 ·exact hbad (fun t _ => isV_end hk) (atn hT (by simp [hk])).symm
 ·obtain ⟨w, hw⟩ : ∃ w, (tk L i).t = w := ⟨_, rfl⟩
  by_cases hm : w ∈ [w_sizeof, w_countof, w_crc32, w_adler32]
  ·have hs1 := stpS hL hs hk
   have hd0 : derOf w ≠ 0 := by
    simp only [List.mem_cons, List.not_mem_nil, or_false] at hm
    rcases hm with rfl | rfl | rfl | rfl <;> decide
   have hT0 := aty hT (by simp [hk, hw, hd0])
   have hT : (takeM L t_lpar >>= fun _ => nameM L >>= fun a => (if 3 ≤ derOf w then takeM L t_dots >>= fun _ => nameM L else pure []) >>= fun b => takeM L t_rpar >>= fun _ => pure (derOf w, a, b)) ⟨i + 1, xs, ts⟩ = T := by rw [← hw]; exact hT0
   clear hT0
   simp only [List.mem_cons, List.not_mem_nil, or_false] at hm
   rcases hm with rfl | rfl | rfl | rfl
   ·rw [show derOf w_sizeof = 1 by decide +kernel] at hT
    refine fn_ruleP (C := ⟨Tryz.prog, layF, Tryz.f74.ntmps, ΓL, 3, [], []⟩) layF_ok mixed Tryz.func74 rfl (by kernel_rfl) rfl rfl rfl SLe.rfl ?_
    refine sC (CallsM.ren ((may_yes i hi (by omega) _ (isV_yes hk hw))) [0, 1] 3 rfl rfl rfl rfl) ?_
    repeat' (first | refine qgs ?_ | refine eD ?_ ?_ <;> intro)
    have hcon := take_c (m := m) ⟨i + 1, xs, ts⟩ hs1.i (by omega) t_lpar
    rcases hx59 : (takeM L t_lpar) ⟨i + 1, xs, ts⟩ with ⟨_, s9⟩ | ⟨i9, e9⟩
    rotate_left
    ·obtain rfl := (and_err hx59).symm.trans hT
     refine sC (CallsM.ren (hcon.err hx59) [0, 1] 3 rfl rfl rfl rfl) ?_
     first | exact ⟨⟨_, rfl, rfl⟩, rfl, rfl⟩ | exact ⟨by kernel_rfl, ⟨_, rfl, rfl⟩, rfl, rfl⟩
    replace hT := (and_ok hx59).symm.trans hT
    refine sC (CallsM.ren (hcon.ok hx59) [0, 1] 3 rfl rfl rfl rfl) ?_
    clear hcon
    have hs2 := (Up.ok (Up.take hL t_lpar 0) hs1 hx59).1
    obtain rfl := mv_take1 hx59
    repeat' (first | refine qgs ?_ | refine eD ?_ ?_ <;> intro)
    have hcon := name_c (m := m) ⟨i + 1 + 1, xs, ts⟩ hs2.i (by omega)
    rcases hx61 : (nameM L) ⟨i + 1 + 1, xs, ts⟩ with ⟨a, s9⟩ | ⟨i9, e9⟩
    rotate_left
    ·obtain rfl := (and_err hx61).symm.trans hT
     refine sC (CallsM.ren (hcon.err hx61) [0, 1] 3 rfl rfl rfl rfl) ?_
     first | exact ⟨⟨_, rfl, rfl⟩, rfl, rfl⟩ | exact ⟨by kernel_rfl, ⟨_, rfl, rfl⟩, rfl, rfl⟩
    replace hT := (and_ok hx61).symm.trans hT
    refine sC (CallsM.ren (hcon.ok hx61) [0, 1] 3 rfl rfl rfl rfl) ?_
    clear hcon
    have hs3 := (Up.ok (Up.name hL 0) hs2 hx61).1
    obtain rfl := mv_name1 hx61
    repeat' (first | refine qgs ?_ | refine eD ?_ ?_ <;> intro)
    replace hT := pureT hT
    have hcon := take_c (m := m) ⟨i + 1 + 1 + 1, xs, ts⟩ hs3.i (by omega) t_rpar
    rcases hx64 : (takeM L t_rpar) ⟨i + 1 + 1 + 1, xs, ts⟩ with ⟨_, s9⟩ | ⟨i9, e9⟩
    rotate_left
    ·obtain rfl := (and_err hx64).symm.trans hT
     refine sC (CallsM.ren (hcon.err hx64) [0, 1] 3 rfl rfl rfl rfl) ?_
     first | exact ⟨⟨_, rfl, rfl⟩, rfl, rfl⟩ | exact ⟨by kernel_rfl, ⟨_, rfl, rfl⟩, rfl, rfl⟩
    replace hT := (and_ok hx64).symm.trans hT
    refine sC (CallsM.ren (hcon.ok hx64) [0, 1] 3 rfl rfl rfl rfl) ?_
    clear hcon
    have hs4 := (Up.ok (Up.take hL t_rpar 0) hs3 hx64).1
    obtain rfl := mv_take1 hx64
    obtain rfl : PR.ok ((1 : Nat), a, ([] : List UInt8)) ⟨i + 1 + 1 + 1 + 1, xs, ts⟩ = T := hT
    repeat' (first | refine qgs ?_ | refine eD ?_ ?_ <;> intro)
    exact ⟨rfl, TLe.rfl, rfl, rfl⟩
   ·rw [show derOf w_countof = 2 by decide +kernel] at hT
    refine fn_ruleP (C := ⟨Tryz.prog, layF, Tryz.f74.ntmps, ΓL, 3, [], []⟩) layF_ok mixed Tryz.func74 rfl (by kernel_rfl) rfl rfl rfl SLe.rfl ?_
    refine sC (CallsM.ren ((may_no i hi w_sizeof (isV_not hw (by decide)))) [0, 1] 3 rfl rfl rfl rfl) ?_
    repeat' (first | refine qgs ?_ | refine eD ?_ ?_ <;> intro)
    refine sC (CallsM.ren ((may_yes i hi (by omega) _ (isV_yes hk hw))) [0, 1] 3 rfl rfl rfl rfl) ?_
    repeat' (first | refine qgs ?_ | refine eD ?_ ?_ <;> intro)
    have hcon := take_c (m := m) ⟨i + 1, xs, ts⟩ hs1.i (by omega) t_lpar
    rcases hx74 : (takeM L t_lpar) ⟨i + 1, xs, ts⟩ with ⟨_, s9⟩ | ⟨i9, e9⟩
    rotate_left
    ·obtain rfl := (and_err hx74).symm.trans hT
     refine sC (CallsM.ren (hcon.err hx74) [0, 1] 3 rfl rfl rfl rfl) ?_
     first | exact ⟨⟨_, rfl, rfl⟩, rfl, rfl⟩ | exact ⟨by kernel_rfl, ⟨_, rfl, rfl⟩, rfl, rfl⟩
    replace hT := (and_ok hx74).symm.trans hT
    refine sC (CallsM.ren (hcon.ok hx74) [0, 1] 3 rfl rfl rfl rfl) ?_
    clear hcon
    have hs2 := (Up.ok (Up.take hL t_lpar 0) hs1 hx74).1
    obtain rfl := mv_take1 hx74
    repeat' (first | refine qgs ?_ | refine eD ?_ ?_ <;> intro)
    have hcon := name_c (m := m) ⟨i + 1 + 1, xs, ts⟩ hs2.i (by omega)
    rcases hx76 : (nameM L) ⟨i + 1 + 1, xs, ts⟩ with ⟨a, s9⟩ | ⟨i9, e9⟩
    rotate_left
    ·obtain rfl := (and_err hx76).symm.trans hT
     refine sC (CallsM.ren (hcon.err hx76) [0, 1] 3 rfl rfl rfl rfl) ?_
     first | exact ⟨⟨_, rfl, rfl⟩, rfl, rfl⟩ | exact ⟨by kernel_rfl, ⟨_, rfl, rfl⟩, rfl, rfl⟩
    replace hT := (and_ok hx76).symm.trans hT
    refine sC (CallsM.ren (hcon.ok hx76) [0, 1] 3 rfl rfl rfl rfl) ?_
    clear hcon
    have hs3 := (Up.ok (Up.name hL 0) hs2 hx76).1
    obtain rfl := mv_name1 hx76
    repeat' (first | refine qgs ?_ | refine eD ?_ ?_ <;> intro)
    replace hT := pureT hT
    have hcon := take_c (m := m) ⟨i + 1 + 1 + 1, xs, ts⟩ hs3.i (by omega) t_rpar
    rcases hx79 : (takeM L t_rpar) ⟨i + 1 + 1 + 1, xs, ts⟩ with ⟨_, s9⟩ | ⟨i9, e9⟩
    rotate_left
    ·obtain rfl := (and_err hx79).symm.trans hT
     refine sC (CallsM.ren (hcon.err hx79) [0, 1] 3 rfl rfl rfl rfl) ?_
     first | exact ⟨⟨_, rfl, rfl⟩, rfl, rfl⟩ | exact ⟨by kernel_rfl, ⟨_, rfl, rfl⟩, rfl, rfl⟩
    replace hT := (and_ok hx79).symm.trans hT
    refine sC (CallsM.ren (hcon.ok hx79) [0, 1] 3 rfl rfl rfl rfl) ?_
    clear hcon
    have hs4 := (Up.ok (Up.take hL t_rpar 0) hs3 hx79).1
    obtain rfl := mv_take1 hx79
    obtain rfl : PR.ok ((2 : Nat), a, ([] : List UInt8)) ⟨i + 1 + 1 + 1 + 1, xs, ts⟩ = T := hT
    repeat' (first | refine qgs ?_ | refine eD ?_ ?_ <;> intro)
    exact ⟨rfl, TLe.rfl, rfl, rfl⟩
   ·rw [show derOf w_crc32 = 3 by decide +kernel] at hT
    refine fn_ruleP (C := ⟨Tryz.prog, layF, Tryz.f74.ntmps, ΓL, 3, [], []⟩) layF_ok mixed Tryz.func74 rfl (by kernel_rfl) rfl rfl rfl SLe.rfl ?_
    refine sC (CallsM.ren ((may_no i hi w_sizeof (isV_not hw (by decide)))) [0, 1] 3 rfl rfl rfl rfl) ?_
    repeat' (first | refine qgs ?_ | refine eD ?_ ?_ <;> intro)
    refine sC (CallsM.ren ((may_no i hi w_countof (isV_not hw (by decide)))) [0, 1] 3 rfl rfl rfl rfl) ?_
    repeat' (first | refine qgs ?_ | refine eD ?_ ?_ <;> intro)
    refine sC (CallsM.ren ((may_yes i hi (by omega) _ (isV_yes hk hw))) [0, 1] 3 rfl rfl rfl rfl) ?_
    repeat' (first | refine qgs ?_ | refine eD ?_ ?_ <;> intro)
    have hcon := take_c (m := m) ⟨i + 1, xs, ts⟩ hs1.i (by omega) t_lpar
    rcases hx91 : (takeM L t_lpar) ⟨i + 1, xs, ts⟩ with ⟨_, s9⟩ | ⟨i9, e9⟩
    rotate_left
    ·obtain rfl := (and_err hx91).symm.trans hT
     refine sC (CallsM.ren (hcon.err hx91) [0, 1] 3 rfl rfl rfl rfl) ?_
     first | exact ⟨⟨_, rfl, rfl⟩, rfl, rfl⟩ | exact ⟨by kernel_rfl, ⟨_, rfl, rfl⟩, rfl, rfl⟩
    replace hT := (and_ok hx91).symm.trans hT
    refine sC (CallsM.ren (hcon.ok hx91) [0, 1] 3 rfl rfl rfl rfl) ?_
    clear hcon
    have hs2 := (Up.ok (Up.take hL t_lpar 0) hs1 hx91).1
    obtain rfl := mv_take1 hx91
    repeat' (first | refine qgs ?_ | refine eD ?_ ?_ <;> intro)
    have hcon := name_c (m := m) ⟨i + 1 + 1, xs, ts⟩ hs2.i (by omega)
    rcases hx93 : (nameM L) ⟨i + 1 + 1, xs, ts⟩ with ⟨a, s9⟩ | ⟨i9, e9⟩
    rotate_left
    ·obtain rfl := (and_err hx93).symm.trans hT
     refine sC (CallsM.ren (hcon.err hx93) [0, 1] 3 rfl rfl rfl rfl) ?_
     first | exact ⟨⟨_, rfl, rfl⟩, rfl, rfl⟩ | exact ⟨by kernel_rfl, ⟨_, rfl, rfl⟩, rfl, rfl⟩
    replace hT := (and_ok hx93).symm.trans hT
    refine sC (CallsM.ren (hcon.ok hx93) [0, 1] 3 rfl rfl rfl rfl) ?_
    clear hcon
    have hs3 := (Up.ok (Up.name hL 0) hs2 hx93).1
    obtain rfl := mv_name1 hx93
    repeat' (first | refine qgs ?_ | refine eD ?_ ?_ <;> intro)
    replace hT := asc hT
    have hcon := take_c (m := m) ⟨i + 1 + 1 + 1, xs, ts⟩ hs3.i (by omega) t_dots
    rcases hx96 : (takeM L t_dots) ⟨i + 1 + 1 + 1, xs, ts⟩ with ⟨_, s9⟩ | ⟨i9, e9⟩
    rotate_left
    ·obtain rfl := (and_err hx96).symm.trans hT
     refine sC (CallsM.ren (hcon.err hx96) [0, 1] 3 rfl rfl rfl rfl) ?_
     first | exact ⟨⟨_, rfl, rfl⟩, rfl, rfl⟩ | exact ⟨by kernel_rfl, ⟨_, rfl, rfl⟩, rfl, rfl⟩
    replace hT := (and_ok hx96).symm.trans hT
    refine sC (CallsM.ren (hcon.ok hx96) [0, 1] 3 rfl rfl rfl rfl) ?_
    clear hcon
    have hs4 := (Up.ok (Up.take hL t_dots 0) hs3 hx96).1
    obtain rfl := mv_take1 hx96
    repeat' (first | refine qgs ?_ | refine eD ?_ ?_ <;> intro)
    have hcon := name_c (m := m) ⟨i + 1 + 1 + 1 + 1, xs, ts⟩ hs4.i (by omega)
    rcases hx98 : (nameM L) ⟨i + 1 + 1 + 1 + 1, xs, ts⟩ with ⟨b, s9⟩ | ⟨i9, e9⟩
    rotate_left
    ·obtain rfl := (and_err hx98).symm.trans hT
     refine sC (CallsM.ren (hcon.err hx98) [0, 1] 3 rfl rfl rfl rfl) ?_
     first | exact ⟨⟨_, rfl, rfl⟩, rfl, rfl⟩ | exact ⟨by kernel_rfl, ⟨_, rfl, rfl⟩, rfl, rfl⟩
    replace hT := (and_ok hx98).symm.trans hT
    refine sC (CallsM.ren (hcon.ok hx98) [0, 1] 3 rfl rfl rfl rfl) ?_
    clear hcon
    have hs5 := (Up.ok (Up.name hL 0) hs4 hx98).1
    obtain rfl := mv_name1 hx98
    repeat' (first | refine qgs ?_ | refine eD ?_ ?_ <;> intro)
    have hcon := take_c (m := m) ⟨i + 1 + 1 + 1 + 1 + 1, xs, ts⟩ hs5.i (by omega) t_rpar
    rcases hx100 : (takeM L t_rpar) ⟨i + 1 + 1 + 1 + 1 + 1, xs, ts⟩ with ⟨_, s9⟩ | ⟨i9, e9⟩
    rotate_left
    ·obtain rfl := (and_err hx100).symm.trans hT
     refine sC (CallsM.ren (hcon.err hx100) [0, 1] 3 rfl rfl rfl rfl) ?_
     first | exact ⟨⟨_, rfl, rfl⟩, rfl, rfl⟩ | exact ⟨by kernel_rfl, ⟨_, rfl, rfl⟩, rfl, rfl⟩
    replace hT := (and_ok hx100).symm.trans hT
    refine sC (CallsM.ren (hcon.ok hx100) [0, 1] 3 rfl rfl rfl rfl) ?_
    clear hcon
    have hs6 := (Up.ok (Up.take hL t_rpar 0) hs5 hx100).1
    obtain rfl := mv_take1 hx100
    obtain rfl : PR.ok ((3 : Nat), a, b) ⟨i + 1 + 1 + 1 + 1 + 1 + 1, xs, ts⟩ = T := hT
    repeat' (first | refine qgs ?_ | refine eD ?_ ?_ <;> intro)
    exact ⟨rfl, TLe.rfl, rfl, rfl⟩
   ·rw [show derOf w_adler32 = 4 by decide +kernel] at hT
    refine fn_ruleP (C := ⟨Tryz.prog, layF, Tryz.f74.ntmps, ΓL, 3, [], []⟩) layF_ok mixed Tryz.func74 rfl (by kernel_rfl) rfl rfl rfl SLe.rfl ?_
    refine sC (CallsM.ren ((may_no i hi w_sizeof (isV_not hw (by decide)))) [0, 1] 3 rfl rfl rfl rfl) ?_
    repeat' (first | refine qgs ?_ | refine eD ?_ ?_ <;> intro)
    refine sC (CallsM.ren ((may_no i hi w_countof (isV_not hw (by decide)))) [0, 1] 3 rfl rfl rfl rfl) ?_
    repeat' (first | refine qgs ?_ | refine eD ?_ ?_ <;> intro)
    refine sC (CallsM.ren ((may_no i hi w_crc32 (isV_not hw (by decide)))) [0, 1] 3 rfl rfl rfl rfl) ?_
    repeat' (first | refine qgs ?_ | refine eD ?_ ?_ <;> intro)
    refine sC (CallsM.ren ((may_yes i hi (by omega) _ (isV_yes hk hw))) [0, 1] 3 rfl rfl rfl rfl) ?_
    repeat' (first | refine qgs ?_ | refine eD ?_ ?_ <;> intro)
    have hcon := take_c (m := m) ⟨i + 1, xs, ts⟩ hs1.i (by omega) t_lpar
    rcases hx114 : (takeM L t_lpar) ⟨i + 1, xs, ts⟩ with ⟨_, s9⟩ | ⟨i9, e9⟩
    rotate_left
    ·obtain rfl := (and_err hx114).symm.trans hT
     refine sC (CallsM.ren (hcon.err hx114) [0, 1] 3 rfl rfl rfl rfl) ?_
     first | exact ⟨⟨_, rfl, rfl⟩, rfl, rfl⟩ | exact ⟨by kernel_rfl, ⟨_, rfl, rfl⟩, rfl, rfl⟩
    replace hT := (and_ok hx114).symm.trans hT
    refine sC (CallsM.ren (hcon.ok hx114) [0, 1] 3 rfl rfl rfl rfl) ?_
    clear hcon
    have hs2 := (Up.ok (Up.take hL t_lpar 0) hs1 hx114).1
    obtain rfl := mv_take1 hx114
    repeat' (first | refine qgs ?_ | refine eD ?_ ?_ <;> intro)
    have hcon := name_c (m := m) ⟨i + 1 + 1, xs, ts⟩ hs2.i (by omega)
    rcases hx116 : (nameM L) ⟨i + 1 + 1, xs, ts⟩ with ⟨a, s9⟩ | ⟨i9, e9⟩
    rotate_left
    ·obtain rfl := (and_err hx116).symm.trans hT
     refine sC (CallsM.ren (hcon.err hx116) [0, 1] 3 rfl rfl rfl rfl) ?_
     first | exact ⟨⟨_, rfl, rfl⟩, rfl, rfl⟩ | exact ⟨by kernel_rfl, ⟨_, rfl, rfl⟩, rfl, rfl⟩
    replace hT := (and_ok hx116).symm.trans hT
    refine sC (CallsM.ren (hcon.ok hx116) [0, 1] 3 rfl rfl rfl rfl) ?_
    clear hcon
    have hs3 := (Up.ok (Up.name hL 0) hs2 hx116).1
    obtain rfl := mv_name1 hx116
    repeat' (first | refine qgs ?_ | refine eD ?_ ?_ <;> intro)
    replace hT := asc hT
    have hcon := take_c (m := m) ⟨i + 1 + 1 + 1, xs, ts⟩ hs3.i (by omega) t_dots
    rcases hx119 : (takeM L t_dots) ⟨i + 1 + 1 + 1, xs, ts⟩ with ⟨_, s9⟩ | ⟨i9, e9⟩
    rotate_left
    ·obtain rfl := (and_err hx119).symm.trans hT
     refine sC (CallsM.ren (hcon.err hx119) [0, 1] 3 rfl rfl rfl rfl) ?_
     first | exact ⟨⟨_, rfl, rfl⟩, rfl, rfl⟩ | exact ⟨by kernel_rfl, ⟨_, rfl, rfl⟩, rfl, rfl⟩
    replace hT := (and_ok hx119).symm.trans hT
    refine sC (CallsM.ren (hcon.ok hx119) [0, 1] 3 rfl rfl rfl rfl) ?_
    clear hcon
    have hs4 := (Up.ok (Up.take hL t_dots 0) hs3 hx119).1
    obtain rfl := mv_take1 hx119
    repeat' (first | refine qgs ?_ | refine eD ?_ ?_ <;> intro)
    have hcon := name_c (m := m) ⟨i + 1 + 1 + 1 + 1, xs, ts⟩ hs4.i (by omega)
    rcases hx121 : (nameM L) ⟨i + 1 + 1 + 1 + 1, xs, ts⟩ with ⟨b, s9⟩ | ⟨i9, e9⟩
    rotate_left
    ·obtain rfl := (and_err hx121).symm.trans hT
     refine sC (CallsM.ren (hcon.err hx121) [0, 1] 3 rfl rfl rfl rfl) ?_
     first | exact ⟨⟨_, rfl, rfl⟩, rfl, rfl⟩ | exact ⟨by kernel_rfl, ⟨_, rfl, rfl⟩, rfl, rfl⟩
    replace hT := (and_ok hx121).symm.trans hT
    refine sC (CallsM.ren (hcon.ok hx121) [0, 1] 3 rfl rfl rfl rfl) ?_
    clear hcon
    have hs5 := (Up.ok (Up.name hL 0) hs4 hx121).1
    obtain rfl := mv_name1 hx121
    repeat' (first | refine qgs ?_ | refine eD ?_ ?_ <;> intro)
    have hcon := take_c (m := m) ⟨i + 1 + 1 + 1 + 1 + 1, xs, ts⟩ hs5.i (by omega) t_rpar
    rcases hx123 : (takeM L t_rpar) ⟨i + 1 + 1 + 1 + 1 + 1, xs, ts⟩ with ⟨_, s9⟩ | ⟨i9, e9⟩
    rotate_left
    ·obtain rfl := (and_err hx123).symm.trans hT
     refine sC (CallsM.ren (hcon.err hx123) [0, 1] 3 rfl rfl rfl rfl) ?_
     first | exact ⟨⟨_, rfl, rfl⟩, rfl, rfl⟩ | exact ⟨by kernel_rfl, ⟨_, rfl, rfl⟩, rfl, rfl⟩
    replace hT := (and_ok hx123).symm.trans hT
    refine sC (CallsM.ren (hcon.ok hx123) [0, 1] 3 rfl rfl rfl rfl) ?_
    clear hcon
    have hs6 := (Up.ok (Up.take hL t_rpar 0) hs5 hx123).1
    obtain rfl := mv_take1 hx123
    obtain rfl : PR.ok ((4 : Nat), a, b) ⟨i + 1 + 1 + 1 + 1 + 1 + 1, xs, ts⟩ = T := hT
    repeat' (first | refine qgs ?_ | refine eD ?_ ?_ <;> intro)
    exact ⟨rfl, TLe.rfl, rfl, rfl⟩
  ·have h0 : derOf w = 0 := by
    unfold derOf
    rw [if_neg (fun e => hm (by simp [e])), if_neg (fun e => hm (by simp [e])), if_neg (fun e => hm (by simp [e])), if_neg (fun e => hm (by simp [e]))]
   exact hbad (fun t ht => isV_not hw (fun e => hm (by rw [e]; exact ht))) (atn hT (by simp [hw, h0])).symm
end
end Go.Proofs.YtidnlfkakhmadaaGreatDoor

namespace Go.Proofs.YtidnlfkakhmadaaGreatDoor
open Go.RowKit

section
variable {L : List TokP} {m : Nat}
theorem const_c (hL : TokOk L) (hn : L.length ≤ 100000) (s : PS) {c : Nat} (hs : SOk L c s) : C0 L m 35 [] (constM L) (fun v => .o (gD (coD v))) s := by
 refine C0.of fun T hT => ?_
 unfold constM at hT
 obtain ⟨i, xs, ts⟩ := s
 refine fn_ruleP (C := ⟨Tryz.prog, layF, Tryz.f35.ntmps, ΓL, 2, [], []⟩) layF_ok mixed Tryz.func35 rfl (by kernel_rfl) rfl rfl rfl SLe.rfl ?_
 repeat' (first | refine qgs ?_ | refine eD ?_ ?_ <;> intro)
 have hcon := take_c (m := m) ⟨i, xs, ts⟩ hs.i (by omega) w_const
 rcases hx14 : (takeM L w_const) ⟨i, xs, ts⟩ with ⟨_, s9⟩ | ⟨i9, e9⟩
 rotate_left
 ·obtain rfl := (and_err hx14).symm.trans hT
  refine sC (CallsM.ren (hcon.err hx14) [0, 1] 3 rfl rfl rfl rfl) ?_
  first | exact ⟨⟨_, rfl, rfl⟩, rfl, rfl⟩ | exact ⟨by kernel_rfl, ⟨_, rfl, rfl⟩, rfl, rfl⟩
 replace hT := (and_ok hx14).symm.trans hT
 refine sC (CallsM.ren (hcon.ok hx14) [0, 1] 3 rfl rfl rfl rfl) ?_
 clear hcon
 have hs1 := (Up.ok (Up.take hL w_const 0) hs hx14).1
 obtain rfl := mv_take1 hx14
 repeat' (first | refine qgs ?_ | refine eD ?_ ?_ <;> intro)
 have hcon := name_c (m := m) ⟨i + 1, xs, ts⟩ hs1.i (by omega)
 rcases hx16 : (nameM L) ⟨i + 1, xs, ts⟩ with ⟨w, s9⟩ | ⟨i9, e9⟩
 rotate_left
 ·obtain rfl := (and_err hx16).symm.trans hT
  refine sC (CallsM.ren (hcon.err hx16) [0, 1] 3 rfl rfl rfl rfl) ?_
  first | exact ⟨⟨_, rfl, rfl⟩, rfl, rfl⟩ | exact ⟨by kernel_rfl, ⟨_, rfl, rfl⟩, rfl, rfl⟩
 replace hT := (and_ok hx16).symm.trans hT
 refine sC (CallsM.ren (hcon.ok hx16) [0, 1] 3 rfl rfl rfl rfl) ?_
 clear hcon
 have hs2 := (Up.ok (Up.name hL 0) hs1 hx16).1
 obtain rfl := mv_name1 hx16
 repeat' (first | refine qgs ?_ | refine eD ?_ ?_ <;> intro)
 have hcon := take_c (m := m) ⟨i + 1 + 1, xs, ts⟩ hs2.i (by omega) t_eq
 rcases hx18 : (takeM L t_eq) ⟨i + 1 + 1, xs, ts⟩ with ⟨_, s9⟩ | ⟨i9, e9⟩
 rotate_left
 ·obtain rfl := (and_err hx18).symm.trans hT
  refine sC (CallsM.ren (hcon.err hx18) [0, 1] 4 rfl rfl rfl rfl) ?_
  first | exact ⟨⟨_, rfl, rfl⟩, rfl, rfl⟩ | exact ⟨by kernel_rfl, ⟨_, rfl, rfl⟩, rfl, rfl⟩
 replace hT := (and_ok hx18).symm.trans hT
 refine sC (CallsM.ren (hcon.ok hx18) [0, 1] 4 rfl rfl rfl rfl) ?_
 clear hcon
 have hs3 := (Up.ok (Up.take hL t_eq 0) hs2 hx18).1
 obtain rfl := mv_take1 hx18
 repeat' (first | refine qgs ?_ | refine eD ?_ ?_ <;> intro)
 have hcon := num_c (m := m) ⟨i + 1 + 1 + 1, xs, ts⟩ hs3.i (by omega)
 rcases hx20 : (numberM L) ⟨i + 1 + 1 + 1, xs, ts⟩ with ⟨n, s9⟩ | ⟨i9, e9⟩
 rotate_left
 ·obtain rfl := (and_err hx20).symm.trans hT
  refine sC (CallsM.ren (hcon.err hx20) [0, 1] 4 rfl rfl rfl rfl) ?_
  first | exact ⟨⟨_, rfl, rfl⟩, rfl, rfl⟩ | exact ⟨by kernel_rfl, ⟨_, rfl, rfl⟩, rfl, rfl⟩
 replace hT := (and_ok hx20).symm.trans hT
 refine sC (CallsM.ren (hcon.ok hx20) [0, 1] 4 rfl rfl rfl rfl) ?_
 clear hcon
 have hs4 := (Up.ok (Up.number hL 0) hs3 hx20).1
 obtain rfl := mv_num1 hx20
 repeat' (first | refine qgs ?_ | refine eD ?_ ?_ <;> intro)
 have hcon := take_c (m := m) ⟨i + 1 + 1 + 1 + 1, xs, ts⟩ hs4.i (by omega) t_semi
 rcases hx22 : (takeM L t_semi) ⟨i + 1 + 1 + 1 + 1, xs, ts⟩ with ⟨_, s9⟩ | ⟨i9, e9⟩
 rotate_left
 ·obtain rfl := (and_err hx22).symm.trans hT
  refine sC (CallsM.ren (hcon.err hx22) [0, 1] 4 rfl rfl rfl rfl) ?_
  first | exact ⟨⟨_, rfl, rfl⟩, rfl, rfl⟩ | exact ⟨by kernel_rfl, ⟨_, rfl, rfl⟩, rfl, rfl⟩
 replace hT := (and_ok hx22).symm.trans hT
 refine sC (CallsM.ren (hcon.ok hx22) [0, 1] 4 rfl rfl rfl rfl) ?_
 clear hcon
 have hs5 := (Up.ok (Up.take hL t_semi 0) hs4 hx22).1
 obtain rfl := mv_take1 hx22
 obtain rfl : PR.ok (⟨w, n⟩ : CO) ⟨i + 1 + 1 + 1 + 1 + 1, xs, ts⟩ = T := hT
 repeat' (first | refine qgs ?_ | refine eD ?_ ?_ <;> intro)
 exact ⟨rfl, TLe.rfl, rfl, rfl⟩
theorem itLe {nm a b : List UInt8} {ty wh : Int} {der : Nat} : TLe (.o (gD [ds (bs nm), di ty, di der, ds (bs a), ds (bs b), di wh, di 0, db false, dnil])) (.o (gD (itD ⟨nm, ty, der, a, b, wh, 0, false, []⟩))) :=
 TLe.o (T1Le.g (.cons DLe.rfl (.cons DLe.rfl (.cons DLe.rfl (.cons DLe.rfl (.cons DLe.rfl (.cons DLe.rfl (.cons DLe.rfl (.cons DLe.rfl (.cons DLe.nil .nil))))))))))
theorem mv_derived (L : List TokP) : ∀ s v s', derivedM L s = .ok v s' → s'.xs = s.xs ∧ s'.ts = s.ts := fun s v s' h => by
 have mvand : ∀ {α β : Type} {x : PM α} {f : α → PM β}, (∀ s v s', x s = .ok v s' → s'.xs = s.xs ∧ s'.ts = s.ts) → (∀ u s v s', f u s = .ok v s' → s'.xs = s.xs ∧ s'.ts = s.ts) → ∀ s v s', (x >>= f) s = .ok v s' → s'.xs = s.xs ∧ s'.ts = s.ts := fun {α β x f} hx hf s v s' h => by
  have hb : PM.and x f s = .ok v s' := h
  unfold PM.and at hb
  rcases hxs : x s with ⟨u, s1⟩ | ⟨i, e⟩ <;> rw [hxs] at hb
  ·have h1 := hx _ _ _ hxs
   have h2 := hf _ _ _ _ hb
   exact ⟨h2.1.trans h1.1, h2.2.trans h1.2⟩
  ·cases hb
 have mt : ∀ t s v s', takeM L t s = .ok v s' → s'.xs = s.xs ∧ s'.ts = s.ts := fun t s v s' h => by unfold takeM at h; split at h <;> cases h; exact ⟨rfl, rfl⟩
 have mn : ∀ s v s', nameM L s = .ok v s' → s'.xs = s.xs ∧ s'.ts = s.ts := fun s v s' h => by unfold nameM at h; split at h <;> cases h; exact ⟨rfl, rfl⟩
 unfold derivedM atM at h
 split at h
 ·refine mvand (x := stepM) (fun s v s' h => by cases h; exact ⟨rfl, rfl⟩) (fun _ => mvand (mt _) fun _ => mvand mn fun a => mvand ?_ fun b => mvand (mt _) fun _ => fun s v s' h => by cases h; exact ⟨rfl, rfl⟩) s v s' h
  intro s1 v1 s2 h1
  split at h1
  ·exact mvand (mt _) (fun _ => mn) _ _ _ h1
  ·cases h1; exact ⟨rfl, rfl⟩
 ·cases h
set_option maxHeartbeats 8000000 in
theorem field_c (hL : TokOk L) (hn : L.length ≤ 100000) (hm : m = 32) (s : PS) (hs : SOk L 0 s) : C2 L m 60 [] (fieldM L) (fun v => .o (gD (itD v))) s := by
 refine C2.of fun T hT => ?_
 unfold fieldM at hT
 rw [← hm] at hT
 have hm2 : m ≤ 32 := by omega
 obtain ⟨i, xs, ts⟩ := s
 refine fn_ruleP (C := ⟨Tryz.prog, layF, Tryz.f60.ntmps, ΓL, 6, [], [6]⟩) layF_ok mixed Tryz.func60 rfl (by kernel_rfl) rfl rfl rfl SLe.rfl ?_
 repeat' (first | refine qgs ?_ | refine eD ?_ ?_ <;> intro)
 have hcon := name_c (m := m) ⟨i, xs, ts⟩ hs.i (by omega)
 rcases hx57 : (nameM L) ⟨i, xs, ts⟩ with ⟨w, s9⟩ | ⟨i9, e9⟩
 rotate_left
 ·obtain rfl := (and_err hx57).symm.trans hT
  refine sC (CallsM.ren (hcon.err hx57) [0, 1] 7 rfl rfl rfl rfl) ?_
  first | exact ⟨⟨_, rfl, rfl⟩, rfl, rfl⟩ | exact ⟨by kernel_rfl, ⟨_, rfl, rfl⟩, rfl, rfl⟩
 replace hT := (and_ok hx57).symm.trans hT
 refine sC (CallsM.ren (hcon.ok hx57) [0, 1] 7 rfl rfl rfl rfl) ?_
 clear hcon
 have hs1 := (Up.ok (Up.name hL 0) hs hx57).1
 obtain rfl := mv_name1 hx57
 repeat' (first | refine qgs ?_ | refine eD ?_ ?_ <;> intro)
 have hcon := take_c (m := m) ⟨i + 1, xs, ts⟩ hs1.i (by omega) t_colon
 rcases hx59 : (takeM L t_colon) ⟨i + 1, xs, ts⟩ with ⟨_, s9⟩ | ⟨i9, e9⟩
 rotate_left
 ·obtain rfl := (and_err hx59).symm.trans hT
  refine sC (CallsM.ren (hcon.err hx59) [0, 1] 8 rfl rfl rfl rfl) ?_
  first | exact ⟨⟨_, rfl, rfl⟩, rfl, rfl⟩ | exact ⟨by kernel_rfl, ⟨_, rfl, rfl⟩, rfl, rfl⟩
 replace hT := (and_ok hx59).symm.trans hT
 refine sC (CallsM.ren (hcon.ok hx59) [0, 1] 8 rfl rfl rfl rfl) ?_
 clear hcon
 have hs2 := (Up.ok (Up.take hL t_colon 0) hs1 hx59).1
 obtain rfl := mv_take1 hx59
 repeat' (first | refine qgs ?_ | refine eD ?_ ?_ <;> intro)
 have hcon := kind_c hL hn m hm2 ⟨i + 1 + 1, xs, ts⟩ (hs2.less (by omega))
 rcases hx : (kindM L m) ⟨i + 1 + 1, xs, ts⟩ with ⟨t, ⟨i2, xs2, ts2⟩⟩ | ⟨i9, e9⟩
 rotate_left
 ·obtain rfl := (and_err hx).symm.trans hT
  refine sC (CallsM.ren (hcon.err hx) [0, 1, 2, 3, 4, 5] 8 rfl rfl rfl rfl) ?_
  first | exact ⟨⟨_, rfl, rfl⟩, rfl, rfl⟩ | exact ⟨by kernel_rfl, ⟨_, rfl, rfl⟩, rfl, rfl⟩
 replace hT := (and_ok hx).symm.trans hT
 refine sC (CallsM.ren (hcon.ok hx) [0, 1, 2, 3, 4, 5] 8 rfl rfl rfl rfl) ?_
 clear hcon
 have hs3 := (Up.ok (c := 0) ((up_kind hL m).less (a' := 2) (b' := 2) 2 (by omega) (by omega)) hs2 hx).1
 repeat' (first | refine qgs ?_ | refine eD ?_ ?_ <;> intro)
 refine ex_join (X := Nat × Nat × List UInt8 × List UInt8) (fun ⟨i, e, a, b⟩ => ⟨[(0, .o P0), (2, .o (.c (.ptr 6 0))), (3, .o (.c (.ptr 7 0)))], [(0, Qz L m i), (1, Fz 2 3 8 9), (4, .dead), (5, .dead), (6, .obj [.d (ds ⟨#[]⟩), .d (di 0), .d (di 0), .d (ds ⟨#[]⟩), .d (ds ⟨#[]⟩), .d (di 0), .d (di 0), .d (db false), .d dnil]), (7, Iz w t e a b (-1)), (8, Xz xs2), (9, Tz ts2)], 10⟩)
  (fun ⟨i, e, a, b⟩ => SOk L 2 ⟨i, xs2, ts2⟩ ∧ (atM (isV L · w_where) (stepM >>= fun _ => exprM L m) (pure (-1)) >>= fun x => takeM L t_semi >>= fun _ => pure (⟨w, t, e, a, b, x, 0, false, []⟩ : IT)) ⟨i, xs2, ts2⟩ = T) ?_ ?_
 ·rcases hv : isV L i2 t_eq with _ | _
  ·replace hT := pureT (atnB hT hv)
   refine sC (CallsM.ren ((may_no i2 hs3.lt _ hv)) [0, 1] 10 rfl rfl rfl rfl) ?_
   repeat' (first | refine qgs ?_ | refine eD ?_ ?_ <;> intro)
   exact ex_meet (i2, 0, [], []) ⟨hs3.less (by omega), hT⟩ sS
  ·replace hT := stp1 (asc (atyB hT hv))
   have hs4 := stpS hL hs3 (isV_k hv)
   have hd := derived_c (m := m) hL hn w t (-1) ⟨i2 + 1, xs2, ts2⟩ hs4
   refine sC (CallsM.ren ((may_yes i2 hs3.lt (by omega) _ hv)) [0, 1] 10 rfl rfl rfl rfl) ?_
   repeat' (first | refine qgs ?_ | refine eD ?_ ?_ <;> intro)
   rcases hy : derivedM L ⟨i2 + 1, xs2, ts2⟩ with ⟨⟨e, a, b⟩, ⟨i3, xs3, ts3⟩⟩ | ⟨i9, e9⟩
   ·replace hT := (and_ok hy).symm.trans hT
    obtain ⟨h1, h2⟩ : xs3 = xs2 ∧ ts3 = ts2 := mv_derived L _ _ _ hy
    subst h1 h2
    have hs5 := (Up.ok (up_derived hL 3) hs4 hy).1
    rw [hy] at hd
    refine ex_callM (CallsM.moreD (CallsM.ren hd [0, 1, 7] 10 rfl rfl rfl rfl)) ?_
    repeat' (first | refine qgs ?_ | refine eD ?_ ?_ <;> intro)
    exact ex_meet (i3, e, a, b) ⟨hs5.less (by omega), hT⟩ sS
   ·obtain rfl := (and_err hy).symm.trans hT
    rw [hy] at hd
    refine ex_callM (CallsM.moreD (CallsM.ren hd [0, 1, 7] 10 rfl rfl rfl rfl)) ?_
    exact ⟨⟨_, rfl, rfl⟩, rfl, rfl⟩
 ·rintro ⟨i, e, a, b⟩ ⟨hs, hT⟩
  rcases hv : isV L i w_where with _ | _
  ·replace hT := pureT (atnB hT hv)
   refine sC (CallsM.ren ((may_no i hs.lt _ hv)) [0, 1] 10 rfl rfl rfl rfl) ?_
   repeat' (first | refine qgs ?_ | refine eD ?_ ?_ <;> intro)
   have hcon := take_c (m := m) ⟨i, xs2, ts2⟩ hs.i (by omega) t_semi
   rcases hx93 : (takeM L t_semi) ⟨i, xs2, ts2⟩ with ⟨_, s9⟩ | ⟨i9, e9⟩
   rotate_left
   ·obtain rfl := (and_err hx93).symm.trans hT
    refine sC (CallsM.ren (hcon.err hx93) [0, 1] 10 rfl rfl rfl rfl) ?_
    first | exact ⟨⟨_, rfl, rfl⟩, rfl, rfl⟩ | exact ⟨by kernel_rfl, ⟨_, rfl, rfl⟩, rfl, rfl⟩
   replace hT := (and_ok hx93).symm.trans hT
   refine sC (CallsM.ren (hcon.ok hx93) [0, 1] 10 rfl rfl rfl rfl) ?_
   clear hcon
   have hs1 := (Up.ok (Up.take hL t_semi 0) hs hx93).1
   obtain rfl := mv_take1 hx93
   obtain rfl : PR.ok (⟨w, t, e, a, b, -1, 0, false, []⟩ : IT) ⟨i + 1, xs2, ts2⟩ = T := hT
   repeat' (first | refine qgs ?_ | refine eD ?_ ?_ <;> intro)
   exact ⟨rfl, itLe, rfl, rfl⟩
  ·replace hT := stp1 (asc (atyB hT hv))
   have hs1 := stpS hL hs (isV_k hv)
   refine sC (CallsM.ren ((may_yes i hs.lt (by omega) _ hv)) [0, 1] 10 rfl rfl rfl rfl) ?_
   repeat' (first | refine qgs ?_ | refine eD ?_ ?_ <;> intro)
   have hcon := expr_c hL hn m hm2 ⟨i + 1, xs2, ts2⟩ (hs1.less (by omega))
   rcases hx : (exprM L m) ⟨i + 1, xs2, ts2⟩ with ⟨x, ⟨i4, xs4, ts4⟩⟩ | ⟨i9, e9⟩
   rotate_left
   ·obtain rfl := (and_err hx).symm.trans hT
    refine sC (CallsM.ren (hcon.err hx) [0, 1, 2, 3, 8, 9] 10 rfl rfl rfl rfl) ?_
    first | exact ⟨⟨_, rfl, rfl⟩, rfl, rfl⟩ | exact ⟨by kernel_rfl, ⟨_, rfl, rfl⟩, rfl, rfl⟩
   replace hT := (and_ok hx).symm.trans hT
   refine sC (CallsM.ren (hcon.ok hx) [0, 1, 2, 3, 8, 9] 10 rfl rfl rfl rfl) ?_
   clear hcon
   have hs2 := (Up.ok (up_expr hL m 3) hs1 hx).1
   obtain rfl := (keep_expr m).eq hx
   repeat' (first | refine qgs ?_ | refine eD ?_ ?_ <;> intro)
   have hcon := take_c (m := m) ⟨i4, xs4, ts2⟩ hs2.i (by omega) t_semi
   rcases hx103 : (takeM L t_semi) ⟨i4, xs4, ts2⟩ with ⟨_, s9⟩ | ⟨i9, e9⟩
   rotate_left
   ·obtain rfl := (and_err hx103).symm.trans hT
    refine sC (CallsM.ren (hcon.err hx103) [0, 1] 11 rfl rfl rfl rfl) ?_
    first | exact ⟨⟨_, rfl, rfl⟩, rfl, rfl⟩ | exact ⟨by kernel_rfl, ⟨_, rfl, rfl⟩, rfl, rfl⟩
   replace hT := (and_ok hx103).symm.trans hT
   refine sC (CallsM.ren (hcon.ok hx103) [0, 1] 11 rfl rfl rfl rfl) ?_
   clear hcon
   have hs3 := (Up.ok (Up.take hL t_semi 0) hs2 hx103).1
   obtain rfl := mv_take1 hx103
   obtain rfl : PR.ok (⟨w, t, e, a, b, x, 0, false, []⟩ : IT) ⟨i4 + 1, xs4, ts2⟩ = T := hT
   repeat' (first | refine qgs ?_ | refine eD ?_ ?_ <;> intro)
   exact ⟨rfl, itLe, rfl, rfl⟩
end
end Go.Proofs.YtidnlfkakhmadaaGreatDoor

namespace Go.Proofs.YtidnlfkakhmadaaGreatDoor
open Go.RowKit

section
variable {L : List TokP} {m : Nat}
def headN (L : List TokP) (n : Nat) (l : List SB) : PM (List SB) := if l = [] then subsN L n l else atM (namedV L ·) (subsN L n l) (pure l)
set_option maxHeartbeats 8000000 in
theorem pack_c (hL : TokOk L) (hn : L.length ≤ 100000) (s : PS) {c : Nat} (hs : SOk L c s) : C0 L m 59 [] (packM L) (fun v => .o (gD (itD v))) s := by
 refine C0.of fun T hT => ?_
 unfold packM at hT
 obtain ⟨i, xs, ts⟩ := s
 refine fn_ruleP (C := ⟨Tryz.prog, layF, Tryz.f59.ntmps, ΓL, 2, [], []⟩) layF_ok mixed Tryz.func59 rfl (by kernel_rfl) rfl rfl rfl SLe.rfl ?_
 repeat' (first | refine qgs ?_ | refine eD ?_ ?_ <;> intro)
 have hcon := take_c (m := m) ⟨i, xs, ts⟩ hs.i (by omega) w_pack
 rcases hx18 : (takeM L w_pack) ⟨i, xs, ts⟩ with ⟨_, s9⟩ | ⟨i9, e9⟩
 rotate_left
 ·obtain rfl := (and_err hx18).symm.trans hT
  refine sC (CallsM.ren (hcon.err hx18) [0, 1] 3 rfl rfl rfl rfl) ?_
  first | exact ⟨⟨_, rfl, rfl⟩, rfl, rfl⟩ | exact ⟨by kernel_rfl, ⟨_, rfl, rfl⟩, rfl, rfl⟩
 replace hT := (and_ok hx18).symm.trans hT
 refine sC (CallsM.ren (hcon.ok hx18) [0, 1] 3 rfl rfl rfl rfl) ?_
 clear hcon
 have hs1 := (Up.ok (Up.take hL w_pack 0) hs hx18).1
 obtain rfl := mv_take1 hx18
 have ha := ahead_c (L := L) (m := m) (i + 1) hs1.lt
 have hT : (match (if (tk L (i + 1)).k = 0 then integerV (tk L (i + 1)).t else none) with
  | none => failM 4 ⟨i + 1, xs, ts⟩
  | some (z, lt) => (stepM >>= fun _ => takeM L t_lcur >>= fun _ => (fun s => subsN L (L.length - s.i + 1) [] s) >>= fun l => takeM L t_rcur >>= fun _ => pure (⟨[], -1, 0, [], [], -1, z, lt, l⟩ : IT)) ⟨i + 1, xs, ts⟩) = T := hT
 have hk3 : (tk L (i + 1)).k = 0 → (tk L (i + 1)).k ≠ 3 := fun h => by omega
 have hs2 := fun h => stpS hL hs1 (hk3 h)
 clear hk3
 generalize tk L (i + 1) = u at *
 have hq := (integer_c u.t).gL
 repeat' (first | refine qgs ?_ | refine eD ?_ ?_ <;> intro)
 refine sC (CallsM.ren (ha) [0, 1] 4 rfl rfl rfl rfl) ?_
 rcases hz : integerV u.t with _ | ⟨z, lt⟩ <;> rw [hz] at hT hq
 ·have hq : CallsA Tryz.prog ΓL 27 [c1 (ds (bs u.t))] (.tup [c1 (di 0), c1 (db false), c1 (db false)]) := hq
  obtain rfl : PR.err (i + 1) 4 = T := by
   rw [← hT]
   by_cases hk : u.k = 0
   ·rw [if_pos hk]; rfl
   ·rw [if_neg hk]; rfl
  repeat' (first | refine ex_call hq ?_ | refine qg1 ?_ | refine eD ?_ ?_ <;> intro)
  refine sC (CallsM.ren ((fail_c (m := m) (i + 1) 4 hs1.lt)) [0, 1] 4 rfl rfl rfl rfl) ?_
  exact ⟨⟨_, rfl, rfl⟩, rfl, rfl⟩
 ·have hq : CallsA Tryz.prog ΓL 27 [c1 (ds (bs u.t))] (.tup [c1 (di z), c1 (db lt), c1 (db true)]) := hq
  by_cases hk : u.k = 0
  ·rw [if_pos hk] at hT
   replace hs2 := hs2 hk
   have hi1 := hs1.lt
   have hi2 := hs2.lt
   repeat' (first | refine ex_call hq ?_ | refine qg1 ?_ | refine eD ?_ ?_ <;> intro)
   refine sC (CallsM.ren (ha) [0, 1] 4 rfl rfl rfl rfl) ?_
   repeat' (first | refine aI ((i + 1 + 1 : Nat) : Int) ?_ | refine aU ((i + 1 + 1 : Nat) : Int) ?_ | refine aB ((i + 1 + 1 : Nat) : Int) ?_ | refine qg1 ?_ | refine eD ?_ ?_ <;> intro)
   replace hT : (takeM L t_lcur >>= fun _ => (fun s => subsN L (L.length - s.i + 1) [] s) >>= fun l => takeM L t_rcur >>= fun _ => pure (⟨[], -1, 0, [], [], -1, z, lt, l⟩ : IT)) ⟨i + 1 + 1, xs, ts⟩ = T := hT
   have hcon := take_c (m := m) ⟨i + 1 + 1, xs, ts⟩ hs2.i (by omega) t_lcur
   rcases hx50 : (takeM L t_lcur) ⟨i + 1 + 1, xs, ts⟩ with ⟨_, s9⟩ | ⟨i9, e9⟩
   rotate_left
   ·obtain rfl := (and_err hx50).symm.trans hT
    refine sC (CallsM.ren (hcon.err hx50) [0, 1] 4 rfl rfl rfl rfl) ?_
    first | exact ⟨⟨_, rfl, rfl⟩, rfl, rfl⟩ | exact ⟨by kernel_rfl, ⟨_, rfl, rfl⟩, rfl, rfl⟩
   replace hT := (and_ok hx50).symm.trans hT
   refine sC (CallsM.ren (hcon.ok hx50) [0, 1] 4 rfl rfl rfl rfl) ?_
   clear hcon
   have hs3 := (Up.ok (Up.take hL t_lcur 0) hs2 hx50).1
   obtain rfl := mv_take1 hx50
   repeat' (first | refine qgs ?_ | refine eD ?_ ?_ <;> intro)
   replace hT : (headN L (L.length - (i + 1 + 1 + 1) + 1) [] >>= fun l => takeM L t_rcur >>= fun _ => pure (⟨[], -1, 0, [], [], -1, z, lt, l⟩ : IT)) ⟨i + 1 + 1 + 1, xs, ts⟩ = T := hT
   refine ex_loop (X := Nat × List SB × Nat) (fun ⟨i, l, _⟩ => ⟨[(0, .o P0), (2, .o (.c (.ptr 2 0))), (3, .o (.c (.ptr 3 0)))], [(0, Qz L m i), (2, .obj [.d (ds ⟨#[]⟩), .d (di 0), .d (di 0), .d (ds ⟨#[]⟩), .d (ds ⟨#[]⟩), .d (di 0), .d (di 0), .d (db false), .d dnil]), (3, .obj [.d (ds ⟨#[]⟩), .d (di (-1)), .d (di 0), .d (ds ⟨#[]⟩), .d (ds ⟨#[]⟩), .d (di (-1)), .d (di z), .d (db lt), .row 4]), (4, .row 2 136 (l.map sbD))], 5⟩) (fun y => L.length - y.1)
    (fun ⟨i, l, n⟩ => SOk L c ⟨i, xs, ts⟩ ∧ L.length < i + n ∧ l.length ≤ i ∧ (headN L n l >>= fun l => takeM L t_rcur >>= fun _ => pure (⟨[], -1, 0, [], [], -1, z, lt, l⟩ : IT)) ⟨i, xs, ts⟩ = T) (i + 1 + 1 + 1, [], L.length - (i + 1 + 1 + 1) + 1) ⟨hs3.less (by omega), by omega, Nat.zero_le _, hT⟩ (SLe.trans sS (SLe.ownCell 3 8 4 2 136 rfl rfl rfl rfl rfl rfl)) ?_
   clear hT hs3 hs2 hs1 ha hq hs
   rintro ⟨i, l, n⟩ ⟨hs, hf, hll, hT⟩
   have hi := hs.lt
   have hnm := named_c (m := m) i hi
   cases n with
   | zero => omega
   | succ n =>
    have hbody : (l = [] ∨ namedV L i = true) → (subsN L (n + 1) l >>= fun l => takeM L t_rcur >>= fun _ => pure (⟨[], -1, 0, [], [], -1, z, lt, l⟩ : IT)) ⟨i, xs, ts⟩ = T := fun h => by
     unfold headN at hT
     by_cases hl : l = []
     ·rwa [if_pos hl] at hT
     ·rw [if_neg hl] at hT
      exact atyB hT (h.resolve_left hl)
    by_cases hgo : l = [] ∨ namedV L i = true
    ·replace hT := hbody hgo
     rw [subsN] at hT
     replace hT := asc hT
     by_cases hl : l = []
     ·subst hl
      repeat' (first | refine ex_is (α := Nat) 0 rfl ?_ | refine qg1 ?_ | refine eD ?_ ?_ <;> intro)
      rcases hnv : namedV L i with _ | _ <;> rw [hnv] at hnm
      ·replace hT := asc (rmF hT hnv)
       refine sC (CallsM.ren (hnm) [0, 1] 5 rfl rfl rfl rfl) ?_
       repeat' (first | refine qgs ?_ | refine eD ?_ ?_ <;> intro)
       have hcon := name_c (m := m) ⟨i, xs, ts⟩ hs.i (by omega)
       rcases hx79 : (nameM L) ⟨i, xs, ts⟩ with ⟨w, s9⟩ | ⟨i9, e9⟩
       rotate_left
       ·obtain rfl := (and_err hx79).symm.trans hT
        refine sC (CallsM.ren (hcon.err hx79) [0, 1] 5 rfl rfl rfl rfl) ?_
        first | exact ⟨⟨_, rfl, rfl⟩, rfl, rfl⟩ | exact ⟨by kernel_rfl, ⟨_, rfl, rfl⟩, rfl, rfl⟩
       replace hT := (and_ok hx79).symm.trans hT
       refine sC (CallsM.ren (hcon.ok hx79) [0, 1] 5 rfl rfl rfl rfl) ?_
       clear hcon
       have hs1 := (Up.ok (Up.name hL 0) hs hx79).1
       obtain rfl := mv_name1 hx79
       replace hT := asc hT
       repeat' (first | refine qgs ?_ | refine eD ?_ ?_ <;> intro)
       have hcon := take_c (m := m) ⟨i + 1, xs, ts⟩ hs1.i (by omega) t_colon
       rcases hx82 : (takeM L t_colon) ⟨i + 1, xs, ts⟩ with ⟨_, s9⟩ | ⟨i9, e9⟩
       rotate_left
       ·obtain rfl := (and_err hx82).symm.trans hT
        refine sC (CallsM.ren (hcon.err hx82) [0, 1] 5 rfl rfl rfl rfl) ?_
        first | exact ⟨⟨_, rfl, rfl⟩, rfl, rfl⟩ | exact ⟨by kernel_rfl, ⟨_, rfl, rfl⟩, rfl, rfl⟩
       replace hT := (and_ok hx82).symm.trans hT
       refine sC (CallsM.ren (hcon.ok hx82) [0, 1] 5 rfl rfl rfl rfl) ?_
       clear hcon
       have hs2 := (Up.ok (Up.take hL t_colon 0) hs1 hx82).1
       obtain rfl := mv_take1 hx82
       replace hT := asc hT
       repeat' (first | refine qgs ?_ | refine eD ?_ ?_ <;> intro)
       have hcon := num_c (m := m) ⟨i + 1 + 1, xs, ts⟩ hs2.i (by omega)
       rcases hx85 : (numberM L) ⟨i + 1 + 1, xs, ts⟩ with ⟨b, s9⟩ | ⟨i9, e9⟩
       rotate_left
       ·obtain rfl := (and_err hx85).symm.trans hT
        refine sC (CallsM.ren (hcon.err hx85) [0, 1] 5 rfl rfl rfl rfl) ?_
        first | exact ⟨⟨_, rfl, rfl⟩, rfl, rfl⟩ | exact ⟨by kernel_rfl, ⟨_, rfl, rfl⟩, rfl, rfl⟩
       replace hT := (and_ok hx85).symm.trans hT
       refine sC (CallsM.ren (hcon.ok hx85) [0, 1] 5 rfl rfl rfl rfl) ?_
       clear hcon
       have hs3 := (Up.ok (Up.number hL 0) hs2 hx85).1
       obtain rfl := mv_num1 hx85
       replace hT := asc hT
       repeat' (first | refine qgs ?_ | refine eD ?_ ?_ <;> intro)
       have hcon := take_c (m := m) ⟨i + 1 + 1 + 1, xs, ts⟩ hs3.i (by omega) t_semi
       rcases hx88 : (takeM L t_semi) ⟨i + 1 + 1 + 1, xs, ts⟩ with ⟨_, s9⟩ | ⟨i9, e9⟩
       rotate_left
       ·obtain rfl := (and_err hx88).symm.trans hT
        refine sC (CallsM.ren (hcon.err hx88) [0, 1] 5 rfl rfl rfl rfl) ?_
        first | exact ⟨⟨_, rfl, rfl⟩, rfl, rfl⟩ | exact ⟨by kernel_rfl, ⟨_, rfl, rfl⟩, rfl, rfl⟩
       replace hT := (and_ok hx88).symm.trans hT
       refine sC (CallsM.ren (hcon.ok hx88) [0, 1] 5 rfl rfl rfl rfl) ?_
       clear hcon
       have hs4 := (Up.ok (Up.take hL t_semi 0) hs3 hx88).1
       obtain rfl := mv_take1 hx88
       have hi4 := hs4.lt
       have hmin : (if (1048576 : Int) < (b : Int) then 1048576 else (b : Int)) = ((min b 1048576 : Nat) : Int) := by split <;> omega
       repeat' (first | refine aI ((min b 1048576 : Nat) : Int) ?_ | refine aU ((min b 1048576 : Nat) : Int) ?_ | refine aB ((min b 1048576 : Nat) : Int) ?_ | refine ex_is ((min b 1048576 : Nat) : Int) hmin ?_ | refine qg1 ?_ | refine eD ?_ ?_ <;> intro)
       refine ex_app (0) (1) 1000 (by first | rfl | (simp; done) | (simp; omega)) (by first | rfl | (simp; done) | (simp; omega)) rfl (by omega) ?_
       refine ex_is (List.map sbD ([] ++ [(⟨w, min b 1048576⟩ : SB)])) (by rw [List.map_append]; rfl) ?_
       repeat' (first | refine qgs ?_ | refine eD ?_ ?_ <;> intro)
       exact ex_round (i + 1 + 1 + 1 + 1, [] ++ [(⟨w, min b 1048576⟩ : SB)], n) ⟨hs4.less (by omega), by omega, by simp <;> omega, by unfold headN; rw [if_neg (by simp)]; exact hT⟩ (by show L.length - (i + 1 + 1 + 1 + 1) < L.length - i; omega) (sR [(0, 0), (2, 2), (3, 3), (6, 4), (1, 1)])
      ·replace hT := rmT hT hnv
       refine sC (CallsM.ren (hnm) [0, 1] 5 rfl rfl rfl rfl) ?_
       repeat' (first | refine ex_is (α := Nat) 0 rfl ?_ | refine qg1 ?_ | refine eD ?_ ?_ <;> intro)
       have hcon := room_c (m := m) ⟨i, xs, ts⟩ hi 0 (by omega)
       rcases hr : (roomM 0) ⟨i, xs, ts⟩ with ⟨_, s9⟩ | ⟨i9, e9⟩
       rotate_left
       ·obtain rfl := (and_err hr).symm.trans hT
        refine sC (CallsM.ren (hcon.err hr) [0, 1] 5 rfl rfl rfl rfl) ?_
        first | exact ⟨⟨_, rfl, rfl⟩, rfl, rfl⟩ | exact ⟨by kernel_rfl, ⟨_, rfl, rfl⟩, rfl, rfl⟩
       replace hT := (and_ok hr).symm.trans hT
       refine sC (CallsM.ren (hcon.ok hr) [0, 1] 5 rfl rfl rfl rfl) ?_
       clear hcon
       obtain rfl := mv_room1 hr
       replace hT := asc hT
       repeat' (first | refine qgs ?_ | refine eD ?_ ?_ <;> intro)
       have hcon := name_c (m := m) ⟨i, xs, ts⟩ hs.i (by omega)
       rcases hx102 : (nameM L) ⟨i, xs, ts⟩ with ⟨w, s9⟩ | ⟨i9, e9⟩
       rotate_left
       ·obtain rfl := (and_err hx102).symm.trans hT
        refine sC (CallsM.ren (hcon.err hx102) [0, 1] 5 rfl rfl rfl rfl) ?_
        first | exact ⟨⟨_, rfl, rfl⟩, rfl, rfl⟩ | exact ⟨by kernel_rfl, ⟨_, rfl, rfl⟩, rfl, rfl⟩
       replace hT := (and_ok hx102).symm.trans hT
       refine sC (CallsM.ren (hcon.ok hx102) [0, 1] 5 rfl rfl rfl rfl) ?_
       clear hcon
       have hs1 := (Up.ok (Up.name hL 0) hs hx102).1
       obtain rfl := mv_name1 hx102
       replace hT := asc hT
       repeat' (first | refine qgs ?_ | refine eD ?_ ?_ <;> intro)
       have hcon := take_c (m := m) ⟨i + 1, xs, ts⟩ hs1.i (by omega) t_colon
       rcases hx105 : (takeM L t_colon) ⟨i + 1, xs, ts⟩ with ⟨_, s9⟩ | ⟨i9, e9⟩
       rotate_left
       ·obtain rfl := (and_err hx105).symm.trans hT
        refine sC (CallsM.ren (hcon.err hx105) [0, 1] 5 rfl rfl rfl rfl) ?_
        first | exact ⟨⟨_, rfl, rfl⟩, rfl, rfl⟩ | exact ⟨by kernel_rfl, ⟨_, rfl, rfl⟩, rfl, rfl⟩
       replace hT := (and_ok hx105).symm.trans hT
       refine sC (CallsM.ren (hcon.ok hx105) [0, 1] 5 rfl rfl rfl rfl) ?_
       clear hcon
       have hs2 := (Up.ok (Up.take hL t_colon 0) hs1 hx105).1
       obtain rfl := mv_take1 hx105
       replace hT := asc hT
       repeat' (first | refine qgs ?_ | refine eD ?_ ?_ <;> intro)
       have hcon := num_c (m := m) ⟨i + 1 + 1, xs, ts⟩ hs2.i (by omega)
       rcases hx108 : (numberM L) ⟨i + 1 + 1, xs, ts⟩ with ⟨b, s9⟩ | ⟨i9, e9⟩
       rotate_left
       ·obtain rfl := (and_err hx108).symm.trans hT
        refine sC (CallsM.ren (hcon.err hx108) [0, 1] 5 rfl rfl rfl rfl) ?_
        first | exact ⟨⟨_, rfl, rfl⟩, rfl, rfl⟩ | exact ⟨by kernel_rfl, ⟨_, rfl, rfl⟩, rfl, rfl⟩
       replace hT := (and_ok hx108).symm.trans hT
       refine sC (CallsM.ren (hcon.ok hx108) [0, 1] 5 rfl rfl rfl rfl) ?_
       clear hcon
       have hs3 := (Up.ok (Up.number hL 0) hs2 hx108).1
       obtain rfl := mv_num1 hx108
       replace hT := asc hT
       repeat' (first | refine qgs ?_ | refine eD ?_ ?_ <;> intro)
       have hcon := take_c (m := m) ⟨i + 1 + 1 + 1, xs, ts⟩ hs3.i (by omega) t_semi
       rcases hx111 : (takeM L t_semi) ⟨i + 1 + 1 + 1, xs, ts⟩ with ⟨_, s9⟩ | ⟨i9, e9⟩
       rotate_left
       ·obtain rfl := (and_err hx111).symm.trans hT
        refine sC (CallsM.ren (hcon.err hx111) [0, 1] 5 rfl rfl rfl rfl) ?_
        first | exact ⟨⟨_, rfl, rfl⟩, rfl, rfl⟩ | exact ⟨by kernel_rfl, ⟨_, rfl, rfl⟩, rfl, rfl⟩
       replace hT := (and_ok hx111).symm.trans hT
       refine sC (CallsM.ren (hcon.ok hx111) [0, 1] 5 rfl rfl rfl rfl) ?_
       clear hcon
       have hs4 := (Up.ok (Up.take hL t_semi 0) hs3 hx111).1
       obtain rfl := mv_take1 hx111
       have hi4 := hs4.lt
       have hmin : (if (1048576 : Int) < (b : Int) then 1048576 else (b : Int)) = ((min b 1048576 : Nat) : Int) := by split <;> omega
       repeat' (first | refine aI ((min b 1048576 : Nat) : Int) ?_ | refine aU ((min b 1048576 : Nat) : Int) ?_ | refine aB ((min b 1048576 : Nat) : Int) ?_ | refine ex_is ((min b 1048576 : Nat) : Int) hmin ?_ | refine qg1 ?_ | refine eD ?_ ?_ <;> intro)
       refine ex_app (0) (1) 1000 (by first | rfl | (simp; done) | (simp; omega)) (by first | rfl | (simp; done) | (simp; omega)) rfl (by omega) ?_
       refine ex_is (List.map sbD ([] ++ [(⟨w, min b 1048576⟩ : SB)])) (by rw [List.map_append]; rfl) ?_
       repeat' (first | refine qgs ?_ | refine eD ?_ ?_ <;> intro)
       exact ex_round (i + 1 + 1 + 1 + 1, [] ++ [(⟨w, min b 1048576⟩ : SB)], n) ⟨hs4.less (by omega), by omega, by simp <;> omega, by unfold headN; rw [if_neg (by simp)]; exact hT⟩ (by show L.length - (i + 1 + 1 + 1 + 1) < L.length - i; omega) (sR [(0, 0), (2, 2), (3, 3), (6, 4), (1, 1)])
     ·have hnv : namedV L i = true := hgo.resolve_left hl
      have hl0 : l.length ≠ 0 := fun e => hl (List.eq_nil_of_length_eq_zero e)
      rw [hnv] at hnm
      repeat' (first | refine ex_is l.length (by simp) ?_ | refine qg1 ?_ | refine eD ?_ ?_ <;> intro)
      refine sC (CallsM.ren (hnm) [0, 1] 5 rfl rfl rfl rfl) ?_
      repeat' (first | refine qgs ?_ | refine eD ?_ ?_ <;> intro)
      replace hT := rmT hT hnv
      refine sC (CallsM.ren (hnm) [0, 1] 5 rfl rfl rfl rfl) ?_
      repeat' (first | refine ex_is l.length (by simp) ?_ | refine qg1 ?_ | refine eD ?_ ?_ <;> intro)
      have hcon := room_c (m := m) ⟨i, xs, ts⟩ hi l.length (by omega)
      rcases hr : (roomM l.length) ⟨i, xs, ts⟩ with ⟨_, s9⟩ | ⟨i9, e9⟩
      rotate_left
      ·obtain rfl := (and_err hr).symm.trans hT
       refine sC (CallsM.ren (hcon.err hr) [0, 1] 5 rfl rfl rfl rfl) ?_
       first | exact ⟨⟨_, rfl, rfl⟩, rfl, rfl⟩ | exact ⟨by kernel_rfl, ⟨_, rfl, rfl⟩, rfl, rfl⟩
      replace hT := (and_ok hr).symm.trans hT
      refine sC (CallsM.ren (hcon.ok hr) [0, 1] 5 rfl rfl rfl rfl) ?_
      clear hcon
      obtain rfl := mv_room1 hr
      replace hT := asc hT
      repeat' (first | refine qgs ?_ | refine eD ?_ ?_ <;> intro)
      have hcon := name_c (m := m) ⟨i, xs, ts⟩ hs.i (by omega)
      rcases hx131 : (nameM L) ⟨i, xs, ts⟩ with ⟨w, s9⟩ | ⟨i9, e9⟩
      rotate_left
      ·obtain rfl := (and_err hx131).symm.trans hT
       refine sC (CallsM.ren (hcon.err hx131) [0, 1] 5 rfl rfl rfl rfl) ?_
       first | exact ⟨⟨_, rfl, rfl⟩, rfl, rfl⟩ | exact ⟨by kernel_rfl, ⟨_, rfl, rfl⟩, rfl, rfl⟩
      replace hT := (and_ok hx131).symm.trans hT
      refine sC (CallsM.ren (hcon.ok hx131) [0, 1] 5 rfl rfl rfl rfl) ?_
      clear hcon
      have hs1 := (Up.ok (Up.name hL 0) hs hx131).1
      obtain rfl := mv_name1 hx131
      replace hT := asc hT
      repeat' (first | refine qgs ?_ | refine eD ?_ ?_ <;> intro)
      have hcon := take_c (m := m) ⟨i + 1, xs, ts⟩ hs1.i (by omega) t_colon
      rcases hx134 : (takeM L t_colon) ⟨i + 1, xs, ts⟩ with ⟨_, s9⟩ | ⟨i9, e9⟩
      rotate_left
      ·obtain rfl := (and_err hx134).symm.trans hT
       refine sC (CallsM.ren (hcon.err hx134) [0, 1] 5 rfl rfl rfl rfl) ?_
       first | exact ⟨⟨_, rfl, rfl⟩, rfl, rfl⟩ | exact ⟨by kernel_rfl, ⟨_, rfl, rfl⟩, rfl, rfl⟩
      replace hT := (and_ok hx134).symm.trans hT
      refine sC (CallsM.ren (hcon.ok hx134) [0, 1] 5 rfl rfl rfl rfl) ?_
      clear hcon
      have hs2 := (Up.ok (Up.take hL t_colon 0) hs1 hx134).1
      obtain rfl := mv_take1 hx134
      replace hT := asc hT
      repeat' (first | refine qgs ?_ | refine eD ?_ ?_ <;> intro)
      have hcon := num_c (m := m) ⟨i + 1 + 1, xs, ts⟩ hs2.i (by omega)
      rcases hx137 : (numberM L) ⟨i + 1 + 1, xs, ts⟩ with ⟨b, s9⟩ | ⟨i9, e9⟩
      rotate_left
      ·obtain rfl := (and_err hx137).symm.trans hT
       refine sC (CallsM.ren (hcon.err hx137) [0, 1] 5 rfl rfl rfl rfl) ?_
       first | exact ⟨⟨_, rfl, rfl⟩, rfl, rfl⟩ | exact ⟨by kernel_rfl, ⟨_, rfl, rfl⟩, rfl, rfl⟩
      replace hT := (and_ok hx137).symm.trans hT
      refine sC (CallsM.ren (hcon.ok hx137) [0, 1] 5 rfl rfl rfl rfl) ?_
      clear hcon
      have hs3 := (Up.ok (Up.number hL 0) hs2 hx137).1
      obtain rfl := mv_num1 hx137
      replace hT := asc hT
      repeat' (first | refine qgs ?_ | refine eD ?_ ?_ <;> intro)
      have hcon := take_c (m := m) ⟨i + 1 + 1 + 1, xs, ts⟩ hs3.i (by omega) t_semi
      rcases hx140 : (takeM L t_semi) ⟨i + 1 + 1 + 1, xs, ts⟩ with ⟨_, s9⟩ | ⟨i9, e9⟩
      rotate_left
      ·obtain rfl := (and_err hx140).symm.trans hT
       refine sC (CallsM.ren (hcon.err hx140) [0, 1] 5 rfl rfl rfl rfl) ?_
       first | exact ⟨⟨_, rfl, rfl⟩, rfl, rfl⟩ | exact ⟨by kernel_rfl, ⟨_, rfl, rfl⟩, rfl, rfl⟩
      replace hT := (and_ok hx140).symm.trans hT
      refine sC (CallsM.ren (hcon.ok hx140) [0, 1] 5 rfl rfl rfl rfl) ?_
      clear hcon
      have hs4 := (Up.ok (Up.take hL t_semi 0) hs3 hx140).1
      obtain rfl := mv_take1 hx140
      have hi4 := hs4.lt
      have hmin : (if (1048576 : Int) < (b : Int) then 1048576 else (b : Int)) = ((min b 1048576 : Nat) : Int) := by split <;> omega
      repeat' (first | refine aI ((min b 1048576 : Nat) : Int) ?_ | refine aU ((min b 1048576 : Nat) : Int) ?_ | refine aB ((min b 1048576 : Nat) : Int) ?_ | refine ex_is ((min b 1048576 : Nat) : Int) hmin ?_ | refine qg1 ?_ | refine eD ?_ ?_ <;> intro)
      refine ex_app (l.length) (1) 1000 (by first | rfl | (simp; done) | (simp; omega)) (by first | rfl | (simp; done) | (simp; omega)) rfl (by omega) ?_
      refine ex_is (List.map sbD (l ++ [(⟨w, min b 1048576⟩ : SB)])) (by rw [List.map_append]; rfl) ?_
      repeat' (first | refine qgs ?_ | refine eD ?_ ?_ <;> intro)
      exact ex_round (i + 1 + 1 + 1 + 1, l ++ [(⟨w, min b 1048576⟩ : SB)], n) ⟨hs4.less (by omega), by omega, by simp <;> omega, by unfold headN; rw [if_neg (by simp)]; exact hT⟩ (by show L.length - (i + 1 + 1 + 1 + 1) < L.length - i; omega) (sR [(0, 0), (2, 2), (3, 3), (6, 4), (1, 1)])
    ·have hl : l ≠ [] := fun e => hgo (.inl e)
     have hnv : namedV L i = false := by simpa using fun e => hgo (.inr e)
     rw [hnv] at hnm
     unfold headN at hT
     rw [if_neg hl] at hT
     replace hT := pureT (atnB hT hnv)
     have hl0 : l.length ≠ 0 := fun e => hl (List.eq_nil_of_length_eq_zero e)
     repeat' (first | refine ex_is l.length (by simp) ?_ | refine qg1 ?_ | refine eD ?_ ?_ <;> intro)
     refine sC (CallsM.ren (hnm) [0, 1] 5 rfl rfl rfl rfl) ?_
     repeat' (first | refine qgs ?_ | refine eD ?_ ?_ <;> intro)
     have hcon := take_c (m := m) ⟨i, xs, ts⟩ hs.i (by omega) t_rcur
     rcases hx158 : (takeM L t_rcur) ⟨i, xs, ts⟩ with ⟨_, s9⟩ | ⟨i9, e9⟩
     rotate_left
     ·obtain rfl := (and_err hx158).symm.trans hT
      refine sC (CallsM.ren (hcon.err hx158) [0, 1] 5 rfl rfl rfl rfl) ?_
      first | exact ⟨⟨_, rfl, rfl⟩, rfl, rfl⟩ | exact ⟨by kernel_rfl, ⟨_, rfl, rfl⟩, rfl, rfl⟩
     replace hT := (and_ok hx158).symm.trans hT
     refine sC (CallsM.ren (hcon.ok hx158) [0, 1] 5 rfl rfl rfl rfl) ?_
     clear hcon
     have hs1 := (Up.ok (Up.take hL t_rcur 0) hs hx158).1
     obtain rfl := mv_take1 hx158
     obtain rfl : PR.ok (⟨[], -1, 0, [], [], -1, z, lt, l⟩ : IT) ⟨i + 1, xs, ts⟩ = T := hT
     repeat' (first | refine qgs ?_ | refine eD ?_ ?_ <;> intro)
     exact ⟨rfl, TLe.rfl, rfl, rfl⟩
  ·rw [if_neg hk] at hT
   obtain rfl : PR.err (i + 1) 4 = T := hT
   repeat' (first | refine ex_call hq ?_ | refine qg1 ?_ | refine eD ?_ ?_ <;> intro)
   refine sC (CallsM.ren (ha) [0, 1] 4 rfl rfl rfl rfl) ?_
   repeat' (first | refine qgs ?_ | refine eD ?_ ?_ <;> intro)
   refine sC (CallsM.ren ((fail_c (m := m) (i + 1) 4 hs1.lt)) [0, 1] 4 rfl rfl rfl rfl) ?_
   exact ⟨⟨_, rfl, rfl⟩, rfl, rfl⟩
end
end Go.Proofs.YtidnlfkakhmadaaGreatDoor

namespace Go.Proofs.YtidnlfkakhmadaaGreatDoor
open Go.RowKit

section
variable {L : List TokP} {m : Nat}
def Mv {α : Type} (x : PM α) : Prop := ∀ s v s', x s = .ok v s' → s.xs = s'.xs ∧ s.ts = s'.ts
theorem Mv.and {α β : Type} {x : PM α} {f : α → PM β} (hx : Mv x) (hf : ∀ v, Mv (f v)) : Mv (x >>= f) := fun s v s' h => by
 obtain ⟨u, s1, h1, h2⟩ := mo_inv h
 exact ⟨(hx _ _ _ h1).1.trans (hf u _ _ _ h2).1, (hx _ _ _ h1).2.trans (hf u _ _ _ h2).2⟩
theorem Mv.at {α : Type} {p : Nat → Bool} {x y : PM α} (hx : Mv x) (hy : Mv y) : Mv (atM p x y) := fun s v s' h => by
 unfold atM at h
 split at h
 ·exact hx _ _ _ h
 ·exact hy _ _ _ h
theorem Mv.pure {α : Type} (v : α) : Mv (pure v) := fun s u s' h => by cases h; exact ⟨rfl, rfl⟩
theorem Mv.step : Mv stepM := fun s u s' h => by cases h; exact ⟨rfl, rfl⟩
theorem Mv.take (t : List UInt8) : Mv (takeM L t) := fun s v s' h => by unfold takeM at h; split at h <;> cases h; exact ⟨rfl, rfl⟩
theorem Mv.name : Mv (nameM L) := fun s v s' h => by unfold nameM at h; split at h <;> cases h; exact ⟨rfl, rfl⟩
theorem Mv.num : Mv (numberM L) := fun s v s' h => by unfold numberM at h; split at h <;> cases h; exact ⟨rfl, rfl⟩
theorem Mv.roomIf (p : Nat → Bool) (n : Nat) : Mv (fun s => if p s.i = true then roomM n s else .ok () s) := fun s u s' h => by
 dsimp only at h
 split at h
 ·unfold roomM at h; split at h <;> cases h; exact ⟨rfl, rfl⟩
 ·cases h; exact ⟨rfl, rfl⟩
theorem mvs_subs : ∀ n l, Mv (subsN L n l)
 | 0, l => Mv.pure _
 | n + 1, l => by
  rw [subsN]
  exact (Mv.roomIf (namedV L ·) _).and fun _ => Mv.name.and fun w => (Mv.take _).and fun _ => Mv.num.and fun b => (Mv.take _).and fun _ => Mv.at (mvs_subs n _) (Mv.pure _)
theorem mvs_pack : Mv (packM L) := (Mv.take _).and fun _ => fun s v s' h => by
 split at h
 ·cases h
 ·exact (Mv.step.and fun _ => (Mv.take _).and fun _ => (show Mv (fun s => subsN L (L.length - s.i + 1) [] s) from fun s v s' hx => mvs_subs _ _ s v s' hx).and fun l => (Mv.take _).and fun _ => Mv.pure _) _ _ _ h
theorem mv_pack {i i1 : Nat} {xs xs1 : List EX} {ts ts1 : List TY} {v : IT} (h : packM L ⟨i, xs, ts⟩ = .ok v ⟨i1, xs1, ts1⟩) : xs = xs1 ∧ ts = ts1 := mvs_pack _ _ _ h
theorem mvs_const : Mv (constM L) := (Mv.take _).and fun _ => Mv.name.and fun w => (Mv.take _).and fun _ => Mv.num.and fun n => (Mv.take _).and fun _ => Mv.pure _
theorem mv_const {i i1 : Nat} {xs xs1 : List EX} {ts ts1 : List TY} {v : CO} (h : constM L ⟨i, xs, ts⟩ = .ok v ⟨i1, xs1, ts1⟩) : xs = xs1 ∧ ts = ts1 := mvs_const _ _ _ h
set_option maxHeartbeats 16000000 in
theorem record_c (hL : TokOk L) (hn : L.length ≤ 100000) (hm : m = 32) (s : PS) {c : Nat} (hs : SOk L c s) : C2 L m 36 [] (recordM L) (fun v => .o (gD (rcD v))) s := by
 refine C2.of fun T hT => ?_
 unfold recordM at hT
 obtain ⟨i, xs, ts⟩ := s
 refine fn_ruleP (C := ⟨Tryz.prog, layF, Tryz.f36.ntmps, ΓL, 6, [], [10]⟩) layF_ok mixed Tryz.func36 rfl (by kernel_rfl) rfl rfl rfl SLe.rfl ?_
 repeat' (first | refine qgs ?_ | refine eD ?_ ?_ <;> intro)
 have hcon := take_c (m := m) ⟨i, xs, ts⟩ hs.i (by omega) w_struct
 rcases hx47 : (takeM L w_struct) ⟨i, xs, ts⟩ with ⟨_, s9⟩ | ⟨i9, e9⟩
 rotate_left
 ·obtain rfl := (and_err hx47).symm.trans hT
  refine sC (CallsM.ren (hcon.err hx47) [0, 1] 7 rfl rfl rfl rfl) ?_
  first | exact ⟨⟨_, rfl, rfl⟩, rfl, rfl⟩ | exact ⟨by kernel_rfl, ⟨_, rfl, rfl⟩, rfl, rfl⟩
 replace hT := (and_ok hx47).symm.trans hT
 refine sC (CallsM.ren (hcon.ok hx47) [0, 1] 7 rfl rfl rfl rfl) ?_
 clear hcon
 have hs1 := (Up.ok (Up.take hL w_struct 0) hs hx47).1
 obtain rfl := mv_take1 hx47
 repeat' (first | refine qgs ?_ | refine eD ?_ ?_ <;> intro)
 have hcon := name_c (m := m) ⟨i + 1, xs, ts⟩ hs1.i (by omega)
 rcases hx49 : (nameM L) ⟨i + 1, xs, ts⟩ with ⟨w, s9⟩ | ⟨i9, e9⟩
 rotate_left
 ·obtain rfl := (and_err hx49).symm.trans hT
  refine sC (CallsM.ren (hcon.err hx49) [0, 1] 7 rfl rfl rfl rfl) ?_
  first | exact ⟨⟨_, rfl, rfl⟩, rfl, rfl⟩ | exact ⟨by kernel_rfl, ⟨_, rfl, rfl⟩, rfl, rfl⟩
 replace hT := (and_ok hx49).symm.trans hT
 refine sC (CallsM.ren (hcon.ok hx49) [0, 1] 7 rfl rfl rfl rfl) ?_
 clear hcon
 have hs2 := (Up.ok (Up.name hL 0) hs1 hx49).1
 obtain rfl := mv_name1 hx49
 repeat' (first | refine qgs ?_ | refine eD ?_ ?_ <;> intro)
 refine ex_join (X := Nat × List (List UInt8)) (fun ⟨i, ps⟩ => ⟨[(0, .o P0), (2, .o (.c (.ptr 6 0))), (3, .o (.c (.ptr 7 0)))], [(0, Qz L m i), (1, Fz 2 3 4 5), (4, Xz xs), (5, Tz ts), (6, .obj [.d (ds ⟨#[]⟩), .d dnil, .d dnil]), (7, .obj [.d (ds (bs w)), .row 9, .d dnil]), (9, .row 1 9 (ps.map fun p => [ds (bs p)]))], 10⟩)
  (fun ⟨i, ps⟩ => SOk L c ⟨i, xs, ts⟩ ∧ (takeM L t_lcur >>= fun _ => (fun s => itemsN L (L.length - s.i + 1) [] s) >>= fun is => takeM L t_rcur >>= fun _ => pure (⟨w, ps, is⟩ : RC)) ⟨i, xs, ts⟩ = T) ?_ ?_
 ·rcases hv : isV L (i + 1 + 1) t_lpar with _ | _
  ·replace hT := pureT (atnB hT hv)
   refine sC (CallsM.ren ((may_no (i + 1 + 1) hs2.lt _ hv)) [0, 1] 8 rfl rfl rfl rfl) ?_
   repeat' (first | refine qgs ?_ | refine eD ?_ ?_ <;> intro)
   exact ex_meet (i + 1 + 1, []) ⟨hs2.less (by omega), hT⟩ (SLe.trans sS (SLe.ownCell 7 1 9 1 9 rfl rfl rfl rfl rfl rfl))
  ·replace hT := asc (stp1 (asc (atyB hT hv)))
   have hs3 := stpS hL hs2 (isV_k hv)
   have hi3 := hs3.lt
   refine sC (CallsM.ren ((may_yes (i + 1 + 1) hs2.lt (by omega) _ hv)) [0, 1] 8 rfl rfl rfl rfl) ?_
   repeat' (first | refine qgs ?_ | refine eD ?_ ?_ <;> intro)
   have hcon := name_c (m := m) ⟨i + 1 + 1 + 1, xs, ts⟩ hs3.i (by omega)
   rcases hx63 : (nameM L) ⟨i + 1 + 1 + 1, xs, ts⟩ with ⟨p, s9⟩ | ⟨i9, e9⟩
   rotate_left
   ·obtain rfl := (and_err hx63).symm.trans hT
    refine sC (CallsM.ren (hcon.err hx63) [0, 1] 8 rfl rfl rfl rfl) ?_
    first | exact ⟨⟨_, rfl, rfl⟩, rfl, rfl⟩ | exact ⟨by kernel_rfl, ⟨_, rfl, rfl⟩, rfl, rfl⟩
   replace hT := (and_ok hx63).symm.trans hT
   refine sC (CallsM.ren (hcon.ok hx63) [0, 1] 8 rfl rfl rfl rfl) ?_
   clear hcon
   have hs4 := (Up.ok (Up.name hL 0) hs3 hx63).1
   obtain rfl := mv_name1 hx63
   have hi4 := hs4.lt
   repeat' (first | refine qgs ?_ | refine eD ?_ ?_ <;> intro)
   refine ex_app (0) (1) 1000 (by first | rfl | (simp; done) | (simp; omega)) (by first | rfl | (simp; done) | (simp; omega)) rfl (by omega) ?_
   refine ex_is (List.map (fun p : List UInt8 => [ds (bs p)]) [p]) (rfl) ?_
   repeat' (first | refine qgs ?_ | refine eD ?_ ?_ <;> intro)
   replace hT := asc hT
   replace hT : (parsN L (L.length - (i + 1 + 1 + 1 + 1) + 1) [p] >>= fun l => (takeM L t_rpar >>= fun _ => pure l) >>= fun ps => takeM L t_lcur >>= fun _ => (fun s => itemsN L (L.length - s.i + 1) [] s) >>= fun is => takeM L t_rcur >>= fun _ => pure (⟨w, ps, is⟩ : RC)) ⟨i + 1 + 1 + 1 + 1, xs, ts⟩ = T := hT
   refine ex_loop (X := Nat × List (List UInt8) × Nat) (fun ⟨i, ps, _⟩ => ⟨[(0, .o P0), (2, .o (.c (.ptr 6 0))), (3, .o (.c (.ptr 7 0)))], [(0, Qz L m i), (1, Fz 2 3 4 5), (4, Xz xs), (5, Tz ts), (6, .obj [.d (ds ⟨#[]⟩), .d dnil, .d dnil]), (7, .obj [.d (ds (bs w)), .row 9, .d dnil]), (9, .row 1 9 (ps.map fun p => [ds (bs p)]))], 10⟩) (fun y => L.length - y.1)
    (fun ⟨i, l, n⟩ => SOk L c ⟨i, xs, ts⟩ ∧ L.length < i + n ∧ l.length ≤ i ∧ (parsN L n l >>= fun l => (takeM L t_rpar >>= fun _ => pure l) >>= fun ps => takeM L t_lcur >>= fun _ => (fun s => itemsN L (L.length - s.i + 1) [] s) >>= fun is => takeM L t_rcur >>= fun _ => pure (⟨w, ps, is⟩ : RC)) ⟨i, xs, ts⟩ = T) (i + 1 + 1 + 1 + 1, [p], L.length - (i + 1 + 1 + 1 + 1) + 1) ⟨hs4.less (by omega), by omega, by simp, hT⟩ sS ?_
   clear hT hs4 hs3 hs2 hs1 hs hi3 hi4
   rintro ⟨i, l, n⟩ ⟨hs, hf, hll, hT⟩
   have hi := hs.lt
   cases n with
   | zero => omega
   | succ n =>
    rw [parsN] at hT
    rcases hv : isV L i t_comma with _ | _
    ·replace hT := atnB hT hv
     replace hT := pureT hT
     replace hT := asc hT
     refine sC (CallsM.ren ((may_no i hi _ hv)) [0, 1] 10 rfl rfl rfl rfl) ?_
     repeat' (first | refine qgs ?_ | refine eD ?_ ?_ <;> intro)
     have hcon := take_c (m := m) ⟨i, xs, ts⟩ hs.i (by omega) t_rpar
     rcases hx86 : (takeM L t_rpar) ⟨i, xs, ts⟩ with ⟨_, s9⟩ | ⟨i9, e9⟩
     rotate_left
     ·obtain rfl := (and_err hx86).symm.trans hT
      refine sC (CallsM.ren (hcon.err hx86) [0, 1] 10 rfl rfl rfl rfl) ?_
      first | exact ⟨⟨_, rfl, rfl⟩, rfl, rfl⟩ | exact ⟨by kernel_rfl, ⟨_, rfl, rfl⟩, rfl, rfl⟩
     replace hT := (and_ok hx86).symm.trans hT
     refine sC (CallsM.ren (hcon.ok hx86) [0, 1] 10 rfl rfl rfl rfl) ?_
     clear hcon
     have hs1 := (Up.ok (Up.take hL t_rpar 0) hs hx86).1
     obtain rfl := mv_take1 hx86
     replace hT := pureT hT
     repeat' (first | refine qgs ?_ | refine eD ?_ ?_ <;> intro)
     exact ex_meet (i + 1, l) ⟨hs1.less (by omega), hT⟩ sS
    ·replace hT := asc (stp1 (asc (atyB hT hv)))
     have hs1 := stpS hL hs (isV_k hv)
     have hnm := named_c (m := m) (i + 1) hs1.lt
     refine sC (CallsM.ren ((may_yes i hi (by omega) _ hv)) [0, 1] 10 rfl rfl rfl rfl) ?_
     repeat' (first | refine qgs ?_ | refine eD ?_ ?_ <;> intro)
     rcases hb : namedV L (i + 1) with _ | _ <;> rw [hb] at hnm
     ·replace hT := asc (rmF hT hb)
      refine sC (CallsM.ren (hnm) [0, 1] 10 rfl rfl rfl rfl) ?_
      repeat' (first | refine qgs ?_ | refine eD ?_ ?_ <;> intro)
      have hcon := name_c (m := m) ⟨i + 1, xs, ts⟩ hs1.i (by omega)
      rcases hx99 : (nameM L) ⟨i + 1, xs, ts⟩ with ⟨p, s9⟩ | ⟨i9, e9⟩
      rotate_left
      ·obtain rfl := (and_err hx99).symm.trans hT
       refine sC (CallsM.ren (hcon.err hx99) [0, 1] 10 rfl rfl rfl rfl) ?_
       first | exact ⟨⟨_, rfl, rfl⟩, rfl, rfl⟩ | exact ⟨by kernel_rfl, ⟨_, rfl, rfl⟩, rfl, rfl⟩
      replace hT := (and_ok hx99).symm.trans hT
      refine sC (CallsM.ren (hcon.ok hx99) [0, 1] 10 rfl rfl rfl rfl) ?_
      clear hcon
      have hs2 := (Up.ok (Up.name hL 0) hs1 hx99).1
      obtain rfl := mv_name1 hx99
      have hi2 := hs2.lt
      repeat' (first | refine qgs ?_ | refine eD ?_ ?_ <;> intro)
      refine ex_app (l.length) (1) 1000 (by first | rfl | (simp; done) | (simp; omega)) (by first | rfl | (simp; done) | (simp; omega)) rfl (by omega) ?_
      refine ex_is (List.map (fun p : List UInt8 => [ds (bs p)]) (l ++ [p])) (by rw [List.map_append]; rfl) ?_
      repeat' (first | refine qgs ?_ | refine eD ?_ ?_ <;> intro)
      exact ex_round (i + 1 + 1, l ++ [p], n) ⟨hs2.less (by omega), by omega, by simp <;> omega, hT⟩ (by show L.length - (i + 1 + 1) < L.length - i; omega) (sR [(0, 0), (1, 1), (2, 2), (3, 3), (4, 4), (5, 5), (6, 6), (7, 7), (11, 9)])
     ·replace hT := rmT hT hb
      refine sC (CallsM.ren (hnm) [0, 1] 10 rfl rfl rfl rfl) ?_
      repeat' (first | refine ex_is l.length (by simp) ?_ | refine qg1 ?_ | refine eD ?_ ?_ <;> intro)
      have hcon := room_c (m := m) ⟨i + 1, xs, ts⟩ hs1.lt l.length (by omega)
      rcases hr : (roomM l.length) ⟨i + 1, xs, ts⟩ with ⟨_, s9⟩ | ⟨i9, e9⟩
      rotate_left
      ·obtain rfl := (and_err hr).symm.trans hT
       refine sC (CallsM.ren (hcon.err hr) [0, 1] 10 rfl rfl rfl rfl) ?_
       first | exact ⟨⟨_, rfl, rfl⟩, rfl, rfl⟩ | exact ⟨by kernel_rfl, ⟨_, rfl, rfl⟩, rfl, rfl⟩
      replace hT := (and_ok hr).symm.trans hT
      refine sC (CallsM.ren (hcon.ok hr) [0, 1] 10 rfl rfl rfl rfl) ?_
      clear hcon
      obtain rfl := mv_room1 hr
      replace hT := asc hT
      repeat' (first | refine qgs ?_ | refine eD ?_ ?_ <;> intro)
      have hcon := name_c (m := m) ⟨i + 1, xs, ts⟩ hs1.i (by omega)
      rcases hx112 : (nameM L) ⟨i + 1, xs, ts⟩ with ⟨p, s9⟩ | ⟨i9, e9⟩
      rotate_left
      ·obtain rfl := (and_err hx112).symm.trans hT
       refine sC (CallsM.ren (hcon.err hx112) [0, 1] 10 rfl rfl rfl rfl) ?_
       first | exact ⟨⟨_, rfl, rfl⟩, rfl, rfl⟩ | exact ⟨by kernel_rfl, ⟨_, rfl, rfl⟩, rfl, rfl⟩
      replace hT := (and_ok hx112).symm.trans hT
      refine sC (CallsM.ren (hcon.ok hx112) [0, 1] 10 rfl rfl rfl rfl) ?_
      clear hcon
      have hs2 := (Up.ok (Up.name hL 0) hs1 hx112).1
      obtain rfl := mv_name1 hx112
      have hi2 := hs2.lt
      repeat' (first | refine qgs ?_ | refine eD ?_ ?_ <;> intro)
      refine ex_app (l.length) (1) 1000 (by first | rfl | (simp; done) | (simp; omega)) (by first | rfl | (simp; done) | (simp; omega)) rfl (by omega) ?_
      refine ex_is (List.map (fun p : List UInt8 => [ds (bs p)]) (l ++ [p])) (by rw [List.map_append]; rfl) ?_
      repeat' (first | refine qgs ?_ | refine eD ?_ ?_ <;> intro)
      exact ex_round (i + 1 + 1, l ++ [p], n) ⟨hs2.less (by omega), by omega, by simp <;> omega, hT⟩ (by show L.length - (i + 1 + 1) < L.length - i; omega) (sR [(0, 0), (1, 1), (2, 2), (3, 3), (4, 4), (5, 5), (6, 6), (7, 7), (11, 9)])
 ·clear hT hs2 hs1 hs
  rintro ⟨i, ps⟩ ⟨hs, hT⟩
  repeat' (first | refine qgs ?_ | refine eD ?_ ?_ <;> intro)
  have hcon := take_c (m := m) ⟨i, xs, ts⟩ hs.i (by omega) t_lcur
  rcases hx122 : (takeM L t_lcur) ⟨i, xs, ts⟩ with ⟨_, s9⟩ | ⟨i9, e9⟩
  rotate_left
  ·obtain rfl := (and_err hx122).symm.trans hT
   refine sC (CallsM.ren (hcon.err hx122) [0, 1] 10 rfl rfl rfl rfl) ?_
   first | exact ⟨⟨_, rfl, rfl⟩, rfl, rfl⟩ | exact ⟨by kernel_rfl, ⟨_, rfl, rfl⟩, rfl, rfl⟩
  replace hT := (and_ok hx122).symm.trans hT
  refine sC (CallsM.ren (hcon.ok hx122) [0, 1] 10 rfl rfl rfl rfl) ?_
  clear hcon
  have hs1 := (Up.ok (Up.take hL t_lcur 0) hs hx122).1
  obtain rfl := mv_take1 hx122
  repeat' (first | refine qgs ?_ | refine eD ?_ ?_ <;> intro)
  replace hT : (itemsN L (L.length - (i + 1) + 1) [] >>= fun is => takeM L t_rcur >>= fun _ => pure (⟨w, ps, is⟩ : RC)) ⟨i + 1, xs, ts⟩ = T := hT
  refine ex_loop (X := Nat × List EX × List TY × List IT × Nat) (fun ⟨i, xs, ts, l, _⟩ => ⟨[(0, .o P0), (2, .o (.c (.ptr 6 0))), (3, .o (.c (.ptr 7 0)))], [(5, .dead), (4, .dead), (0, Qz L m i), (1, Fz 2 3 11 12), (6, .obj [.d (ds ⟨#[]⟩), .d dnil, .d dnil]), (7, .obj [.d (ds (bs w)), .row 9, .row 10]), (9, .row 1 9 (ps.map fun p => [ds (bs p)])), (10, .row 9 115 (l.map itD)), (11, Xz xs), (12, Tz ts)], 13⟩) (fun y => L.length - y.1)
   (fun ⟨i, xs, ts, l, n⟩ => SOk L 0 ⟨i, xs, ts⟩ ∧ L.length < i + n ∧ l.length ≤ i ∧ (itemsN L n l >>= fun is => takeM L t_rcur >>= fun _ => pure (⟨w, ps, is⟩ : RC)) ⟨i, xs, ts⟩ = T) (i + 1, xs, ts, [], L.length - (i + 1) + 1) ⟨hs1.less (by omega), by omega, Nat.zero_le _, hT⟩
   (SLe.kill (nx := 13) 5 (SLe.kill (nx := 13) 4 (SLe.via (SLe.ownCell 7 2 10 9 115 rfl rfl rfl rfl rfl rfl) (sR [(0, 0), (1, 1), (2, 2), (3, 3), (6, 6), (7, 7), (9, 9), (10, 10), (4, 11), (5, 12)])))) ?_
  clear hT hs1 hs
  rintro ⟨i, xs, ts, l, n⟩ ⟨hs, hf, hll, hT⟩
  have hi := hs.lt
  have hpk := is_c (m := m) i hi w_pack
  have hnm := named_c (m := m) i hi
  cases n with
  | zero => omega
  | succ n =>
   rw [itemsN] at hT
   rcases hv : isV L i w_pack with _ | _ <;> rw [hv] at hpk
   ·rcases hv2 : namedV L i with _ | _ <;> rw [hv2] at hnm
    ·replace hT := pureT (atnB hT (by rw [hv, hv2]; rfl))
     refine sC (CallsM.ren (hpk) [0, 1] 13 rfl rfl rfl rfl) ?_
     repeat' (first | refine qgs ?_ | refine eD ?_ ?_ <;> intro)
     refine sC (CallsM.ren (hnm) [0, 1] 13 rfl rfl rfl rfl) ?_
     repeat' (first | refine qgs ?_ | refine eD ?_ ?_ <;> intro)
     have hcon := take_c (m := m) ⟨i, xs, ts⟩ hs.i (by omega) t_rcur
     rcases hx144 : (takeM L t_rcur) ⟨i, xs, ts⟩ with ⟨_, s9⟩ | ⟨i9, e9⟩
     rotate_left
     ·obtain rfl := (and_err hx144).symm.trans hT
      refine sC (CallsM.ren (hcon.err hx144) [0, 1] 13 rfl rfl rfl rfl) ?_
      first | exact ⟨⟨_, rfl, rfl⟩, rfl, rfl⟩ | exact ⟨by kernel_rfl, ⟨_, rfl, rfl⟩, rfl, rfl⟩
     replace hT := (and_ok hx144).symm.trans hT
     refine sC (CallsM.ren (hcon.ok hx144) [0, 1] 13 rfl rfl rfl rfl) ?_
     clear hcon
     have hs1 := (Up.ok (Up.take hL t_rcur 0) hs hx144).1
     obtain rfl := mv_take1 hx144
     obtain rfl : PR.ok (⟨w, ps, l⟩ : RC) ⟨i + 1, xs, ts⟩ = T := hT
     repeat' (first | refine qgs ?_ | refine eD ?_ ?_ <;> intro)
     exact ⟨rfl, TLe.rfl, rfl, rfl⟩
    ·replace hT := asc (atyB hT (by rw [hv, hv2]; rfl))
     refine sC (CallsM.ren (hpk) [0, 1] 13 rfl rfl rfl rfl) ?_
     repeat' (first | refine qgs ?_ | refine eD ?_ ?_ <;> intro)
     refine sC (CallsM.ren (hnm) [0, 1] 13 rfl rfl rfl rfl) ?_
     repeat' (first | refine ex_is l.length (by simp) ?_ | refine qg1 ?_ | refine eD ?_ ?_ <;> intro)
     have hcon := room_c (m := m) ⟨i, xs, ts⟩ hi l.length (by omega)
     rcases hr : (roomM l.length) ⟨i, xs, ts⟩ with ⟨_, s9⟩ | ⟨i9, e9⟩
     rotate_left
     ·obtain rfl := (and_err hr).symm.trans hT
      refine sC (CallsM.ren (hcon.err hr) [0, 1] 13 rfl rfl rfl rfl) ?_
      first | exact ⟨⟨_, rfl, rfl⟩, rfl, rfl⟩ | exact ⟨by kernel_rfl, ⟨_, rfl, rfl⟩, rfl, rfl⟩
     replace hT := (and_ok hr).symm.trans hT
     refine sC (CallsM.ren (hcon.ok hr) [0, 1] 13 rfl rfl rfl rfl) ?_
     clear hcon
     obtain rfl := mv_room1 hr
     replace hT := atnB (asc hT) hv
     repeat' (first | refine qgs ?_ | refine eD ?_ ?_ <;> intro)
     refine sC (CallsM.ren (hpk) [0, 1] 13 rfl rfl rfl rfl) ?_
     repeat' (first | refine qgs ?_ | refine eD ?_ ?_ <;> intro)
     have hcon := field_c hL hn hm ⟨i, xs, ts⟩ hs
     rcases hx : (fieldM L) ⟨i, xs, ts⟩ with ⟨x, ⟨i2, xs2, ts2⟩⟩ | ⟨i9, e9⟩
     rotate_left
     ·obtain rfl := (and_err hx).symm.trans hT
      refine sC (CallsM.ren (hcon.err hx) [0, 1, 2, 3, 11, 12] 13 rfl rfl rfl rfl) ?_
      first | exact ⟨⟨_, rfl, rfl⟩, rfl, rfl⟩ | exact ⟨by kernel_rfl, ⟨_, rfl, rfl⟩, rfl, rfl⟩
     replace hT := (and_ok hx).symm.trans hT
     refine sC (CallsM.ren (hcon.ok hx) [0, 1, 2, 3, 11, 12] 13 rfl rfl rfl rfl) ?_
     clear hcon
     have hs2 := (Up.ok (up_field hL) hs hx).1
     have hgo : i < i2 := mo_field _ _ _ hx
     repeat' (first | refine qgs ?_ | refine eD ?_ ?_ <;> intro)
     refine ex_app (l.length) (1) 1000 (by first | rfl | (simp; done) | (simp; omega)) (by first | rfl | (simp; done) | (simp; omega)) rfl (by omega) ?_
     refine ex_is (List.map itD (l ++ [x])) (by rw [List.map_append]; rfl) ?_
     repeat' (first | refine qgs ?_ | refine eD ?_ ?_ <;> intro)
     exact ex_round (i2, xs2, ts2, l ++ [x], n) ⟨hs2, by omega, by simp <;> omega, hT⟩ (by show L.length - i2 < L.length - i; omega) (sR [(0, 0), (1, 1), (2, 2), (3, 3), (4, 4), (5, 5), (6, 6), (7, 7), (9, 9), (13, 11), (14, 12), (16, 10)])
   ·replace hT := asc (atyB hT (by rw [hv]; rfl))
    refine sC (CallsM.ren (hpk) [0, 1] 13 rfl rfl rfl rfl) ?_
    repeat' (first | refine ex_is l.length (by simp) ?_ | refine qg1 ?_ | refine eD ?_ ?_ <;> intro)
    have hcon := room_c (m := m) ⟨i, xs, ts⟩ hi l.length (by omega)
    rcases hr : (roomM l.length) ⟨i, xs, ts⟩ with ⟨_, s9⟩ | ⟨i9, e9⟩
    rotate_left
    ·obtain rfl := (and_err hr).symm.trans hT
     refine sC (CallsM.ren (hcon.err hr) [0, 1] 13 rfl rfl rfl rfl) ?_
     first | exact ⟨⟨_, rfl, rfl⟩, rfl, rfl⟩ | exact ⟨by kernel_rfl, ⟨_, rfl, rfl⟩, rfl, rfl⟩
    replace hT := (and_ok hr).symm.trans hT
    refine sC (CallsM.ren (hcon.ok hr) [0, 1] 13 rfl rfl rfl rfl) ?_
    clear hcon
    obtain rfl := mv_room1 hr
    replace hT := atyB (asc hT) hv
    repeat' (first | refine qgs ?_ | refine eD ?_ ?_ <;> intro)
    refine sC (CallsM.ren (hpk) [0, 1] 13 rfl rfl rfl rfl) ?_
    repeat' (first | refine qgs ?_ | refine eD ?_ ?_ <;> intro)
    have hcon := pack_c (m := m) hL hn ⟨i, xs, ts⟩ hs
    rcases hx : (packM L) ⟨i, xs, ts⟩ with ⟨x, ⟨i2, xs2, ts2⟩⟩ | ⟨i9, e9⟩
    rotate_left
    ·obtain rfl := (and_err hx).symm.trans hT
     refine sC (CallsM.ren (hcon.err hx) [0, 1] 13 rfl rfl rfl rfl) ?_
     first | exact ⟨⟨_, rfl, rfl⟩, rfl, rfl⟩ | exact ⟨by kernel_rfl, ⟨_, rfl, rfl⟩, rfl, rfl⟩
    replace hT := (and_ok hx).symm.trans hT
    refine sC (CallsM.ren (hcon.ok hx) [0, 1] 13 rfl rfl rfl rfl) ?_
    clear hcon
    have hs2 := (Up.ok (up_pack hL) hs hx).1
    have hgo : i < i2 := mo_pack _ _ _ hx
    obtain ⟨rfl, rfl⟩ := mv_pack hx
    repeat' (first | refine qgs ?_ | refine eD ?_ ?_ <;> intro)
    refine ex_app (l.length) (1) 1000 (by first | rfl | (simp; done) | (simp; omega)) (by first | rfl | (simp; done) | (simp; omega)) rfl (by omega) ?_
    refine ex_is (List.map itD (l ++ [x])) (by rw [List.map_append]; rfl) ?_
    repeat' (first | refine qgs ?_ | refine eD ?_ ?_ <;> intro)
    exact ex_round (i2, xs, ts, l ++ [x], n) ⟨hs2, by omega, by simp <;> omega, hT⟩ (by show L.length - i2 < L.length - i; omega) (sR [(0, 0), (1, 1), (2, 2), (3, 3), (4, 4), (5, 5), (6, 6), (7, 7), (9, 9), (11, 11), (12, 12), (14, 10)])
end
end Go.Proofs.YtidnlfkakhmadaaGreatDoor

namespace Go.Proofs.YtidnlfkakhmadaaGreatDoor
open Go.RowKit

section
variable {P : Program} {Γ : Glob} {f : FuncId} {nx : Nat} {xs : List T1} {r : TV} {upd : List (Nat × Blk)} {new : List Blk} {a b c d e g : Nat × Blk} {m : List (Nat × Blk)}
theorem CallsM.moreW (h : CallsM P Γ f [a, b, e, g] nx xs r upd new) : CallsM P Γ f [a, b, c, d, e, g] nx xs r upd new := h.more fun p hp => by
 simp only [List.mem_cons, List.not_mem_nil, or_false] at hp ⊢; rcases hp with hp | hp | hp | hp <;> simp [hp]
end
abbrev Cz (l : List CO) : Blk := .row 2 79 (l.map coD)
abbrev Uz (l : List RC) : Blk := .row 3 62 (l.map rcD)
def PR.uW (L : List TokP) (m : Nat) : PR (List CO × List RC) → List (Nat × Blk)
 | .ok _ s => [(0, Qz L m s.i), (1, Fz 6 7 8 9), (2, .dead), (3, .dead), (4, .dead), (5, .dead)]
 | .err _ _ => [(0, .dead), (1, .dead), (2, .dead), (3, .dead), (4, .dead), (5, .dead)]
def PR.nW : PR (List CO × List RC) → List Blk
 | .ok v s => [Cz v.1, Uz v.2, Xz s.xs, Tz s.ts]
 | .err _ _ => []
theorem ex_pan {P : Program} {Γ : Glob} {f : FuncId} {m : List (Nat × Blk)} {nx : Nat} {xs : List T1} {r : TV} {upd : List (Nat × Blk)} {new : List Blk} (Q : Prop) (h : CallsM P Γ f m nx xs r upd new) {K : TV → List (Nat × Blk) → List Blk → Prop} (e : K r upd new = Q) (hq : Q) : ∃ r upd new, CallsM P Γ f m nx xs r upd new ∧ K r upd new := ⟨r, upd, new, h, e.mpr hq⟩
section
variable {L : List TokP} {m : Nat}
set_option maxHeartbeats 16000000 in
theorem whole_c (hL : TokOk L) (hn : L.length ≤ 100000) (hm : m = 32) (i n0 : Nat) (xs : List EX) (ts : List TY) (cs : List CO) (rs : List RC) (hs : SOk L 0 ⟨i, xs, ts⟩) (hf : L.length < i + n0) (hcl : cs.length ≤ i) (hrl : rs.length ≤ i) (T : PR (List CO × List RC)) (hT : wholeN L n0 cs rs ⟨i, xs, ts⟩ = T) :
  CallsM Tryz.prog ΓL 17 [(0, Qz L m i), (1, Fz 2 3 4 5), (2, Cz cs), (3, Uz rs), (4, Xz xs), (5, Tz ts)] 6 [P0] (T.tv L fun _ => .tup []) (T.uW L m) T.nW := by
 refine fn_ruleP (C := ⟨Tryz.prog, layF, Tryz.f17.ntmps, ΓL, 6, [], []⟩) layF_ok mixed Tryz.func17 rfl (by kernel_rfl) rfl rfl rfl SLe.rfl ?_
 repeat' (first | refine qgs ?_ | refine eD ?_ ?_ <;> intro)
 refine ex_loop (X := Nat × List EX × List TY × List CO × List RC × Nat) (fun ⟨i, xs, ts, cs, rs, _⟩ => ⟨[(0, .o P0)], [(5, .dead), (4, .dead), (3, .dead), (2, .dead), (0, Qz L m i), (1, Fz 6 7 8 9), (6, Cz cs), (7, Uz rs), (8, Xz xs), (9, Tz ts)], 10⟩) (fun y => L.length - y.1)
  (fun ⟨i, xs, ts, cs, rs, n⟩ => SOk L 0 ⟨i, xs, ts⟩ ∧ L.length < i + n ∧ cs.length ≤ i ∧ rs.length ≤ i ∧ wholeN L n cs rs ⟨i, xs, ts⟩ = T) (i, xs, ts, cs, rs, n0) ⟨hs, hf, hcl, hrl, hT⟩
  (SLe.kill (nx := 10) 5 (SLe.kill (nx := 10) 4 (SLe.kill (nx := 10) 3 (SLe.kill (nx := 10) 2 (sR [(0, 0), (1, 1), (2, 6), (3, 7), (4, 8), (5, 9)]))))) ?_
 clear hT hf hcl hrl hs
 rintro ⟨i, xs, ts, cs, rs, n⟩ ⟨hs, hf, hcl, hrl, hT⟩
 have hi := hs.lt
 have hic := is_c (m := m) i hi w_const
 have hir := is_c (m := m) i hi w_struct
 cases n with
 | zero => omega
 | succ n =>
  rw [wholeN] at hT
  rcases hv : isV L i w_const with _ | _ <;> rw [hv] at hic
  ·replace hT := atn hT hv
   rcases hv2 : isV L i w_struct with _ | _ <;> rw [hv2] at hir
   ·replace hT := atn hT hv2
    have ha := ahead_c (L := L) (m := m) i hi
    by_cases hk : (tk L i).k = 3
    ·obtain rfl : PR.ok (cs, rs) ⟨i, xs, ts⟩ = T := aty hT (by rw [hk]; rfl)
     generalize tk L i = u at *
     refine sC (CallsM.ren (hic) [0, 1] 10 rfl rfl rfl rfl) ?_
     repeat' (first | refine qgs ?_ | refine eD ?_ ?_ <;> intro)
     refine sC (CallsM.ren (hir) [0, 1] 10 rfl rfl rfl rfl) ?_
     repeat' (first | refine qgs ?_ | refine eD ?_ ?_ <;> intro)
     refine sC (CallsM.ren (ha) [0, 1] 10 rfl rfl rfl rfl) ?_
     repeat' (first | refine qgs ?_ | refine eD ?_ ?_ <;> intro)
     exact ⟨rfl, TLe.rfl, rfl, rfl⟩
    ·obtain rfl : PR.err i 4 = T := atn hT (by simp [hk])
     have hfl := fail_c (m := m) i 4 hi
     generalize tk L i = u at *
     refine sC (CallsM.ren (hic) [0, 1] 10 rfl rfl rfl rfl) ?_
     repeat' (first | refine qgs ?_ | refine eD ?_ ?_ <;> intro)
     refine sC (CallsM.ren (hir) [0, 1] 10 rfl rfl rfl rfl) ?_
     repeat' (first | refine qgs ?_ | refine eD ?_ ?_ <;> intro)
     refine sC (CallsM.ren (ha) [0, 1] 10 rfl rfl rfl rfl) ?_
     repeat' (first | refine qgs ?_ | refine eD ?_ ?_ <;> intro)
     refine sC (CallsM.ren ((fail_c (m := m) i 4 hi)) [0, 1] 10 rfl rfl rfl rfl) ?_
     exact ⟨⟨_, rfl, rfl⟩, rfl, rfl⟩
   ·replace hT := aty hT hv2
    refine sC (CallsM.ren (hic) [0, 1] 10 rfl rfl rfl rfl) ?_
    repeat' (first | refine qgs ?_ | refine eD ?_ ?_ <;> intro)
    refine sC (CallsM.ren (hir) [0, 1] 10 rfl rfl rfl rfl) ?_
    repeat' (first | refine ex_is rs.length (by simp) ?_ | refine qg1 ?_ | refine eD ?_ ?_ <;> intro)
    have hcon := room_c (m := m) ⟨i, xs, ts⟩ hi rs.length (by omega)
    rcases hr : (roomM rs.length) ⟨i, xs, ts⟩ with ⟨_, s9⟩ | ⟨i9, e9⟩
    rotate_left
    ·obtain rfl := (and_err hr).symm.trans hT
     refine sC (CallsM.ren (hcon.err hr) [0, 1] 10 rfl rfl rfl rfl) ?_
     first | exact ⟨⟨_, rfl, rfl⟩, rfl, rfl⟩ | exact ⟨by kernel_rfl, ⟨_, rfl, rfl⟩, rfl, rfl⟩
    replace hT := (and_ok hr).symm.trans hT
    refine sC (CallsM.ren (hcon.ok hr) [0, 1] 10 rfl rfl rfl rfl) ?_
    clear hcon
    obtain rfl := mv_room1 hr
    repeat' (first | refine qgs ?_ | refine eD ?_ ?_ <;> intro)
    have hcon := record_c (m := m) hL hn hm ⟨i, xs, ts⟩ hs
    rcases hx : recordM L ⟨i, xs, ts⟩ with ⟨r, ⟨i2, xs2, ts2⟩⟩ | ⟨i9, e9⟩
    ·replace hT := (and_ok hx).symm.trans hT
     have hs2 := (Up.ok (up_record hL) hs hx).1
     have hgo : i < i2 := mo_record _ _ _ hx
     refine ex_callM (CallsM.moreW (CallsM.ren (hcon.ok hx) [0, 1, 6, 7, 8, 9] 10 rfl rfl rfl rfl)) ?_
     repeat' (first | refine qgs ?_ | refine eD ?_ ?_ <;> intro)
     refine ex_app (rs.length) (1) 1000 (by first | rfl | (simp; done) | (simp; omega)) (by first | rfl | (simp; done) | (simp; omega)) rfl (by omega) ?_
     refine ex_is (List.map rcD (rs ++ [r])) (by rw [List.map_append]; rfl) ?_
     repeat' (first | refine qgs ?_ | refine eD ?_ ?_ <;> intro)
     exact ex_round (i2, xs2, ts2, cs, rs ++ [r], n) ⟨hs2, by omega, by omega, by simp <;> omega, hT⟩ (by show L.length - i2 < L.length - i; omega) (sR [(0, 0), (1, 1), (2, 2), (3, 3), (4, 4), (5, 5), (6, 6), (13, 7), (10, 8), (11, 9)])
    ·obtain rfl := (and_err hx).symm.trans hT
     exact ex_pan ((true = true) ∧ panIs (.pan (flt L i9 e9)) (panE (flt L i9 e9)) ∧ (PR.uW L m (.err i9 e9)) = deadM [0, 1, 2, 3, 4, 5] ∧ ([] : List Blk) = []) (CallsM.moreW (CallsM.ren (hcon.err hx) [0, 1, 6, 7, 8, 9] 10 rfl rfl rfl rfl)) (by kernel_rfl) ⟨rfl, ⟨_, rfl, rfl⟩, rfl, rfl⟩
  ·replace hT := aty hT hv
   refine sC (CallsM.ren (hic) [0, 1] 10 rfl rfl rfl rfl) ?_
   repeat' (first | refine ex_is cs.length (by simp) ?_ | refine qg1 ?_ | refine eD ?_ ?_ <;> intro)
   have hcon := room_c (m := m) ⟨i, xs, ts⟩ hi cs.length (by omega)
   rcases hr : (roomM cs.length) ⟨i, xs, ts⟩ with ⟨_, s9⟩ | ⟨i9, e9⟩
   rotate_left
   ·obtain rfl := (and_err hr).symm.trans hT
    refine sC (CallsM.ren (hcon.err hr) [0, 1] 10 rfl rfl rfl rfl) ?_
    first | exact ⟨⟨_, rfl, rfl⟩, rfl, rfl⟩ | exact ⟨by kernel_rfl, ⟨_, rfl, rfl⟩, rfl, rfl⟩
   replace hT := (and_ok hr).symm.trans hT
   refine sC (CallsM.ren (hcon.ok hr) [0, 1] 10 rfl rfl rfl rfl) ?_
   clear hcon
   obtain rfl := mv_room1 hr
   repeat' (first | refine qgs ?_ | refine eD ?_ ?_ <;> intro)
   have hcon := const_c (m := m) hL hn ⟨i, xs, ts⟩ hs
   rcases hx : constM L ⟨i, xs, ts⟩ with ⟨c, ⟨i2, xs2, ts2⟩⟩ | ⟨i9, e9⟩
   rotate_left
   ·obtain rfl := (and_err hx).symm.trans hT
    exact ex_pan ((true = true) ∧ panIs (.pan (flt L i9 e9)) (panE (flt L i9 e9)) ∧ (PR.uW L m (.err i9 e9)) = deadM [0, 1, 2, 3, 4, 5] ∧ ([] : List Blk) = []) (CallsM.more0 (CallsM.ren (hcon.err hx) [0, 1] 10 rfl rfl rfl rfl)) (by kernel_rfl) ⟨rfl, ⟨_, rfl, rfl⟩, rfl, rfl⟩
   replace hT := (and_ok hx).symm.trans hT
   refine ex_callM (CallsM.more0 (CallsM.ren (hcon.ok hx) [0, 1] 10 rfl rfl rfl rfl)) ?_
   have hs2 := (Up.ok (up_const hL) hs hx).1
   obtain ⟨rfl, rfl⟩ := mv_const hx
   have hgo : i < i2 := mo_const _ _ _ hx
   repeat' (first | refine qgs ?_ | refine eD ?_ ?_ <;> intro)
   refine ex_app (cs.length) (1) 1000 (by first | rfl | (simp; done) | (simp; omega)) (by first | rfl | (simp; done) | (simp; omega)) rfl (by omega) ?_
   refine ex_is (List.map coD (cs ++ [c])) (by rw [List.map_append]; rfl) ?_
   repeat' (first | refine qgs ?_ | refine eD ?_ ?_ <;> intro)
   exact ex_round (i2, xs, ts, cs ++ [c], rs, n) ⟨hs2, by omega, by simp <;> omega, by omega, hT⟩ (by show L.length - i2 < L.length - i; omega) (sR [(0, 0), (1, 1), (2, 2), (3, 3), (4, 4), (5, 5), (11, 6), (7, 7), (8, 8), (9, 9)])
end
end Go.Proofs.YtidnlfkakhmadaaGreatDoor

namespace Go.Proofs.YtidnlfkakhmadaaGreatDoor
open Go.RowKit

theorem lexN_len : ∀ (n : Nat) (r : List UInt8) (l c : Nat) (ts : List TokP), r.length < n → lexN n r l c = .ok ts → ts.length ≤ r.length + 1 := by
 intro n
 induction n with
 | zero => intro r l c ts h; omega
 | succ n ih =>
  intro r l c ts hlen h
  rw [lexN] at h
  rcases hs : stp r l c with _ | ⟨r', l', c'⟩ | ⟨k, t, v⟩ | e <;> rw [hs] at h <;> dsimp only at h
  ·cases h; simp
  ·have := stp_go hs
   have := ih r' l' c' ts (by omega) h
   omega
  ·have ht := stp_tok hs
   obtain ⟨⟨X, rfl⟩, h2, h3, -⟩ := tokF_ok ht
   have h4 : 0 < t.length := List.length_pos_iff.2 h2
   rw [List.drop_left] at h
   rw [List.length_append] at hlen ⊢
   rcases hr : lexN n X l (c + t.length) with ts' | _
   ·rw [hr] at h
    have h' : [⟨k, t, v, l, c⟩] ++ ts' = ts := by injection h
    have := ih X l (c + t.length) ts' (by omega) hr
    rw [← h']
    simp
    omega
   ·rw [hr] at h; cases h
  ·cases h
theorem lexV_ok {s : List UInt8} {L : List TokP} (h : lexV s = .ok L) : TokOk L ∧ L.length ≤ 100000 := by
 unfold lexV at h
 split at h
 ·rename_i hs
  have hlen := lexN_len _ s 1 1 L (Nat.lt_succ_self _) h
  obtain ⟨us, l', c', rfl, _⟩ := lexF_good h
  refine ⟨⟨by simp, fun i hi => ?_⟩, by omega⟩
  simp only [List.length_append, List.length_cons, List.length_nil] at hi
  have : i = us.length := by omega
  unfold tk
  rw [this, List.getD_eq_getElem?_getD, List.getElem?_append_right (Nat.le_refl _)]
  simp
 ·cases h
theorem stp_err {r : List UInt8} {l c e : Nat} (h : stp r l c = .err e) : tokF r = .err e := by
 unfold stp at h
 split at h
 ·cases h
 ·split at h
  ·cases h
  ·split at h
   ·cases h
   ·split at h
    ·cases h
    ·revert h
     unfold TR.stp
     split <;> intro h <;> cases h
     assumption
theorem lexN_err : ∀ (n : Nat) (r : List UInt8) (l c l' c' e : Nat), r.length < n → lexN n r l c = .err l' c' e → 4 ≤ e ∧ e ≤ 7 := by
 intro n
 induction n with
 | zero => intro r l c l' c' e h; omega
 | succ n ih =>
  intro r l c l' c' e hlen h
  rw [lexN] at h
  rcases hs : stp r l c with _ | ⟨r', l1, c1⟩ | ⟨k, t, v⟩ | e1 <;> rw [hs] at h <;> dsimp only at h
  ·cases h
  ·have := stp_go hs
   exact ih r' l1 c1 l' c' e (by omega) h
  ·have ht := stp_tok hs
   obtain ⟨⟨X, rfl⟩, h2, h3, -⟩ := tokF_ok ht
   have h4 : 0 < t.length := List.length_pos_iff.2 h2
   rw [List.drop_left] at h
   rw [List.length_append] at hlen
   rcases hr : lexN n X l (c + t.length) with ts' | ⟨l2, c2, e2⟩
   ·rw [hr] at h; cases h
   ·rw [hr] at h
    cases h
    exact ih X l _ _ _ _ (by omega) hr
  ·cases h
   exact tokF_err (stp_err hs)
theorem lexV_err {s : List UInt8} {l c e : Nat} (h : lexV s = .err l c e) : 4 ≤ e ∧ e ≤ 7 := by
 unfold lexV at h
 split at h
 ·exact lexN_err _ s 1 1 l c e (Nat.lt_succ_self _) h
 ·cases h; decide
def fileD (cs : List CO) (rs : List RC) (xs : List EX) (ts : List TY) : List D := [.sl 2 (cs.map coD), .sl 3 (rs.map rcD), .sl 5 (xs.map exD), .sl 8 (ts.map tyD)]
abbrev dnp : D := .v (.pointer none)
def parT : FR → TV
 | .ok cs rs xs ts => .tup [.c (.eptr (fileD cs rs xs ts)), gD [di 0, di 0], c1 (di 0)]
 | .err l c e => .tup [c1 dnp, gD [di l, di c], c1 (di e)]
theorem nil_eq (w : World) : (binOp BinOp.eql 20 .nilIface .nilIface).run Tryz.prog w = .ok (.bool true) w := by kernel_rfl
theorem iface_eq (t : TypeId) (v : Value) (w : World) : (binOp BinOp.eql 20 (.iface t v) .nilIface).run Tryz.prog w = .ok (.bool false) w := by rfl
theorem catch_idle (x y z : Value) (w : World) :
  CallsD Tryz.prog 16 #[x, y, z] .returning w fun e u' w' => e = .returned (.tuple #[]) ∧ u' = .returning ∧ w' = w := by
 refine callsD_of_wpS Tryz.func16 rfl fun c₀ cs hu => ?_
 apply wpS_seq
 apply wpS_region
 simp [wpOpsS, go_sem, recoverD, hu, Tryz.ntmps16, Exit.thenS]
 refine wpS_of_wp ?_
 refine wp_block ?_
 apply wp_seq
 apply wp_region
 simp [wpOps, go_sem, nil_eq, Exit.then]
 repeat apply Or.inl
 refine Go.wp_cond_true ?hc ?h
 ·simp [Act.eval]
 apply wp_region
 simp [wpOps, go_sem, Exit.inBlock]
 repeat apply Or.inl
 cases c₀
 simp_all [bodyPostS, results, Tryz.results16, Exit.thenS]
theorem assert_ok (v : Value) (w : World) : (Instr.typeAssert (.iface 70 v) 20 70 true).run Tryz.prog w = .ok (.tuple #[v, .bool true]) w := by
 simp [Instr.typeAssert, run_underlying, Tryz.underlying70]
abbrev pv (l c e : Nat) (r : Bool) : List PanicEntry := [{ v := fltV l c e, recovered := r }]
def hitM (f0 d1 d2 e0 : D) : List (Nat × Blk) := [(0, .obj [.d f0] 29), (1, .obj [.d d1, .d d2]), (2, .obj [.d e0])]
theorem catch_hit (l c e : Nat) (f0 d1 d2 e0 : D) {ι : Nat → Value} {S : Nat → Prop} {w : World} (hS : ∀ b, S b → b < w.heap.size) (hG : ΓL.G S w) (hblk : ∀ p ∈ hitM f0 d1 d2 e0, BlkOk ι S w p.1 p.2)
  (hdst : ∀ p ∈ hitM f0 d1 d2 e0, ∀ q ∈ hitM f0 d1 d2 e0, ∀ g, p.2.live = true → q.2.live = true → blkOf (ι p.1) = some g → blkOf (ι q.1) = some g → p.1 = q.1) :
  CallsD Tryz.prog 16 #[ι 0, ι 1, ι 2] (.panicking (pv l c e false)) w fun e' u' w' => e' = .returned (.tuple #[]) ∧ u' = .panicking (pv l c e true) ∧ ∃ ι' S', After ι S w 3 ⟨.und, [0, 1, 2], hitM dnp (di l) (di c) (di e), []⟩ undef ι' S' w' := by
 have hp : ∀ k, k < 3 → ∃ b, ι k = .pointer (some ⟨b, 0, none⟩) := fun k hk => by
  match k, hk with
  | 0, _ => obtain ⟨b, arr, ty, h1, _⟩ := hblk _ (List.mem_cons_self ..); exact ⟨b, h1⟩
  | 1, _ => obtain ⟨b, arr, ty, h1, _⟩ := hblk _ (List.mem_cons_of_mem _ (List.mem_cons_self ..)); exact ⟨b, h1⟩
  | 2, _ => obtain ⟨b, arr, ty, h1, _⟩ := hblk _ (List.mem_cons_of_mem _ (List.mem_cons_of_mem _ (List.mem_cons_self ..))); exact ⟨b, h1⟩
 obtain ⟨b0, hb0⟩ := hp 0 (by omega)
 obtain ⟨b1, hb1⟩ := hp 1 (by omega)
 obtain ⟨b2, hb2⟩ := hp 2 (by omega)
 refine callsD_of_wpS Tryz.func16 rfl fun c₀ cs hu => ?_
 apply wpS_seq
 apply wpS_region
 simp [wpOpsS, go_sem, recoverD, hu, Tryz.ntmps16, Exit.thenS]
 refine wpS_of_wp ?_
 refine wp_block ?_
 apply wp_seq
 apply wp_region
 simp [wpOps, go_sem, iface_eq, Exit.then]
 apply Or.inl
 refine Go.wp_cond_false ?hc ?h
 ·simp [Act.eval]
 apply wp_seq
 apply wp_region
 simp [wpOps, go_sem, assert_ok, Exit.then]
 iterate 3 apply Or.inl
 refine Go.wp_cond_true ?hc2 ?h2
 ·simp [Act.eval]
 refine Code.wp_mono (fun e1 a1 w1 h => ?_) (code_after (C := ⟨Tryz.prog, layF, Tryz.f16.ntmps, ΓL, 3, [], []⟩) (tm := [(0, .o (.c (.ptr 0 0))), (1, .o (.c (.ptr 1 0))), (2, .o (.c (.ptr 2 0))), (11, .o (gD [di l, di c, di e]))]) (m := hitM f0 d1 d2 e0) (upd := hitM dnp (di l) (di c) (di e)) (new := []) layF_ok mixed rfl ?hvc hS hG hblk hdst ?htm (by simp [Tryz.ntmps16]) rfl)
 case hvc =>
  repeat' (first | refine qgs ?_ | refine eD ?_ ?_ <;> intro)
  exact ⟨rfl, rfl, rfl⟩
 case htm =>
  intro t tv ht
  simp only [findL] at ht
  split at ht
  ·rename_i h; subst h; cases ht
   exact ⟨b0, hb0, by simp [hb0]⟩
  ·split at ht
   ·rename_i h; subst h; cases ht
    exact ⟨b1, hb1, by simp [hb1]⟩
   ·split at ht
    ·rename_i h; subst h; cases ht
     exact ⟨b2, hb2, by simp [hb2]⟩
    ·split at ht
     ·rename_i h; subst h; cases ht
      exact ⟨[.int .i64 l, .int .i64 c, .int .i64 e], by simp, .cons (Imm.v rfl) (.cons (Imm.v rfl) (.cons (Imm.v rfl) .nil))⟩
     ·cases ht
 obtain ⟨rfl, h1, ι', S', A⟩ := h
 simp only [Exit.inBlock, bodyPostS]
 exact ⟨h1, .panicking (pv l c e true), rfl, .tuple #[], by simp [results, Tryz.results16], rfl, rfl, ι', S', A⟩
end Go.Proofs.YtidnlfkakhmadaaGreatDoor

namespace Go.Proofs.YtidnlfkakhmadaaGreatDoor
open Go.RowKit

def HitP (v : Value) (st : St) (upd : List (Nat × Blk)) : Prop := ∃ (l c e : Nat) (f0 d1 d2 e0 : D), v = fltV l c e ∧ upd = hitM dnp (di l) (di c) (di e) ∧
 findL st.mem 0 = some (.obj [.d f0] 29) ∧ findL st.mem 1 = some (.obj [.d d1, .d d2]) ∧ findL st.mem 2 = some (.obj [.d e0])
theorem hitP_ok (v : Value) (st : St) (upd : List (Nat × Blk)) (h : HitP v st upd) (ι : Nat → Value) (S : Nat → Prop) (w : World) (hS : ∀ b, S b → b < w.heap.size) (hG : ΓL.G S w) (hblk : ∀ k b, findL st.mem k = some b → BlkOk ι S w k b)
  (hdst : ∀ k k' b b' g, findL st.mem k = some b → findL st.mem k' = some b' → b.live = true → b'.live = true → blkOf (ι k) = some g → blkOf (ι k') = some g → k = k') :
  CallsD Tryz.prog 16 ([0, 1, 2].map ι).toArray (.panicking (panE v)) w fun e' u' w' => e' = .returned (.tuple #[]) ∧ u' = .panicking [{ v, recovered := true }] ∧ ∃ ι' S', After ι S w st.nx ⟨.und, [], upd, []⟩ undef ι' S' w' := by
 obtain ⟨l, c, e, f0, d1, d2, e0, rfl, rfl, h0, h1, h2⟩ := h
 have hf : ∀ p ∈ hitM f0 d1 d2 e0, findL st.mem p.1 = some p.2 := fun p hp => by
  simp only [hitM, List.mem_cons, List.not_mem_nil, or_false] at hp
  rcases hp with rfl | rfl | rfl
  ·exact h0
  ·exact h1
  ·exact h2
 refine (catch_hit l c e f0 d1 d2 e0 hS hG (fun p hp => hblk _ _ (hf p hp)) (fun p hp q hq g => hdst _ _ _ _ g (hf p hp) (hf q hq))).mono ?_
 rintro e' u' w' ⟨he, hu, ι', S', A⟩
 refine ⟨he, hu, ι', S', ⟨A.val, fun k _ => A.keep k (by show k < 3 ∨ 3 + 0 ≤ k; omega), A.smono, A.sgrow, A.slt, A.os, A.tape, A.output, A.size, A.heap, A.updok, fun i b hb => by simp at hb, fun i b hb => by simp at hb, fun i j b b' g hb => by simp at hb⟩⟩
def fileS (s : List UInt8) : FR := fileV (lexV s)
theorem Parse_c (s : List UInt8) : CallsA Tryz.prog ΓL 6 [c1 (ds (bs s))] (parT (fileS s)) := by
 have hlx := lex_c s
 obtain ⟨R, hR⟩ : ∃ R, fileS s = R := ⟨_, rfl⟩
 rw [hR]
 refine fn_ruleE (C := ⟨Tryz.prog, layF, Tryz.f6.ntmps, ΓL, 0, [5], []⟩) (g := 16) (t9 := 17) (nx2 := 3) (caps := [2, 3, 4]) (capN := [0, 1, 2]) layF_ok mixed Tryz.func6 rfl (by kernel_rfl) rfl rfl rfl HitP ?hdef ?henter ?hidle rfl hitP_ok ?h
 case hdef =>
  intro a w Q hsz h
  have h9 : 17 < a.tmps.size := by rw [hsz]; decide
  apply wp_region
  simp [wpOps, go_sem, h9]
  refine .inl (.inl ?_)
  simpa [Oper.upon, Act.put] using h (.func (.func 16) #[] #[a.tmps[2]?.getD undef, a.tmps[3]?.getD undef, a.tmps[4]?.getD undef])
 case henter =>
  intro vs w
  kernel_rfl
 case hidle =>
  intro vs w hl
  match vs, hl with
  | [x, y, z], _ => exact catch_idle x y z w
 case h =>
  rcases hl : lexV s with L | ⟨l, c, e⟩
  ·rw [hl] at hlx
   have hlx : CallsA Tryz.prog ΓL 5 [c1 (ds (bs s))] (.tup [c1 (.sl 5 (L.map tokD)), gD [di 0, di 0], c1 (di 0)]) := hlx
   obtain ⟨hL, hn⟩ := lexV_ok hl
   repeat' (first | refine ex_call hlx ?_ | refine qg1 ?_ | refine eD ?_ ?_ <;> intro)
   refine ⟨⟨rfl, rfl, rfl, trivial⟩, rfl, ?_⟩
   refine ex_join (X := Unit) (fun _ => ⟨[(2, .o (.c (.ptr 0 0))), (3, .o (.c (.ptr 1 0))), (4, .o (.c (.ptr 2 0))), (6, .o (.c (.ptr 4 0)))], [(0, .obj [.d dnp] 29), (1, .obj [.d (di 0), .d (di 0)]), (2, .obj [.d (di 0)]), (4, .obj [.d (.sl 5 (L.map tokD)), .d (di ((0 : Nat) : Int)), .d (di (32 - ((32 : Nat) : Int))), .ptr 3 0]), (3, Fz 5 6 7 8), (5, Cz []), (6, Uz []), (7, Xz []), (8, Tz [])], 9⟩) (fun _ => True) ?_ ?_
   ·repeat' (first | refine qgs ?_ | refine eD ?_ ?_ <;> intro)
    exact ex_meet () trivial (SLe.via (SLe.ownCell 3 0 5 2 79 rfl rfl rfl rfl rfl rfl) (SLe.via (SLe.ownCell 3 1 6 3 62 rfl rfl rfl rfl rfl rfl) (SLe.via (SLe.ownCell 3 2 7 5 59 rfl rfl rfl rfl rfl rfl) (SLe.via (SLe.ownCell 3 3 8 8 88 rfl rfl rfl rfl rfl rfl) sS))))
   ·intro _ _
    have hlen := hL.1
    have hw := whole_c (m := 32) hL hn rfl 0 (L.length + 1) [] [] [] [] ⟨hlen, by simp, by simp⟩ (by omega) (by simp) (by simp) _ rfl
    rcases hT : wholeN L (L.length + 1) [] [] ⟨0, [], []⟩ with ⟨⟨cs, rs⟩, s1⟩ | ⟨i, e⟩
    ·obtain rfl : FR.ok cs rs s1.xs s1.ts = R := by rw [← hR]; unfold fileS fileV; rw [hl]; dsimp only; rw [hT]
     rw [hT] at hw
     have hw : CallsM Tryz.prog ΓL 17 [(0, Qz L 32 0), (1, Fz 2 3 4 5), (2, Cz []), (3, Uz []), (4, Xz []), (5, Tz [])] 6 [P0] (.tup []) [(0, Qz L 32 s1.i), (1, Fz 6 7 8 9), (2, .dead), (3, .dead), (4, .dead), (5, .dead)] [Cz cs, Uz rs, Xz s1.xs, Tz s1.ts] := hw
     repeat' (first | refine qgs ?_ | refine eD ?_ ?_ <;> intro)
     refine ex_callM (CallsM.ren hw [4, 3, 5, 6, 7, 8] 9 rfl rfl rfl rfl) ?_
     repeat' (first | refine qgs ?_ | refine eD ?_ ?_ <;> intro)
     exact ⟨_, SLe.via (show SLe 3 ⟨[(2, .o (.c (.ptr 0 0))), (3, .o (.c (.ptr 1 0))), (4, .o (.c (.ptr 2 0)))], [(0, .obj [.ptr 3 0] 29), (1, .obj [.d (di 0), .d (di 0)]), (2, .obj [.d (di 0)]), (3, Fz 9 10 11 12), (9, Cz cs), (10, Uz rs), (11, Xz s1.xs), (12, Tz s1.ts)], 13⟩ _ from sS)
      (SLe.via (SLe.still 9 2 79 (cs.map coD) rfl) (SLe.via (SLe.still 10 3 62 (rs.map rcD) rfl) (SLe.via (SLe.still 11 5 59 (s1.xs.map exD) rfl) (SLe.via (SLe.still 12 8 88 (s1.ts.map tyD) rfl)
       (SLe.via (sle_fixO 0 0 3 (dl := fileD cs rs s1.xs s1.ts) rfl rfl rfl rfl) (show SLe 3 ⟨[(2, .o (.c (.ptr 0 0))), (3, .o (.c (.ptr 1 0))), (4, .o (.c (.ptr 2 0)))], [(0, .obj [.eptr (fileD cs rs s1.xs s1.ts)] 29), (1, .obj [.d (di 0), .d (di 0)]), (2, .obj [.d (di 0)])], 13⟩ _ from sS)))))), TLe.rfl, rfl⟩
    ·obtain rfl : FR.err (tk L i).l (tk L i).c e = R := by rw [← hR]; unfold fileS fileV; rw [hl]; dsimp only; rw [hT]
     rw [hT] at hw
     have hw : CallsM Tryz.prog ΓL 17 [(0, Qz L 32 0), (1, Fz 2 3 4 5), (2, Cz []), (3, Uz []), (4, Xz []), (5, Tz [])] 6 [P0] (.pan (flt L i e)) [(0, .dead), (1, .dead), (2, .dead), (3, .dead), (4, .dead), (5, .dead)] [] := hw
     repeat' (first | refine qgs ?_ | refine eD ?_ ?_ <;> intro)
     refine ex_callM (CallsM.ren hw [4, 3, 5, 6, 7, 8] 9 rfl rfl rfl rfl) ?_
     exact ⟨flt L i e, _, rfl, ⟨(tk L i).l, (tk L i).c, e, _, _, _, _, rfl, rfl, rfl, rfl, rfl⟩, rfl, rfl, _, fun _ _ _ _ h => h, TLe.rfl, rfl⟩
  ·rw [hl] at hlx
   have he := lexV_err hl
   have hlx : CallsA Tryz.prog ΓL 5 [c1 (ds (bs s))] (.tup [c1 (.sl 5 []), gD [di l, di c], c1 (di e)]) := hlx
   obtain rfl : FR.err l c e = R := by rw [← hR]; unfold fileS; rw [hl]; rfl
   repeat' (first | refine ex_call hlx ?_ | refine qg1 ?_ | refine eD ?_ ?_ <;> intro)
   exact ⟨_, fun _ _ _ _ h => h, TLe.rfl, rfl⟩
end Go.Proofs.YtidnlfkakhmadaaGreatDoor

namespace Go.Proofs.YtidnlfkakhmadaaGreatDoor
open Go.RowKit

def TabS (S : Nat → Prop) (w : World) : Prop := Lib.TabIs Tryz.prog w "internal/strconv.uint64pow10" .u64 Lib.pow10Tab ∧ ∀ g, Tryz.prog.globalNamed "internal/strconv.uint64pow10" = some g → S g
theorem tabS_mono {S S' : Nat → Prop} {w w' : World} (hw : ∀ b, S b → w'.heap[b]? = w.heap[b]?) (hS : ∀ b, S b → S' b) (h : TabS S w) : TabS S' w' := by
 obtain ⟨h1, h2⟩ := h
 refine ⟨?_, fun g hg => hS g (h2 g hg)⟩
 unfold Lib.TabIs World.var? at h1 ⊢
 cases hg : Tryz.prog.globalNamed "internal/strconv.uint64pow10" with
 | none => rw [hg] at h1; cases h1
 | some g =>
  rw [hg] at h1
  simp only [Option.bind_some] at h1 ⊢
  rw [hw g (h2 g hg)]
  exact h1
def ΓV : Glob := ⟨fun S w => ΓL.G S w ∧ TabS S w, fun {S S' w w'} hw hS h => ⟨ΓL.mono hw hS h.1, tabS_mono hw hS h.2⟩, [], ΓL.gl, fun {S w g cs} hG hg => ΓL.gok hG.1 hg⟩
theorem CallsA.gV {f : FuncId} {xs : List T1} {r : TV} (h : CallsA Tryz.prog ΓL f xs r) : CallsA Tryz.prog ΓV f xs r := ⟨h.1, fun S w vs hS hG hv => h.2 S w vs hS hG.1 hv⟩
theorem CallsA.zV {f : FuncId} {xs : List T1} {r : TV} (h : CallsA Tryz.prog Γ0 f xs r) : CallsA Tryz.prog ΓV f xs r := ⟨h.1, fun S w vs hS hG hv => h.2 S w vs hS trivial hv⟩
theorem fmtV (n : Nat) (h1 : n < 18446744073709551616) : CallsA Tryz.prog ΓV 61 [c1 (du n), c1 (di 10)] (Tstr (bs (Lib.decDigits n))) :=
 ⟨⟨_, Tryz.func61, by kernel_rfl, rfl⟩, fun S w vs hS hG hvs => by
  obtain ⟨u, v, rfl, e1, e2⟩ := two_args hvs
  obtain rfl := open_v e1
  obtain rfl := open_v e2
  exact (fmt n h1 w hG.2.1).mono fun e w' ⟨he, hb⟩ => by subst he; exact flat_end hS hb (Imm.v rfl)⟩
theorem visit_c (F : List D) (at' before left : Nat) (h : at' < before) (h2 : left + 1 ≤ 1000000000) (hb : before ≤ 1000000000) : CallsM Tryz.prog ΓV 128 [(0, .obj [.eptr F, .d (di (left + 1 : Nat)), .d (db false)])] 1 [.c (.ptr 0 0), c1 (di at'), c1 (di before)] (Tb true) [(0, .obj [.eptr F, .d (di left), .d (db false)])] [] := by
 refine fn_ruleM (C := ⟨Tryz.prog, layF, Tryz.f128.ntmps, ΓV, 1, [], []⟩) layF_ok mixed Tryz.func128 rfl (by kernel_rfl) rfl rfl rfl ?_
 repeat' (first | refine aI (left : Int) ?_ | refine aU (left : Int) ?_ | refine aB (left : Int) ?_ | refine qg1 ?_ | refine eD ?_ ?_ <;> intro)
 exact ⟨rfl, TLe.rfl, rfl, rfl⟩
theorem show_c (C R X T : D) (nx nt : Nat) (hX : ∃ rows, X = .sl 5 rows ∧ rows.length = nx) (hT : ∃ rows, T = .sl 8 rows ∧ rows.length = nt) (hn : nx ≤ 1000000) (ht : nt ≤ 1000000) :
  CallsM Tryz.prog ΓV 39 [] 0 [.c (.eptr [C, R, X, T])] (.o (.c (.ptr 0 0))) [] [.obj [.eptr [C, R, X, T], .d (di (nx + nt : Nat)), .d (db false)]] := by
 obtain ⟨xr, rfl, hx⟩ := hX
 obtain ⟨tr, rfl, ht'⟩ := hT
 refine fn_ruleR (C := ⟨Tryz.prog, layF, Tryz.f39.ntmps, ΓV, 0, [], []⟩) layF_ok mixed Tryz.func39 rfl (by kernel_rfl) rfl rfl rfl ?_
 repeat' (first | refine aI ((nx + nt : Nat) : Int) ?_ | refine aU ((nx + nt : Nat) : Int) ?_ | refine aB ((nx + nt : Nat) : Int) ?_ | refine (ex_is _ ht') ?_ | refine (ex_is _ hx) ?_ | refine qg1 ?_ | refine eD ?_ ?_ <;> intro)
 exact ⟨rfl, rfl, TLe.rfl, rfl, rfl⟩
theorem kids_c (x : EX) (hk : x.k ≤ 3) (h2 : x.k = 2 → x.kids.length = 1) (h3 : x.k = 3 → x.kids.length = 2) : CallsA Tryz.prog ΓV 137 [gD (exD x)] (Tb true) := by
 have hm : (x.kids.map fun k => [di k]).length = x.kids.length := List.length_map _
 by_cases k2 : x.k = 2
 ·have := h2 k2
  refine fn_rule (C := ⟨Tryz.prog, layF, Tryz.f137.ntmps, ΓV, 0, [], []⟩) layF_ok mixed Tryz.func137 rfl (by kernel_rfl) rfl rfl rfl ?_
  repeat' (first | refine (ex_is _ hm) ?_ | refine qg1 ?_ | refine eD ?_ ?_ <;> intro)
  exact TLe.rfl
 ·by_cases k3 : x.k = 3
  ·have := h3 k3
   refine fn_rule (C := ⟨Tryz.prog, layF, Tryz.f137.ntmps, ΓV, 0, [], []⟩) layF_ok mixed Tryz.func137 rfl (by kernel_rfl) rfl rfl rfl ?_
   repeat' (first | refine (ex_is _ hm) ?_ | refine qg1 ?_ | refine eD ?_ ?_ <;> intro)
   exact TLe.rfl
  ·
   refine fn_rule (C := ⟨Tryz.prog, layF, Tryz.f137.ntmps, ΓV, 0, [], []⟩) layF_ok mixed Tryz.func137 rfl (by kernel_rfl) rfl rfl rfl ?_
   repeat' (first | refine (ex_is _ hm) ?_ | refine qg1 ?_ | refine eD ?_ ?_ <;> intro)
   exact TLe.rfl
def ET.root : ET → Nat → EX
 | .num n, _ => ⟨0, [], n, [], []⟩
 | .name w, _ => ⟨1, [], 0, w, []⟩
 | .not a, o => ⟨2, [], 0, [], [a.ix o]⟩
 | .bin op a b, o => ⟨3, op, 0, [], [a.ix o, b.ix (o + a.sz)]⟩
theorem flat_root (t : ET) (o : Nat) : (t.flat o)[t.sz - 1]? = some (t.root o) := by
 cases t with
 | num n => rfl
 | name w => rfl
 | not a =>
  show (a.flat o ++ [_])[a.sz + 1 - 1]? = _
  rw [List.getElem?_append_right (by rw [a.flat_len]; omega), a.flat_len, Nat.add_sub_cancel, Nat.sub_self]
  rfl
 | bin op a b =>
  show (a.flat o ++ b.flat (o + a.sz) ++ [_])[a.sz + b.sz + 1 - 1]? = _
  have hl : (a.flat o ++ b.flat (o + a.sz)).length = a.sz + b.sz := by rw [List.length_append, a.flat_len, b.flat_len]
  rw [List.getElem?_append_right (by rw [hl]; omega), hl, Nat.add_sub_cancel, Nat.sub_self]
  rfl
def Lies (xs : List EX) (t : ET) (o : Nat) : Prop := ∃ pre post, xs = pre ++ (t.flat o ++ post) ∧ pre.length = o
theorem Lies.at {xs : List EX} {t : ET} {o : Nat} (h : Lies xs t o) : xs[o + t.sz - 1]? = some (t.root o) := by
 obtain ⟨pre, post, rfl, hp⟩ := h
 have := t.sz_pos
 rw [List.getElem?_append_right (by omega), List.getElem?_append_left (by rw [t.flat_len]; omega), hp, show o + t.sz - 1 - o = t.sz - 1 by omega]
 exact flat_root t o
theorem Lies.not {xs : List EX} {a : ET} {o : Nat} (h : Lies xs (.not a) o) : Lies xs a o := by
 obtain ⟨pre, post, rfl, hp⟩ := h
 exact ⟨pre, [⟨2, [], 0, [], [a.ix o]⟩] ++ post, by simp [ET.flat], hp⟩
theorem Lies.left {xs : List EX} {op : List UInt8} {a b : ET} {o : Nat} (h : Lies xs (.bin op a b) o) : Lies xs a o := by
 obtain ⟨pre, post, rfl, hp⟩ := h
 exact ⟨pre, b.flat (o + a.sz) ++ ([⟨3, op, 0, [], [a.ix o, b.ix (o + a.sz)]⟩] ++ post), by simp [ET.flat], hp⟩
theorem Lies.right {xs : List EX} {op : List UInt8} {a b : ET} {o : Nat} (h : Lies xs (.bin op a b) o) : Lies xs b (o + a.sz) := by
 obtain ⟨pre, post, rfl, hp⟩ := h
 exact ⟨pre ++ a.flat o, [⟨3, op, 0, [], [a.ix o, b.ix (o + a.sz)]⟩] ++ post, by simp [ET.flat], by rw [List.length_append, a.flat_len, hp]⟩
theorem Lies.len {xs : List EX} {t : ET} {o : Nat} (h : Lies xs t o) : o + t.sz ≤ xs.length := by
 obtain ⟨pre, post, rfl, hp⟩ := h
 rw [List.length_append, List.length_append, t.flat_len]; omega
theorem weak_c (t : ET) (o lv : Nat) (h : lv ≤ 9) : CallsA Tryz.prog ΓV 140 [gD (exD (t.root o)), c1 (di lv)] (Tb (decide (t.lv < lv))) := by
 cases t with
 | bin op a b =>
  have hl := (level_c op).zV
  show CallsA _ _ _ [gD [di 3, ds (bs op), du 0, ds (bs []), intsD [a.ix o, b.ix (o + a.sz)]], _] (Tb (decide (levelV op < lv)))
  generalize levelV op = q at *
  by_cases hq : q < lv
  ·rw [decide_eq_true hq]
   refine fn_rule (C := ⟨Tryz.prog, layF, Tryz.f140.ntmps, ΓV, 0, [], []⟩) layF_ok mixed Tryz.func140 rfl (by kernel_rfl) rfl rfl rfl ?_
   repeat' (first | refine ex_call hl ?_ | refine qg1 ?_ | refine eD ?_ ?_ <;> intro)
   exact TLe.rfl
  ·rw [decide_eq_false hq]
   refine fn_rule (C := ⟨Tryz.prog, layF, Tryz.f140.ntmps, ΓV, 0, [], []⟩) layF_ok mixed Tryz.func140 rfl (by kernel_rfl) rfl rfl rfl ?_
   repeat' (first | refine ex_call hl ?_ | refine qg1 ?_ | refine eD ?_ ?_ <;> intro)
   exact TLe.rfl
 | num n =>
  rw [decide_eq_false (by show ¬ 9 < lv; omega)]
  show CallsA _ _ _ [gD [di 0, ds (bs []), du n, ds (bs []), intsD []], _] _
  refine fn_rule (C := ⟨Tryz.prog, layF, Tryz.f140.ntmps, ΓV, 0, [], []⟩) layF_ok mixed Tryz.func140 rfl (by kernel_rfl) rfl rfl rfl ?_
  repeat' (first | refine qgs ?_ | refine eD ?_ ?_ <;> intro)
  exact TLe.rfl
 | name w =>
  rw [decide_eq_false (by show ¬ 9 < lv; omega)]
  show CallsA _ _ _ [gD [di 1, ds (bs []), du 0, ds (bs w), intsD []], _] _
  refine fn_rule (C := ⟨Tryz.prog, layF, Tryz.f140.ntmps, ΓV, 0, [], []⟩) layF_ok mixed Tryz.func140 rfl (by kernel_rfl) rfl rfl rfl ?_
  repeat' (first | refine qgs ?_ | refine eD ?_ ?_ <;> intro)
  exact TLe.rfl
 | not a =>
  rw [decide_eq_false (by show ¬ 9 < lv; omega)]
  show CallsA _ _ _ [gD [di 2, ds (bs []), du 0, ds (bs []), intsD [a.ix o]], _] _
  refine fn_rule (C := ⟨Tryz.prog, layF, Tryz.f140.ntmps, ΓV, 0, [], []⟩) layF_ok mixed Tryz.func140 rfl (by kernel_rfl) rfl rfl rfl ?_
  repeat' (first | refine qgs ?_ | refine eD ?_ ?_ <;> intro)
  exact TLe.rfl
end Go.Proofs.YtidnlfkakhmadaaGreatDoor

namespace Go.Proofs.YtidnlfkakhmadaaGreatDoor
open Go.RowKit

abbrev PrM (F : List D) (left : Nat) : List (Nat × Blk) := [(0, .obj [.eptr F, .d (di left), .d (db false)])]
abbrev FF (C R T : D) (xs : List EX) : List D := [C, R, .sl 5 (xs.map exD), T]
theorem ex_rowF {α : Type} {f : α → List D} {l : List α} {n : Int} (i : Nat) (x : α) (r : List D) (hn : n = i) (hx : l[i]? = some x) (hr : f x = r) {K : List D → Prop} (h : K r) : ∃ r, 0 ≤ n ∧ (l.map f)[n.toNat]? = some r ∧ K r := by
 subst hr
 exact ex_row i x hn hx h
section
variable {C R T : D} {xs : List EX}
def ExprC (C R T : D) (xs : List EX) (t : ET) (o : Nat) : Prop := ∀ before left : Nat, t.ix o < before → before ≤ 1000000 → left + t.sz ≤ 100000000 →
 CallsM Tryz.prog ΓV 131 (PrM (FF C R T xs) (left + t.sz)) 1 [.c (.ptr 0 0), c1 (di (t.ix o)), c1 (di before)] (Tstr (bs t.tx)) (PrM (FF C R T xs) left) []
theorem operand_c {t : ET} {o : Nat} (hL : Lies xs t o) (he : ExprC C R T xs t o) (hs : t.tx.length ≤ 1000000000) (lv : Nat) (hl : lv ≤ 9) (before left : Nat) (h1 : t.ix o < before) (h2 : before ≤ 1000000) (h3 : left + t.sz ≤ 100000000) :
  CallsM Tryz.prog ΓV 138 (PrM (FF C R T xs) (left + t.sz)) 1 [.c (.ptr 0 0), c1 (di (t.ix o)), c1 (di before), c1 (di lv)] (Tstr (bs (t.opdX lv))) (PrM (FF C R T xs) left) [] := by
 have hc := hL.at
 have hw := weak_c t o lv hl
 have hlen := hL.len
 have he := he before left h1 h2 h3
 have hm : (xs.map exD).length = xs.length := List.length_map _
 have hsz : (bs t.tx).size = t.tx.length := by simp [bs, ByteArray.size]
 have hpos := t.sz_pos
 obtain ⟨i, hi⟩ : ∃ i, o + t.sz - 1 = i := ⟨_, rfl⟩
 have hix : t.ix o = (i : Int) := by rw [← hi]; rfl
 rw [hix] at he ⊢
 rw [hi] at hc
 have hil : i < xs.length := by omega
 unfold ET.opdX
 generalize t.root o = r at *
 by_cases hq : t.lv < lv
 ·rw [decide_eq_true hq] at hw ⊢
  show CallsM _ _ _ _ _ _ (Tstr (bs ([40] ++ (t.tx ++ [41])))) _ _
  rw [← bs_app, ← bs_app]
  have e1 : (bs [40]).size + (bs t.tx).size ≤ 9223372036854775807 := by rw [hsz]; show 1 + _ ≤ _; omega
  have e2 : (bs [40] ++ bs t.tx).size + (bs [41]).size ≤ 9223372036854775807 := by rw [ByteArray.size_append, hsz]; show 1 + _ + 1 ≤ _; omega
  refine fn_ruleM (C := ⟨Tryz.prog, layF, Tryz.f138.ntmps, ΓV, 1, [], []⟩) layF_ok mixed Tryz.func138 rfl (by kernel_rfl) rfl rfl rfl ?_
  repeat' (first | refine qgs ?_ | refine eD ?_ ?_ <;> intro)
  refine sC (CallsM.ren (he) [0] 1 rfl rfl rfl rfl) ?_
  repeat' (first | refine ex_call hw ?_ | refine (ex_row i r rfl hc) ?_ | refine (ex_is _ hm) ?_ | refine qg1 ?_ | refine eD ?_ ?_ <;> intro)
  exact ⟨rfl, TLe.rfl, rfl, rfl⟩
 ·rw [decide_eq_false hq] at hw ⊢
  show CallsM _ _ _ _ _ _ (Tstr (bs t.tx)) _ _
  refine fn_ruleM (C := ⟨Tryz.prog, layF, Tryz.f138.ntmps, ΓV, 1, [], []⟩) layF_ok mixed Tryz.func138 rfl (by kernel_rfl) rfl rfl rfl ?_
  repeat' (first | refine qgs ?_ | refine eD ?_ ?_ <;> intro)
  refine sC (CallsM.ren (he) [0] 1 rfl rfl rfl rfl) ?_
  repeat' (first | refine ex_call hw ?_ | refine (ex_row i r rfl hc) ?_ | refine (ex_is _ hm) ?_ | refine qg1 ?_ | refine eD ?_ ?_ <;> intro)
  exact ⟨rfl, TLe.rfl, rfl, rfl⟩
theorem par_len (b : Bool) (s : List UInt8) : s.length ≤ (par' b s).length := by
 unfold par'
 cases b
 ·exact Nat.le_refl _
 ·show s.length ≤ (40 :: (s ++ [41])).length
  rw [List.length_cons, List.length_append]; omega
set_option maxHeartbeats 2000000 in
theorem expr_num {n o : Nat} (hL : Lies xs (.num n) o) (hn : n < 18446744073709551616) (hx : xs.length ≤ 1000000) : ExprC C R T xs (.num n) o := by
 have hm : (xs.map exD).length = xs.length := List.length_map _
 intro before left h1 h2 h3
 have hc := hL.at
 have hlen := hL.len
 have hf := fmtV n hn
 have hix : (ET.num n).ix o = (o : Int) := by show ((o + 1 - 1 : Nat) : Int) = _; rw [Nat.add_sub_cancel]
 rw [hix] at h1 ⊢
 have hv := visit_c (FF C R T xs) o before left (by omega) (by have : left + 1 ≤ 100000000 := h3; omega) (by omega)
 have hk : CallsA Tryz.prog ΓV 137 [gD [di 0, ds (bs []), du n, ds (bs []), intsD []]] (Tb true) := kids_c (⟨0, [], n, [], []⟩ : EX) (Nat.zero_le 3) (fun h => by cases h) (fun h => by cases h)
 have hlen : o + 1 ≤ xs.length := hlen
 have hc : xs[o]? = some (⟨0, [], n, [], []⟩ : EX) := hc
 show CallsM _ _ _ (PrM (FF C R T xs) (left + 1)) _ _ (Tstr (bs (Lib.decDigits n))) _ _
 refine fn_ruleM (C := ⟨Tryz.prog, layF, Tryz.f131.ntmps, ΓV, 1, [], []⟩) layF_ok mixed Tryz.func131 rfl (by kernel_rfl) rfl rfl rfl ?_
 repeat' (first | refine qgs ?_ | refine eD ?_ ?_ <;> intro)
 refine sC (CallsM.ren (hv) [0] 1 rfl rfl rfl rfl) ?_
 repeat' (first | refine ex_call hf ?_ | refine ex_call hk ?_ | refine (ex_rowF o _ [di 0, ds (bs []), du n, ds (bs []), intsD []] rfl hc rfl) ?_ | refine (ex_is _ hm) ?_ | refine qg1 ?_ | refine eD ?_ ?_ <;> intro)
 exact ⟨rfl, TLe.rfl, rfl, rfl⟩
set_option maxHeartbeats 2000000 in
theorem expr_name {w : List UInt8} {o : Nat} (hL : Lies xs (.name w) o) (hx : xs.length ≤ 1000000) : ExprC C R T xs (.name w) o := by
 have hm : (xs.map exD).length = xs.length := List.length_map _
 intro before left h1 h2 h3
 have hc := hL.at
 have hlen := hL.len
 have hix : (ET.name w).ix o = (o : Int) := by show ((o + 1 - 1 : Nat) : Int) = _; rw [Nat.add_sub_cancel]
 rw [hix] at h1 ⊢
 have hv := visit_c (FF C R T xs) o before left (by omega) (by have : left + 1 ≤ 100000000 := h3; omega) (by omega)
 have hk : CallsA Tryz.prog ΓV 137 [gD [di 1, ds (bs []), du 0, ds (bs w), intsD []]] (Tb true) := kids_c (⟨1, [], 0, w, []⟩ : EX) (by show 1 ≤ 3; decide) (fun h => by cases h) (fun h => by cases h)
 have hlen : o + 1 ≤ xs.length := hlen
 have hc : xs[o]? = some (⟨1, [], 0, w, []⟩ : EX) := hc
 show CallsM _ _ _ (PrM (FF C R T xs) (left + 1)) _ _ (Tstr (bs w)) _ _
 refine fn_ruleM (C := ⟨Tryz.prog, layF, Tryz.f131.ntmps, ΓV, 1, [], []⟩) layF_ok mixed Tryz.func131 rfl (by kernel_rfl) rfl rfl rfl ?_
 repeat' (first | refine qgs ?_ | refine eD ?_ ?_ <;> intro)
 refine sC (CallsM.ren (hv) [0] 1 rfl rfl rfl rfl) ?_
 repeat' (first | refine ex_call hk ?_ | refine (ex_rowF o _ [di 1, ds (bs []), du 0, ds (bs w), intsD []] rfl hc rfl) ?_ | refine (ex_is _ hm) ?_ | refine qg1 ?_ | refine eD ?_ ?_ <;> intro)
 exact ⟨rfl, TLe.rfl, rfl, rfl⟩
theorem opd_le (lv : Nat) (t : ET) : t.tx.length ≤ (t.opdX lv).length := par_len _ _
set_option maxHeartbeats 2000000 in
theorem expr_not {a : ET} {o : Nat} (hL : Lies xs (.not a) o) (hs : (ET.not a).tx.length ≤ 1000000000) (hx : xs.length ≤ 1000000) (ih : ExprC C R T xs a o) : ExprC C R T xs (.not a) o := by
 have hm : (xs.map exD).length = xs.length := List.length_map _
 intro before left h1 h2 h3
 have hc := hL.at
 have hlen := hL.len
 have hpa := a.sz_pos
 have hs' : (33 :: a.opdX 9).length ≤ 1000000000 := hs
 rw [List.length_cons] at hs'
 have hsa := opd_le 9 a
 have hlen : o + (a.sz + 1) ≤ xs.length := hlen
 have h3 : left + (a.sz + 1) ≤ 100000000 := h3
 obtain ⟨i, hi⟩ : ∃ i, o + a.sz = i := ⟨_, rfl⟩
 have hix : (ET.not a).ix o = (i : Int) := by show ((o + (a.sz + 1) - 1 : Nat) : Int) = _; rw [← hi]; rfl
 have hia : a.ix o < i := by show ((o + a.sz - 1 : Nat) : Int) < _; omega
 have ho := operand_c (C := C) (R := R) (T := T) hL.not ih (by omega) 9 (Nat.le_refl _) i left hia (by omega) (by omega)
 rw [hix] at h1 ⊢
 have hv := visit_c (FF C R T xs) i before (left + a.sz) (by omega) (by omega) (by omega)
 have hk : CallsA Tryz.prog ΓV 137 [gD [di 2, ds (bs []), du 0, ds (bs []), intsD [a.ix o]]] (Tb true) := kids_c (⟨2, [], 0, [], [a.ix o]⟩ : EX) (by show 2 ≤ 3; decide) (fun h => rfl) (fun h => by cases h)
 have hc : xs[i]? = some (⟨2, [], 0, [], [a.ix o]⟩ : EX) := by rw [← hi]; exact hc
 have hil : i < xs.length := by omega
 have hl : CallsA Tryz.prog ΓV 120 [c1 (ds (bs [42]))] (Ti 8) := (level_c [42]).zV
 have hix2 : 0 ≤ a.ix o ∧ a.ix o ≤ 1000000 := ⟨by unfold ET.ix; omega, by omega⟩
 generalize a.ix o = z at *
 obtain ⟨tx, htx⟩ : ∃ tx, a.opdX 9 = tx := ⟨_, rfl⟩
 rw [htx] at ho hs'
 have hsz : (bs tx).size = tx.length := by simp [bs, ByteArray.size]
 show CallsM _ _ _ (PrM (FF C R T xs) (left + a.sz + 1)) _ _ (Tstr (bs ([33] ++ a.opdX 9))) _ _
 rw [htx, ← bs_app]
 have e1 : (bs [33]).size + (bs tx).size ≤ 9223372036854775807 := by rw [hsz]; show 1 + _ ≤ _; omega
 generalize left + a.sz = la at *
 have hkm : ([z].map fun k => [di k]).length = 1 := rfl
 refine fn_ruleM (C := ⟨Tryz.prog, layF, Tryz.f131.ntmps, ΓV, 1, [], []⟩) layF_ok mixed Tryz.func131 rfl (by kernel_rfl) rfl rfl rfl ?_
 repeat' (first | refine qgs ?_ | refine eD ?_ ?_ <;> intro)
 refine sC (CallsM.ren (hv) [0] 1 rfl rfl rfl rfl) ?_
 repeat' (first | refine ex_call hl ?_ | refine ex_call hk ?_ | refine (ex_row (l := [z]) 0 z rfl rfl) ?_ | refine (ex_rowF i _ [di 2, ds (bs []), du 0, ds (bs []), intsD [z]] rfl hc rfl) ?_ | refine (ex_is _ hkm) ?_ | refine (ex_is _ hm) ?_ | refine qg1 ?_ | refine eD ?_ ?_ <;> intro)
 refine sC (CallsM.ren (ho) [0] 2 rfl rfl rfl rfl) ?_
 repeat' (first | refine qgs ?_ | refine eD ?_ ?_ <;> intro)
 exact ⟨rfl, TLe.rfl, rfl, rfl⟩
set_option maxHeartbeats 4000000 in
theorem expr_bin {op : List UInt8} {a b : ET} {o : Nat} (hL : Lies xs (.bin op a b) o) (hs : (ET.bin op a b).tx.length ≤ 1000000000) (hx : xs.length ≤ 1000000) (iha : ExprC C R T xs a o) (ihb : ExprC C R T xs b (o + a.sz)) : ExprC C R T xs (.bin op a b) o := by
 have hm : (xs.map exD).length = xs.length := List.length_map _
 intro before left h1 h2 h3
 have hc := hL.at
 have hlen := hL.len
 have hpa := a.sz_pos
 have hpb := b.sz_pos
 have hq9 := level_le op
 have hs' : (a.opdX (levelV op) ++ 32 :: (op ++ 32 :: b.opdX (levelV op + 1))).length ≤ 1000000000 := hs
 rw [List.length_append, List.length_cons, List.length_append, List.length_cons] at hs'
 have hsa := opd_le (levelV op) a
 have hsb := opd_le (levelV op + 1) b
 have hlen : o + (a.sz + b.sz + 1) ≤ xs.length := hlen
 have h3 : left + (a.sz + b.sz + 1) ≤ 100000000 := h3
 obtain ⟨i, hi⟩ : ∃ i, o + (a.sz + b.sz) = i := ⟨_, rfl⟩
 have hix : (ET.bin op a b).ix o = (i : Int) := by show ((o + (a.sz + b.sz + 1) - 1 : Nat) : Int) = _; rw [← hi]; rfl
 have hia : a.ix o < i := by show ((o + a.sz - 1 : Nat) : Int) < _; omega
 have hib : b.ix (o + a.sz) < i := by show ((o + a.sz + b.sz - 1 : Nat) : Int) < _; omega
 have hoa := operand_c (C := C) (R := R) (T := T) hL.left iha (by omega) (levelV op) (by omega) i (left + b.sz) hia (by omega) (by omega)
 have hob := operand_c (C := C) (R := R) (T := T) hL.right ihb (by omega) (levelV op + 1) (by omega) i left hib (by omega) (by omega)
 rw [hix] at h1 ⊢
 have hv := visit_c (FF C R T xs) i before (left + b.sz + a.sz) (by omega) (by omega) (by omega)
 have hk : CallsA Tryz.prog ΓV 137 [gD [di 3, ds (bs op), du 0, ds (bs []), intsD [a.ix o, b.ix (o + a.sz)]]] (Tb true) := kids_c (⟨3, op, 0, [], [a.ix o, b.ix (o + a.sz)]⟩ : EX) (Nat.le_refl 3) (fun h => by cases h) (fun h => rfl)
 have hc : xs[i]? = some (⟨3, op, 0, [], [a.ix o, b.ix (o + a.sz)]⟩ : EX) := by rw [← hi]; exact hc
 have hil : i < xs.length := by omega
 have hl := (level_c op).zV
 have hza : 0 ≤ a.ix o ∧ a.ix o ≤ 1000000 := ⟨by unfold ET.ix; omega, by omega⟩
 have hzb : 0 ≤ b.ix (o + a.sz) ∧ b.ix (o + a.sz) ≤ 1000000 := ⟨by unfold ET.ix; omega, by omega⟩
 generalize a.ix o = z at *
 generalize b.ix (o + a.sz) = y at *
 obtain ⟨ta, hta⟩ : ∃ tx, a.opdX (levelV op) = tx := ⟨_, rfl⟩
 obtain ⟨tb, htb⟩ : ∃ tx, b.opdX (levelV op + 1) = tx := ⟨_, rfl⟩
 rw [hta] at hoa hs'
 rw [htb] at hob hs'
 have hsza : (bs ta).size = ta.length := by simp [bs, ByteArray.size]
 have hszb : (bs tb).size = tb.length := by simp [bs, ByteArray.size]
 have hszo : (bs op).size = op.length := by simp [bs, ByteArray.size]
 have hgoal : bs (ET.bin op a b).tx = bs ta ++ bs [32] ++ bs op ++ bs [32] ++ bs tb := by
  rw [bs_app, bs_app, bs_app, bs_app, ← hta, ← htb]
  show bs (a.opdX (levelV op) ++ 32 :: (op ++ 32 :: b.opdX (levelV op + 1))) = _
  congr 1
  simp
 rw [hgoal]
 have hleft : left + (ET.bin op a b).sz = left + b.sz + a.sz + 1 := by show left + (a.sz + b.sz + 1) = _; omega
 rw [hleft]
 have e1 : (bs ta).size + (bs [32]).size ≤ 9223372036854775807 := by rw [hsza]; show _ + 1 ≤ _; omega
 have e2 : (bs ta ++ bs [32]).size + (bs op).size ≤ 9223372036854775807 := by rw [ByteArray.size_append, hsza, hszo]; show _ + 1 + _ ≤ _; omega
 have e3 : (bs ta ++ bs [32] ++ bs op).size + (bs [32]).size ≤ 9223372036854775807 := by rw [ByteArray.size_append, ByteArray.size_append, hsza, hszo]; show _ + 1 + _ + 1 ≤ _; omega
 have e4 : (bs ta ++ bs [32] ++ bs op ++ bs [32]).size + (bs tb).size ≤ 9223372036854775807 := by rw [ByteArray.size_append, ByteArray.size_append, ByteArray.size_append, hsza, hszo, hszb]; show _ + 1 + _ + 1 + _ ≤ _; omega
 have hkm : ([z, y].map fun k => [di k]).length = 2 := rfl
 generalize levelV op = q at *
 clear iha ihb hgoal hleft
 refine fn_ruleM (C := ⟨Tryz.prog, layF, Tryz.f131.ntmps, ΓV, 1, [], []⟩) layF_ok mixed Tryz.func131 rfl (by kernel_rfl) rfl rfl rfl ?_
 repeat' (first | refine qgs ?_ | refine eD ?_ ?_ <;> intro)
 refine sC (CallsM.ren (hv) [0] 1 rfl rfl rfl rfl) ?_
 repeat' (first | refine ex_call hl ?_ | refine ex_call hk ?_ | refine (ex_row (l := [z, y]) 1 y rfl rfl) ?_ | refine (ex_row (l := [z, y]) 0 z rfl rfl) ?_ | refine (ex_rowF i _ [di 3, ds (bs op), du 0, ds (bs []), intsD [z, y]] rfl hc rfl) ?_ | refine (ex_is _ hkm) ?_ | refine (ex_is _ hm) ?_ | refine qg1 ?_ | refine eD ?_ ?_ <;> intro)
 refine sC (CallsM.ren (hoa) [0] 2 rfl rfl rfl rfl) ?_
 repeat' (first | refine ex_call hl ?_ | refine ex_call hk ?_ | refine aI ((q + 1 : Nat) : Int) ?_ | refine aU ((q + 1 : Nat) : Int) ?_ | refine aB ((q + 1 : Nat) : Int) ?_ | refine (ex_row (l := [z, y]) 1 y rfl rfl) ?_ | refine (ex_is _ hkm) ?_ | refine (ex_is _ hm) ?_ | refine qg1 ?_ | refine eD ?_ ?_ <;> intro)
 refine sC (CallsM.ren (hob) [0] 2 rfl rfl rfl rfl) ?_
 repeat' (first | refine qgs ?_ | refine eD ?_ ?_ <;> intro)
 exact ⟨rfl, TLe.rfl, rfl, rfl⟩
theorem expr_all (hx : xs.length ≤ 1000000) : ∀ (t : ET) (o : Nat), Lies xs t o → t.nums → t.tx.length ≤ 1000000000 → ExprC C R T xs t o
 | .num n, o, hL, hn, _ => expr_num hL hn hx
 | .name w, o, hL, _, _ => expr_name hL hx
 | .not a, o, hL, hn, hs => expr_not hL hs hx (expr_all hx a o hL.not hn (by
   have hs' : (33 :: a.opdX 9).length ≤ 1000000000 := hs
   have := opd_le 9 a
   rw [List.length_cons] at hs'
   omega))
 | .bin op a b, o, hL, hn, hs => by
   have hs' : (a.opdX (levelV op) ++ 32 :: (op ++ 32 :: b.opdX (levelV op + 1))).length ≤ 1000000000 := hs
   rw [List.length_append, List.length_cons, List.length_append, List.length_cons] at hs'
   have hsa := opd_le (levelV op) a
   have hsb := opd_le (levelV op + 1) b
   exact expr_bin hL hs hx (expr_all hx a o hL.left hn.1 (by omega)) (expr_all hx b _ hL.right hn.2 (by omega))
end
end Go.Proofs.YtidnlfkakhmadaaGreatDoor

namespace Go.Proofs.YtidnlfkakhmadaaGreatDoor

abbrev oapp (o : Option (List Ky)) (ks : List Ky) : Option (List Ky) := o.map (ks ++ ·)
theorem oapp_app (o : Option (List Ky)) (a b : List Ky) : oapp (oapp o b) a = oapp o (a ++ b) := by cases o <;> simp [oapp]
theorem oapp_cons (o : Option (List Ky)) (k : Ky) : o.map (k :: ·) = oapp o [k] := by cases o <;> rfl
def Lx (P : List UInt8 → Prop) (t : List UInt8) (ks : List Ky) : Prop := ∀ X, P X → lexK (t ++ X) = oapp (lexK X) ks
def Any (_ : List UInt8) : Prop := True
theorem Lx.and {P Q : List UInt8 → Prop} {a b : List UInt8} {k l : List Ky} (h1 : Lx P a k) (h2 : Lx Q b l) (hP : ∀ X, Q X → P (b ++ X)) : Lx Q (a ++ b) (k ++ l) := fun X hX => by
 rw [List.append_assoc, h1 _ (hP X hX), h2 X hX, oapp_app]
theorem Lx.sp {P : List UInt8 → Prop} {b : List UInt8} {l : List Ky} (h : Lx P b l) : Lx P (32 :: b) l := fun X hX => by
 rw [List.cons_append, lexK_sp]; exact h X hX
theorem Lx.nl {P : List UInt8 → Prop} {b : List UInt8} {l : List Ky} (h : Lx P b l) : Lx P (10 :: b) l := fun X hX => by
 rw [List.cons_append, lexK_nl]; exact h X hX
theorem Lx.nil {P : List UInt8 → Prop} : Lx P [] [] := fun X _ => by
 show lexK X = oapp (lexK X) []
 cases lexK X <;> rfl
theorem Lx.imp {P Q : List UInt8 → Prop} {a : List UInt8} {k : List Ky} (h : Lx P a k) (hi : ∀ X, Q X → P X) : Lx Q a k := fun X hX => h X (hi X hX)
theorem Lx.word {w : List UInt8} (h : ∃ r, tokF r = .ok 0 w 0) : Lx HdA w [(0, w, 0)] := fun X hX => by
 obtain ⟨r, hr⟩ := h
 rw [lexK_al hr (by decide) hX, oapp_cons]
theorem Lx.ex {c : CE} (h : c.ok) : Lx HdA c.tx c.toks := fun X hX => lexK_tx c X h hX
theorem Lx.one {b : UInt8} (h : ([b] ∈ signsL ∧ b ≠ 47 ∧ alnum b = false) ∧ ∀ p ∈ signsL, p[0]? = some b → p = [b]) : Lx Any [b] [(2, [b], 0)] := fun X _ => by
 rw [lexK_cl1 h X, oapp_cons]
theorem Lx.sg {t : List UInt8} (h : t ∈ signsL) : Lx HdS t [(2, t, 0)] := fun X hX => by rw [lexK_sg h hX, oapp_cons]
def one_ok (b : UInt8) : Prop := ([b] ∈ signsL ∧ b ≠ 47 ∧ alnum b = false) ∧ ∀ p ∈ signsL, p[0]? = some b → p = [b]
instance (b : UInt8) : Decidable (one_ok b) := by unfold one_ok; infer_instance
theorem o_lpar : one_ok 40 := by decide +kernel
theorem o_rpar : one_ok 41 := by decide +kernel
theorem o_lsq : one_ok 91 := by decide +kernel
theorem o_rsq : one_ok 93 := by decide +kernel
theorem o_lcur : one_ok 123 := by decide +kernel
theorem o_rcur : one_ok 125 := by decide +kernel
theorem o_semi : one_ok 59 := by decide +kernel
theorem o_colon : one_ok 58 := by decide +kernel
theorem o_comma : one_ok 44 := by decide +kernel
theorem hdA_app {b : UInt8} (h : alnum b = false) (w X : List UInt8) : HdA (b :: w ++ X) := fun c hc => by cases hc; exact h
def argX : List CE → List UInt8
 | [] => []
 | c :: l => 44 :: 32 :: (c.tx ++ argX l)
def argsX : List CE → List UInt8
 | [] => []
 | c :: l => 40 :: (c.tx ++ (argX l ++ [41]))
mutual
def CT.tx : CT → List UInt8
 | .int w => w
 | .ref nm args => nm ++ argsX args
 | .sized w e => w ++ 91 :: (e.tx ++ [93])
 | .over w e i => w ++ 91 :: (e.tx ++ 93 :: 32 :: i.tx)
 | .rest i => w_rest ++ 32 :: i.tx
 | .tail => w_tail
 | .none => w_none
 | .arr b e => b.tx ++ 91 :: (e.tx ++ [93])
 | .switch e cs => w_switch ++ 32 :: 40 :: (e.tx ++ 41 :: 32 :: 123 :: (cs.tx ++ [32, 125]))
def CS.tx : CS → List UInt8
 | .fin => []
 | .els i => 32 :: (w_else ++ 58 :: 32 :: (i.tx ++ [59]))
 | .case t _ i r => 32 :: (w_case ++ 32 :: (t ++ 58 :: 32 :: (i.tx ++ 59 :: r.tx)))
end
mutual
def CT.norm : CT → CT
 | .int w => .int w
 | .ref nm args => .ref nm (args.map CE.norm)
 | .sized w e => .sized w e.norm
 | .over w e i => .over w e.norm i.norm
 | .rest i => .rest i.norm
 | .tail => .tail
 | .none => .none
 | .arr b e => .arr b.norm e.norm
 | .switch e cs => .switch e.norm cs.norm
def CS.norm : CS → CS
 | .fin => .fin
 | .els i => .els i.norm
 | .case _ n i r => .case (Lib.decDigits n) n i.norm r.norm
end
mutual
def CT.nums : CT → Prop
 | .int _ => True
 | .ref _ args => ∀ c ∈ args, c.nums
 | .sized _ e => e.nums
 | .over _ e i => e.nums ∧ i.nums
 | .rest i => i.nums
 | .tail => True
 | .none => True
 | .arr b e => b.nums ∧ e.nums
 | .switch e cs => e.nums ∧ cs.nums
def CS.nums : CS → Prop
 | .fin => True
 | .els i => i.nums
 | .case _ n i r => n < 18446744073709551616 ∧ i.nums ∧ r.nums
end
def okTR (k n : Nat) (w : List UInt8) : TR → Bool
 | .ok k' t n' => k' == k && (t == w && n' == n)
 | .err _ => false
theorem okTR_eq {k n : Nat} {w : List UInt8} : ∀ {x : TR}, okTR k n w x = true → x = .ok k w n
 | .ok k' t n', h => by
  unfold okTR at h
  simp only [Bool.and_eq_true, beq_iff_eq] at h
  rw [h.1, h.2.1, h.2.2]
 | .err _, h => by cases h
theorem w_else_ok : tokF w_else = .ok 0 w_else 0 := okTR_eq (by decide +kernel)
theorem w_case_ok : tokF w_case = .ok 0 w_case 0 := okTR_eq (by decide +kernel)
theorem int_word {w : List UInt8} (h : integerV w ≠ none) : ∃ r, tokF r = .ok 0 w 0 := by
 have : ∀ p ∈ intsL, okTR 0 0 p.1 (tokF p.1) = true := by decide +kernel
 unfold integerV at h
 generalize hf : intsL.find? _ = o at h
 cases o with
 | none => exact absurd rfl h
 | some p =>
  have hm := List.mem_of_find?_eq_some hf
  have he : p.1 = w := eq_of_beq (List.find?_some (p := fun p : List UInt8 × Nat × Bool => p.1 == w) hf)
  exact ⟨w, by rw [← he]; exact okTR_eq (this p hm)⟩
theorem types_word {w : List UInt8} (h : w ∈ typesL) : ∃ r, tokF r = .ok 0 w 0 := by
 have : ∀ w ∈ typesL, okTR 0 0 w (tokF w) = true := by decide +kernel
 exact ⟨w, okTR_eq (this w h)⟩
theorem lx_args : ∀ l : List CE, okL l → Lx HdA (argX l) (toksL l)
 | [], _ => Lx.nil
 | c :: l, h => by
  have hc := Lx.ex (h c List.mem_cons_self)
  have ih := lx_args l fun d hd => h d (List.mem_cons_of_mem _ hd)
  have h1 : Lx HdA (c.tx ++ argX l) (c.toks ++ toksL l) := hc.and ih fun X hX => by
   cases l with
   | nil => exact hX
   | cons d l => exact hdA_app (by decide) _ _
  exact (Lx.one o_comma).and h1.sp fun _ _ => trivial
theorem lx_argsX : ∀ l : List CE, okL l → Lx HdA (argsX l) (argT l)
 | [], _ => Lx.nil
 | c :: l, h => by
  have hc := Lx.ex (h c List.mem_cons_self)
  have ih := lx_args l fun d hd => h d (List.mem_cons_of_mem _ hd)
  have h2 : Lx Any (argX l ++ [41]) (toksL l ++ [(2, t_rpar, 0)]) := ih.and (Lx.one o_rpar) fun X _ => hdA_app (by decide) _ _
  have h1 : Lx Any (c.tx ++ (argX l ++ [41])) (c.toks ++ (toksL l ++ [(2, t_rpar, 0)])) := hc.and h2 fun X _ => by
   cases l with
   | nil => exact hdA_app (by decide) _ _
   | cons d l => exact hdA_app (b := 44) (by decide) _ _
  exact ((Lx.one o_lpar).and h1 fun _ _ => trivial).imp fun _ _ => trivial
theorem lx_br {e : CE} (h : e.ok) : Lx Any (91 :: (e.tx ++ [93])) ((2, t_lsq, 0) :: (e.toks ++ [(2, t_rsq, 0)])) :=
 (Lx.one o_lsq).and ((Lx.ex h).and (Lx.one o_rsq) fun _ _ => hdA_app (by decide) _ _) fun _ _ => trivial
mutual
theorem lx_ct : ∀ c : CT, c.ok → Lx HdA c.tx c.toks
 | .int w, h => Lx.word (int_word h)
 | .ref nm args, h => (Lx.word h.2.1).and (lx_argsX args h.2.2.1) fun X hX => by
   cases args with
   | nil => exact hX
   | cons c l => exact hdA_app (by decide) _ _
 | .sized w e, h => ((Lx.word (types_word (types_mem (by rcases h.1 with h | h | h <;> simp [h])))).and (lx_br h.2) fun _ _ => hdA_app (by decide) _ _).imp fun _ _ => trivial
 | .over w e i, h => by
   have h1 := (lx_ct i h.2.2).sp
   have h2 := (lx_br h.2.1).and h1 fun _ _ => trivial
   have h3 := (Lx.word (types_word (types_mem (w := w) (by rcases h.1 with h | h <;> simp [h])))).and h2 fun _ _ => hdA_app (by decide) _ _
   have e1 : w ++ (91 :: (e.tx ++ [93]) ++ 32 :: i.tx) = (CT.over w e i).tx := by simp [CT.tx]
   have e2 : [((0, w, 0) : Ky)] ++ ((2, t_lsq, 0) :: (e.toks ++ [(2, t_rsq, 0)]) ++ i.toks) = (CT.over w e i).toks := by simp [CT.toks]
   rw [e1, e2] at h3
   exact h3
 | .rest i, h => (Lx.word (types_word (by decide))).and (lx_ct i h).sp fun _ _ => hdA_app (by decide) _ _
 | .tail, _ => Lx.word (types_word (by decide))
 | .none, _ => Lx.word (types_word (by decide))
 | .arr b e, h => ((lx_ct b h.1).and (lx_br h.2.1) fun _ _ => hdA_app (by decide) _ _).imp fun _ _ => trivial
 | .switch e cs, h => by
   have h1 : Lx Any [32, 125] [(2, t_rcur, 0)] := (Lx.one o_rcur).sp
   have h2 := (lx_cs cs h.2.1).and h1 fun _ _ => hdA_app (by decide) _ _
   have h3 := (Lx.one o_lcur).and h2 fun _ _ => trivial
   have h4 := (Lx.one o_rpar).and h3.sp fun _ _ => trivial
   have h5 := (Lx.ex h.1).and h4 fun _ _ => hdA_app (by decide) _ _
   have h6 := (Lx.one o_lpar).and h5 fun _ _ => trivial
   have h7 := (Lx.word (types_word (w := w_switch) (by decide))).and h6.sp fun _ _ => hdA_app (by decide) _ _
   exact fun X _ => h7 X trivial
theorem lx_cs : ∀ c : CS, c.ok → Lx HdA c.tx c.toks
 | .fin, _ => Lx.nil
 | .els i, h => by
   have h1 := (lx_ct i h).and (Lx.one o_semi) fun _ _ => hdA_app (by decide) _ _
   have h2 := (Lx.one o_colon).and h1.sp fun _ _ => trivial
   have h3 := (Lx.word ⟨_, w_else_ok⟩).and h2 fun _ _ => hdA_app (by decide) _ _
   exact h3.sp.imp fun _ _ => trivial
 | .case t n i r, h => by
   obtain ⟨⟨q, hq⟩, hi, hr⟩ := h
   have h0 := (Lx.one o_semi).and (lx_cs r hr) fun _ _ => trivial
   have h1 := (lx_ct i hi).and h0 fun _ _ => hdA_app (by decide) _ _
   have h2 := (Lx.one o_colon).and h1.sp fun _ _ => trivial
   have hn : Lx HdA t [(1, t, n)] := fun X hX => by rw [lexK_al hq (by decide) hX, oapp_cons]
   have h3 := hn.and h2 fun _ _ => hdA_app (by decide) _ _
   have h4 := (Lx.word ⟨_, w_case_ok⟩).and h3.sp fun _ _ => hdA_app (by decide) _ _
   exact h4.sp
end
end Go.Proofs.YtidnlfkakhmadaaGreatDoor

namespace Go.Proofs.YtidnlfkakhmadaaGreatDoor

theorem argsN_sz : ∀ l : List CE, szCs (l.map CE.norm) = szCs l
 | [] => rfl
 | c :: l => by show c.norm.sz + szCs (l.map CE.norm) = _; rw [norm_sz, argsN_sz l]; rfl
theorem argsN_flat : ∀ (l : List CE) (o : Nat), flatL (l.map CE.norm) o = flatL l o
 | [], _ => rfl
 | c :: l, o => by show c.norm.flat o ++ flatL (l.map CE.norm) (o + c.norm.sz) = _; rw [norm_flat, norm_sz, argsN_flat l]; rfl
theorem argsN_ix : ∀ (l : List CE) (o : Nat), ixL (l.map CE.norm) o = ixL l o
 | [], _ => rfl
 | c :: l, o => by show c.norm.ix o :: ixL (l.map CE.norm) (o + c.norm.sz) = _; rw [norm_ix, norm_sz, argsN_ix l]; rfl
theorem argsN_dp : ∀ l : List CE, okL l → dpL (l.map CE.norm) ≤ dpL l
 | [], _ => Nat.le_refl _
 | c :: l, h => by
  have h1 := (norm_dp c (h c List.mem_cons_self)).1
  have h2 := argsN_dp l fun d hd => h d (List.mem_cons_of_mem _ hd)
  show max c.norm.dp (dpL (l.map CE.norm)) ≤ max c.dp (dpL l)
  omega
mutual
theorem nT_sx : ∀ c : CT, c.norm.sx = c.sx
 | .int _ => rfl
 | .ref _ args => argsN_sz args
 | .sized _ e => norm_sz e
 | .over _ e i => by show e.norm.sz + i.norm.sx = _; rw [norm_sz, nT_sx i]; rfl
 | .rest i => nT_sx i
 | .tail => rfl
 | .none => rfl
 | .arr b e => by show b.norm.sx + e.norm.sz = _; rw [norm_sz, nT_sx b]; rfl
 | .switch e cs => by show e.norm.sz + cs.norm.sx = _; rw [norm_sz, nS_sx cs]; rfl
theorem nS_sx : ∀ c : CS, c.norm.sx = c.sx
 | .fin => rfl
 | .els i => nT_sx i
 | .case _ _ i r => by show i.norm.sx + r.norm.sx = _; rw [nT_sx i, nS_sx r]; rfl
end
mutual
theorem nT_st : ∀ c : CT, c.norm.st = c.st
 | .int _ => rfl
 | .ref _ _ => rfl
 | .sized _ _ => rfl
 | .over _ e i => by show i.norm.st + 1 = _; rw [nT_st i]; rfl
 | .rest i => by show i.norm.st + 1 = _; rw [nT_st i]; rfl
 | .tail => rfl
 | .none => rfl
 | .arr b e => by show b.norm.st + 1 = _; rw [nT_st b]; rfl
 | .switch e cs => by show cs.norm.st + 1 = _; rw [nS_st cs]; rfl
theorem nS_st : ∀ c : CS, c.norm.st = c.st
 | .fin => rfl
 | .els i => nT_st i
 | .case _ _ i r => by show i.norm.st + r.norm.st = _; rw [nT_st i, nS_st r]; rfl
end
theorem nT_ix (c : CT) (p : Nat) : c.norm.ix p = c.ix p := by unfold CT.ix; rw [nT_st]
theorem nS_num : ∀ c : CS, c.norm.num = c.num
 | .fin => rfl
 | .els _ => rfl
 | .case _ _ i r => by show r.norm.num + 1 = _; rw [nS_num r]; rfl
theorem nS_cases : ∀ (c : CS) (p : Nat), c.norm.cases p = c.cases p
 | .fin, _ => rfl
 | .els _, _ => rfl
 | .case _ n i r, p => by show (⟨n, i.norm.ix p⟩ : CA) :: r.norm.cases (p + i.norm.st) = _; rw [nT_ix, nT_st, nS_cases r]; rfl
theorem nS_inn : ∀ (c : CS) (p : Nat), c.norm.inn p = c.inn p
 | .fin, _ => rfl
 | .els i, p => nT_ix i p
 | .case _ n i r, p => by show r.norm.inn (p + i.norm.st) = _; rw [nT_st, nS_inn r]; rfl
mutual
theorem nT_fx : ∀ (c : CT) (o : Nat), c.norm.fx o = c.fx o
 | .int _, _ => rfl
 | .ref _ args, o => argsN_flat args o
 | .sized _ e, o => norm_flat e o
 | .over _ e i, o => by show e.norm.flat o ++ i.norm.fx (o + e.norm.sz) = _; rw [norm_flat, norm_sz, nT_fx i]; rfl
 | .rest i, o => nT_fx i o
 | .tail, _ => rfl
 | .none, _ => rfl
 | .arr b e, o => by show b.norm.fx o ++ e.norm.flat (o + b.norm.sx) = _; rw [norm_flat, nT_fx b, nT_sx]; rfl
 | .switch e cs, o => by show e.norm.flat o ++ cs.norm.fx (o + e.norm.sz) = _; rw [norm_flat, norm_sz, nS_fx cs]; rfl
theorem nS_fx : ∀ (c : CS) (o : Nat), c.norm.fx o = c.fx o
 | .fin, _ => rfl
 | .els i, o => nT_fx i o
 | .case _ _ i r, o => by show i.norm.fx o ++ r.norm.fx (o + i.norm.sx) = _; rw [nT_fx i, nT_sx, nS_fx r]; rfl
end
mutual
theorem nT_ft : ∀ (c : CT) (o p : Nat), c.norm.ft o p = c.ft o p
 | .int _, _, _ => rfl
 | .ref nm args, o, _ => by show [{ tyP 10 with nm := nm, args := ixL (args.map CE.norm) o }] = _; rw [argsN_ix]; rfl
 | .sized w e, o, _ => by show [{ tyP ((sizedV w).getD 0) with ex := e.norm.ix o, inn := -1 }] = _; rw [norm_ix]; rfl
 | .over w e i, o, p => by show i.norm.ft (o + e.norm.sz) p ++ [{ tyP ((sizedV w).getD 0) with ex := e.norm.ix o, inn := i.norm.ix p }] = _; rw [norm_ix, norm_sz, nT_ix, nT_ft i]; rfl
 | .rest i, o, p => by show i.norm.ft o p ++ [{ tyP 6 with inn := i.norm.ix p }] = _; rw [nT_ix, nT_ft i]; rfl
 | .tail, _, _ => rfl
 | .none, _, _ => rfl
 | .arr b e, o, p => by show b.norm.ft o p ++ [{ tyP 5 with ex := e.norm.ix (o + b.norm.sx), inn := b.norm.ix p }] = _; rw [norm_ix, nT_sx, nT_ix, nT_ft b]; rfl
 | .switch e cs, o, p => by show cs.norm.ft (o + e.norm.sz) p ++ [{ tyP 9 with ex := e.norm.ix o, inn := cs.norm.inn p, cases := cs.norm.cases p }] = _; rw [norm_ix, norm_sz, nS_inn, nS_cases, nS_ft cs]; rfl
theorem nS_ft : ∀ (c : CS) (o p : Nat), c.norm.ft o p = c.ft o p
 | .fin, _, _ => rfl
 | .els i, o, p => nT_ft i o p
 | .case _ _ i r, o, p => by show i.norm.ft o p ++ r.norm.ft (o + i.norm.sx) (p + i.norm.st) = _; rw [nT_ft i, nT_sx, nT_st, nS_ft r]; rfl
end
theorem nT_flatT : ∀ c : CT, c.flatT → c.norm.flatT
 | .int _, _ => trivial
 | .ref _ _, _ => trivial
 | .sized _ _, h => h.elim
 | .over _ _ _, h => h.elim
 | .rest _, h => h.elim
 | .tail, h => h.elim
 | .none, h => h.elim
 | .arr _ _, h => h.elim
 | .switch _ _, h => h.elim
theorem argsN_ok {l : List CE} (h : okL l) (hn : ∀ c ∈ l, c.nums) : okL (l.map CE.norm) := fun c hc => by
 obtain ⟨d, hd, rfl⟩ := List.mem_map.1 hc
 exact norm_ok d (h d hd) (hn d hd)
mutual
theorem nT_ok : ∀ c : CT, c.ok → c.nums → c.norm.ok ∧ c.norm.dp ≤ c.dp
 | .int _, h, _ => ⟨h, Nat.le_refl _⟩
 | .ref _ args, h, hn => ⟨⟨h.1, h.2.1, argsN_ok h.2.2.1 hn, by rw [List.length_map]; exact h.2.2.2⟩, argsN_dp args h.2.2.1⟩
 | .sized _ e, h, hn => ⟨⟨h.1, norm_ok e h.2 hn⟩, (norm_dp e h.2).1⟩
 | .over _ e i, h, hn => by
  obtain ⟨h1, h2⟩ := nT_ok i h.2.2 hn.2
  have h3 := (norm_dp e h.2.1).1
  exact ⟨⟨h.1, norm_ok e h.2.1 hn.1, h1⟩, by show max e.norm.dp (i.norm.dp + 1) ≤ max e.dp (i.dp + 1); omega⟩
 | .rest i, h, hn => by
  obtain ⟨h1, h2⟩ := nT_ok i h hn
  exact ⟨h1, Nat.succ_le_succ h2⟩
 | .tail, _, _ => ⟨trivial, Nat.le_refl _⟩
 | .none, _, _ => ⟨trivial, Nat.le_refl _⟩
 | .arr b e, h, hn => by
  obtain ⟨h1, h2⟩ := nT_ok b h.1 hn.1
  have h3 := (norm_dp e h.2.1).1
  exact ⟨⟨h1, norm_ok e h.2.1 hn.2, nT_flatT b h.2.2⟩, by show max b.norm.dp e.norm.dp ≤ max b.dp e.dp; omega⟩
 | .switch e cs, h, hn => by
  obtain ⟨h1, h2⟩ := nS_ok cs h.2.1 hn.2
  have h3 := (norm_dp e h.1).1
  exact ⟨⟨norm_ok e h.1 hn.1, h1, by rw [nS_num]; exact h.2.2⟩, by show max e.norm.dp cs.norm.dp ≤ max e.dp cs.dp; omega⟩
theorem nS_ok : ∀ c : CS, c.ok → c.nums → c.norm.ok ∧ c.norm.dp ≤ c.dp
 | .fin, _, _ => ⟨trivial, Nat.le_refl _⟩
 | .els i, h, hn => by
  obtain ⟨h1, h2⟩ := nT_ok i h hn
  exact ⟨h1, Nat.succ_le_succ h2⟩
 | .case _ n i r, h, hn => by
  obtain ⟨h1, h2⟩ := nT_ok i h.2.1 hn.2.1
  obtain ⟨h3, h4⟩ := nS_ok r h.2.2 hn.2.2
  exact ⟨⟨⟨_, tokF_dec n hn.1⟩, h1, h3⟩, by show max (i.norm.dp + 1) r.norm.dp ≤ max (i.dp + 1) r.dp; omega⟩
end
def derX (d : Nat) (a b : List UInt8) : List UInt8 :=
 if d = 0 then [] else 32 :: 61 :: 32 :: (derW d ++ 40 :: (a ++ (if 3 ≤ d then 46 :: 46 :: (b ++ [41]) else [41])))
def whX : Option CE → List UInt8
 | none => []
 | some e => 32 :: (w_where ++ 32 :: e.tx)
def CSb.tx (b : CSb) : List UInt8 := 32 :: (b.nm ++ 58 :: 32 :: (b.t ++ [59]))
def subX : List CSb → List UInt8
 | [] => []
 | b :: l => b.tx ++ subX l
def CI.tx : CI → List UInt8
 | .field nm t d a b wh => nm ++ 58 :: 32 :: (t.tx ++ (derX d a b ++ (whX wh ++ [59])))
 | .pack w l => w_pack ++ 32 :: (w ++ 32 :: 123 :: (subX l ++ [32, 125]))
def CSb.norm (b : CSb) : CSb := ⟨b.nm, Lib.decDigits (min b.n 1048576), min b.n 1048576⟩
def CI.norm : CI → CI
 | .field nm t d a b wh => .field nm t.norm d a b (wh.map CE.norm)
 | .pack w l => .pack w (l.map CSb.norm)
def CI.nums : CI → Prop
 | .field _ t _ _ _ wh => t.nums ∧ ∀ e, wh = some e → e.nums
 | .pack _ _ => True
theorem nI_sx (c : CI) : c.norm.sx = c.sx := by
 cases c with
 | field nm t d a b wh => cases wh <;> simp [CI.norm, CI.sx, nT_sx, norm_sz]
 | pack w l => rfl
theorem nI_st (c : CI) : c.norm.st = c.st := by
 cases c with
 | field nm t d a b wh => exact nT_st t
 | pack w l => rfl
theorem nI_fx (c : CI) (o : Nat) : c.norm.fx o = c.fx o := by
 cases c with
 | field nm t d a b wh => cases wh <;> simp [CI.norm, CI.fx, nT_fx, nT_sx, norm_flat]
 | pack w l => rfl
theorem nI_ft (c : CI) (o p : Nat) : c.norm.ft o p = c.ft o p := by
 cases c with
 | field nm t d a b wh => exact nT_ft t o p
 | pack w l => rfl
theorem nI_it (c : CI) (o p : Nat) : c.norm.it o p = c.it o p := by
 cases c with
 | field nm t d a b wh => cases wh <;> simp [CI.norm, CI.it, nT_ix, nT_sx, norm_ix]
 | pack w l =>
  show (⟨[], -1, 0, [], [], -1, _, _, (l.map CSb.norm).map CSb.sb⟩ : IT) = ⟨[], -1, 0, [], [], -1, _, _, l.map CSb.sb⟩
  rw [List.map_map]
  congr 1
  refine List.map_congr_left fun b _ => ?_
  show (⟨b.nm, min (min b.n 1048576) 1048576⟩ : SB) = ⟨b.nm, min b.n 1048576⟩
  congr 1
  omega
theorem nI_ok (c : CI) (h : c.ok) (hn : c.nums) : c.norm.ok := by
 cases c with
 | field nm t d a b wh =>
  obtain ⟨h1, h2, h3, h4, h5⟩ := h
  obtain ⟨k1, k2⟩ := nT_ok t h2 hn.1
  refine ⟨h1, k1, Nat.le_trans k2 h3, h4, fun e he => ?_⟩
  cases wh with
  | none => cases he
  | some e' =>
   cases he
   obtain ⟨q1, q2⟩ := h5 e' rfl
   exact ⟨norm_ok e' q1 (hn.2 e' rfl), Nat.le_trans (norm_dp e' q1).1 q2⟩
 | pack w l =>
  obtain ⟨h1, h2, h3, h4⟩ := h
  refine ⟨h1, by simpa using h2, by rw [List.length_map]; exact h3, fun b hb => ?_⟩
  obtain ⟨b', hb', rfl⟩ := List.mem_map.1 hb
  exact ⟨(h4 b' hb').1, _, tokF_dec _ (Nat.lt_of_le_of_lt (Nat.min_le_right _ _) (by decide))⟩
theorem derW_ok : ∀ d, d = 1 ∨ d = 2 ∨ d = 3 ∨ d = 4 → tokF (derW d) = .ok 0 (derW d) 0 := by
 intro d h
 rcases h with rfl | rfl | rfl | rfl <;> exact okTR_eq (by decide +kernel)
theorem lx_name {w : List UInt8} (h : NameOk w) : Lx HdA w [(0, w, 0)] := Lx.word h.2
theorem lx_der {d : Nat} {a b : List UInt8} (h : DerOk d a b) : Lx HdA (derX d a b) (derT d a b) := by
 rcases h with ⟨rfl, rfl, rfl⟩ | ⟨hd, hA, rfl⟩ | ⟨hd, hA, hB⟩
 ·exact Lx.nil
 ·have h0 : ¬ d = 0 := by omega
  have h3 : ¬ 3 ≤ d := by omega
  unfold derX derT
  rw [if_neg h0, if_neg h0, if_neg h3, if_neg h3]
  have k1 := (lx_name hA).and (Lx.one o_rpar) fun _ _ => hdA_app (by decide) _ _
  have k2 := (Lx.one o_lpar).and k1 fun _ _ => trivial
  have k3 := (Lx.word ⟨_, derW_ok d (by omega)⟩).and k2 fun _ _ => hdA_app (by decide) _ _
  have k4 := (Lx.sg (t := [61]) (by decide)).and k3.sp fun X _ => hdS_cons (by decide +kernel)
  exact (k4.sp).imp fun _ _ => trivial
 ·have h0 : ¬ d = 0 := by omega
  have h3 : 3 ≤ d := by omega
  unfold derX derT
  rw [if_neg h0, if_neg h0, if_pos h3, if_pos h3]
  obtain ⟨c, w, hbw, hc⟩ : ∃ c w, b = c :: w ∧ alnum c = true := by
   obtain ⟨-, r, hr⟩ := hB
   rcases tokF_cases hr with ⟨h1, -⟩ | ⟨h1, -⟩ | ⟨-, -, -, ⟨c, w, e, -⟩, h2⟩
   ·cases h1
   ·cases h1
   ·exact ⟨c, w, e, h2 c (by rw [e]; exact List.mem_cons_self)⟩
  have k0 := (lx_name hB).and (Lx.one o_rpar) fun _ _ => hdA_app (by decide) _ _
  have kd := (Lx.sg (t := [46, 46]) (by decide)).and k0 fun X _ => by rw [hbw]; exact hdS_cons (safe_alnum hc)
  have k1 := (lx_name hA).and kd fun _ _ => hdA_app (by decide) _ _
  have k2 := (Lx.one o_lpar).and k1 fun _ _ => trivial
  have k3 := (Lx.word ⟨_, derW_ok d (by omega)⟩).and k2 fun _ _ => hdA_app (by decide) _ _
  have k4 := (Lx.sg (t := [61]) (by decide)).and k3.sp fun X _ => hdS_cons (by decide +kernel)
  exact (k4.sp).imp fun _ _ => trivial
theorem w_where_ok : tokF w_where = .ok 0 w_where 0 := okTR_eq (by decide +kernel)
theorem w_pack_ok : tokF w_pack = .ok 0 w_pack 0 := okTR_eq (by decide +kernel)
theorem w_struct_ok : tokF w_struct = .ok 0 w_struct 0 := okTR_eq (by decide +kernel)
theorem w_const_ok : tokF w_const = .ok 0 w_const 0 := okTR_eq (by decide +kernel)
theorem lx_wh {wh : Option CE} (h : ∀ e, wh = some e → e.ok) : Lx HdA (whX wh) (whT wh) := by
 cases wh with
 | none => exact Lx.nil
 | some e => exact ((Lx.word ⟨_, w_where_ok⟩).and (Lx.ex (h e rfl)).sp fun _ _ => hdA_app (by decide) _ _).sp
theorem lx_num {t : List UInt8} {n : Nat} (h : ∃ r, tokF r = .ok 1 t n) : Lx HdA t [(1, t, n)] := fun X hX => by
 obtain ⟨r, hr⟩ := h
 rw [lexK_al hr (by decide) hX, oapp_cons]
theorem lx_subs : ∀ l : List CSb, (∀ b ∈ l, b.ok) → Lx Any (subX l) (subT l)
 | [], _ => Lx.nil
 | b :: l, h => by
  obtain ⟨h1, h2⟩ := h b List.mem_cons_self
  have k1 := (lx_num h2).and (Lx.one o_semi) fun _ _ => hdA_app (by decide) _ _
  have k2 := (Lx.one o_colon).and k1.sp fun _ _ => trivial
  have k3 := (lx_name h1).and k2 fun _ _ => hdA_app (by decide) _ _
  exact k3.sp.and (lx_subs l fun d hd => h d (List.mem_cons_of_mem _ hd)) fun _ _ => trivial
theorem lx_item (c : CI) (h : c.ok) : Lx Any c.tx c.toks := by
 cases c with
 | field nm t d a b wh =>
  obtain ⟨h1, h2, h3, h4, h5⟩ := h
  have k1 := (lx_wh fun e he => (h5 e he).1).and (Lx.one o_semi) fun _ _ => hdA_app (by decide) _ _
  have k2 := (lx_der h4).and k1 fun X _ => by
   cases wh with
   | none => exact hdA_app (by decide) _ _
   | some e => exact hdA_app (b := 32) (by decide) _ _
  have k3 := (lx_ct t h2).and k2 fun X _ => by
   unfold derX
   by_cases h0 : d = 0
   ·rw [if_pos h0]
    cases wh with
    | none => exact hdA_app (by decide) _ _
    | some e => exact hdA_app (b := 32) (by decide) _ _
   ·rw [if_neg h0]
    exact hdA_app (b := 32) (by decide) _ _
  have k4 := (Lx.one o_colon).and k3.sp fun _ _ => trivial
  exact (lx_name h1).and k4 fun _ _ => hdA_app (by decide) _ _
 | pack w l =>
  obtain ⟨h1, h2, h3, h4⟩ := h
  have k1 : Lx Any [32, 125] [(2, t_rcur, 0)] := (Lx.one o_rcur).sp
  have k2 := (lx_subs l h4).and k1 fun _ _ => trivial
  have k3 := (Lx.one o_lcur).and k2 fun _ _ => trivial
  have k4 := (Lx.word (int_word h1)).and k3.sp fun _ _ => hdA_app (by decide) _ _
  exact (Lx.word ⟨_, w_pack_ok⟩).and k4.sp fun _ _ => hdA_app (by decide) _ _
def itTx : List CI → List UInt8
 | [] => []
 | c :: l => 32 :: 32 :: (c.tx ++ 10 :: itTx l)
def commaX : List (List UInt8) → List UInt8
 | [] => []
 | p :: l => 44 :: 32 :: (p ++ commaX l)
def parX : List (List UInt8) → List UInt8
 | [] => []
 | p :: l => 40 :: (p ++ (commaX l ++ [41]))
def CR.tx (r : CR) : List UInt8 := w_struct ++ 32 :: (r.nm ++ (parX r.ps ++ 32 :: 123 :: 10 :: (itTx r.its ++ [125, 10])))
def CD.tx : CD → List UInt8
 | .con nm t _ => w_const ++ 32 :: (nm ++ 32 :: 61 :: 32 :: (t ++ [59, 10]))
 | .str r => r.tx
def dTx : List CD → List UInt8
 | [] => []
 | d :: l => d.tx ++ dTx l
def CR.norm (r : CR) : CR := ⟨r.nm, r.ps, r.its.map CI.norm⟩
def CD.norm : CD → CD
 | .con nm _ n => .con nm (Lib.decDigits n) n
 | .str r => .str r.norm
def CD.isC : CD → Bool
 | .con _ _ _ => true
 | .str _ => false
def normD (l : List CD) : List CD := (l.filter CD.isC).map CD.norm ++ (l.filter fun d => !d.isC).map CD.norm
def CD.nums : CD → Prop
 | .con _ _ n => n < 18446744073709551616
 | .str r => ∀ c ∈ r.its, c.nums
theorem lx_items : ∀ l : List CI, (∀ c ∈ l, c.ok) → Lx Any (itTx l) (itT l)
 | [], _ => Lx.nil
 | c :: l, h => ((lx_item c (h c List.mem_cons_self)).and (lx_items l fun d hd => h d (List.mem_cons_of_mem _ hd)).nl fun _ _ => trivial).sp.sp
theorem lx_commas : ∀ l : List (List UInt8), (∀ p ∈ l, NameOk p) → Lx HdA (commaX l) (commaT l)
 | [], _ => Lx.nil
 | p :: l, h => by
  have k1 := (lx_name (h p List.mem_cons_self)).and (lx_commas l fun d hd => h d (List.mem_cons_of_mem _ hd)) fun X hX => by
   cases l with
   | nil => exact hX
   | cons q l => exact hdA_app (by decide) _ _
  exact (Lx.one o_comma).and k1.sp fun _ _ => trivial
theorem lx_par (l : List (List UInt8)) (h : ∀ p ∈ l, NameOk p) : Lx Any (parX l) (parT' l) := by
 cases l with
 | nil => exact Lx.nil
 | cons p l =>
  have k0 := (lx_commas l fun d hd => h d (List.mem_cons_of_mem _ hd)).and (Lx.one o_rpar) fun _ _ => hdA_app (by decide) _ _
  have k1 := (lx_name (h p List.mem_cons_self)).and k0 fun X _ => by
   cases l with
   | nil => exact hdA_app (by decide) _ _
   | cons q l => exact hdA_app (b := 44) (by decide) _ _
  exact (Lx.one o_lpar).and k1 fun _ _ => trivial
theorem lx_rec (r : CR) (h : r.ok) : Lx Any r.tx r.toks := by
 obtain ⟨h1, h2, h3, h4, h5⟩ := h
 have k0 : Lx Any [125, 10] [(2, t_rcur, 0)] := (Lx.one o_rcur).and (Lx.nl (Lx.nil (P := Any))) fun _ _ => trivial
 have k1 := (lx_items r.its h5).and k0 fun _ _ => trivial
 have k2 := (Lx.one o_lcur).and k1.nl fun _ _ => trivial
 have k3 := (lx_par r.ps h2).and k2.sp fun _ _ => trivial
 have k4 := (lx_name h1).and k3 fun X _ => by
  cases r.ps with
  | nil => exact hdA_app (by decide) _ _
  | cons p l => exact hdA_app (b := 40) (by decide) _ _
 exact (Lx.word ⟨_, w_struct_ok⟩).and k4.sp fun _ _ => hdA_app (by decide) _ _
theorem lx_decl (d : CD) (h : d.ok) : Lx Any d.tx d.toks := by
 cases d with
 | con nm t n =>
  have k0 : Lx Any [59, 10] [(2, t_semi, 0)] := (Lx.one o_semi).and (Lx.nl (Lx.nil (P := Any))) fun _ _ => trivial
  have k1 := (lx_num h.2).and k0 fun _ _ => hdA_app (by decide) _ _
  have k2 := (Lx.sg (t := [61]) (by decide)).and k1.sp fun X _ => hdS_cons (by decide +kernel)
  have k3 := (lx_name h.1).and k2.sp fun _ _ => hdA_app (by decide) _ _
  exact (Lx.word ⟨_, w_const_ok⟩).and k3.sp fun _ _ => hdA_app (by decide) _ _
 | str r => exact lx_rec r h
theorem lx_file : ∀ l : List CD, DsOk l → Lx Any (dTx l) (dT l)
 | [], _ => Lx.nil
 | d :: l, h => (lx_decl d (h d List.mem_cons_self)).and (lx_file l fun e he => h e (List.mem_cons_of_mem _ he)) fun _ _ => trivial
theorem lexK_file {l : List CD} (h : DsOk l) : lexK (dTx l) = some (dT l ++ [(3, [], 0)]) := by
 have := lx_file l h [] trivial
 rw [List.append_nil, lexK_nil] at this
 exact this
end Go.Proofs.YtidnlfkakhmadaaGreatDoor

namespace Go.Proofs.YtidnlfkakhmadaaGreatDoor
open Go.RowKit


abbrev dstrs (l : List ByteArray) : D := .sl 1 (l.map fun s => [ds s])
theorem join_c (Γ : Glob) (l : List ByteArray) (sep : ByteArray) (h : (Lib.join (l.map (·.data.toList)) sep.data.toList).length ≤ 140737488355328) (hl : l.length ≤ 140737488355328) :
  CallsA Tryz.prog Γ 28 [c1 (dstrs l), c1 (ds sep)] (.o (c1 (ds ⟨(Lib.join (l.map (·.data.toList)) sep.data.toList).toArray⟩))) :=
 ⟨⟨_, Tryz.func28, by kernel_rfl, rfl⟩, fun S w vs hS hG hvs => by
  obtain ⟨u, v, rfl, e1, e2⟩ := two_args hvs
  obtain rfl := open_v e2
  have e1 : Imm S w (dstrs l) u := e1
  obtain ⟨rows, hr⟩ : ∃ rows, l.map (fun s => [ds s]) = rows := ⟨_, rfl⟩
  have hl2 : rows.length = l.length := by rw [← hr, List.length_map]
  rw [show dstrs l = .sl 1 rows by rw [← hr]] at e1
  have hnil : rows = [] → l = [] := fun e => by rw [e] at hl2; exact List.eq_nil_of_length_eq_zero hl2.symm
  have fin : ∀ (a : Option Addr) (c : Nat), l = [] → Calls Tryz.prog 28 #[.slice a 0 c, .string sep] w fun e w' => ∃ v S', e = .returned v ∧ Below w.heap.size w w' ∧ (∀ b, S b → S' b) ∧ (∀ b, S' b → S b ∨ w.heap.size ≤ b) ∧ (∀ b, S' b → b < w'.heap.size) ∧ V ι0 S' w' (.o (c1 (ds ⟨(Lib.join (l.map (·.data.toList)) sep.data.toList).toArray⟩))) v := fun a c h0 => by
   rw [h0]
   refine (Tryz.strings_Join_none a c sep w).mono fun e w' ⟨he, hb⟩ => ?_
   subst he; subst hb
   exact flat_end hS (Below.refl _ _) (Imm.v rfl)
  cases e1 with
  | nil => exact fin _ _ (hnil rfl)
  | sl0 => exact fin _ _ (hnil rfl)
  | sl us hs hc hrr hc1 hc2 =>
   rename_i g f cap
   rw [hl2]
   refine (Tryz.strings_Join g f cap l sep w (fun j x hj => ?_) (hS _ hs) hl (by omega) h).mono fun e w' ⟨he, hb⟩ => ?_
   ·have hrow : rows.flatten[j]? = some (ds x) := by
     have := flatten_get (i := j) (j := 0) (r := [ds x]) (d := ds x) hrr (by rw [← hr, List.getElem?_map, hj]; rfl) rfl
     simpa using this
    have h1 := hc1 j _ hrow
    have h2 := hc2 j _ hrow
    rw [h1]
    generalize us j = u at *
    cases h2
    rfl
   ·subst he
    exact flat_end hS hb (Imm.v rfl)⟩
def Lys {α : Type} (xs l : List α) (o : Nat) : Prop := ∃ pre post, xs = pre ++ (l ++ post) ∧ pre.length = o
section
variable {α : Type} {xs : List α}
theorem Lys.left {a b : List α} {o : Nat} (h : Lys xs (a ++ b) o) : Lys xs a o := by
 obtain ⟨pre, post, rfl, hp⟩ := h
 exact ⟨pre, b ++ post, by simp, hp⟩
theorem Lys.right {a b : List α} {o : Nat} (h : Lys xs (a ++ b) o) : Lys xs b (o + a.length) := by
 obtain ⟨pre, post, rfl, hp⟩ := h
 exact ⟨pre ++ a, post, by simp, by rw [List.length_append, hp]⟩
theorem Lys.at {x : α} {o : Nat} (h : Lys xs [x] o) : xs[o]? = some x := by
 obtain ⟨pre, post, rfl, rfl⟩ := h
 rw [List.getElem?_append_right (Nat.le_refl _), Nat.sub_self]; rfl
theorem Lys.last {a : List α} {x : α} {o : Nat} (h : Lys xs (a ++ [x]) o) : xs[o + a.length]? = some x := h.right.at
theorem Lys.len {a : List α} {o : Nat} (h : Lys xs a o) : o + a.length ≤ xs.length := by
 obtain ⟨pre, post, rfl, rfl⟩ := h
 simp
end
theorem lies_of {xs : List EX} {c : CE} {o : Nat} (h : Lys xs (c.flat o) o) : Lies xs c.tree o := by
 unfold Lies; rw [tree_flat]; exact h
abbrev GF (C R : D) (xs : List EX) (ts : List TY) : List D := [C, R, .sl 5 (xs.map exD), .sl 8 (ts.map tyD)]
section
variable {C R : D} {xs : List EX} {ts : List TY}
def AnyC (C R : D) (xs : List EX) (ts : List TY) (e : CE) (o : Nat) : Prop := ∀ left : Nat, left + e.sz ≤ 100000000 →
 CallsM Tryz.prog ΓV 110 (PrM (GF C R xs ts) (left + e.sz)) 1 [.c (.ptr 0 0), c1 (di (e.ix o))] (Tstr (bs e.norm.tx)) (PrM (GF C R xs ts) left) []
theorem any_c (hx : xs.length ≤ 1000000) {e : CE} {o : Nat} (h : Lys xs (e.flat o) o) (hn : e.nums) (hs : e.norm.tx.length ≤ 1000000000) : AnyC C R xs ts e o := fun left hl => by
 have hm : (xs.map exD).length = xs.length := List.length_map _
 have hL := lies_of h
 have hlen := hL.len
 have hpos := e.tree.sz_pos
 rw [tree_tx] at hs ⊢
 rw [← tree_sz] at hl ⊢
 have he := expr_all (C := C) (R := R) (T := .sl 8 (ts.map tyD)) hx e.tree o hL (tree_nums e hn) hs xs.length left (by show ((o + e.tree.sz - 1 : Nat) : Int) < _; omega) hx hl
 rw [← tree_ix]
 have hix : 0 ≤ e.tree.ix o ∧ e.tree.ix o ≤ 1000000 := ⟨by unfold ET.ix; omega, by show ((o + e.tree.sz - 1 : Nat) : Int) ≤ _; omega⟩
 generalize e.tree.ix o = z at *
 refine fn_ruleM (C := ⟨Tryz.prog, layF, Tryz.f110.ntmps, ΓV, 1, [], []⟩) layF_ok mixed Tryz.func110 rfl (by kernel_rfl) rfl rfl rfl ?_
 repeat' (first | refine (ex_is _ hm) ?_ | refine qg1 ?_ | refine eD ?_ ?_ <;> intro)
 refine sC (CallsM.ren (he) [0] 1 rfl rfl rfl rfl) ?_
 repeat' (first | refine qgs ?_ | refine eD ?_ ?_ <;> intro)
 exact ⟨rfl, TLe.rfl, rfl, rfl⟩
theorem joinX (c : CE) (l : List CE) : Lib.join ((c :: l).map fun e => e.norm.tx) [44, 32] = c.norm.tx ++ argX (l.map CE.norm) := by
 rw [List.map_cons, Lib.join_cons]
 congr 1
 induction l with
 | nil => rfl
 | cons d l ih =>
  have : Lib.joinTail [44, 32] ((d :: l).map fun e => e.norm.tx) = [44, 32] ++ d.norm.tx ++ Lib.joinTail [44, 32] (l.map fun e => e.norm.tx) := by
   unfold Lib.joinTail
   simp
  rw [this, ih]
  rfl
theorem flatL_split (l : List CE) (q : Nat) : ∀ o, flatL l o = flatL (l.take q) o ++ flatL (l.drop q) (o + szCs (l.take q)) := by
 induction l generalizing q with
 | nil => intro o; cases q <;> rfl
 | cons c l ih =>
  intro o
  cases q with
  | zero => rfl
  | succ q =>
   show c.flat o ++ flatL l (o + c.sz) = c.flat o ++ flatL (l.take q) (o + c.sz) ++ flatL (l.drop q) (o + (c.sz + szCs (l.take q)))
   rw [ih q (o + c.sz), List.append_assoc, Nat.add_assoc]
theorem ixL_at (l : List CE) : ∀ (q o : Nat) (c : CE), l[q]? = some c → (ixL l o)[q]? = some (c.ix (o + szCs (l.take q))) := by
 induction l with
 | nil => intro q o c h; cases h
 | cons d l ih =>
  intro q o c h
  cases q with
  | zero => cases h; rfl
  | succ q =>
   show (ixL l (o + d.sz))[q]? = some (c.ix (o + (d.sz + szCs (l.take q))))
   rw [ih q (o + d.sz) c h, Nat.add_assoc]
theorem szCs_app : ∀ a b : List CE, szCs (a ++ b) = szCs a + szCs b
 | [], b => (Nat.zero_add _).symm
 | c :: a, b => by show c.sz + szCs (a ++ b) = c.sz + szCs a + szCs b; rw [szCs_app a b, Nat.add_assoc]
set_option maxHeartbeats 4000000 in
theorem list_c (hx : xs.length ≤ 1000000) {c : CE} {l : List CE} {o : Nat} (h : Lys xs (flatL (c :: l) o) o) (hn : ∀ e ∈ c :: l, e.nums) (hs : (c.norm.tx ++ argX (l.map CE.norm)).length ≤ 1000000000) (hl : (c :: l).length ≤ 64) (left : Nat) (hleft : left + szCs (c :: l) ≤ 100000000) :
  CallsM Tryz.prog ΓV 130 (PrM (GF C R xs ts) (left + szCs (c :: l))) 1 [.c (.ptr 0 0), c1 (intsD (ixL (c :: l) o))] (Tstr (bs (c.norm.tx ++ argX (l.map CE.norm)))) (PrM (GF C R xs ts) left) [] := by
 rw [← joinX] at hs ⊢
 generalize c :: l = zs at *
 have hm : ((ixL zs o).map fun k => [di k]).length = zs.length := by rw [List.length_map, ixL_len]
 have hlen : ∀ e ∈ zs, e.norm.tx.length ≤ 1000000000 := fun e he => by
  have : ∀ (l : List CE), (∀ e ∈ l, e.norm.tx.length ≤ (Lib.join (l.map fun e => e.norm.tx) [44, 32]).length) := by
   intro l
   cases l with
   | nil => intro e he; cases he
   | cons d l =>
    rw [joinX]
    intro e he
    rw [List.length_append]
    rcases List.mem_cons.1 he with rfl | he
    ·omega
    ·have key : ∀ (l : List CE), e ∈ l → e.norm.tx.length ≤ (argX (l.map CE.norm)).length := by
      intro l
      induction l with
      | nil => intro h; cases h
      | cons f l ih =>
       intro h
       show _ ≤ (44 :: 32 :: (f.norm.tx ++ argX (l.map CE.norm))).length
       rw [List.length_cons, List.length_cons, List.length_append]
       rcases List.mem_cons.1 h with rfl | h
       ·omega
       ·have := ih h; omega
     have := key l he
     omega
  exact Nat.le_trans (this zs e he) hs
 refine fn_ruleM (C := ⟨Tryz.prog, layF, Tryz.f130.ntmps, ΓV, 1, [], []⟩) layF_ok mixed Tryz.func130 rfl (by kernel_rfl) rfl rfl rfl ?_
 repeat' (first | refine (ex_is _ hm) ?_ | refine qg1 ?_ | refine eD ?_ ?_ <;> intro)
 refine ex_loop (X := Nat × List ByteArray × Nat) (fun ⟨q, m, k⟩ => ⟨[(0, .o (.c (.ptr 0 0))), (5, .o (.c (.row 1))), (8, .o (c1 (intsD (ixL zs o)))), (9, Ti zs.length), (10, Ti q)], [(0, .obj [.eptr (GF C R xs ts), .d (di k), .d (db false)]), (1, .row 1 9 (m.map fun s => [ds s]))], 2⟩) (fun x => zs.length - x.1)
  (fun ⟨q, m, k⟩ => q ≤ zs.length ∧ m = ((zs.take q).map fun e => bs e.norm.tx) ∧ k = left + szCs (zs.drop q)) (0, [], left + szCs zs) ⟨Nat.zero_le _, rfl, rfl⟩ (SLe.trans sS (SLe.own 5 1 1 9 rfl rfl rfl rfl rfl)) ?_
 rintro ⟨q, m, k⟩ ⟨hq, hmq, hkk⟩
 refine ex_dec (fun hh => ?_) (fun hh => ?_)
 ·have hql : q < zs.length := by omega
  have hc : zs[q]? = some zs[q] := at_some hql
  have htk : zs.take (q + 1) = zs.take q ++ [zs[q]] := by rw [List.take_add_one, hc]; rfl
  have hdr : zs.drop q = zs[q] :: zs.drop (q + 1) := List.drop_eq_getElem_cons hql
  have hz : szCs (zs.drop q) = zs[q].sz + szCs (zs.drop (q + 1)) := by rw [hdr]; rfl
  have hzt : szCs zs = szCs (zs.take q) + szCs (zs.drop q) := by rw [← szCs_app, List.take_append_drop]
  have hmem : zs[q] ∈ zs := List.getElem_mem hql
  have hix := ixL_at zs q o zs[q] hc
  have hsp := flatL_split zs q o
  rw [hdr] at hsp
  rw [hsp] at h
  have hL : Lys xs (zs[q].flat (o + szCs (zs.take q))) (o + szCs (zs.take q)) := by
   have := h.right
   rw [flatL_len] at this
   exact this.left
  have ha := any_c (C := C) (R := R) (ts := ts) hx hL (hn _ hmem) (hlen _ hmem) (left + szCs (zs.drop (q + 1))) (by omega)
  have hmapl : m ++ [bs zs[q].norm.tx] = (zs.take (q + 1)).map fun e => bs e.norm.tx := by rw [htk, List.map_append, hmq]; rfl
  have hml : m.length = q := by rw [hmq, List.length_map, List.length_take]; omega
  have e1 : left + szCs (zs.drop q) = left + szCs (zs.drop (q + 1)) + zs[q].sz := by omega
  rw [← e1, ← hkk] at ha
  generalize zs[q] = e at *
  generalize hzz : e.ix (o + szCs (zs.take q)) = z at *
  repeat' (first | refine (ex_row q z rfl hix) ?_ | refine (ex_is _ hm) ?_ | refine qg1 ?_ | refine eD ?_ ?_ <;> intro)
  refine sC (CallsM.ren (ha) [0] 2 rfl rfl rfl rfl) ?_
  repeat' (first | refine qgs ?_ | refine eD ?_ ?_ <;> intro)
  refine ex_app (q) (1) 1000 (by first | rfl | (simp; done) | (simp; omega)) (by first | rfl | (simp; done) | (simp; omega)) rfl (by omega) ?_
  refine ex_is ((m ++ [bs e.norm.tx]).map (fun s => [ds s])) (by rw [List.map_append]; rfl) ?_
  repeat' (first | refine aI ((q + 1 : Nat) : Int) ?_ | refine aU ((q + 1 : Nat) : Int) ?_ | refine aB ((q + 1 : Nat) : Int) ?_ | refine qg1 ?_ | refine eD ?_ ?_ <;> intro)
  exact ex_round (q + 1, m ++ [bs e.norm.tx], left + szCs (zs.drop (q + 1))) ⟨by omega, hmapl, rfl⟩ (by show _ - _ < _ - _; omega) (sR [(0, 0), (3, 1)])
 ·obtain rfl : q = zs.length := by omega
  have hdn : zs.drop zs.length = [] := List.drop_length
  rw [List.take_length] at hmq
  have hmj : m.map (·.data.toList) = zs.map fun e => e.norm.tx := by rw [hmq, List.map_map]; rfl
  have hml : m.length = zs.length := by rw [hmq, List.length_map]
  have hjc := join_c ΓV m (bs [44, 32]) (by rw [show (bs [44, 32]).data.toList = [44, 32] from rfl, hmj]; omega) (by omega)
  rw [show (bs [44, 32]).data.toList = [44, 32] from rfl, hmj] at hjc
  obtain rfl : k = left := by rw [hkk, hdn]; rfl
  repeat' (first | refine ex_call hjc ?_ | refine qg1 ?_ | refine eD ?_ ?_ <;> intro)
  exact ⟨rfl, TLe.rfl, rfl, rfl⟩
end
end Go.Proofs.YtidnlfkakhmadaaGreatDoor

namespace Go.Proofs.YtidnlfkakhmadaaGreatDoor
open Go.RowKit

section
variable {C R : D} {xs : List EX} {ts : List TY}
def KindC (C R : D) (xs : List EX) (ts : List TY) (c : CT) (o p : Nat) : Prop := ∀ before left : Nat, c.ix p < before → before ≤ 1000000 → left + (c.sx + c.st) ≤ 100000000 →
 CallsM Tryz.prog ΓV 108 (PrM (GF C R xs ts) (left + (c.sx + c.st))) 1 [.c (.ptr 0 0), c1 (di (c.ix p)), c1 (di before)] (Tstr (bs c.norm.tx)) (PrM (GF C R xs ts) left) []
theorem bsz (l : List UInt8) : (bs l).size = l.length := by simp [bs, ByteArray.size]
theorem wordF_eq {w : List UInt8} {z : Nat} {lt : Bool} (h : integerV w = some (z, lt)) : wordF z lt = w := by
 have : ∀ p ∈ intsL, wordF p.2.1 p.2.2 = p.1 := by decide +kernel
 unfold integerV at h
 generalize hf : intsL.find? _ = o at h
 cases o with
 | none => cases h
 | some p =>
  have hm := List.mem_of_find?_eq_some hf
  have he : p.1 = w := eq_of_beq (List.find?_some (p := fun p : List UInt8 × Nat × Bool => p.1 == w) hf)
  have hp : p.2 = (z, lt) := by injection h
  have := this p hm
  rw [hp, he] at this
  exact this
theorem kind_tail {o p : Nat} (hY : Lys ts ((CT.tail).ft o p) p) (ht : ts.length ≤ 1000000) : KindC C R xs ts .tail o p := by
 have hmt : (ts.map tyD).length = ts.length := List.length_map _
 intro before left h1 h2 h3
 have hlen := hY.len
 have hc : ts[p]? = some (tyP 4) := hY.at
 have hlen : p + 1 ≤ ts.length := hlen
 have hix : (CT.tail).ix p = (p : Int) := by show ((p + 1 - 1 : Nat) : Int) = _; rw [Nat.add_sub_cancel]
 rw [hix] at h1 ⊢
 have h3 : left + (0 + 1) ≤ 100000000 := h3
 have hv := visit_c (GF C R xs ts) p before left (by omega) (by omega) (by omega)
 show CallsM _ _ _ (PrM (GF C R xs ts) (left + 1)) _ _ (Tstr (bs w_tail)) _ _
 refine fn_ruleM (C := ⟨Tryz.prog, layF, Tryz.f108.ntmps, ΓV, 1, [], []⟩) layF_ok mixed Tryz.func108 rfl (by kernel_rfl) rfl rfl rfl ?_
 repeat' (first | refine qgs ?_ | refine eD ?_ ?_ <;> intro)
 refine sC (CallsM.ren (hv) [0] 1 rfl rfl rfl rfl) ?_
 repeat' (first | refine (ex_rowF p _ [di 4, di 0, db false, ds (bs []), intsD [], di (-1), di (-1), .sl 2 []] rfl hc rfl) ?_ | refine (ex_is _ hmt) ?_ | refine qg1 ?_ | refine eD ?_ ?_ <;> intro)
 exact ⟨rfl, TLe.rfl, rfl, rfl⟩
theorem kind_none {o p : Nat} (hY : Lys ts ((CT.none).ft o p) p) (ht : ts.length ≤ 1000000) : KindC C R xs ts .none o p := by
 have hmt : (ts.map tyD).length = ts.length := List.length_map _
 intro before left h1 h2 h3
 have hlen := hY.len
 have hc : ts[p]? = some (tyP 11) := hY.at
 have hlen : p + 1 ≤ ts.length := hlen
 have hix : (CT.none).ix p = (p : Int) := by show ((p + 1 - 1 : Nat) : Int) = _; rw [Nat.add_sub_cancel]
 rw [hix] at h1 ⊢
 have h3 : left + (0 + 1) ≤ 100000000 := h3
 have hv := visit_c (GF C R xs ts) p before left (by omega) (by omega) (by omega)
 show CallsM _ _ _ (PrM (GF C R xs ts) (left + 1)) _ _ (Tstr (bs w_none)) _ _
 refine fn_ruleM (C := ⟨Tryz.prog, layF, Tryz.f108.ntmps, ΓV, 1, [], []⟩) layF_ok mixed Tryz.func108 rfl (by kernel_rfl) rfl rfl rfl ?_
 repeat' (first | refine qgs ?_ | refine eD ?_ ?_ <;> intro)
 refine sC (CallsM.ren (hv) [0] 1 rfl rfl rfl rfl) ?_
 repeat' (first | refine (ex_rowF p _ [di 11, di 0, db false, ds (bs []), intsD [], di (-1), di (-1), .sl 2 []] rfl hc rfl) ?_ | refine (ex_is _ hmt) ?_ | refine qg1 ?_ | refine eD ?_ ?_ <;> intro)
 exact ⟨rfl, TLe.rfl, rfl, rfl⟩
theorem kind_int {w : List UInt8} {o p : Nat} (hw : integerV w ≠ none) (hY : Lys ts ((CT.int w).ft o p) p) (ht : ts.length ≤ 1000000) : KindC C R xs ts (.int w) o p := by
 have hmt : (ts.map tyD).length = ts.length := List.length_map _
 intro before left h1 h2 h3
 have hlen := hY.len
 obtain ⟨⟨z, lt⟩, hz⟩ : ∃ q, integerV w = some q := Option.ne_none_iff_exists'.1 hw
 have hc : ts[p]? = some { tyP 0 with size := z, little := lt } := by
  have := hY.at
  rw [hz] at this
  exact this
 have hz9 : z ≤ 8 := by
  have : ∀ p ∈ intsL, p.2.1 ≤ 8 := by decide +kernel
  unfold integerV at hz
  generalize hf : intsL.find? _ = q at hz
  cases q with
  | none => cases hz
  | some q =>
   have hp : q.2 = (z, lt) := by injection hz
   have := this q (List.mem_of_find?_eq_some hf)
   rw [hp] at this
   exact this
 have hlen : p + 1 ≤ ts.length := hlen
 have hix : (CT.int w).ix p = (p : Int) := by show ((p + 1 - 1 : Nat) : Int) = _; rw [Nat.add_sub_cancel]
 rw [hix] at h1 ⊢
 have h3 : left + (0 + 1) ≤ 100000000 := h3
 have hv := visit_c (GF C R xs ts) p before left (by omega) (by omega) (by omega)
 have hwd := (word_c z lt).zV
 rw [wordF_eq hz] at hwd
 show CallsM _ _ _ (PrM (GF C R xs ts) (left + 1)) _ _ (Tstr (bs w)) _ _
 refine fn_ruleM (C := ⟨Tryz.prog, layF, Tryz.f108.ntmps, ΓV, 1, [], []⟩) layF_ok mixed Tryz.func108 rfl (by kernel_rfl) rfl rfl rfl ?_
 repeat' (first | refine qgs ?_ | refine eD ?_ ?_ <;> intro)
 refine sC (CallsM.ren (hv) [0] 1 rfl rfl rfl rfl) ?_
 repeat' (first | refine ex_call hwd ?_ | refine (ex_rowF p _ [di 0, di z, db lt, ds (bs []), intsD [], di (-1), di (-1), .sl 2 []] rfl hc rfl) ?_ | refine (ex_is _ hmt) ?_ | refine qg1 ?_ | refine eD ?_ ?_ <;> intro)
 exact ⟨rfl, TLe.rfl, rfl, rfl⟩
set_option maxHeartbeats 2000000 in
theorem kind_bytes {e : CE} {o p : Nat} (hX : Lys xs ((CT.sized w_bytes e).fx o) o) (hY : Lys ts ((CT.sized w_bytes e).ft o p) p) (hx : xs.length ≤ 1000000) (ht : ts.length ≤ 1000000) (hn : e.nums) (hs : (CT.sized w_bytes e).norm.tx.length ≤ 1000000000) : KindC C R xs ts (.sized w_bytes e) o p := by
 have hmt : (ts.map tyD).length = ts.length := List.length_map _
 intro before left h1 h2 h3
 have hlen := hY.len
 have hc : ts[p]? = some { tyP 1 with ex := e.ix o, inn := -1 } := hY.at
 have hlen : p + 1 ≤ ts.length := hlen
 have hix : (CT.sized w_bytes e).ix p = (p : Int) := by show ((p + 1 - 1 : Nat) : Int) = _; rw [Nat.add_sub_cancel]
 rw [hix] at h1 ⊢
 have h3 : left + (e.sz + 1) ≤ 100000000 := h3
 have hv := visit_c (GF C R xs ts) p before (left + e.sz) (by omega) (by omega) (by omega)
 have hs' : (w_bytes ++ 91 :: (e.norm.tx ++ [93])).length ≤ 1000000000 := hs
 simp only [List.length_append, List.length_cons, List.length_nil] at hs'
 have ha := any_c (C := C) (R := R) (ts := ts) hx hX hn (by omega) left (by omega)
 show CallsM _ _ _ (PrM (GF C R xs ts) (left + e.sz + 1)) _ _ (Tstr (bs (w_bytes ++ 91 :: (e.norm.tx ++ [93])))) _ _
 rw [show w_bytes ++ 91 :: (e.norm.tx ++ [93]) = [98, 121, 116, 101, 115, 91] ++ e.norm.tx ++ [93] by simp, ← bs_app, ← bs_app]
 have hsz := bsz e.norm.tx
 have q1 : (bs ([98, 121, 116, 101, 115, 91])).size + (bs e.norm.tx).size ≤ 9223372036854775807 := by simp only [ByteArray.size_append, bsz, List.length_append, List.length_cons, List.length_nil]; omega
 have q2 : (bs ([98, 121, 116, 101, 115, 91]) ++ bs e.norm.tx).size + (bs [93]).size ≤ 9223372036854775807 := by simp only [ByteArray.size_append, bsz, List.length_append, List.length_cons, List.length_nil]; omega
 generalize hzz : e.ix o = z at *
 generalize left + e.sz = la at *
 refine fn_ruleM (C := ⟨Tryz.prog, layF, Tryz.f108.ntmps, ΓV, 1, [], []⟩) layF_ok mixed Tryz.func108 rfl (by kernel_rfl) rfl rfl rfl ?_
 repeat' (first | refine qgs ?_ | refine eD ?_ ?_ <;> intro)
 refine sC (CallsM.ren (hv) [0] 1 rfl rfl rfl rfl) ?_
 repeat' (first | refine (ex_rowF p _ [di 1, di 0, db false, ds (bs []), intsD [], di z, di (-1), .sl 2 []] rfl hc rfl) ?_ | refine (ex_is _ hmt) ?_ | refine qg1 ?_ | refine eD ?_ ?_ <;> intro)
 refine sC (CallsM.ren (ha) [0] 2 rfl rfl rfl rfl) ?_
 repeat' (first | refine qgs ?_ | refine eD ?_ ?_ <;> intro)
 exact ⟨rfl, TLe.rfl, rfl, rfl⟩
set_option maxHeartbeats 2000000 in
theorem kind_zero {e : CE} {o p : Nat} (hX : Lys xs ((CT.sized w_zero e).fx o) o) (hY : Lys ts ((CT.sized w_zero e).ft o p) p) (hx : xs.length ≤ 1000000) (ht : ts.length ≤ 1000000) (hn : e.nums) (hs : (CT.sized w_zero e).norm.tx.length ≤ 1000000000) : KindC C R xs ts (.sized w_zero e) o p := by
 have hmt : (ts.map tyD).length = ts.length := List.length_map _
 intro before left h1 h2 h3
 have hlen := hY.len
 have hc : ts[p]? = some { tyP 2 with ex := e.ix o, inn := -1 } := hY.at
 have hlen : p + 1 ≤ ts.length := hlen
 have hix : (CT.sized w_zero e).ix p = (p : Int) := by show ((p + 1 - 1 : Nat) : Int) = _; rw [Nat.add_sub_cancel]
 rw [hix] at h1 ⊢
 have h3 : left + (e.sz + 1) ≤ 100000000 := h3
 have hv := visit_c (GF C R xs ts) p before (left + e.sz) (by omega) (by omega) (by omega)
 have hs' : (w_zero ++ 91 :: (e.norm.tx ++ [93])).length ≤ 1000000000 := hs
 simp only [List.length_append, List.length_cons, List.length_nil] at hs'
 have ha := any_c (C := C) (R := R) (ts := ts) hx hX hn (by omega) left (by omega)
 show CallsM _ _ _ (PrM (GF C R xs ts) (left + e.sz + 1)) _ _ (Tstr (bs (w_zero ++ 91 :: (e.norm.tx ++ [93])))) _ _
 rw [show w_zero ++ 91 :: (e.norm.tx ++ [93]) = [122, 101, 114, 111, 91] ++ e.norm.tx ++ [93] by simp, ← bs_app, ← bs_app]
 have hsz := bsz e.norm.tx
 have q1 : (bs ([122, 101, 114, 111, 91])).size + (bs e.norm.tx).size ≤ 9223372036854775807 := by simp only [ByteArray.size_append, bsz, List.length_append, List.length_cons, List.length_nil]; omega
 have q2 : (bs ([122, 101, 114, 111, 91]) ++ bs e.norm.tx).size + (bs [93]).size ≤ 9223372036854775807 := by simp only [ByteArray.size_append, bsz, List.length_append, List.length_cons, List.length_nil]; omega
 generalize hzz : e.ix o = z at *
 generalize left + e.sz = la at *
 refine fn_ruleM (C := ⟨Tryz.prog, layF, Tryz.f108.ntmps, ΓV, 1, [], []⟩) layF_ok mixed Tryz.func108 rfl (by kernel_rfl) rfl rfl rfl ?_
 repeat' (first | refine qgs ?_ | refine eD ?_ ?_ <;> intro)
 refine sC (CallsM.ren (hv) [0] 1 rfl rfl rfl rfl) ?_
 repeat' (first | refine (ex_rowF p _ [di 2, di 0, db false, ds (bs []), intsD [], di z, di (-1), .sl 2 []] rfl hc rfl) ?_ | refine (ex_is _ hmt) ?_ | refine qg1 ?_ | refine eD ?_ ?_ <;> intro)
 refine sC (CallsM.ren (ha) [0] 2 rfl rfl rfl rfl) ?_
 repeat' (first | refine qgs ?_ | refine eD ?_ ?_ <;> intro)
 exact ⟨rfl, TLe.rfl, rfl, rfl⟩
set_option maxHeartbeats 2000000 in
theorem kind_skip {e : CE} {o p : Nat} (hX : Lys xs ((CT.sized w_skip e).fx o) o) (hY : Lys ts ((CT.sized w_skip e).ft o p) p) (hx : xs.length ≤ 1000000) (ht : ts.length ≤ 1000000) (hn : e.nums) (hs : (CT.sized w_skip e).norm.tx.length ≤ 1000000000) : KindC C R xs ts (.sized w_skip e) o p := by
 have hmt : (ts.map tyD).length = ts.length := List.length_map _
 intro before left h1 h2 h3
 have hlen := hY.len
 have hc : ts[p]? = some { tyP 3 with ex := e.ix o, inn := -1 } := hY.at
 have hlen : p + 1 ≤ ts.length := hlen
 have hix : (CT.sized w_skip e).ix p = (p : Int) := by show ((p + 1 - 1 : Nat) : Int) = _; rw [Nat.add_sub_cancel]
 rw [hix] at h1 ⊢
 have h3 : left + (e.sz + 1) ≤ 100000000 := h3
 have hv := visit_c (GF C R xs ts) p before (left + e.sz) (by omega) (by omega) (by omega)
 have hs' : (w_skip ++ 91 :: (e.norm.tx ++ [93])).length ≤ 1000000000 := hs
 simp only [List.length_append, List.length_cons, List.length_nil] at hs'
 have ha := any_c (C := C) (R := R) (ts := ts) hx hX hn (by omega) left (by omega)
 show CallsM _ _ _ (PrM (GF C R xs ts) (left + e.sz + 1)) _ _ (Tstr (bs (w_skip ++ 91 :: (e.norm.tx ++ [93])))) _ _
 rw [show w_skip ++ 91 :: (e.norm.tx ++ [93]) = [115, 107, 105, 112, 91] ++ e.norm.tx ++ [93] by simp, ← bs_app, ← bs_app]
 have hsz := bsz e.norm.tx
 have q1 : (bs ([115, 107, 105, 112, 91])).size + (bs e.norm.tx).size ≤ 9223372036854775807 := by simp only [ByteArray.size_append, bsz, List.length_append, List.length_cons, List.length_nil]; omega
 have q2 : (bs ([115, 107, 105, 112, 91]) ++ bs e.norm.tx).size + (bs [93]).size ≤ 9223372036854775807 := by simp only [ByteArray.size_append, bsz, List.length_append, List.length_cons, List.length_nil]; omega
 generalize hzz : e.ix o = z at *
 generalize left + e.sz = la at *
 refine fn_ruleM (C := ⟨Tryz.prog, layF, Tryz.f108.ntmps, ΓV, 1, [], []⟩) layF_ok mixed Tryz.func108 rfl (by kernel_rfl) rfl rfl rfl ?_
 repeat' (first | refine qgs ?_ | refine eD ?_ ?_ <;> intro)
 refine sC (CallsM.ren (hv) [0] 1 rfl rfl rfl rfl) ?_
 repeat' (first | refine (ex_rowF p _ [di 3, di 0, db false, ds (bs []), intsD [], di z, di (-1), .sl 2 []] rfl hc rfl) ?_ | refine (ex_is _ hmt) ?_ | refine qg1 ?_ | refine eD ?_ ?_ <;> intro)
 refine sC (CallsM.ren (ha) [0] 2 rfl rfl rfl rfl) ?_
 repeat' (first | refine qgs ?_ | refine eD ?_ ?_ <;> intro)
 exact ⟨rfl, TLe.rfl, rfl, rfl⟩
set_option maxHeartbeats 2000000 in
theorem kind_window {e : CE} {c : CT} {o p : Nat} (hX : Lys xs ((CT.over w_window e c).fx o) o) (hY : Lys ts ((CT.over w_window e c).ft o p) p) (hx : xs.length ≤ 1000000) (ht : ts.length ≤ 1000000) (hn : e.nums) (hs : (CT.over w_window e c).norm.tx.length ≤ 1000000000) (ih : KindC C R xs ts c (o + e.sz) p) : KindC C R xs ts (.over w_window e c) o p := by
 have hmt : (ts.map tyD).length = ts.length := List.length_map _
 intro before left h1 h2 h3
 have hlen := hY.len
 have hc := Lys.last (a := c.ft (o + e.sz) p) hY
 rw [c.ft_len] at hc
 have hc : ts[p + c.st]? = some { tyP 7 with ex := e.ix o, inn := c.ix p } := hc
 have hlen : p + ((CT.over w_window e c).ft o p).length ≤ ts.length := hlen
 rw [CT.ft_len] at hlen
 have hlen : p + (c.st + 1) ≤ ts.length := hlen
 have hpos := c.st_pos
 obtain ⟨i, hi⟩ : ∃ i, p + c.st = i := ⟨_, rfl⟩
 have hix : (CT.over w_window e c).ix p = (i : Int) := by show ((p + (c.st + 1) - 1 : Nat) : Int) = _; rw [← hi]; rfl
 have hic : 0 ≤ c.ix p ∧ c.ix p < i := ⟨by unfold CT.ix; omega, by show ((p + c.st - 1 : Nat) : Int) < _; omega⟩
 rw [hix] at h1 ⊢
 rw [hi] at hc
 have h3 : left + (e.sz + c.sx + (c.st + 1)) ≤ 100000000 := h3
 have hv := visit_c (GF C R xs ts) i before (left + (c.sx + c.st) + e.sz) (by omega) (by omega) (by omega)
 have hs' : (w_window ++ 91 :: (e.norm.tx ++ 93 :: 32 :: c.norm.tx)).length ≤ 1000000000 := hs
 simp only [List.length_append, List.length_cons, List.length_nil] at hs'
 have ha := any_c (C := C) (R := R) (ts := ts) hx hX.left hn (by omega) (left + (c.sx + c.st)) (by omega)
 have hk := ih i left hic.2 (by omega) (by omega)
 show CallsM _ _ _ (PrM (GF C R xs ts) (left + (e.sz + c.sx + (c.st + 1)))) _ _ (Tstr (bs (w_window ++ 91 :: (e.norm.tx ++ 93 :: 32 :: c.norm.tx)))) _ _
 rw [show left + (e.sz + c.sx + (c.st + 1)) = left + (c.sx + c.st) + e.sz + 1 by omega]
 rw [show w_window ++ 91 :: (e.norm.tx ++ 93 :: 32 :: c.norm.tx) = [119, 105, 110, 100, 111, 119, 91] ++ e.norm.tx ++ [93, 32] ++ c.norm.tx by simp, ← bs_app, ← bs_app, ← bs_app]
 have hsz := bsz e.norm.tx
 have hsc := bsz c.norm.tx
 have q1 : (bs ([119, 105, 110, 100, 111, 119, 91])).size + (bs e.norm.tx).size ≤ 9223372036854775807 := by simp only [ByteArray.size_append, bsz, List.length_append, List.length_cons, List.length_nil]; omega
 have q2 : (bs ([119, 105, 110, 100, 111, 119, 91]) ++ bs e.norm.tx).size + (bs [93, 32]).size ≤ 9223372036854775807 := by simp only [ByteArray.size_append, bsz, List.length_append, List.length_cons, List.length_nil]; omega
 have q3 : (bs ([119, 105, 110, 100, 111, 119, 91]) ++ bs e.norm.tx ++ bs [93, 32]).size + (bs c.norm.tx).size ≤ 9223372036854775807 := by simp only [ByteArray.size_append, bsz, List.length_append, List.length_cons, List.length_nil]; omega
 generalize hzz : e.ix o = z at *
 generalize c.ix p = y at *
 generalize left + (c.sx + c.st) = la at *
 clear ih
 refine fn_ruleM (C := ⟨Tryz.prog, layF, Tryz.f108.ntmps, ΓV, 1, [], []⟩) layF_ok mixed Tryz.func108 rfl (by kernel_rfl) rfl rfl rfl ?_
 repeat' (first | refine qgs ?_ | refine eD ?_ ?_ <;> intro)
 refine sC (CallsM.ren (hv) [0] 1 rfl rfl rfl rfl) ?_
 repeat' (first | refine (ex_rowF i _ [di 7, di 0, db false, ds (bs []), intsD [], di z, di y, .sl 2 []] rfl hc rfl) ?_ | refine (ex_is _ hmt) ?_ | refine qg1 ?_ | refine eD ?_ ?_ <;> intro)
 refine sC (CallsM.ren (ha) [0] 2 rfl rfl rfl rfl) ?_
 repeat' (first | refine qgs ?_ | refine eD ?_ ?_ <;> intro)
 refine sC (CallsM.ren (hk) [0] 2 rfl rfl rfl rfl) ?_
 repeat' (first | refine qgs ?_ | refine eD ?_ ?_ <;> intro)
 exact ⟨rfl, TLe.rfl, rfl, rfl⟩
set_option maxHeartbeats 2000000 in
theorem kind_at {e : CE} {c : CT} {o p : Nat} (hX : Lys xs ((CT.over w_at e c).fx o) o) (hY : Lys ts ((CT.over w_at e c).ft o p) p) (hx : xs.length ≤ 1000000) (ht : ts.length ≤ 1000000) (hn : e.nums) (hs : (CT.over w_at e c).norm.tx.length ≤ 1000000000) (ih : KindC C R xs ts c (o + e.sz) p) : KindC C R xs ts (.over w_at e c) o p := by
 have hmt : (ts.map tyD).length = ts.length := List.length_map _
 intro before left h1 h2 h3
 have hlen := hY.len
 have hc := Lys.last (a := c.ft (o + e.sz) p) hY
 rw [c.ft_len] at hc
 have hc : ts[p + c.st]? = some { tyP 8 with ex := e.ix o, inn := c.ix p } := hc
 have hlen : p + ((CT.over w_at e c).ft o p).length ≤ ts.length := hlen
 rw [CT.ft_len] at hlen
 have hlen : p + (c.st + 1) ≤ ts.length := hlen
 have hpos := c.st_pos
 obtain ⟨i, hi⟩ : ∃ i, p + c.st = i := ⟨_, rfl⟩
 have hix : (CT.over w_at e c).ix p = (i : Int) := by show ((p + (c.st + 1) - 1 : Nat) : Int) = _; rw [← hi]; rfl
 have hic : 0 ≤ c.ix p ∧ c.ix p < i := ⟨by unfold CT.ix; omega, by show ((p + c.st - 1 : Nat) : Int) < _; omega⟩
 rw [hix] at h1 ⊢
 rw [hi] at hc
 have h3 : left + (e.sz + c.sx + (c.st + 1)) ≤ 100000000 := h3
 have hv := visit_c (GF C R xs ts) i before (left + (c.sx + c.st) + e.sz) (by omega) (by omega) (by omega)
 have hs' : (w_at ++ 91 :: (e.norm.tx ++ 93 :: 32 :: c.norm.tx)).length ≤ 1000000000 := hs
 simp only [List.length_append, List.length_cons, List.length_nil] at hs'
 have ha := any_c (C := C) (R := R) (ts := ts) hx hX.left hn (by omega) (left + (c.sx + c.st)) (by omega)
 have hk := ih i left hic.2 (by omega) (by omega)
 show CallsM _ _ _ (PrM (GF C R xs ts) (left + (e.sz + c.sx + (c.st + 1)))) _ _ (Tstr (bs (w_at ++ 91 :: (e.norm.tx ++ 93 :: 32 :: c.norm.tx)))) _ _
 rw [show left + (e.sz + c.sx + (c.st + 1)) = left + (c.sx + c.st) + e.sz + 1 by omega]
 rw [show w_at ++ 91 :: (e.norm.tx ++ 93 :: 32 :: c.norm.tx) = [97, 116, 91] ++ e.norm.tx ++ [93, 32] ++ c.norm.tx by simp, ← bs_app, ← bs_app, ← bs_app]
 have hsz := bsz e.norm.tx
 have hsc := bsz c.norm.tx
 have q1 : (bs ([97, 116, 91])).size + (bs e.norm.tx).size ≤ 9223372036854775807 := by simp only [ByteArray.size_append, bsz, List.length_append, List.length_cons, List.length_nil]; omega
 have q2 : (bs ([97, 116, 91]) ++ bs e.norm.tx).size + (bs [93, 32]).size ≤ 9223372036854775807 := by simp only [ByteArray.size_append, bsz, List.length_append, List.length_cons, List.length_nil]; omega
 have q3 : (bs ([97, 116, 91]) ++ bs e.norm.tx ++ bs [93, 32]).size + (bs c.norm.tx).size ≤ 9223372036854775807 := by simp only [ByteArray.size_append, bsz, List.length_append, List.length_cons, List.length_nil]; omega
 generalize hzz : e.ix o = z at *
 generalize c.ix p = y at *
 generalize left + (c.sx + c.st) = la at *
 clear ih
 refine fn_ruleM (C := ⟨Tryz.prog, layF, Tryz.f108.ntmps, ΓV, 1, [], []⟩) layF_ok mixed Tryz.func108 rfl (by kernel_rfl) rfl rfl rfl ?_
 repeat' (first | refine qgs ?_ | refine eD ?_ ?_ <;> intro)
 refine sC (CallsM.ren (hv) [0] 1 rfl rfl rfl rfl) ?_
 repeat' (first | refine (ex_rowF i _ [di 8, di 0, db false, ds (bs []), intsD [], di z, di y, .sl 2 []] rfl hc rfl) ?_ | refine (ex_is _ hmt) ?_ | refine qg1 ?_ | refine eD ?_ ?_ <;> intro)
 refine sC (CallsM.ren (ha) [0] 2 rfl rfl rfl rfl) ?_
 repeat' (first | refine qgs ?_ | refine eD ?_ ?_ <;> intro)
 refine sC (CallsM.ren (hk) [0] 2 rfl rfl rfl rfl) ?_
 repeat' (first | refine qgs ?_ | refine eD ?_ ?_ <;> intro)
 exact ⟨rfl, TLe.rfl, rfl, rfl⟩
set_option maxHeartbeats 2000000 in
theorem kind_rest {c : CT} {o p : Nat} (hY : Lys ts ((CT.rest c).ft o p) p) (ht : ts.length ≤ 1000000) (hs : (CT.rest c).norm.tx.length ≤ 1000000000) (ih : KindC C R xs ts c o p) : KindC C R xs ts (.rest c) o p := by
 have hmt : (ts.map tyD).length = ts.length := List.length_map _
 intro before left h1 h2 h3
 have hlen := hY.len
 have hc := Lys.last (a := c.ft o p) hY
 rw [c.ft_len] at hc
 have hc : ts[p + c.st]? = some { tyP 6 with inn := c.ix p } := hc
 have hlen : p + ((CT.rest c).ft o p).length ≤ ts.length := hlen
 rw [CT.ft_len] at hlen
 have hlen : p + (c.st + 1) ≤ ts.length := hlen
 have hpos := c.st_pos
 obtain ⟨i, hi⟩ : ∃ i, p + c.st = i := ⟨_, rfl⟩
 have hix : (CT.rest c).ix p = (i : Int) := by show ((p + (c.st + 1) - 1 : Nat) : Int) = _; rw [← hi]; rfl
 have hic : 0 ≤ c.ix p ∧ c.ix p < i := ⟨by unfold CT.ix; omega, by show ((p + c.st - 1 : Nat) : Int) < _; omega⟩
 rw [hix] at h1 ⊢
 rw [hi] at hc
 have h3 : left + (c.sx + (c.st + 1)) ≤ 100000000 := h3
 have hv := visit_c (GF C R xs ts) i before (left + (c.sx + c.st)) (by omega) (by omega) (by omega)
 have hs' : (w_rest ++ 32 :: c.norm.tx).length ≤ 1000000000 := hs
 simp only [List.length_append, List.length_cons, List.length_nil] at hs'
 have hk := ih i left hic.2 (by omega) (by omega)
 show CallsM _ _ _ (PrM (GF C R xs ts) (left + (c.sx + c.st) + 1)) _ _ (Tstr (bs (w_rest ++ 32 :: c.norm.tx))) _ _
 rw [show w_rest ++ 32 :: c.norm.tx = [114, 101, 115, 116, 32] ++ c.norm.tx by simp, ← bs_app]
 have hsc := bsz c.norm.tx
 have q1 : (bs ([114, 101, 115, 116, 32])).size + (bs c.norm.tx).size ≤ 9223372036854775807 := by simp only [ByteArray.size_append, bsz, List.length_append, List.length_cons, List.length_nil]; omega
 generalize c.ix p = y at *
 generalize left + (c.sx + c.st) = la at *
 clear ih
 refine fn_ruleM (C := ⟨Tryz.prog, layF, Tryz.f108.ntmps, ΓV, 1, [], []⟩) layF_ok mixed Tryz.func108 rfl (by kernel_rfl) rfl rfl rfl ?_
 repeat' (first | refine qgs ?_ | refine eD ?_ ?_ <;> intro)
 refine sC (CallsM.ren (hv) [0] 1 rfl rfl rfl rfl) ?_
 repeat' (first | refine (ex_rowF i _ [di 6, di 0, db false, ds (bs []), intsD [], di (-1), di y, .sl 2 []] rfl hc rfl) ?_ | refine (ex_is _ hmt) ?_ | refine qg1 ?_ | refine eD ?_ ?_ <;> intro)
 refine sC (CallsM.ren (hk) [0] 2 rfl rfl rfl rfl) ?_
 repeat' (first | refine qgs ?_ | refine eD ?_ ?_ <;> intro)
 exact ⟨rfl, TLe.rfl, rfl, rfl⟩
set_option maxHeartbeats 2000000 in
theorem kind_arr {c : CT} {e : CE} {o p : Nat} (hX : Lys xs ((CT.arr c e).fx o) o) (hY : Lys ts ((CT.arr c e).ft o p) p) (hx : xs.length ≤ 1000000) (ht : ts.length ≤ 1000000) (hn : e.nums) (hs : (CT.arr c e).norm.tx.length ≤ 1000000000) (ih : KindC C R xs ts c o p) : KindC C R xs ts (.arr c e) o p := by
 have hmt : (ts.map tyD).length = ts.length := List.length_map _
 intro before left h1 h2 h3
 have hlen := hY.len
 have hc := Lys.last (a := c.ft o p) hY
 rw [c.ft_len] at hc
 have hc : ts[p + c.st]? = some { tyP 5 with ex := e.ix (o + c.sx), inn := c.ix p } := hc
 have hlen : p + ((CT.arr c e).ft o p).length ≤ ts.length := hlen
 rw [CT.ft_len] at hlen
 have hlen : p + (c.st + 1) ≤ ts.length := hlen
 have hpos := c.st_pos
 obtain ⟨i, hi⟩ : ∃ i, p + c.st = i := ⟨_, rfl⟩
 have hix : (CT.arr c e).ix p = (i : Int) := by show ((p + (c.st + 1) - 1 : Nat) : Int) = _; rw [← hi]; rfl
 have hic : 0 ≤ c.ix p ∧ c.ix p < i := ⟨by unfold CT.ix; omega, by show ((p + c.st - 1 : Nat) : Int) < _; omega⟩
 rw [hix] at h1 ⊢
 rw [hi] at hc
 have h3 : left + (c.sx + e.sz + (c.st + 1)) ≤ 100000000 := h3
 have hv := visit_c (GF C R xs ts) i before (left + e.sz + (c.sx + c.st)) (by omega) (by omega) (by omega)
 have hs' : (c.norm.tx ++ 91 :: (e.norm.tx ++ [93])).length ≤ 1000000000 := hs
 simp only [List.length_append, List.length_cons, List.length_nil] at hs'
 have hXr := hX.right
 rw [c.fx_len] at hXr
 have ha := any_c (C := C) (R := R) (ts := ts) hx hXr hn (by omega) left (by omega)
 have hk := ih i (left + e.sz) hic.2 (by omega) (by omega)
 show CallsM _ _ _ (PrM (GF C R xs ts) (left + (c.sx + e.sz + (c.st + 1)))) _ _ (Tstr (bs (c.norm.tx ++ 91 :: (e.norm.tx ++ [93])))) _ _
 rw [show left + (c.sx + e.sz + (c.st + 1)) = left + e.sz + (c.sx + c.st) + 1 by omega]
 rw [show c.norm.tx ++ 91 :: (e.norm.tx ++ [93]) = c.norm.tx ++ [91] ++ e.norm.tx ++ [93] by simp, ← bs_app, ← bs_app, ← bs_app]
 have hsz := bsz e.norm.tx
 have hsc := bsz c.norm.tx
 have q1 : (bs c.norm.tx).size + (bs [91]).size ≤ 9223372036854775807 := by simp only [ByteArray.size_append, bsz, List.length_append, List.length_cons, List.length_nil]; omega
 have q2 : (bs c.norm.tx ++ bs [91]).size + (bs e.norm.tx).size ≤ 9223372036854775807 := by simp only [ByteArray.size_append, bsz, List.length_append, List.length_cons, List.length_nil]; omega
 have q3 : (bs c.norm.tx ++ bs [91] ++ bs e.norm.tx).size + (bs [93]).size ≤ 9223372036854775807 := by simp only [ByteArray.size_append, bsz, List.length_append, List.length_cons, List.length_nil]; omega
 generalize hzz : e.ix (o + c.sx) = z at *
 generalize c.ix p = y at *
 generalize left + e.sz = la at *
 clear ih
 refine fn_ruleM (C := ⟨Tryz.prog, layF, Tryz.f108.ntmps, ΓV, 1, [], []⟩) layF_ok mixed Tryz.func108 rfl (by kernel_rfl) rfl rfl rfl ?_
 repeat' (first | refine qgs ?_ | refine eD ?_ ?_ <;> intro)
 refine sC (CallsM.ren (hv) [0] 1 rfl rfl rfl rfl) ?_
 repeat' (first | refine (ex_rowF i _ [di 5, di 0, db false, ds (bs []), intsD [], di z, di y, .sl 2 []] rfl hc rfl) ?_ | refine (ex_is _ hmt) ?_ | refine qg1 ?_ | refine eD ?_ ?_ <;> intro)
 refine sC (CallsM.ren (hk) [0] 2 rfl rfl rfl rfl) ?_
 repeat' (first | refine qgs ?_ | refine eD ?_ ?_ <;> intro)
 refine sC (CallsM.ren (ha) [0] 2 rfl rfl rfl rfl) ?_
 repeat' (first | refine qgs ?_ | refine eD ?_ ?_ <;> intro)
 exact ⟨rfl, TLe.rfl, rfl, rfl⟩
theorem kind_ref0 {nm : List UInt8} {o p : Nat} (hY : Lys ts ((CT.ref nm []).ft o p) p) (ht : ts.length ≤ 1000000) : KindC C R xs ts (.ref nm []) o p := by
 have hmt : (ts.map tyD).length = ts.length := List.length_map _
 intro before left h1 h2 h3
 have hlen := hY.len
 have hc : ts[p]? = some { tyP 10 with nm := nm, args := [] } := hY.at
 have hlen : p + 1 ≤ ts.length := hlen
 have hix : (CT.ref nm []).ix p = (p : Int) := by show ((p + 1 - 1 : Nat) : Int) = _; rw [Nat.add_sub_cancel]
 rw [hix] at h1 ⊢
 have h3 : left + (0 + 1) ≤ 100000000 := h3
 have hv := visit_c (GF C R xs ts) p before left (by omega) (by omega) (by omega)
 show CallsM _ _ _ (PrM (GF C R xs ts) (left + 1)) _ _ (Tstr (bs (nm ++ []))) _ _
 rw [List.append_nil]
 have hkm : (([] : List Int).map fun k => [di k]).length = 0 := rfl
 refine fn_ruleM (C := ⟨Tryz.prog, layF, Tryz.f108.ntmps, ΓV, 1, [], []⟩) layF_ok mixed Tryz.func108 rfl (by kernel_rfl) rfl rfl rfl ?_
 repeat' (first | refine qgs ?_ | refine eD ?_ ?_ <;> intro)
 refine sC (CallsM.ren (hv) [0] 1 rfl rfl rfl rfl) ?_
 repeat' (first | refine (ex_rowF p _ [di 10, di 0, db false, ds (bs nm), intsD [], di (-1), di (-1), .sl 2 []] rfl hc rfl) ?_ | refine (ex_is _ hkm) ?_ | refine (ex_is _ hmt) ?_ | refine qg1 ?_ | refine eD ?_ ?_ <;> intro)
 exact ⟨rfl, TLe.rfl, rfl, rfl⟩
set_option maxHeartbeats 2000000 in
theorem kind_refN {nm : List UInt8} {c : CE} {l : List CE} {o p : Nat} (hX : Lys xs ((CT.ref nm (c :: l)).fx o) o) (hY : Lys ts ((CT.ref nm (c :: l)).ft o p) p) (hx : xs.length ≤ 1000000) (ht : ts.length ≤ 1000000) (hn : ∀ e ∈ c :: l, e.nums) (hl : (c :: l).length ≤ 64) (hs : (CT.ref nm (c :: l)).norm.tx.length ≤ 1000000000) : KindC C R xs ts (.ref nm (c :: l)) o p := by
 have hmt : (ts.map tyD).length = ts.length := List.length_map _
 intro before left h1 h2 h3
 have hlen := hY.len
 have hc : ts[p]? = some { tyP 10 with nm := nm, args := ixL (c :: l) o } := hY.at
 have hlen : p + 1 ≤ ts.length := hlen
 have hix : (CT.ref nm (c :: l)).ix p = (p : Int) := by show ((p + 1 - 1 : Nat) : Int) = _; rw [Nat.add_sub_cancel]
 rw [hix] at h1 ⊢
 have h3 : left + (szCs (c :: l) + 1) ≤ 100000000 := h3
 have hv := visit_c (GF C R xs ts) p before (left + szCs (c :: l)) (by omega) (by omega) (by omega)
 have hs' : (nm ++ 40 :: (c.norm.tx ++ (argX (l.map CE.norm) ++ [41]))).length ≤ 1000000000 := hs
 simp only [List.length_append, List.length_cons, List.length_nil] at hs'
 have ha := list_c (C := C) (R := R) (ts := ts) hx hX hn (by rw [List.length_append]; omega) hl left (by omega)
 show CallsM _ _ _ (PrM (GF C R xs ts) (left + szCs (c :: l) + 1)) _ _ (Tstr (bs (nm ++ 40 :: (c.norm.tx ++ (argX (l.map CE.norm) ++ [41]))))) _ _
 rw [show nm ++ 40 :: (c.norm.tx ++ (argX (l.map CE.norm) ++ [41])) = nm ++ [40] ++ (c.norm.tx ++ argX (l.map CE.norm)) ++ [41] by simp, ← bs_app, ← bs_app, ← bs_app]
 obtain ⟨tx, htx⟩ : ∃ tx, c.norm.tx ++ argX (l.map CE.norm) = tx := ⟨_, rfl⟩
 have htl : c.norm.tx.length + (argX (l.map CE.norm)).length = tx.length := by rw [← htx, List.length_append]
 rw [htx] at ha ⊢
 have hsz := bsz tx
 have hsn := bsz nm
 have q1 : (bs nm).size + (bs [40]).size ≤ 9223372036854775807 := by simp only [ByteArray.size_append, bsz, List.length_append, List.length_cons, List.length_nil]; omega
 have q2 : (bs nm ++ bs [40]).size + (bs tx).size ≤ 9223372036854775807 := by simp only [ByteArray.size_append, bsz, List.length_append, List.length_cons, List.length_nil]; omega
 have q3 : (bs nm ++ bs [40] ++ bs tx).size + (bs [41]).size ≤ 9223372036854775807 := by simp only [ByteArray.size_append, bsz, List.length_append, List.length_cons, List.length_nil]; omega
 have hkm : ((ixL (c :: l) o).map fun k => [di k]).length = (c :: l).length := by rw [List.length_map, ixL_len]
 have hk1 : 1 ≤ (c :: l).length := by rw [List.length_cons]; omega
 generalize c :: l = zs at *
 generalize ixL zs o = is at *
 generalize left + szCs zs = la at *
 refine fn_ruleM (C := ⟨Tryz.prog, layF, Tryz.f108.ntmps, ΓV, 1, [], []⟩) layF_ok mixed Tryz.func108 rfl (by kernel_rfl) rfl rfl rfl ?_
 repeat' (first | refine qgs ?_ | refine eD ?_ ?_ <;> intro)
 refine sC (CallsM.ren (hv) [0] 1 rfl rfl rfl rfl) ?_
 repeat' (first | refine (ex_rowF p _ [di 10, di 0, db false, ds (bs nm), intsD is, di (-1), di (-1), .sl 2 []] rfl hc rfl) ?_ | refine (ex_is _ hkm) ?_ | refine (ex_is _ hmt) ?_ | refine qg1 ?_ | refine eD ?_ ?_ <;> intro)
 refine sC (CallsM.ren (ha) [0] 2 rfl rfl rfl rfl) ?_
 repeat' (first | refine qgs ?_ | refine eD ?_ ?_ <;> intro)
 exact ⟨rfl, TLe.rfl, rfl, rfl⟩
end
end Go.Proofs.YtidnlfkakhmadaaGreatDoor

namespace Go.Proofs.YtidnlfkakhmadaaGreatDoor
open Go.RowKit

section
variable {C R : D} {xs : List EX} {ts : List TY}
def KAll (C R : D) (xs : List EX) (ts : List TY) : CS → Nat → Nat → Prop
 | .fin, _, _ => True
 | .els i, o, p => KindC C R xs ts i o p
 | .case _ _ i r, o, p => KindC C R xs ts i o p ∧ KAll C R xs ts r (o + i.sx) (p + i.st)
theorem inn_ge : ∀ (c : CS) (p : Nat), -1 ≤ c.inn p ∧ c.inn p ≤ p + c.st
 | .fin, p => ⟨Int.le_refl _, by show (-1 : Int) ≤ _; omega⟩
 | .els i, p => ⟨by show (-1 : Int) ≤ i.ix p; unfold CT.ix; omega, by show i.ix p ≤ ((p : Nat) : Int) + (i.st : Nat); unfold CT.ix; omega⟩
 | .case _ _ i r, p => by
  have := inn_ge r (p + i.st)
  exact ⟨this.1, by show r.inn (p + i.st) ≤ ((p : Nat) : Int) + ((i.st + r.st : Nat) : Int); omega⟩
set_option maxHeartbeats 8000000 in
theorem schoice_c (hx : xs.length ≤ 1000000) (ht : ts.length ≤ 1000000) {e : CE} {cs : CS} {o p : Nat} (hX : Lys xs (e.flat o) o) (hp : p + cs.st ≤ ts.length) (hn : e.nums) (hcn : cs.nums) (hnum : cs.num ≤ 64) (hs : (CT.switch e cs).norm.tx.length ≤ 1000000000) (hK : KAll C R xs ts cs (o + e.sz) p) (left : Nat) (h3 : left + (e.sz + (cs.sx + cs.st)) ≤ 100000000) :
  CallsM Tryz.prog ΓV 129 (PrM (GF C R xs ts) (left + (e.sz + (cs.sx + cs.st)))) 1 [.c (.ptr 0 0), gD (tyD { tyP 9 with ex := e.ix o, inn := cs.inn p, cases := cs.cases p }), c1 (di (p + cs.st : Nat))] (Tstr (bs (CT.switch e cs).norm.tx)) (PrM (GF C R xs ts) left) [] := by
 have hs' : (w_switch ++ 32 :: 40 :: (e.norm.tx ++ 41 :: 32 :: 123 :: (cs.norm.tx ++ [32, 125]))).length ≤ 1000000000 := hs
 simp only [List.length_append, List.length_cons, List.length_nil] at hs'
 have ha := any_c (C := C) (R := R) (ts := ts) hx hX hn (by omega) (left + (cs.sx + cs.st)) (by omega)
 have hcl := cs.cases_len p
 have hm : ((cs.cases p).map caD).length = cs.num := by rw [List.length_map, hcl]
 obtain ⟨T0, hT0⟩ : ∃ T, [115, 119, 105, 116, 99, 104, 32, 40] ++ e.norm.tx ++ [41, 32, 123] = T := ⟨_, rfl⟩
 have hT0l : T0.length = e.norm.tx.length + 11 := by rw [← hT0]; simp only [List.length_append, List.length_cons, List.length_nil]; omega
 have htx : (CT.switch e cs).norm.tx = T0 ++ cs.norm.tx ++ [32, 125] := by
  show w_switch ++ 32 :: 40 :: (e.norm.tx ++ 41 :: 32 :: 123 :: (cs.norm.tx ++ [32, 125])) = _
  rw [← hT0]
  simp
 rw [htx]
 have q1 : (bs [115, 119, 105, 116, 99, 104, 32, 40]).size + (bs e.norm.tx).size ≤ 9223372036854775807 := by simp only [bsz, List.length_cons, List.length_nil]; omega
 have q2 : (bs [115, 119, 105, 116, 99, 104, 32, 40] ++ bs e.norm.tx).size + (bs [41, 32, 123]).size ≤ 9223372036854775807 := by simp only [ByteArray.size_append, bsz, List.length_cons, List.length_nil]; omega
 have hT0b : bs [115, 119, 105, 116, 99, 104, 32, 40] ++ bs e.norm.tx ++ bs [41, 32, 123] = bs T0 := by rw [bs_app, bs_app, hT0]
 have hin := inn_ge cs p
 obtain ⟨E, hE⟩ : ∃ E, p + cs.st = E := ⟨_, rfl⟩
 have hin : -1 ≤ cs.inn p ∧ cs.inn p ≤ (E : Int) := ⟨hin.1, by omega⟩
 rw [hE] at hp ⊢
 obtain ⟨cases0, hc0⟩ : ∃ l, l = cs.cases p := ⟨_, rfl⟩
 obtain ⟨inn0, hi0⟩ : ∃ l, l = cs.inn p := ⟨_, rfl⟩
 rw [← hc0] at hcl hm ⊢
 rw [← hi0] at hin ⊢
 generalize hz : e.ix o = z at *
 show CallsM _ _ _ _ _ [_, gD [di 9, di 0, db false, ds (bs []), intsD [], di z, di inn0, .sl 2 (cases0.map caD)], _] _ _ _
 rw [show left + (e.sz + (cs.sx + cs.st)) = left + (cs.sx + cs.st) + e.sz by omega]
 refine fn_ruleM (C := ⟨Tryz.prog, layF, Tryz.f129.ntmps, ΓV, 1, [], []⟩) layF_ok mixed Tryz.func129 rfl (by kernel_rfl) rfl rfl rfl ?_
 repeat' (first | refine qgs ?_ | refine eD ?_ ?_ <;> intro)
 refine sC (CallsM.ren (ha) [0] 2 rfl rfl rfl rfl) ?_
 repeat' (first | refine (ex_is _ hm) ?_ | refine qg1 ?_ | refine eD ?_ ?_ <;> intro)
 refine ex_loop (X := Nat × CS × Nat × Nat × ByteArray × List UInt8 × Nat) (fun ⟨q, c, a, b, B, tx, k⟩ => ⟨[(0, .o (.c (.ptr 0 0))), (2, Ti E), (4, .o (.c (.ptr 1 0))), (7, .o (c1 (ds B))), (17, .o (c1 (.sl 2 (cases0.map caD)))), (18, Ti cs.num), (19, Ti q)], [(0, .obj [.eptr (GF C R xs ts), .d (di k), .d (db false)]), (1, .obj [.d (di 9), .d (di 0), .d (db false), .d (ds (bs [])), .d (intsD []), .d (di z), .d (di inn0), .d (.sl 2 (cases0.map caD))])], 2⟩) (fun x => cs.num - x.1)
  (fun ⟨q, c, a, b, B, tx, k⟩ => q ≤ cs.num ∧ B = bs tx ∧ cases0.drop q = c.cases b ∧ inn0 = c.inn b ∧ c.nums ∧ KAll C R xs ts c a b ∧ b + c.st = E ∧ tx ++ c.norm.tx = T0 ++ cs.norm.tx ∧ k = left + (c.sx + c.st) ∧ k ≤ 100000000) (0, cs, o + e.sz, p, bs [115, 119, 105, 116, 99, 104, 32, 40] ++ bs e.norm.tx ++ bs [41, 32, 123], T0, left + (cs.sx + cs.st)) ⟨Nat.zero_le _, hT0b, hc0, hi0, hcn, hK, hE, rfl, rfl, by omega⟩ sS ?_
 rintro ⟨q, c, a, b, B, tx, k⟩ ⟨hq, rfl, hdrop, hin2, hcn2, hK2, hE2, htx2, hk2, hk3⟩
 refine ex_dec (fun hh => ?_) (fun hh => ?_)
 ·have hql : q < cases0.length := by omega
  have hcq : cases0[q]? = some cases0[q] := at_some hql
  have hdr : cases0.drop q = cases0[q] :: cases0.drop (q + 1) := List.drop_eq_getElem_cons hql
  rw [hdr] at hdrop
  cases c with
  | fin => cases hdrop
  | els i => cases hdrop
  | case t n i r =>
   obtain ⟨hn1, hn2, hn3⟩ := hcn2
   obtain ⟨hK1, hK3⟩ := hK2
   have hE2 : b + (i.st + r.st) = E := hE2
   have hk2 : k = left + (i.sx + r.sx + (i.st + r.st)) := hk2
   have hdrop : cases0[q] :: cases0.drop (q + 1) = ⟨n, i.ix b⟩ :: r.cases (b + i.st) := hdrop
   injection hdrop with hd1 hd2
   rw [hd1] at hcq
   have htx2 : tx ++ 32 :: (w_case ++ 32 :: (Lib.decDigits n ++ 58 :: 32 :: (i.norm.tx ++ 59 :: r.norm.tx))) = T0 ++ cs.norm.tx := htx2
   have hlen2 := congrArg List.length htx2
   simp only [List.length_append, List.length_cons, List.length_nil] at hlen2
   have hip := i.st_pos
   have hix : 0 ≤ i.ix b ∧ i.ix b < E := ⟨by unfold CT.ix; omega, by show ((b + i.st - 1 : Nat) : Int) < _; omega⟩
   have hf := fmtV n hn1
   have hkk := hK1 E (left + (r.sx + r.st)) hix.2 (by omega) (by omega)
   rw [show left + (r.sx + r.st) + (i.sx + i.st) = k by omega] at hkk
   have p1 : (bs [32, 99, 97, 115, 101, 32]).size + (bs (Lib.decDigits n)).size ≤ 9223372036854775807 := by simp only [bsz, List.length_cons, List.length_nil]; omega
   have p2 : (bs [32, 99, 97, 115, 101, 32] ++ bs (Lib.decDigits n)).size + (bs [58, 32]).size ≤ 9223372036854775807 := by simp only [ByteArray.size_append, bsz, List.length_cons, List.length_nil]; omega
   have p3 : (bs [32, 99, 97, 115, 101, 32] ++ bs (Lib.decDigits n) ++ bs [58, 32]).size + (bs i.norm.tx).size ≤ 9223372036854775807 := by simp only [ByteArray.size_append, bsz, List.length_cons, List.length_nil]; omega
   have p4 : (bs [32, 99, 97, 115, 101, 32] ++ bs (Lib.decDigits n) ++ bs [58, 32] ++ bs i.norm.tx).size + (bs [59]).size ≤ 9223372036854775807 := by simp only [ByteArray.size_append, bsz, List.length_cons, List.length_nil]; omega
   have p5 : (bs tx).size + (bs [32, 99, 97, 115, 101, 32] ++ bs (Lib.decDigits n) ++ bs [58, 32] ++ bs i.norm.tx ++ bs [59]).size ≤ 9223372036854775807 := by simp only [ByteArray.size_append, bsz, List.length_cons, List.length_nil]; omega
   generalize i.ix b = y at *
   have hnew : bs tx ++ (bs [32, 99, 97, 115, 101, 32] ++ bs (Lib.decDigits n) ++ bs [58, 32] ++ bs i.norm.tx ++ bs [59]) = bs (tx ++ [32, 99, 97, 115, 101, 32] ++ Lib.decDigits n ++ [58, 32] ++ i.norm.tx ++ [59]) := by
    rw [bs_app, bs_app, bs_app, bs_app, bs_app]
    congr 1
    simp
   repeat' (first | refine ex_call hf ?_ | refine (ex_rowF q _ [du n, di y] rfl hcq rfl) ?_ | refine (ex_is _ hm) ?_ | refine qg1 ?_ | refine eD ?_ ?_ <;> intro)
   refine sC (CallsM.ren (hkk) [0] 3 rfl rfl rfl rfl) ?_
   repeat' (first | refine aI ((q + 1 : Nat) : Int) ?_ | refine aU ((q + 1 : Nat) : Int) ?_ | refine aB ((q + 1 : Nat) : Int) ?_ | refine qg1 ?_ | refine eD ?_ ?_ <;> intro)
   exact ex_round (q + 1, r, a + i.sx, b + i.st, bs tx ++ (bs [32, 99, 97, 115, 101, 32] ++ bs (Lib.decDigits n) ++ bs [58, 32] ++ bs i.norm.tx ++ bs [59]), tx ++ [32, 99, 97, 115, 101, 32] ++ Lib.decDigits n ++ [58, 32] ++ i.norm.tx ++ [59], left + (r.sx + r.st)) ⟨by omega, hnew, hd2, hin2, hn3, hK3, by omega, by rw [← htx2]; simp, rfl, by omega⟩ (by show _ - _ < _ - _; omega) sS
 ·obtain rfl : q = cs.num := by omega
  have hdn : cases0.drop cs.num = [] := by rw [← hcl]; exact List.drop_length
  rw [hdn] at hdrop
  cases c with
  | case t n i r => cases hdrop
  | fin =>
   have htx2 : tx ++ [] = T0 ++ cs.norm.tx := htx2
   rw [List.append_nil] at htx2
   have hlen2 := congrArg List.length htx2
   simp only [List.length_append] at hlen2
   obtain rfl : k = left := hk2
   obtain rfl : inn0 = -1 := hin2
   rw [← htx2, ← bs_app]
   have p1 : (bs tx).size + (bs [32, 125]).size ≤ 9223372036854775807 := by simp only [bsz, List.length_cons, List.length_nil]; omega
   repeat' (first | refine qgs ?_ | refine eD ?_ ?_ <;> intro)
   exact ⟨rfl, TLe.rfl, rfl, rfl⟩
  | els i =>
   have hK2 : KindC C R xs ts i a b := hK2
   have hin2 : inn0 = i.ix b := hin2
   have hE2 : b + i.st = E := hE2
   have hk2 : k = left + (i.sx + i.st) := hk2
   have htx2 : tx ++ 32 :: (w_else ++ 58 :: 32 :: (i.norm.tx ++ [59])) = T0 ++ cs.norm.tx := htx2
   have hlen2 := congrArg List.length htx2
   simp only [List.length_append, List.length_cons, List.length_nil] at hlen2
   have hip := i.st_pos
   have hix : 0 ≤ i.ix b ∧ i.ix b < E := ⟨by unfold CT.ix; omega, by show ((b + i.st - 1 : Nat) : Int) < _; omega⟩
   have hkk := hK2 E left hix.2 (by omega) (by omega)
   rw [← hk2, ← hin2] at hkk
   rw [← hin2] at hix
   have hgoal : bs (T0 ++ cs.norm.tx ++ [32, 125]) = bs tx ++ (bs [32, 101, 108, 115, 101, 58, 32] ++ bs i.norm.tx ++ bs [59]) ++ bs [32, 125] := by
    rw [bs_app, bs_app, bs_app, bs_app, ← htx2]
    congr 1
    try simp
   rw [hgoal]
   have p1 : (bs [32, 101, 108, 115, 101, 58, 32]).size + (bs i.norm.tx).size ≤ 9223372036854775807 := by simp only [bsz, List.length_cons, List.length_nil]; omega
   have p2 : (bs [32, 101, 108, 115, 101, 58, 32] ++ bs i.norm.tx).size + (bs [59]).size ≤ 9223372036854775807 := by simp only [ByteArray.size_append, bsz, List.length_cons, List.length_nil]; omega
   have p3 : (bs tx).size + (bs [32, 101, 108, 115, 101, 58, 32] ++ bs i.norm.tx ++ bs [59]).size ≤ 9223372036854775807 := by simp only [ByteArray.size_append, bsz, List.length_cons, List.length_nil]; omega
   have p4 : (bs tx ++ (bs [32, 101, 108, 115, 101, 58, 32] ++ bs i.norm.tx ++ bs [59])).size + (bs [32, 125]).size ≤ 9223372036854775807 := by simp only [ByteArray.size_append, bsz, List.length_cons, List.length_nil]; omega
   repeat' (first | refine qgs ?_ | refine eD ?_ ?_ <;> intro)
   refine sC (CallsM.ren (hkk) [0] 2 rfl rfl rfl rfl) ?_
   repeat' (first | refine qgs ?_ | refine eD ?_ ?_ <;> intro)
   exact ⟨rfl, TLe.rfl, rfl, rfl⟩
set_option maxHeartbeats 2000000 in
theorem kind_switch {e : CE} {cs : CS} {o p : Nat} (hX : Lys xs ((CT.switch e cs).fx o) o) (hY : Lys ts ((CT.switch e cs).ft o p) p) (hx : xs.length ≤ 1000000) (ht : ts.length ≤ 1000000) (hn : e.nums) (hcn : cs.nums) (hnum : cs.num ≤ 64) (hs : (CT.switch e cs).norm.tx.length ≤ 1000000000) (hK : KAll C R xs ts cs (o + e.sz) p) : KindC C R xs ts (.switch e cs) o p := by
 have hmt : (ts.map tyD).length = ts.length := List.length_map _
 intro before left h1 h2 h3
 have hc := Lys.last (a := cs.ft (o + e.sz) p) hY
 rw [cs.ft_len] at hc
 have hc : ts[p + cs.st]? = some { tyP 9 with ex := e.ix o, inn := cs.inn p, cases := cs.cases p } := hc
 have hlen := hY.len
 have hlen : p + ((CT.switch e cs).ft o p).length ≤ ts.length := hlen
 rw [CT.ft_len] at hlen
 have hlen : p + (cs.st + 1) ≤ ts.length := hlen
 have h3 : left + (e.sz + cs.sx + (cs.st + 1)) ≤ 100000000 := h3
 have hch := schoice_c (C := C) (R := R) hx ht hX.left (by omega) hn hcn hnum hs hK left (by omega)
 have hin := inn_ge cs p
 have hix : (CT.switch e cs).ix p = (p + cs.st : Nat) := by show ((p + (cs.st + 1) - 1 : Nat) : Int) = _; congr 1
 rw [hix] at h1 ⊢
 obtain ⟨i, hi⟩ : ∃ i, p + cs.st = i := ⟨_, rfl⟩
 rw [hi] at hc hch h1 ⊢
 have hv := visit_c (GF C R xs ts) i before (left + (e.sz + (cs.sx + cs.st))) (by omega) (by omega) (by omega)
 show CallsM _ _ _ (PrM (GF C R xs ts) (left + (e.sz + cs.sx + (cs.st + 1)))) _ _ _ _ _
 rw [show left + (e.sz + cs.sx + (cs.st + 1)) = left + (e.sz + (cs.sx + cs.st)) + 1 by omega]
 have hch : CallsM Tryz.prog ΓV 129 _ 1 [.c (.ptr 0 0), gD [di 9, di 0, db false, ds (bs []), intsD [], di (e.ix o), di (cs.inn p), .sl 2 ((cs.cases p).map caD)], _] _ _ _ := hch
 generalize hz : e.ix o = z at *
 generalize cs.inn p = y at *
 generalize cs.cases p = l at *
 generalize (CT.switch e cs).norm.tx = tx at *
 generalize left + (e.sz + (cs.sx + cs.st)) = la at *
 refine fn_ruleM (C := ⟨Tryz.prog, layF, Tryz.f108.ntmps, ΓV, 1, [], []⟩) layF_ok mixed Tryz.func108 rfl (by kernel_rfl) rfl rfl rfl ?_
 repeat' (first | refine qgs ?_ | refine eD ?_ ?_ <;> intro)
 refine sC (CallsM.ren (hv) [0] 1 rfl rfl rfl rfl) ?_
 repeat' (first | refine (ex_rowF i _ [di 9, di 0, db false, ds (bs []), intsD [], di z, di y, .sl 2 (l.map caD)] rfl hc rfl) ?_ | refine (ex_is _ hmt) ?_ | refine qg1 ?_ | refine eD ?_ ?_ <;> intro)
 refine sC (CallsM.ren (hch) [0] 2 rfl rfl rfl rfl) ?_
 repeat' (first | refine qgs ?_ | refine eD ?_ ?_ <;> intro)
 exact ⟨rfl, TLe.rfl, rfl, rfl⟩
mutual
theorem kind_all (hx : xs.length ≤ 1000000) (ht : ts.length ≤ 1000000) : ∀ (c : CT) (o p : Nat), Lys xs (c.fx o) o → Lys ts (c.ft o p) p → c.ok → c.nums → c.norm.tx.length ≤ 1000000000 → KindC C R xs ts c o p
 | .int w, o, p, _, hY, hok, _, _ => kind_int hok hY ht
 | .ref nm [], o, p, _, hY, _, _, _ => kind_ref0 hY ht
 | .ref nm (c :: l), o, p, hX, hY, hok, hn, hs => kind_refN hX hY hx ht hn hok.2.2.2 hs
 | .sized w e, o, p, hX, hY, hok, hn, hs => by
  rcases hok.1 with rfl | rfl | rfl
  ·exact kind_bytes hX hY hx ht hn hs
  ·exact kind_zero hX hY hx ht hn hs
  ·exact kind_skip hX hY hx ht hn hs
 | .over w e i, o, p, hX, hY, hok, hn, hs => by
  have hs' : (w ++ 91 :: (e.norm.tx ++ 93 :: 32 :: i.norm.tx)).length ≤ 1000000000 := hs
  simp only [List.length_append, List.length_cons, List.length_nil] at hs'
  have hXr := hX.right
  rw [e.flat_len] at hXr
  have ih := kind_all hx ht i (o + e.sz) p hXr hY.left hok.2.2 hn.2 (by omega)
  rcases hok.1 with rfl | rfl
  ·exact kind_window hX hY hx ht hn.1 hs ih
  ·exact kind_at hX hY hx ht hn.1 hs ih
 | .rest i, o, p, hX, hY, hok, hn, hs => by
  have hs' : (w_rest ++ 32 :: i.norm.tx).length ≤ 1000000000 := hs
  simp only [List.length_append, List.length_cons, List.length_nil] at hs'
  exact kind_rest hY ht hs (kind_all hx ht i o p hX hY.left hok hn (by omega))
 | .tail, o, p, _, hY, _, _, _ => kind_tail hY ht
 | .none, o, p, _, hY, _, _, _ => kind_none hY ht
 | .arr b e, o, p, hX, hY, hok, hn, hs => by
  have hs' : (b.norm.tx ++ 91 :: (e.norm.tx ++ [93])).length ≤ 1000000000 := hs
  simp only [List.length_append, List.length_cons, List.length_nil] at hs'
  exact kind_arr hX hY hx ht hn.2 hs (kind_all hx ht b o p hX.left hY.left hok.1 hn.1 (by omega))
 | .switch e cs, o, p, hX, hY, hok, hn, hs => by
  have hs' : (w_switch ++ 32 :: 40 :: (e.norm.tx ++ 41 :: 32 :: 123 :: (cs.norm.tx ++ [32, 125]))).length ≤ 1000000000 := hs
  simp only [List.length_append, List.length_cons, List.length_nil] at hs'
  have hXr := hX.right
  rw [e.flat_len] at hXr
  exact kind_switch hX hY hx ht hn.1 hn.2 hok.2.2 hs (kall_all hx ht cs (o + e.sz) p hXr hY.left hok.2.1 hn.2 (by omega))
theorem kall_all (hx : xs.length ≤ 1000000) (ht : ts.length ≤ 1000000) : ∀ (c : CS) (o p : Nat), Lys xs (c.fx o) o → Lys ts (c.ft o p) p → c.ok → c.nums → c.norm.tx.length ≤ 1000000000 → KAll C R xs ts c o p
 | .fin, _, _, _, _, _, _, _ => trivial
 | .els i, o, p, hX, hY, hok, hn, hs => by
  have hs' : (32 :: (w_else ++ 58 :: 32 :: (i.norm.tx ++ [59]))).length ≤ 1000000000 := hs
  simp only [List.length_append, List.length_cons, List.length_nil] at hs'
  exact kind_all hx ht i o p hX hY hok hn (by omega)
 | .case t n i r, o, p, hX, hY, hok, hn, hs => by
  have hs' : (32 :: (w_case ++ 32 :: (Lib.decDigits n ++ 58 :: 32 :: (i.norm.tx ++ 59 :: r.norm.tx)))).length ≤ 1000000000 := hs
  simp only [List.length_append, List.length_cons, List.length_nil] at hs'
  have hXr := hX.right
  rw [i.fx_len] at hXr
  have hYr := hY.right
  rw [i.ft_len] at hYr
  exact ⟨kind_all hx ht i o p hX.left hY.left hok.2.1 hn.2.1 (by omega), kall_all hx ht r (o + i.sx) (p + i.st) hXr hYr hok.2.2 hn.2.2 (by omega)⟩
end
end
end Go.Proofs.YtidnlfkakhmadaaGreatDoor

namespace Go.Proofs.YtidnlfkakhmadaaGreatDoor
open Go.RowKit

theorem itoaV (n : Nat) (h : n ≤ 9223372036854775807) : CallsA Tryz.prog ΓV 117 [c1 (di n)] (Tstr (bs (Lib.decDigits n))) :=
 ⟨⟨_, Tryz.func117, by kernel_rfl, rfl⟩, fun S w vs hS hG hvs => by
  obtain ⟨u, rfl, e1⟩ := one_arg hvs
  obtain rfl := open_v e1
  refine (Tryz.strconv_Itoa (n : Int) (by omega) (by omega) w hG.2.1).mono fun e w' ⟨he, k, os, hw⟩ => ?_
  subst he; subst hw
  have e : Lib.itoa (n : Int) = Lib.decDigits n := by unfold Lib.itoa; rw [if_neg (by omega)]; rfl
  rw [e]
  exact flat_end hS (Lib.below_grow _ _ (Nat.le_refl _) _ _) (Imm.v rfl)⟩
section
variable {C R : D} {xs : List EX} {ts : List TY}
theorem derived_none (x : IT) (h : x.der = 0) : CallsA Tryz.prog ΓV 109 [gD (itD x)] (Tstr (bs [])) := by
 obtain ⟨nm, ty, der, a, b, wh, size, little, subs⟩ := x
 obtain rfl : der = 0 := h
 show CallsA _ _ _ [gD [ds (bs nm), di ty, di 0, ds (bs a), ds (bs b), di wh, di size, db little, .sl 2 (subs.map sbD)]] _
 refine fn_rule (C := ⟨Tryz.prog, layF, Tryz.f109.ntmps, ΓV, 0, [], []⟩) layF_ok mixed Tryz.func109 rfl (by kernel_rfl) rfl rfl rfl ?_
 repeat' (first | refine qgs ?_ | refine eD ?_ ?_ <;> intro)
 exact TLe.rfl
theorem derived_1 (nm : List UInt8) (ty : Int) (a b : List UInt8) (wh : Int) (size : Nat) (little : Bool) (subs : D) (hs : a.length ≤ 1000000000) : CallsA Tryz.prog ΓV 109 [gD [ds (bs nm), di ty, di 1, ds (bs a), ds (bs b), di wh, di size, db little, subs]] (Tstr (bs (derX 1 a b))) := by
 have q1 : (bs [32, 61, 32, 115, 105, 122, 101, 111, 102, 40]).size + (bs a).size ≤ 9223372036854775807 := by simp only [bsz, List.length_cons, List.length_nil]; omega
 have q2 : (bs [32, 61, 32, 115, 105, 122, 101, 111, 102, 40] ++ bs a).size + (bs [41]).size ≤ 9223372036854775807 := by simp only [ByteArray.size_append, bsz, List.length_cons, List.length_nil]; omega
 rw [show derX 1 a b = [32, 61, 32, 115, 105, 122, 101, 111, 102, 40] ++ a ++ [41] from by simp [derX, derW], ← bs_app, ← bs_app]
 refine fn_rule (C := ⟨Tryz.prog, layF, Tryz.f109.ntmps, ΓV, 0, [], []⟩) layF_ok mixed Tryz.func109 rfl (by kernel_rfl) rfl rfl rfl ?_
 repeat' (first | refine qgs ?_ | refine eD ?_ ?_ <;> intro)
 exact TLe.rfl
theorem derived_2 (nm : List UInt8) (ty : Int) (a b : List UInt8) (wh : Int) (size : Nat) (little : Bool) (subs : D) (hs : a.length ≤ 1000000000) : CallsA Tryz.prog ΓV 109 [gD [ds (bs nm), di ty, di 2, ds (bs a), ds (bs b), di wh, di size, db little, subs]] (Tstr (bs (derX 2 a b))) := by
 have q1 : (bs [32, 61, 32, 99, 111, 117, 110, 116, 111, 102, 40]).size + (bs a).size ≤ 9223372036854775807 := by simp only [bsz, List.length_cons, List.length_nil]; omega
 have q2 : (bs [32, 61, 32, 99, 111, 117, 110, 116, 111, 102, 40] ++ bs a).size + (bs [41]).size ≤ 9223372036854775807 := by simp only [ByteArray.size_append, bsz, List.length_cons, List.length_nil]; omega
 rw [show derX 2 a b = [32, 61, 32, 99, 111, 117, 110, 116, 111, 102, 40] ++ a ++ [41] from by simp [derX, derW], ← bs_app, ← bs_app]
 refine fn_rule (C := ⟨Tryz.prog, layF, Tryz.f109.ntmps, ΓV, 0, [], []⟩) layF_ok mixed Tryz.func109 rfl (by kernel_rfl) rfl rfl rfl ?_
 repeat' (first | refine qgs ?_ | refine eD ?_ ?_ <;> intro)
 exact TLe.rfl
theorem derived_3 (nm : List UInt8) (ty : Int) (a b : List UInt8) (wh : Int) (size : Nat) (little : Bool) (subs : D) (hs : a.length ≤ 1000000000) (hb : b.length ≤ 1000000000) : CallsA Tryz.prog ΓV 109 [gD [ds (bs nm), di ty, di 3, ds (bs a), ds (bs b), di wh, di size, db little, subs]] (Tstr (bs (derX 3 a b))) := by
 have q1 : (bs [32, 61, 32, 99, 114, 99, 51, 50, 40]).size + (bs a).size ≤ 9223372036854775807 := by simp only [bsz, List.length_cons, List.length_nil]; omega
 have q2 : (bs [32, 61, 32, 99, 114, 99, 51, 50, 40] ++ bs a).size + (bs [46, 46]).size ≤ 9223372036854775807 := by simp only [ByteArray.size_append, bsz, List.length_cons, List.length_nil]; omega
 have q3 : (bs [32, 61, 32, 99, 114, 99, 51, 50, 40] ++ bs a ++ bs [46, 46]).size + (bs b).size ≤ 9223372036854775807 := by simp only [ByteArray.size_append, bsz, List.length_cons, List.length_nil]; omega
 have q4 : (bs [32, 61, 32, 99, 114, 99, 51, 50, 40] ++ bs a ++ bs [46, 46] ++ bs b).size + (bs [41]).size ≤ 9223372036854775807 := by simp only [ByteArray.size_append, bsz, List.length_cons, List.length_nil]; omega
 rw [show derX 3 a b = [32, 61, 32, 99, 114, 99, 51, 50, 40] ++ a ++ [46, 46] ++ b ++ [41] from by simp [derX, derW], ← bs_app, ← bs_app, ← bs_app, ← bs_app]
 refine fn_rule (C := ⟨Tryz.prog, layF, Tryz.f109.ntmps, ΓV, 0, [], []⟩) layF_ok mixed Tryz.func109 rfl (by kernel_rfl) rfl rfl rfl ?_
 repeat' (first | refine qgs ?_ | refine eD ?_ ?_ <;> intro)
 exact TLe.rfl
theorem derived_4 (nm : List UInt8) (ty : Int) (a b : List UInt8) (wh : Int) (size : Nat) (little : Bool) (subs : D) (hs : a.length ≤ 1000000000) (hb : b.length ≤ 1000000000) : CallsA Tryz.prog ΓV 109 [gD [ds (bs nm), di ty, di 4, ds (bs a), ds (bs b), di wh, di size, db little, subs]] (Tstr (bs (derX 4 a b))) := by
 have q1 : (bs [32, 61, 32, 97, 100, 108, 101, 114, 51, 50, 40]).size + (bs a).size ≤ 9223372036854775807 := by simp only [bsz, List.length_cons, List.length_nil]; omega
 have q2 : (bs [32, 61, 32, 97, 100, 108, 101, 114, 51, 50, 40] ++ bs a).size + (bs [46, 46]).size ≤ 9223372036854775807 := by simp only [ByteArray.size_append, bsz, List.length_cons, List.length_nil]; omega
 have q3 : (bs [32, 61, 32, 97, 100, 108, 101, 114, 51, 50, 40] ++ bs a ++ bs [46, 46]).size + (bs b).size ≤ 9223372036854775807 := by simp only [ByteArray.size_append, bsz, List.length_cons, List.length_nil]; omega
 have q4 : (bs [32, 61, 32, 97, 100, 108, 101, 114, 51, 50, 40] ++ bs a ++ bs [46, 46] ++ bs b).size + (bs [41]).size ≤ 9223372036854775807 := by simp only [ByteArray.size_append, bsz, List.length_cons, List.length_nil]; omega
 rw [show derX 4 a b = [32, 61, 32, 97, 100, 108, 101, 114, 51, 50, 40] ++ a ++ [46, 46] ++ b ++ [41] from by simp [derX, derW], ← bs_app, ← bs_app, ← bs_app, ← bs_app]
 refine fn_rule (C := ⟨Tryz.prog, layF, Tryz.f109.ntmps, ΓV, 0, [], []⟩) layF_ok mixed Tryz.func109 rfl (by kernel_rfl) rfl rfl rfl ?_
 repeat' (first | refine qgs ?_ | refine eD ?_ ?_ <;> intro)
 exact TLe.rfl
theorem sderived_c {d : Nat} {a b : List UInt8} (h : DerOk d a b) (nm : List UInt8) (ty : Int) (wh : Int) (size : Nat) (little : Bool) (hs : (derX d a b).length ≤ 1000000000) : CallsA Tryz.prog ΓV 109 [gD [ds (bs nm), di ty, di d, ds (bs a), ds (bs b), di wh, di size, db little, .sl 2 []]] (Tstr (bs (derX d a b))) := by
 have hla : d ≠ 0 → a.length ≤ 1000000000 := fun h0 => by
  unfold derX at hs
  rw [if_neg h0] at hs
  simp only [List.length_append, List.length_cons] at hs
  omega
 have hlb : 3 ≤ d → b.length ≤ 1000000000 := fun h3 => by
  unfold derX at hs
  rw [if_neg (by omega), if_pos h3] at hs
  simp only [List.length_append, List.length_cons] at hs
  omega
 rcases h with ⟨rfl, rfl, rfl⟩ | ⟨hd, -, rfl⟩ | ⟨hd, -, -⟩
 ·exact derived_none ⟨nm, ty, 0, [], [], wh, size, little, []⟩ rfl
 ·rcases hd with rfl | rfl
  ·exact derived_1 nm ty a [] wh size little _ (hla (by decide))
  ·exact derived_2 nm ty a [] wh size little _ (hla (by decide))
 ·rcases hd with rfl | rfl
  ·exact derived_3 nm ty a b wh size little _ (hla (by decide)) (hlb (by decide))
  ·exact derived_4 nm ty a b wh size little _ (hla (by decide)) (hlb (by decide))
set_option maxHeartbeats 4000000 in
theorem spack_c {w : List UInt8} {l : List CSb} {z : Nat} {lt : Bool} (hz : integerV w = some (z, lt)) (hz8 : z ≤ 8) (hl : l.length ≤ 64) (hs : (CI.pack w l).norm.tx.length ≤ 1000000000) :
  CallsA Tryz.prog ΓV 107 [gD [ds (bs []), di (-1), di 0, ds (bs []), ds (bs []), di (-1), di z, db lt, .sl 2 ((l.map CSb.sb).map sbD)]] (Tstr (bs (CI.pack w l).norm.tx)) := by
 have hs' : (w_pack ++ 32 :: (w ++ 32 :: 123 :: (subX (l.map CSb.norm) ++ [32, 125]))).length ≤ 1000000000 := hs
 simp only [List.length_append, List.length_cons, List.length_nil] at hs'
 have hwd := (word_c z lt).zV
 rw [wordF_eq hz] at hwd
 have hm : ((l.map CSb.sb).map sbD).length = l.length := by rw [List.length_map, List.length_map]
 have htx : (CI.pack w l).norm.tx = [112, 97, 99, 107, 32] ++ w ++ [32, 123] ++ subX (l.map CSb.norm) ++ [32, 125] := by
  show w_pack ++ 32 :: (w ++ 32 :: 123 :: (subX (l.map CSb.norm) ++ [32, 125])) = _
  simp
 rw [htx]
 have q1 : (bs [112, 97, 99, 107, 32]).size + (bs w).size ≤ 9223372036854775807 := by simp only [bsz, List.length_cons, List.length_nil]; omega
 have q2 : (bs [112, 97, 99, 107, 32] ++ bs w).size + (bs [32, 123]).size ≤ 9223372036854775807 := by simp only [ByteArray.size_append, bsz, List.length_cons, List.length_nil]; omega
 obtain ⟨T0, hT0⟩ : ∃ T, [112, 97, 99, 107, 32] ++ w ++ [32, 123] = T := ⟨_, rfl⟩
 have hT0b : bs [112, 97, 99, 107, 32] ++ bs w ++ bs [32, 123] = bs T0 := by rw [bs_app, bs_app, hT0]
 have hT0l : T0.length = w.length + 7 := by rw [← hT0]; simp only [List.length_append, List.length_cons, List.length_nil]; omega
 rw [hT0]
 refine fn_rule (C := ⟨Tryz.prog, layF, Tryz.f107.ntmps, ΓV, 0, [], []⟩) layF_ok mixed Tryz.func107 rfl (by kernel_rfl) rfl rfl rfl ?_
 repeat' (first | refine ex_call hwd ?_ | refine (ex_is _ hm) ?_ | refine qg1 ?_ | refine eD ?_ ?_ <;> intro)
 refine ex_loop (X := Nat × ByteArray × List UInt8) (fun ⟨q, B, tx⟩ => ⟨[(3, .o (c1 (ds B))), (14, .o (c1 (.sl 2 ((l.map CSb.sb).map sbD)))), (15, Ti l.length), (16, Ti q)], [], 0⟩) (fun x => l.length - x.1)
  (fun ⟨q, B, tx⟩ => q ≤ l.length ∧ B = bs tx ∧ tx ++ subX ((l.drop q).map CSb.norm) = T0 ++ subX (l.map CSb.norm)) (0, bs [112, 97, 99, 107, 32] ++ bs w ++ bs [32, 123], T0) ⟨Nat.zero_le _, hT0b, rfl⟩ sS ?_
 rintro ⟨q, B, tx⟩ ⟨hq, rfl, htx2⟩
 refine ex_dec (fun hh => ?_) (fun hh => ?_)
 ·have hql : q < l.length := by omega
  have hc : l[q]? = some l[q] := at_some hql
  have hc2 : (l.map CSb.sb)[q]? = some (CSb.sb l[q]) := by rw [List.getElem?_map, hc]; rfl
  have hdr : l.drop q = l[q] :: l.drop (q + 1) := List.drop_eq_getElem_cons hql
  rw [hdr] at htx2
  generalize l[q] = b at *
  have htx3 : tx ++ (32 :: (b.nm ++ 58 :: 32 :: (Lib.decDigits (min b.n 1048576) ++ [59])) ++ subX ((l.drop (q + 1)).map CSb.norm)) = T0 ++ subX (l.map CSb.norm) := htx2
  have hlen2 := congrArg List.length htx3
  simp only [List.length_append, List.length_cons, List.length_nil] at hlen2
  have hit := itoaV (min b.n 1048576) (by omega)
  have hbits : CSb.sb b = ⟨b.nm, min b.n 1048576⟩ := rfl
  rw [hbits] at hc2
  have hmn : min b.n 1048576 ≤ 1048576 := Nat.min_le_right _ _
  generalize min b.n 1048576 = n at *
  have p1 : (bs [32]).size + (bs b.nm).size ≤ 9223372036854775807 := by simp only [bsz, List.length_cons, List.length_nil]; omega
  have p2 : (bs [32] ++ bs b.nm).size + (bs [58, 32]).size ≤ 9223372036854775807 := by simp only [ByteArray.size_append, bsz, List.length_cons, List.length_nil]; omega
  have p3 : (bs [32] ++ bs b.nm ++ bs [58, 32]).size + (bs (Lib.decDigits n)).size ≤ 9223372036854775807 := by simp only [ByteArray.size_append, bsz, List.length_cons, List.length_nil]; omega
  have p4 : (bs [32] ++ bs b.nm ++ bs [58, 32] ++ bs (Lib.decDigits n)).size + (bs [59]).size ≤ 9223372036854775807 := by simp only [ByteArray.size_append, bsz, List.length_cons, List.length_nil]; omega
  have p5 : (bs tx).size + (bs [32] ++ bs b.nm ++ bs [58, 32] ++ bs (Lib.decDigits n) ++ bs [59]).size ≤ 9223372036854775807 := by simp only [ByteArray.size_append, bsz, List.length_cons, List.length_nil]; omega
  have hnew : bs tx ++ (bs [32] ++ bs b.nm ++ bs [58, 32] ++ bs (Lib.decDigits n) ++ bs [59]) = bs (tx ++ [32] ++ b.nm ++ [58, 32] ++ Lib.decDigits n ++ [59]) := by
   rw [bs_app, bs_app, bs_app, bs_app, bs_app]
   congr 1
   simp
  repeat' (first | refine ex_call hit ?_ | refine aI ((q + 1 : Nat) : Int) ?_ | refine aU ((q + 1 : Nat) : Int) ?_ | refine aB ((q + 1 : Nat) : Int) ?_ | refine (ex_rowF q _ [ds (bs b.nm), di n] rfl hc2 rfl) ?_ | refine (ex_is _ hm) ?_ | refine qg1 ?_ | refine eD ?_ ?_ <;> intro)
  exact ex_round (q + 1, bs tx ++ (bs [32] ++ bs b.nm ++ bs [58, 32] ++ bs (Lib.decDigits n) ++ bs [59]), tx ++ [32] ++ b.nm ++ [58, 32] ++ Lib.decDigits n ++ [59]) ⟨by omega, hnew, by rw [← htx3]; simp⟩ (by show _ - _ < _ - _; omega) sS
 ·obtain rfl : q = l.length := by omega
  rw [List.drop_length] at htx2
  have htx2 : tx ++ [] = T0 ++ subX (l.map CSb.norm) := htx2
  rw [List.append_nil] at htx2
  have hlen2 := congrArg List.length htx2
  simp only [List.length_append] at hlen2
  rw [← htx2, ← bs_app]
  have p1 : (bs tx).size + (bs [32, 125]).size ≤ 9223372036854775807 := by simp only [bsz, List.length_cons, List.length_nil]; omega
  repeat' (first | refine qgs ?_ | refine eD ?_ ?_ <;> intro)
  exact TLe.rfl
end
end Go.Proofs.YtidnlfkakhmadaaGreatDoor

namespace Go.Proofs.YtidnlfkakhmadaaGreatDoor
open Go.RowKit

section
variable {C R : D} {xs : List EX} {ts : List TY}
def ItemC (C R : D) (xs : List EX) (ts : List TY) (c : CI) (o p : Nat) : Prop := ∀ left : Nat, left + (c.sx + c.st) ≤ 100000000 →
 CallsM Tryz.prog ΓV 77 (PrM (GF C R xs ts) (left + (c.sx + c.st))) 1 [.c (.ptr 0 0), gD (itD (c.it o p))] (Tstr (bs c.norm.tx)) (PrM (GF C R xs ts) left) []
set_option maxHeartbeats 4000000 in
theorem item_field (hx : xs.length ≤ 1000000) (ht : ts.length ≤ 1000000) {nm : List UInt8} {t : CT} {d : Nat} {a b : List UInt8} {wh : Option CE} {o p : Nat} (hok : (CI.field nm t d a b wh).ok) (hn : (CI.field nm t d a b wh).nums) (hX : Lys xs ((CI.field nm t d a b wh).fx o) o) (hY : Lys ts ((CI.field nm t d a b wh).ft o p) p)
  (hs : (CI.field nm t d a b wh).norm.tx.length ≤ 1000000000) : ItemC C R xs ts (.field nm t d a b wh) o p := by
 have hmt : (ts.map tyD).length = ts.length := List.length_map _
 intro left h3
 obtain ⟨-, hk1, -, hk3, hk4⟩ := hok
 have hs' : (nm ++ 58 :: 32 :: (t.norm.tx ++ (derX d a b ++ (whX (wh.map CE.norm) ++ [59])))).length ≤ 1000000000 := hs
 simp only [List.length_append, List.length_cons, List.length_nil] at hs'
 have hXt : Lys xs (t.fx o) o := hX.left
 have hYt : Lys ts (t.ft o p) p := hY
 have hlen := hYt.len
 rw [t.ft_len] at hlen
 have hpos := t.st_pos
 have hK := kind_all (C := C) (R := R) hx ht t o p hXt hYt hk1 hn.1 (by omega)
 have hix : t.ix p < ts.length := by show ((p + t.st - 1 : Nat) : Int) < _; omega
 have hd := fun wx : Int => sderived_c hk3 nm (t.ix p) wx 0 false (by omega)
 have hsz := bsz t.norm.tx
 have p1 : (bs nm).size + (bs [58, 32]).size ≤ 9223372036854775807 := by simp only [bsz, List.length_cons, List.length_nil]; omega
 have p2 : (bs nm ++ bs [58, 32]).size + (bs t.norm.tx).size ≤ 9223372036854775807 := by simp only [ByteArray.size_append, bsz, List.length_cons, List.length_nil]; omega
 have p3 : (bs nm ++ bs [58, 32] ++ bs t.norm.tx).size + (bs (derX d a b)).size ≤ 9223372036854775807 := by simp only [ByteArray.size_append, bsz, List.length_cons, List.length_nil]; omega
 cases wh with
 | none =>
  have h3 : left + (t.sx + 0 + t.st) ≤ 100000000 := h3
  have hK := hK ts.length left hix ht (by omega)
  have hd := hd (-1)
  have hgoal : bs (CI.field nm t d a b none).norm.tx = bs nm ++ bs [58, 32] ++ bs t.norm.tx ++ bs (derX d a b) ++ bs [59] := by
   rw [bs_app, bs_app, bs_app, bs_app]
   show bs (nm ++ 58 :: 32 :: (t.norm.tx ++ (derX d a b ++ ([] ++ [59])))) = _
   congr 1
   simp
  rw [hgoal]
  have p4 : (bs nm ++ bs [58, 32] ++ bs t.norm.tx ++ bs (derX d a b)).size + (bs [59]).size ≤ 9223372036854775807 := by simp only [ByteArray.size_append, bsz, List.length_cons, List.length_nil]; omega
  show CallsM _ _ _ (PrM (GF C R xs ts) (left + (t.sx + 0 + t.st))) _ [_, gD [ds (bs nm), di (t.ix p), di d, ds (bs a), ds (bs b), di (-1), di 0, db false, .sl 2 []]] _ _ _
  rw [show left + (t.sx + 0 + t.st) = left + (t.sx + t.st) by omega]
  generalize t.ix p = y at *
  generalize left + (t.sx + t.st) = la at *
  refine fn_ruleM (C := ⟨Tryz.prog, layF, Tryz.f77.ntmps, ΓV, 1, [], []⟩) layF_ok mixed Tryz.func77 rfl (by kernel_rfl) rfl rfl rfl ?_
  repeat' (first | refine (ex_is _ hmt) ?_ | refine qg1 ?_ | refine eD ?_ ?_ <;> intro)
  refine sC (CallsM.ren (hK) [0] 2 rfl rfl rfl rfl) ?_
  repeat' (first | refine ex_call hd ?_ | refine qg1 ?_ | refine eD ?_ ?_ <;> intro)
  exact ⟨rfl, TLe.rfl, rfl, rfl⟩
 | some e =>
  obtain ⟨he1, -⟩ := hk4 e rfl
  have hXr : Lys xs (e.flat (o + t.sx)) (o + t.sx) := by
   have := hX.right
   rw [t.fx_len] at this
   exact this
  have hel := hXr.len
  rw [e.flat_len] at hel
  have hepos := e.sz_pos
  have h3 : left + (t.sx + e.sz + t.st) ≤ 100000000 := h3
  have hwl : (whX ((some e).map CE.norm)).length = e.norm.tx.length + 7 := by
   show (32 :: (w_where ++ 32 :: e.norm.tx)).length = _
   simp only [List.length_append, List.length_cons, List.length_nil]
   omega
  rw [hwl] at hs'
  have hK := hK ts.length (left + e.sz) hix ht (by omega)
  have hA := any_c (C := C) (R := R) (ts := ts) hx hXr (hn.2 e rfl) (by omega) left (by omega)
  have hd := hd (e.ix (o + t.sx))
  have hgoal : bs (CI.field nm t d a b (some e)).norm.tx = bs nm ++ bs [58, 32] ++ bs t.norm.tx ++ bs (derX d a b) ++ (bs [32, 119, 104, 101, 114, 101, 32] ++ bs e.norm.tx) ++ bs [59] := by
   rw [bs_app, bs_app, bs_app, bs_app, bs_app, bs_app]
   show bs (nm ++ 58 :: 32 :: (t.norm.tx ++ (derX d a b ++ (32 :: (w_where ++ 32 :: e.norm.tx) ++ [59])))) = _
   congr 1
   simp
  rw [hgoal]
  have p4 : (bs [32, 119, 104, 101, 114, 101, 32]).size + (bs e.norm.tx).size ≤ 9223372036854775807 := by simp only [bsz, List.length_cons, List.length_nil]; omega
  have p5 : (bs nm ++ bs [58, 32] ++ bs t.norm.tx ++ bs (derX d a b)).size + (bs [32, 119, 104, 101, 114, 101, 32] ++ bs e.norm.tx).size ≤ 9223372036854775807 := by simp only [ByteArray.size_append, bsz, List.length_cons, List.length_nil]; omega
  have p6 : (bs nm ++ bs [58, 32] ++ bs t.norm.tx ++ bs (derX d a b) ++ (bs [32, 119, 104, 101, 114, 101, 32] ++ bs e.norm.tx)).size + (bs [59]).size ≤ 9223372036854775807 := by simp only [ByteArray.size_append, bsz, List.length_cons, List.length_nil]; omega
  have hex : 0 ≤ e.ix (o + t.sx) := by unfold CE.ix; omega
  show CallsM _ _ _ (PrM (GF C R xs ts) (left + (t.sx + e.sz + t.st))) _ [_, gD [ds (bs nm), di (t.ix p), di d, ds (bs a), ds (bs b), di (e.ix (o + t.sx)), di 0, db false, .sl 2 []]] _ _ _
  rw [show left + (t.sx + e.sz + t.st) = left + e.sz + (t.sx + t.st) by omega]
  generalize t.ix p = y at *
  generalize e.ix (o + t.sx) = z at *
  generalize left + e.sz = la at *
  refine fn_ruleM (C := ⟨Tryz.prog, layF, Tryz.f77.ntmps, ΓV, 1, [], []⟩) layF_ok mixed Tryz.func77 rfl (by kernel_rfl) rfl rfl rfl ?_
  repeat' (first | refine (ex_is _ hmt) ?_ | refine qg1 ?_ | refine eD ?_ ?_ <;> intro)
  refine sC (CallsM.ren (hK) [0] 2 rfl rfl rfl rfl) ?_
  repeat' (first | refine ex_call hd ?_ | refine qg1 ?_ | refine eD ?_ ?_ <;> intro)
  refine sC (CallsM.ren (hA) [0] 2 rfl rfl rfl rfl) ?_
  repeat' (first | refine qgs ?_ | refine eD ?_ ?_ <;> intro)
  exact ⟨rfl, TLe.rfl, rfl, rfl⟩
theorem item_pack {w : List UInt8} {l : List CSb} {o p : Nat} (hok : (CI.pack w l).ok) (hs : (CI.pack w l).norm.tx.length ≤ 1000000000) : ItemC C R xs ts (.pack w l) o p := by
 intro left h3
 obtain ⟨h1, h2, hl, -⟩ := hok
 obtain ⟨⟨z, lt⟩, hz⟩ : ∃ q, integerV w = some q := Option.ne_none_iff_exists'.1 h1
 have hz8 : z ≤ 8 := by
  have : ∀ p ∈ intsL, p.2.1 ≤ 8 := by decide +kernel
  have hz' := hz
  unfold integerV at hz'
  generalize hf : intsL.find? _ = q at hz'
  cases q with
  | none => cases hz'
  | some q =>
   have hp : q.2 = (z, lt) := by injection hz'
   have := this q (List.mem_of_find?_eq_some hf)
   rw [hp] at this
   exact this
 have hpk := spack_c hz hz8 hl hs
 have hm : ((l.map CSb.sb).map sbD).length = l.length := by rw [List.length_map, List.length_map]
 have hpos : 0 < l.length := List.length_pos_iff.2 h2
 have hit : (CI.pack w l).it o p = ⟨[], -1, 0, [], [], -1, z, lt, l.map CSb.sb⟩ := by
  show (⟨[], -1, 0, [], [], -1, ((integerV w).getD (0, false)).1, ((integerV w).getD (0, false)).2, l.map CSb.sb⟩ : IT) = _
  rw [hz]; rfl
 rw [hit]
 show CallsM _ _ _ (PrM (GF C R xs ts) left) _ [_, gD [ds (bs []), di (-1), di 0, ds (bs []), ds (bs []), di (-1), di z, db lt, .sl 2 ((l.map CSb.sb).map sbD)]] _ _ _
 generalize (CI.pack w l).norm.tx = tx at *
 refine fn_ruleM (C := ⟨Tryz.prog, layF, Tryz.f77.ntmps, ΓV, 1, [], []⟩) layF_ok mixed Tryz.func77 rfl (by kernel_rfl) rfl rfl rfl ?_
 repeat' (first | refine ex_call hpk ?_ | refine (ex_is _ hm) ?_ | refine qg1 ?_ | refine eD ?_ ?_ <;> intro)
 exact ⟨rfl, TLe.rfl, rfl, rfl⟩
theorem item_all (hx : xs.length ≤ 1000000) (ht : ts.length ≤ 1000000) (c : CI) (o p : Nat) (hok : c.ok) (hn : c.nums) (hX : Lys xs (c.fx o) o) (hY : Lys ts (c.ft o p) p) (hs : c.norm.tx.length ≤ 1000000000) : ItemC C R xs ts c o p := by
 cases c with
 | field nm t d a b wh => exact item_field hx ht hok hn hX hY hs
 | pack w l => exact item_pack hok hs
end
end Go.Proofs.YtidnlfkakhmadaaGreatDoor

namespace Go.Proofs.YtidnlfkakhmadaaGreatDoor
open Go.RowKit

abbrev Tbld : TypeId := 36
theorem under_pb : Tryz.prog.underlying 34 = some (.pointer Tbld) := by kernel_rfl
theorem under_up : Tryz.prog.underlying 108 = some .unsafePointer := by kernel_rfl
theorem size_bld : (Tryz.prog.info? Tbld).map (·.size) = some 2 := by kernel_rfl
theorem lies_bld : liesAt Tryz.prog Tryz.prog.depth Tbld (2 / Tryz.prog.cellsOf Tbld) 0 Tbld 1 = true := by kernel_rfl
theorem cc_used (b : Nat) (w : World) (h0 : w.cell? ⟨b, 0, none⟩ = some (.pointer (some ⟨b, 0, none⟩))) :
  Calls Tryz.prog 19 #[.pointer (some ⟨b, 0, none⟩)] w fun e w' => e = .returned (.tuple #[]) ∧ w' = w := by
 obtain ⟨j, hj, _⟩ := Option.map_eq_some_iff.1 size_bld
 go_enter Tryz.func19, Tryz.ntmps19
 go_wp2
 rw [Lib.run_neq_ptr_same w _ under_pb hj]
 go_wp2
 go_end0
 exact ⟨rfl, rfl⟩
theorem cc_fresh (b : Nat) (w : World) (h0 : w.cell? ⟨b, 0, none⟩ = some (.pointer none)) (hsh : w.shape? b = some (Tbld, 2)) (hfz : w.frozen? ⟨b, 0, none⟩ = false) :
  Calls Tryz.prog 19 #[.pointer (some ⟨b, 0, none⟩)] w fun e w' => e = .returned (.tuple #[]) ∧ w' = w.setCell ⟨b, 0, none⟩ (.pointer (some ⟨b, 0, none⟩)) := by
 obtain ⟨j, hj, hjs⟩ := Option.map_eq_some_iff.1 size_bld
 go_enter Tryz.func19, Tryz.ntmps19
 go_wp2
 rw [Lib.run_to_unsafe w ⟨b, 0, none⟩ under_pb under_up hj (by rw [hjs]; decide) hsh (Nat.zero_lt_succ 1)]
 simp only [Result.andThen]
 rw [Oper.upon_value]
 go_wp2
 rw [run_callFunc_extern Tryz.func41 (by kernel_rfl) (by kernel_rfl) (by kernel_rfl) (e := Extern.AbiNoEscape.same) (by kernel_rfl)]
 rw [Lib.run_noEscape]
 simp only [Result.andThen]
 rw [Oper.upon_value]
 go_wp2
 rw [Lib.run_from_unsafe w ⟨b, 0, none⟩ under_up under_pb hj hsh lies_bld]
 simp only [Result.andThen]
 rw [Oper.upon_value]
 go_wp2
 go_end0
 exact ⟨rfl, rfl⟩
theorem open_bld {ι : Nat → Value} {S : Nat → Prop} {w : World} {a x : CV} (h : BlkOk ι S w 0 (.obj [a, x] Tbld)) : ∃ b u0 u1, ι 0 = .pointer (some ⟨b, 0, none⟩) ∧ w.heap[b]? = some (.cells #[u0, u1] Tbld (0, 0)) ∧ VC ι S w a u0 ∧ VC ι S w x u1 ∧ ¬ S b := by
 obtain ⟨b, arr, ty, h1, h2, h3, h4⟩ := h
 obtain ⟨u0, l, e0, e1, h3⟩ := h3.cons_left
 obtain ⟨u1, rfl, e2⟩ := h3.one_left
 have hty : ty.1 = Tbld := by
  rcases ty.2 with h | h
  ·exact absurd h (by decide)
  ·exact h
 rw [hty] at h2
 refine ⟨b, u0, u1, h1, ?_, e1, e2, h4⟩
 rw [h2]
 congr 2
 apply Array.ext'
 rw [e0]
theorem bld_arg {ι : Nat → Value} {S : Nat → Prop} {w : World} {b : Nat} {vs : List Value} (h1 : ι 0 = .pointer (some ⟨b, 0, none⟩)) (h : All2 (V1 ι S w) [.c (.ptr 0 0)] vs) : vs = [.pointer (some ⟨b, 0, none⟩)] := by
 obtain ⟨v, rfl, b', e1, e2⟩ := h.one_left
 rw [h1] at e1
 cases e1
 rw [e2]
theorem copyCheck_used (x : CV) (nx : Nat) : CallsM Tryz.prog Γ0 19 [(0, .obj [.ptr 0 0, x] Tbld)] nx [.c (.ptr 0 0)] (.tup []) [(0, .obj [.ptr 0 0, x] Tbld)] [] := by
 refine ⟨⟨_, Tryz.func19, by kernel_rfl, rfl⟩, fun ι S w vs hs _ hblk hdst hvs => ?_⟩
 have hb := hblk _ (List.mem_singleton.2 rfl)
 obtain ⟨b, u0, u1, h1, h2, h3, h4, h5⟩ := open_bld hb
 obtain rfl := bld_arg h1 hvs
 obtain ⟨b', e1, rfl⟩ := h3
 rw [h1] at e1
 cases e1
 refine (cc_used b w (by simp [World.cell?, h2])).mono fun e w' ⟨he, hw⟩ => ?_
 subst he; subst hw
 refine .inl ⟨_, ι, S, rfl, ⟨[], rfl, .nil⟩, fun _ _ => rfl, fun _ h => h, fun _ h => .inl h, hs, rfl, rfl, rfl, Nat.le_refl _, fun _ _ _ => rfl, fun k b hk => ?_, (fun _ _ h => by simp at h), (fun _ _ h => by simp at h), (fun _ _ _ _ _ h => by simp at h)⟩
 simp only [List.mem_singleton, Prod.mk.injEq] at hk
 obtain ⟨rfl, rfl⟩ := hk
 exact hb
theorem copyCheck_fresh (x : CV) (nx : Nat) : CallsM Tryz.prog Γ0 19 [(0, .obj [.d (.v (.pointer none)), x] Tbld)] nx [.c (.ptr 0 0)] (.tup []) [(0, .obj [.ptr 0 0, x] Tbld)] [] := by
 refine ⟨⟨_, Tryz.func19, by kernel_rfl, rfl⟩, fun ι S w vs hs _ hblk hdst hvs => ?_⟩
 obtain ⟨b, u0, u1, h1, h2, h3, h4, h5⟩ := open_bld (hblk _ (List.mem_singleton.2 rfl))
 obtain rfl := bld_arg h1 hvs
 obtain rfl : u0 = .pointer none := by have h' : Imm S w _ u0 := h3; cases h'; rfl
 refine (cc_fresh b w (by simp [World.cell?, h2]) (by simp [World.shape?, h2]) (by simp [World.frozen?, h2])).mono fun e w' ⟨he, hw⟩ => ?_
 subst he; subst hw
 have hother : ∀ b', b' ≠ b → (w.setCell ⟨b, 0, none⟩ (.pointer (some ⟨b, 0, none⟩))).heap[b']? = w.heap[b']? := fun b' hb' => Go.heap_setCell_other w _ _ _ hb'
 have hown := Go.heap_setCell_same w b 0 _ _ (.pointer (some ⟨b, 0, none⟩)) h2
 refine .inl ⟨_, ι, S, rfl, ⟨[], rfl, .nil⟩, fun _ _ => rfl, fun _ h => h, fun _ h => .inl h, (fun b' hb' => by have := hs b' hb'; simpa using this), rfl, rfl, rfl, by simp, fun b' _ hne => hother b' (fun e => ?_), fun k b' hk => ?_, (fun _ _ h => by simp at h), (fun _ _ h => by simp at h), (fun _ _ _ _ _ h => by simp at h)⟩
 ·subst e
  exact hne 0 (by simp) (by rw [h1]; rfl)
 ·simp only [List.mem_singleton, Prod.mk.injEq] at hk
  obtain ⟨rfl, rfl⟩ := hk
  exact ⟨b, _, ⟨Tbld, .inr rfl⟩, h1, hown, .cons ⟨b, h1, rfl⟩ (.cons (VC.mono (fun b' hb' => hother b' (fun e => by subst e; exact h5 hb')) (fun _ h => h) (fun _ _ => rfl) h4) .nil), h5⟩
abbrev Tu8 : TypeId := 5
theorem u8_info : InfoU8 Tryz.prog Tu8 := by
 have h : ∃ i, Tryz.prog.info? Tu8 = some i ∧ i.zero = some (.int .u8 0) ∧ i.size = 1 ∧ i.bytes = 1 := info_parts (by kernel_rfl)
 exact h
abbrev Brow (l : List UInt8) : Blk := .row 1 Tu8 (byteRows l)
theorem byteRows_app (l m : List UInt8) : byteRows l ++ byteRows m = byteRows (l ++ m) := by simp [byteRows]
theorem byteRows_len (l : List UInt8) : (byteRows l).length = l.length := by simp [byteRows]
theorem cc_row (a : CV) (ha : a = .d (.v (.pointer none)) ∨ a = .ptr 0 0) (l : List UInt8) : CallsM Tryz.prog Γ0 19 [(0, .obj [a, .row 1] Tbld), (1, Brow l)] 2 [.c (.ptr 0 0)] (.tup []) [(0, .obj [.ptr 0 0, .row 1] Tbld)] [] := by
 rcases ha with rfl | rfl
 ·exact CallsM.more (copyCheck_fresh (.row 1) 2) (by simp)
 ·exact CallsM.more (copyCheck_used (.row 1) 2) (by simp)
theorem WriteString_c (a : CV) (ha : a = .d (.v (.pointer none)) ∨ a = .ptr 0 0) (l : List UInt8) (s : ByteArray) (h : l.length + s.size ≤ 140737488355328) :
  CallsM Tryz.prog Γ0 8 [(0, .obj [a, .row 1] Tbld), (1, Brow l)] 2 [.c (.ptr 0 0), c1 (ds s)] (.tup [c1 (di s.size), c1 (.v .nilIface)]) [(0, .obj [.ptr 0 0, .row 2] Tbld), (1, .dead)] [Brow (l ++ s.data.toList)] := by
 have hcc := cc_row a ha l
 have e := byteRows_app l s.data.toList
 have hl : (byteRows l).length + s.size ≤ 140737488355328 := by rw [byteRows_len]; exact h
 rcases ha with rfl | rfl
 all_goals
  refine fn_ruleM (C := ⟨Tryz.prog, layF, Tryz.f8.ntmps, Γ0, 2, [], []⟩) layF_ok mixed Tryz.func8 rfl (by kernel_rfl) rfl rfl rfl ?_
  refine ex_callM hcc ?_
  refine ⟨u8_info, hl, ?_⟩
  refine ex_is _ e ?_
  exact ⟨rfl, TLe.rfl, rfl, rfl⟩
end Go.Proofs.YtidnlfkakhmadaaGreatDoor

namespace Go.Proofs.YtidnlfkakhmadaaGreatDoor
open Go.RowKit

theorem byteRows_ne {l : List UInt8} (h : l ≠ []) : 0 < (byteRows l).length := by rw [byteRows_len]; exact List.length_pos_iff.2 h
theorem String_c (l : List UInt8) (hn : l ≠ []) :
  CallsM Tryz.prog Γ0 9 [(0, .obj [.ptr 0 0, .row 1] Tbld), (1, Brow l)] 2 [.c (.ptr 0 0)] (.o (c1 (ds ⟨l.toArray⟩))) [(0, .obj [.ptr 0 0, .row 1] Tbld), (1, .dead)] [] := by
 have h0 := byteRows_ne hn
 have hl : (byteRows l).length = l.length := byteRows_len l
 refine fn_ruleM (C := ⟨Tryz.prog, layF, Tryz.f9.ntmps, Γ0, 2, [], []⟩) layF_ok mixed Tryz.func9 rfl (by kernel_rfl) rfl rfl rfl ?_
 refine ⟨h0, ?_⟩
 refine ex_is l.length hl ?_
 refine ⟨⟨by kernel_rfl, by kernel_rfl⟩, rfl, rfl, rfl, rfl, l, rfl, hn, rfl, ?_⟩
 refine ⟨by kernel_rfl, ?_⟩
 exact ⟨rfl, TLe.rfl, rfl, rfl⟩
section
variable {C R : D} {xs : List EX} {ts : List TY}
theorem joinP (p : List UInt8) (l : List (List UInt8)) : Lib.join (p :: l) [44, 32] = p ++ commaX l := by
 rw [Lib.join_cons]
 congr 1
 induction l with
 | nil => rfl
 | cons d l ih =>
  have : Lib.joinTail [44, 32] (d :: l) = [44, 32] ++ d ++ Lib.joinTail [44, 32] l := by
   unfold Lib.joinTail
   simp
  rw [this, ih]
  rfl
theorem head_c (ps : List (List UInt8)) (hl : ps.length ≤ 64) (hs : (parX ps).length ≤ 1000000000) (h0 : ps ≠ []) : CallsA Tryz.prog ΓV 28 [c1 (.sl 1 (ps.map fun p => [ds (bs p)])), c1 (ds (bs [44, 32]))] (Tstr (bs (Lib.join ps [44, 32]))) := by
 have hmj : (ps.map bs).map (·.data.toList) = ps := by rw [List.map_map]; exact List.map_id'' (fun _ => rfl) ps
 have hjl : (Lib.join ps [44, 32]).length ≤ 1000000000 := by
  cases ps with
  | nil => exact absurd rfl h0
  | cons p l =>
   rw [joinP]
   have hs : (40 :: (p ++ (commaX l ++ [41]))).length ≤ 1000000000 := hs
   simp only [List.length_append, List.length_cons, List.length_nil] at hs ⊢
   omega
 have hjc := join_c ΓV (ps.map bs) (bs [44, 32]) (by rw [show (bs [44, 32]).data.toList = [44, 32] from rfl, hmj]; omega) (by rw [List.length_map]; omega)
 rw [show (bs [44, 32]).data.toList = [44, 32] from rfl, hmj] at hjc
 have : dstrs (ps.map bs) = .sl 1 (ps.map fun p => [ds (bs p)]) := by unfold dstrs; rw [List.map_map]; rfl
 rw [this] at hjc
 exact hjc
theorem sitI_len : ∀ (l : List CI) (o p : Nat), (itI l o p).length = l.length
 | [], _, _ => rfl
 | c :: l, o, p => by rw [itI, List.length_cons, List.length_cons, sitI_len l]
set_option maxHeartbeats 8000000 in
theorem srecord_c (hx : xs.length ≤ 1000000) (ht : ts.length ≤ 1000000) (r : CR) (o p : Nat) (hok : r.ok) (hn : ∀ c ∈ r.its, c.nums) (hX : Lys xs (itX r.its o) o) (hY : Lys ts (itY r.its o p) p) (hs : r.norm.tx.length ≤ 1000000000) (left : Nat) (h3 : left + (itSx r.its + itSt r.its) ≤ 100000000) :
  CallsM Tryz.prog ΓV 62 (PrM (GF C R xs ts) (left + (itSx r.its + itSt r.its))) 1 [.c (.ptr 0 0), gD (rcD (r.rc o p))] (Tstr (bs r.norm.tx)) (PrM (GF C R xs ts) left) [] := by
 obtain ⟨-, -, hok1, hok2, hok3⟩ := hok
 obtain ⟨nm, ps, its⟩ := r
 have hok1 : ps.length ≤ 64 := hok1
 have hok2 : its.length ≤ 64 := hok2
 have hok3 : ∀ c ∈ its, c.ok := hok3
 have hn : ∀ c ∈ its, c.nums := hn
 have hX : Lys xs (itX its o) o := hX
 have hY : Lys ts (itY its o p) p := hY
 have h3 : left + (itSx its + itSt its) ≤ 100000000 := h3
 have hmp : (ps.map fun p => [ds (bs p)]).length = ps.length := List.length_map _
 obtain ⟨I0, hI0⟩ : ∃ l, itI its o p = l := ⟨_, rfl⟩
 have hI0l : I0.length = its.length := by rw [← hI0, sitI_len]
 have hmi : (I0.map itD).length = its.length := by rw [List.length_map, hI0l]
 have hs : (w_struct ++ 32 :: (nm ++ (parX ps ++ 32 :: 123 :: 10 :: (itTx (its.map CI.norm) ++ [125, 10])))).length ≤ 1000000000 := hs
 have hsl := hs
 simp only [List.length_append, List.length_cons, List.length_nil] at hsl
 have hws : w_struct.length = 6 := rfl
 obtain ⟨T0, hT0⟩ : ∃ T, [115, 116, 114, 117, 99, 116, 32] ++ (nm ++ parX ps) ++ [32, 123] ++ [10] = T := ⟨_, rfl⟩
 have hT0l : T0.length = nm.length + (parX ps).length + 10 := by rw [← hT0]; simp only [List.length_append, List.length_cons, List.length_nil]; omega
 have htx : (CR.mk nm ps its).norm.tx = T0 ++ itTx (its.map CI.norm) ++ [125] ++ [10] := by
  show w_struct ++ 32 :: (nm ++ (parX ps ++ 32 :: 123 :: 10 :: (itTx (its.map CI.norm) ++ [125, 10]))) = _
  rw [← hT0]
  simp
 rw [htx]
 show CallsM _ _ _ (PrM (GF C R xs ts) (left + (itSx its + itSt its))) _ [_, gD [ds (bs nm), .sl 1 (ps.map fun p => [ds (bs p)]), .sl 9 ((itI its o p).map itD)]] _ _ _
 rw [hI0]
 clear htx hs
 have hgoal : bs (T0 ++ itTx (its.map CI.norm) ++ [125] ++ [10]) = bs (T0 ++ itTx (its.map CI.norm)) ++ bs [125] ++ bs [10] := by rw [bs_app, bs_app]
 rw [hgoal]
 have hfin : (T0 ++ itTx (its.map CI.norm)).length ≤ 999999998 := by rw [List.length_append]; omega
 obtain ⟨TT, hTT⟩ : ∃ T, T0 ++ itTx (its.map CI.norm) = T := ⟨_, rfl⟩
 rw [hTT] at hfin ⊢
 have hstep : ∀ {q : Nat} {l : List CI} {a b : Nat} {tx : List UInt8} {k : Nat}, q < its.length → its.drop q = l → I0.drop q = itI l a b → Lys xs (itX l a) a → Lys ts (itY l a b) b → tx ++ itTx (l.map CI.norm) = TT → k = left + (itSx l + itSt l) → k ≤ 100000000 →
   ∃ c l', I0[q]? = some (c.it a b) ∧ its.drop (q + 1) = l' ∧ I0.drop (q + 1) = itI l' (a + c.sx) (b + c.st) ∧ Lys xs (itX l' (a + c.sx)) (a + c.sx) ∧ Lys ts (itY l' (a + c.sx) (b + c.st)) (b + c.st) ∧ tx ++ [32, 32] ++ c.norm.tx ++ [10] ++ itTx (l'.map CI.norm) = TT ∧ tx.length + c.norm.tx.length + 3 ≤ 999999998 ∧ ItemC C R xs ts c a b ∧ k = left + (itSx l' + itSt l') + (c.sx + c.st) := by
  intro q l a b tx k hq hdl hdrop hX2 hY2 htx2 hk2 hk3
  have hql : q < I0.length := by omega
  rw [List.drop_eq_getElem_cons hql] at hdrop
  rw [List.drop_eq_getElem_cons hq] at hdl
  have hcq := at_some hql
  have hmem : its[q] ∈ its := List.getElem_mem hq
  generalize its[q] = c at *
  subst hdl
  obtain ⟨hd1, hd2⟩ := List.cons.inj hdrop
  have htx3 : tx ++ 32 :: 32 :: (c.norm.tx ++ 10 :: itTx ((its.drop (q + 1)).map CI.norm)) = TT := htx2
  have hlen2 := congrArg List.length htx3
  simp only [List.length_append, List.length_cons, List.length_nil] at hlen2
  have hXr := hX2.right
  rw [c.fx_len] at hXr
  have hYr := hY2.right
  rw [c.ft_len] at hYr
  have hk4 : k = left + (c.sx + itSx (its.drop (q + 1)) + (c.st + itSt (its.drop (q + 1)))) := hk2
  refine ⟨c, _, by rw [hcq, hd1], rfl, hd2, hXr, hYr, by rw [← htx3]; simp, by omega, item_all hx ht c a b (hok3 c hmem) (hn c hmem) hX2.left hY2.left (by omega), by omega⟩
 have hend : ∀ {l : List CI} {tx : List UInt8} {k : Nat}, its.drop its.length = l → tx ++ itTx (l.map CI.norm) = TT → k = left + (itSx l + itSt l) → tx = TT ∧ k = left := by
  intro l tx k hdl htx2 hk2
  rw [List.drop_length] at hdl
  subst hdl
  rw [← htx2]
  exact ⟨(List.append_nil _).symm, hk2⟩
 cases ps with
 | nil =>
  have q1 : (bs [115, 116, 114, 117, 99, 116, 32]).size + (bs nm).size ≤ 9223372036854775807 := by simp only [bsz, List.length_cons, List.length_nil]; omega
  have q2 : (bs [115, 116, 114, 117, 99, 116, 32] ++ bs nm).size + (bs [32, 123]).size ≤ 9223372036854775807 := by simp only [ByteArray.size_append, bsz, List.length_cons, List.length_nil]; omega
  have q3 : (bs [115, 116, 114, 117, 99, 116, 32] ++ bs nm ++ bs [32, 123]).size + (bs [10]).size ≤ 9223372036854775807 := by simp only [ByteArray.size_append, bsz, List.length_cons, List.length_nil]; omega
  refine fn_ruleM (C := ⟨Tryz.prog, layF, Tryz.f62.ntmps, ΓV, 1, [], []⟩) layF_ok mixed Tryz.func62 rfl (by kernel_rfl) rfl rfl rfl ?_
  repeat' (first | refine (ex_is _ hmi) ?_ | refine qg1 ?_ | refine eD ?_ ?_ <;> intro)
  have hT0b : bs [115, 116, 114, 117, 99, 116, 32] ++ bs nm ++ bs [32, 123] ++ bs [10] = bs T0 := by rw [bs_app, bs_app, bs_app, ← hT0]; congr 1; show _ = [115, 116, 114, 117, 99, 116, 32] ++ (nm ++ []) ++ [32, 123] ++ [10]; rw [List.append_nil]
  refine ex_loop (X := Nat × List CI × Nat × Nat × ByteArray × List UInt8 × Nat) (fun ⟨q, l, a, b, B, tx, k⟩ => ⟨[(0, .o (.c (.ptr 0 0))), (6, .o (c1 (ds B))), (27, .o (c1 (.sl 9 (I0.map itD)))), (28, Ti its.length), (29, Ti q)], [(0, .obj [.eptr (GF C R xs ts), .d (di k), .d (db false)])], 2⟩) (fun x => its.length - x.1)
   (fun ⟨q, l, a, b, B, tx, k⟩ => q ≤ its.length ∧ B = bs tx ∧ its.drop q = l ∧ I0.drop q = itI l a b ∧ Lys xs (itX l a) a ∧ Lys ts (itY l a b) b ∧ tx ++ itTx (l.map CI.norm) = TT ∧ k = left + (itSx l + itSt l) ∧ k ≤ 100000000) (0, its, o, p, bs [115, 116, 114, 117, 99, 116, 32] ++ bs nm ++ bs [32, 123] ++ bs [10], T0, left + (itSx its + itSt its)) ⟨Nat.zero_le _, hT0b, rfl, hI0.symm, hX, hY, hTT, rfl, by omega⟩ sS ?_
  rintro ⟨q, l, a, b, B, tx, k⟩ ⟨hq, rfl, hdl, hdrop, hX2, hY2, htx2, hk2, hk3⟩
  refine ex_dec (fun hh => ?_) (fun hh => ?_)
  ·obtain ⟨c, l', k1, k2, k3, k4, k5, k6, k7, k8, k9⟩ := hstep (by omega) hdl hdrop hX2 hY2 htx2 hk2 hk3
   have hkk := k8 (left + (itSx l' + itSt l')) (by omega)
   rw [← k9] at hkk
   generalize c.it a b = y at *
   obtain ⟨y1, y2, y3, y4, y5, y6, y7, y8, y9⟩ := y
   have hkk : CallsM Tryz.prog ΓV 77 (PrM (GF C R xs ts) k) 1 [.c (.ptr 0 0), gD [ds (bs y1), di y2, di y3, ds (bs y4), ds (bs y5), di y6, di y7, db y8, .sl 2 (y9.map sbD)]] (Tstr (bs c.norm.tx)) (PrM (GF C R xs ts) (left + (itSx l' + itSt l'))) [] := hkk
   have p1 : (bs [32, 32]).size + (bs c.norm.tx).size ≤ 9223372036854775807 := by simp only [bsz, List.length_cons, List.length_nil]; omega
   have p2 : (bs [32, 32] ++ bs c.norm.tx).size + (bs [10]).size ≤ 9223372036854775807 := by simp only [ByteArray.size_append, bsz, List.length_cons, List.length_nil]; omega
   have p3 : (bs tx).size + (bs [32, 32] ++ bs c.norm.tx ++ bs [10]).size ≤ 9223372036854775807 := by simp only [ByteArray.size_append, bsz, List.length_cons, List.length_nil]; omega
   have hnew : bs tx ++ (bs [32, 32] ++ bs c.norm.tx ++ bs [10]) = bs (tx ++ [32, 32] ++ c.norm.tx ++ [10]) := by
    rw [bs_app, bs_app, bs_app]
    congr 1
    simp
   have hround : q + 1 ≤ its.length := by omega
   generalize hla : left + (itSx l' + itSt l') = la at *
   clear k8 hstep hend
   repeat' (first | refine (ex_rowF q _ [ds (bs y1), di y2, di y3, ds (bs y4), ds (bs y5), di y6, di y7, db y8, .sl 2 (y9.map sbD)] rfl k1 rfl) ?_ | refine (ex_is _ hmi) ?_ | refine qg1 ?_ | refine eD ?_ ?_ <;> intro)
   refine sC (CallsM.ren (hkk) [0] 3 rfl rfl rfl rfl) ?_
   repeat' (first | refine aI ((q + 1 : Nat) : Int) ?_ | refine aU ((q + 1 : Nat) : Int) ?_ | refine aB ((q + 1 : Nat) : Int) ?_ | refine qg1 ?_ | refine eD ?_ ?_ <;> intro)
   exact ex_round (q + 1, l', a + c.sx, b + c.st, bs tx ++ (bs [32, 32] ++ bs c.norm.tx ++ bs [10]), tx ++ [32, 32] ++ c.norm.tx ++ [10], la) ⟨hround, hnew, k2, k3, k4, k5, k6, hla.symm, by omega⟩ (by show _ - _ < _ - _; omega) sS
  ·obtain rfl : q = its.length := by omega
   obtain ⟨rfl, rfl⟩ := hend hdl htx2 hk2
   have p1 : (bs tx).size + (bs [125]).size ≤ 9223372036854775807 := by simp only [bsz, List.length_cons, List.length_nil]; omega
   have p2 : (bs tx ++ bs [125]).size + (bs [10]).size ≤ 9223372036854775807 := by simp only [ByteArray.size_append, bsz, List.length_cons, List.length_nil]; omega
   repeat' (first | refine qgs ?_ | refine eD ?_ ?_ <;> intro)
   exact ⟨rfl, TLe.rfl, rfl, rfl⟩
 | cons u v =>
  have hj := head_c (u :: v) hok1 (by omega) (by intro h; cases h)
  rw [joinP] at hj
  have hpx : (parX (u :: v)).length = (u ++ commaX v).length + 2 := by
   show (40 :: (u ++ (commaX v ++ [41]))).length = _
   simp only [List.length_append, List.length_cons, List.length_nil]
   omega
  have hpx2 : parX (u :: v) = [40] ++ (u ++ commaX v) ++ [41] := by
   show 40 :: (u ++ (commaX v ++ [41])) = _
   simp
  have hmp : ((u :: v).map fun p => [ds (bs p)]).length = v.length + 1 := by rw [List.length_map, List.length_cons]
  have q1 : (bs [40]).size + (bs (u ++ commaX v)).size ≤ 9223372036854775807 := by simp only [bsz, List.length_cons, List.length_nil]; omega
  have q2 : (bs [40] ++ bs (u ++ commaX v)).size + (bs [41]).size ≤ 9223372036854775807 := by simp only [ByteArray.size_append, bsz, List.length_cons, List.length_nil]; omega
  have q3 : (bs nm).size + (bs [40] ++ bs (u ++ commaX v) ++ bs [41]).size ≤ 9223372036854775807 := by simp only [ByteArray.size_append, bsz, List.length_cons, List.length_nil]; omega
  have q4 : (bs [115, 116, 114, 117, 99, 116, 32]).size + (bs nm ++ (bs [40] ++ bs (u ++ commaX v) ++ bs [41])).size ≤ 9223372036854775807 := by simp only [ByteArray.size_append, bsz, List.length_cons, List.length_nil]; omega
  have q5 : (bs [115, 116, 114, 117, 99, 116, 32] ++ (bs nm ++ (bs [40] ++ bs (u ++ commaX v) ++ bs [41]))).size + (bs [32, 123]).size ≤ 9223372036854775807 := by simp only [ByteArray.size_append, bsz, List.length_cons, List.length_nil]; omega
  have q6 : (bs [115, 116, 114, 117, 99, 116, 32] ++ (bs nm ++ (bs [40] ++ bs (u ++ commaX v) ++ bs [41])) ++ bs [32, 123]).size + (bs [10]).size ≤ 9223372036854775807 := by simp only [ByteArray.size_append, bsz, List.length_cons, List.length_nil]; omega
  generalize u ++ commaX v = jj at *
  generalize (u :: v).map (fun p => [ds (bs p)]) = pr at *
  refine fn_ruleM (C := ⟨Tryz.prog, layF, Tryz.f62.ntmps, ΓV, 1, [], []⟩) layF_ok mixed Tryz.func62 rfl (by kernel_rfl) rfl rfl rfl ?_
  repeat' (first | refine ex_call hj ?_ | refine (ex_is _ hmi) ?_ | refine (ex_is _ hmp) ?_ | refine qg1 ?_ | refine eD ?_ ?_ <;> intro)
  have hT0b : bs [115, 116, 114, 117, 99, 116, 32] ++ (bs nm ++ (bs [40] ++ bs jj ++ bs [41])) ++ bs [32, 123] ++ bs [10] = bs T0 := by rw [bs_app, bs_app, bs_app, bs_app, bs_app, bs_app, ← hT0, hpx2]
  refine ex_loop (X := Nat × List CI × Nat × Nat × ByteArray × List UInt8 × Nat) (fun ⟨q, l, a, b, B, tx, k⟩ => ⟨[(0, .o (.c (.ptr 0 0))), (6, .o (c1 (ds B))), (27, .o (c1 (.sl 9 (I0.map itD)))), (28, Ti its.length), (29, Ti q)], [(0, .obj [.eptr (GF C R xs ts), .d (di k), .d (db false)])], 2⟩) (fun x => its.length - x.1)
   (fun ⟨q, l, a, b, B, tx, k⟩ => q ≤ its.length ∧ B = bs tx ∧ its.drop q = l ∧ I0.drop q = itI l a b ∧ Lys xs (itX l a) a ∧ Lys ts (itY l a b) b ∧ tx ++ itTx (l.map CI.norm) = TT ∧ k = left + (itSx l + itSt l) ∧ k ≤ 100000000) (0, its, o, p, bs [115, 116, 114, 117, 99, 116, 32] ++ (bs nm ++ (bs [40] ++ bs jj ++ bs [41])) ++ bs [32, 123] ++ bs [10], T0, left + (itSx its + itSt its)) ⟨Nat.zero_le _, hT0b, rfl, hI0.symm, hX, hY, hTT, rfl, by omega⟩ sS ?_
  rintro ⟨q, l, a, b, B, tx, k⟩ ⟨hq, rfl, hdl, hdrop, hX2, hY2, htx2, hk2, hk3⟩
  refine ex_dec (fun hh => ?_) (fun hh => ?_)
  ·obtain ⟨c, l', k1, k2, k3, k4, k5, k6, k7, k8, k9⟩ := hstep (by omega) hdl hdrop hX2 hY2 htx2 hk2 hk3
   have hkk := k8 (left + (itSx l' + itSt l')) (by omega)
   rw [← k9] at hkk
   generalize c.it a b = y at *
   obtain ⟨y1, y2, y3, y4, y5, y6, y7, y8, y9⟩ := y
   have hkk : CallsM Tryz.prog ΓV 77 (PrM (GF C R xs ts) k) 1 [.c (.ptr 0 0), gD [ds (bs y1), di y2, di y3, ds (bs y4), ds (bs y5), di y6, di y7, db y8, .sl 2 (y9.map sbD)]] (Tstr (bs c.norm.tx)) (PrM (GF C R xs ts) (left + (itSx l' + itSt l'))) [] := hkk
   have p1 : (bs [32, 32]).size + (bs c.norm.tx).size ≤ 9223372036854775807 := by simp only [bsz, List.length_cons, List.length_nil]; omega
   have p2 : (bs [32, 32] ++ bs c.norm.tx).size + (bs [10]).size ≤ 9223372036854775807 := by simp only [ByteArray.size_append, bsz, List.length_cons, List.length_nil]; omega
   have p3 : (bs tx).size + (bs [32, 32] ++ bs c.norm.tx ++ bs [10]).size ≤ 9223372036854775807 := by simp only [ByteArray.size_append, bsz, List.length_cons, List.length_nil]; omega
   have hnew : bs tx ++ (bs [32, 32] ++ bs c.norm.tx ++ bs [10]) = bs (tx ++ [32, 32] ++ c.norm.tx ++ [10]) := by
    rw [bs_app, bs_app, bs_app]
    congr 1
    simp
   have hround : q + 1 ≤ its.length := by omega
   generalize hla : left + (itSx l' + itSt l') = la at *
   clear k8 hstep hend
   repeat' (first | refine (ex_rowF q _ [ds (bs y1), di y2, di y3, ds (bs y4), ds (bs y5), di y6, di y7, db y8, .sl 2 (y9.map sbD)] rfl k1 rfl) ?_ | refine (ex_is _ hmi) ?_ | refine qg1 ?_ | refine eD ?_ ?_ <;> intro)
   refine sC (CallsM.ren (hkk) [0] 3 rfl rfl rfl rfl) ?_
   repeat' (first | refine aI ((q + 1 : Nat) : Int) ?_ | refine aU ((q + 1 : Nat) : Int) ?_ | refine aB ((q + 1 : Nat) : Int) ?_ | refine qg1 ?_ | refine eD ?_ ?_ <;> intro)
   exact ex_round (q + 1, l', a + c.sx, b + c.st, bs tx ++ (bs [32, 32] ++ bs c.norm.tx ++ bs [10]), tx ++ [32, 32] ++ c.norm.tx ++ [10], la) ⟨hround, hnew, k2, k3, k4, k5, k6, hla.symm, by omega⟩ (by show _ - _ < _ - _; omega) sS
  ·obtain rfl : q = its.length := by omega
   obtain ⟨rfl, rfl⟩ := hend hdl htx2 hk2
   have p1 : (bs tx).size + (bs [125]).size ≤ 9223372036854775807 := by simp only [bsz, List.length_cons, List.length_nil]; omega
   have p2 : (bs tx ++ bs [125]).size + (bs [10]).size ≤ 9223372036854775807 := by simp only [ByteArray.size_append, bsz, List.length_cons, List.length_nil]; omega
   repeat' (first | refine qgs ?_ | refine eD ?_ ?_ <;> intro)
   exact ⟨rfl, TLe.rfl, rfl, rfl⟩
end
end Go.Proofs.YtidnlfkakhmadaaGreatDoor
