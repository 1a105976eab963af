/- Texts that the last one leans on: The parser's small functions over its tokens. Conditions: the place within the tokens. The parser's expressions. Conditions: the tokens end with the end; at most 100000 of them. The parser's lines of operators; its expressions. Conditions: the tokens end with the end; at most 100000 of them. The parser's types: brackets, arrays, references. Conditions: the tokens end with the end; at most 100000 of them. The parser's references. Conditions: the tokens end with the end; at most 100000 of them. The parser's switches. Conditions: the tokens end with the end; at most 100000 of them. The parser's types. Conditions: the tokens end with the end; at most 100000 of them. The parser's types that begin with a word. Conditions: the tokens end with the end; at most 100000 of them. The parser's items: how a field is derived; fields. Conditions: the tokens end with the end; at most 100000 of them. The parser's fields and packs; consts. Conditions: the tokens end with the end; at most 100000 of them. Plain law of the parser: the place never goes back; a field and a pack read at least one token. No condition. The parser's packs. Conditions: the tokens end with the end; at most 100000 of them. The parser's structs. Conditions: the tokens end with the end; at most 100000 of them. The parser of a whole description. Conditions: the tokens end with the end; at most 100000 of them. Parse's deferred closure. Condition: none. Parse: the file of a description. Conditi -/
import Derived.WalkKit
import Derived.Test.YtoingpafcodojaaGreatDoorBnd1
import Derived.Test.YtoingpafcodojaaGreatDoorBnd2
import Derived.Test.YtoingpafcodojaaGreatDoorBnd3
set_option linter.unusedVariables false
set_option linter.unusedSimpArgs false
set_option maxRecDepth 100000
namespace Go.Proofs.YtoingpafcodojaaGreatDoor
open Go.RowKit

section
variable {L : List TokP} {m : Nat}
theorem is_c (i : Nat) (h : i < L.length) (t : List UInt8) : CallsM Tryz.prog ΓL 38 [(0, Qz L m i)] 2 [P0, c1 (ds (bs t))] (Tb (isV L i t)) [(0, Qz L m i)] [] := by
 have ha := ahead_c (L := L) (m := m) i h
 obtain ⟨R, hR⟩ : ∃ R, isV L i t = R := ⟨_, rfl⟩
 rw [hR]
 unfold isV at hR
 generalize tk L i = u at *
 by_cases hk : u.k = 3
 ·obtain rfl : false = R := by rw [← hR]; simp [hk]
  refine fn_ruleM (C := ⟨Tryz.prog, layF, Tryz.f38.ntmps, ΓL, 2, [], []⟩) layF_ok mixed Tryz.func38 rfl (by kernel_rfl) rfl rfl rfl ?_
  refine ex_callM (CallsM.ren (ha) [0, 1] 2 rfl rfl rfl rfl) ?_
  repeat' (first | refine qgs ?_ | refine eD ?_ ?_ <;> intro)
  exact ⟨rfl, TLe.rfl, rfl, rfl⟩
 ·by_cases ht : u.t = t
  ·obtain rfl : true = R := by rw [← hR]; simp [hk, ht]
   refine fn_ruleM (C := ⟨Tryz.prog, layF, Tryz.f38.ntmps, ΓL, 2, [], []⟩) layF_ok mixed Tryz.func38 rfl (by kernel_rfl) rfl rfl rfl ?_
   refine ex_callM (CallsM.ren (ha) [0, 1] 2 rfl rfl rfl rfl) ?_
   repeat' (first | refine qgs ?_ | refine eD ?_ ?_ <;> intro)
   refine ex_callM (CallsM.ren (ha) [0, 1] 2 rfl rfl rfl rfl) ?_
   refine ex_true (by rw [ht]) ?_
   repeat' (first | refine qgs ?_ | refine eD ?_ ?_ <;> intro)
   exact ⟨rfl, TLe.rfl, rfl, rfl⟩
  ·obtain rfl : false = R := by rw [← hR]; simp [hk, ht]
   refine fn_ruleM (C := ⟨Tryz.prog, layF, Tryz.f38.ntmps, ΓL, 2, [], []⟩) layF_ok mixed Tryz.func38 rfl (by kernel_rfl) rfl rfl rfl ?_
   refine ex_callM (CallsM.ren (ha) [0, 1] 2 rfl rfl rfl rfl) ?_
   repeat' (first | refine qgs ?_ | refine eD ?_ ?_ <;> intro)
   refine ex_callM (CallsM.ren (ha) [0, 1] 2 rfl rfl rfl rfl) ?_
   refine ex_false (fun e => ht (bsj.1 e)) ?_
   repeat' (first | refine qgs ?_ | refine eD ?_ ?_ <;> intro)
   exact ⟨rfl, TLe.rfl, rfl, rfl⟩
theorem take_c (s : PS) (h : s.i < L.length) (hn : L.length ≤ 1000000) (t : List UInt8) : C0 L m 56 [c1 (ds (bs t))] (takeM L t) (fun _ => .tup []) s := by
 have hi := is_c (m := m) s.i h t
 refine C0.of fun T hT => ?_
 unfold takeM at hT
 rcases hv : isV L s.i t with _ | _ <;> rw [hv] at hi hT
 ·obtain rfl : PR.err s.i 4 = T := hT
  refine fn_ruleP (C := ⟨Tryz.prog, layF, Tryz.f56.ntmps, ΓL, 2, [], []⟩) layF_ok mixed Tryz.func56 rfl (by kernel_rfl) rfl rfl rfl SLe.rfl ?_
  refine ex_callM (CallsM.ren (hi) [0, 1] 2 rfl rfl rfl rfl) ?_
  repeat' (first | refine qgs ?_ | refine eD ?_ ?_ <;> intro)
  refine ex_callM (CallsM.ren ((fail_c s.i 4 h)) [0, 1] 2 rfl rfl rfl rfl) ?_
  exact ⟨⟨_, rfl, rfl⟩, rfl, rfl⟩
 ·obtain rfl : PR.ok () { s with i := s.i + 1 } = T := hT
  refine fn_ruleP (C := ⟨Tryz.prog, layF, Tryz.f56.ntmps, ΓL, 2, [], []⟩) layF_ok mixed Tryz.func56 rfl (by kernel_rfl) rfl rfl rfl SLe.rfl ?_
  refine ex_callM (CallsM.ren (hi) [0, 1] 2 rfl rfl rfl rfl) ?_
  repeat' (first | refine aI ((s.i + 1 : Nat) : Int) ?_ | refine aU ((s.i + 1 : Nat) : Int) ?_ | refine aB ((s.i + 1 : Nat) : Int) ?_ | refine qg1 ?_ | refine eD ?_ ?_ <;> intro)
  exact ⟨rfl, TLe.rfl, rfl, rfl⟩
theorem may_yes (i : Nat) (h : i < L.length) (hn : L.length ≤ 1000000) (t : List UInt8) (hv : isV L i t = true) : CallsM Tryz.prog ΓL 59 [(0, Qz L m i)] 2 [P0, c1 (ds (bs t))] (Tb true) [(0, Qz L m (i + 1))] [] := by
 have hi := is_c (m := m) i h t
 rw [hv] at hi
 refine fn_ruleM (C := ⟨Tryz.prog, layF, Tryz.f59.ntmps, ΓL, 2, [], []⟩) layF_ok mixed Tryz.func59 rfl (by kernel_rfl) rfl rfl rfl ?_
 refine ex_callM (CallsM.ren (hi) [0, 1] 2 rfl rfl rfl rfl) ?_
 repeat' (first | refine aI ((i + 1 : Nat) : Int) ?_ | refine aU ((i + 1 : Nat) : Int) ?_ | refine aB ((i + 1 : Nat) : Int) ?_ | refine qg1 ?_ | refine eD ?_ ?_ <;> intro)
 exact ⟨rfl, TLe.rfl, rfl, rfl⟩
theorem may_no (i : Nat) (h : i < L.length) (t : List UInt8) (hv : isV L i t = false) : CallsM Tryz.prog ΓL 59 [(0, Qz L m i)] 2 [P0, c1 (ds (bs t))] (Tb false) [(0, Qz L m i)] [] := by
 have hi := is_c (m := m) i h t
 rw [hv] at hi
 refine fn_ruleM (C := ⟨Tryz.prog, layF, Tryz.f59.ntmps, ΓL, 2, [], []⟩) layF_ok mixed Tryz.func59 rfl (by kernel_rfl) rfl rfl rfl ?_
 refine ex_callM (CallsM.ren (hi) [0, 1] 2 rfl rfl rfl rfl) ?_
 repeat' (first | refine qgs ?_ | refine eD ?_ ?_ <;> intro)
 exact ⟨rfl, TLe.rfl, rfl, rfl⟩
theorem named_c (i : Nat) (h : i < L.length) : CallsM Tryz.prog ΓL 60 [(0, Qz L m i)] 2 [P0] (Tb (namedV L i)) [(0, Qz L m i)] [] := by
 have ha := ahead_c (L := L) (m := m) i h
 obtain ⟨R, hR⟩ : ∃ R, namedV L i = R := ⟨_, rfl⟩
 rw [hR]
 unfold namedV at hR
 generalize tk L i = u at *
 have hk := (key_c u.t).gL
 generalize keyV u.t = q at *
 by_cases h0 : u.k = 0
 ·obtain rfl : (!q) = R := by rw [← hR, decide_eq_true h0]; rfl
  cases q
  all_goals
   refine fn_ruleM (C := ⟨Tryz.prog, layF, Tryz.f60.ntmps, ΓL, 2, [], []⟩) layF_ok mixed Tryz.func60 rfl (by kernel_rfl) rfl rfl rfl ?_
   refine ex_callM (CallsM.ren (ha) [0, 1] 2 rfl rfl rfl rfl) ?_
   repeat' (first | refine qgs ?_ | refine eD ?_ ?_ <;> intro)
   refine ex_callM (CallsM.ren (ha) [0, 1] 2 rfl rfl rfl rfl) ?_
   repeat' (first | refine ex_call hk ?_ | refine qg1 ?_ | refine eD ?_ ?_ <;> intro)
   exact ⟨rfl, TLe.rfl, rfl, rfl⟩
 ·obtain rfl : false = R := by rw [← hR, decide_eq_false h0]; rfl
  refine fn_ruleM (C := ⟨Tryz.prog, layF, Tryz.f60.ntmps, ΓL, 2, [], []⟩) layF_ok mixed Tryz.func60 rfl (by kernel_rfl) rfl rfl rfl ?_
  refine ex_callM (CallsM.ren (ha) [0, 1] 2 rfl rfl rfl rfl) ?_
  repeat' (first | refine qgs ?_ | refine eD ?_ ?_ <;> intro)
  exact ⟨rfl, TLe.rfl, rfl, rfl⟩
theorem name_c (s : PS) (h : s.i < L.length) (hn : L.length ≤ 1000000) : C0 L m 57 [] (nameM L) (fun w => Tstr (bs w)) s := by
 have hi := named_c (m := m) s.i h
 refine C0.of fun T hT => ?_
 unfold nameM at hT
 rcases hv : namedV L s.i with _ | _ <;> rw [hv] at hi hT
 ·obtain rfl : PR.err s.i 4 = T := hT
  refine fn_ruleP (C := ⟨Tryz.prog, layF, Tryz.f57.ntmps, ΓL, 2, [], []⟩) layF_ok mixed Tryz.func57 rfl (by kernel_rfl) rfl rfl rfl SLe.rfl ?_
  refine ex_callM (CallsM.ren (hi) [0, 1] 2 rfl rfl rfl rfl) ?_
  repeat' (first | refine qgs ?_ | refine eD ?_ ?_ <;> intro)
  refine ex_callM (CallsM.ren ((fail_c s.i 4 h)) [0, 1] 2 rfl rfl rfl rfl) ?_
  exact ⟨⟨_, rfl, rfl⟩, rfl, rfl⟩
 ·obtain rfl : PR.ok (tk L s.i).t { s with i := s.i + 1 } = T := hT
  refine fn_ruleP (C := ⟨Tryz.prog, layF, Tryz.f57.ntmps, ΓL, 2, [], []⟩) layF_ok mixed Tryz.func57 rfl (by kernel_rfl) rfl rfl rfl SLe.rfl ?_
  refine ex_callM (CallsM.ren (hi) [0, 1] 2 rfl rfl rfl rfl) ?_
  repeat' (first | refine aI ((s.i : Nat) : Int) ?_ | refine aU ((s.i : Nat) : Int) ?_ | refine aB ((s.i : Nat) : Int) ?_ | refine aI ((s.i + 1 : Nat) : Int) ?_ | refine aU ((s.i + 1 : Nat) : Int) ?_ | refine aB ((s.i + 1 : Nat) : Int) ?_ | refine (ex_row s.i _ rfl (tk_at h)) ?_ | refine qg1 ?_ | refine eD ?_ ?_ <;> intro)
  exact ⟨rfl, TLe.rfl, rfl, rfl⟩
theorem num_c (s : PS) (h : s.i < L.length) (hn : L.length ≤ 1000000) : C0 L m 58 [] (numberM L) (fun n => Tu n) s := by
 have ha := ahead_c (L := L) (m := m) s.i h
 refine C0.of fun T hT => ?_
 unfold numberM at hT
 by_cases hv : (tk L s.i).k = 1
 ·rw [if_pos hv] at hT
  subst hT
  refine fn_ruleP (C := ⟨Tryz.prog, layF, Tryz.f58.ntmps, ΓL, 2, [], []⟩) layF_ok mixed Tryz.func58 rfl (by kernel_rfl) rfl rfl rfl SLe.rfl ?_
  refine ex_callM (CallsM.ren (ha) [0, 1] 2 rfl rfl rfl rfl) ?_
  repeat' (first | refine aI ((s.i : Nat) : Int) ?_ | refine aU ((s.i : Nat) : Int) ?_ | refine aB ((s.i : Nat) : Int) ?_ | refine aI ((s.i + 1 : Nat) : Int) ?_ | refine aU ((s.i + 1 : Nat) : Int) ?_ | refine aB ((s.i + 1 : Nat) : Int) ?_ | refine (ex_row s.i _ rfl (tk_at h)) ?_ | refine qg1 ?_ | refine eD ?_ ?_ <;> intro)
  exact ⟨rfl, TLe.rfl, rfl, rfl⟩
 ·rw [if_neg hv] at hT
  obtain rfl : PR.err s.i 4 = T := hT
  refine fn_ruleP (C := ⟨Tryz.prog, layF, Tryz.f58.ntmps, ΓL, 2, [], []⟩) layF_ok mixed Tryz.func58 rfl (by kernel_rfl) rfl rfl rfl SLe.rfl ?_
  refine ex_callM (CallsM.ren (ha) [0, 1] 2 rfl rfl rfl rfl) ?_
  repeat' (first | refine qgs ?_ | refine eD ?_ ?_ <;> intro)
  refine ex_callM (CallsM.ren ((fail_c s.i 4 h)) [0, 1] 2 rfl rfl rfl rfl) ?_
  exact ⟨⟨_, rfl, rfl⟩, rfl, rfl⟩
theorem room_c (s : PS) (h : s.i < L.length) (n : Nat) (hn : n ≤ 1000000) : C0 L m 39 [c1 (di n), c1 (di 64)] (roomM n) (fun _ => .tup []) s := by
 refine C0.of fun T hT => ?_
 unfold roomM at hT
 by_cases hv : 64 ≤ n
 ·rw [if_pos hv] at hT
  obtain rfl : PR.err s.i 10 = T := hT
  refine fn_ruleP (C := ⟨Tryz.prog, layF, Tryz.f39.ntmps, ΓL, 2, [], []⟩) layF_ok mixed Tryz.func39 rfl (by kernel_rfl) rfl rfl rfl SLe.rfl ?_
  repeat' (first | refine qgs ?_ | refine eD ?_ ?_ <;> intro)
  refine ex_callM (CallsM.ren ((fail_c s.i 10 h)) [0, 1] 2 rfl rfl rfl rfl) ?_
  exact ⟨⟨_, rfl, rfl⟩, rfl, rfl⟩
 ·rw [if_neg hv] at hT
  subst hT
  refine fn_ruleP (C := ⟨Tryz.prog, layF, Tryz.f39.ntmps, ΓL, 2, [], []⟩) layF_ok mixed Tryz.func39 rfl (by kernel_rfl) rfl rfl rfl SLe.rfl ?_
  repeat' (first | refine qgs ?_ | refine eD ?_ ?_ <;> intro)
  exact ⟨rfl, TLe.rfl, rfl, rfl⟩
theorem begins_c (i : Nat) (h : i < L.length) : CallsM Tryz.prog ΓL 152 [(0, Qz L m i)] 2 [P0] (Tb (beginsV L i)) [(0, Qz L m i)] [] := by
 have ha := ahead_c (L := L) (m := m) i h
 have h1 := is_c (m := m) i h t_bang
 have h2 := is_c (m := m) i h t_lpar
 have h3 := named_c (m := m) i h
 unfold beginsV
 generalize isV L i t_bang = a at *
 generalize isV L i t_lpar = b at *
 generalize namedV L i = c at *
 generalize tk L i = u at *
 cases a
 ·cases b
  ·cases c
   ·by_cases h4 : u.k = 1
    ·rw [decide_eq_true h4]
     refine fn_ruleM (C := ⟨Tryz.prog, layF, Tryz.f152.ntmps, ΓL, 2, [], []⟩) layF_ok mixed Tryz.func152 rfl (by kernel_rfl) rfl rfl rfl ?_
     refine ex_callM (CallsM.ren (h1) [0, 1] 2 rfl rfl rfl rfl) ?_
     repeat' (first | refine qgs ?_ | refine eD ?_ ?_ <;> intro)
     refine ex_callM (CallsM.ren (h2) [0, 1] 2 rfl rfl rfl rfl) ?_
     repeat' (first | refine qgs ?_ | refine eD ?_ ?_ <;> intro)
     refine ex_callM (CallsM.ren (h3) [0, 1] 2 rfl rfl rfl rfl) ?_
     repeat' (first | refine qgs ?_ | refine eD ?_ ?_ <;> intro)
     refine ex_callM (CallsM.ren (ha) [0, 1] 2 rfl rfl rfl rfl) ?_
     repeat' (first | refine qgs ?_ | refine eD ?_ ?_ <;> intro)
     exact ⟨rfl, TLe.rfl, rfl, rfl⟩
    ·rw [decide_eq_false h4]
     refine fn_ruleM (C := ⟨Tryz.prog, layF, Tryz.f152.ntmps, ΓL, 2, [], []⟩) layF_ok mixed Tryz.func152 rfl (by kernel_rfl) rfl rfl rfl ?_
     refine ex_callM (CallsM.ren (h1) [0, 1] 2 rfl rfl rfl rfl) ?_
     repeat' (first | refine qgs ?_ | refine eD ?_ ?_ <;> intro)
     refine ex_callM (CallsM.ren (h2) [0, 1] 2 rfl rfl rfl rfl) ?_
     repeat' (first | refine qgs ?_ | refine eD ?_ ?_ <;> intro)
     refine ex_callM (CallsM.ren (h3) [0, 1] 2 rfl rfl rfl rfl) ?_
     repeat' (first | refine qgs ?_ | refine eD ?_ ?_ <;> intro)
     refine ex_callM (CallsM.ren (ha) [0, 1] 2 rfl rfl rfl rfl) ?_
     repeat' (first | refine qgs ?_ | refine eD ?_ ?_ <;> intro)
     exact ⟨rfl, TLe.rfl, rfl, rfl⟩
   ·
    refine fn_ruleM (C := ⟨Tryz.prog, layF, Tryz.f152.ntmps, ΓL, 2, [], []⟩) layF_ok mixed Tryz.func152 rfl (by kernel_rfl) rfl rfl rfl ?_
    refine ex_callM (CallsM.ren (h1) [0, 1] 2 rfl rfl rfl rfl) ?_
    repeat' (first | refine qgs ?_ | refine eD ?_ ?_ <;> intro)
    refine ex_callM (CallsM.ren (h2) [0, 1] 2 rfl rfl rfl rfl) ?_
    repeat' (first | refine qgs ?_ | refine eD ?_ ?_ <;> intro)
    refine ex_callM (CallsM.ren (h3) [0, 1] 2 rfl rfl rfl rfl) ?_
    repeat' (first | refine qgs ?_ | refine eD ?_ ?_ <;> intro)
    exact ⟨rfl, TLe.rfl, rfl, rfl⟩
  ·
   refine fn_ruleM (C := ⟨Tryz.prog, layF, Tryz.f152.ntmps, ΓL, 2, [], []⟩) layF_ok mixed Tryz.func152 rfl (by kernel_rfl) rfl rfl rfl ?_
   refine ex_callM (CallsM.ren (h1) [0, 1] 2 rfl rfl rfl rfl) ?_
   repeat' (first | refine qgs ?_ | refine eD ?_ ?_ <;> intro)
   refine ex_callM (CallsM.ren (h2) [0, 1] 2 rfl rfl rfl rfl) ?_
   repeat' (first | refine qgs ?_ | refine eD ?_ ?_ <;> intro)
   exact ⟨rfl, TLe.rfl, rfl, rfl⟩
 ·
  refine fn_ruleM (C := ⟨Tryz.prog, layF, Tryz.f152.ntmps, ΓL, 2, [], []⟩) layF_ok mixed Tryz.func152 rfl (by kernel_rfl) rfl rfl rfl ?_
  refine ex_callM (CallsM.ren (h1) [0, 1] 2 rfl rfl rfl rfl) ?_
  repeat' (first | refine qgs ?_ | refine eD ?_ ?_ <;> intro)
  exact ⟨rfl, TLe.rfl, rfl, rfl⟩
set_option maxHeartbeats 4000000 in
theorem starts_c (i : Nat) (h : i < L.length) : CallsM Tryz.prog ΓL 117 [(0, Qz L m i)] 2 [P0] (Tb (startsV L i)) [(0, Qz L m i)] [] := by
 have ha := ahead_c (L := L) (m := m) i h
 have h3 := named_c (m := m) i h
 unfold startsV
 generalize namedV L i = c at *
 generalize tk L i = u at *
 obtain ⟨w, hw⟩ : ∃ w, u.t = w := ⟨_, rfl⟩
 simp only [tokD, hw] at ha
 rw [hw]
 cases c
 ·rw [Bool.false_or]
  by_cases h4 : u.k = 0
  ·rw [decide_eq_true h4, Bool.true_and]
   by_cases hm : w ∈ typesL
   ·rw [List.contains_iff_mem.2 hm, Bool.true_or]
    simp only [typesL, List.mem_cons, List.not_mem_nil, or_false] at hm
    rcases hm with rfl | rfl | rfl | rfl | rfl | rfl | rfl | rfl | rfl
    all_goals
     refine fn_ruleM (C := ⟨Tryz.prog, layF, Tryz.f117.ntmps, ΓL, 2, [], []⟩) layF_ok mixed Tryz.func117 rfl (by kernel_rfl) rfl rfl rfl ?_
     refine ex_callM (CallsM.ren (h3) [0, 1] 2 rfl rfl rfl rfl) ?_
     repeat' (first | refine qgs ?_ | refine eD ?_ ?_ <;> intro)
     refine ex_callM (CallsM.ren (ha) [0, 1] 2 rfl rfl rfl rfl) ?_
     repeat' (first | refine qgs ?_ | refine eD ?_ ?_ <;> intro)
     refine ex_callM (CallsM.ren (ha) [0, 1] 2 rfl rfl rfl rfl) ?_
     repeat' (first | refine qgs ?_ | refine eD ?_ ?_ <;> intro)
     exact ⟨rfl, TLe.rfl, rfl, rfl⟩
   ·have hne : ∀ l, l ∈ typesL → ¬ bs w = bs l := fun l hl he => hm (by rw [bsj.1 he]; exact hl)
    rw [show typesL.contains w = false by simpa using hm, Bool.false_or]
    have hc := (integer_c w).gL
    rcases hv : integerV w with _ | ⟨n, l⟩ <;> rw [hv] at hc
    ·have hc : CallsA Tryz.prog ΓL 82 [c1 (ds (bs w))] (.tup [c1 (di 0), c1 (db false), c1 (db false)]) := hc
     refine fn_ruleM (C := ⟨Tryz.prog, layF, Tryz.f117.ntmps, ΓL, 2, [], []⟩) layF_ok mixed Tryz.func117 rfl (by kernel_rfl) rfl rfl rfl ?_
     refine ex_callM (CallsM.ren (h3) [0, 1] 2 rfl rfl rfl rfl) ?_
     repeat' (first | refine qgs ?_ | refine eD ?_ ?_ <;> intro)
     refine ex_callM (CallsM.ren (ha) [0, 1] 2 rfl rfl rfl rfl) ?_
     repeat' (first | refine qgs ?_ | refine eD ?_ ?_ <;> intro)
     refine ex_callM (CallsM.ren (ha) [0, 1] 2 rfl rfl rfl rfl) ?_
     repeat' (first | refine ex_call hc ?_ | refine ex_false (hne _ (by decide)) ?_ | refine qg1 ?_ | refine eD ?_ ?_ <;> intro)
     exact ⟨rfl, TLe.rfl, rfl, rfl⟩
    ·have hc : CallsA Tryz.prog ΓL 82 [c1 (ds (bs w))] (.tup [c1 (di n), c1 (db l), c1 (db true)]) := hc
     refine fn_ruleM (C := ⟨Tryz.prog, layF, Tryz.f117.ntmps, ΓL, 2, [], []⟩) layF_ok mixed Tryz.func117 rfl (by kernel_rfl) rfl rfl rfl ?_
     refine ex_callM (CallsM.ren (h3) [0, 1] 2 rfl rfl rfl rfl) ?_
     repeat' (first | refine qgs ?_ | refine eD ?_ ?_ <;> intro)
     refine ex_callM (CallsM.ren (ha) [0, 1] 2 rfl rfl rfl rfl) ?_
     repeat' (first | refine qgs ?_ | refine eD ?_ ?_ <;> intro)
     refine ex_callM (CallsM.ren (ha) [0, 1] 2 rfl rfl rfl rfl) ?_
     repeat' (first | refine ex_call hc ?_ | refine ex_false (hne _ (by decide)) ?_ | refine qg1 ?_ | refine eD ?_ ?_ <;> intro)
     exact ⟨rfl, TLe.rfl, rfl, rfl⟩
  ·rw [decide_eq_false h4, Bool.false_and]
   refine fn_ruleM (C := ⟨Tryz.prog, layF, Tryz.f117.ntmps, ΓL, 2, [], []⟩) layF_ok mixed Tryz.func117 rfl (by kernel_rfl) rfl rfl rfl ?_
   refine ex_callM (CallsM.ren (h3) [0, 1] 2 rfl rfl rfl rfl) ?_
   repeat' (first | refine qgs ?_ | refine eD ?_ ?_ <;> intro)
   refine ex_callM (CallsM.ren (ha) [0, 1] 2 rfl rfl rfl rfl) ?_
   repeat' (first | refine qgs ?_ | refine eD ?_ ?_ <;> intro)
   exact ⟨rfl, TLe.rfl, rfl, rfl⟩
 ·rw [Bool.true_or]
  refine fn_ruleM (C := ⟨Tryz.prog, layF, Tryz.f117.ntmps, ΓL, 2, [], []⟩) layF_ok mixed Tryz.func117 rfl (by kernel_rfl) rfl rfl rfl ?_
  refine ex_callM (CallsM.ren (h3) [0, 1] 2 rfl rfl rfl rfl) ?_
  repeat' (first | refine qgs ?_ | refine eD ?_ ?_ <;> intro)
  exact ⟨rfl, TLe.rfl, rfl, rfl⟩
end
end Go.Proofs.YtoingpafcodojaaGreatDoor

namespace Go.Proofs.YtoingpafcodojaaGreatDoor
open Go.RowKit

section
variable {L : List TokP} {m : Nat}
theorem put_c (s : PS) (x : EX) (hx : s.xs.length ≤ 1000000) : C1 L m 156 [gD (exD x)] (putM x) (fun k => Ti k) s := by
 refine C1.of fun T hT => ?_
 obtain rfl : PR.ok (s.xs.length : Int) { s with xs := s.xs ++ [x] } = T := hT
 refine fn_ruleP (C := ⟨Tryz.prog, layF, Tryz.f156.ntmps, ΓL, 6, [], []⟩) layF_ok mixed Tryz.func156 rfl (by kernel_rfl) rfl rfl rfl SLe.rfl ?_
 repeat' (first | refine qgs ?_ | refine eD ?_ ?_ <;> intro)
 refine ex_app (s.xs.length) (1) 1000 (by first | rfl | (simp; done) | (simp; omega)) (by first | rfl | (simp; done) | (simp; omega)) rfl (by omega) ?_
 refine ex_is (List.map exD (s.xs ++ [x])) (by rw [List.map_append]; rfl) ?_
 repeat' (first | refine aI ((s.xs.length : Nat) : Int) ?_ | refine aU ((s.xs.length : Nat) : Int) ?_ | refine aB ((s.xs.length : Nat) : Int) ?_ | refine (ex_is (s.xs.length + 1) (by simp)) ?_ | refine qg1 ?_ | refine eD ?_ ?_ <;> intro)
 exact ⟨rfl, TLe.rfl, rfl, rfl⟩
theorem lay_c (s : PS) (x : TY) (hx : s.ts.length ≤ 1000000) : CallsM Tryz.prog ΓL 122 [(0, Qz L m s.i), (1, Fz 2 3 4 5), (5, Tz s.ts)] 6 [P0, gD (tyD x)] (Ti s.ts.length) [(0, Qz L m s.i), (1, Fz 2 3 4 6), (5, .dead)] [Tz (s.ts ++ [x])] := by
 refine fn_ruleP (C := ⟨Tryz.prog, layF, Tryz.f122.ntmps, ΓL, 6, [], []⟩) layF_ok mixed Tryz.func122 rfl (by kernel_rfl) rfl rfl rfl SLe.rfl ?_
 repeat' (first | refine qgs ?_ | refine eD ?_ ?_ <;> intro)
 refine ex_app (s.ts.length) (1) 1000 (by first | rfl | (simp; done) | (simp; omega)) (by first | rfl | (simp; done) | (simp; omega)) rfl (by omega) ?_
 refine ex_is (List.map tyD (s.ts ++ [x])) (by rw [List.map_append]; rfl) ?_
 repeat' (first | refine aI ((s.ts.length : Nat) : Int) ?_ | refine aU ((s.ts.length : Nat) : Int) ?_ | refine aB ((s.ts.length : Nat) : Int) ?_ | refine (ex_is (s.ts.length + 1) (by simp)) ?_ | refine qg1 ?_ | refine eD ?_ ?_ <;> intro)
 exact ⟨rfl, TLe.rfl, rfl, rfl⟩
theorem put0_c (i : Nat) (xs : List EX) (k : Nat) (n : Nat) (w : List UInt8) (hx : xs.length ≤ 1000000) :
  CallsM Tryz.prog ΓL 156 [(0, Qz L m i), (1, Fz 2 3 4 5), (4, Xz xs)] 6 [P0, gD [di k, ds ⟨#[]⟩, du n, ds (bs w), dnil]] (Ti xs.length) [(0, Qz L m i), (1, Fz 2 3 6 5), (4, .dead)] [Xz (xs ++ [⟨k, [], n, w, []⟩])] :=
 ((put_c (L := L) (m := m) ⟨i, xs, []⟩ ⟨k, [], n, w, []⟩ hx).ok rfl).argsLe (.cons T1Le.rfl (.cons (T1Le.g (.cons DLe.rfl (.cons DLe.rfl (.cons DLe.rfl (.cons DLe.rfl (.cons DLe.nil .nil)))))) .nil))
theorem deeper_no (s : PS) (hi : s.i < L.length) (h a : Nat) (l : List CV) : CallsM Tryz.prog ΓL 153 [(0, Qz L m s.i)] 2 [P0, c1 (db false), .f h a l] (.pan (flt L s.i 4)) [(0, .dead)] [] := by
 refine fn_ruleP (C := ⟨Tryz.prog, layF, Tryz.f153.ntmps, ΓL, 2, [], []⟩) layF_ok mixed Tryz.func153 rfl (by kernel_rfl) rfl rfl rfl SLe.rfl ?_
 repeat' (first | refine qgs ?_ | refine eD ?_ ?_ <;> intro)
 refine sC (CallsM.ren ((fail_c s.i 4 hi)) [0, 1] 2 rfl rfl rfl rfl) ?_
 exact ⟨⟨_, rfl, rfl⟩, rfl, rfl⟩
theorem deeper_deep (s : PS) (hi : s.i < L.length) (h a : Nat) (l : List CV) : CallsM Tryz.prog ΓL 153 [(0, Qz L 0 s.i)] 2 [P0, c1 (db true), .f h a l] (.pan (flt L s.i 8)) [(0, .dead)] [] := by
 refine fn_ruleP (C := ⟨Tryz.prog, layF, Tryz.f153.ntmps, ΓL, 2, [], []⟩) layF_ok mixed Tryz.func153 rfl (by kernel_rfl) rfl rfl rfl SLe.rfl ?_
 repeat' (first | refine qgs ?_ | refine eD ?_ ?_ <;> intro)
 refine sC (CallsM.ren ((fail_c s.i 8 hi)) [0, 1] 2 rfl rfl rfl rfl) ?_
 exact ⟨⟨_, rfl, rfl⟩, rfl, rfl⟩
theorem deep_assoc {α β : Type} {x : PM α} {f : α → PM β} {p : Nat → Bool} {s : PS} {T : PR β} (h : ((fun s => enterM m (p s.i) s) >>= fun _ => x >>= f) s = T) : ((enterM m (p s.i) >>= fun _ => x) >>= f) s = T := by
 rw [← h]
 show PM.and (PM.and (enterM m (p s.i)) fun _ => x) f s = PM.and (fun s => enterM m (p s.i) s) (fun _ => PM.and x f) s
 unfold PM.and
 dsimp only
 cases enterM m (p s.i) s <;> rfl
theorem PR.end1 {T : PR Int} {k : Int} {s : PS} (h : T = .ok k s) : PR.ok k s = T := h.symm
theorem deeper1_c {x : PM Int} {h : FuncId} (s : PS) (hi : s.i < L.length) (hm : m ≤ 32) (hc : ∀ m', m = m' + 1 → C1 L m' h [] x (fun k => Ti k) s) (b : Bool) :
  C1 L m 153 [c1 (db b), .f h 1 [.ptr 0 0]] (enterM m b >>= fun _ => x) (fun k => Ti k) s := by
 refine C1.of fun T hT => ?_
 cases b
 ·obtain rfl : PR.err s.i 4 = T := hT
  refine fn_ruleP (C := ⟨Tryz.prog, layF, Tryz.f153.ntmps, ΓL, 6, [], []⟩) layF_ok mixed Tryz.func153 rfl (by kernel_rfl) rfl rfl rfl SLe.rfl ?_
  repeat' (first | refine qgs ?_ | refine eD ?_ ?_ <;> intro)
  refine sC (CallsM.ren ((fail_c s.i 4 hi)) [0, 1] 6 rfl rfl rfl rfl) ?_
  exact ⟨⟨_, rfl, rfl⟩, rfl, rfl⟩
 ·cases m with
  | zero =>
   obtain rfl : PR.err s.i 8 = T := hT
   refine fn_ruleP (C := ⟨Tryz.prog, layF, Tryz.f153.ntmps, ΓL, 6, [], []⟩) layF_ok mixed Tryz.func153 rfl (by kernel_rfl) rfl rfl rfl SLe.rfl ?_
   repeat' (first | refine qgs ?_ | refine eD ?_ ?_ <;> intro)
   refine sC (CallsM.ren ((fail_c s.i 8 hi)) [0, 1] 6 rfl rfl rfl rfl) ?_
   exact ⟨⟨_, rfl, rfl⟩, rfl, rfl⟩
  | succ m =>
   have hT : x s = T := hT
   have hc := hc m rfl
   rcases T with ⟨k, s1⟩ | ⟨i, e⟩
   ·
    refine fn_ruleP (C := ⟨Tryz.prog, layF, Tryz.f153.ntmps, ΓL, 6, [], []⟩) layF_ok mixed Tryz.func153 rfl (by kernel_rfl) rfl rfl rfl SLe.rfl ?_
    repeat' (first | refine aI (32 - ((m : Nat) : Int)) ?_ | refine aU (32 - ((m : Nat) : Int)) ?_ | refine aB (32 - ((m : Nat) : Int)) ?_ | refine qg1 ?_ | refine eD ?_ ?_ <;> intro)
    refine sC (CallsM.ren ((hc.ok hT)) [0, 1, 2, 3, 4, 5] 6 rfl rfl rfl rfl) ?_
    repeat' (first | refine aI (32 - ((m + 1 : Nat) : Int)) ?_ | refine aU (32 - ((m + 1 : Nat) : Int)) ?_ | refine aB (32 - ((m + 1 : Nat) : Int)) ?_ | refine qg1 ?_ | refine eD ?_ ?_ <;> intro)
    exact ⟨rfl, TLe.rfl, rfl, rfl⟩
   ·
    refine fn_ruleP (C := ⟨Tryz.prog, layF, Tryz.f153.ntmps, ΓL, 6, [], []⟩) layF_ok mixed Tryz.func153 rfl (by kernel_rfl) rfl rfl rfl SLe.rfl ?_
    repeat' (first | refine aI (32 - ((m : Nat) : Int)) ?_ | refine aU (32 - ((m : Nat) : Int)) ?_ | refine aB (32 - ((m : Nat) : Int)) ?_ | refine qg1 ?_ | refine eD ?_ ?_ <;> intro)
    refine sC (CallsM.ren ((hc.err hT)) [0, 1, 2, 3, 4, 5] 6 rfl rfl rfl rfl) ?_
    exact ⟨⟨_, rfl, rfl⟩, rfl, rfl⟩
theorem mv_take1 {t : List UInt8} {i : Nat} {xs : List EX} {ts : List TY} {v : Unit} {s' : PS} (h : takeM L t ⟨i, xs, ts⟩ = .ok v s') : s' = ⟨i + 1, xs, ts⟩ := by
 unfold takeM at h; split at h <;> cases h; rfl
theorem mv_name1 {i : Nat} {xs : List EX} {ts : List TY} {v : List UInt8} {s' : PS} (h : nameM L ⟨i, xs, ts⟩ = .ok v s') : s' = ⟨i + 1, xs, ts⟩ := by
 unfold nameM at h; split at h <;> cases h; rfl
theorem mv_num1 {i : Nat} {xs : List EX} {ts : List TY} {v : Nat} {s' : PS} (h : numberM L ⟨i, xs, ts⟩ = .ok v s') : s' = ⟨i + 1, xs, ts⟩ := by
 unfold numberM at h; split at h <;> cases h; rfl
theorem mv_room1 {n i : Nat} {xs : List EX} {ts : List TY} {v : Unit} {s' : PS} (h : roomM n ⟨i, xs, ts⟩ = .ok v s') : s' = ⟨i, xs, ts⟩ := by
 unfold roomM at h; split at h <;> cases h; rfl
section
variable {α β : Type} {p : Nat → Bool} {x y : PM α} {f : Unit → PM β} {i : Nat} {xs : List EX} {ts : List TY}
theorem aty {T : PR α} (hT : atM p x y ⟨i, xs, ts⟩ = T) (h : p i = true) : x ⟨i, xs, ts⟩ = T := (at_pos (s := ⟨i, xs, ts⟩) h).symm.trans hT
theorem atn {T : PR α} (hT : atM p x y ⟨i, xs, ts⟩ = T) (h : p i = false) : y ⟨i, xs, ts⟩ = T := (at_neg (s := ⟨i, xs, ts⟩) h).symm.trans hT
theorem stp1 {T : PR β} (hT : (stepM >>= f) ⟨i, xs, ts⟩ = T) : f () ⟨i + 1, xs, ts⟩ = T := hT
theorem stpS (hL : TokOk L) {c : Nat} (h : SOk L c ⟨i, xs, ts⟩) (hk : (tk L i).k ≠ 3) : SOk L (c + 1) ⟨i + 1, xs, ts⟩ := stepP_ok hL h hk
theorem SOk.lt {c : Nat} (h : SOk L c ⟨i, xs, ts⟩) : i < L.length := h.i
theorem SOk.lx {c : Nat} (h : SOk L c ⟨i, xs, ts⟩) : xs.length + c ≤ i := h.x
theorem SOk.lt' {c : Nat} (h : SOk L c ⟨i, xs, ts⟩) : ts.length + c ≤ i := h.t
end
set_option maxHeartbeats 4000000 in
theorem unary_step (hL : TokOk L) (hn : L.length ≤ 100000) (hm : m ≤ 32) {un ex : PM Int} (hu : m ≠ 0 → Up L un 0 0) (he : m ≠ 0 → Up L ex 0 0)
  (h1 : ∀ m', m = m' + 1 → ∀ s, SOk L 0 s → C1 L m' 155 [] un (fun k => Ti k) s)
  (h2 : ∀ m', m = m' + 1 → ∀ s, SOk L 0 s → C1 L m' 85 [] ex (fun k => Ti k) s) (s : PS) (hs : SOk L 0 s) : C1 L m 155 [] (unF L m un ex) (fun k => Ti k) s := by
 refine C1.of fun T hT => ?_
 unfold unF at hT
 obtain ⟨i, xs, ts⟩ := s
 have hi := hs.lt
 have hxl := hs.lx
 have hdeep : ∀ {x : PM Int}, (m ≠ 0 → Up L x 0 0) → ∀ b, Up L (enterM m b >>= fun _ => x) 0 0 := fun {x} h b => by
  by_cases h0 : m = 0
  ·intro s c hs
   subst h0
   have e : (enterM 0 b >>= fun _ => x) s = .err s.i (if b = true then 8 else 4) := by cases b <;> rfl
   rw [e]
   cases b
   ·exact ⟨Nat.le_refl _, hs.i, by decide, by decide⟩
   ·exact ⟨Nat.le_refl _, hs.i, by decide, by decide⟩
  ·exact (Up.enter m b 0).and fun _ => h h0
 have hbg := fun h => begins_c (L := L) (m := m) (i + 1) h
 rcases hv : isV L i t_bang with _ | _
 ·replace hT := atn hT hv
  rcases hv2 : isV L i t_lpar with _ | _
  ·replace hT := atn hT hv2
   have hnm := named_c (m := m) i hi
   rcases hv3 : namedV L i with _ | _ <;> rw [hv3] at hnm
   ·replace hT := atn hT hv3
    refine fn_ruleP (C := ⟨Tryz.prog, layF, Tryz.f155.ntmps, ΓL, 6, [], []⟩) layF_ok mixed Tryz.func155 rfl (by kernel_rfl) rfl rfl rfl SLe.rfl ?_
    refine sC (CallsM.ren ((may_no i hi _ hv)) [0, 1] 6 rfl rfl rfl rfl) ?_
    repeat' (first | refine qgs ?_ | refine eD ?_ ?_ <;> intro)
    refine sC (CallsM.ren ((may_no i hi _ hv2)) [0, 1] 6 rfl rfl rfl rfl) ?_
    repeat' (first | refine qgs ?_ | refine eD ?_ ?_ <;> intro)
    refine sC (CallsM.ren (hnm) [0, 1] 6 rfl rfl rfl rfl) ?_
    repeat' (first | refine qgs ?_ | refine eD ?_ ?_ <;> intro)
    have hcon := num_c (m := m) ⟨i, xs, ts⟩ hs.i (by omega)
    rcases hx129 : (numberM L) ⟨i, xs, ts⟩ with ⟨n, s9⟩ | ⟨i9, e9⟩
    rotate_left
    ·obtain rfl := (and_err hx129).symm.trans hT
     refine sC (CallsM.ren (hcon.err hx129) [0, 1] 6 rfl rfl rfl rfl) ?_
     first | exact ⟨⟨_, rfl, rfl⟩, rfl, rfl⟩ | exact ⟨by kernel_rfl, ⟨_, rfl, rfl⟩, rfl, rfl⟩
    replace hT := (and_ok hx129).symm.trans hT
    refine sC (CallsM.ren (hcon.ok hx129) [0, 1] 6 rfl rfl rfl rfl) ?_
    clear hcon
    have hs1 := (Up.ok (Up.number hL 0) hs hx129).1
    obtain rfl := mv_num1 hx129
    repeat' (first | refine qgs ?_ | refine eD ?_ ?_ <;> intro)
    obtain rfl : PR.ok (xs.length : Int) ⟨i + 1, xs ++ [(⟨0, [], n, [], []⟩ : EX)], ts⟩ = T := hT
    refine sC (CallsM.ren ((put0_c (m := m) (i + 1) xs 0 n [] (by omega))) [0, 1, 2, 3, 4, 5] 6 rfl rfl rfl rfl) ?_
    repeat' (first | refine qgs ?_ | refine eD ?_ ?_ <;> intro)
    exact ⟨rfl, TLe.rfl, rfl, rfl⟩
   ·replace hT := aty hT hv3
    refine fn_ruleP (C := ⟨Tryz.prog, layF, Tryz.f155.ntmps, ΓL, 6, [], []⟩) layF_ok mixed Tryz.func155 rfl (by kernel_rfl) rfl rfl rfl SLe.rfl ?_
    refine sC (CallsM.ren ((may_no i hi _ hv)) [0, 1] 6 rfl rfl rfl rfl) ?_
    repeat' (first | refine qgs ?_ | refine eD ?_ ?_ <;> intro)
    refine sC (CallsM.ren ((may_no i hi _ hv2)) [0, 1] 6 rfl rfl rfl rfl) ?_
    repeat' (first | refine qgs ?_ | refine eD ?_ ?_ <;> intro)
    refine sC (CallsM.ren (hnm) [0, 1] 6 rfl rfl rfl rfl) ?_
    repeat' (first | refine qgs ?_ | refine eD ?_ ?_ <;> intro)
    have hcon := name_c (m := m) ⟨i, xs, ts⟩ hs.i (by omega)
    rcases hx143 : (nameM L) ⟨i, xs, ts⟩ with ⟨w, s9⟩ | ⟨i9, e9⟩
    rotate_left
    ·obtain rfl := (and_err hx143).symm.trans hT
     refine sC (CallsM.ren (hcon.err hx143) [0, 1] 6 rfl rfl rfl rfl) ?_
     first | exact ⟨⟨_, rfl, rfl⟩, rfl, rfl⟩ | exact ⟨by kernel_rfl, ⟨_, rfl, rfl⟩, rfl, rfl⟩
    replace hT := (and_ok hx143).symm.trans hT
    refine sC (CallsM.ren (hcon.ok hx143) [0, 1] 6 rfl rfl rfl rfl) ?_
    clear hcon
    have hs1 := (Up.ok (Up.name hL 0) hs hx143).1
    obtain rfl := mv_name1 hx143
    repeat' (first | refine qgs ?_ | refine eD ?_ ?_ <;> intro)
    obtain rfl : PR.ok (xs.length : Int) ⟨i + 1, xs ++ [(⟨1, [], 0, w, []⟩ : EX)], ts⟩ = T := hT
    refine sC (CallsM.ren ((put0_c (m := m) (i + 1) xs 1 0 w (by omega))) [0, 1, 2, 3, 4, 5] 6 rfl rfl rfl rfl) ?_
    repeat' (first | refine qgs ?_ | refine eD ?_ ?_ <;> intro)
    exact ⟨rfl, TLe.rfl, rfl, rfl⟩
  ·replace hT := deep_assoc (stp1 (aty hT hv2))
   have hs1 := stpS hL hs (isV_k hv2)
   refine fn_ruleP (C := ⟨Tryz.prog, layF, Tryz.f155.ntmps, ΓL, 6, [], []⟩) layF_ok mixed Tryz.func155 rfl (by kernel_rfl) rfl rfl rfl SLe.rfl ?_
   refine sC (CallsM.ren ((may_no i hi _ hv)) [0, 1] 6 rfl rfl rfl rfl) ?_
   repeat' (first | refine qgs ?_ | refine eD ?_ ?_ <;> intro)
   refine sC (CallsM.ren ((may_yes i hi (by omega) _ hv2)) [0, 1] 6 rfl rfl rfl rfl) ?_
   repeat' (first | refine qgs ?_ | refine eD ?_ ?_ <;> intro)
   refine sC (CallsM.ren ((hbg hs1.lt)) [0, 1] 6 rfl rfl rfl rfl) ?_
   repeat' (first | refine qgs ?_ | refine eD ?_ ?_ <;> intro)
   have hcon := deeper1_c (m := m) ⟨i + 1, xs, ts⟩ hs1.lt hm (fun m' e => h2 m' e _ (hs1.less (by omega))) (beginsV L (i + 1))
   rcases hx : ((enterM m (beginsV L (i + 1)) >>= fun _ => ex)) ⟨i + 1, xs, ts⟩ with ⟨k, ⟨i2, xs2, ts2⟩⟩ | ⟨i9, e9⟩
   rotate_left
   ·obtain rfl := (and_err hx).symm.trans hT
    refine sC (CallsM.ren (hcon.err hx) [0, 1, 2, 3, 4, 5] 6 rfl rfl rfl rfl) ?_
    first | exact ⟨⟨_, rfl, rfl⟩, rfl, rfl⟩ | exact ⟨by kernel_rfl, ⟨_, rfl, rfl⟩, rfl, rfl⟩
   replace hT := (and_ok hx).symm.trans hT
   refine sC (CallsM.ren (hcon.ok hx) [0, 1, 2, 3, 4, 5] 6 rfl rfl rfl rfl) ?_
   clear hcon
   have hs2 := (Up.ok ((hdeep he _).less (a' := 1) (b' := 1) 1 (by omega) (by omega)) hs1 hx).1
   repeat' (first | refine qgs ?_ | refine eD ?_ ?_ <;> intro)
   have hcon := take_c (m := m) ⟨i2, xs2, ts2⟩ hs2.i (by omega) t_rpar
   rcases hx160 : (takeM L t_rpar) ⟨i2, xs2, ts2⟩ with ⟨_, s9⟩ | ⟨i9, e9⟩
   rotate_left
   ·obtain rfl := (and_err hx160).symm.trans hT
    refine sC (CallsM.ren (hcon.err hx160) [0, 1] 7 rfl rfl rfl rfl) ?_
    first | exact ⟨⟨_, rfl, rfl⟩, rfl, rfl⟩ | exact ⟨by kernel_rfl, ⟨_, rfl, rfl⟩, rfl, rfl⟩
   replace hT := (and_ok hx160).symm.trans hT
   refine sC (CallsM.ren (hcon.ok hx160) [0, 1] 7 rfl rfl rfl rfl) ?_
   clear hcon
   have hs3 := (Up.ok (Up.take hL t_rpar 0) hs2 hx160).1
   obtain rfl := mv_take1 hx160
   obtain rfl : PR.ok k ⟨i2 + 1, xs2, ts2⟩ = T := hT
   repeat' (first | refine qgs ?_ | refine eD ?_ ?_ <;> intro)
   exact ⟨rfl, TLe.rfl, rfl, rfl⟩
 ·replace hT := deep_assoc (stp1 (aty hT hv))
  have hs1 := stpS hL hs (isV_k hv)
  refine fn_ruleP (C := ⟨Tryz.prog, layF, Tryz.f155.ntmps, ΓL, 6, [], []⟩) layF_ok mixed Tryz.func155 rfl (by kernel_rfl) rfl rfl rfl SLe.rfl ?_
  refine sC (CallsM.ren ((may_yes i hi (by omega) _ hv)) [0, 1] 6 rfl rfl rfl rfl) ?_
  repeat' (first | refine qgs ?_ | refine eD ?_ ?_ <;> intro)
  refine sC (CallsM.ren ((hbg hs1.lt)) [0, 1] 6 rfl rfl rfl rfl) ?_
  repeat' (first | refine qgs ?_ | refine eD ?_ ?_ <;> intro)
  have hcon := deeper1_c (m := m) ⟨i + 1, xs, ts⟩ hs1.lt hm (fun m' e => h1 m' e _ (hs1.less (by omega))) (beginsV L (i + 1))
  rcases hx : ((enterM m (beginsV L (i + 1)) >>= fun _ => un)) ⟨i + 1, xs, ts⟩ with ⟨k, ⟨i2, xs2, ts2⟩⟩ | ⟨i9, e9⟩
  rotate_left
  ·obtain rfl := (and_err hx).symm.trans hT
   refine sC (CallsM.ren (hcon.err hx) [0, 1, 2, 3, 4, 5] 6 rfl rfl rfl rfl) ?_
   first | exact ⟨⟨_, rfl, rfl⟩, rfl, rfl⟩ | exact ⟨by kernel_rfl, ⟨_, rfl, rfl⟩, rfl, rfl⟩
  replace hT := (and_ok hx).symm.trans hT
  refine sC (CallsM.ren (hcon.ok hx) [0, 1, 2, 3, 4, 5] 6 rfl rfl rfl rfl) ?_
  clear hcon
  have hs2 := (Up.ok ((hdeep hu _).less (a' := 1) (b' := 1) 1 (by omega) (by omega)) hs1 hx).1
  repeat' (first | refine qgs ?_ | refine eD ?_ ?_ <;> intro)
  obtain rfl : PR.ok (xs2.length : Int) ⟨i2, xs2 ++ [(⟨2, [], 0, [], [k]⟩ : EX)], ts2⟩ = T := hT
  have hx2 := hs2.lx
  have hl2 := hs2.lt
  have hp := (put_c (L := L) (m := m) ⟨i2, xs2, ts2⟩ ⟨2, [], 0, [], [k]⟩ (by show xs2.length ≤ _; omega)).ok rfl
  refine sC (CallsM.ren (hp) [0, 1, 2, 3, 6, 5] 8 rfl rfl rfl rfl) ?_
  repeat' (first | refine qgs ?_ | refine eD ?_ ?_ <;> intro)
  exact ⟨rfl, TLe.rfl, rfl, rfl⟩
end
end Go.Proofs.YtoingpafcodojaaGreatDoor

namespace Go.Proofs.YtoingpafcodojaaGreatDoor
open Go.RowKit

section
variable {L : List TokP} {m : Nat}
set_option maxHeartbeats 4000000 in
theorem line_step (hL : TokOk L) (hn : L.length ≤ 100000) (j : Nat) (hj : j ≤ 7) {x : PM Int} (hx : Up L x 0 0) (hc : ∀ s, SOk L 0 s → C1 L m 124 [c1 (di (9 - (j : Int)))] x (fun k => Ti k) s) (s : PS) (hs : SOk L 0 s) :
  C1 L m 124 [c1 (di (9 - ((j + 1 : Nat) : Int)))] (x >>= fun left => fun s => lineN L (8 - j) x (L.length - s.i + 1) left s) (fun k => Ti k) s := by
 refine C1.of fun T hT => ?_
 obtain ⟨i, xs, ts⟩ := s
 have h8 := (level_c [42]).gL
 rw [show levelV [42] = 8 by decide +kernel] at h8
 refine fn_ruleP (C := ⟨Tryz.prog, layF, Tryz.f124.ntmps, ΓL, 6, [], []⟩) layF_ok mixed Tryz.func124 rfl (by kernel_rfl) rfl rfl rfl SLe.rfl ?_
 repeat' (first | refine ex_call h8 ?_ | refine aI (9 - (j : Int)) ?_ | refine aU (9 - (j : Int)) ?_ | refine aB (9 - (j : Int)) ?_ | refine qg1 ?_ | refine eD ?_ ?_ <;> intro)
 have hcon := hc ⟨i, xs, ts⟩ hs
 rcases hx1 : (x) ⟨i, xs, ts⟩ with ⟨left, ⟨i1, xs1, ts1⟩⟩ | ⟨i9, e9⟩
 rotate_left
 ·obtain rfl := (and_err hx1).symm.trans hT
  refine sC (CallsM.ren (hcon.err hx1) [0, 1, 2, 3, 4, 5] 6 rfl rfl rfl rfl) ?_
  first | exact ⟨⟨_, rfl, rfl⟩, rfl, rfl⟩ | exact ⟨by kernel_rfl, ⟨_, rfl, rfl⟩, rfl, rfl⟩
 replace hT := (and_ok hx1).symm.trans hT
 refine sC (CallsM.ren (hcon.ok hx1) [0, 1, 2, 3, 4, 5] 6 rfl rfl rfl rfl) ?_
 clear hcon
 have hs1 := (Up.ok hx hs hx1).1
 repeat' (first | refine qgs ?_ | refine eD ?_ ?_ <;> intro)
 refine ex_loop (X := Nat × List EX × List TY × Int × Nat) (fun ⟨i, xs, _, left, _⟩ => ⟨[(0, .o P0), (1, Ti (9 - ((j + 1 : Nat) : Int))), (5, Ti left)], [(0, Qz L m i), (1, Fz 2 3 6 5), (4, .dead), (6, Xz xs)], 7⟩) (fun y => L.length - y.1)
  (fun ⟨i, xs, ts, left, n⟩ => SOk L 0 ⟨i, xs, ts⟩ ∧ L.length < i + n ∧ lineN L (8 - j) x n left ⟨i, xs, ts⟩ = T) (i1, xs1, ts1, left, L.length - i1 + 1) ⟨hs1, by omega, hT⟩ sS ?_
 clear hT hx1 hs1
 rintro ⟨i, xs, ts, left, n⟩ ⟨hs, hf, hT⟩
 have hi := hs.lt
 have ha := ahead_c (L := L) (m := m) i hi
 cases n with
 | zero => omega
 | succ n =>
  by_cases h2 : (tk L i).k = 2
  ·have hlv := (level_c (tk L i).t).gL
   by_cases h3 : levelV (tk L i).t = 8 - j
   ·have ho : opAt L (8 - j) i = true := by unfold opAt; rw [decide_eq_true h2, decide_eq_true h3]; rfl
    have hs1 := stpS hL hs (by omega)
    replace hT : (x >>= fun right => putM ⟨3, (tk L i).t, 0, [], [left, right]⟩ >>= fun k => lineN L (8 - j) x n k) ⟨i + 1, xs, ts⟩ = T := by
     rw [← hT, lineN]
     exact (if_pos ho).symm
    generalize tk L i = u at *
    refine sC (CallsM.ren (ha) [0, 1] 7 rfl rfl rfl rfl) ?_
    repeat' (first | refine qgs ?_ | refine eD ?_ ?_ <;> intro)
    refine sC (CallsM.ren (ha) [0, 1] 7 rfl rfl rfl rfl) ?_
    repeat' (first | refine ex_call hlv ?_ | refine qg1 ?_ | refine eD ?_ ?_ <;> intro)
    refine sC (CallsM.ren (ha) [0, 1] 7 rfl rfl rfl rfl) ?_
    repeat' (first | refine aI (9 - (j : Int)) ?_ | refine aU (9 - (j : Int)) ?_ | refine aB (9 - (j : Int)) ?_ | refine aI ((i + 1 : Nat) : Int) ?_ | refine aU ((i + 1 : Nat) : Int) ?_ | refine aB ((i + 1 : Nat) : Int) ?_ | refine qg1 ?_ | refine eD ?_ ?_ <;> intro)
    have hcon := hc ⟨i + 1, xs, ts⟩ (hs1.less (by omega))
    rcases hx1 : (x) ⟨i + 1, xs, ts⟩ with ⟨right, ⟨i1, xs1, ts1⟩⟩ | ⟨i9, e9⟩
    rotate_left
    ·obtain rfl := (and_err hx1).symm.trans hT
     refine sC (CallsM.ren (hcon.err hx1) [0, 1, 2, 3, 6, 5] 7 rfl rfl rfl rfl) ?_
     first | exact ⟨⟨_, rfl, rfl⟩, rfl, rfl⟩ | exact ⟨by kernel_rfl, ⟨_, rfl, rfl⟩, rfl, rfl⟩
    replace hT := (and_ok hx1).symm.trans hT
    refine sC (CallsM.ren (hcon.ok hx1) [0, 1, 2, 3, 6, 5] 7 rfl rfl rfl rfl) ?_
    clear hcon
    have hs2 := (Up.ok (hx.less (a' := 1) (b' := 1) 1 (by omega) (by omega)) hs1 hx1).1
    repeat' (first | refine qgs ?_ | refine eD ?_ ?_ <;> intro)
    have hx2 := hs2.lx
    have hl2 := hs2.lt
    have hp := (put_c (L := L) (m := m) ⟨i1, xs1, ts1⟩ ⟨3, u.t, 0, [], [left, right]⟩ (by show xs1.length ≤ _; omega)).ok rfl
    refine sC (CallsM.ren (hp) [0, 1, 2, 3, 7, 5] 9 rfl rfl rfl rfl) ?_
    repeat' (first | refine qgs ?_ | refine eD ?_ ?_ <;> intro)
    have hi1 : i + 1 ≤ i1 := by have := (Up.ok hx (hs1.less (Nat.zero_le _)) hx1).2; exact this
    exact ex_round (i1, xs1 ++ [(⟨3, u.t, 0, [], [left, right]⟩ : EX)], ts1, (xs1.length : Int), n) ⟨(Up.ok (Up.put _ 0) hs2 rfl).1, by omega, hT⟩ (by show L.length - i1 < L.length - i; omega) (sR [(0, 0), (1, 1), (2, 2), (3, 3), (4, 4), (5, 5), (9, 6)])
   ·have ho : opAt L (8 - j) i = false := by unfold opAt; rw [decide_eq_false h3]; simp
    obtain rfl : PR.ok left ⟨i, xs, ts⟩ = T := by rw [← hT, lineN]; exact (if_neg (by rw [ho]; decide)).symm
    generalize tk L i = u at *
    refine sC (CallsM.ren (ha) [0, 1] 7 rfl rfl rfl rfl) ?_
    repeat' (first | refine qgs ?_ | refine eD ?_ ?_ <;> intro)
    refine sC (CallsM.ren (ha) [0, 1] 7 rfl rfl rfl rfl) ?_
    repeat' (first | refine ex_call hlv ?_ | refine qg1 ?_ | refine eD ?_ ?_ <;> intro)
    exact ⟨rfl, TLe.rfl, rfl, rfl⟩
  ·have ho : opAt L (8 - j) i = false := by unfold opAt; rw [decide_eq_false h2]; rfl
   obtain rfl : PR.ok left ⟨i, xs, ts⟩ = T := by rw [← hT, lineN]; exact (if_neg (by rw [ho]; decide)).symm
   generalize tk L i = u at *
   refine sC (CallsM.ren (ha) [0, 1] 7 rfl rfl rfl rfl) ?_
   repeat' (first | refine qgs ?_ | refine eD ?_ ?_ <;> intro)
   exact ⟨rfl, TLe.rfl, rfl, rfl⟩
theorem line0_c {un : PM Int} (s : PS) (hc : C1 L m 155 [] un (fun k => Ti k) s) : C1 L m 124 [c1 (di (9 - ((0 : Nat) : Int)))] un (fun k => Ti k) s := by
 refine C1.of fun T hT => ?_
 have h8 := (level_c [42]).gL
 rw [show levelV [42] = 8 by decide +kernel] at h8
 rcases T with ⟨k, s1⟩ | ⟨i, e⟩
 ·
  refine fn_ruleP (C := ⟨Tryz.prog, layF, Tryz.f124.ntmps, ΓL, 6, [], []⟩) layF_ok mixed Tryz.func124 rfl (by kernel_rfl) rfl rfl rfl SLe.rfl ?_
  repeat' (first | refine ex_call h8 ?_ | refine qg1 ?_ | refine eD ?_ ?_ <;> intro)
  refine sC (CallsM.ren ((hc.ok hT)) [0, 1, 2, 3, 4, 5] 6 rfl rfl rfl rfl) ?_
  repeat' (first | refine qgs ?_ | refine eD ?_ ?_ <;> intro)
  exact ⟨rfl, TLe.rfl, rfl, rfl⟩
 ·
  refine fn_ruleP (C := ⟨Tryz.prog, layF, Tryz.f124.ntmps, ΓL, 6, [], []⟩) layF_ok mixed Tryz.func124 rfl (by kernel_rfl) rfl rfl rfl SLe.rfl ?_
  repeat' (first | refine ex_call h8 ?_ | refine qg1 ?_ | refine eD ?_ ?_ <;> intro)
  refine sC (CallsM.ren ((hc.err hT)) [0, 1, 2, 3, 4, 5] 6 rfl rfl rfl rfl) ?_
  exact ⟨⟨_, rfl, rfl⟩, rfl, rfl⟩
theorem line_c (hL : TokOk L) (hn : L.length ≤ 100000) {un : PM Int} (hu : Up L un 0 0) (hc : ∀ s, SOk L 0 s → C1 L m 155 [] un (fun k => Ti k) s) : ∀ j : Nat, j ≤ 8 → ∀ s, SOk L 0 s → C1 L m 124 [c1 (di (9 - (j : Int)))] (lineJ L un j) (fun k => Ti k) s
 | 0, _, s, hs => line0_c s (hc s hs)
 | j + 1, hj, s, hs => line_step hL hn j (by omega) (up_lineJ hL hu j) (line_c hL hn hu hc j (by omega)) s hs
theorem expr_of {x : PM Int} (s : PS) (hc : C1 L m 124 [c1 (di (9 - ((8 : Nat) : Int)))] x (fun k => Ti k) s) : C1 L m 85 [] x (fun k => Ti k) s := by
 have hc : C1 L m 124 [c1 (di 1)] x (fun k => Ti k) s := hc
 refine C1.of fun T hT => ?_
 rcases T with ⟨k, s1⟩ | ⟨i, e⟩
 ·
  refine fn_ruleP (C := ⟨Tryz.prog, layF, Tryz.f85.ntmps, ΓL, 6, [], []⟩) layF_ok mixed Tryz.func85 rfl (by kernel_rfl) rfl rfl rfl SLe.rfl ?_
  repeat' (first | refine qgs ?_ | refine eD ?_ ?_ <;> intro)
  refine sC (CallsM.ren ((hc.ok hT)) [0, 1, 2, 3, 4, 5] 6 rfl rfl rfl rfl) ?_
  repeat' (first | refine qgs ?_ | refine eD ?_ ?_ <;> intro)
  exact ⟨rfl, TLe.rfl, rfl, rfl⟩
 ·
  refine fn_ruleP (C := ⟨Tryz.prog, layF, Tryz.f85.ntmps, ΓL, 6, [], []⟩) layF_ok mixed Tryz.func85 rfl (by kernel_rfl) rfl rfl rfl SLe.rfl ?_
  repeat' (first | refine qgs ?_ | refine eD ?_ ?_ <;> intro)
  refine sC (CallsM.ren ((hc.err hT)) [0, 1, 2, 3, 4, 5] 6 rfl rfl rfl rfl) ?_
  exact ⟨⟨_, rfl, rfl⟩, rfl, rfl⟩
theorem unary_c (hL : TokOk L) (hn : L.length ≤ 100000) : ∀ m, m ≤ 32 → ∀ s, SOk L 0 s → C1 L m 155 [] (unM L m) (fun k => Ti k) s
 | 0, hm, s, hs => unary_step hL hn hm (fun h => absurd rfl h) (fun h => absurd rfl h) (fun _ h => by omega) (fun _ h => by omega) s hs
 | m + 1, hm, s, hs => unary_step hL hn hm (fun _ => up_unM hL m) (fun _ => up_lineJ hL (up_unM hL m) 8)
   (fun m' h s hs => by
    obtain rfl : m = m' := by omega
    exact unary_c hL hn m (by omega) s hs)
   (fun m' h s hs => by
    obtain rfl : m = m' := by omega
    exact expr_of s (line_c hL hn (up_unM hL m) (unary_c hL hn m (by omega)) 8 (Nat.le_refl _) s hs)) s hs
theorem expr_c (hL : TokOk L) (hn : L.length ≤ 100000) (m : Nat) (hm : m ≤ 32) (s : PS) (hs : SOk L 0 s) : C1 L m 85 [] (exprM L m) (fun k => Ti k) s :=
 expr_of s (line_c hL hn (up_unM hL m) (unary_c hL hn m hm) 8 (Nat.le_refl _) s hs)
end
end Go.Proofs.YtoingpafcodojaaGreatDoor

namespace Go.Proofs.YtoingpafcodojaaGreatDoor
open Go.RowKit

def Keep {α : Type} (x : PM α) : Prop := ∀ s v s', x s = .ok v s' → s'.ts = s.ts
theorem Keep.and {α β : Type} {x : PM α} {f : α → PM β} (hx : Keep x) (hf : ∀ v, Keep (f v)) : Keep (x >>= f) := fun s v s' h => by
 have hb : PM.and x f s = .ok v s' := h
 unfold PM.and at hb
 rcases hxs : x s with ⟨u, s1⟩ | ⟨i, e⟩
 ·rw [hxs] at hb; exact (hf u _ _ _ hb).trans (hx _ _ _ hxs)
 ·rw [hxs] at hb; cases hb
theorem Keep.at {α : Type} {p : Nat → Bool} {x y : PM α} (hx : Keep x) (hy : Keep y) : Keep (atM p x y) := fun s v s' h => by
 unfold atM at h
 split at h
 ·exact hx _ _ _ h
 ·exact hy _ _ _ h
theorem Keep.pure {α : Type} (v : α) : Keep (pure v) := fun s v s' h => by cases h; rfl
theorem Keep.step : Keep stepM := fun s v s' h => by cases h; rfl
theorem Keep.put (x : EX) : Keep (putM x) := fun s v s' h => by cases h; rfl
section
variable {L : List TokP} {m : Nat}
theorem Keep.take (t : List UInt8) : Keep (takeM L t) := fun s v s' h => by unfold takeM at h; split at h <;> cases h; rfl
theorem Keep.name : Keep (nameM L) := fun s v s' h => by unfold nameM at h; split at h <;> cases h; rfl
theorem Keep.num : Keep (numberM L) := fun s v s' h => by unfold numberM at h; split at h <;> cases h; rfl
theorem Keep.enter (p : Nat → Bool) : Keep (fun s => enterM m (p s.i) s) := fun s v s' h => by
 dsimp only at h; unfold enterM at h; split at h
 ·cases h
 ·split at h <;> cases h; rfl
theorem Keep.fail {α : Type} (e : Nat) : Keep (failM e : PM α) := fun s v s' h => by cases h
theorem keep_un (m : Nat) {un ex : PM Int} (h1 : Keep un) (h2 : Keep ex) : Keep (unF L m un ex) := by
 unfold unF
 exact Keep.at (Keep.step.and fun _ => (Keep.enter _).and fun _ => h1.and fun _ => Keep.put _) (Keep.at (Keep.step.and fun _ => (Keep.enter _).and fun _ => h2.and fun _ => (Keep.take _).and fun _ => Keep.pure _) (Keep.at (Keep.name.and fun _ => Keep.put _) (Keep.num.and fun _ => Keep.put _)))
theorem keep_line (lv : Nat) {x : PM Int} (hx : Keep x) : ∀ n left, Keep (lineN L lv x n left)
 | 0, left => Keep.pure _
 | n + 1, left => fun s v s' h => by
  rw [lineN] at h
  change (if opAt L lv s.i = true then _ else _) = _ at h
  split at h
  ·exact (Keep.step.and fun _ => hx.and fun r => (Keep.put ⟨3, (tk L s.i).t, 0, [], [left, r]⟩).and fun k => keep_line lv hx n k) _ _ _ h
  ·cases h; rfl
theorem keep_lineJ {un : PM Int} (hx : Keep un) : ∀ j, Keep (lineJ L un j)
 | 0 => hx
 | j + 1 => (keep_lineJ hx j).and fun left => fun s v s' h => keep_line _ (keep_lineJ hx j) _ _ s v s' h
theorem keep_unM : ∀ m, Keep (unM L m)
 | 0 => keep_un 0 (Keep.fail _) (Keep.fail _)
 | m + 1 => keep_un _ (keep_unM m) (keep_lineJ (keep_unM m) 8)
theorem keep_expr (m : Nat) : Keep (exprM L m) := keep_lineJ (keep_unM m) 8
theorem keep_bracket (m : Nat) : Keep (bracketM L m) := (Keep.take _).and fun _ => (keep_expr m).and fun _ => (Keep.take _).and fun _ => Keep.pure _
theorem Keep.eq {α : Type} {x : PM α} (h : Keep x) {i i1 : Nat} {xs xs1 : List EX} {ts ts1 : List TY} {v : α} (hx : x ⟨i, xs, ts⟩ = .ok v ⟨i1, xs1, ts1⟩) : ts = ts1 := (h _ _ _ hx).symm
theorem keep_args : ∀ n l, Keep (argsN L m n l)
 | 0, l => Keep.pure _
 | n + 1, l => Keep.at (Keep.step.and fun _ => (show Keep (fun s => if beginsV L s.i = true then roomM l.length s else .ok () s) from fun s v s' h => by
   dsimp only at h
   split at h
   ·unfold roomM at h; split at h <;> cases h; rfl
   ·cases h; rfl).and fun _ => (keep_expr m).and fun x => keep_args n _) (Keep.pure _)
theorem keep_ref : Keep (refM L m) := Keep.name.and fun w => Keep.at (Keep.step.and fun _ => (keep_expr m).and fun x => (show Keep (fun s => argsN L m (L.length - s.i + 1) [x] s) from fun s v s' h => keep_args _ _ s v s' h).and fun l => (Keep.take _).and fun _ => Keep.pure _) (Keep.pure _)
theorem start1 {i : Nat} {xs : List EX} : SLe 6 ⟨argTm 0 [P0], [(4, .dead), (0, Qz L m i), (1, Fz 2 3 6 5), (6, Xz xs)], 7⟩ ⟨argTm 0 [P0], [(0, Qz L m i), (1, Fz 2 3 4 5), (4, Xz xs)], 6⟩ :=
 SLe.kill (nx := 7) 4 (sR [(0, 0), (1, 1), (2, 2), (3, 3), (4, 6), (5, 5)])
theorem start2 {i : Nat} {xs : List EX} {ts : List TY} : SLe 6 ⟨argTm 0 [P0], [(4, .dead), (0, Qz L m i), (1, Fz 2 3 6 5), (6, Xz xs), (5, Tz ts)], 7⟩ ⟨argTm 0 [P0], [(0, Qz L m i), (1, Fz 2 3 4 5), (4, Xz xs), (5, Tz ts)], 6⟩ :=
 SLe.kill (nx := 7) 4 (sR [(0, 0), (1, 1), (2, 2), (3, 3), (4, 6), (5, 5)])
theorem start2t {i : Nat} {xs : List EX} {ts : List TY} {t : TY} : SLe 6 ⟨argTm 0 [P0, gD (tyD t)], [(4, .dead), (0, Qz L m i), (1, Fz 2 3 6 5), (6, Xz xs), (5, Tz ts)], 7⟩ ⟨argTm 0 [P0, gD (tyD t)], [(0, Qz L m i), (1, Fz 2 3 4 5), (4, Xz xs), (5, Tz ts)], 6⟩ :=
 SLe.kill (nx := 7) 4 (sR [(0, 0), (1, 1), (2, 2), (3, 3), (4, 6), (5, 5)])
theorem plain_c (k : Nat) : CallsA Tryz.prog ΓL 119 [c1 (di k)] (.o (gD [di k, di 0, db false, ds ⟨#[]⟩, dnil, di (-1), di (-1), dnil])) := by
 refine fn_rule (C := ⟨Tryz.prog, layF, Tryz.f119.ntmps, ΓL, 0, [], []⟩) layF_ok mixed Tryz.func119 rfl (by kernel_rfl) rfl rfl rfl ?_
 repeat' (first | refine qgs ?_ | refine eD ?_ ?_ <;> intro)
 exact TLe.rfl
theorem bracket_c (hL : TokOk L) (hn : L.length ≤ 100000) (hm : m ≤ 32) (s : PS) {c : Nat} (hs : SOk L c s) : C1 L m 120 [] (bracketM L m) (fun k => Ti k) s := by
 refine C1.of fun T hT => ?_
 unfold bracketM at hT
 obtain ⟨i, xs, ts⟩ := s
 refine fn_ruleP (C := ⟨Tryz.prog, layF, Tryz.f120.ntmps, ΓL, 6, [], []⟩) layF_ok mixed Tryz.func120 rfl (by kernel_rfl) rfl rfl rfl SLe.rfl ?_
 repeat' (first | refine qgs ?_ | refine eD ?_ ?_ <;> intro)
 have hcon := take_c (m := m) ⟨i, xs, ts⟩ hs.i (by omega) t_lsq
 rcases hx78 : (takeM L t_lsq) ⟨i, xs, ts⟩ with ⟨_, s9⟩ | ⟨i9, e9⟩
 rotate_left
 ·obtain rfl := (and_err hx78).symm.trans hT
  refine sC (CallsM.ren (hcon.err hx78) [0, 1] 6 rfl rfl rfl rfl) ?_
  first | exact ⟨⟨_, rfl, rfl⟩, rfl, rfl⟩ | exact ⟨by kernel_rfl, ⟨_, rfl, rfl⟩, rfl, rfl⟩
 replace hT := (and_ok hx78).symm.trans hT
 refine sC (CallsM.ren (hcon.ok hx78) [0, 1] 6 rfl rfl rfl rfl) ?_
 clear hcon
 have hs1 := (Up.ok (Up.take hL t_lsq 0) hs hx78).1
 obtain rfl := mv_take1 hx78
 repeat' (first | refine qgs ?_ | refine eD ?_ ?_ <;> intro)
 have hcon := expr_c hL hn m hm ⟨i + 1, xs, ts⟩ (hs1.less (by omega))
 rcases hx : (exprM L m) ⟨i + 1, xs, ts⟩ with ⟨k, ⟨i2, xs2, ts2⟩⟩ | ⟨i9, e9⟩
 rotate_left
 ·obtain rfl := (and_err hx).symm.trans hT
  refine sC (CallsM.ren (hcon.err hx) [0, 1, 2, 3, 4, 5] 6 rfl rfl rfl rfl) ?_
  first | exact ⟨⟨_, rfl, rfl⟩, rfl, rfl⟩ | exact ⟨by kernel_rfl, ⟨_, rfl, rfl⟩, rfl, rfl⟩
 replace hT := (and_ok hx).symm.trans hT
 refine sC (CallsM.ren (hcon.ok hx) [0, 1, 2, 3, 4, 5] 6 rfl rfl rfl rfl) ?_
 clear hcon
 have hs2 := (Up.ok (up_expr hL m 1) hs1 hx).1
 repeat' (first | refine qgs ?_ | refine eD ?_ ?_ <;> intro)
 have hcon := take_c (m := m) ⟨i2, xs2, ts2⟩ hs2.i (by omega) t_rsq
 rcases hx82 : (takeM L t_rsq) ⟨i2, xs2, ts2⟩ with ⟨_, s9⟩ | ⟨i9, e9⟩
 rotate_left
 ·obtain rfl := (and_err hx82).symm.trans hT
  refine sC (CallsM.ren (hcon.err hx82) [0, 1] 7 rfl rfl rfl rfl) ?_
  first | exact ⟨⟨_, rfl, rfl⟩, rfl, rfl⟩ | exact ⟨by kernel_rfl, ⟨_, rfl, rfl⟩, rfl, rfl⟩
 replace hT := (and_ok hx82).symm.trans hT
 refine sC (CallsM.ren (hcon.ok hx82) [0, 1] 7 rfl rfl rfl rfl) ?_
 clear hcon
 have hs3 := (Up.ok (Up.take hL t_rsq 0) hs2 hx82).1
 obtain rfl := mv_take1 hx82
 obtain rfl : PR.ok k ⟨i2 + 1, xs2, ts2⟩ = T := hT
 repeat' (first | refine qgs ?_ | refine eD ?_ ?_ <;> intro)
 exact ⟨rfl, TLe.rfl, rfl, rfl⟩
theorem layn_c (i : Nat) (ts : List TY) (k size : Nat) (little : Bool) (w : List UInt8) (x n : Int) (hx : ts.length ≤ 1000000) : CallsM Tryz.prog ΓL 122 [(0, Qz L m i), (1, Fz 2 3 4 5), (5, Tz ts)] 6 [P0, gD [di k, di size, db little, ds (bs w), dnil, di x, di n, dnil]] (Ti ts.length) [(0, Qz L m i), (1, Fz 2 3 4 6), (5, .dead)] [Tz (ts ++ [⟨k, size, little, w, [], x, n, []⟩])] :=
 (lay_c (L := L) (m := m) ⟨i, [], ts⟩ ⟨k, size, little, w, [], x, n, []⟩ hx).argsLe (.cons T1Le.rfl (.cons (T1Le.g (.cons DLe.rfl (.cons DLe.rfl (.cons DLe.rfl (.cons DLe.rfl (.cons DLe.nil (.cons DLe.rfl (.cons DLe.rfl (.cons DLe.nil .nil))))))))) .nil))
set_option maxHeartbeats 4000000 in
theorem array_c (hL : TokOk L) (hn : L.length ≤ 100000) (hm : m ≤ 32) (t : TY) (s : PS) {c : Nat} (hs : SOk L (c + 1) s) : C2 L m 115 [gD (tyD t)] (arrayM L m t) (fun k => Ti k) s := by
 refine C2.of fun T hT => ?_
 unfold arrayM at hT
 obtain ⟨i, xs, ts⟩ := s
 have hi := hs.lt
 have hxl := hs.lx
 have htl := hs.lt'
 replace hT : atM (isV L · t_lsq) (bracketM L m >>= fun x => layM { tyP 5 with ex := x, inn := ts.length }) (pure (ts.length : Int)) ⟨i, xs, ts ++ [t]⟩ = T := hT
 have hq : SOk L c ⟨i, xs, ts ++ [t]⟩ := (Up.ok (Up.lay t 0) hs rfl).1
 have hl := lay_c (L := L) (m := m) ⟨i, xs, ts⟩ t (by show ts.length ≤ _; omega)
 refine fn_ruleP (C := ⟨Tryz.prog, layF, Tryz.f115.ntmps, ΓL, 6, [], []⟩) layF_ok mixed Tryz.func115 rfl (by kernel_rfl) rfl rfl rfl start2t ?_
 repeat' (first | refine qgs ?_ | refine eD ?_ ?_ <;> intro)
 refine sC (CallsM.ren (hl) [0, 1, 2, 3, 6, 5] 8 rfl rfl rfl rfl) ?_
 repeat' (first | refine qgs ?_ | refine eD ?_ ?_ <;> intro)
 rcases hv : isV L i t_lsq with _ | _
 ·replace hT := atn hT hv
  obtain rfl : PR.ok (ts.length : Int) ⟨i, xs, ts ++ [t]⟩ = T := hT
  have hi := is_c (m := m) i hi t_lsq
  rw [hv] at hi
  refine sC (CallsM.ren (hi) [0, 1] 9 rfl rfl rfl rfl) ?_
  repeat' (first | refine qgs ?_ | refine eD ?_ ?_ <;> intro)
  exact ⟨rfl, TLe.rfl, rfl, rfl⟩
 ·replace hT := aty hT hv
  have hi := is_c (m := m) i hi t_lsq
  rw [hv] at hi
  refine sC (CallsM.ren (hi) [0, 1] 9 rfl rfl rfl rfl) ?_
  repeat' (first | refine ex_call (plain_c 5) ?_ | refine qg1 ?_ | refine eD ?_ ?_ <;> intro)
  have hcon := bracket_c hL hn hm ⟨i, xs, ts ++ [t]⟩ hq
  rcases hx : (bracketM L m) ⟨i, xs, ts ++ [t]⟩ with ⟨x, ⟨i2, xs2, ts2⟩⟩ | ⟨i9, e9⟩
  rotate_left
  ·obtain rfl := (and_err hx).symm.trans hT
   refine sC (CallsM.ren (hcon.err hx) [0, 1, 2, 3, 6, 8] 10 rfl rfl rfl rfl) ?_
   first | exact ⟨⟨_, rfl, rfl⟩, rfl, rfl⟩ | exact ⟨by kernel_rfl, ⟨_, rfl, rfl⟩, rfl, rfl⟩
  replace hT := (and_ok hx).symm.trans hT
  refine sC (CallsM.ren (hcon.ok hx) [0, 1, 2, 3, 6, 8] 10 rfl rfl rfl rfl) ?_
  clear hcon
  have hs2 := (Up.ok (up_bracket hL m 0) hq hx).1
  obtain rfl := (keep_bracket m).eq hx
  have hl2 := hs2.lt'
  have hi2 := hs2.lt
  obtain rfl : PR.ok ((ts ++ [t]).length : Int) ⟨i2, xs2, (ts ++ [t]) ++ [(⟨5, 0, false, [], [], x, ts.length, []⟩ : TY)]⟩ = T := hT
  repeat' (first | refine qgs ?_ | refine eD ?_ ?_ <;> intro)
  refine sC (CallsM.ren ((layn_c (L := L) (m := m) i2 (ts ++ [t]) 5 0 false [] x ts.length (by omega))) [0, 1, 2, 3, 10, 8] 11 rfl rfl rfl rfl) ?_
  repeat' (first | refine qgs ?_ | refine eD ?_ ?_ <;> intro)
  exact ⟨rfl, TLe.rfl, rfl, rfl⟩
end
end Go.Proofs.YtoingpafcodojaaGreatDoor

namespace Go.Proofs.YtoingpafcodojaaGreatDoor
open Go.RowKit

section
variable {L : List TokP} {m : Nat}
section
variable {α β γ : Type} {x y : PM α} {g : α → PM β} {f : β → PM γ} {F : α → PM β} {p : Nat → Bool} {i : Nat} {xs : List EX} {ts : List TY}
theorem asc {s : PS} {T : PR γ} (h : ((x >>= g) >>= f) s = T) : (x >>= fun v => g v >>= f) s = T := by
 rw [← h]
 show PM.and x (fun v => PM.and (g v) f) s = PM.and (PM.and x g) f s
 unfold PM.and
 cases x s <;> rfl
theorem atyB {T : PR β} (hT : (atM p x y >>= F) ⟨i, xs, ts⟩ = T) (h : p i = true) : (x >>= F) ⟨i, xs, ts⟩ = T := by
 rw [← hT]
 show PM.and _ _ _ = PM.and _ _ _
 unfold PM.and
 rw [at_pos (s := ⟨i, xs, ts⟩) h]
theorem atnB {T : PR β} (hT : (atM p x y >>= F) ⟨i, xs, ts⟩ = T) (h : p i = false) : (y >>= F) ⟨i, xs, ts⟩ = T := by
 rw [← hT]
 show PM.and _ _ _ = PM.and _ _ _
 unfold PM.and
 rw [at_neg (s := ⟨i, xs, ts⟩) h]
theorem pureT {v : α} {s : PS} {T : PR β} (hT : ((pure v : PM α) >>= F) s = T) : F v s = T := hT
theorem rmT {n : Nat} {F : Unit → PM β} {T : PR β} (hT : ((fun s => if p s.i = true then roomM n s else .ok () s) >>= F) ⟨i, xs, ts⟩ = T) (h : p i = true) : (roomM n >>= F) ⟨i, xs, ts⟩ = T := by
 rw [← hT]
 show PM.and _ _ _ = PM.and _ _ _
 unfold PM.and
 dsimp only
 rw [if_pos h]
theorem rmF {n : Nat} {F : Unit → PM β} {T : PR β} (hT : ((fun s => if p s.i = true then roomM n s else .ok () s) >>= F) ⟨i, xs, ts⟩ = T) (h : p i = false) : F () ⟨i, xs, ts⟩ = T := by
 rw [← hT]
 show _ = PM.and _ _ _
 unfold PM.and
 dsimp only
 rw [if_neg (by rw [h]; decide)]
end
theorem tyLe {k size : Nat} {little : Bool} {w : List UInt8} {x n : Int} : TLe (.o (gD [di k, di size, db little, ds (bs w), dnil, di x, di n, dnil])) (.o (gD (tyD ⟨k, size, little, w, [], x, n, []⟩))) :=
 TLe.o (T1Le.g (.cons DLe.rfl (.cons DLe.rfl (.cons DLe.rfl (.cons DLe.rfl (.cons DLe.nil (.cons DLe.rfl (.cons DLe.rfl (.cons DLe.nil .nil)))))))))
theorem tyLe1 {k size : Nat} {little : Bool} {w : List UInt8} {x n : Int} {l : List Int} : TLe (.o (gD [di k, di size, db little, ds (bs w), intsD l, di x, di n, dnil])) (.o (gD (tyD ⟨k, size, little, w, l, x, n, []⟩))) :=
 TLe.o (T1Le.g (.cons DLe.rfl (.cons DLe.rfl (.cons DLe.rfl (.cons DLe.rfl (.cons DLe.rfl (.cons DLe.rfl (.cons DLe.rfl (.cons DLe.nil .nil)))))))))
set_option maxHeartbeats 4000000 in
theorem ref_c (hL : TokOk L) (hn : L.length ≤ 100000) (hm : m ≤ 32) (s : PS) {c : Nat} (hs : SOk L c s) : C1 L m 116 [] (refM L m) (fun t => .o (gD (tyD t))) s := by
 refine C1.of fun T hT => ?_
 unfold refM at hT
 obtain ⟨i, xs, ts⟩ := s
 refine fn_ruleP (C := ⟨Tryz.prog, layF, Tryz.f116.ntmps, ΓL, 6, [], []⟩) layF_ok mixed Tryz.func116 rfl (by kernel_rfl) rfl rfl rfl start1 ?_
 repeat' (first | refine ex_call (plain_c 10) ?_ | refine qg1 ?_ | refine eD ?_ ?_ <;> intro)
 have hcon := name_c (m := m) ⟨i, xs, ts⟩ hs.i (by omega)
 rcases hx50 : (nameM L) ⟨i, xs, ts⟩ with ⟨w, s9⟩ | ⟨i9, e9⟩
 rotate_left
 ·obtain rfl := (and_err hx50).symm.trans hT
  refine sC (CallsM.ren (hcon.err hx50) [0, 1] 9 rfl rfl rfl rfl) ?_
  first | exact ⟨⟨_, rfl, rfl⟩, rfl, rfl⟩ | exact ⟨by kernel_rfl, ⟨_, rfl, rfl⟩, rfl, rfl⟩
 replace hT := (and_ok hx50).symm.trans hT
 refine sC (CallsM.ren (hcon.ok hx50) [0, 1] 9 rfl rfl rfl rfl) ?_
 clear hcon
 have hs1 := (Up.ok (Up.name hL 0) hs hx50).1
 obtain rfl := mv_name1 hx50
 repeat' (first | refine qgs ?_ | refine eD ?_ ?_ <;> intro)
 rcases hv : isV L (i + 1) t_lpar with _ | _
 ·replace hT := atn hT hv
  obtain rfl : PR.ok ({ tyP 10 with nm := w } : TY) ⟨i + 1, xs, ts⟩ = T := hT
  refine sC (CallsM.ren ((may_no (i + 1) hs1.lt _ hv)) [0, 1] 9 rfl rfl rfl rfl) ?_
  repeat' (first | refine qgs ?_ | refine eD ?_ ?_ <;> intro)
  exact ⟨rfl, tyLe, rfl, rfl⟩
 ·replace hT := stp1 (aty hT hv)
  have hs2 := stpS hL hs1 (isV_k hv)
  refine sC (CallsM.ren ((may_yes (i + 1) hs1.lt (by omega) _ hv)) [0, 1] 9 rfl rfl rfl rfl) ?_
  repeat' (first | refine qgs ?_ | refine eD ?_ ?_ <;> intro)
  have hcon := expr_c hL hn m hm ⟨i + 1 + 1, xs, ts⟩ (hs2.less (by omega))
  rcases hx : (exprM L m) ⟨i + 1 + 1, xs, ts⟩ with ⟨x, ⟨i2, xs2, ts2⟩⟩ | ⟨i9, e9⟩
  rotate_left
  ·obtain rfl := (and_err hx).symm.trans hT
   refine sC (CallsM.ren (hcon.err hx) [0, 1, 2, 3, 6, 5] 9 rfl rfl rfl rfl) ?_
   first | exact ⟨⟨_, rfl, rfl⟩, rfl, rfl⟩ | exact ⟨by kernel_rfl, ⟨_, rfl, rfl⟩, rfl, rfl⟩
  replace hT := (and_ok hx).symm.trans hT
  refine sC (CallsM.ren (hcon.ok hx) [0, 1, 2, 3, 6, 5] 9 rfl rfl rfl rfl) ?_
  clear hcon
  have hs3 := (Up.ok (up_expr hL m 2) hs2 hx).1
  repeat' (first | refine qgs ?_ | refine eD ?_ ?_ <;> intro)
  refine ex_app (0) (1) 1000 (by first | rfl | (simp; done) | (simp; omega)) (by first | rfl | (simp; done) | (simp; omega)) rfl (by omega) ?_
  refine ex_is (List.map (fun k : Int => [di k]) [x]) (rfl) ?_
  repeat' (first | refine qgs ?_ | refine eD ?_ ?_ <;> intro)
  replace hT : (argsN L m (L.length - i2 + 1) [x] >>= fun l => takeM L t_rpar >>= fun _ => pure ({ tyP 10 with nm := w, args := l } : TY)) ⟨i2, xs2, ts2⟩ = T := hT
  refine ex_loop (X := Nat × List EX × List TY × List Int × Nat) (fun ⟨i, xs, _, l, _⟩ => ⟨[(0, .o P0), (2, .o (.c (.ptr 7 0))), (3, .o (.c (.ptr 8 0)))], [(0, Qz L m i), (1, Fz 2 3 9 5), (4, .dead), (7, .obj [.d (di 0), .d (di 0), .d (db false), .d (ds ⟨#[]⟩), .d dnil, .d (di 0), .d (di 0), .d dnil]), (8, .obj [.d (di 10), .d (di 0), .d (db false), .d (ds (bs w)), .row 11, .d (di (-1)), .d (di (-1)), .d dnil]), (9, Xz xs), (11, .row 1 3 (l.map fun k => [di k]))], 12⟩) (fun y => L.length - y.1)
   (fun ⟨i, xs, ts, l, n⟩ => SOk L 2 ⟨i, xs, ts⟩ ∧ L.length < i + n ∧ l.length ≤ i ∧ (argsN L m n l >>= fun l => takeM L t_rpar >>= fun _ => pure ({ tyP 10 with nm := w, args := l } : TY)) ⟨i, xs, ts⟩ = T) (i2, xs2, ts2, [x], L.length - i2 + 1) ⟨hs3.less (by omega), by omega, by have := hs3.lx; show 1 ≤ i2; omega, hT⟩ sS ?_
  clear hT hx hs3 hs2 hs1 hs hv
  rintro ⟨i, xs, ts, l, n⟩ ⟨hs, hf, hll, hT⟩
  have hi := hs.lt
  cases n with
  | zero => omega
  | succ n =>
   rw [argsN] at hT
   rcases hv : isV L i t_comma with _ | _
   ·replace hT := pureT (atnB hT hv)
    refine sC (CallsM.ren ((may_no i hi _ hv)) [0, 1] 12 rfl rfl rfl rfl) ?_
    repeat' (first | refine qgs ?_ | refine eD ?_ ?_ <;> intro)
    have hcon := take_c (m := m) ⟨i, xs, ts⟩ hs.i (by omega) t_rpar
    rcases hx81 : (takeM L t_rpar) ⟨i, xs, ts⟩ with ⟨_, s9⟩ | ⟨i9, e9⟩
    rotate_left
    ·obtain rfl := (and_err hx81).symm.trans hT
     refine sC (CallsM.ren (hcon.err hx81) [0, 1] 12 rfl rfl rfl rfl) ?_
     first | exact ⟨⟨_, rfl, rfl⟩, rfl, rfl⟩ | exact ⟨by kernel_rfl, ⟨_, rfl, rfl⟩, rfl, rfl⟩
    replace hT := (and_ok hx81).symm.trans hT
    refine sC (CallsM.ren (hcon.ok hx81) [0, 1] 12 rfl rfl rfl rfl) ?_
    clear hcon
    have hs1 := (Up.ok (Up.take hL t_rpar 0) hs hx81).1
    obtain rfl := mv_take1 hx81
    obtain rfl : PR.ok ({ tyP 10 with nm := w, args := l } : TY) ⟨i + 1, xs, ts⟩ = T := hT
    repeat' (first | refine qgs ?_ | refine eD ?_ ?_ <;> intro)
    exact ⟨rfl, tyLe1, rfl, rfl⟩
   ·replace hT := asc (stp1 (asc (atyB hT hv)))
    have hs1 := stpS hL hs (isV_k hv)
    have hbc := begins_c (L := L) (m := m) (i + 1) hs1.lt
    refine sC (CallsM.ren ((may_yes i hi (by omega) _ hv)) [0, 1] 12 rfl rfl rfl rfl) ?_
    repeat' (first | refine qgs ?_ | refine eD ?_ ?_ <;> intro)
    rcases hb : beginsV L (i + 1) with _ | _ <;> rw [hb] at hbc
    ·replace hT := rmF hT hb
     refine sC (CallsM.ren (hbc) [0, 1] 12 rfl rfl rfl rfl) ?_
     repeat' (first | refine qgs ?_ | refine eD ?_ ?_ <;> intro)
     replace hT := asc hT
     have hcon := expr_c hL hn m hm ⟨i + 1, xs, ts⟩ (hs1.less (by omega))
     rcases hx : (exprM L m) ⟨i + 1, xs, ts⟩ with ⟨x, ⟨i2, xs2, ts2⟩⟩ | ⟨i9, e9⟩
     rotate_left
     ·obtain rfl := (and_err hx).symm.trans hT
      refine sC (CallsM.ren (hcon.err hx) [0, 1, 2, 3, 9, 5] 12 rfl rfl rfl rfl) ?_
      first | exact ⟨⟨_, rfl, rfl⟩, rfl, rfl⟩ | exact ⟨by kernel_rfl, ⟨_, rfl, rfl⟩, rfl, rfl⟩
     replace hT := (and_ok hx).symm.trans hT
     refine sC (CallsM.ren (hcon.ok hx) [0, 1, 2, 3, 9, 5] 12 rfl rfl rfl rfl) ?_
     clear hcon
     have hs3 := (Up.ok (up_expr hL m 3) hs1 hx).1
     have hi2 : i + 1 ≤ i2 := (Up.ok (up_expr hL m 3) hs1 hx).2
     repeat' (first | refine qgs ?_ | refine eD ?_ ?_ <;> intro)
     refine ex_app (l.length) (1) 1000 (by first | rfl | (simp; done) | (simp; omega)) (by first | rfl | (simp; done) | (simp; omega)) rfl (by omega) ?_
     refine ex_is (List.map (fun k : Int => [di k]) (l ++ [x])) (by rw [List.map_append]; rfl) ?_
     repeat' (first | refine qgs ?_ | refine eD ?_ ?_ <;> intro)
     exact ex_round (i2, xs2, ts2, l ++ [x], n) ⟨hs3.less (by omega), by omega, by simp; omega, hT⟩ (by show L.length - i2 < L.length - i; omega) (sR [(0, 0), (1, 1), (2, 2), (3, 3), (4, 4), (5, 5), (7, 7), (8, 8), (12, 9), (14, 11)])
    ·replace hT := rmT hT hb
     refine sC (CallsM.ren (hbc) [0, 1] 12 rfl rfl rfl rfl) ?_
     repeat' (first | refine ex_is l.length (by simp) ?_ | refine qg1 ?_ | refine eD ?_ ?_ <;> intro)
     have hcon := room_c (m := m) ⟨i + 1, xs, ts⟩ hs1.lt l.length (by omega)
     rcases hr : (roomM l.length) ⟨i + 1, xs, ts⟩ with ⟨_, s9⟩ | ⟨i9, e9⟩
     rotate_left
     ·obtain rfl := (and_err hr).symm.trans hT
      refine sC (CallsM.ren (hcon.err hr) [0, 1] 12 rfl rfl rfl rfl) ?_
      first | exact ⟨⟨_, rfl, rfl⟩, rfl, rfl⟩ | exact ⟨by kernel_rfl, ⟨_, rfl, rfl⟩, rfl, rfl⟩
     replace hT := (and_ok hr).symm.trans hT
     refine sC (CallsM.ren (hcon.ok hr) [0, 1] 12 rfl rfl rfl rfl) ?_
     clear hcon
     obtain rfl := mv_room1 hr
     repeat' (first | refine qgs ?_ | refine eD ?_ ?_ <;> intro)
     replace hT := asc hT
     have hcon := expr_c hL hn m hm ⟨i + 1, xs, ts⟩ (hs1.less (by omega))
     rcases hx : (exprM L m) ⟨i + 1, xs, ts⟩ with ⟨x, ⟨i2, xs2, ts2⟩⟩ | ⟨i9, e9⟩
     rotate_left
     ·obtain rfl := (and_err hx).symm.trans hT
      refine sC (CallsM.ren (hcon.err hx) [0, 1, 2, 3, 9, 5] 12 rfl rfl rfl rfl) ?_
      first | exact ⟨⟨_, rfl, rfl⟩, rfl, rfl⟩ | exact ⟨by kernel_rfl, ⟨_, rfl, rfl⟩, rfl, rfl⟩
     replace hT := (and_ok hx).symm.trans hT
     refine sC (CallsM.ren (hcon.ok hx) [0, 1, 2, 3, 9, 5] 12 rfl rfl rfl rfl) ?_
     clear hcon
     have hs3 := (Up.ok (up_expr hL m 3) hs1 hx).1
     have hi2 : i + 1 ≤ i2 := (Up.ok (up_expr hL m 3) hs1 hx).2
     repeat' (first | refine qgs ?_ | refine eD ?_ ?_ <;> intro)
     refine ex_app (l.length) (1) 1000 (by first | rfl | (simp; done) | (simp; omega)) (by first | rfl | (simp; done) | (simp; omega)) rfl (by omega) ?_
     refine ex_is (List.map (fun k : Int => [di k]) (l ++ [x])) (by rw [List.map_append]; rfl) ?_
     repeat' (first | refine qgs ?_ | refine eD ?_ ?_ <;> intro)
     exact ex_round (i2, xs2, ts2, l ++ [x], n) ⟨hs3.less (by omega), by omega, by simp; omega, hT⟩ (by show L.length - i2 < L.length - i; omega) (sR [(0, 0), (1, 1), (2, 2), (3, 3), (4, 4), (5, 5), (7, 7), (8, 8), (12, 9), (14, 11)])
end
end Go.Proofs.YtoingpafcodojaaGreatDoor

namespace Go.Proofs.YtoingpafcodojaaGreatDoor
open Go.RowKit

section
variable {L : List TokP} {m : Nat}
theorem SLe.via {nx0 : Nat} {s t u : St} (h' : SLe nx0 t u) (h : SLe nx0 s t) : SLe nx0 s u := h.trans h'
theorem takeY {t : List UInt8} {i : Nat} {xs : List EX} {ts : List TY} (h : isV L i t = true) : takeM L t ⟨i, xs, ts⟩ = .ok () ⟨i + 1, xs, ts⟩ := if_pos h
theorem deeper2_c {x : PM Int} {h : FuncId} (s : PS) (hi : s.i < L.length) (hm : m ≤ 32) (hc : ∀ m', m = m' + 1 → C2 L m' h [] x (fun k => Ti k) s) (b : Bool) :
  C2 L m 153 [c1 (db b), .f h 1 [.ptr 0 0]] (enterM m b >>= fun _ => x) (fun k => Ti k) s := by
 refine C2.of fun T hT => ?_
 cases b
 ·obtain rfl : PR.err s.i 4 = T := hT
  refine fn_ruleP (C := ⟨Tryz.prog, layF, Tryz.f153.ntmps, ΓL, 6, [], []⟩) layF_ok mixed Tryz.func153 rfl (by kernel_rfl) rfl rfl rfl SLe.rfl ?_
  repeat' (first | refine qgs ?_ | refine eD ?_ ?_ <;> intro)
  refine sC (CallsM.ren ((fail_c s.i 4 hi)) [0, 1] 6 rfl rfl rfl rfl) ?_
  exact ⟨⟨_, rfl, rfl⟩, rfl, rfl⟩
 ·cases m with
  | zero =>
   obtain rfl : PR.err s.i 8 = T := hT
   refine fn_ruleP (C := ⟨Tryz.prog, layF, Tryz.f153.ntmps, ΓL, 6, [], []⟩) layF_ok mixed Tryz.func153 rfl (by kernel_rfl) rfl rfl rfl SLe.rfl ?_
   repeat' (first | refine qgs ?_ | refine eD ?_ ?_ <;> intro)
   refine sC (CallsM.ren ((fail_c s.i 8 hi)) [0, 1] 6 rfl rfl rfl rfl) ?_
   exact ⟨⟨_, rfl, rfl⟩, rfl, rfl⟩
  | succ m =>
   have hT : x s = T := hT
   have hc := hc m rfl
   rcases T with ⟨k, s1⟩ | ⟨i, e⟩
   ·
    refine fn_ruleP (C := ⟨Tryz.prog, layF, Tryz.f153.ntmps, ΓL, 6, [], []⟩) layF_ok mixed Tryz.func153 rfl (by kernel_rfl) rfl rfl rfl SLe.rfl ?_
    repeat' (first | refine aI (32 - ((m : Nat) : Int)) ?_ | refine aU (32 - ((m : Nat) : Int)) ?_ | refine aB (32 - ((m : Nat) : Int)) ?_ | refine qg1 ?_ | refine eD ?_ ?_ <;> intro)
    refine sC (CallsM.ren ((hc.ok hT)) [0, 1, 2, 3, 4, 5] 6 rfl rfl rfl rfl) ?_
    repeat' (first | refine aI (32 - ((m + 1 : Nat) : Int)) ?_ | refine aU (32 - ((m + 1 : Nat) : Int)) ?_ | refine aB (32 - ((m + 1 : Nat) : Int)) ?_ | refine qg1 ?_ | refine eD ?_ ?_ <;> intro)
    exact ⟨rfl, TLe.rfl, rfl, rfl⟩
   ·
    refine fn_ruleP (C := ⟨Tryz.prog, layF, Tryz.f153.ntmps, ΓL, 6, [], []⟩) layF_ok mixed Tryz.func153 rfl (by kernel_rfl) rfl rfl rfl SLe.rfl ?_
    repeat' (first | refine aI (32 - ((m : Nat) : Int)) ?_ | refine aU (32 - ((m : Nat) : Int)) ?_ | refine aB (32 - ((m : Nat) : Int)) ?_ | refine qg1 ?_ | refine eD ?_ ?_ <;> intro)
    refine sC (CallsM.ren ((hc.err hT)) [0, 1, 2, 3, 4, 5] 6 rfl rfl rfl rfl) ?_
    exact ⟨⟨_, rfl, rfl⟩, rfl, rfl⟩
theorem inner_c (hm : m ≤ 32) {kd : PM Int} (s : PS) (hi : s.i < L.length) (hc : ∀ m', m = m' + 1 → C2 L m' 83 [] kd (fun k => Ti k) s) : C2 L m 121 [] (innerM L m kd) (fun k => Ti k) s := by
 refine C2.of fun T hT => ?_
 have hT : (enterM m (startsV L s.i) >>= fun _ => kd) s = T := hT
 have hd := deeper2_c s hi hm hc (startsV L s.i)
 rcases T with ⟨k, s1⟩ | ⟨i, e⟩
 ·
  refine fn_ruleP (C := ⟨Tryz.prog, layF, Tryz.f121.ntmps, ΓL, 6, [], []⟩) layF_ok mixed Tryz.func121 rfl (by kernel_rfl) rfl rfl rfl SLe.rfl ?_
  repeat' (first | refine qgs ?_ | refine eD ?_ ?_ <;> intro)
  refine sC (CallsM.ren ((starts_c (m := m) s.i hi)) [0, 1] 6 rfl rfl rfl rfl) ?_
  repeat' (first | refine qgs ?_ | refine eD ?_ ?_ <;> intro)
  refine sC (CallsM.ren ((hd.ok hT)) [0, 1, 2, 3, 4, 5] 6 rfl rfl rfl rfl) ?_
  repeat' (first | refine qgs ?_ | refine eD ?_ ?_ <;> intro)
  exact ⟨rfl, TLe.rfl, rfl, rfl⟩
 ·
  refine fn_ruleP (C := ⟨Tryz.prog, layF, Tryz.f121.ntmps, ΓL, 6, [], []⟩) layF_ok mixed Tryz.func121 rfl (by kernel_rfl) rfl rfl rfl SLe.rfl ?_
  repeat' (first | refine qgs ?_ | refine eD ?_ ?_ <;> intro)
  refine sC (CallsM.ren ((starts_c (m := m) s.i hi)) [0, 1] 6 rfl rfl rfl rfl) ?_
  repeat' (first | refine qgs ?_ | refine eD ?_ ?_ <;> intro)
  refine sC (CallsM.ren ((hd.err hT)) [0, 1, 2, 3, 4, 5] 6 rfl rfl rfl rfl) ?_
  exact ⟨⟨_, rfl, rfl⟩, rfl, rfl⟩
theorem layc_c (i : Nat) (ts : List TY) (x n : Int) (cs : List CA) (hx : ts.length ≤ 1000000) : CallsM Tryz.prog ΓL 122 [(0, Qz L m i), (1, Fz 2 3 4 5), (5, Tz ts)] 6 [P0, gD [di 9, di 0, db false, ds ⟨#[]⟩, dnil, di x, di n, .sl 2 (cs.map caD)]] (Ti ts.length) [(0, Qz L m i), (1, Fz 2 3 4 6), (5, .dead)] [Tz (ts ++ [⟨9, 0, false, [], [], x, n, cs⟩])] :=
 (lay_c (L := L) (m := m) ⟨i, [], ts⟩ ⟨9, 0, false, [], [], x, n, cs⟩ hx).argsLe (.cons T1Le.rfl (.cons (T1Le.g (.cons DLe.rfl (.cons DLe.rfl (.cons DLe.rfl (.cons DLe.rfl (.cons DLe.nil (.cons DLe.rfl (.cons DLe.rfl (.cons DLe.rfl .nil))))))))) .nil))
set_option maxHeartbeats 4000000 in
theorem choice_c (hL : TokOk L) (hn : L.length ≤ 100000) (hm : m ≤ 32) {kd : PM Int} (hu : Up L kd 0 0) (hc : ∀ m', m = m' + 1 → ∀ s, SOk L 0 s → C2 L m' 83 [] kd (fun k => Ti k) s) (s : PS) {c : Nat} (hs : SOk L (c + 1) s) :
  C2 L m 123 [] (choiceM L m kd) (fun k => Ti k) s := by
 refine C2.of fun T hT => ?_
 unfold choiceM at hT
 obtain ⟨i, xs, ts⟩ := s
 have hin : ∀ s, SOk L 0 s → C2 L m 121 [] (innerM L m kd) (fun k => Ti k) s := fun s hs => inner_c hm s hs.i fun m' e => hc m' e s hs
 refine fn_ruleP (C := ⟨Tryz.prog, layF, Tryz.f123.ntmps, ΓL, 6, [], []⟩) layF_ok mixed Tryz.func123 rfl (by kernel_rfl) rfl rfl rfl SLe.rfl ?_
 repeat' (first | refine ex_call (plain_c 9) ?_ | refine qg1 ?_ | refine eD ?_ ?_ <;> intro)
 have hcon := take_c (m := m) ⟨i, xs, ts⟩ hs.i (by omega) t_lpar
 rcases hx74 : (takeM L t_lpar) ⟨i, xs, ts⟩ with ⟨_, s9⟩ | ⟨i9, e9⟩
 rotate_left
 ·obtain rfl := (and_err hx74).symm.trans hT
  refine sC (CallsM.ren (hcon.err hx74) [0, 1] 7 rfl rfl rfl rfl) ?_
  first | exact ⟨⟨_, rfl, rfl⟩, rfl, rfl⟩ | exact ⟨by kernel_rfl, ⟨_, rfl, rfl⟩, rfl, rfl⟩
 replace hT := (and_ok hx74).symm.trans hT
 refine sC (CallsM.ren (hcon.ok hx74) [0, 1] 7 rfl rfl rfl rfl) ?_
 clear hcon
 have hs1 := (Up.ok (Up.take hL t_lpar 0) hs hx74).1
 obtain rfl := mv_take1 hx74
 repeat' (first | refine qgs ?_ | refine eD ?_ ?_ <;> intro)
 have hcon := expr_c hL hn m hm ⟨i + 1, xs, ts⟩ (hs1.less (by omega))
 rcases hx : (exprM L m) ⟨i + 1, xs, ts⟩ with ⟨x, ⟨i2, xs2, ts2⟩⟩ | ⟨i9, e9⟩
 rotate_left
 ·obtain rfl := (and_err hx).symm.trans hT
  refine sC (CallsM.ren (hcon.err hx) [0, 1, 2, 3, 4, 5] 7 rfl rfl rfl rfl) ?_
  first | exact ⟨⟨_, rfl, rfl⟩, rfl, rfl⟩ | exact ⟨by kernel_rfl, ⟨_, rfl, rfl⟩, rfl, rfl⟩
 replace hT := (and_ok hx).symm.trans hT
 refine sC (CallsM.ren (hcon.ok hx) [0, 1, 2, 3, 4, 5] 7 rfl rfl rfl rfl) ?_
 clear hcon
 have hs2 := (Up.ok (up_expr hL m 1) hs1 hx).1
 obtain rfl := (keep_expr m).eq hx
 repeat' (first | refine qgs ?_ | refine eD ?_ ?_ <;> intro)
 have hcon := take_c (m := m) ⟨i2, xs2, ts⟩ hs2.i (by omega) t_rpar
 rcases hx78 : (takeM L t_rpar) ⟨i2, xs2, ts⟩ with ⟨_, s9⟩ | ⟨i9, e9⟩
 rotate_left
 ·obtain rfl := (and_err hx78).symm.trans hT
  refine sC (CallsM.ren (hcon.err hx78) [0, 1] 8 rfl rfl rfl rfl) ?_
  first | exact ⟨⟨_, rfl, rfl⟩, rfl, rfl⟩ | exact ⟨by kernel_rfl, ⟨_, rfl, rfl⟩, rfl, rfl⟩
 replace hT := (and_ok hx78).symm.trans hT
 refine sC (CallsM.ren (hcon.ok hx78) [0, 1] 8 rfl rfl rfl rfl) ?_
 clear hcon
 have hs3 := (Up.ok (Up.take hL t_rpar 0) hs2 hx78).1
 obtain rfl := mv_take1 hx78
 repeat' (first | refine qgs ?_ | refine eD ?_ ?_ <;> intro)
 have hcon := take_c (m := m) ⟨i2 + 1, xs2, ts⟩ hs3.i (by omega) t_lcur
 rcases hx80 : (takeM L t_lcur) ⟨i2 + 1, xs2, ts⟩ with ⟨_, s9⟩ | ⟨i9, e9⟩
 rotate_left
 ·obtain rfl := (and_err hx80).symm.trans hT
  refine sC (CallsM.ren (hcon.err hx80) [0, 1] 8 rfl rfl rfl rfl) ?_
  first | exact ⟨⟨_, rfl, rfl⟩, rfl, rfl⟩ | exact ⟨by kernel_rfl, ⟨_, rfl, rfl⟩, rfl, rfl⟩
 replace hT := (and_ok hx80).symm.trans hT
 refine sC (CallsM.ren (hcon.ok hx80) [0, 1] 8 rfl rfl rfl rfl) ?_
 clear hcon
 have hs4 := (Up.ok (Up.take hL t_lcur 0) hs3 hx80).1
 obtain rfl := mv_take1 hx80
 repeat' (first | refine qgs ?_ | refine eD ?_ ?_ <;> intro)
 replace hT : (casesN L m kd (L.length - (i2 + 1 + 1) + 1) [] >>= fun cs => atM (isV L · w_else) (stepM >>= fun _ => takeM L t_colon >>= fun _ => innerM L m kd >>= fun k => takeM L t_semi >>= fun _ => pure k) (pure (-1)) >>= fun k => takeM L t_rcur >>= fun _ => layM { tyP 9 with ex := x, inn := k, cases := cs }) ⟨i2 + 1 + 1, xs2, ts⟩ = T := hT
 refine ex_loop (X := Nat × List EX × List TY × List CA × Nat) (fun ⟨i, xs, ts, cs, _⟩ => ⟨[(0, .o P0), (3, .o (.c (.ptr 6 0)))], [(5, .dead), (0, Qz L m i), (1, Fz 2 3 7 9), (4, .dead), (6, .obj [.d (di 9), .d (di 0), .d (db false), .d (ds ⟨#[]⟩), .d dnil, .d (di x), .d (di (-1)), .row 8]), (7, Xz xs), (8, .row 2 251 (cs.map caD)), (9, Tz ts)], 10⟩) (fun y => L.length - y.1)
  (fun ⟨i, xs, ts, cs, n⟩ => SOk L (c + 4) ⟨i, xs, ts⟩ ∧ L.length < i + n ∧ cs.length ≤ i ∧ (casesN L m kd n cs >>= fun cs => atM (isV L · w_else) (stepM >>= fun _ => takeM L t_colon >>= fun _ => innerM L m kd >>= fun k => takeM L t_semi >>= fun _ => pure k) (pure (-1)) >>= fun k => takeM L t_rcur >>= fun _ => layM { tyP 9 with ex := x, inn := k, cases := cs }) ⟨i, xs, ts⟩ = T) (i2 + 1 + 1, xs2, ts, [], L.length - (i2 + 1 + 1) + 1) ⟨hs4, by omega, Nat.zero_le _, hT⟩
  (SLe.kill (nx := 10) 5 (SLe.via (SLe.ownCell 6 7 8 2 251 rfl rfl rfl rfl rfl rfl) (sR [(0, 0), (1, 1), (2, 2), (3, 3), (4, 4), (6, 6), (7, 7), (8, 8), (5, 9)]))) ?_
 clear hT hx hs4 hs3 hs2 hs1 hs
 rintro ⟨i, xs, ts, cs, n⟩ ⟨hs, hf, hll, hT⟩
 have hi := hs.lt
 cases n with
 | zero => omega
 | succ n =>
  rw [casesN] at hT
  have his := is_c (m := m) i hi w_case
  rcases hv : isV L i w_case with _ | _ <;> rw [hv] at his
  ·replace hT := pureT (atnB hT hv)
   refine sC (CallsM.ren (his) [0, 1] 10 rfl rfl rfl rfl) ?_
   repeat' (first | refine qgs ?_ | refine eD ?_ ?_ <;> intro)
   rcases hv2 : isV L i w_else with _ | _
   ·replace hT := pureT (atnB hT hv2)
    refine sC (CallsM.ren ((may_no i hi _ hv2)) [0, 1] 10 rfl rfl rfl rfl) ?_
    repeat' (first | refine qgs ?_ | refine eD ?_ ?_ <;> intro)
    have hcon := take_c (m := m) ⟨i, xs, ts⟩ hs.i (by omega) t_rcur
    rcases hx102 : (takeM L t_rcur) ⟨i, xs, ts⟩ with ⟨_, s9⟩ | ⟨i9, e9⟩
    rotate_left
    ·obtain rfl := (and_err hx102).symm.trans hT
     refine sC (CallsM.ren (hcon.err hx102) [0, 1] 10 rfl rfl rfl rfl) ?_
     first | exact ⟨⟨_, rfl, rfl⟩, rfl, rfl⟩ | exact ⟨by kernel_rfl, ⟨_, rfl, rfl⟩, rfl, rfl⟩
    replace hT := (and_ok hx102).symm.trans hT
    refine sC (CallsM.ren (hcon.ok hx102) [0, 1] 10 rfl rfl rfl rfl) ?_
    clear hcon
    have hs1 := (Up.ok (Up.take hL t_rcur 0) hs hx102).1
    obtain rfl := mv_take1 hx102
    obtain rfl : PR.ok (ts.length : Int) ⟨i + 1, xs, ts ++ [(⟨9, 0, false, [], [], x, -1, cs⟩ : TY)]⟩ = T := hT
    have htl := hs.lt'
    repeat' (first | refine qgs ?_ | refine eD ?_ ?_ <;> intro)
    refine sC (CallsM.ren ((layc_c (L := L) (m := m) (i + 1) ts x (-1) cs (by omega))) [0, 1, 2, 3, 7, 9] 10 rfl rfl rfl rfl) ?_
    repeat' (first | refine qgs ?_ | refine eD ?_ ?_ <;> intro)
    exact ⟨rfl, TLe.rfl, rfl, rfl⟩
   ·replace hT := asc (stp1 (asc (atyB hT hv2)))
    have hs1 := stpS hL hs (isV_k hv2)
    refine sC (CallsM.ren ((may_yes i hi (by omega) _ hv2)) [0, 1] 10 rfl rfl rfl rfl) ?_
    repeat' (first | refine qgs ?_ | refine eD ?_ ?_ <;> intro)
    have hcon := take_c (m := m) ⟨i + 1, xs, ts⟩ hs1.i (by omega) t_colon
    rcases hx113 : (takeM L t_colon) ⟨i + 1, xs, ts⟩ with ⟨_, s9⟩ | ⟨i9, e9⟩
    rotate_left
    ·obtain rfl := (and_err hx113).symm.trans hT
     refine sC (CallsM.ren (hcon.err hx113) [0, 1] 10 rfl rfl rfl rfl) ?_
     first | exact ⟨⟨_, rfl, rfl⟩, rfl, rfl⟩ | exact ⟨by kernel_rfl, ⟨_, rfl, rfl⟩, rfl, rfl⟩
    replace hT := (and_ok hx113).symm.trans hT
    refine sC (CallsM.ren (hcon.ok hx113) [0, 1] 10 rfl rfl rfl rfl) ?_
    clear hcon
    have hs2 := (Up.ok (Up.take hL t_colon 0) hs1 hx113).1
    obtain rfl := mv_take1 hx113
    repeat' (first | refine qgs ?_ | refine eD ?_ ?_ <;> intro)
    replace hT := asc hT
    have hcon := hin ⟨i + 1 + 1, xs, ts⟩ (hs2.less (by omega))
    rcases hx : (innerM L m kd) ⟨i + 1 + 1, xs, ts⟩ with ⟨k, ⟨i3, xs3, ts3⟩⟩ | ⟨i9, e9⟩
    rotate_left
    ·obtain rfl := (and_err hx).symm.trans hT
     refine sC (CallsM.ren (hcon.err hx) [0, 1, 2, 3, 7, 9] 10 rfl rfl rfl rfl) ?_
     first | exact ⟨⟨_, rfl, rfl⟩, rfl, rfl⟩ | exact ⟨by kernel_rfl, ⟨_, rfl, rfl⟩, rfl, rfl⟩
    replace hT := (and_ok hx).symm.trans hT
    refine sC (CallsM.ren (hcon.ok hx) [0, 1, 2, 3, 7, 9] 10 rfl rfl rfl rfl) ?_
    clear hcon
    have hs3 := (Up.ok (up_inner m hu (c + 6)) (show SOk L (0 + (c + 6)) ⟨i + 1 + 1, xs, ts⟩ from hs2.less (by omega)) hx).1
    repeat' (first | refine qgs ?_ | refine eD ?_ ?_ <;> intro)
    replace hT := asc hT
    have hcon := take_c (m := m) ⟨i3, xs3, ts3⟩ hs3.i (by omega) t_semi
    rcases hx119 : (takeM L t_semi) ⟨i3, xs3, ts3⟩ with ⟨_, s9⟩ | ⟨i9, e9⟩
    rotate_left
    ·obtain rfl := (and_err hx119).symm.trans hT
     refine sC (CallsM.ren (hcon.err hx119) [0, 1] 12 rfl rfl rfl rfl) ?_
     first | exact ⟨⟨_, rfl, rfl⟩, rfl, rfl⟩ | exact ⟨by kernel_rfl, ⟨_, rfl, rfl⟩, rfl, rfl⟩
    replace hT := (and_ok hx119).symm.trans hT
    refine sC (CallsM.ren (hcon.ok hx119) [0, 1] 12 rfl rfl rfl rfl) ?_
    clear hcon
    have hs4 := (Up.ok (Up.take hL t_semi 0) hs3 hx119).1
    obtain rfl := mv_take1 hx119
    replace hT := pureT hT
    repeat' (first | refine qgs ?_ | refine eD ?_ ?_ <;> intro)
    have hcon := take_c (m := m) ⟨i3 + 1, xs3, ts3⟩ hs4.i (by omega) t_rcur
    rcases hx122 : (takeM L t_rcur) ⟨i3 + 1, xs3, ts3⟩ with ⟨_, s9⟩ | ⟨i9, e9⟩
    rotate_left
    ·obtain rfl := (and_err hx122).symm.trans hT
     refine sC (CallsM.ren (hcon.err hx122) [0, 1] 12 rfl rfl rfl rfl) ?_
     first | exact ⟨⟨_, rfl, rfl⟩, rfl, rfl⟩ | exact ⟨by kernel_rfl, ⟨_, rfl, rfl⟩, rfl, rfl⟩
    replace hT := (and_ok hx122).symm.trans hT
    refine sC (CallsM.ren (hcon.ok hx122) [0, 1] 12 rfl rfl rfl rfl) ?_
    clear hcon
    have hs5 := (Up.ok (Up.take hL t_rcur 0) hs4 hx122).1
    obtain rfl := mv_take1 hx122
    obtain rfl : PR.ok (ts3.length : Int) ⟨i3 + 1 + 1, xs3, ts3 ++ [(⟨9, 0, false, [], [], x, k, cs⟩ : TY)]⟩ = T := hT
    have htl := hs3.lt'
    have hi3 := hs3.lt
    repeat' (first | refine qgs ?_ | refine eD ?_ ?_ <;> intro)
    refine sC (CallsM.ren ((layc_c (L := L) (m := m) (i3 + 1 + 1) ts3 x k cs (by omega))) [0, 1, 2, 3, 10, 11] 12 rfl rfl rfl rfl) ?_
    repeat' (first | refine qgs ?_ | refine eD ?_ ?_ <;> intro)
    exact ⟨rfl, TLe.rfl, rfl, rfl⟩
  ·replace hT := asc (atyB hT hv)
   refine sC (CallsM.ren (his) [0, 1] 10 rfl rfl rfl rfl) ?_
   repeat' (first | refine ex_is cs.length (by simp) ?_ | refine qg1 ?_ | refine eD ?_ ?_ <;> intro)
   have hcon := room_c (m := m) ⟨i, xs, ts⟩ hi cs.length (by omega)
   rcases hr : (roomM cs.length) ⟨i, xs, ts⟩ with ⟨_, s9⟩ | ⟨i9, e9⟩
   rotate_left
   ·obtain rfl := (and_err hr).symm.trans hT
    refine sC (CallsM.ren (hcon.err hr) [0, 1] 10 rfl rfl rfl rfl) ?_
    first | exact ⟨⟨_, rfl, rfl⟩, rfl, rfl⟩ | exact ⟨by kernel_rfl, ⟨_, rfl, rfl⟩, rfl, rfl⟩
   replace hT := (and_ok hr).symm.trans hT
   refine sC (CallsM.ren (hcon.ok hr) [0, 1] 10 rfl rfl rfl rfl) ?_
   clear hcon
   obtain rfl := mv_room1 hr
   replace hT := asc (stp1 (asc hT))
   have hs1 := stpS hL hs (isV_k hv)
   repeat' (first | refine qgs ?_ | refine eD ?_ ?_ <;> intro)
   refine sC (CallsM.ren (((take_c (m := m) ⟨i, xs, ts⟩ hi (by omega) w_case).ok (takeY hv))) [0, 1] 10 rfl rfl rfl rfl) ?_
   repeat' (first | refine qgs ?_ | refine eD ?_ ?_ <;> intro)
   have hcon := num_c (m := m) ⟨i + 1, xs, ts⟩ hs1.i (by omega)
   rcases hx139 : (numberM L) ⟨i + 1, xs, ts⟩ with ⟨v, s9⟩ | ⟨i9, e9⟩
   rotate_left
   ·obtain rfl := (and_err hx139).symm.trans hT
    refine sC (CallsM.ren (hcon.err hx139) [0, 1] 10 rfl rfl rfl rfl) ?_
    first | exact ⟨⟨_, rfl, rfl⟩, rfl, rfl⟩ | exact ⟨by kernel_rfl, ⟨_, rfl, rfl⟩, rfl, rfl⟩
   replace hT := (and_ok hx139).symm.trans hT
   refine sC (CallsM.ren (hcon.ok hx139) [0, 1] 10 rfl rfl rfl rfl) ?_
   clear hcon
   have hs2 := (Up.ok (Up.number hL 0) hs1 hx139).1
   obtain rfl := mv_num1 hx139
   replace hT := asc hT
   repeat' (first | refine qgs ?_ | refine eD ?_ ?_ <;> intro)
   have hcon := take_c (m := m) ⟨i + 1 + 1, xs, ts⟩ hs2.i (by omega) t_colon
   rcases hx142 : (takeM L t_colon) ⟨i + 1 + 1, xs, ts⟩ with ⟨_, s9⟩ | ⟨i9, e9⟩
   rotate_left
   ·obtain rfl := (and_err hx142).symm.trans hT
    refine sC (CallsM.ren (hcon.err hx142) [0, 1] 10 rfl rfl rfl rfl) ?_
    first | exact ⟨⟨_, rfl, rfl⟩, rfl, rfl⟩ | exact ⟨by kernel_rfl, ⟨_, rfl, rfl⟩, rfl, rfl⟩
   replace hT := (and_ok hx142).symm.trans hT
   refine sC (CallsM.ren (hcon.ok hx142) [0, 1] 10 rfl rfl rfl rfl) ?_
   clear hcon
   have hs3 := (Up.ok (Up.take hL t_colon 0) hs2 hx142).1
   obtain rfl := mv_take1 hx142
   replace hT := asc hT
   repeat' (first | refine qgs ?_ | refine eD ?_ ?_ <;> intro)
   have hcon := hin ⟨i + 1 + 1 + 1, xs, ts⟩ (hs3.less (by omega))
   rcases hx : (innerM L m kd) ⟨i + 1 + 1 + 1, xs, ts⟩ with ⟨k, ⟨i3, xs3, ts3⟩⟩ | ⟨i9, e9⟩
   rotate_left
   ·obtain rfl := (and_err hx).symm.trans hT
    refine sC (CallsM.ren (hcon.err hx) [0, 1, 2, 3, 7, 9] 10 rfl rfl rfl rfl) ?_
    first | exact ⟨⟨_, rfl, rfl⟩, rfl, rfl⟩ | exact ⟨by kernel_rfl, ⟨_, rfl, rfl⟩, rfl, rfl⟩
   replace hT := (and_ok hx).symm.trans hT
   refine sC (CallsM.ren (hcon.ok hx) [0, 1, 2, 3, 7, 9] 10 rfl rfl rfl rfl) ?_
   clear hcon
   have hs4 := (Up.ok (up_inner m hu (c + 7)) (show SOk L (0 + (c + 7)) ⟨i + 1 + 1 + 1, xs, ts⟩ from hs3.less (by omega)) hx).1
   have hi3 : i + 1 + 1 + 1 ≤ i3 := (Up.ok (c := 0) (up_inner m hu 0) (hs3.less (by omega)) hx).2
   replace hs4 : SOk L (c + 7) ⟨i3, xs3, ts3⟩ := hs4.less (by omega)
   repeat' (first | refine qgs ?_ | refine eD ?_ ?_ <;> intro)
   refine ex_app (cs.length) (1) 1000 (by first | rfl | (simp; done) | (simp; omega)) (by first | rfl | (simp; done) | (simp; omega)) rfl (by omega) ?_
   refine ex_is (List.map caD (cs ++ [(⟨v, k⟩ : CA)])) (by rw [List.map_append]; rfl) ?_
   repeat' (first | refine qgs ?_ | refine eD ?_ ?_ <;> intro)
   replace hT := asc hT
   have hcon := take_c (m := m) ⟨i3, xs3, ts3⟩ hs4.i (by omega) t_semi
   rcases hx153 : (takeM L t_semi) ⟨i3, xs3, ts3⟩ with ⟨_, s9⟩ | ⟨i9, e9⟩
   rotate_left
   ·obtain rfl := (and_err hx153).symm.trans hT
    refine sC (CallsM.ren (hcon.err hx153) [0, 1] 14 rfl rfl rfl rfl) ?_
    first | exact ⟨⟨_, rfl, rfl⟩, rfl, rfl⟩ | exact ⟨by kernel_rfl, ⟨_, rfl, rfl⟩, rfl, rfl⟩
   replace hT := (and_ok hx153).symm.trans hT
   refine sC (CallsM.ren (hcon.ok hx153) [0, 1] 14 rfl rfl rfl rfl) ?_
   clear hcon
   have hs5 := (Up.ok (Up.take hL t_semi 0) hs4 hx153).1
   obtain rfl := mv_take1 hx153
   repeat' (first | refine qgs ?_ | refine eD ?_ ?_ <;> intro)
   exact ex_round (i3 + 1, xs3, ts3, cs ++ [(⟨v, k⟩ : CA)], n) ⟨hs5.less (by omega), by omega, by simp; omega, hT⟩ (by show L.length - (i3 + 1) < L.length - i; omega) (sR [(0, 0), (1, 1), (2, 2), (3, 3), (4, 4), (5, 5), (6, 6), (10, 7), (13, 8), (11, 9)])
end
end Go.Proofs.YtoingpafcodojaaGreatDoor

namespace Go.Proofs.YtoingpafcodojaaGreatDoor
open Go.RowKit

section
variable {L : List TokP} {m : Nat}
def sizedTV : Option Nat → TV
 | some k => .tup [c1 (di k), c1 (db true)]
 | none => .tup [c1 (di 0), c1 (db false)]
theorem sized_c (w : List UInt8) : CallsA Tryz.prog ΓL 118 [c1 (ds (bs w))] (sizedTV (sizedV w)) := by
 by_cases h : w = w_bytes ∨ w = w_zero ∨ w = w_skip ∨ w = w_window ∨ w = w_at
 ·rcases h with rfl | rfl | rfl | rfl | rfl
  all_goals
   refine fn_rule (C := ⟨Tryz.prog, layF, Tryz.f118.ntmps, ΓL, 0, [], []⟩) layF_ok mixed Tryz.func118 rfl (by kernel_rfl) rfl rfl rfl ?_
   repeat' (first | refine qgs ?_ | refine eD ?_ ?_ <;> intro)
   exact TLe.rfl
 ·have hne : ∀ l, l ∈ [w_bytes, w_zero, w_skip, w_window, w_at] → ¬ bs w = bs l := fun l hl he => h (by
   rw [bsj.1 he]
   simpa only [List.mem_cons, List.not_mem_nil, or_false] using hl)
  have h0 : sizedV w = none := by
   unfold sizedV
   rw [if_neg (fun e => h (by simp [e])), if_neg (fun e => h (by simp [e])), if_neg (fun e => h (by simp [e])), if_neg (fun e => h (by simp [e])), if_neg (fun e => h (by simp [e]))]
  rw [h0]
  refine fn_rule (C := ⟨Tryz.prog, layF, Tryz.f118.ntmps, ΓL, 0, [], []⟩) layF_ok mixed Tryz.func118 rfl (by kernel_rfl) rfl rfl rfl ?_
  repeat' (first | refine ex_false (hne _ (by decide)) ?_ | refine qg1 ?_ | refine eD ?_ ?_ <;> intro)
  exact TLe.rfl
set_option maxHeartbeats 4000000 in
theorem kind_named (hL : TokOk L) (hn : L.length ≤ 100000) (hm : m ≤ 32) (s : PS) (hs : SOk L 0 s) (hv : namedV L s.i = true) {kd : PM Int} : C2 L m 83 [] (kindF L m kd) (fun k => Ti k) s := by
 refine C2.of fun T hT => ?_
 unfold kindF at hT
 obtain ⟨i, xs, ts⟩ := s
 have hv : namedV L i = true := hv
 replace hT := aty hT hv
 have hnm := named_c (m := m) i hs.lt
 rw [hv] at hnm
 refine fn_ruleP (C := ⟨Tryz.prog, layF, Tryz.f83.ntmps, ΓL, 6, [], []⟩) layF_ok mixed Tryz.func83 rfl (by kernel_rfl) rfl rfl rfl SLe.rfl ?_
 repeat' (first | refine qgs ?_ | refine eD ?_ ?_ <;> intro)
 refine sC (CallsM.ren (hnm) [0, 1] 6 rfl rfl rfl rfl) ?_
 repeat' (first | refine qgs ?_ | refine eD ?_ ?_ <;> intro)
 have hcon := ref_c hL hn hm ⟨i, xs, ts⟩ hs
 rcases hx : (refM L m) ⟨i, xs, ts⟩ with ⟨t, ⟨i2, xs2, ts2⟩⟩ | ⟨i9, e9⟩
 rotate_left
 ·obtain rfl := (and_err hx).symm.trans hT
  refine sC (CallsM.ren (hcon.err hx) [0, 1, 2, 3, 4, 5] 6 rfl rfl rfl rfl) ?_
  first | exact ⟨⟨_, rfl, rfl⟩, rfl, rfl⟩ | exact ⟨by kernel_rfl, ⟨_, rfl, rfl⟩, rfl, rfl⟩
 replace hT := (and_ok hx).symm.trans hT
 refine sC (CallsM.ren (hcon.ok hx) [0, 1, 2, 3, 4, 5] 6 rfl rfl rfl rfl) ?_
 clear hcon
 have hs2 := (Up.ok (up_ref hL m) hs hx).1
 obtain rfl := (keep_ref).eq hx
 have hcon := array_c hL hn hm t ⟨i2, xs2, ts⟩ hs2
 rcases hy : (arrayM L m t) ⟨i2, xs2, ts⟩ with ⟨k, ⟨i3, xs3, ts3⟩⟩ | ⟨i9, e9⟩
 rotate_left
 ·obtain rfl := hy.symm.trans hT
  refine sC (CallsM.ren (hcon.err hy) [0, 1, 2, 3, 6, 5] 7 rfl rfl rfl rfl) ?_
  first | exact ⟨⟨_, rfl, rfl⟩, rfl, rfl⟩ | exact ⟨by kernel_rfl, ⟨_, rfl, rfl⟩, rfl, rfl⟩
 obtain rfl := hy.symm.trans hT
 refine sC (CallsM.ren (hcon.ok hy) [0, 1, 2, 3, 6, 5] 7 rfl rfl rfl rfl) ?_
 clear hcon
 repeat' (first | refine qgs ?_ | refine eD ?_ ?_ <;> intro)
 exact ⟨rfl, TLe.rfl, rfl, rfl⟩
theorem kind_bad (s : PS) (hi : s.i < L.length) (hv : startsV L s.i = false) {kd : PM Int} : C2 L m 83 [] (kindF L m kd) (fun k => Ti k) s := by
 refine C2.of fun T hT => ?_
 unfold kindF at hT
 obtain ⟨i, xs, ts⟩ := s
 have hv : startsV L i = false := hv
 have hi : i < L.length := hi
 have hv1 : namedV L i = false := by
  unfold startsV at hv
  rw [Bool.or_eq_false_iff] at hv
  exact hv.1
 obtain rfl : PR.err i 4 = T := atn (atn hT hv1) hv
 have hnm := named_c (m := m) i hi
 rw [hv1] at hnm
 have hst := starts_c (m := m) i hi
 rw [hv] at hst
 refine fn_ruleP (C := ⟨Tryz.prog, layF, Tryz.f83.ntmps, ΓL, 6, [], []⟩) layF_ok mixed Tryz.func83 rfl (by kernel_rfl) rfl rfl rfl SLe.rfl ?_
 repeat' (first | refine qgs ?_ | refine eD ?_ ?_ <;> intro)
 refine sC (CallsM.ren (hnm) [0, 1] 6 rfl rfl rfl rfl) ?_
 repeat' (first | refine qgs ?_ | refine eD ?_ ?_ <;> intro)
 refine sC (CallsM.ren (hst) [0, 1] 6 rfl rfl rfl rfl) ?_
 repeat' (first | refine qgs ?_ | refine eD ?_ ?_ <;> intro)
 refine sC (CallsM.ren ((fail_c (m := m) i 4 hi)) [0, 1] 6 rfl rfl rfl rfl) ?_
 exact ⟨⟨_, rfl, rfl⟩, rfl, rfl⟩
end
end Go.Proofs.YtoingpafcodojaaGreatDoor

namespace Go.Proofs.YtoingpafcodojaaGreatDoor
open Go.RowKit

section
variable {L : List TokP} {m : Nat}
set_option maxHeartbeats 8000000 in
theorem kind_word (hL : TokOk L) (hn : L.length ≤ 100000) (hm : m ≤ 32) {kd : PM Int} (hu : Up L kd 0 0) (hc : ∀ m', m = m' + 1 → ∀ s, SOk L 0 s → C2 L m' 83 [] kd (fun k => Ti k) s) (s : PS) (hs : SOk L 0 s) (hv1 : namedV L s.i = false) (hv : startsV L s.i = true) :
  C2 L m 83 [] (kindF L m kd) (fun k => Ti k) s := by
 refine C2.of fun T hT => ?_
 unfold kindF at hT
 obtain ⟨i, xs, ts⟩ := s
 have hv : startsV L i = true := hv
 have hv1 : namedV L i = false := hv1
 have hi := hs.lt
 have hin : ∀ s, SOk L 0 s → C2 L m 121 [] (innerM L m kd) (fun k => Ti k) s := fun s hs => inner_c hm s hs.i fun m' e => hc m' e s hs
 have hs1 := stpS hL hs (startsV_k hv)
 have hT1 := atn hT hv1
 have hT2 := aty hT1 hv
 have hT : wordM L m kd (tk L i).t ⟨i + 1, xs, ts⟩ = T := hT2
 clear hT1 hT2
 have hnm := named_c (m := m) i hi
 rw [hv1] at hnm
 have hst := starts_c (m := m) i hi
 rw [hv] at hst
 have ha := ahead_c (L := L) (m := m) i hi
 generalize tk L i = u at *
 obtain ⟨w, hw⟩ : ∃ w, u.t = w := ⟨_, rfl⟩
 simp only [tokD, hw] at ha
 rw [hw] at hT
 unfold wordM at hT
 have hz := sized_c w
 have htl := hs1.lt'
 refine fn_ruleP (C := ⟨Tryz.prog, layF, Tryz.f83.ntmps, ΓL, 6, [], []⟩) layF_ok mixed Tryz.func83 rfl (by kernel_rfl) rfl rfl rfl start2 ?_
 repeat' (first | refine qgs ?_ | refine eD ?_ ?_ <;> intro)
 refine sC (CallsM.ren (hnm) [0, 1] 7 rfl rfl rfl rfl) ?_
 repeat' (first | refine qgs ?_ | refine eD ?_ ?_ <;> intro)
 refine sC (CallsM.ren (hst) [0, 1] 7 rfl rfl rfl rfl) ?_
 repeat' (first | refine qgs ?_ | refine eD ?_ ?_ <;> intro)
 refine sC (CallsM.ren (ha) [0, 1] 7 rfl rfl rfl rfl) ?_
 rcases hzw : sizedV w with _ | k <;> rw [hzw] at hT hz
 ·have hz : CallsA Tryz.prog ΓL 118 [c1 (ds (bs w))] (.tup [c1 (di 0), c1 (db false)]) := hz
  dsimp only at hT
  by_cases h1 : w = w_rest
  ·subst h1
   rw [if_pos rfl] at hT
   repeat' (first | refine ex_call (plain_c 6) ?_ | refine ex_call hz ?_ | refine aI ((i + 1 : Nat) : Int) ?_ | refine aU ((i + 1 : Nat) : Int) ?_ | refine aB ((i + 1 : Nat) : Int) ?_ | refine qg1 ?_ | refine eD ?_ ?_ <;> intro)
   have hcon := hin ⟨i + 1, xs, ts⟩ (hs1.less (by omega))
   rcases hx : (innerM L m kd) ⟨i + 1, xs, ts⟩ with ⟨k, ⟨i3, xs3, ts3⟩⟩ | ⟨i9, e9⟩
   rotate_left
   ·obtain rfl := (and_err hx).symm.trans hT
    refine sC (CallsM.ren (hcon.err hx) [0, 1, 2, 3, 6, 5] 8 rfl rfl rfl rfl) ?_
    first | exact ⟨⟨_, rfl, rfl⟩, rfl, rfl⟩ | exact ⟨by kernel_rfl, ⟨_, rfl, rfl⟩, rfl, rfl⟩
   replace hT := (and_ok hx).symm.trans hT
   refine sC (CallsM.ren (hcon.ok hx) [0, 1, 2, 3, 6, 5] 8 rfl rfl rfl rfl) ?_
   clear hcon
   have hs3 := (Up.ok (up_inner m hu 1) hs1 hx).1
   have htl := hs3.lt'
   have hi3 := hs3.lt
   obtain rfl : PR.ok (ts3.length : Int) ⟨i3, xs3, ts3 ++ [(⟨6, 0, false, [], [], -1, k, []⟩ : TY)]⟩ = T := hT
   repeat' (first | refine qgs ?_ | refine eD ?_ ?_ <;> intro)
   refine sC (CallsM.ren ((layn_c (L := L) (m := m) i3 ts3 6 0 false [] (-1) k (by omega))) [0, 1, 2, 3, 8, 9] 10 rfl rfl rfl rfl) ?_
   repeat' (first | refine qgs ?_ | refine eD ?_ ?_ <;> intro)
   exact ⟨rfl, TLe.rfl, rfl, rfl⟩
  ·rw [if_neg h1] at hT
   by_cases h2 : w = w_tail
   ·subst h2
    rw [if_pos rfl] at hT
    obtain rfl : PR.ok (ts.length : Int) ⟨i + 1, xs, ts ++ [(⟨4, 0, false, [], [], -1, -1, []⟩ : TY)]⟩ = T := hT
    repeat' (first | refine ex_call (plain_c 4) ?_ | refine ex_call hz ?_ | refine aI ((i + 1 : Nat) : Int) ?_ | refine aU ((i + 1 : Nat) : Int) ?_ | refine aB ((i + 1 : Nat) : Int) ?_ | refine qg1 ?_ | refine eD ?_ ?_ <;> intro)
    refine sC (CallsM.ren ((layn_c (L := L) (m := m) (i + 1) ts 4 0 false [] (-1) (-1) (by omega))) [0, 1, 2, 3, 6, 5] 7 rfl rfl rfl rfl) ?_
    repeat' (first | refine qgs ?_ | refine eD ?_ ?_ <;> intro)
    exact ⟨rfl, TLe.rfl, rfl, rfl⟩
   ·rw [if_neg h2] at hT
    by_cases h3 : w = w_none
    ·subst h3
     rw [if_pos rfl] at hT
     obtain rfl : PR.ok (ts.length : Int) ⟨i + 1, xs, ts ++ [(⟨11, 0, false, [], [], -1, -1, []⟩ : TY)]⟩ = T := hT
     repeat' (first | refine ex_call (plain_c 11) ?_ | refine ex_call hz ?_ | refine aI ((i + 1 : Nat) : Int) ?_ | refine aU ((i + 1 : Nat) : Int) ?_ | refine aB ((i + 1 : Nat) : Int) ?_ | refine qg1 ?_ | refine eD ?_ ?_ <;> intro)
     refine sC (CallsM.ren ((layn_c (L := L) (m := m) (i + 1) ts 11 0 false [] (-1) (-1) (by omega))) [0, 1, 2, 3, 6, 5] 7 rfl rfl rfl rfl) ?_
     repeat' (first | refine qgs ?_ | refine eD ?_ ?_ <;> intro)
     exact ⟨rfl, TLe.rfl, rfl, rfl⟩
    ·rw [if_neg h3] at hT
     by_cases h4 : w = w_switch
     ·subst h4
      rw [if_pos rfl] at hT
      repeat' (first | refine ex_call hz ?_ | refine aI ((i + 1 : Nat) : Int) ?_ | refine aU ((i + 1 : Nat) : Int) ?_ | refine aB ((i + 1 : Nat) : Int) ?_ | refine qg1 ?_ | refine eD ?_ ?_ <;> intro)
      have hcon := choice_c hL hn hm hu hc ⟨i + 1, xs, ts⟩ hs1
      rcases hy : (choiceM L m kd) ⟨i + 1, xs, ts⟩ with ⟨k, ⟨i3, xs3, ts3⟩⟩ | ⟨i9, e9⟩
      rotate_left
      ·obtain rfl := hy.symm.trans hT
       refine sC (CallsM.ren (hcon.err hy) [0, 1, 2, 3, 6, 5] 7 rfl rfl rfl rfl) ?_
       first | exact ⟨⟨_, rfl, rfl⟩, rfl, rfl⟩ | exact ⟨by kernel_rfl, ⟨_, rfl, rfl⟩, rfl, rfl⟩
      obtain rfl := hy.symm.trans hT
      refine sC (CallsM.ren (hcon.ok hy) [0, 1, 2, 3, 6, 5] 7 rfl rfl rfl rfl) ?_
      clear hcon
      repeat' (first | refine qgs ?_ | refine eD ?_ ?_ <;> intro)
      exact ⟨rfl, TLe.rfl, rfl, rfl⟩
     ·rw [if_neg h4] at hT
      have hq := (integer_c w).gL
      obtain ⟨z, lt, ok, hzl, hq⟩ : ∃ (z : Nat) (lt ok : Bool), (integerV w).getD (0, false) = (z, lt) ∧ CallsA Tryz.prog ΓL 82 [c1 (ds (bs w))] (.tup [c1 (di z), c1 (db lt), c1 (db ok)]) := by
       rcases hi : integerV w with _ | ⟨z, lt⟩ <;> rw [hi] at hq
       ·exact ⟨0, false, false, rfl, hq⟩
       ·exact ⟨z, lt, true, rfl, hq⟩
      rw [hzl] at hT
      repeat' (first | refine ex_call (plain_c 0) ?_ | refine ex_call hq ?_ | refine ex_call hz ?_ | refine aI ((i + 1 : Nat) : Int) ?_ | refine aU ((i + 1 : Nat) : Int) ?_ | refine aB ((i + 1 : Nat) : Int) ?_ | refine ex_false (fun e => h4 (bsj.1 e)) ?_ | refine ex_false (fun e => h3 (bsj.1 e)) ?_ | refine ex_false (fun e => h2 (bsj.1 e)) ?_ | refine ex_false (fun e => h1 (bsj.1 e)) ?_ | refine qg1 ?_ | refine eD ?_ ?_ <;> intro)
      have har := (array_c (L := L) hL hn hm (⟨0, z, lt, [], [], -1, -1, []⟩ : TY) ⟨i + 1, xs, ts⟩ hs1)
      rcases hy : arrayM L m (⟨0, z, lt, [], [], -1, -1, []⟩ : TY) ⟨i + 1, xs, ts⟩ with ⟨k, ⟨i3, xs3, ts3⟩⟩ | ⟨i9, e9⟩
      ·obtain rfl := hy.symm.trans hT
       have hp := (har.ok hy).argsLe (xs := [P0, gD [di 0, di z, db lt, ds (bs []), dnil, di (-1), di (-1), dnil]]) (.cons T1Le.rfl (.cons (T1Le.g (.cons DLe.rfl (.cons DLe.rfl (.cons DLe.rfl (.cons DLe.rfl (.cons DLe.nil (.cons DLe.rfl (.cons DLe.rfl (.cons DLe.nil .nil))))))))) .nil))
       refine sC (CallsM.ren (hp) [0, 1, 2, 3, 6, 5] 8 rfl rfl rfl rfl) ?_
       repeat' (first | refine qgs ?_ | refine eD ?_ ?_ <;> intro)
       exact ⟨rfl, TLe.rfl, rfl, rfl⟩
      ·obtain rfl := hy.symm.trans hT
       have hp := (har.err hy).argsLe (xs := [P0, gD [di 0, di z, db lt, ds (bs []), dnil, di (-1), di (-1), dnil]]) (.cons T1Le.rfl (.cons (T1Le.g (.cons DLe.rfl (.cons DLe.rfl (.cons DLe.rfl (.cons DLe.rfl (.cons DLe.nil (.cons DLe.rfl (.cons DLe.rfl (.cons DLe.nil .nil))))))))) .nil))
       refine sC (CallsM.ren (hp) [0, 1, 2, 3, 6, 5] 8 rfl rfl rfl rfl) ?_
       exact ⟨⟨_, rfl, rfl⟩, rfl, rfl⟩
 ·have hz : CallsA Tryz.prog ΓL 118 [c1 (ds (bs w))] (.tup [c1 (di k), c1 (db true)]) := hz
  dsimp only at hT
  repeat' (first | refine ex_call (plain_c k) ?_ | refine ex_call hz ?_ | refine aI ((i + 1 : Nat) : Int) ?_ | refine aU ((i + 1 : Nat) : Int) ?_ | refine aB ((i + 1 : Nat) : Int) ?_ | refine qg1 ?_ | refine eD ?_ ?_ <;> intro)
  have hcon := bracket_c hL hn hm ⟨i + 1, xs, ts⟩ hs1
  rcases hx : (bracketM L m) ⟨i + 1, xs, ts⟩ with ⟨x, ⟨i2, xs2, ts2⟩⟩ | ⟨i9, e9⟩
  rotate_left
  ·obtain rfl := (and_err hx).symm.trans hT
   refine sC (CallsM.ren (hcon.err hx) [0, 1, 2, 3, 6, 5] 8 rfl rfl rfl rfl) ?_
   first | exact ⟨⟨_, rfl, rfl⟩, rfl, rfl⟩ | exact ⟨by kernel_rfl, ⟨_, rfl, rfl⟩, rfl, rfl⟩
  replace hT := (and_ok hx).symm.trans hT
  refine sC (CallsM.ren (hcon.ok hx) [0, 1, 2, 3, 6, 5] 8 rfl rfl rfl rfl) ?_
  clear hcon
  have hs2 := (Up.ok (up_bracket hL m 1) hs1 hx).1
  obtain rfl := (keep_bracket m).eq hx
  have hi2 := hs2.lt
  by_cases hk : k = 7 ∨ k = 8
  ·rw [if_pos hk] at hT
   rcases hk with rfl | rfl
   all_goals
    repeat' (first | refine qgs ?_ | refine eD ?_ ?_ <;> intro)
    have hcon := hin ⟨i2, xs2, ts⟩ (hs2.less (by omega))
    rcases hx2 : (innerM L m kd) ⟨i2, xs2, ts⟩ with ⟨n, ⟨i3, xs3, ts3⟩⟩ | ⟨i9, e9⟩
    rotate_left
    ·obtain rfl := (and_err hx2).symm.trans hT
     refine sC (CallsM.ren (hcon.err hx2) [0, 1, 2, 3, 8, 5] 9 rfl rfl rfl rfl) ?_
     first | exact ⟨⟨_, rfl, rfl⟩, rfl, rfl⟩ | exact ⟨by kernel_rfl, ⟨_, rfl, rfl⟩, rfl, rfl⟩
    replace hT := (and_ok hx2).symm.trans hT
    refine sC (CallsM.ren (hcon.ok hx2) [0, 1, 2, 3, 8, 5] 9 rfl rfl rfl rfl) ?_
    clear hcon
    have hs3 := (Up.ok (c := 0) (up_inner m hu 3) hs2 hx2).1
    have htl := hs3.lt'
    have hi3 := hs3.lt
    repeat' (first | refine qgs ?_ | refine eD ?_ ?_ <;> intro)
   ·obtain rfl : PR.ok (ts3.length : Int) ⟨i3, xs3, ts3 ++ [(⟨7, 0, false, [], [], x, n, []⟩ : TY)]⟩ = T := hT
    refine sC (CallsM.ren ((layn_c (L := L) (m := m) i3 ts3 7 0 false [] x n (by omega))) [0, 1, 2, 3, 9, 10] 11 rfl rfl rfl rfl) ?_
    repeat' (first | refine qgs ?_ | refine eD ?_ ?_ <;> intro)
    exact ⟨rfl, TLe.rfl, rfl, rfl⟩
   ·obtain rfl : PR.ok (ts3.length : Int) ⟨i3, xs3, ts3 ++ [(⟨8, 0, false, [], [], x, n, []⟩ : TY)]⟩ = T := hT
    refine sC (CallsM.ren ((layn_c (L := L) (m := m) i3 ts3 8 0 false [] x n (by omega))) [0, 1, 2, 3, 9, 10] 11 rfl rfl rfl rfl) ?_
    repeat' (first | refine qgs ?_ | refine eD ?_ ?_ <;> intro)
    exact ⟨rfl, TLe.rfl, rfl, rfl⟩
  ·rw [if_neg hk] at hT
   replace hT := pureT hT
   have htl2 := hs2.lt'
   obtain rfl : PR.ok (ts.length : Int) ⟨i2, xs2, ts ++ [(⟨k, 0, false, [], [], x, -1, []⟩ : TY)]⟩ = T := hT
   repeat' (first | refine qgs ?_ | refine eD ?_ ?_ <;> intro)
   refine sC (CallsM.ren ((layn_c (L := L) (m := m) i2 ts k 0 false [] x (-1) (by omega))) [0, 1, 2, 3, 8, 5] 9 rfl rfl rfl rfl) ?_
   repeat' (first | refine qgs ?_ | refine eD ?_ ?_ <;> intro)
   exact ⟨rfl, TLe.rfl, rfl, rfl⟩
theorem kind_step (hL : TokOk L) (hn : L.length ≤ 100000) (hm : m ≤ 32) {kd : PM Int} (hu : Up L kd 0 0) (hc : ∀ m', m = m' + 1 → ∀ s, SOk L 0 s → C2 L m' 83 [] kd (fun k => Ti k) s) (s : PS) (hs : SOk L 0 s) :
  C2 L m 83 [] (kindF L m kd) (fun k => Ti k) s := by
 rcases hv : startsV L s.i with _ | _
 ·exact kind_bad s hs.i hv
 ·rcases hv1 : namedV L s.i with _ | _
  ·exact kind_word hL hn hm hu hc s hs hv1 hv
  ·exact kind_named hL hn hm s hs hv1
theorem kind_c (hL : TokOk L) (hn : L.length ≤ 100000) : ∀ m, m ≤ 32 → ∀ s, SOk L 0 s → C2 L m 83 [] (kindM L m) (fun k => Ti k) s
 | 0, hm, s, hs => kind_step hL hn hm (Up.fail (by decide) (by decide) _ _) (fun _ h => by omega) s hs
 | m + 1, hm, s, hs => kind_step hL hn hm (up_kind hL m) (fun m' h s hs => by
   obtain rfl : m = m' := by omega
   exact kind_c hL hn m (by omega) s hs) s hs
end
end Go.Proofs.YtoingpafcodojaaGreatDoor

namespace Go.Proofs.YtoingpafcodojaaGreatDoor
open Go.RowKit

section
variable {P : Program} {Γ : Glob} {f : FuncId} {nx : Nat} {xs : List T1} {r : TV} {upd : List (Nat × Blk)} {new : List Blk} {a b c d e : Nat × Blk} {m : List (Nat × Blk)}
theorem CallsM.moreD (h : CallsM P Γ f [a, e] nx xs r upd new) : CallsM P Γ f [a, b, c, d, e] nx xs r upd new := h.more fun p hp => by
 simp only [List.mem_cons, List.not_mem_nil, or_false] at hp ⊢; rcases hp with hp | hp <;> simp [hp]
end
section
variable {L : List TokP} {m : Nat}
theorem isV_end {i : Nat} {t : List UInt8} (h : (tk L i).k = 3) : isV L i t = false := by unfold isV; simp [h]
theorem isV_not {i : Nat} {t w : List UInt8} (h : (tk L i).t = t) (hn : t ≠ w) : isV L i w = false := by unfold isV; rw [h, decide_eq_false hn, Bool.and_false]
theorem isV_yes {i : Nat} {t : List UInt8} (hk : (tk L i).k ≠ 3) (h : (tk L i).t = t) : isV L i t = true := by unfold isV; rw [h, decide_eq_false hk, decide_eq_true rfl]; rfl
abbrev Iz (nm : List UInt8) (ty : Int) (der : Nat) (a b : List UInt8) (wh : Int) : Blk := .obj [.d (ds (bs nm)), .d (di ty), .d (di der), .d (ds (bs a)), .d (ds (bs b)), .d (di wh), .d (di 0), .d (db false), .d dnil]
def PR.uD (L : List TokP) (m : Nat) (nm : List UInt8) (ty wh : Int) : PR (Nat × List UInt8 × List UInt8) → List (Nat × Blk)
 | .ok v s => [(0, Qz L m s.i), (2, Iz nm ty v.1 v.2.1 v.2.2 wh)]
 | .err _ _ => [(0, .dead), (2, .dead)]
set_option maxHeartbeats 4000000 in
theorem derived_c (hL : TokOk L) (hn : L.length ≤ 100000) (nm : List UInt8) (ty wh : Int) (s : PS) {c : Nat} (hs : SOk L c s) :
  CallsM Tryz.prog ΓL 84 [(0, Qz L m s.i), (2, Iz nm ty 0 [] [] wh)] 3 [P0, .c (.ptr 2 0)] ((derivedM L s).tv L fun _ => .tup []) ((derivedM L s).uD L m nm ty wh) [] := by
 obtain ⟨T, hT⟩ : ∃ T, derivedM L s = T := ⟨_, rfl⟩
 rw [hT]
 unfold derivedM at hT
 obtain ⟨i, xs, ts⟩ := s
 have hi := hs.lt
 have hbad : (∀ t, t ∈ [w_sizeof, w_countof, w_crc32, w_adler32] → isV L i t = false) → T = .err i 4 → CallsM Tryz.prog ΓL 84 [(0, Qz L m i), (2, Iz nm ty 0 [] [] wh)] 3 [P0, .c (.ptr 2 0)] (T.tv L fun _ => .tup []) (T.uD L m nm ty wh) [] := fun hv hTe => by
  subst hTe
  refine fn_ruleP (C := ⟨Tryz.prog, layF, Tryz.f84.ntmps, ΓL, 3, [], []⟩) layF_ok mixed Tryz.func84 rfl (by kernel_rfl) rfl rfl rfl SLe.rfl ?_
  refine sC (CallsM.ren ((may_no i hi _ (hv w_sizeof (by simp)))) [0, 1] 3 rfl rfl rfl rfl) ?_
  repeat' (first | refine qgs ?_ | refine eD ?_ ?_ <;> intro)
  refine sC (CallsM.ren ((may_no i hi _ (hv w_countof (by simp)))) [0, 1] 3 rfl rfl rfl rfl) ?_
  repeat' (first | refine qgs ?_ | refine eD ?_ ?_ <;> intro)
  refine sC (CallsM.ren ((may_no i hi _ (hv w_crc32 (by simp)))) [0, 1] 3 rfl rfl rfl rfl) ?_
  repeat' (first | refine qgs ?_ | refine eD ?_ ?_ <;> intro)
  refine sC (CallsM.ren ((may_no i hi _ (hv w_adler32 (by simp)))) [0, 1] 3 rfl rfl rfl rfl) ?_
  repeat' (first | refine qgs ?_ | refine eD ?_ ?_ <;> intro)
  refine sC (CallsM.ren ((fail_c i 4 hi)) [0, 1] 3 rfl rfl rfl rfl) ?_
  exact ⟨⟨_, rfl, rfl⟩, rfl, rfl⟩
 by_cases hk : (tk L i).k = 3
 ·exact hbad (fun t _ => isV_end hk) (atn hT (by simp [hk])).symm
 ·obtain ⟨w, hw⟩ : ∃ w, (tk L i).t = w := ⟨_, rfl⟩
  by_cases hm : w ∈ [w_sizeof, w_countof, w_crc32, w_adler32]
  ·have hs1 := stpS hL hs hk
   have hd0 : derOf w ≠ 0 := by
    simp only [List.mem_cons, List.not_mem_nil, or_false] at hm
    rcases hm with rfl | rfl | rfl | rfl <;> decide
   have hT0 := aty hT (by simp [hk, hw, hd0])
   have hT : (takeM L t_lpar >>= fun _ => nameM L >>= fun a => (if 3 ≤ derOf w then takeM L t_dots >>= fun _ => nameM L else pure []) >>= fun b => takeM L t_rpar >>= fun _ => pure (derOf w, a, b)) ⟨i + 1, xs, ts⟩ = T := by rw [← hw]; exact hT0
   clear hT0
   simp only [List.mem_cons, List.not_mem_nil, or_false] at hm
   rcases hm with rfl | rfl | rfl | rfl
   ·rw [show derOf w_sizeof = 1 by decide +kernel] at hT
    refine fn_ruleP (C := ⟨Tryz.prog, layF, Tryz.f84.ntmps, ΓL, 3, [], []⟩) layF_ok mixed Tryz.func84 rfl (by kernel_rfl) rfl rfl rfl SLe.rfl ?_
    refine sC (CallsM.ren ((may_yes i hi (by omega) _ (isV_yes hk hw))) [0, 1] 3 rfl rfl rfl rfl) ?_
    repeat' (first | refine qgs ?_ | refine eD ?_ ?_ <;> intro)
    have hcon := take_c (m := m) ⟨i + 1, xs, ts⟩ hs1.i (by omega) t_lpar
    rcases hx59 : (takeM L t_lpar) ⟨i + 1, xs, ts⟩ with ⟨_, s9⟩ | ⟨i9, e9⟩
    rotate_left
    ·obtain rfl := (and_err hx59).symm.trans hT
     refine sC (CallsM.ren (hcon.err hx59) [0, 1] 3 rfl rfl rfl rfl) ?_
     first | exact ⟨⟨_, rfl, rfl⟩, rfl, rfl⟩ | exact ⟨by kernel_rfl, ⟨_, rfl, rfl⟩, rfl, rfl⟩
    replace hT := (and_ok hx59).symm.trans hT
    refine sC (CallsM.ren (hcon.ok hx59) [0, 1] 3 rfl rfl rfl rfl) ?_
    clear hcon
    have hs2 := (Up.ok (Up.take hL t_lpar 0) hs1 hx59).1
    obtain rfl := mv_take1 hx59
    repeat' (first | refine qgs ?_ | refine eD ?_ ?_ <;> intro)
    have hcon := name_c (m := m) ⟨i + 1 + 1, xs, ts⟩ hs2.i (by omega)
    rcases hx61 : (nameM L) ⟨i + 1 + 1, xs, ts⟩ with ⟨a, s9⟩ | ⟨i9, e9⟩
    rotate_left
    ·obtain rfl := (and_err hx61).symm.trans hT
     refine sC (CallsM.ren (hcon.err hx61) [0, 1] 3 rfl rfl rfl rfl) ?_
     first | exact ⟨⟨_, rfl, rfl⟩, rfl, rfl⟩ | exact ⟨by kernel_rfl, ⟨_, rfl, rfl⟩, rfl, rfl⟩
    replace hT := (and_ok hx61).symm.trans hT
    refine sC (CallsM.ren (hcon.ok hx61) [0, 1] 3 rfl rfl rfl rfl) ?_
    clear hcon
    have hs3 := (Up.ok (Up.name hL 0) hs2 hx61).1
    obtain rfl := mv_name1 hx61
    repeat' (first | refine qgs ?_ | refine eD ?_ ?_ <;> intro)
    replace hT := pureT hT
    have hcon := take_c (m := m) ⟨i + 1 + 1 + 1, xs, ts⟩ hs3.i (by omega) t_rpar
    rcases hx64 : (takeM L t_rpar) ⟨i + 1 + 1 + 1, xs, ts⟩ with ⟨_, s9⟩ | ⟨i9, e9⟩
    rotate_left
    ·obtain rfl := (and_err hx64).symm.trans hT
     refine sC (CallsM.ren (hcon.err hx64) [0, 1] 3 rfl rfl rfl rfl) ?_
     first | exact ⟨⟨_, rfl, rfl⟩, rfl, rfl⟩ | exact ⟨by kernel_rfl, ⟨_, rfl, rfl⟩, rfl, rfl⟩
    replace hT := (and_ok hx64).symm.trans hT
    refine sC (CallsM.ren (hcon.ok hx64) [0, 1] 3 rfl rfl rfl rfl) ?_
    clear hcon
    have hs4 := (Up.ok (Up.take hL t_rpar 0) hs3 hx64).1
    obtain rfl := mv_take1 hx64
    obtain rfl : PR.ok ((1 : Nat), a, ([] : List UInt8)) ⟨i + 1 + 1 + 1 + 1, xs, ts⟩ = T := hT
    repeat' (first | refine qgs ?_ | refine eD ?_ ?_ <;> intro)
    exact ⟨rfl, TLe.rfl, rfl, rfl⟩
   ·rw [show derOf w_countof = 2 by decide +kernel] at hT
    refine fn_ruleP (C := ⟨Tryz.prog, layF, Tryz.f84.ntmps, ΓL, 3, [], []⟩) layF_ok mixed Tryz.func84 rfl (by kernel_rfl) rfl rfl rfl SLe.rfl ?_
    refine sC (CallsM.ren ((may_no i hi w_sizeof (isV_not hw (by decide)))) [0, 1] 3 rfl rfl rfl rfl) ?_
    repeat' (first | refine qgs ?_ | refine eD ?_ ?_ <;> intro)
    refine sC (CallsM.ren ((may_yes i hi (by omega) _ (isV_yes hk hw))) [0, 1] 3 rfl rfl rfl rfl) ?_
    repeat' (first | refine qgs ?_ | refine eD ?_ ?_ <;> intro)
    have hcon := take_c (m := m) ⟨i + 1, xs, ts⟩ hs1.i (by omega) t_lpar
    rcases hx74 : (takeM L t_lpar) ⟨i + 1, xs, ts⟩ with ⟨_, s9⟩ | ⟨i9, e9⟩
    rotate_left
    ·obtain rfl := (and_err hx74).symm.trans hT
     refine sC (CallsM.ren (hcon.err hx74) [0, 1] 3 rfl rfl rfl rfl) ?_
     first | exact ⟨⟨_, rfl, rfl⟩, rfl, rfl⟩ | exact ⟨by kernel_rfl, ⟨_, rfl, rfl⟩, rfl, rfl⟩
    replace hT := (and_ok hx74).symm.trans hT
    refine sC (CallsM.ren (hcon.ok hx74) [0, 1] 3 rfl rfl rfl rfl) ?_
    clear hcon
    have hs2 := (Up.ok (Up.take hL t_lpar 0) hs1 hx74).1
    obtain rfl := mv_take1 hx74
    repeat' (first | refine qgs ?_ | refine eD ?_ ?_ <;> intro)
    have hcon := name_c (m := m) ⟨i + 1 + 1, xs, ts⟩ hs2.i (by omega)
    rcases hx76 : (nameM L) ⟨i + 1 + 1, xs, ts⟩ with ⟨a, s9⟩ | ⟨i9, e9⟩
    rotate_left
    ·obtain rfl := (and_err hx76).symm.trans hT
     refine sC (CallsM.ren (hcon.err hx76) [0, 1] 3 rfl rfl rfl rfl) ?_
     first | exact ⟨⟨_, rfl, rfl⟩, rfl, rfl⟩ | exact ⟨by kernel_rfl, ⟨_, rfl, rfl⟩, rfl, rfl⟩
    replace hT := (and_ok hx76).symm.trans hT
    refine sC (CallsM.ren (hcon.ok hx76) [0, 1] 3 rfl rfl rfl rfl) ?_
    clear hcon
    have hs3 := (Up.ok (Up.name hL 0) hs2 hx76).1
    obtain rfl := mv_name1 hx76
    repeat' (first | refine qgs ?_ | refine eD ?_ ?_ <;> intro)
    replace hT := pureT hT
    have hcon := take_c (m := m) ⟨i + 1 + 1 + 1, xs, ts⟩ hs3.i (by omega) t_rpar
    rcases hx79 : (takeM L t_rpar) ⟨i + 1 + 1 + 1, xs, ts⟩ with ⟨_, s9⟩ | ⟨i9, e9⟩
    rotate_left
    ·obtain rfl := (and_err hx79).symm.trans hT
     refine sC (CallsM.ren (hcon.err hx79) [0, 1] 3 rfl rfl rfl rfl) ?_
     first | exact ⟨⟨_, rfl, rfl⟩, rfl, rfl⟩ | exact ⟨by kernel_rfl, ⟨_, rfl, rfl⟩, rfl, rfl⟩
    replace hT := (and_ok hx79).symm.trans hT
    refine sC (CallsM.ren (hcon.ok hx79) [0, 1] 3 rfl rfl rfl rfl) ?_
    clear hcon
    have hs4 := (Up.ok (Up.take hL t_rpar 0) hs3 hx79).1
    obtain rfl := mv_take1 hx79
    obtain rfl : PR.ok ((2 : Nat), a, ([] : List UInt8)) ⟨i + 1 + 1 + 1 + 1, xs, ts⟩ = T := hT
    repeat' (first | refine qgs ?_ | refine eD ?_ ?_ <;> intro)
    exact ⟨rfl, TLe.rfl, rfl, rfl⟩
   ·rw [show derOf w_crc32 = 3 by decide +kernel] at hT
    refine fn_ruleP (C := ⟨Tryz.prog, layF, Tryz.f84.ntmps, ΓL, 3, [], []⟩) layF_ok mixed Tryz.func84 rfl (by kernel_rfl) rfl rfl rfl SLe.rfl ?_
    refine sC (CallsM.ren ((may_no i hi w_sizeof (isV_not hw (by decide)))) [0, 1] 3 rfl rfl rfl rfl) ?_
    repeat' (first | refine qgs ?_ | refine eD ?_ ?_ <;> intro)
    refine sC (CallsM.ren ((may_no i hi w_countof (isV_not hw (by decide)))) [0, 1] 3 rfl rfl rfl rfl) ?_
    repeat' (first | refine qgs ?_ | refine eD ?_ ?_ <;> intro)
    refine sC (CallsM.ren ((may_yes i hi (by omega) _ (isV_yes hk hw))) [0, 1] 3 rfl rfl rfl rfl) ?_
    repeat' (first | refine qgs ?_ | refine eD ?_ ?_ <;> intro)
    have hcon := take_c (m := m) ⟨i + 1, xs, ts⟩ hs1.i (by omega) t_lpar
    rcases hx91 : (takeM L t_lpar) ⟨i + 1, xs, ts⟩ with ⟨_, s9⟩ | ⟨i9, e9⟩
    rotate_left
    ·obtain rfl := (and_err hx91).symm.trans hT
     refine sC (CallsM.ren (hcon.err hx91) [0, 1] 3 rfl rfl rfl rfl) ?_
     first | exact ⟨⟨_, rfl, rfl⟩, rfl, rfl⟩ | exact ⟨by kernel_rfl, ⟨_, rfl, rfl⟩, rfl, rfl⟩
    replace hT := (and_ok hx91).symm.trans hT
    refine sC (CallsM.ren (hcon.ok hx91) [0, 1] 3 rfl rfl rfl rfl) ?_
    clear hcon
    have hs2 := (Up.ok (Up.take hL t_lpar 0) hs1 hx91).1
    obtain rfl := mv_take1 hx91
    repeat' (first | refine qgs ?_ | refine eD ?_ ?_ <;> intro)
    have hcon := name_c (m := m) ⟨i + 1 + 1, xs, ts⟩ hs2.i (by omega)
    rcases hx93 : (nameM L) ⟨i + 1 + 1, xs, ts⟩ with ⟨a, s9⟩ | ⟨i9, e9⟩
    rotate_left
    ·obtain rfl := (and_err hx93).symm.trans hT
     refine sC (CallsM.ren (hcon.err hx93) [0, 1] 3 rfl rfl rfl rfl) ?_
     first | exact ⟨⟨_, rfl, rfl⟩, rfl, rfl⟩ | exact ⟨by kernel_rfl, ⟨_, rfl, rfl⟩, rfl, rfl⟩
    replace hT := (and_ok hx93).symm.trans hT
    refine sC (CallsM.ren (hcon.ok hx93) [0, 1] 3 rfl rfl rfl rfl) ?_
    clear hcon
    have hs3 := (Up.ok (Up.name hL 0) hs2 hx93).1
    obtain rfl := mv_name1 hx93
    repeat' (first | refine qgs ?_ | refine eD ?_ ?_ <;> intro)
    replace hT := asc hT
    have hcon := take_c (m := m) ⟨i + 1 + 1 + 1, xs, ts⟩ hs3.i (by omega) t_dots
    rcases hx96 : (takeM L t_dots) ⟨i + 1 + 1 + 1, xs, ts⟩ with ⟨_, s9⟩ | ⟨i9, e9⟩
    rotate_left
    ·obtain rfl := (and_err hx96).symm.trans hT
     refine sC (CallsM.ren (hcon.err hx96) [0, 1] 3 rfl rfl rfl rfl) ?_
     first | exact ⟨⟨_, rfl, rfl⟩, rfl, rfl⟩ | exact ⟨by kernel_rfl, ⟨_, rfl, rfl⟩, rfl, rfl⟩
    replace hT := (and_ok hx96).symm.trans hT
    refine sC (CallsM.ren (hcon.ok hx96) [0, 1] 3 rfl rfl rfl rfl) ?_
    clear hcon
    have hs4 := (Up.ok (Up.take hL t_dots 0) hs3 hx96).1
    obtain rfl := mv_take1 hx96
    repeat' (first | refine qgs ?_ | refine eD ?_ ?_ <;> intro)
    have hcon := name_c (m := m) ⟨i + 1 + 1 + 1 + 1, xs, ts⟩ hs4.i (by omega)
    rcases hx98 : (nameM L) ⟨i + 1 + 1 + 1 + 1, xs, ts⟩ with ⟨b, s9⟩ | ⟨i9, e9⟩
    rotate_left
    ·obtain rfl := (and_err hx98).symm.trans hT
     refine sC (CallsM.ren (hcon.err hx98) [0, 1] 3 rfl rfl rfl rfl) ?_
     first | exact ⟨⟨_, rfl, rfl⟩, rfl, rfl⟩ | exact ⟨by kernel_rfl, ⟨_, rfl, rfl⟩, rfl, rfl⟩
    replace hT := (and_ok hx98).symm.trans hT
    refine sC (CallsM.ren (hcon.ok hx98) [0, 1] 3 rfl rfl rfl rfl) ?_
    clear hcon
    have hs5 := (Up.ok (Up.name hL 0) hs4 hx98).1
    obtain rfl := mv_name1 hx98
    repeat' (first | refine qgs ?_ | refine eD ?_ ?_ <;> intro)
    have hcon := take_c (m := m) ⟨i + 1 + 1 + 1 + 1 + 1, xs, ts⟩ hs5.i (by omega) t_rpar
    rcases hx100 : (takeM L t_rpar) ⟨i + 1 + 1 + 1 + 1 + 1, xs, ts⟩ with ⟨_, s9⟩ | ⟨i9, e9⟩
    rotate_left
    ·obtain rfl := (and_err hx100).symm.trans hT
     refine sC (CallsM.ren (hcon.err hx100) [0, 1] 3 rfl rfl rfl rfl) ?_
     first | exact ⟨⟨_, rfl, rfl⟩, rfl, rfl⟩ | exact ⟨by kernel_rfl, ⟨_, rfl, rfl⟩, rfl, rfl⟩
    replace hT := (and_ok hx100).symm.trans hT
    refine sC (CallsM.ren (hcon.ok hx100) [0, 1] 3 rfl rfl rfl rfl) ?_
    clear hcon
    have hs6 := (Up.ok (Up.take hL t_rpar 0) hs5 hx100).1
    obtain rfl := mv_take1 hx100
    obtain rfl : PR.ok ((3 : Nat), a, b) ⟨i + 1 + 1 + 1 + 1 + 1 + 1, xs, ts⟩ = T := hT
    repeat' (first | refine qgs ?_ | refine eD ?_ ?_ <;> intro)
    exact ⟨rfl, TLe.rfl, rfl, rfl⟩
   ·rw [show derOf w_adler32 = 4 by decide +kernel] at hT
    refine fn_ruleP (C := ⟨Tryz.prog, layF, Tryz.f84.ntmps, ΓL, 3, [], []⟩) layF_ok mixed Tryz.func84 rfl (by kernel_rfl) rfl rfl rfl SLe.rfl ?_
    refine sC (CallsM.ren ((may_no i hi w_sizeof (isV_not hw (by decide)))) [0, 1] 3 rfl rfl rfl rfl) ?_
    repeat' (first | refine qgs ?_ | refine eD ?_ ?_ <;> intro)
    refine sC (CallsM.ren ((may_no i hi w_countof (isV_not hw (by decide)))) [0, 1] 3 rfl rfl rfl rfl) ?_
    repeat' (first | refine qgs ?_ | refine eD ?_ ?_ <;> intro)
    refine sC (CallsM.ren ((may_no i hi w_crc32 (isV_not hw (by decide)))) [0, 1] 3 rfl rfl rfl rfl) ?_
    repeat' (first | refine qgs ?_ | refine eD ?_ ?_ <;> intro)
    refine sC (CallsM.ren ((may_yes i hi (by omega) _ (isV_yes hk hw))) [0, 1] 3 rfl rfl rfl rfl) ?_
    repeat' (first | refine qgs ?_ | refine eD ?_ ?_ <;> intro)
    have hcon := take_c (m := m) ⟨i + 1, xs, ts⟩ hs1.i (by omega) t_lpar
    rcases hx114 : (takeM L t_lpar) ⟨i + 1, xs, ts⟩ with ⟨_, s9⟩ | ⟨i9, e9⟩
    rotate_left
    ·obtain rfl := (and_err hx114).symm.trans hT
     refine sC (CallsM.ren (hcon.err hx114) [0, 1] 3 rfl rfl rfl rfl) ?_
     first | exact ⟨⟨_, rfl, rfl⟩, rfl, rfl⟩ | exact ⟨by kernel_rfl, ⟨_, rfl, rfl⟩, rfl, rfl⟩
    replace hT := (and_ok hx114).symm.trans hT
    refine sC (CallsM.ren (hcon.ok hx114) [0, 1] 3 rfl rfl rfl rfl) ?_
    clear hcon
    have hs2 := (Up.ok (Up.take hL t_lpar 0) hs1 hx114).1
    obtain rfl := mv_take1 hx114
    repeat' (first | refine qgs ?_ | refine eD ?_ ?_ <;> intro)
    have hcon := name_c (m := m) ⟨i + 1 + 1, xs, ts⟩ hs2.i (by omega)
    rcases hx116 : (nameM L) ⟨i + 1 + 1, xs, ts⟩ with ⟨a, s9⟩ | ⟨i9, e9⟩
    rotate_left
    ·obtain rfl := (and_err hx116).symm.trans hT
     refine sC (CallsM.ren (hcon.err hx116) [0, 1] 3 rfl rfl rfl rfl) ?_
     first | exact ⟨⟨_, rfl, rfl⟩, rfl, rfl⟩ | exact ⟨by kernel_rfl, ⟨_, rfl, rfl⟩, rfl, rfl⟩
    replace hT := (and_ok hx116).symm.trans hT
    refine sC (CallsM.ren (hcon.ok hx116) [0, 1] 3 rfl rfl rfl rfl) ?_
    clear hcon
    have hs3 := (Up.ok (Up.name hL 0) hs2 hx116).1
    obtain rfl := mv_name1 hx116
    repeat' (first | refine qgs ?_ | refine eD ?_ ?_ <;> intro)
    replace hT := asc hT
    have hcon := take_c (m := m) ⟨i + 1 + 1 + 1, xs, ts⟩ hs3.i (by omega) t_dots
    rcases hx119 : (takeM L t_dots) ⟨i + 1 + 1 + 1, xs, ts⟩ with ⟨_, s9⟩ | ⟨i9, e9⟩
    rotate_left
    ·obtain rfl := (and_err hx119).symm.trans hT
     refine sC (CallsM.ren (hcon.err hx119) [0, 1] 3 rfl rfl rfl rfl) ?_
     first | exact ⟨⟨_, rfl, rfl⟩, rfl, rfl⟩ | exact ⟨by kernel_rfl, ⟨_, rfl, rfl⟩, rfl, rfl⟩
    replace hT := (and_ok hx119).symm.trans hT
    refine sC (CallsM.ren (hcon.ok hx119) [0, 1] 3 rfl rfl rfl rfl) ?_
    clear hcon
    have hs4 := (Up.ok (Up.take hL t_dots 0) hs3 hx119).1
    obtain rfl := mv_take1 hx119
    repeat' (first | refine qgs ?_ | refine eD ?_ ?_ <;> intro)
    have hcon := name_c (m := m) ⟨i + 1 + 1 + 1 + 1, xs, ts⟩ hs4.i (by omega)
    rcases hx121 : (nameM L) ⟨i + 1 + 1 + 1 + 1, xs, ts⟩ with ⟨b, s9⟩ | ⟨i9, e9⟩
    rotate_left
    ·obtain rfl := (and_err hx121).symm.trans hT
     refine sC (CallsM.ren (hcon.err hx121) [0, 1] 3 rfl rfl rfl rfl) ?_
     first | exact ⟨⟨_, rfl, rfl⟩, rfl, rfl⟩ | exact ⟨by kernel_rfl, ⟨_, rfl, rfl⟩, rfl, rfl⟩
    replace hT := (and_ok hx121).symm.trans hT
    refine sC (CallsM.ren (hcon.ok hx121) [0, 1] 3 rfl rfl rfl rfl) ?_
    clear hcon
    have hs5 := (Up.ok (Up.name hL 0) hs4 hx121).1
    obtain rfl := mv_name1 hx121
    repeat' (first | refine qgs ?_ | refine eD ?_ ?_ <;> intro)
    have hcon := take_c (m := m) ⟨i + 1 + 1 + 1 + 1 + 1, xs, ts⟩ hs5.i (by omega) t_rpar
    rcases hx123 : (takeM L t_rpar) ⟨i + 1 + 1 + 1 + 1 + 1, xs, ts⟩ with ⟨_, s9⟩ | ⟨i9, e9⟩
    rotate_left
    ·obtain rfl := (and_err hx123).symm.trans hT
     refine sC (CallsM.ren (hcon.err hx123) [0, 1] 3 rfl rfl rfl rfl) ?_
     first | exact ⟨⟨_, rfl, rfl⟩, rfl, rfl⟩ | exact ⟨by kernel_rfl, ⟨_, rfl, rfl⟩, rfl, rfl⟩
    replace hT := (and_ok hx123).symm.trans hT
    refine sC (CallsM.ren (hcon.ok hx123) [0, 1] 3 rfl rfl rfl rfl) ?_
    clear hcon
    have hs6 := (Up.ok (Up.take hL t_rpar 0) hs5 hx123).1
    obtain rfl := mv_take1 hx123
    obtain rfl : PR.ok ((4 : Nat), a, b) ⟨i + 1 + 1 + 1 + 1 + 1 + 1, xs, ts⟩ = T := hT
    repeat' (first | refine qgs ?_ | refine eD ?_ ?_ <;> intro)
    exact ⟨rfl, TLe.rfl, rfl, rfl⟩
  ·have h0 : derOf w = 0 := by
    unfold derOf
    rw [if_neg (fun e => hm (by simp [e])), if_neg (fun e => hm (by simp [e])), if_neg (fun e => hm (by simp [e])), if_neg (fun e => hm (by simp [e]))]
   exact hbad (fun t ht => isV_not hw (fun e => hm (by rw [e]; exact ht))) (atn hT (by simp [hw, h0])).symm
end
end Go.Proofs.YtoingpafcodojaaGreatDoor

namespace Go.Proofs.YtoingpafcodojaaGreatDoor
open Go.RowKit

section
variable {L : List TokP} {m : Nat}
theorem const_c (hL : TokOk L) (hn : L.length ≤ 100000) (s : PS) {c : Nat} (hs : SOk L c s) : C0 L m 40 [] (constM L) (fun v => .o (gD (coD v))) s := by
 refine C0.of fun T hT => ?_
 unfold constM at hT
 obtain ⟨i, xs, ts⟩ := s
 refine fn_ruleP (C := ⟨Tryz.prog, layF, Tryz.f40.ntmps, ΓL, 2, [], []⟩) layF_ok mixed Tryz.func40 rfl (by kernel_rfl) rfl rfl rfl SLe.rfl ?_
 repeat' (first | refine qgs ?_ | refine eD ?_ ?_ <;> intro)
 have hcon := take_c (m := m) ⟨i, xs, ts⟩ hs.i (by omega) w_const
 rcases hx14 : (takeM L w_const) ⟨i, xs, ts⟩ with ⟨_, s9⟩ | ⟨i9, e9⟩
 rotate_left
 ·obtain rfl := (and_err hx14).symm.trans hT
  refine sC (CallsM.ren (hcon.err hx14) [0, 1] 3 rfl rfl rfl rfl) ?_
  first | exact ⟨⟨_, rfl, rfl⟩, rfl, rfl⟩ | exact ⟨by kernel_rfl, ⟨_, rfl, rfl⟩, rfl, rfl⟩
 replace hT := (and_ok hx14).symm.trans hT
 refine sC (CallsM.ren (hcon.ok hx14) [0, 1] 3 rfl rfl rfl rfl) ?_
 clear hcon
 have hs1 := (Up.ok (Up.take hL w_const 0) hs hx14).1
 obtain rfl := mv_take1 hx14
 repeat' (first | refine qgs ?_ | refine eD ?_ ?_ <;> intro)
 have hcon := name_c (m := m) ⟨i + 1, xs, ts⟩ hs1.i (by omega)
 rcases hx16 : (nameM L) ⟨i + 1, xs, ts⟩ with ⟨w, s9⟩ | ⟨i9, e9⟩
 rotate_left
 ·obtain rfl := (and_err hx16).symm.trans hT
  refine sC (CallsM.ren (hcon.err hx16) [0, 1] 3 rfl rfl rfl rfl) ?_
  first | exact ⟨⟨_, rfl, rfl⟩, rfl, rfl⟩ | exact ⟨by kernel_rfl, ⟨_, rfl, rfl⟩, rfl, rfl⟩
 replace hT := (and_ok hx16).symm.trans hT
 refine sC (CallsM.ren (hcon.ok hx16) [0, 1] 3 rfl rfl rfl rfl) ?_
 clear hcon
 have hs2 := (Up.ok (Up.name hL 0) hs1 hx16).1
 obtain rfl := mv_name1 hx16
 repeat' (first | refine qgs ?_ | refine eD ?_ ?_ <;> intro)
 have hcon := take_c (m := m) ⟨i + 1 + 1, xs, ts⟩ hs2.i (by omega) t_eq
 rcases hx18 : (takeM L t_eq) ⟨i + 1 + 1, xs, ts⟩ with ⟨_, s9⟩ | ⟨i9, e9⟩
 rotate_left
 ·obtain rfl := (and_err hx18).symm.trans hT
  refine sC (CallsM.ren (hcon.err hx18) [0, 1] 4 rfl rfl rfl rfl) ?_
  first | exact ⟨⟨_, rfl, rfl⟩, rfl, rfl⟩ | exact ⟨by kernel_rfl, ⟨_, rfl, rfl⟩, rfl, rfl⟩
 replace hT := (and_ok hx18).symm.trans hT
 refine sC (CallsM.ren (hcon.ok hx18) [0, 1] 4 rfl rfl rfl rfl) ?_
 clear hcon
 have hs3 := (Up.ok (Up.take hL t_eq 0) hs2 hx18).1
 obtain rfl := mv_take1 hx18
 repeat' (first | refine qgs ?_ | refine eD ?_ ?_ <;> intro)
 have hcon := num_c (m := m) ⟨i + 1 + 1 + 1, xs, ts⟩ hs3.i (by omega)
 rcases hx20 : (numberM L) ⟨i + 1 + 1 + 1, xs, ts⟩ with ⟨n, s9⟩ | ⟨i9, e9⟩
 rotate_left
 ·obtain rfl := (and_err hx20).symm.trans hT
  refine sC (CallsM.ren (hcon.err hx20) [0, 1] 4 rfl rfl rfl rfl) ?_
  first | exact ⟨⟨_, rfl, rfl⟩, rfl, rfl⟩ | exact ⟨by kernel_rfl, ⟨_, rfl, rfl⟩, rfl, rfl⟩
 replace hT := (and_ok hx20).symm.trans hT
 refine sC (CallsM.ren (hcon.ok hx20) [0, 1] 4 rfl rfl rfl rfl) ?_
 clear hcon
 have hs4 := (Up.ok (Up.number hL 0) hs3 hx20).1
 obtain rfl := mv_num1 hx20
 repeat' (first | refine qgs ?_ | refine eD ?_ ?_ <;> intro)
 have hcon := take_c (m := m) ⟨i + 1 + 1 + 1 + 1, xs, ts⟩ hs4.i (by omega) t_semi
 rcases hx22 : (takeM L t_semi) ⟨i + 1 + 1 + 1 + 1, xs, ts⟩ with ⟨_, s9⟩ | ⟨i9, e9⟩
 rotate_left
 ·obtain rfl := (and_err hx22).symm.trans hT
  refine sC (CallsM.ren (hcon.err hx22) [0, 1] 4 rfl rfl rfl rfl) ?_
  first | exact ⟨⟨_, rfl, rfl⟩, rfl, rfl⟩ | exact ⟨by kernel_rfl, ⟨_, rfl, rfl⟩, rfl, rfl⟩
 replace hT := (and_ok hx22).symm.trans hT
 refine sC (CallsM.ren (hcon.ok hx22) [0, 1] 4 rfl rfl rfl rfl) ?_
 clear hcon
 have hs5 := (Up.ok (Up.take hL t_semi 0) hs4 hx22).1
 obtain rfl := mv_take1 hx22
 obtain rfl : PR.ok (⟨w, n⟩ : CO) ⟨i + 1 + 1 + 1 + 1 + 1, xs, ts⟩ = T := hT
 repeat' (first | refine qgs ?_ | refine eD ?_ ?_ <;> intro)
 exact ⟨rfl, TLe.rfl, rfl, rfl⟩
theorem itLe {nm a b : List UInt8} {ty wh : Int} {der : Nat} : TLe (.o (gD [ds (bs nm), di ty, di der, ds (bs a), ds (bs b), di wh, di 0, db false, dnil])) (.o (gD (itD ⟨nm, ty, der, a, b, wh, 0, false, []⟩))) :=
 TLe.o (T1Le.g (.cons DLe.rfl (.cons DLe.rfl (.cons DLe.rfl (.cons DLe.rfl (.cons DLe.rfl (.cons DLe.rfl (.cons DLe.rfl (.cons DLe.rfl (.cons DLe.nil .nil))))))))))
theorem mv_derived (L : List TokP) : ∀ s v s', derivedM L s = .ok v s' → s'.xs = s.xs ∧ s'.ts = s.ts := fun s v s' h => by
 have mvand : ∀ {α β : Type} {x : PM α} {f : α → PM β}, (∀ s v s', x s = .ok v s' → s'.xs = s.xs ∧ s'.ts = s.ts) → (∀ u s v s', f u s = .ok v s' → s'.xs = s.xs ∧ s'.ts = s.ts) → ∀ s v s', (x >>= f) s = .ok v s' → s'.xs = s.xs ∧ s'.ts = s.ts := fun {α β x f} hx hf s v s' h => by
  have hb : PM.and x f s = .ok v s' := h
  unfold PM.and at hb
  rcases hxs : x s with ⟨u, s1⟩ | ⟨i, e⟩ <;> rw [hxs] at hb
  ·have h1 := hx _ _ _ hxs
   have h2 := hf _ _ _ _ hb
   exact ⟨h2.1.trans h1.1, h2.2.trans h1.2⟩
  ·cases hb
 have mt : ∀ t s v s', takeM L t s = .ok v s' → s'.xs = s.xs ∧ s'.ts = s.ts := fun t s v s' h => by unfold takeM at h; split at h <;> cases h; exact ⟨rfl, rfl⟩
 have mn : ∀ s v s', nameM L s = .ok v s' → s'.xs = s.xs ∧ s'.ts = s.ts := fun s v s' h => by unfold nameM at h; split at h <;> cases h; exact ⟨rfl, rfl⟩
 unfold derivedM atM at h
 split at h
 ·refine mvand (x := stepM) (fun s v s' h => by cases h; exact ⟨rfl, rfl⟩) (fun _ => mvand (mt _) fun _ => mvand mn fun a => mvand ?_ fun b => mvand (mt _) fun _ => fun s v s' h => by cases h; exact ⟨rfl, rfl⟩) s v s' h
  intro s1 v1 s2 h1
  split at h1
  ·exact mvand (mt _) (fun _ => mn) _ _ _ h1
  ·cases h1; exact ⟨rfl, rfl⟩
 ·cases h
set_option maxHeartbeats 8000000 in
theorem field_c (hL : TokOk L) (hn : L.length ≤ 100000) (hm : m = 32) (s : PS) (hs : SOk L 0 s) : C2 L m 62 [] (fieldM L) (fun v => .o (gD (itD v))) s := by
 refine C2.of fun T hT => ?_
 unfold fieldM at hT
 rw [← hm] at hT
 have hm2 : m ≤ 32 := by omega
 obtain ⟨i, xs, ts⟩ := s
 refine fn_ruleP (C := ⟨Tryz.prog, layF, Tryz.f62.ntmps, ΓL, 6, [], [6]⟩) layF_ok mixed Tryz.func62 rfl (by kernel_rfl) rfl rfl rfl SLe.rfl ?_
 repeat' (first | refine qgs ?_ | refine eD ?_ ?_ <;> intro)
 have hcon := name_c (m := m) ⟨i, xs, ts⟩ hs.i (by omega)
 rcases hx57 : (nameM L) ⟨i, xs, ts⟩ with ⟨w, s9⟩ | ⟨i9, e9⟩
 rotate_left
 ·obtain rfl := (and_err hx57).symm.trans hT
  refine sC (CallsM.ren (hcon.err hx57) [0, 1] 7 rfl rfl rfl rfl) ?_
  first | exact ⟨⟨_, rfl, rfl⟩, rfl, rfl⟩ | exact ⟨by kernel_rfl, ⟨_, rfl, rfl⟩, rfl, rfl⟩
 replace hT := (and_ok hx57).symm.trans hT
 refine sC (CallsM.ren (hcon.ok hx57) [0, 1] 7 rfl rfl rfl rfl) ?_
 clear hcon
 have hs1 := (Up.ok (Up.name hL 0) hs hx57).1
 obtain rfl := mv_name1 hx57
 repeat' (first | refine qgs ?_ | refine eD ?_ ?_ <;> intro)
 have hcon := take_c (m := m) ⟨i + 1, xs, ts⟩ hs1.i (by omega) t_colon
 rcases hx59 : (takeM L t_colon) ⟨i + 1, xs, ts⟩ with ⟨_, s9⟩ | ⟨i9, e9⟩
 rotate_left
 ·obtain rfl := (and_err hx59).symm.trans hT
  refine sC (CallsM.ren (hcon.err hx59) [0, 1] 8 rfl rfl rfl rfl) ?_
  first | exact ⟨⟨_, rfl, rfl⟩, rfl, rfl⟩ | exact ⟨by kernel_rfl, ⟨_, rfl, rfl⟩, rfl, rfl⟩
 replace hT := (and_ok hx59).symm.trans hT
 refine sC (CallsM.ren (hcon.ok hx59) [0, 1] 8 rfl rfl rfl rfl) ?_
 clear hcon
 have hs2 := (Up.ok (Up.take hL t_colon 0) hs1 hx59).1
 obtain rfl := mv_take1 hx59
 repeat' (first | refine qgs ?_ | refine eD ?_ ?_ <;> intro)
 have hcon := kind_c hL hn m hm2 ⟨i + 1 + 1, xs, ts⟩ (hs2.less (by omega))
 rcases hx : (kindM L m) ⟨i + 1 + 1, xs, ts⟩ with ⟨t, ⟨i2, xs2, ts2⟩⟩ | ⟨i9, e9⟩
 rotate_left
 ·obtain rfl := (and_err hx).symm.trans hT
  refine sC (CallsM.ren (hcon.err hx) [0, 1, 2, 3, 4, 5] 8 rfl rfl rfl rfl) ?_
  first | exact ⟨⟨_, rfl, rfl⟩, rfl, rfl⟩ | exact ⟨by kernel_rfl, ⟨_, rfl, rfl⟩, rfl, rfl⟩
 replace hT := (and_ok hx).symm.trans hT
 refine sC (CallsM.ren (hcon.ok hx) [0, 1, 2, 3, 4, 5] 8 rfl rfl rfl rfl) ?_
 clear hcon
 have hs3 := (Up.ok (c := 0) ((up_kind hL m).less (a' := 2) (b' := 2) 2 (by omega) (by omega)) hs2 hx).1
 repeat' (first | refine qgs ?_ | refine eD ?_ ?_ <;> intro)
 refine ex_join (X := Nat × Nat × List UInt8 × List UInt8) (fun ⟨i, e, a, b⟩ => ⟨[(0, .o P0), (2, .o (.c (.ptr 6 0))), (3, .o (.c (.ptr 7 0)))], [(0, Qz L m i), (1, Fz 2 3 8 9), (4, .dead), (5, .dead), (6, .obj [.d (ds ⟨#[]⟩), .d (di 0), .d (di 0), .d (ds ⟨#[]⟩), .d (ds ⟨#[]⟩), .d (di 0), .d (di 0), .d (db false), .d dnil]), (7, Iz w t e a b (-1)), (8, Xz xs2), (9, Tz ts2)], 10⟩)
  (fun ⟨i, e, a, b⟩ => SOk L 2 ⟨i, xs2, ts2⟩ ∧ (atM (isV L · w_where) (stepM >>= fun _ => exprM L m) (pure (-1)) >>= fun x => takeM L t_semi >>= fun _ => pure (⟨w, t, e, a, b, x, 0, false, []⟩ : IT)) ⟨i, xs2, ts2⟩ = T) ?_ ?_
 ·rcases hv : isV L i2 t_eq with _ | _
  ·replace hT := pureT (atnB hT hv)
   refine sC (CallsM.ren ((may_no i2 hs3.lt _ hv)) [0, 1] 10 rfl rfl rfl rfl) ?_
   repeat' (first | refine qgs ?_ | refine eD ?_ ?_ <;> intro)
   exact ex_meet (i2, 0, [], []) ⟨hs3.less (by omega), hT⟩ sS
  ·replace hT := stp1 (asc (atyB hT hv))
   have hs4 := stpS hL hs3 (isV_k hv)
   have hd := derived_c (m := m) hL hn w t (-1) ⟨i2 + 1, xs2, ts2⟩ hs4
   refine sC (CallsM.ren ((may_yes i2 hs3.lt (by omega) _ hv)) [0, 1] 10 rfl rfl rfl rfl) ?_
   repeat' (first | refine qgs ?_ | refine eD ?_ ?_ <;> intro)
   rcases hy : derivedM L ⟨i2 + 1, xs2, ts2⟩ with ⟨⟨e, a, b⟩, ⟨i3, xs3, ts3⟩⟩ | ⟨i9, e9⟩
   ·replace hT := (and_ok hy).symm.trans hT
    obtain ⟨h1, h2⟩ : xs3 = xs2 ∧ ts3 = ts2 := mv_derived L _ _ _ hy
    subst h1 h2
    have hs5 := (Up.ok (up_derived hL 3) hs4 hy).1
    rw [hy] at hd
    refine ex_callM (CallsM.moreD (CallsM.ren hd [0, 1, 7] 10 rfl rfl rfl rfl)) ?_
    repeat' (first | refine qgs ?_ | refine eD ?_ ?_ <;> intro)
    exact ex_meet (i3, e, a, b) ⟨hs5.less (by omega), hT⟩ sS
   ·obtain rfl := (and_err hy).symm.trans hT
    rw [hy] at hd
    refine ex_callM (CallsM.moreD (CallsM.ren hd [0, 1, 7] 10 rfl rfl rfl rfl)) ?_
    exact ⟨⟨_, rfl, rfl⟩, rfl, rfl⟩
 ·rintro ⟨i, e, a, b⟩ ⟨hs, hT⟩
  rcases hv : isV L i w_where with _ | _
  ·replace hT := pureT (atnB hT hv)
   refine sC (CallsM.ren ((may_no i hs.lt _ hv)) [0, 1] 10 rfl rfl rfl rfl) ?_
   repeat' (first | refine qgs ?_ | refine eD ?_ ?_ <;> intro)
   have hcon := take_c (m := m) ⟨i, xs2, ts2⟩ hs.i (by omega) t_semi
   rcases hx93 : (takeM L t_semi) ⟨i, xs2, ts2⟩ with ⟨_, s9⟩ | ⟨i9, e9⟩
   rotate_left
   ·obtain rfl := (and_err hx93).symm.trans hT
    refine sC (CallsM.ren (hcon.err hx93) [0, 1] 10 rfl rfl rfl rfl) ?_
    first | exact ⟨⟨_, rfl, rfl⟩, rfl, rfl⟩ | exact ⟨by kernel_rfl, ⟨_, rfl, rfl⟩, rfl, rfl⟩
   replace hT := (and_ok hx93).symm.trans hT
   refine sC (CallsM.ren (hcon.ok hx93) [0, 1] 10 rfl rfl rfl rfl) ?_
   clear hcon
   have hs1 := (Up.ok (Up.take hL t_semi 0) hs hx93).1
   obtain rfl := mv_take1 hx93
   obtain rfl : PR.ok (⟨w, t, e, a, b, -1, 0, false, []⟩ : IT) ⟨i + 1, xs2, ts2⟩ = T := hT
   repeat' (first | refine qgs ?_ | refine eD ?_ ?_ <;> intro)
   exact ⟨rfl, itLe, rfl, rfl⟩
  ·replace hT := stp1 (asc (atyB hT hv))
   have hs1 := stpS hL hs (isV_k hv)
   refine sC (CallsM.ren ((may_yes i hs.lt (by omega) _ hv)) [0, 1] 10 rfl rfl rfl rfl) ?_
   repeat' (first | refine qgs ?_ | refine eD ?_ ?_ <;> intro)
   have hcon := expr_c hL hn m hm2 ⟨i + 1, xs2, ts2⟩ (hs1.less (by omega))
   rcases hx : (exprM L m) ⟨i + 1, xs2, ts2⟩ with ⟨x, ⟨i4, xs4, ts4⟩⟩ | ⟨i9, e9⟩
   rotate_left
   ·obtain rfl := (and_err hx).symm.trans hT
    refine sC (CallsM.ren (hcon.err hx) [0, 1, 2, 3, 8, 9] 10 rfl rfl rfl rfl) ?_
    first | exact ⟨⟨_, rfl, rfl⟩, rfl, rfl⟩ | exact ⟨by kernel_rfl, ⟨_, rfl, rfl⟩, rfl, rfl⟩
   replace hT := (and_ok hx).symm.trans hT
   refine sC (CallsM.ren (hcon.ok hx) [0, 1, 2, 3, 8, 9] 10 rfl rfl rfl rfl) ?_
   clear hcon
   have hs2 := (Up.ok (up_expr hL m 3) hs1 hx).1
   obtain rfl := (keep_expr m).eq hx
   repeat' (first | refine qgs ?_ | refine eD ?_ ?_ <;> intro)
   have hcon := take_c (m := m) ⟨i4, xs4, ts2⟩ hs2.i (by omega) t_semi
   rcases hx103 : (takeM L t_semi) ⟨i4, xs4, ts2⟩ with ⟨_, s9⟩ | ⟨i9, e9⟩
   rotate_left
   ·obtain rfl := (and_err hx103).symm.trans hT
    refine sC (CallsM.ren (hcon.err hx103) [0, 1] 11 rfl rfl rfl rfl) ?_
    first | exact ⟨⟨_, rfl, rfl⟩, rfl, rfl⟩ | exact ⟨by kernel_rfl, ⟨_, rfl, rfl⟩, rfl, rfl⟩
   replace hT := (and_ok hx103).symm.trans hT
   refine sC (CallsM.ren (hcon.ok hx103) [0, 1] 11 rfl rfl rfl rfl) ?_
   clear hcon
   have hs3 := (Up.ok (Up.take hL t_semi 0) hs2 hx103).1
   obtain rfl := mv_take1 hx103
   obtain rfl : PR.ok (⟨w, t, e, a, b, x, 0, false, []⟩ : IT) ⟨i4 + 1, xs4, ts2⟩ = T := hT
   repeat' (first | refine qgs ?_ | refine eD ?_ ?_ <;> intro)
   exact ⟨rfl, itLe, rfl, rfl⟩
end
end Go.Proofs.YtoingpafcodojaaGreatDoor

namespace Go.Proofs.YtoingpafcodojaaGreatDoor

def Mo {α : Type} (x : PM α) : Prop := ∀ s v s', x s = .ok v s' → s.i ≤ s'.i
def Mo1 {α : Type} (x : PM α) : Prop := ∀ s v s', x s = .ok v s' → s.i < s'.i
theorem mo_inv {α β : Type} {x : PM α} {f : α → PM β} {s s' : PS} {v : β} (h : (x >>= f) s = .ok v s') : ∃ u s1, x s = .ok u s1 ∧ f u s1 = .ok v s' := by
 have hb : PM.and x f s = .ok v s' := h
 unfold PM.and at hb
 rcases hxs : x s with ⟨u, s1⟩ | ⟨i, e⟩
 ·rw [hxs] at hb; exact ⟨u, s1, rfl, hb⟩
 ·rw [hxs] at hb; cases hb
theorem Mo.and {α β : Type} {x : PM α} {f : α → PM β} (hx : Mo x) (hf : ∀ v, Mo (f v)) : Mo (x >>= f) := fun s v s' h => by
 obtain ⟨u, s1, h1, h2⟩ := mo_inv h
 exact Nat.le_trans (hx _ _ _ h1) (hf u _ _ _ h2)
theorem Mo1.and {α β : Type} {x : PM α} {f : α → PM β} (hx : Mo1 x) (hf : ∀ v, Mo (f v)) : Mo1 (x >>= f) := fun s v s' h => by
 obtain ⟨u, s1, h1, h2⟩ := mo_inv h
 exact Nat.lt_of_lt_of_le (hx _ _ _ h1) (hf u _ _ _ h2)
theorem Mo1.mo {α : Type} {x : PM α} (h : Mo1 x) : Mo x := fun s v s' hx => Nat.le_of_lt (h s v s' hx)
theorem Mo.at {α : Type} {p : Nat → Bool} {x y : PM α} (hx : Mo x) (hy : Mo y) : Mo (atM p x y) := fun s v s' h => by
 unfold atM at h
 split at h
 ·exact hx _ _ _ h
 ·exact hy _ _ _ h
theorem Mo.pure {α : Type} (v : α) : Mo (pure v) := fun s u s' h => by cases h; exact Nat.le_refl _
theorem Mo.put (x : EX) : Mo (putM x) := fun s u s' h => by cases h; exact Nat.le_refl _
theorem Mo.lay (x : TY) : Mo (layM x) := fun s u s' h => by cases h; exact Nat.le_refl _
theorem Mo.fail {α : Type} (e : Nat) : Mo (failM e : PM α) := fun s u s' h => by cases h
theorem Mo1.step : Mo1 stepM := fun s u s' h => by cases h; exact Nat.lt_succ_self _
theorem Mo.room (n : Nat) : Mo (roomM n) := fun s u s' h => by unfold roomM at h; split at h <;> cases h; exact Nat.le_refl _
theorem Mo.roomIf (p : Nat → Bool) (n : Nat) : Mo (fun s => if p s.i = true then roomM n s else .ok () s) := fun s u s' h => by
 dsimp only at h
 split at h
 ·exact Mo.room n _ _ _ h
 ·cases h; exact Nat.le_refl _
theorem Mo.enter (m : Nat) (p : Nat → Bool) : Mo (fun s => enterM m (p s.i) s) := fun s u s' h => by
 dsimp only at h; unfold enterM at h
 split at h
 ·cases h
 ·split at h <;> cases h; exact Nat.le_refl _
section
variable {L : List TokP}
theorem Mo1.take (t : List UInt8) : Mo1 (takeM L t) := fun s v s' h => by unfold takeM at h; split at h <;> cases h; exact Nat.lt_succ_self _
theorem Mo1.name : Mo1 (nameM L) := fun s v s' h => by unfold nameM at h; split at h <;> cases h; exact Nat.lt_succ_self _
theorem Mo1.num : Mo1 (numberM L) := fun s v s' h => by unfold numberM at h; split at h <;> cases h; exact Nat.lt_succ_self _
theorem mo_un (m : Nat) {un ex : PM Int} (h1 : Mo un) (h2 : Mo ex) : Mo (unF L m un ex) :=
 Mo.at (Mo1.step.mo.and fun _ => (Mo.enter _ _).and fun _ => h1.and fun _ => Mo.put _) (Mo.at (Mo1.step.mo.and fun _ => (Mo.enter _ _).and fun _ => h2.and fun _ => (Mo1.take _).mo.and fun _ => Mo.pure _) (Mo.at (Mo1.name.mo.and fun _ => Mo.put _) (Mo1.num.mo.and fun _ => Mo.put _)))
theorem mo_line (lv : Nat) {x : PM Int} (hx : Mo x) : ∀ n left, Mo (lineN L lv x n left)
 | 0, left => Mo.pure _
 | n + 1, left => fun s v s' h => by
  rw [lineN] at h
  change (if opAt L lv s.i = true then _ else _) = _ at h
  split at h
  ·exact (Mo1.step.mo.and fun _ => hx.and fun r => (Mo.put ⟨3, (tk L s.i).t, 0, [], [left, r]⟩).and fun k => mo_line lv hx n k) _ _ _ h
  ·cases h; exact Nat.le_refl _
theorem mo_lineJ {un : PM Int} (hx : Mo un) : ∀ j, Mo (lineJ L un j)
 | 0 => hx
 | j + 1 => (mo_lineJ hx j).and fun left => fun s v s' h => mo_line _ (mo_lineJ hx j) _ _ s v s' h
theorem mo_unM : ∀ m, Mo (unM L m)
 | 0 => mo_un 0 (Mo.fail _) (Mo.fail _)
 | m + 1 => mo_un _ (mo_unM m) (mo_lineJ (mo_unM m) 8)
theorem mo_expr (m : Nat) : Mo (exprM L m) := mo_lineJ (mo_unM m) 8
theorem mo_bracket (m : Nat) : Mo (bracketM L m) := (Mo1.take _).mo.and fun _ => (mo_expr m).and fun _ => (Mo1.take _).mo.and fun _ => Mo.pure _
theorem mo_array (m : Nat) (t : TY) : Mo (arrayM L m t) := (Mo.lay t).and fun k => Mo.at ((mo_bracket m).and fun x => Mo.lay _) (Mo.pure _)
theorem mo_args (m : Nat) : ∀ n l, Mo (argsN L m n l)
 | 0, l => Mo.pure _
 | n + 1, l => Mo.at (Mo1.step.mo.and fun _ => (Mo.roomIf (beginsV L ·) _).and fun _ => (mo_expr m).and fun x => mo_args m n _) (Mo.pure _)
theorem mo_ref (m : Nat) : Mo (refM L m) := Mo1.name.mo.and fun w => Mo.at (Mo1.step.mo.and fun _ => (mo_expr m).and fun x => (show Mo (fun s => argsN L m (L.length - s.i + 1) [x] s) from fun s v s' h => mo_args m _ _ s v s' h).and fun l => (Mo1.take _).mo.and fun _ => Mo.pure _) (Mo.pure _)
theorem mo_inner (m : Nat) {kd : PM Int} (h : Mo kd) : Mo (innerM L m kd) := (Mo.enter m (startsV L ·)).and fun _ => h
theorem mo_cases (m : Nat) {kd : PM Int} (h : Mo kd) : ∀ n l, Mo (casesN L m kd n l)
 | 0, l => Mo.pure _
 | n + 1, l => Mo.at ((Mo.room _).and fun _ => Mo1.step.mo.and fun _ => Mo1.num.mo.and fun c => (Mo1.take _).mo.and fun _ => (mo_inner m h).and fun k => (Mo1.take _).mo.and fun _ => mo_cases m h n _) (Mo.pure _)
theorem mo_choice (m : Nat) {kd : PM Int} (h : Mo kd) : Mo (choiceM L m kd) := by
 unfold choiceM
 exact (Mo1.take _).mo.and fun _ => (mo_expr m).and fun x => (Mo1.take _).mo.and fun _ => (Mo1.take _).mo.and fun _ => (show Mo (fun s => casesN L m kd (L.length - s.i + 1) [] s) from fun s v s' hx => mo_cases m h _ _ s v s' hx).and fun cs =>
  (Mo.at (Mo1.step.mo.and fun _ => (Mo1.take _).mo.and fun _ => (mo_inner m h).and fun k => (Mo1.take _).mo.and fun _ => Mo.pure _) (Mo.pure _)).and fun k => (Mo1.take _).mo.and fun _ => Mo.lay _
theorem mo_word (m : Nat) {kd : PM Int} (h : Mo kd) (w : List UInt8) : Mo (wordM L m kd w) := by
 unfold wordM
 split
 ·refine (mo_bracket m).and fun x => ?_
  split
  ·exact (mo_inner m h).and fun i => Mo.lay _
  ·exact (Mo.pure _).and fun i => Mo.lay _
 ·repeat' split
  ·exact (mo_inner m h).and fun i => Mo.lay _
  ·exact Mo.lay _
  ·exact Mo.lay _
  ·exact mo_choice m h
  ·exact mo_array m _
theorem mo_kindF (m : Nat) {kd : PM Int} (h : Mo kd) : Mo (kindF L m kd) := Mo.at ((mo_ref m).and fun t => mo_array m t) (Mo.at (fun s v s' hx => (Mo1.step.mo.and fun _ => mo_word m h (tk L s.i).t) s v s' hx) (Mo.fail _))
theorem mo_kind : ∀ m, Mo (kindM L m)
 | 0 => mo_kindF 0 (Mo.fail _)
 | m + 1 => mo_kindF _ (mo_kind m)
theorem mo_derived : Mo (derivedM L) := by
 refine Mo.at (fun s v s' hx => (Mo1.step.mo.and fun _ => (Mo1.take t_lpar).mo.and fun _ => Mo1.name.mo.and fun a => Mo.and ?_ fun b => (Mo1.take t_rpar).mo.and fun _ => Mo.pure (derOf (tk L s.i).t, a, b)) s v s' hx) (Mo.fail _)
 split
 ·exact (Mo1.take _).mo.and fun _ => Mo1.name.mo
 ·exact Mo.pure _
theorem mo_field : Mo1 (fieldM L) := Mo1.name.and fun w => (Mo1.take _).mo.and fun _ => (mo_kind 32).and fun t => (Mo.at (Mo1.step.mo.and fun _ => mo_derived) (Mo.pure _)).and fun d => (Mo.at (Mo1.step.mo.and fun _ => mo_expr 32) (Mo.pure _)).and fun x => (Mo1.take _).mo.and fun _ => Mo.pure _
theorem mo_subs : ∀ n l, Mo (subsN L n l)
 | 0, l => Mo.pure _
 | n + 1, l => by
  rw [subsN]
  exact (Mo.roomIf (namedV L ·) _).and fun _ => Mo1.name.mo.and fun w => (Mo1.take _).mo.and fun _ => Mo1.num.mo.and fun b => (Mo1.take _).mo.and fun _ => Mo.at (mo_subs n _) (Mo.pure _)
theorem mo_pack : Mo1 (packM L) := (Mo1.take _).and fun _ => fun s v s' h => by
 split at h
 ·cases h
 ·exact (Mo1.step.mo.and fun _ => (Mo1.take _).mo.and fun _ => (show Mo (fun s => subsN L (L.length - s.i + 1) [] s) from fun s v s' hx => mo_subs _ _ s v s' hx).and fun l => (Mo1.take _).mo.and fun _ => Mo.pure _) _ _ _ h
theorem mo_pars : ∀ n l, Mo (parsN L n l)
 | 0, l => Mo.pure _
 | n + 1, l => Mo.at (Mo1.step.mo.and fun _ => (Mo.roomIf (namedV L ·) _).and fun _ => Mo1.name.mo.and fun x => mo_pars n _) (Mo.pure _)
theorem mo_items : ∀ n l, Mo (itemsN L n l)
 | 0, l => Mo.pure _
 | n + 1, l => Mo.at ((Mo.room _).and fun _ => (Mo.at mo_pack.mo mo_field.mo).and fun x => mo_items n _) (Mo.pure _)
theorem mo_record : Mo1 (recordM L) := (Mo1.take _).and fun _ => Mo1.name.mo.and fun w =>
 (Mo.at (Mo1.step.mo.and fun _ => Mo1.name.mo.and fun x => (show Mo (fun s => parsN L (L.length - s.i + 1) [x] s) from fun s v s' h => mo_pars _ _ s v s' h).and fun l => (Mo1.take _).mo.and fun _ => Mo.pure _) (Mo.pure _)).and fun ps =>
 (Mo1.take _).mo.and fun _ => (show Mo (fun s => itemsN L (L.length - s.i + 1) [] s) from fun s v s' h => mo_items _ _ s v s' h).and fun is => (Mo1.take _).mo.and fun _ => Mo.pure _
theorem mo_const : Mo1 (constM L) := (Mo1.take _).and fun _ => Mo1.name.mo.and fun w => (Mo1.take _).mo.and fun _ => Mo1.num.mo.and fun n => (Mo1.take _).mo.and fun _ => Mo.pure _
end
end Go.Proofs.YtoingpafcodojaaGreatDoor

namespace Go.Proofs.YtoingpafcodojaaGreatDoor
open Go.RowKit

section
variable {L : List TokP} {m : Nat}
def headN (L : List TokP) (n : Nat) (l : List SB) : PM (List SB) := if l = [] then subsN L n l else atM (namedV L ·) (subsN L n l) (pure l)
set_option maxHeartbeats 8000000 in
theorem pack_c (hL : TokOk L) (hn : L.length ≤ 100000) (s : PS) {c : Nat} (hs : SOk L c s) : C0 L m 61 [] (packM L) (fun v => .o (gD (itD v))) s := by
 refine C0.of fun T hT => ?_
 unfold packM at hT
 obtain ⟨i, xs, ts⟩ := s
 refine fn_ruleP (C := ⟨Tryz.prog, layF, Tryz.f61.ntmps, ΓL, 2, [], []⟩) layF_ok mixed Tryz.func61 rfl (by kernel_rfl) rfl rfl rfl SLe.rfl ?_
 repeat' (first | refine qgs ?_ | refine eD ?_ ?_ <;> intro)
 have hcon := take_c (m := m) ⟨i, xs, ts⟩ hs.i (by omega) w_pack
 rcases hx18 : (takeM L w_pack) ⟨i, xs, ts⟩ with ⟨_, s9⟩ | ⟨i9, e9⟩
 rotate_left
 ·obtain rfl := (and_err hx18).symm.trans hT
  refine sC (CallsM.ren (hcon.err hx18) [0, 1] 3 rfl rfl rfl rfl) ?_
  first | exact ⟨⟨_, rfl, rfl⟩, rfl, rfl⟩ | exact ⟨by kernel_rfl, ⟨_, rfl, rfl⟩, rfl, rfl⟩
 replace hT := (and_ok hx18).symm.trans hT
 refine sC (CallsM.ren (hcon.ok hx18) [0, 1] 3 rfl rfl rfl rfl) ?_
 clear hcon
 have hs1 := (Up.ok (Up.take hL w_pack 0) hs hx18).1
 obtain rfl := mv_take1 hx18
 have ha := ahead_c (L := L) (m := m) (i + 1) hs1.lt
 have hT : (match (if (tk L (i + 1)).k = 0 then integerV (tk L (i + 1)).t else none) with
  | none => failM 4 ⟨i + 1, xs, ts⟩
  | some (z, lt) => (stepM >>= fun _ => takeM L t_lcur >>= fun _ => (fun s => subsN L (L.length - s.i + 1) [] s) >>= fun l => takeM L t_rcur >>= fun _ => pure (⟨[], -1, 0, [], [], -1, z, lt, l⟩ : IT)) ⟨i + 1, xs, ts⟩) = T := hT
 have hk3 : (tk L (i + 1)).k = 0 → (tk L (i + 1)).k ≠ 3 := fun h => by omega
 have hs2 := fun h => stpS hL hs1 (hk3 h)
 clear hk3
 generalize tk L (i + 1) = u at *
 have hq := (integer_c u.t).gL
 repeat' (first | refine qgs ?_ | refine eD ?_ ?_ <;> intro)
 refine sC (CallsM.ren (ha) [0, 1] 4 rfl rfl rfl rfl) ?_
 rcases hz : integerV u.t with _ | ⟨z, lt⟩ <;> rw [hz] at hT hq
 ·have hq : CallsA Tryz.prog ΓL 82 [c1 (ds (bs u.t))] (.tup [c1 (di 0), c1 (db false), c1 (db false)]) := hq
  obtain rfl : PR.err (i + 1) 4 = T := by
   rw [← hT]
   by_cases hk : u.k = 0
   ·rw [if_pos hk]; rfl
   ·rw [if_neg hk]; rfl
  repeat' (first | refine ex_call hq ?_ | refine qg1 ?_ | refine eD ?_ ?_ <;> intro)
  refine sC (CallsM.ren ((fail_c (m := m) (i + 1) 4 hs1.lt)) [0, 1] 4 rfl rfl rfl rfl) ?_
  exact ⟨⟨_, rfl, rfl⟩, rfl, rfl⟩
 ·have hq : CallsA Tryz.prog ΓL 82 [c1 (ds (bs u.t))] (.tup [c1 (di z), c1 (db lt), c1 (db true)]) := hq
  by_cases hk : u.k = 0
  ·rw [if_pos hk] at hT
   replace hs2 := hs2 hk
   have hi1 := hs1.lt
   have hi2 := hs2.lt
   repeat' (first | refine ex_call hq ?_ | refine qg1 ?_ | refine eD ?_ ?_ <;> intro)
   refine sC (CallsM.ren (ha) [0, 1] 4 rfl rfl rfl rfl) ?_
   repeat' (first | refine aI ((i + 1 + 1 : Nat) : Int) ?_ | refine aU ((i + 1 + 1 : Nat) : Int) ?_ | refine aB ((i + 1 + 1 : Nat) : Int) ?_ | refine qg1 ?_ | refine eD ?_ ?_ <;> intro)
   replace hT : (takeM L t_lcur >>= fun _ => (fun s => subsN L (L.length - s.i + 1) [] s) >>= fun l => takeM L t_rcur >>= fun _ => pure (⟨[], -1, 0, [], [], -1, z, lt, l⟩ : IT)) ⟨i + 1 + 1, xs, ts⟩ = T := hT
   have hcon := take_c (m := m) ⟨i + 1 + 1, xs, ts⟩ hs2.i (by omega) t_lcur
   rcases hx50 : (takeM L t_lcur) ⟨i + 1 + 1, xs, ts⟩ with ⟨_, s9⟩ | ⟨i9, e9⟩
   rotate_left
   ·obtain rfl := (and_err hx50).symm.trans hT
    refine sC (CallsM.ren (hcon.err hx50) [0, 1] 4 rfl rfl rfl rfl) ?_
    first | exact ⟨⟨_, rfl, rfl⟩, rfl, rfl⟩ | exact ⟨by kernel_rfl, ⟨_, rfl, rfl⟩, rfl, rfl⟩
   replace hT := (and_ok hx50).symm.trans hT
   refine sC (CallsM.ren (hcon.ok hx50) [0, 1] 4 rfl rfl rfl rfl) ?_
   clear hcon
   have hs3 := (Up.ok (Up.take hL t_lcur 0) hs2 hx50).1
   obtain rfl := mv_take1 hx50
   repeat' (first | refine qgs ?_ | refine eD ?_ ?_ <;> intro)
   replace hT : (headN L (L.length - (i + 1 + 1 + 1) + 1) [] >>= fun l => takeM L t_rcur >>= fun _ => pure (⟨[], -1, 0, [], [], -1, z, lt, l⟩ : IT)) ⟨i + 1 + 1 + 1, xs, ts⟩ = T := hT
   refine ex_loop (X := Nat × List SB × Nat) (fun ⟨i, l, _⟩ => ⟨[(0, .o P0), (2, .o (.c (.ptr 2 0))), (3, .o (.c (.ptr 3 0)))], [(0, Qz L m i), (2, .obj [.d (ds ⟨#[]⟩), .d (di 0), .d (di 0), .d (ds ⟨#[]⟩), .d (ds ⟨#[]⟩), .d (di 0), .d (di 0), .d (db false), .d dnil]), (3, .obj [.d (ds ⟨#[]⟩), .d (di (-1)), .d (di 0), .d (ds ⟨#[]⟩), .d (ds ⟨#[]⟩), .d (di (-1)), .d (di z), .d (db lt), .row 4]), (4, .row 2 198 (l.map sbD))], 5⟩) (fun y => L.length - y.1)
    (fun ⟨i, l, n⟩ => SOk L c ⟨i, xs, ts⟩ ∧ L.length < i + n ∧ l.length ≤ i ∧ (headN L n l >>= fun l => takeM L t_rcur >>= fun _ => pure (⟨[], -1, 0, [], [], -1, z, lt, l⟩ : IT)) ⟨i, xs, ts⟩ = T) (i + 1 + 1 + 1, [], L.length - (i + 1 + 1 + 1) + 1) ⟨hs3.less (by omega), by omega, Nat.zero_le _, hT⟩ (SLe.trans sS (SLe.ownCell 3 8 4 2 198 rfl rfl rfl rfl rfl rfl)) ?_
   clear hT hs3 hs2 hs1 ha hq hs
   rintro ⟨i, l, n⟩ ⟨hs, hf, hll, hT⟩
   have hi := hs.lt
   have hnm := named_c (m := m) i hi
   cases n with
   | zero => omega
   | succ n =>
    have hbody : (l = [] ∨ namedV L i = true) → (subsN L (n + 1) l >>= fun l => takeM L t_rcur >>= fun _ => pure (⟨[], -1, 0, [], [], -1, z, lt, l⟩ : IT)) ⟨i, xs, ts⟩ = T := fun h => by
     unfold headN at hT
     by_cases hl : l = []
     ·rwa [if_pos hl] at hT
     ·rw [if_neg hl] at hT
      exact atyB hT (h.resolve_left hl)
    by_cases hgo : l = [] ∨ namedV L i = true
    ·replace hT := hbody hgo
     rw [subsN] at hT
     replace hT := asc hT
     by_cases hl : l = []
     ·subst hl
      repeat' (first | refine ex_is (α := Nat) 0 rfl ?_ | refine qg1 ?_ | refine eD ?_ ?_ <;> intro)
      rcases hnv : namedV L i with _ | _ <;> rw [hnv] at hnm
      ·replace hT := asc (rmF hT hnv)
       refine sC (CallsM.ren (hnm) [0, 1] 5 rfl rfl rfl rfl) ?_
       repeat' (first | refine qgs ?_ | refine eD ?_ ?_ <;> intro)
       have hcon := name_c (m := m) ⟨i, xs, ts⟩ hs.i (by omega)
       rcases hx79 : (nameM L) ⟨i, xs, ts⟩ with ⟨w, s9⟩ | ⟨i9, e9⟩
       rotate_left
       ·obtain rfl := (and_err hx79).symm.trans hT
        refine sC (CallsM.ren (hcon.err hx79) [0, 1] 5 rfl rfl rfl rfl) ?_
        first | exact ⟨⟨_, rfl, rfl⟩, rfl, rfl⟩ | exact ⟨by kernel_rfl, ⟨_, rfl, rfl⟩, rfl, rfl⟩
       replace hT := (and_ok hx79).symm.trans hT
       refine sC (CallsM.ren (hcon.ok hx79) [0, 1] 5 rfl rfl rfl rfl) ?_
       clear hcon
       have hs1 := (Up.ok (Up.name hL 0) hs hx79).1
       obtain rfl := mv_name1 hx79
       replace hT := asc hT
       repeat' (first | refine qgs ?_ | refine eD ?_ ?_ <;> intro)
       have hcon := take_c (m := m) ⟨i + 1, xs, ts⟩ hs1.i (by omega) t_colon
       rcases hx82 : (takeM L t_colon) ⟨i + 1, xs, ts⟩ with ⟨_, s9⟩ | ⟨i9, e9⟩
       rotate_left
       ·obtain rfl := (and_err hx82).symm.trans hT
        refine sC (CallsM.ren (hcon.err hx82) [0, 1] 5 rfl rfl rfl rfl) ?_
        first | exact ⟨⟨_, rfl, rfl⟩, rfl, rfl⟩ | exact ⟨by kernel_rfl, ⟨_, rfl, rfl⟩, rfl, rfl⟩
       replace hT := (and_ok hx82).symm.trans hT
       refine sC (CallsM.ren (hcon.ok hx82) [0, 1] 5 rfl rfl rfl rfl) ?_
       clear hcon
       have hs2 := (Up.ok (Up.take hL t_colon 0) hs1 hx82).1
       obtain rfl := mv_take1 hx82
       replace hT := asc hT
       repeat' (first | refine qgs ?_ | refine eD ?_ ?_ <;> intro)
       have hcon := num_c (m := m) ⟨i + 1 + 1, xs, ts⟩ hs2.i (by omega)
       rcases hx85 : (numberM L) ⟨i + 1 + 1, xs, ts⟩ with ⟨b, s9⟩ | ⟨i9, e9⟩
       rotate_left
       ·obtain rfl := (and_err hx85).symm.trans hT
        refine sC (CallsM.ren (hcon.err hx85) [0, 1] 5 rfl rfl rfl rfl) ?_
        first | exact ⟨⟨_, rfl, rfl⟩, rfl, rfl⟩ | exact ⟨by kernel_rfl, ⟨_, rfl, rfl⟩, rfl, rfl⟩
       replace hT := (and_ok hx85).symm.trans hT
       refine sC (CallsM.ren (hcon.ok hx85) [0, 1] 5 rfl rfl rfl rfl) ?_
       clear hcon
       have hs3 := (Up.ok (Up.number hL 0) hs2 hx85).1
       obtain rfl := mv_num1 hx85
       replace hT := asc hT
       repeat' (first | refine qgs ?_ | refine eD ?_ ?_ <;> intro)
       have hcon := take_c (m := m) ⟨i + 1 + 1 + 1, xs, ts⟩ hs3.i (by omega) t_semi
       rcases hx88 : (takeM L t_semi) ⟨i + 1 + 1 + 1, xs, ts⟩ with ⟨_, s9⟩ | ⟨i9, e9⟩
       rotate_left
       ·obtain rfl := (and_err hx88).symm.trans hT
        refine sC (CallsM.ren (hcon.err hx88) [0, 1] 5 rfl rfl rfl rfl) ?_
        first | exact ⟨⟨_, rfl, rfl⟩, rfl, rfl⟩ | exact ⟨by kernel_rfl, ⟨_, rfl, rfl⟩, rfl, rfl⟩
       replace hT := (and_ok hx88).symm.trans hT
       refine sC (CallsM.ren (hcon.ok hx88) [0, 1] 5 rfl rfl rfl rfl) ?_
       clear hcon
       have hs4 := (Up.ok (Up.take hL t_semi 0) hs3 hx88).1
       obtain rfl := mv_take1 hx88
       have hi4 := hs4.lt
       have hmin : (if (1048576 : Int) < (b : Int) then 1048576 else (b : Int)) = ((min b 1048576 : Nat) : Int) := by split <;> omega
       repeat' (first | refine aI ((min b 1048576 : Nat) : Int) ?_ | refine aU ((min b 1048576 : Nat) : Int) ?_ | refine aB ((min b 1048576 : Nat) : Int) ?_ | refine ex_is ((min b 1048576 : Nat) : Int) hmin ?_ | refine qg1 ?_ | refine eD ?_ ?_ <;> intro)
       refine ex_app (0) (1) 1000 (by first | rfl | (simp; done) | (simp; omega)) (by first | rfl | (simp; done) | (simp; omega)) rfl (by omega) ?_
       refine ex_is (List.map sbD ([] ++ [(⟨w, min b 1048576⟩ : SB)])) (by rw [List.map_append]; rfl) ?_
       repeat' (first | refine qgs ?_ | refine eD ?_ ?_ <;> intro)
       exact ex_round (i + 1 + 1 + 1 + 1, [] ++ [(⟨w, min b 1048576⟩ : SB)], n) ⟨hs4.less (by omega), by omega, by simp <;> omega, by unfold headN; rw [if_neg (by simp)]; exact hT⟩ (by show L.length - (i + 1 + 1 + 1 + 1) < L.length - i; omega) (sR [(0, 0), (2, 2), (3, 3), (6, 4), (1, 1)])
      ·replace hT := rmT hT hnv
       refine sC (CallsM.ren (hnm) [0, 1] 5 rfl rfl rfl rfl) ?_
       repeat' (first | refine ex_is (α := Nat) 0 rfl ?_ | refine qg1 ?_ | refine eD ?_ ?_ <;> intro)
       have hcon := room_c (m := m) ⟨i, xs, ts⟩ hi 0 (by omega)
       rcases hr : (roomM 0) ⟨i, xs, ts⟩ with ⟨_, s9⟩ | ⟨i9, e9⟩
       rotate_left
       ·obtain rfl := (and_err hr).symm.trans hT
        refine sC (CallsM.ren (hcon.err hr) [0, 1] 5 rfl rfl rfl rfl) ?_
        first | exact ⟨⟨_, rfl, rfl⟩, rfl, rfl⟩ | exact ⟨by kernel_rfl, ⟨_, rfl, rfl⟩, rfl, rfl⟩
       replace hT := (and_ok hr).symm.trans hT
       refine sC (CallsM.ren (hcon.ok hr) [0, 1] 5 rfl rfl rfl rfl) ?_
       clear hcon
       obtain rfl := mv_room1 hr
       replace hT := asc hT
       repeat' (first | refine qgs ?_ | refine eD ?_ ?_ <;> intro)
       have hcon := name_c (m := m) ⟨i, xs, ts⟩ hs.i (by omega)
       rcases hx102 : (nameM L) ⟨i, xs, ts⟩ with ⟨w, s9⟩ | ⟨i9, e9⟩
       rotate_left
       ·obtain rfl := (and_err hx102).symm.trans hT
        refine sC (CallsM.ren (hcon.err hx102) [0, 1] 5 rfl rfl rfl rfl) ?_
        first | exact ⟨⟨_, rfl, rfl⟩, rfl, rfl⟩ | exact ⟨by kernel_rfl, ⟨_, rfl, rfl⟩, rfl, rfl⟩
       replace hT := (and_ok hx102).symm.trans hT
       refine sC (CallsM.ren (hcon.ok hx102) [0, 1] 5 rfl rfl rfl rfl) ?_
       clear hcon
       have hs1 := (Up.ok (Up.name hL 0) hs hx102).1
       obtain rfl := mv_name1 hx102
       replace hT := asc hT
       repeat' (first | refine qgs ?_ | refine eD ?_ ?_ <;> intro)
       have hcon := take_c (m := m) ⟨i + 1, xs, ts⟩ hs1.i (by omega) t_colon
       rcases hx105 : (takeM L t_colon) ⟨i + 1, xs, ts⟩ with ⟨_, s9⟩ | ⟨i9, e9⟩
       rotate_left
       ·obtain rfl := (and_err hx105).symm.trans hT
        refine sC (CallsM.ren (hcon.err hx105) [0, 1] 5 rfl rfl rfl rfl) ?_
        first | exact ⟨⟨_, rfl, rfl⟩, rfl, rfl⟩ | exact ⟨by kernel_rfl, ⟨_, rfl, rfl⟩, rfl, rfl⟩
       replace hT := (and_ok hx105).symm.trans hT
       refine sC (CallsM.ren (hcon.ok hx105) [0, 1] 5 rfl rfl rfl rfl) ?_
       clear hcon
       have hs2 := (Up.ok (Up.take hL t_colon 0) hs1 hx105).1
       obtain rfl := mv_take1 hx105
       replace hT := asc hT
       repeat' (first | refine qgs ?_ | refine eD ?_ ?_ <;> intro)
       have hcon := num_c (m := m) ⟨i + 1 + 1, xs, ts⟩ hs2.i (by omega)
       rcases hx108 : (numberM L) ⟨i + 1 + 1, xs, ts⟩ with ⟨b, s9⟩ | ⟨i9, e9⟩
       rotate_left
       ·obtain rfl := (and_err hx108).symm.trans hT
        refine sC (CallsM.ren (hcon.err hx108) [0, 1] 5 rfl rfl rfl rfl) ?_
        first | exact ⟨⟨_, rfl, rfl⟩, rfl, rfl⟩ | exact ⟨by kernel_rfl, ⟨_, rfl, rfl⟩, rfl, rfl⟩
       replace hT := (and_ok hx108).symm.trans hT
       refine sC (CallsM.ren (hcon.ok hx108) [0, 1] 5 rfl rfl rfl rfl) ?_
       clear hcon
       have hs3 := (Up.ok (Up.number hL 0) hs2 hx108).1
       obtain rfl := mv_num1 hx108
       replace hT := asc hT
       repeat' (first | refine qgs ?_ | refine eD ?_ ?_ <;> intro)
       have hcon := take_c (m := m) ⟨i + 1 + 1 + 1, xs, ts⟩ hs3.i (by omega) t_semi
       rcases hx111 : (takeM L t_semi) ⟨i + 1 + 1 + 1, xs, ts⟩ with ⟨_, s9⟩ | ⟨i9, e9⟩
       rotate_left
       ·obtain rfl := (and_err hx111).symm.trans hT
        refine sC (CallsM.ren (hcon.err hx111) [0, 1] 5 rfl rfl rfl rfl) ?_
        first | exact ⟨⟨_, rfl, rfl⟩, rfl, rfl⟩ | exact ⟨by kernel_rfl, ⟨_, rfl, rfl⟩, rfl, rfl⟩
       replace hT := (and_ok hx111).symm.trans hT
       refine sC (CallsM.ren (hcon.ok hx111) [0, 1] 5 rfl rfl rfl rfl) ?_
       clear hcon
       have hs4 := (Up.ok (Up.take hL t_semi 0) hs3 hx111).1
       obtain rfl := mv_take1 hx111
       have hi4 := hs4.lt
       have hmin : (if (1048576 : Int) < (b : Int) then 1048576 else (b : Int)) = ((min b 1048576 : Nat) : Int) := by split <;> omega
       repeat' (first | refine aI ((min b 1048576 : Nat) : Int) ?_ | refine aU ((min b 1048576 : Nat) : Int) ?_ | refine aB ((min b 1048576 : Nat) : Int) ?_ | refine ex_is ((min b 1048576 : Nat) : Int) hmin ?_ | refine qg1 ?_ | refine eD ?_ ?_ <;> intro)
       refine ex_app (0) (1) 1000 (by first | rfl | (simp; done) | (simp; omega)) (by first | rfl | (simp; done) | (simp; omega)) rfl (by omega) ?_
       refine ex_is (List.map sbD ([] ++ [(⟨w, min b 1048576⟩ : SB)])) (by rw [List.map_append]; rfl) ?_
       repeat' (first | refine qgs ?_ | refine eD ?_ ?_ <;> intro)
       exact ex_round (i + 1 + 1 + 1 + 1, [] ++ [(⟨w, min b 1048576⟩ : SB)], n) ⟨hs4.less (by omega), by omega, by simp <;> omega, by unfold headN; rw [if_neg (by simp)]; exact hT⟩ (by show L.length - (i + 1 + 1 + 1 + 1) < L.length - i; omega) (sR [(0, 0), (2, 2), (3, 3), (6, 4), (1, 1)])
     ·have hnv : namedV L i = true := hgo.resolve_left hl
      have hl0 : l.length ≠ 0 := fun e => hl (List.eq_nil_of_length_eq_zero e)
      rw [hnv] at hnm
      repeat' (first | refine ex_is l.length (by simp) ?_ | refine qg1 ?_ | refine eD ?_ ?_ <;> intro)
      refine sC (CallsM.ren (hnm) [0, 1] 5 rfl rfl rfl rfl) ?_
      repeat' (first | refine qgs ?_ | refine eD ?_ ?_ <;> intro)
      replace hT := rmT hT hnv
      refine sC (CallsM.ren (hnm) [0, 1] 5 rfl rfl rfl rfl) ?_
      repeat' (first | refine ex_is l.length (by simp) ?_ | refine qg1 ?_ | refine eD ?_ ?_ <;> intro)
      have hcon := room_c (m := m) ⟨i, xs, ts⟩ hi l.length (by omega)
      rcases hr : (roomM l.length) ⟨i, xs, ts⟩ with ⟨_, s9⟩ | ⟨i9, e9⟩
      rotate_left
      ·obtain rfl := (and_err hr).symm.trans hT
       refine sC (CallsM.ren (hcon.err hr) [0, 1] 5 rfl rfl rfl rfl) ?_
       first | exact ⟨⟨_, rfl, rfl⟩, rfl, rfl⟩ | exact ⟨by kernel_rfl, ⟨_, rfl, rfl⟩, rfl, rfl⟩
      replace hT := (and_ok hr).symm.trans hT
      refine sC (CallsM.ren (hcon.ok hr) [0, 1] 5 rfl rfl rfl rfl) ?_
      clear hcon
      obtain rfl := mv_room1 hr
      replace hT := asc hT
      repeat' (first | refine qgs ?_ | refine eD ?_ ?_ <;> intro)
      have hcon := name_c (m := m) ⟨i, xs, ts⟩ hs.i (by omega)
      rcases hx131 : (nameM L) ⟨i, xs, ts⟩ with ⟨w, s9⟩ | ⟨i9, e9⟩
      rotate_left
      ·obtain rfl := (and_err hx131).symm.trans hT
       refine sC (CallsM.ren (hcon.err hx131) [0, 1] 5 rfl rfl rfl rfl) ?_
       first | exact ⟨⟨_, rfl, rfl⟩, rfl, rfl⟩ | exact ⟨by kernel_rfl, ⟨_, rfl, rfl⟩, rfl, rfl⟩
      replace hT := (and_ok hx131).symm.trans hT
      refine sC (CallsM.ren (hcon.ok hx131) [0, 1] 5 rfl rfl rfl rfl) ?_
      clear hcon
      have hs1 := (Up.ok (Up.name hL 0) hs hx131).1
      obtain rfl := mv_name1 hx131
      replace hT := asc hT
      repeat' (first | refine qgs ?_ | refine eD ?_ ?_ <;> intro)
      have hcon := take_c (m := m) ⟨i + 1, xs, ts⟩ hs1.i (by omega) t_colon
      rcases hx134 : (takeM L t_colon) ⟨i + 1, xs, ts⟩ with ⟨_, s9⟩ | ⟨i9, e9⟩
      rotate_left
      ·obtain rfl := (and_err hx134).symm.trans hT
       refine sC (CallsM.ren (hcon.err hx134) [0, 1] 5 rfl rfl rfl rfl) ?_
       first | exact ⟨⟨_, rfl, rfl⟩, rfl, rfl⟩ | exact ⟨by kernel_rfl, ⟨_, rfl, rfl⟩, rfl, rfl⟩
      replace hT := (and_ok hx134).symm.trans hT
      refine sC (CallsM.ren (hcon.ok hx134) [0, 1] 5 rfl rfl rfl rfl) ?_
      clear hcon
      have hs2 := (Up.ok (Up.take hL t_colon 0) hs1 hx134).1
      obtain rfl := mv_take1 hx134
      replace hT := asc hT
      repeat' (first | refine qgs ?_ | refine eD ?_ ?_ <;> intro)
      have hcon := num_c (m := m) ⟨i + 1 + 1, xs, ts⟩ hs2.i (by omega)
      rcases hx137 : (numberM L) ⟨i + 1 + 1, xs, ts⟩ with ⟨b, s9⟩ | ⟨i9, e9⟩
      rotate_left
      ·obtain rfl := (and_err hx137).symm.trans hT
       refine sC (CallsM.ren (hcon.err hx137) [0, 1] 5 rfl rfl rfl rfl) ?_
       first | exact ⟨⟨_, rfl, rfl⟩, rfl, rfl⟩ | exact ⟨by kernel_rfl, ⟨_, rfl, rfl⟩, rfl, rfl⟩
      replace hT := (and_ok hx137).symm.trans hT
      refine sC (CallsM.ren (hcon.ok hx137) [0, 1] 5 rfl rfl rfl rfl) ?_
      clear hcon
      have hs3 := (Up.ok (Up.number hL 0) hs2 hx137).1
      obtain rfl := mv_num1 hx137
      replace hT := asc hT
      repeat' (first | refine qgs ?_ | refine eD ?_ ?_ <;> intro)
      have hcon := take_c (m := m) ⟨i + 1 + 1 + 1, xs, ts⟩ hs3.i (by omega) t_semi
      rcases hx140 : (takeM L t_semi) ⟨i + 1 + 1 + 1, xs, ts⟩ with ⟨_, s9⟩ | ⟨i9, e9⟩
      rotate_left
      ·obtain rfl := (and_err hx140).symm.trans hT
       refine sC (CallsM.ren (hcon.err hx140) [0, 1] 5 rfl rfl rfl rfl) ?_
       first | exact ⟨⟨_, rfl, rfl⟩, rfl, rfl⟩ | exact ⟨by kernel_rfl, ⟨_, rfl, rfl⟩, rfl, rfl⟩
      replace hT := (and_ok hx140).symm.trans hT
      refine sC (CallsM.ren (hcon.ok hx140) [0, 1] 5 rfl rfl rfl rfl) ?_
      clear hcon
      have hs4 := (Up.ok (Up.take hL t_semi 0) hs3 hx140).1
      obtain rfl := mv_take1 hx140
      have hi4 := hs4.lt
      have hmin : (if (1048576 : Int) < (b : Int) then 1048576 else (b : Int)) = ((min b 1048576 : Nat) : Int) := by split <;> omega
      repeat' (first | refine aI ((min b 1048576 : Nat) : Int) ?_ | refine aU ((min b 1048576 : Nat) : Int) ?_ | refine aB ((min b 1048576 : Nat) : Int) ?_ | refine ex_is ((min b 1048576 : Nat) : Int) hmin ?_ | refine qg1 ?_ | refine eD ?_ ?_ <;> intro)
      refine ex_app (l.length) (1) 1000 (by first | rfl | (simp; done) | (simp; omega)) (by first | rfl | (simp; done) | (simp; omega)) rfl (by omega) ?_
      refine ex_is (List.map sbD (l ++ [(⟨w, min b 1048576⟩ : SB)])) (by rw [List.map_append]; rfl) ?_
      repeat' (first | refine qgs ?_ | refine eD ?_ ?_ <;> intro)
      exact ex_round (i + 1 + 1 + 1 + 1, l ++ [(⟨w, min b 1048576⟩ : SB)], n) ⟨hs4.less (by omega), by omega, by simp <;> omega, by unfold headN; rw [if_neg (by simp)]; exact hT⟩ (by show L.length - (i + 1 + 1 + 1 + 1) < L.length - i; omega) (sR [(0, 0), (2, 2), (3, 3), (6, 4), (1, 1)])
    ·have hl : l ≠ [] := fun e => hgo (.inl e)
     have hnv : namedV L i = false := by simpa using fun e => hgo (.inr e)
     rw [hnv] at hnm
     unfold headN at hT
     rw [if_neg hl] at hT
     replace hT := pureT (atnB hT hnv)
     have hl0 : l.length ≠ 0 := fun e => hl (List.eq_nil_of_length_eq_zero e)
     repeat' (first | refine ex_is l.length (by simp) ?_ | refine qg1 ?_ | refine eD ?_ ?_ <;> intro)
     refine sC (CallsM.ren (hnm) [0, 1] 5 rfl rfl rfl rfl) ?_
     repeat' (first | refine qgs ?_ | refine eD ?_ ?_ <;> intro)
     have hcon := take_c (m := m) ⟨i, xs, ts⟩ hs.i (by omega) t_rcur
     rcases hx158 : (takeM L t_rcur) ⟨i, xs, ts⟩ with ⟨_, s9⟩ | ⟨i9, e9⟩
     rotate_left
     ·obtain rfl := (and_err hx158).symm.trans hT
      refine sC (CallsM.ren (hcon.err hx158) [0, 1] 5 rfl rfl rfl rfl) ?_
      first | exact ⟨⟨_, rfl, rfl⟩, rfl, rfl⟩ | exact ⟨by kernel_rfl, ⟨_, rfl, rfl⟩, rfl, rfl⟩
     replace hT := (and_ok hx158).symm.trans hT
     refine sC (CallsM.ren (hcon.ok hx158) [0, 1] 5 rfl rfl rfl rfl) ?_
     clear hcon
     have hs1 := (Up.ok (Up.take hL t_rcur 0) hs hx158).1
     obtain rfl := mv_take1 hx158
     obtain rfl : PR.ok (⟨[], -1, 0, [], [], -1, z, lt, l⟩ : IT) ⟨i + 1, xs, ts⟩ = T := hT
     repeat' (first | refine qgs ?_ | refine eD ?_ ?_ <;> intro)
     exact ⟨rfl, TLe.rfl, rfl, rfl⟩
  ·rw [if_neg hk] at hT
   obtain rfl : PR.err (i + 1) 4 = T := hT
   repeat' (first | refine ex_call hq ?_ | refine qg1 ?_ | refine eD ?_ ?_ <;> intro)
   refine sC (CallsM.ren (ha) [0, 1] 4 rfl rfl rfl rfl) ?_
   repeat' (first | refine qgs ?_ | refine eD ?_ ?_ <;> intro)
   refine sC (CallsM.ren ((fail_c (m := m) (i + 1) 4 hs1.lt)) [0, 1] 4 rfl rfl rfl rfl) ?_
   exact ⟨⟨_, rfl, rfl⟩, rfl, rfl⟩
end
end Go.Proofs.YtoingpafcodojaaGreatDoor

namespace Go.Proofs.YtoingpafcodojaaGreatDoor
open Go.RowKit

section
variable {L : List TokP} {m : Nat}
def Mv {α : Type} (x : PM α) : Prop := ∀ s v s', x s = .ok v s' → s.xs = s'.xs ∧ s.ts = s'.ts
theorem Mv.and {α β : Type} {x : PM α} {f : α → PM β} (hx : Mv x) (hf : ∀ v, Mv (f v)) : Mv (x >>= f) := fun s v s' h => by
 obtain ⟨u, s1, h1, h2⟩ := mo_inv h
 exact ⟨(hx _ _ _ h1).1.trans (hf u _ _ _ h2).1, (hx _ _ _ h1).2.trans (hf u _ _ _ h2).2⟩
theorem Mv.at {α : Type} {p : Nat → Bool} {x y : PM α} (hx : Mv x) (hy : Mv y) : Mv (atM p x y) := fun s v s' h => by
 unfold atM at h
 split at h
 ·exact hx _ _ _ h
 ·exact hy _ _ _ h
theorem Mv.pure {α : Type} (v : α) : Mv (pure v) := fun s u s' h => by cases h; exact ⟨rfl, rfl⟩
theorem Mv.step : Mv stepM := fun s u s' h => by cases h; exact ⟨rfl, rfl⟩
theorem Mv.take (t : List UInt8) : Mv (takeM L t) := fun s v s' h => by unfold takeM at h; split at h <;> cases h; exact ⟨rfl, rfl⟩
theorem Mv.name : Mv (nameM L) := fun s v s' h => by unfold nameM at h; split at h <;> cases h; exact ⟨rfl, rfl⟩
theorem Mv.num : Mv (numberM L) := fun s v s' h => by unfold numberM at h; split at h <;> cases h; exact ⟨rfl, rfl⟩
theorem Mv.roomIf (p : Nat → Bool) (n : Nat) : Mv (fun s => if p s.i = true then roomM n s else .ok () s) := fun s u s' h => by
 dsimp only at h
 split at h
 ·unfold roomM at h; split at h <;> cases h; exact ⟨rfl, rfl⟩
 ·cases h; exact ⟨rfl, rfl⟩
theorem mvs_subs : ∀ n l, Mv (subsN L n l)
 | 0, l => Mv.pure _
 | n + 1, l => by
  rw [subsN]
  exact (Mv.roomIf (namedV L ·) _).and fun _ => Mv.name.and fun w => (Mv.take _).and fun _ => Mv.num.and fun b => (Mv.take _).and fun _ => Mv.at (mvs_subs n _) (Mv.pure _)
theorem mvs_pack : Mv (packM L) := (Mv.take _).and fun _ => fun s v s' h => by
 split at h
 ·cases h
 ·exact (Mv.step.and fun _ => (Mv.take _).and fun _ => (show Mv (fun s => subsN L (L.length - s.i + 1) [] s) from fun s v s' hx => mvs_subs _ _ s v s' hx).and fun l => (Mv.take _).and fun _ => Mv.pure _) _ _ _ h
theorem mv_pack {i i1 : Nat} {xs xs1 : List EX} {ts ts1 : List TY} {v : IT} (h : packM L ⟨i, xs, ts⟩ = .ok v ⟨i1, xs1, ts1⟩) : xs = xs1 ∧ ts = ts1 := mvs_pack _ _ _ h
theorem mvs_const : Mv (constM L) := (Mv.take _).and fun _ => Mv.name.and fun w => (Mv.take _).and fun _ => Mv.num.and fun n => (Mv.take _).and fun _ => Mv.pure _
theorem mv_const {i i1 : Nat} {xs xs1 : List EX} {ts ts1 : List TY} {v : CO} (h : constM L ⟨i, xs, ts⟩ = .ok v ⟨i1, xs1, ts1⟩) : xs = xs1 ∧ ts = ts1 := mvs_const _ _ _ h
set_option maxHeartbeats 16000000 in
theorem record_c (hL : TokOk L) (hn : L.length ≤ 100000) (hm : m = 32) (s : PS) {c : Nat} (hs : SOk L c s) : C2 L m 41 [] (recordM L) (fun v => .o (gD (rcD v))) s := by
 refine C2.of fun T hT => ?_
 unfold recordM at hT
 obtain ⟨i, xs, ts⟩ := s
 refine fn_ruleP (C := ⟨Tryz.prog, layF, Tryz.f41.ntmps, ΓL, 6, [], [10]⟩) layF_ok mixed Tryz.func41 rfl (by kernel_rfl) rfl rfl rfl SLe.rfl ?_
 repeat' (first | refine qgs ?_ | refine eD ?_ ?_ <;> intro)
 have hcon := take_c (m := m) ⟨i, xs, ts⟩ hs.i (by omega) w_struct
 rcases hx47 : (takeM L w_struct) ⟨i, xs, ts⟩ with ⟨_, s9⟩ | ⟨i9, e9⟩
 rotate_left
 ·obtain rfl := (and_err hx47).symm.trans hT
  refine sC (CallsM.ren (hcon.err hx47) [0, 1] 7 rfl rfl rfl rfl) ?_
  first | exact ⟨⟨_, rfl, rfl⟩, rfl, rfl⟩ | exact ⟨by kernel_rfl, ⟨_, rfl, rfl⟩, rfl, rfl⟩
 replace hT := (and_ok hx47).symm.trans hT
 refine sC (CallsM.ren (hcon.ok hx47) [0, 1] 7 rfl rfl rfl rfl) ?_
 clear hcon
 have hs1 := (Up.ok (Up.take hL w_struct 0) hs hx47).1
 obtain rfl := mv_take1 hx47
 repeat' (first | refine qgs ?_ | refine eD ?_ ?_ <;> intro)
 have hcon := name_c (m := m) ⟨i + 1, xs, ts⟩ hs1.i (by omega)
 rcases hx49 : (nameM L) ⟨i + 1, xs, ts⟩ with ⟨w, s9⟩ | ⟨i9, e9⟩
 rotate_left
 ·obtain rfl := (and_err hx49).symm.trans hT
  refine sC (CallsM.ren (hcon.err hx49) [0, 1] 7 rfl rfl rfl rfl) ?_
  first | exact ⟨⟨_, rfl, rfl⟩, rfl, rfl⟩ | exact ⟨by kernel_rfl, ⟨_, rfl, rfl⟩, rfl, rfl⟩
 replace hT := (and_ok hx49).symm.trans hT
 refine sC (CallsM.ren (hcon.ok hx49) [0, 1] 7 rfl rfl rfl rfl) ?_
 clear hcon
 have hs2 := (Up.ok (Up.name hL 0) hs1 hx49).1
 obtain rfl := mv_name1 hx49
 repeat' (first | refine qgs ?_ | refine eD ?_ ?_ <;> intro)
 refine ex_join (X := Nat × List (List UInt8)) (fun ⟨i, ps⟩ => ⟨[(0, .o P0), (2, .o (.c (.ptr 6 0))), (3, .o (.c (.ptr 7 0)))], [(0, Qz L m i), (1, Fz 2 3 4 5), (4, Xz xs), (5, Tz ts), (6, .obj [.d (ds ⟨#[]⟩), .d dnil, .d dnil]), (7, .obj [.d (ds (bs w)), .row 9, .d dnil]), (9, .row 1 9 (ps.map fun p => [ds (bs p)]))], 10⟩)
  (fun ⟨i, ps⟩ => SOk L c ⟨i, xs, ts⟩ ∧ (takeM L t_lcur >>= fun _ => (fun s => itemsN L (L.length - s.i + 1) [] s) >>= fun is => takeM L t_rcur >>= fun _ => pure (⟨w, ps, is⟩ : RC)) ⟨i, xs, ts⟩ = T) ?_ ?_
 ·rcases hv : isV L (i + 1 + 1) t_lpar with _ | _
  ·replace hT := pureT (atnB hT hv)
   refine sC (CallsM.ren ((may_no (i + 1 + 1) hs2.lt _ hv)) [0, 1] 8 rfl rfl rfl rfl) ?_
   repeat' (first | refine qgs ?_ | refine eD ?_ ?_ <;> intro)
   exact ex_meet (i + 1 + 1, []) ⟨hs2.less (by omega), hT⟩ (SLe.trans sS (SLe.ownCell 7 1 9 1 9 rfl rfl rfl rfl rfl rfl))
  ·replace hT := asc (stp1 (asc (atyB hT hv)))
   have hs3 := stpS hL hs2 (isV_k hv)
   have hi3 := hs3.lt
   refine sC (CallsM.ren ((may_yes (i + 1 + 1) hs2.lt (by omega) _ hv)) [0, 1] 8 rfl rfl rfl rfl) ?_
   repeat' (first | refine qgs ?_ | refine eD ?_ ?_ <;> intro)
   have hcon := name_c (m := m) ⟨i + 1 + 1 + 1, xs, ts⟩ hs3.i (by omega)
   rcases hx63 : (nameM L) ⟨i + 1 + 1 + 1, xs, ts⟩ with ⟨p, s9⟩ | ⟨i9, e9⟩
   rotate_left
   ·obtain rfl := (and_err hx63).symm.trans hT
    refine sC (CallsM.ren (hcon.err hx63) [0, 1] 8 rfl rfl rfl rfl) ?_
    first | exact ⟨⟨_, rfl, rfl⟩, rfl, rfl⟩ | exact ⟨by kernel_rfl, ⟨_, rfl, rfl⟩, rfl, rfl⟩
   replace hT := (and_ok hx63).symm.trans hT
   refine sC (CallsM.ren (hcon.ok hx63) [0, 1] 8 rfl rfl rfl rfl) ?_
   clear hcon
   have hs4 := (Up.ok (Up.name hL 0) hs3 hx63).1
   obtain rfl := mv_name1 hx63
   have hi4 := hs4.lt
   repeat' (first | refine qgs ?_ | refine eD ?_ ?_ <;> intro)
   refine ex_app (0) (1) 1000 (by first | rfl | (simp; done) | (simp; omega)) (by first | rfl | (simp; done) | (simp; omega)) rfl (by omega) ?_
   refine ex_is (List.map (fun p : List UInt8 => [ds (bs p)]) [p]) (rfl) ?_
   repeat' (first | refine qgs ?_ | refine eD ?_ ?_ <;> intro)
   replace hT := asc hT
   replace hT : (parsN L (L.length - (i + 1 + 1 + 1 + 1) + 1) [p] >>= fun l => (takeM L t_rpar >>= fun _ => pure l) >>= fun ps => takeM L t_lcur >>= fun _ => (fun s => itemsN L (L.length - s.i + 1) [] s) >>= fun is => takeM L t_rcur >>= fun _ => pure (⟨w, ps, is⟩ : RC)) ⟨i + 1 + 1 + 1 + 1, xs, ts⟩ = T := hT
   refine ex_loop (X := Nat × List (List UInt8) × Nat) (fun ⟨i, ps, _⟩ => ⟨[(0, .o P0), (2, .o (.c (.ptr 6 0))), (3, .o (.c (.ptr 7 0)))], [(0, Qz L m i), (1, Fz 2 3 4 5), (4, Xz xs), (5, Tz ts), (6, .obj [.d (ds ⟨#[]⟩), .d dnil, .d dnil]), (7, .obj [.d (ds (bs w)), .row 9, .d dnil]), (9, .row 1 9 (ps.map fun p => [ds (bs p)]))], 10⟩) (fun y => L.length - y.1)
    (fun ⟨i, l, n⟩ => SOk L c ⟨i, xs, ts⟩ ∧ L.length < i + n ∧ l.length ≤ i ∧ (parsN L n l >>= fun l => (takeM L t_rpar >>= fun _ => pure l) >>= fun ps => takeM L t_lcur >>= fun _ => (fun s => itemsN L (L.length - s.i + 1) [] s) >>= fun is => takeM L t_rcur >>= fun _ => pure (⟨w, ps, is⟩ : RC)) ⟨i, xs, ts⟩ = T) (i + 1 + 1 + 1 + 1, [p], L.length - (i + 1 + 1 + 1 + 1) + 1) ⟨hs4.less (by omega), by omega, by simp, hT⟩ sS ?_
   clear hT hs4 hs3 hs2 hs1 hs hi3 hi4
   rintro ⟨i, l, n⟩ ⟨hs, hf, hll, hT⟩
   have hi := hs.lt
   cases n with
   | zero => omega
   | succ n =>
    rw [parsN] at hT
    rcases hv : isV L i t_comma with _ | _
    ·replace hT := atnB hT hv
     replace hT := pureT hT
     replace hT := asc hT
     refine sC (CallsM.ren ((may_no i hi _ hv)) [0, 1] 10 rfl rfl rfl rfl) ?_
     repeat' (first | refine qgs ?_ | refine eD ?_ ?_ <;> intro)
     have hcon := take_c (m := m) ⟨i, xs, ts⟩ hs.i (by omega) t_rpar
     rcases hx86 : (takeM L t_rpar) ⟨i, xs, ts⟩ with ⟨_, s9⟩ | ⟨i9, e9⟩
     rotate_left
     ·obtain rfl := (and_err hx86).symm.trans hT
      refine sC (CallsM.ren (hcon.err hx86) [0, 1] 10 rfl rfl rfl rfl) ?_
      first | exact ⟨⟨_, rfl, rfl⟩, rfl, rfl⟩ | exact ⟨by kernel_rfl, ⟨_, rfl, rfl⟩, rfl, rfl⟩
     replace hT := (and_ok hx86).symm.trans hT
     refine sC (CallsM.ren (hcon.ok hx86) [0, 1] 10 rfl rfl rfl rfl) ?_
     clear hcon
     have hs1 := (Up.ok (Up.take hL t_rpar 0) hs hx86).1
     obtain rfl := mv_take1 hx86
     replace hT := pureT hT
     repeat' (first | refine qgs ?_ | refine eD ?_ ?_ <;> intro)
     exact ex_meet (i + 1, l) ⟨hs1.less (by omega), hT⟩ sS
    ·replace hT := asc (stp1 (asc (atyB hT hv)))
     have hs1 := stpS hL hs (isV_k hv)
     have hnm := named_c (m := m) (i + 1) hs1.lt
     refine sC (CallsM.ren ((may_yes i hi (by omega) _ hv)) [0, 1] 10 rfl rfl rfl rfl) ?_
     repeat' (first | refine qgs ?_ | refine eD ?_ ?_ <;> intro)
     rcases hb : namedV L (i + 1) with _ | _ <;> rw [hb] at hnm
     ·replace hT := asc (rmF hT hb)
      refine sC (CallsM.ren (hnm) [0, 1] 10 rfl rfl rfl rfl) ?_
      repeat' (first | refine qgs ?_ | refine eD ?_ ?_ <;> intro)
      have hcon := name_c (m := m) ⟨i + 1, xs, ts⟩ hs1.i (by omega)
      rcases hx99 : (nameM L) ⟨i + 1, xs, ts⟩ with ⟨p, s9⟩ | ⟨i9, e9⟩
      rotate_left
      ·obtain rfl := (and_err hx99).symm.trans hT
       refine sC (CallsM.ren (hcon.err hx99) [0, 1] 10 rfl rfl rfl rfl) ?_
       first | exact ⟨⟨_, rfl, rfl⟩, rfl, rfl⟩ | exact ⟨by kernel_rfl, ⟨_, rfl, rfl⟩, rfl, rfl⟩
      replace hT := (and_ok hx99).symm.trans hT
      refine sC (CallsM.ren (hcon.ok hx99) [0, 1] 10 rfl rfl rfl rfl) ?_
      clear hcon
      have hs2 := (Up.ok (Up.name hL 0) hs1 hx99).1
      obtain rfl := mv_name1 hx99
      have hi2 := hs2.lt
      repeat' (first | refine qgs ?_ | refine eD ?_ ?_ <;> intro)
      refine ex_app (l.length) (1) 1000 (by first | rfl | (simp; done) | (simp; omega)) (by first | rfl | (simp; done) | (simp; omega)) rfl (by omega) ?_
      refine ex_is (List.map (fun p : List UInt8 => [ds (bs p)]) (l ++ [p])) (by rw [List.map_append]; rfl) ?_
      repeat' (first | refine qgs ?_ | refine eD ?_ ?_ <;> intro)
      exact ex_round (i + 1 + 1, l ++ [p], n) ⟨hs2.less (by omega), by omega, by simp <;> omega, hT⟩ (by show L.length - (i + 1 + 1) < L.length - i; omega) (sR [(0, 0), (1, 1), (2, 2), (3, 3), (4, 4), (5, 5), (6, 6), (7, 7), (11, 9)])
     ·replace hT := rmT hT hb
      refine sC (CallsM.ren (hnm) [0, 1] 10 rfl rfl rfl rfl) ?_
      repeat' (first | refine ex_is l.length (by simp) ?_ | refine qg1 ?_ | refine eD ?_ ?_ <;> intro)
      have hcon := room_c (m := m) ⟨i + 1, xs, ts⟩ hs1.lt l.length (by omega)
      rcases hr : (roomM l.length) ⟨i + 1, xs, ts⟩ with ⟨_, s9⟩ | ⟨i9, e9⟩
      rotate_left
      ·obtain rfl := (and_err hr).symm.trans hT
       refine sC (CallsM.ren (hcon.err hr) [0, 1] 10 rfl rfl rfl rfl) ?_
       first | exact ⟨⟨_, rfl, rfl⟩, rfl, rfl⟩ | exact ⟨by kernel_rfl, ⟨_, rfl, rfl⟩, rfl, rfl⟩
      replace hT := (and_ok hr).symm.trans hT
      refine sC (CallsM.ren (hcon.ok hr) [0, 1] 10 rfl rfl rfl rfl) ?_
      clear hcon
      obtain rfl := mv_room1 hr
      replace hT := asc hT
      repeat' (first | refine qgs ?_ | refine eD ?_ ?_ <;> intro)
      have hcon := name_c (m := m) ⟨i + 1, xs, ts⟩ hs1.i (by omega)
      rcases hx112 : (nameM L) ⟨i + 1, xs, ts⟩ with ⟨p, s9⟩ | ⟨i9, e9⟩
      rotate_left
      ·obtain rfl := (and_err hx112).symm.trans hT
       refine sC (CallsM.ren (hcon.err hx112) [0, 1] 10 rfl rfl rfl rfl) ?_
       first | exact ⟨⟨_, rfl, rfl⟩, rfl, rfl⟩ | exact ⟨by kernel_rfl, ⟨_, rfl, rfl⟩, rfl, rfl⟩
      replace hT := (and_ok hx112).symm.trans hT
      refine sC (CallsM.ren (hcon.ok hx112) [0, 1] 10 rfl rfl rfl rfl) ?_
      clear hcon
      have hs2 := (Up.ok (Up.name hL 0) hs1 hx112).1
      obtain rfl := mv_name1 hx112
      have hi2 := hs2.lt
      repeat' (first | refine qgs ?_ | refine eD ?_ ?_ <;> intro)
      refine ex_app (l.length) (1) 1000 (by first | rfl | (simp; done) | (simp; omega)) (by first | rfl | (simp; done) | (simp; omega)) rfl (by omega) ?_
      refine ex_is (List.map (fun p : List UInt8 => [ds (bs p)]) (l ++ [p])) (by rw [List.map_append]; rfl) ?_
      repeat' (first | refine qgs ?_ | refine eD ?_ ?_ <;> intro)
      exact ex_round (i + 1 + 1, l ++ [p], n) ⟨hs2.less (by omega), by omega, by simp <;> omega, hT⟩ (by show L.length - (i + 1 + 1) < L.length - i; omega) (sR [(0, 0), (1, 1), (2, 2), (3, 3), (4, 4), (5, 5), (6, 6), (7, 7), (11, 9)])
 ·clear hT hs2 hs1 hs
  rintro ⟨i, ps⟩ ⟨hs, hT⟩
  repeat' (first | refine qgs ?_ | refine eD ?_ ?_ <;> intro)
  have hcon := take_c (m := m) ⟨i, xs, ts⟩ hs.i (by omega) t_lcur
  rcases hx122 : (takeM L t_lcur) ⟨i, xs, ts⟩ with ⟨_, s9⟩ | ⟨i9, e9⟩
  rotate_left
  ·obtain rfl := (and_err hx122).symm.trans hT
   refine sC (CallsM.ren (hcon.err hx122) [0, 1] 10 rfl rfl rfl rfl) ?_
   first | exact ⟨⟨_, rfl, rfl⟩, rfl, rfl⟩ | exact ⟨by kernel_rfl, ⟨_, rfl, rfl⟩, rfl, rfl⟩
  replace hT := (and_ok hx122).symm.trans hT
  refine sC (CallsM.ren (hcon.ok hx122) [0, 1] 10 rfl rfl rfl rfl) ?_
  clear hcon
  have hs1 := (Up.ok (Up.take hL t_lcur 0) hs hx122).1
  obtain rfl := mv_take1 hx122
  repeat' (first | refine qgs ?_ | refine eD ?_ ?_ <;> intro)
  replace hT : (itemsN L (L.length - (i + 1) + 1) [] >>= fun is => takeM L t_rcur >>= fun _ => pure (⟨w, ps, is⟩ : RC)) ⟨i + 1, xs, ts⟩ = T := hT
  refine ex_loop (X := Nat × List EX × List TY × List IT × Nat) (fun ⟨i, xs, ts, l, _⟩ => ⟨[(0, .o P0), (2, .o (.c (.ptr 6 0))), (3, .o (.c (.ptr 7 0)))], [(5, .dead), (4, .dead), (0, Qz L m i), (1, Fz 2 3 11 12), (6, .obj [.d (ds ⟨#[]⟩), .d dnil, .d dnil]), (7, .obj [.d (ds (bs w)), .row 9, .row 10]), (9, .row 1 9 (ps.map fun p => [ds (bs p)])), (10, .row 9 177 (l.map itD)), (11, Xz xs), (12, Tz ts)], 13⟩) (fun y => L.length - y.1)
   (fun ⟨i, xs, ts, l, n⟩ => SOk L 0 ⟨i, xs, ts⟩ ∧ L.length < i + n ∧ l.length ≤ i ∧ (itemsN L n l >>= fun is => takeM L t_rcur >>= fun _ => pure (⟨w, ps, is⟩ : RC)) ⟨i, xs, ts⟩ = T) (i + 1, xs, ts, [], L.length - (i + 1) + 1) ⟨hs1.less (by omega), by omega, Nat.zero_le _, hT⟩
   (SLe.kill (nx := 13) 5 (SLe.kill (nx := 13) 4 (SLe.via (SLe.ownCell 7 2 10 9 177 rfl rfl rfl rfl rfl rfl) (sR [(0, 0), (1, 1), (2, 2), (3, 3), (6, 6), (7, 7), (9, 9), (10, 10), (4, 11), (5, 12)])))) ?_
  clear hT hs1 hs
  rintro ⟨i, xs, ts, l, n⟩ ⟨hs, hf, hll, hT⟩
  have hi := hs.lt
  have hpk := is_c (m := m) i hi w_pack
  have hnm := named_c (m := m) i hi
  cases n with
  | zero => omega
  | succ n =>
   rw [itemsN] at hT
   rcases hv : isV L i w_pack with _ | _ <;> rw [hv] at hpk
   ·rcases hv2 : namedV L i with _ | _ <;> rw [hv2] at hnm
    ·replace hT := pureT (atnB hT (by rw [hv, hv2]; rfl))
     refine sC (CallsM.ren (hpk) [0, 1] 13 rfl rfl rfl rfl) ?_
     repeat' (first | refine qgs ?_ | refine eD ?_ ?_ <;> intro)
     refine sC (CallsM.ren (hnm) [0, 1] 13 rfl rfl rfl rfl) ?_
     repeat' (first | refine qgs ?_ | refine eD ?_ ?_ <;> intro)
     have hcon := take_c (m := m) ⟨i, xs, ts⟩ hs.i (by omega) t_rcur
     rcases hx144 : (takeM L t_rcur) ⟨i, xs, ts⟩ with ⟨_, s9⟩ | ⟨i9, e9⟩
     rotate_left
     ·obtain rfl := (and_err hx144).symm.trans hT
      refine sC (CallsM.ren (hcon.err hx144) [0, 1] 13 rfl rfl rfl rfl) ?_
      first | exact ⟨⟨_, rfl, rfl⟩, rfl, rfl⟩ | exact ⟨by kernel_rfl, ⟨_, rfl, rfl⟩, rfl, rfl⟩
     replace hT := (and_ok hx144).symm.trans hT
     refine sC (CallsM.ren (hcon.ok hx144) [0, 1] 13 rfl rfl rfl rfl) ?_
     clear hcon
     have hs1 := (Up.ok (Up.take hL t_rcur 0) hs hx144).1
     obtain rfl := mv_take1 hx144
     obtain rfl : PR.ok (⟨w, ps, l⟩ : RC) ⟨i + 1, xs, ts⟩ = T := hT
     repeat' (first | refine qgs ?_ | refine eD ?_ ?_ <;> intro)
     exact ⟨rfl, TLe.rfl, rfl, rfl⟩
    ·replace hT := asc (atyB hT (by rw [hv, hv2]; rfl))
     refine sC (CallsM.ren (hpk) [0, 1] 13 rfl rfl rfl rfl) ?_
     repeat' (first | refine qgs ?_ | refine eD ?_ ?_ <;> intro)
     refine sC (CallsM.ren (hnm) [0, 1] 13 rfl rfl rfl rfl) ?_
     repeat' (first | refine ex_is l.length (by simp) ?_ | refine qg1 ?_ | refine eD ?_ ?_ <;> intro)
     have hcon := room_c (m := m) ⟨i, xs, ts⟩ hi l.length (by omega)
     rcases hr : (roomM l.length) ⟨i, xs, ts⟩ with ⟨_, s9⟩ | ⟨i9, e9⟩
     rotate_left
     ·obtain rfl := (and_err hr).symm.trans hT
      refine sC (CallsM.ren (hcon.err hr) [0, 1] 13 rfl rfl rfl rfl) ?_
      first | exact ⟨⟨_, rfl, rfl⟩, rfl, rfl⟩ | exact ⟨by kernel_rfl, ⟨_, rfl, rfl⟩, rfl, rfl⟩
     replace hT := (and_ok hr).symm.trans hT
     refine sC (CallsM.ren (hcon.ok hr) [0, 1] 13 rfl rfl rfl rfl) ?_
     clear hcon
     obtain rfl := mv_room1 hr
     replace hT := atnB (asc hT) hv
     repeat' (first | refine qgs ?_ | refine eD ?_ ?_ <;> intro)
     refine sC (CallsM.ren (hpk) [0, 1] 13 rfl rfl rfl rfl) ?_
     repeat' (first | refine qgs ?_ | refine eD ?_ ?_ <;> intro)
     have hcon := field_c hL hn hm ⟨i, xs, ts⟩ hs
     rcases hx : (fieldM L) ⟨i, xs, ts⟩ with ⟨x, ⟨i2, xs2, ts2⟩⟩ | ⟨i9, e9⟩
     rotate_left
     ·obtain rfl := (and_err hx).symm.trans hT
      refine sC (CallsM.ren (hcon.err hx) [0, 1, 2, 3, 11, 12] 13 rfl rfl rfl rfl) ?_
      first | exact ⟨⟨_, rfl, rfl⟩, rfl, rfl⟩ | exact ⟨by kernel_rfl, ⟨_, rfl, rfl⟩, rfl, rfl⟩
     replace hT := (and_ok hx).symm.trans hT
     refine sC (CallsM.ren (hcon.ok hx) [0, 1, 2, 3, 11, 12] 13 rfl rfl rfl rfl) ?_
     clear hcon
     have hs2 := (Up.ok (up_field hL) hs hx).1
     have hgo : i < i2 := mo_field _ _ _ hx
     repeat' (first | refine qgs ?_ | refine eD ?_ ?_ <;> intro)
     refine ex_app (l.length) (1) 1000 (by first | rfl | (simp; done) | (simp; omega)) (by first | rfl | (simp; done) | (simp; omega)) rfl (by omega) ?_
     refine ex_is (List.map itD (l ++ [x])) (by rw [List.map_append]; rfl) ?_
     repeat' (first | refine qgs ?_ | refine eD ?_ ?_ <;> intro)
     exact ex_round (i2, xs2, ts2, l ++ [x], n) ⟨hs2, by omega, by simp <;> omega, hT⟩ (by show L.length - i2 < L.length - i; omega) (sR [(0, 0), (1, 1), (2, 2), (3, 3), (4, 4), (5, 5), (6, 6), (7, 7), (9, 9), (13, 11), (14, 12), (16, 10)])
   ·replace hT := asc (atyB hT (by rw [hv]; rfl))
    refine sC (CallsM.ren (hpk) [0, 1] 13 rfl rfl rfl rfl) ?_
    repeat' (first | refine ex_is l.length (by simp) ?_ | refine qg1 ?_ | refine eD ?_ ?_ <;> intro)
    have hcon := room_c (m := m) ⟨i, xs, ts⟩ hi l.length (by omega)
    rcases hr : (roomM l.length) ⟨i, xs, ts⟩ with ⟨_, s9⟩ | ⟨i9, e9⟩
    rotate_left
    ·obtain rfl := (and_err hr).symm.trans hT
     refine sC (CallsM.ren (hcon.err hr) [0, 1] 13 rfl rfl rfl rfl) ?_
     first | exact ⟨⟨_, rfl, rfl⟩, rfl, rfl⟩ | exact ⟨by kernel_rfl, ⟨_, rfl, rfl⟩, rfl, rfl⟩
    replace hT := (and_ok hr).symm.trans hT
    refine sC (CallsM.ren (hcon.ok hr) [0, 1] 13 rfl rfl rfl rfl) ?_
    clear hcon
    obtain rfl := mv_room1 hr
    replace hT := atyB (asc hT) hv
    repeat' (first | refine qgs ?_ | refine eD ?_ ?_ <;> intro)
    refine sC (CallsM.ren (hpk) [0, 1] 13 rfl rfl rfl rfl) ?_
    repeat' (first | refine qgs ?_ | refine eD ?_ ?_ <;> intro)
    have hcon := pack_c (m := m) hL hn ⟨i, xs, ts⟩ hs
    rcases hx : (packM L) ⟨i, xs, ts⟩ with ⟨x, ⟨i2, xs2, ts2⟩⟩ | ⟨i9, e9⟩
    rotate_left
    ·obtain rfl := (and_err hx).symm.trans hT
     refine sC (CallsM.ren (hcon.err hx) [0, 1] 13 rfl rfl rfl rfl) ?_
     first | exact ⟨⟨_, rfl, rfl⟩, rfl, rfl⟩ | exact ⟨by kernel_rfl, ⟨_, rfl, rfl⟩, rfl, rfl⟩
    replace hT := (and_ok hx).symm.trans hT
    refine sC (CallsM.ren (hcon.ok hx) [0, 1] 13 rfl rfl rfl rfl) ?_
    clear hcon
    have hs2 := (Up.ok (up_pack hL) hs hx).1
    have hgo : i < i2 := mo_pack _ _ _ hx
    obtain ⟨rfl, rfl⟩ := mv_pack hx
    repeat' (first | refine qgs ?_ | refine eD ?_ ?_ <;> intro)
    refine ex_app (l.length) (1) 1000 (by first | rfl | (simp; done) | (simp; omega)) (by first | rfl | (simp; done) | (simp; omega)) rfl (by omega) ?_
    refine ex_is (List.map itD (l ++ [x])) (by rw [List.map_append]; rfl) ?_
    repeat' (first | refine qgs ?_ | refine eD ?_ ?_ <;> intro)
    exact ex_round (i2, xs, ts, l ++ [x], n) ⟨hs2, by omega, by simp <;> omega, hT⟩ (by show L.length - i2 < L.length - i; omega) (sR [(0, 0), (1, 1), (2, 2), (3, 3), (4, 4), (5, 5), (6, 6), (7, 7), (9, 9), (11, 11), (12, 12), (14, 10)])
end
end Go.Proofs.YtoingpafcodojaaGreatDoor

namespace Go.Proofs.YtoingpafcodojaaGreatDoor
open Go.RowKit

section
variable {P : Program} {Γ : Glob} {f : FuncId} {nx : Nat} {xs : List T1} {r : TV} {upd : List (Nat × Blk)} {new : List Blk} {a b c d e g : Nat × Blk} {m : List (Nat × Blk)}
theorem CallsM.moreW (h : CallsM P Γ f [a, b, e, g] nx xs r upd new) : CallsM P Γ f [a, b, c, d, e, g] nx xs r upd new := h.more fun p hp => by
 simp only [List.mem_cons, List.not_mem_nil, or_false] at hp ⊢; rcases hp with hp | hp | hp | hp <;> simp [hp]
end
abbrev Cz (l : List CO) : Blk := .row 2 82 (l.map coD)
abbrev Uz (l : List RC) : Blk := .row 3 146 (l.map rcD)
def PR.uW (L : List TokP) (m : Nat) : PR (List CO × List RC) → List (Nat × Blk)
 | .ok _ s => [(0, Qz L m s.i), (1, Fz 6 7 8 9), (2, .dead), (3, .dead), (4, .dead), (5, .dead)]
 | .err _ _ => [(0, .dead), (1, .dead), (2, .dead), (3, .dead), (4, .dead), (5, .dead)]
def PR.nW : PR (List CO × List RC) → List Blk
 | .ok v s => [Cz v.1, Uz v.2, Xz s.xs, Tz s.ts]
 | .err _ _ => []
theorem ex_pan {P : Program} {Γ : Glob} {f : FuncId} {m : List (Nat × Blk)} {nx : Nat} {xs : List T1} {r : TV} {upd : List (Nat × Blk)} {new : List Blk} (Q : Prop) (h : CallsM P Γ f m nx xs r upd new) {K : TV → List (Nat × Blk) → List Blk → Prop} (e : K r upd new = Q) (hq : Q) : ∃ r upd new, CallsM P Γ f m nx xs r upd new ∧ K r upd new := ⟨r, upd, new, h, e.mpr hq⟩
section
variable {L : List TokP} {m : Nat}
set_option maxHeartbeats 16000000 in
theorem whole_c (hL : TokOk L) (hn : L.length ≤ 100000) (hm : m = 32) (i n0 : Nat) (xs : List EX) (ts : List TY) (cs : List CO) (rs : List RC) (hs : SOk L 0 ⟨i, xs, ts⟩) (hf : L.length < i + n0) (hcl : cs.length ≤ i) (hrl : rs.length ≤ i) (T : PR (List CO × List RC)) (hT : wholeN L n0 cs rs ⟨i, xs, ts⟩ = T) :
  CallsM Tryz.prog ΓL 21 [(0, Qz L m i), (1, Fz 2 3 4 5), (2, Cz cs), (3, Uz rs), (4, Xz xs), (5, Tz ts)] 6 [P0] (T.tv L fun _ => .tup []) (T.uW L m) T.nW := by
 refine fn_ruleP (C := ⟨Tryz.prog, layF, Tryz.f21.ntmps, ΓL, 6, [], []⟩) layF_ok mixed Tryz.func21 rfl (by kernel_rfl) rfl rfl rfl SLe.rfl ?_
 repeat' (first | refine qgs ?_ | refine eD ?_ ?_ <;> intro)
 refine ex_loop (X := Nat × List EX × List TY × List CO × List RC × Nat) (fun ⟨i, xs, ts, cs, rs, _⟩ => ⟨[(0, .o P0)], [(5, .dead), (4, .dead), (3, .dead), (2, .dead), (0, Qz L m i), (1, Fz 6 7 8 9), (6, Cz cs), (7, Uz rs), (8, Xz xs), (9, Tz ts)], 10⟩) (fun y => L.length - y.1)
  (fun ⟨i, xs, ts, cs, rs, n⟩ => SOk L 0 ⟨i, xs, ts⟩ ∧ L.length < i + n ∧ cs.length ≤ i ∧ rs.length ≤ i ∧ wholeN L n cs rs ⟨i, xs, ts⟩ = T) (i, xs, ts, cs, rs, n0) ⟨hs, hf, hcl, hrl, hT⟩
  (SLe.kill (nx := 10) 5 (SLe.kill (nx := 10) 4 (SLe.kill (nx := 10) 3 (SLe.kill (nx := 10) 2 (sR [(0, 0), (1, 1), (2, 6), (3, 7), (4, 8), (5, 9)]))))) ?_
 clear hT hf hcl hrl hs
 rintro ⟨i, xs, ts, cs, rs, n⟩ ⟨hs, hf, hcl, hrl, hT⟩
 have hi := hs.lt
 have hic := is_c (m := m) i hi w_const
 have hir := is_c (m := m) i hi w_struct
 cases n with
 | zero => omega
 | succ n =>
  rw [wholeN] at hT
  rcases hv : isV L i w_const with _ | _ <;> rw [hv] at hic
  ·replace hT := atn hT hv
   rcases hv2 : isV L i w_struct with _ | _ <;> rw [hv2] at hir
   ·replace hT := atn hT hv2
    have ha := ahead_c (L := L) (m := m) i hi
    by_cases hk : (tk L i).k = 3
    ·obtain rfl : PR.ok (cs, rs) ⟨i, xs, ts⟩ = T := aty hT (by rw [hk]; rfl)
     generalize tk L i = u at *
     refine sC (CallsM.ren (hic) [0, 1] 10 rfl rfl rfl rfl) ?_
     repeat' (first | refine qgs ?_ | refine eD ?_ ?_ <;> intro)
     refine sC (CallsM.ren (hir) [0, 1] 10 rfl rfl rfl rfl) ?_
     repeat' (first | refine qgs ?_ | refine eD ?_ ?_ <;> intro)
     refine sC (CallsM.ren (ha) [0, 1] 10 rfl rfl rfl rfl) ?_
     repeat' (first | refine qgs ?_ | refine eD ?_ ?_ <;> intro)
     exact ⟨rfl, TLe.rfl, rfl, rfl⟩
    ·obtain rfl : PR.err i 4 = T := atn hT (by simp [hk])
     have hfl := fail_c (m := m) i 4 hi
     generalize tk L i = u at *
     refine sC (CallsM.ren (hic) [0, 1] 10 rfl rfl rfl rfl) ?_
     repeat' (first | refine qgs ?_ | refine eD ?_ ?_ <;> intro)
     refine sC (CallsM.ren (hir) [0, 1] 10 rfl rfl rfl rfl) ?_
     repeat' (first | refine qgs ?_ | refine eD ?_ ?_ <;> intro)
     refine sC (CallsM.ren (ha) [0, 1] 10 rfl rfl rfl rfl) ?_
     repeat' (first | refine qgs ?_ | refine eD ?_ ?_ <;> intro)
     refine sC (CallsM.ren ((fail_c (m := m) i 4 hi)) [0, 1] 10 rfl rfl rfl rfl) ?_
     exact ⟨⟨_, rfl, rfl⟩, rfl, rfl⟩
   ·replace hT := aty hT hv2
    refine sC (CallsM.ren (hic) [0, 1] 10 rfl rfl rfl rfl) ?_
    repeat' (first | refine qgs ?_ | refine eD ?_ ?_ <;> intro)
    refine sC (CallsM.ren (hir) [0, 1] 10 rfl rfl rfl rfl) ?_
    repeat' (first | refine ex_is rs.length (by simp) ?_ | refine qg1 ?_ | refine eD ?_ ?_ <;> intro)
    have hcon := room_c (m := m) ⟨i, xs, ts⟩ hi rs.length (by omega)
    rcases hr : (roomM rs.length) ⟨i, xs, ts⟩ with ⟨_, s9⟩ | ⟨i9, e9⟩
    rotate_left
    ·obtain rfl := (and_err hr).symm.trans hT
     refine sC (CallsM.ren (hcon.err hr) [0, 1] 10 rfl rfl rfl rfl) ?_
     first | exact ⟨⟨_, rfl, rfl⟩, rfl, rfl⟩ | exact ⟨by kernel_rfl, ⟨_, rfl, rfl⟩, rfl, rfl⟩
    replace hT := (and_ok hr).symm.trans hT
    refine sC (CallsM.ren (hcon.ok hr) [0, 1] 10 rfl rfl rfl rfl) ?_
    clear hcon
    obtain rfl := mv_room1 hr
    repeat' (first | refine qgs ?_ | refine eD ?_ ?_ <;> intro)
    have hcon := record_c (m := m) hL hn hm ⟨i, xs, ts⟩ hs
    rcases hx : recordM L ⟨i, xs, ts⟩ with ⟨r, ⟨i2, xs2, ts2⟩⟩ | ⟨i9, e9⟩
    ·replace hT := (and_ok hx).symm.trans hT
     have hs2 := (Up.ok (up_record hL) hs hx).1
     have hgo : i < i2 := mo_record _ _ _ hx
     refine ex_callM (CallsM.moreW (CallsM.ren (hcon.ok hx) [0, 1, 6, 7, 8, 9] 10 rfl rfl rfl rfl)) ?_
     repeat' (first | refine qgs ?_ | refine eD ?_ ?_ <;> intro)
     refine ex_app (rs.length) (1) 1000 (by first | rfl | (simp; done) | (simp; omega)) (by first | rfl | (simp; done) | (simp; omega)) rfl (by omega) ?_
     refine ex_is (List.map rcD (rs ++ [r])) (by rw [List.map_append]; rfl) ?_
     repeat' (first | refine qgs ?_ | refine eD ?_ ?_ <;> intro)
     exact ex_round (i2, xs2, ts2, cs, rs ++ [r], n) ⟨hs2, by omega, by omega, by simp <;> omega, hT⟩ (by show L.length - i2 < L.length - i; omega) (sR [(0, 0), (1, 1), (2, 2), (3, 3), (4, 4), (5, 5), (6, 6), (13, 7), (10, 8), (11, 9)])
    ·obtain rfl := (and_err hx).symm.trans hT
     exact ex_pan ((true = true) ∧ panIs (.pan (flt L i9 e9)) (panE (flt L i9 e9)) ∧ (PR.uW L m (.err i9 e9)) = deadM [0, 1, 2, 3, 4, 5] ∧ ([] : List Blk) = []) (CallsM.moreW (CallsM.ren (hcon.err hx) [0, 1, 6, 7, 8, 9] 10 rfl rfl rfl rfl)) (by kernel_rfl) ⟨rfl, ⟨_, rfl, rfl⟩, rfl, rfl⟩
  ·replace hT := aty hT hv
   refine sC (CallsM.ren (hic) [0, 1] 10 rfl rfl rfl rfl) ?_
   repeat' (first | refine ex_is cs.length (by simp) ?_ | refine qg1 ?_ | refine eD ?_ ?_ <;> intro)
   have hcon := room_c (m := m) ⟨i, xs, ts⟩ hi cs.length (by omega)
   rcases hr : (roomM cs.length) ⟨i, xs, ts⟩ with ⟨_, s9⟩ | ⟨i9, e9⟩
   rotate_left
   ·obtain rfl := (and_err hr).symm.trans hT
    refine sC (CallsM.ren (hcon.err hr) [0, 1] 10 rfl rfl rfl rfl) ?_
    first | exact ⟨⟨_, rfl, rfl⟩, rfl, rfl⟩ | exact ⟨by kernel_rfl, ⟨_, rfl, rfl⟩, rfl, rfl⟩
   replace hT := (and_ok hr).symm.trans hT
   refine sC (CallsM.ren (hcon.ok hr) [0, 1] 10 rfl rfl rfl rfl) ?_
   clear hcon
   obtain rfl := mv_room1 hr
   repeat' (first | refine qgs ?_ | refine eD ?_ ?_ <;> intro)
   have hcon := const_c (m := m) hL hn ⟨i, xs, ts⟩ hs
   rcases hx : constM L ⟨i, xs, ts⟩ with ⟨c, ⟨i2, xs2, ts2⟩⟩ | ⟨i9, e9⟩
   rotate_left
   ·obtain rfl := (and_err hx).symm.trans hT
    exact ex_pan ((true = true) ∧ panIs (.pan (flt L i9 e9)) (panE (flt L i9 e9)) ∧ (PR.uW L m (.err i9 e9)) = deadM [0, 1, 2, 3, 4, 5] ∧ ([] : List Blk) = []) (CallsM.more0 (CallsM.ren (hcon.err hx) [0, 1] 10 rfl rfl rfl rfl)) (by kernel_rfl) ⟨rfl, ⟨_, rfl, rfl⟩, rfl, rfl⟩
   replace hT := (and_ok hx).symm.trans hT
   refine ex_callM (CallsM.more0 (CallsM.ren (hcon.ok hx) [0, 1] 10 rfl rfl rfl rfl)) ?_
   have hs2 := (Up.ok (up_const hL) hs hx).1
   obtain ⟨rfl, rfl⟩ := mv_const hx
   have hgo : i < i2 := mo_const _ _ _ hx
   repeat' (first | refine qgs ?_ | refine eD ?_ ?_ <;> intro)
   refine ex_app (cs.length) (1) 1000 (by first | rfl | (simp; done) | (simp; omega)) (by first | rfl | (simp; done) | (simp; omega)) rfl (by omega) ?_
   refine ex_is (List.map coD (cs ++ [c])) (by rw [List.map_append]; rfl) ?_
   repeat' (first | refine qgs ?_ | refine eD ?_ ?_ <;> intro)
   exact ex_round (i2, xs, ts, cs ++ [c], rs, n) ⟨hs2, by omega, by simp <;> omega, by omega, hT⟩ (by show L.length - i2 < L.length - i; omega) (sR [(0, 0), (1, 1), (2, 2), (3, 3), (4, 4), (5, 5), (11, 6), (7, 7), (8, 8), (9, 9)])
end
end Go.Proofs.YtoingpafcodojaaGreatDoor

namespace Go.Proofs.YtoingpafcodojaaGreatDoor
open Go.RowKit

theorem lexN_len : ∀ (n : Nat) (r : List UInt8) (l c : Nat) (ts : List TokP), r.length < n → lexN n r l c = .ok ts → ts.length ≤ r.length + 1 := by
 intro n
 induction n with
 | zero => intro r l c ts h; omega
 | succ n ih =>
  intro r l c ts hlen h
  rw [lexN] at h
  rcases hs : stp r l c with _ | ⟨r', l', c'⟩ | ⟨k, t, v⟩ | e <;> rw [hs] at h <;> dsimp only at h
  ·cases h; simp
  ·have := stp_go hs
   have := ih r' l' c' ts (by omega) h
   omega
  ·have ht := stp_tok hs
   obtain ⟨⟨X, rfl⟩, h2, h3, -⟩ := tokF_ok ht
   have h4 : 0 < t.length := List.length_pos_iff.2 h2
   rw [List.drop_left] at h
   rw [List.length_append] at hlen ⊢
   rcases hr : lexN n X l (c + t.length) with ts' | _
   ·rw [hr] at h
    have h' : [⟨k, t, v, l, c⟩] ++ ts' = ts := by injection h
    have := ih X l (c + t.length) ts' (by omega) hr
    rw [← h']
    simp
    omega
   ·rw [hr] at h; cases h
  ·cases h
theorem lexV_ok {s : List UInt8} {L : List TokP} (h : lexV s = .ok L) : TokOk L ∧ L.length ≤ 100000 := by
 unfold lexV at h
 split at h
 ·rename_i hs
  have hlen := lexN_len _ s 1 1 L (Nat.lt_succ_self _) h
  obtain ⟨us, l', c', rfl, _⟩ := lexF_good h
  refine ⟨⟨by simp, fun i hi => ?_⟩, by omega⟩
  simp only [List.length_append, List.length_cons, List.length_nil] at hi
  have : i = us.length := by omega
  unfold tk
  rw [this, List.getD_eq_getElem?_getD, List.getElem?_append_right (Nat.le_refl _)]
  simp
 ·cases h
theorem stp_err {r : List UInt8} {l c e : Nat} (h : stp r l c = .err e) : tokF r = .err e := by
 unfold stp at h
 split at h
 ·cases h
 ·split at h
  ·cases h
  ·split at h
   ·cases h
   ·split at h
    ·cases h
    ·revert h
     unfold TR.stp
     split <;> intro h <;> cases h
     assumption
theorem lexN_err : ∀ (n : Nat) (r : List UInt8) (l c l' c' e : Nat), r.length < n → lexN n r l c = .err l' c' e → 4 ≤ e ∧ e ≤ 7 := by
 intro n
 induction n with
 | zero => intro r l c l' c' e h; omega
 | succ n ih =>
  intro r l c l' c' e hlen h
  rw [lexN] at h
  rcases hs : stp r l c with _ | ⟨r', l1, c1⟩ | ⟨k, t, v⟩ | e1 <;> rw [hs] at h <;> dsimp only at h
  ·cases h
  ·have := stp_go hs
   exact ih r' l1 c1 l' c' e (by omega) h
  ·have ht := stp_tok hs
   obtain ⟨⟨X, rfl⟩, h2, h3, -⟩ := tokF_ok ht
   have h4 : 0 < t.length := List.length_pos_iff.2 h2
   rw [List.drop_left] at h
   rw [List.length_append] at hlen
   rcases hr : lexN n X l (c + t.length) with ts' | ⟨l2, c2, e2⟩
   ·rw [hr] at h; cases h
   ·rw [hr] at h
    cases h
    exact ih X l _ _ _ _ (by omega) hr
  ·cases h
   exact tokF_err (stp_err hs)
theorem lexV_err {s : List UInt8} {l c e : Nat} (h : lexV s = .err l c e) : 4 ≤ e ∧ e ≤ 7 := by
 unfold lexV at h
 split at h
 ·exact lexN_err _ s 1 1 l c e (Nat.lt_succ_self _) h
 ·cases h; decide
def fileD (cs : List CO) (rs : List RC) (xs : List EX) (ts : List TY) : List D := [.sl 2 (cs.map coD), .sl 3 (rs.map rcD), .sl 5 (xs.map exD), .sl 8 (ts.map tyD)]
abbrev dnp : D := .v (.pointer none)
def parT : FR → TV
 | .ok cs rs xs ts => .tup [.c (.eptr (fileD cs rs xs ts)), gD [di 0, di 0], c1 (di 0)]
 | .err l c e => .tup [c1 dnp, gD [di l, di c], c1 (di e)]
theorem nil_eq (w : World) : (binOp BinOp.eql 20 .nilIface .nilIface).run Tryz.prog w = .ok (.bool true) w := by kernel_rfl
theorem iface_eq (t : TypeId) (v : Value) (w : World) : (binOp BinOp.eql 20 (.iface t v) .nilIface).run Tryz.prog w = .ok (.bool false) w := by rfl
theorem catch_idle (x y z : Value) (w : World) :
  CallsD Tryz.prog 20 #[x, y, z] .returning w fun e u' w' => e = .returned (.tuple #[]) ∧ u' = .returning ∧ w' = w := by
 refine callsD_of_wpS Tryz.func20 rfl fun c₀ cs hu => ?_
 apply wpS_seq
 apply wpS_region
 simp [wpOpsS, go_sem, recoverD, hu, Tryz.ntmps20, Exit.thenS]
 refine wpS_of_wp ?_
 refine wp_block ?_
 apply wp_seq
 apply wp_region
 simp [wpOps, go_sem, nil_eq, Exit.then]
 repeat apply Or.inl
 refine Go.wp_cond_true ?hc ?h
 ·simp [Act.eval]
 apply wp_region
 simp [wpOps, go_sem, Exit.inBlock]
 repeat apply Or.inl
 cases c₀
 simp_all [bodyPostS, results, Tryz.results20, Exit.thenS]
theorem assert_ok (v : Value) (w : World) : (Instr.typeAssert (.iface 89 v) 20 89 true).run Tryz.prog w = .ok (.tuple #[v, .bool true]) w := by
 simp [Instr.typeAssert, run_underlying, Tryz.underlying89]
abbrev pv (l c e : Nat) (r : Bool) : List PanicEntry := [{ v := fltV l c e, recovered := r }]
def hitM (f0 d1 d2 e0 : D) : List (Nat × Blk) := [(0, .obj [.d f0] 23), (1, .obj [.d d1, .d d2]), (2, .obj [.d e0])]
theorem catch_hit (l c e : Nat) (f0 d1 d2 e0 : D) {ι : Nat → Value} {S : Nat → Prop} {w : World} (hS : ∀ b, S b → b < w.heap.size) (hG : ΓL.G S w) (hblk : ∀ p ∈ hitM f0 d1 d2 e0, BlkOk ι S w p.1 p.2)
  (hdst : ∀ p ∈ hitM f0 d1 d2 e0, ∀ q ∈ hitM f0 d1 d2 e0, ∀ g, p.2.live = true → q.2.live = true → blkOf (ι p.1) = some g → blkOf (ι q.1) = some g → p.1 = q.1) :
  CallsD Tryz.prog 20 #[ι 0, ι 1, ι 2] (.panicking (pv l c e false)) w fun e' u' w' => e' = .returned (.tuple #[]) ∧ u' = .panicking (pv l c e true) ∧ ∃ ι' S', After ι S w 3 ⟨.und, [0, 1, 2], hitM dnp (di l) (di c) (di e), []⟩ undef ι' S' w' := by
 have hp : ∀ k, k < 3 → ∃ b, ι k = .pointer (some ⟨b, 0, none⟩) := fun k hk => by
  match k, hk with
  | 0, _ => obtain ⟨b, arr, ty, h1, _⟩ := hblk _ (List.mem_cons_self ..); exact ⟨b, h1⟩
  | 1, _ => obtain ⟨b, arr, ty, h1, _⟩ := hblk _ (List.mem_cons_of_mem _ (List.mem_cons_self ..)); exact ⟨b, h1⟩
  | 2, _ => obtain ⟨b, arr, ty, h1, _⟩ := hblk _ (List.mem_cons_of_mem _ (List.mem_cons_of_mem _ (List.mem_cons_self ..))); exact ⟨b, h1⟩
 obtain ⟨b0, hb0⟩ := hp 0 (by omega)
 obtain ⟨b1, hb1⟩ := hp 1 (by omega)
 obtain ⟨b2, hb2⟩ := hp 2 (by omega)
 refine callsD_of_wpS Tryz.func20 rfl fun c₀ cs hu => ?_
 apply wpS_seq
 apply wpS_region
 simp [wpOpsS, go_sem, recoverD, hu, Tryz.ntmps20, Exit.thenS]
 refine wpS_of_wp ?_
 refine wp_block ?_
 apply wp_seq
 apply wp_region
 simp [wpOps, go_sem, iface_eq, Exit.then]
 apply Or.inl
 refine Go.wp_cond_false ?hc ?h
 ·simp [Act.eval]
 apply wp_seq
 apply wp_region
 simp [wpOps, go_sem, assert_ok, Exit.then]
 iterate 3 apply Or.inl
 refine Go.wp_cond_true ?hc2 ?h2
 ·simp [Act.eval]
 refine Code.wp_mono (fun e1 a1 w1 h => ?_) (code_after (C := ⟨Tryz.prog, layF, Tryz.f20.ntmps, ΓL, 3, [], []⟩) (tm := [(0, .o (.c (.ptr 0 0))), (1, .o (.c (.ptr 1 0))), (2, .o (.c (.ptr 2 0))), (11, .o (gD [di l, di c, di e]))]) (m := hitM f0 d1 d2 e0) (upd := hitM dnp (di l) (di c) (di e)) (new := []) layF_ok mixed rfl ?hvc hS hG hblk hdst ?htm (by simp [Tryz.ntmps20]) rfl)
 case hvc =>
  repeat' (first | refine qgs ?_ | refine eD ?_ ?_ <;> intro)
  exact ⟨rfl, rfl, rfl⟩
 case htm =>
  intro t tv ht
  simp only [findL] at ht
  split at ht
  ·rename_i h; subst h; cases ht
   exact ⟨b0, hb0, by simp [hb0]⟩
  ·split at ht
   ·rename_i h; subst h; cases ht
    exact ⟨b1, hb1, by simp [hb1]⟩
   ·split at ht
    ·rename_i h; subst h; cases ht
     exact ⟨b2, hb2, by simp [hb2]⟩
    ·split at ht
     ·rename_i h; subst h; cases ht
      exact ⟨[.int .i64 l, .int .i64 c, .int .i64 e], by simp, .cons (Imm.v rfl) (.cons (Imm.v rfl) (.cons (Imm.v rfl) .nil))⟩
     ·cases ht
 obtain ⟨rfl, h1, ι', S', A⟩ := h
 simp only [Exit.inBlock, bodyPostS]
 exact ⟨h1, .panicking (pv l c e true), rfl, .tuple #[], by simp [results, Tryz.results20], rfl, rfl, ι', S', A⟩
end Go.Proofs.YtoingpafcodojaaGreatDoor

namespace Go.Proofs.YtoingpafcodojaaGreatDoor
open Go.RowKit

def HitP (v : Value) (st : St) (upd : List (Nat × Blk)) : Prop := ∃ (l c e : Nat) (f0 d1 d2 e0 : D), v = fltV l c e ∧ upd = hitM dnp (di l) (di c) (di e) ∧
 findL st.mem 0 = some (.obj [.d f0] 23) ∧ findL st.mem 1 = some (.obj [.d d1, .d d2]) ∧ findL st.mem 2 = some (.obj [.d e0])
theorem hitP_ok (v : Value) (st : St) (upd : List (Nat × Blk)) (h : HitP v st upd) (ι : Nat → Value) (S : Nat → Prop) (w : World) (hS : ∀ b, S b → b < w.heap.size) (hG : ΓL.G S w) (hblk : ∀ k b, findL st.mem k = some b → BlkOk ι S w k b)
  (hdst : ∀ k k' b b' g, findL st.mem k = some b → findL st.mem k' = some b' → b.live = true → b'.live = true → blkOf (ι k) = some g → blkOf (ι k') = some g → k = k') :
  CallsD Tryz.prog 20 ([0, 1, 2].map ι).toArray (.panicking (panE v)) w fun e' u' w' => e' = .returned (.tuple #[]) ∧ u' = .panicking [{ v, recovered := true }] ∧ ∃ ι' S', After ι S w st.nx ⟨.und, [], upd, []⟩ undef ι' S' w' := by
 obtain ⟨l, c, e, f0, d1, d2, e0, rfl, rfl, h0, h1, h2⟩ := h
 have hf : ∀ p ∈ hitM f0 d1 d2 e0, findL st.mem p.1 = some p.2 := fun p hp => by
  simp only [hitM, List.mem_cons, List.not_mem_nil, or_false] at hp
  rcases hp with rfl | rfl | rfl
  ·exact h0
  ·exact h1
  ·exact h2
 refine (catch_hit l c e f0 d1 d2 e0 hS hG (fun p hp => hblk _ _ (hf p hp)) (fun p hp q hq g => hdst _ _ _ _ g (hf p hp) (hf q hq))).mono ?_
 rintro e' u' w' ⟨he, hu, ι', S', A⟩
 refine ⟨he, hu, ι', S', ⟨A.val, fun k _ => A.keep k (by show k < 3 ∨ 3 + 0 ≤ k; omega), A.smono, A.sgrow, A.slt, A.os, A.tape, A.output, A.size, A.heap, A.updok, fun i b hb => by simp at hb, fun i b hb => by simp at hb, fun i j b b' g hb => by simp at hb⟩⟩
def fileS (s : List UInt8) : FR := fileV (lexV s)
theorem Parse_c (s : List UInt8) : CallsA Tryz.prog ΓL 7 [c1 (ds (bs s))] (parT (fileS s)) := by
 have hlx := lex_c s
 obtain ⟨R, hR⟩ : ∃ R, fileS s = R := ⟨_, rfl⟩
 rw [hR]
 refine fn_ruleE (C := ⟨Tryz.prog, layF, Tryz.f7.ntmps, ΓL, 0, [5], []⟩) (g := 20) (t9 := 17) (nx2 := 3) (caps := [2, 3, 4]) (capN := [0, 1, 2]) layF_ok mixed Tryz.func7 rfl (by kernel_rfl) rfl rfl rfl HitP ?hdef ?henter ?hidle rfl hitP_ok ?h
 case hdef =>
  intro a w Q hsz h
  have h9 : 17 < a.tmps.size := by rw [hsz]; decide
  apply wp_region
  simp [wpOps, go_sem, h9]
  refine .inl (.inl ?_)
  simpa [Oper.upon, Act.put] using h (.func (.func 20) #[] #[a.tmps[2]?.getD undef, a.tmps[3]?.getD undef, a.tmps[4]?.getD undef])
 case henter =>
  intro vs w
  kernel_rfl
 case hidle =>
  intro vs w hl
  match vs, hl with
  | [x, y, z], _ => exact catch_idle x y z w
 case h =>
  rcases hl : lexV s with L | ⟨l, c, e⟩
  ·rw [hl] at hlx
   have hlx : CallsA Tryz.prog ΓL 19 [c1 (ds (bs s))] (.tup [c1 (.sl 5 (L.map tokD)), gD [di 0, di 0], c1 (di 0)]) := hlx
   obtain ⟨hL, hn⟩ := lexV_ok hl
   repeat' (first | refine ex_call hlx ?_ | refine qg1 ?_ | refine eD ?_ ?_ <;> intro)
   refine ⟨⟨rfl, rfl, rfl, trivial⟩, rfl, ?_⟩
   refine ex_join (X := Unit) (fun _ => ⟨[(2, .o (.c (.ptr 0 0))), (3, .o (.c (.ptr 1 0))), (4, .o (.c (.ptr 2 0))), (6, .o (.c (.ptr 4 0)))], [(0, .obj [.d dnp] 23), (1, .obj [.d (di 0), .d (di 0)]), (2, .obj [.d (di 0)]), (4, .obj [.d (.sl 5 (L.map tokD)), .d (di ((0 : Nat) : Int)), .d (di (32 - ((32 : Nat) : Int))), .ptr 3 0]), (3, Fz 5 6 7 8), (5, Cz []), (6, Uz []), (7, Xz []), (8, Tz [])], 9⟩) (fun _ => True) ?_ ?_
   ·repeat' (first | refine qgs ?_ | refine eD ?_ ?_ <;> intro)
    exact ex_meet () trivial (SLe.via (SLe.ownCell 3 0 5 2 82 rfl rfl rfl rfl rfl rfl) (SLe.via (SLe.ownCell 3 1 6 3 146 rfl rfl rfl rfl rfl rfl) (SLe.via (SLe.ownCell 3 2 7 5 77 rfl rfl rfl rfl rfl rfl) (SLe.via (SLe.ownCell 3 3 8 8 57 rfl rfl rfl rfl rfl rfl) sS))))
   ·intro _ _
    have hlen := hL.1
    have hw := whole_c (m := 32) hL hn rfl 0 (L.length + 1) [] [] [] [] ⟨hlen, by simp, by simp⟩ (by omega) (by simp) (by simp) _ rfl
    rcases hT : wholeN L (L.length + 1) [] [] ⟨0, [], []⟩ with ⟨⟨cs, rs⟩, s1⟩ | ⟨i, e⟩
    ·obtain rfl : FR.ok cs rs s1.xs s1.ts = R := by rw [← hR]; unfold fileS fileV; rw [hl]; dsimp only; rw [hT]
     rw [hT] at hw
     have hw : CallsM Tryz.prog ΓL 21 [(0, Qz L 32 0), (1, Fz 2 3 4 5), (2, Cz []), (3, Uz []), (4, Xz []), (5, Tz [])] 6 [P0] (.tup []) [(0, Qz L 32 s1.i), (1, Fz 6 7 8 9), (2, .dead), (3, .dead), (4, .dead), (5, .dead)] [Cz cs, Uz rs, Xz s1.xs, Tz s1.ts] := hw
     repeat' (first | refine qgs ?_ | refine eD ?_ ?_ <;> intro)
     refine ex_callM (CallsM.ren hw [4, 3, 5, 6, 7, 8] 9 rfl rfl rfl rfl) ?_
     repeat' (first | refine qgs ?_ | refine eD ?_ ?_ <;> intro)
     exact ⟨_, SLe.via (show SLe 3 ⟨[(2, .o (.c (.ptr 0 0))), (3, .o (.c (.ptr 1 0))), (4, .o (.c (.ptr 2 0)))], [(0, .obj [.ptr 3 0] 23), (1, .obj [.d (di 0), .d (di 0)]), (2, .obj [.d (di 0)]), (3, Fz 9 10 11 12), (9, Cz cs), (10, Uz rs), (11, Xz s1.xs), (12, Tz s1.ts)], 13⟩ _ from sS)
      (SLe.via (SLe.still 9 2 82 (cs.map coD) rfl) (SLe.via (SLe.still 10 3 146 (rs.map rcD) rfl) (SLe.via (SLe.still 11 5 77 (s1.xs.map exD) rfl) (SLe.via (SLe.still 12 8 57 (s1.ts.map tyD) rfl)
       (SLe.via (sle_fixO 0 0 3 (dl := fileD cs rs s1.xs s1.ts) rfl rfl rfl rfl) (show SLe 3 ⟨[(2, .o (.c (.ptr 0 0))), (3, .o (.c (.ptr 1 0))), (4, .o (.c (.ptr 2 0)))], [(0, .obj [.eptr (fileD cs rs s1.xs s1.ts)] 23), (1, .obj [.d (di 0), .d (di 0)]), (2, .obj [.d (di 0)])], 13⟩ _ from sS)))))), TLe.rfl, rfl⟩
    ·obtain rfl : FR.err (tk L i).l (tk L i).c e = R := by rw [← hR]; unfold fileS fileV; rw [hl]; dsimp only; rw [hT]
     rw [hT] at hw
     have hw : CallsM Tryz.prog ΓL 21 [(0, Qz L 32 0), (1, Fz 2 3 4 5), (2, Cz []), (3, Uz []), (4, Xz []), (5, Tz [])] 6 [P0] (.pan (flt L i e)) [(0, .dead), (1, .dead), (2, .dead), (3, .dead), (4, .dead), (5, .dead)] [] := hw
     repeat' (first | refine qgs ?_ | refine eD ?_ ?_ <;> intro)
     refine ex_callM (CallsM.ren hw [4, 3, 5, 6, 7, 8] 9 rfl rfl rfl rfl) ?_
     exact ⟨flt L i e, _, rfl, ⟨(tk L i).l, (tk L i).c, e, _, _, _, _, rfl, rfl, rfl, rfl, rfl⟩, rfl, rfl, _, fun _ _ _ _ h => h, TLe.rfl, rfl⟩
  ·rw [hl] at hlx
   have he := lexV_err hl
   have hlx : CallsA Tryz.prog ΓL 19 [c1 (ds (bs s))] (.tup [c1 (.sl 5 []), gD [di l, di c], c1 (di e)]) := hlx
   obtain rfl : FR.err l c e = R := by rw [← hR]; unfold fileS; rw [hl]; rfl
   repeat' (first | refine ex_call hlx ?_ | refine qg1 ?_ | refine eD ?_ ?_ <;> intro)
   exact ⟨_, fun _ _ _ _ h => h, TLe.rfl, rfl⟩
end Go.Proofs.YtoingpafcodojaaGreatDoor

namespace Go.Proofs.YtoingpafcodojaaGreatDoor
open Go.RowKit

def fnQF (L : Nat → Option Lay) (rs : List ResultVar) (r : TV) : Exit → St → Prop
 | .normal, st | .ret, st => retOkE 0 L rs r st
 | _, _ => False
theorem fn_ruleF {C : Ctx} {f : FuncId} {fn : Func} {c : Code} (hL : LOk C.P C.L) (hm : C.P.follows .mixedOrders = true) (hf : C.P.funcs[f]? = some fn) (hb : fn.body = some c) (hname : (fn.name == "runtime.NumGoroutine") = false)
  (hn : fn.ntmps = C.n) (h0 : C.nx0 = 0) {xs : List T1} (hx : Nat.ble xs.length C.n = true) {r : TV} (h : vc C c ⟨argTm 0 xs, [], 0⟩ (fnQF C.L fn.results.toList r)) : CallsA C.P C.Γ f xs r := by
 refine ⟨⟨fn, hf, hname, by rw [hb]; rfl⟩, fun S w vs hS hG hvs => ?_⟩
 have hxl := Nat.le_of_ble_eq_true hx
 have hlen := hvs.len
 refine calls_of_wp hf hb ?_
 have hR : RS ⟨w, fun _ => False, S, C.n, C.Γ, ι0, 0, []⟩ ⟨argTm 0 xs, [], 0⟩ { tmps := vs.toArray ++ Array.replicate (fn.ntmps - vs.toArray.size) undef, defers := [] } w := by
  refine ⟨ι0, S, rfl, rfl, rfl, Nat.le_refl _, fun _ _ _ => rfl, hS, fun _ h => h, fun _ h => .inl h, fun t tv ht => ?_, (fun k b hk => by cases hk), (fun k b hk => by cases hk), (fun k k' b b' g hk => by cases hk), rfl, ?_, hG, fun _ _ => rfl⟩
  ·obtain ⟨x, rfl, _, hx⟩ := argTm_find xs 0 t tv ht
   rw [Nat.sub_zero] at hx
   obtain ⟨u, hu, hv⟩ := hvs.at_left hx
   have hlt := (List.getElem?_eq_some_iff.1 hu).1
   have : (vs.toArray ++ Array.replicate (fn.ntmps - vs.toArray.size) undef).getD t undef = u := by
    simp [Array.getElem?_append, hlt, hu]
    have h2 := (List.getElem?_eq_some_iff.1 hu).2
    exact h2
   show V ι0 S w (.o x) _
   dsimp only
   rw [this]
   exact hv
  ·simp; omega
 refine Code.wp_mono (fun e a w' hq => ?_) (vc_ok hL ⟨rfl, rfl, h0.symm⟩ hm c _ _ _ w h hR)
 obtain ⟨st, hR', hq⟩ := hq
 have key : retOkE 0 C.L fn.results.toList r st → a.defers = [] ∧ ∃ v, (results fn a.tmps).run C.P w' = .ok v w' ∧ ∃ x S', Ending.returned v = .returned x ∧ Below w.heap.size w w' ∧ (∀ b, S b → S' b) ∧ (∀ b, S' b → S b ∨ w.heap.size ≤ b) ∧ (∀ b, S' b → b < w'.heap.size) ∧ V ι0 S' w' r x := fun hret => by
  obtain ⟨v, h1, h2⟩ := end_dataE hL hR' hret
  obtain ⟨ι, S1, I⟩ := hR'
  exact ⟨I.dn, v, h1, h2⟩
 cases e with
 | normal => exact key hq
 | ret => exact key hq
 | _ => exact hq.elim
end Go.Proofs.YtoingpafcodojaaGreatDoor

namespace Go.Proofs.YtoingpafcodojaaGreatDoor
def opsL7 : List (List UInt8) := levelsL.map (·.1)
def xsL (a b : List UInt8) : List EX := if levelV a < levelV b then [⟨1, [], 0, [120], []⟩, ⟨1, [], 0, [121], []⟩, ⟨1, [], 0, [122], []⟩, ⟨3, b, 0, [], [1, 2]⟩, ⟨3, a, 0, [], [0, 3]⟩] else [⟨1, [], 0, [120], []⟩, ⟨1, [], 0, [121], []⟩, ⟨3, a, 0, [], [0, 1]⟩, ⟨1, [], 0, [122], []⟩, ⟨3, b, 0, [], [2, 3]⟩]
deriving instance DecidableEq for EX, CA, TY, SB, IT, RC, CO, FR
end Go.Proofs.YtoingpafcodojaaGreatDoor

namespace Go.Proofs.YtoingpafcodojaaGreatDoor
def preA : List UInt8 := [115, 116, 114, 117, 99, 116, 32, 83, 32, 123, 32, 97, 58, 32, 98, 121, 116, 101, 115, 91]
def postA : List UInt8 := [93, 59, 32, 125]
def textA (s : List UInt8) : List UInt8 := preA ++ s ++ postA
end Go.Proofs.YtoingpafcodojaaGreatDoor

namespace Go.Proofs.YtoingpafcodojaaGreatDoor
open Go.RowKit

theorem of_ok (s : List UInt8) (hs : s.length ≤ 1000000) {cs : List CO} {rs : List RC} {xs : List EX} {t : TY} {ts : List TY} (h : fileS (textA s) = .ok cs rs xs (t :: ts)) (htl : ts.length ≤ 1000000) :
  CallsA Tryz.prog ΓL 13 [c1 (ds (bs s))] (.tup [.c (.eptr (fileD cs rs xs (t :: ts))), c1 (di t.ex)]) := by
 have hp := Parse_c (textA s)
 rw [h] at hp
 have hp : CallsA Tryz.prog ΓL 7 [c1 (ds (bs preA ++ bs s ++ bs postA))] (.tup [.c (.eptr (fileD cs rs xs (t :: ts))), gD [di 0, di 0], c1 (di 0)]) := by
  rw [bs_app, bs_app]
  exact hp
 have hsz : (bs s).size = s.length := by simp [bs, ByteArray.size]
 have hm : ((t :: ts).map tyD).length = ts.length + 1 := by simp
 refine fn_ruleF (C := ⟨Tryz.prog, layF, Tryz.f13.ntmps, ΓL, 0, [], []⟩) layF_ok mixed Tryz.func13 rfl (by kernel_rfl) rfl rfl rfl ?_
 have q1 : (bs preA).size + (bs s).size ≤ 9223372036854775807 := by
  rw [hsz]
  show 20 + s.length ≤ _
  omega
 have q2 : (bs preA ++ bs s).size + (bs postA).size ≤ 9223372036854775807 := by
  rw [ByteArray.size_append, hsz]
  show 20 + s.length + 4 ≤ _
  omega
 repeat' (first | refine qgs ?_ | refine eD ?_ ?_ <;> intro)
 refine and_mk q1 ?_
 repeat' (first | refine qgs ?_ | refine eD ?_ ?_ <;> intro)
 refine and_mk q2 ?_
 repeat' (first | refine ex_call hp ?_ | refine (ex_row (l := t :: ts) 0 t rfl rfl) ?_ | refine (ex_is _ hm) ?_ | refine (ex_pn (by kernel_rfl) false (fun _ _ => by kernel_rfl)) ?_ | refine qg1 ?_ | refine eD ?_ ?_ <;> intro)
 exact ⟨_, SLe.rfl, TLe.rfl, rfl⟩
def wkS : List UInt8 := [110, 32, 42, 32, 40, 110, 32, 45, 32, 49, 41]
def wkX : List EX := [⟨1, [], 0, [110], []⟩, ⟨1, [], 0, [110], []⟩, ⟨0, [], 1, [], []⟩, ⟨3, [45], 0, [], [1, 2]⟩, ⟨3, [42], 0, [], [0, 3]⟩]
def wkY : TY := ⟨1, 0, false, [], [], 4, -1, []⟩
def wkR : List RC := [⟨[83], [], [⟨[97], 0, 0, [], [], -1, 0, false, []⟩]⟩]
theorem wk_file : fileS (textA wkS) = .ok [] wkR wkX [wkY] := by decide +kernel
theorem wk_e1 : evalE (wkX.map EX.ei) 4 [([110], 3)] = (6, 0) := by decide +kernel
theorem wk_e2 : evalE (wkX.map EX.ei) 4 [([110], 3), ([110], 0)] = (0, 5) := by decide +kernel
theorem wk_eval (e : EV) (he : EnvOk e) (hel : e.length ≤ 1000000) : CallsA Tryz.prog ΓL 11 [.c (.eptr (fileD [] wkR wkX [wkY])), c1 (di 4), c1 (.sl 2 (e.map evD))] (owT (evalE (wkX.map EX.ei) 4 e)) :=
 (eval_c (wkX.map EX.ei) e (.sl 2 ([].map coD)) (.sl 3 (wkR.map rcD)) (.sl 8 ([wkY].map tyD)) 4 (by unfold XsOk; decide) he hel (by decide) (by decide) (by decide)).gL
set_option maxHeartbeats 2000000 in
theorem wakes10_c : CallsA Tryz.prog ΓL 9 [] (Tb true) := by
 have ho := of_ok wkS (by decide) wk_file (by decide)
 have h1 := wk_eval [([110], 3)] (by unfold EnvOk; decide) (by decide)
 rw [wk_e1] at h1
 have h2 := wk_eval [([110], 3), ([110], 0)] (by unfold EnvOk; decide) (by decide)
 rw [wk_e2] at h2
 have h3 := (eval_nil 0 dnil).gL
 refine fn_rule (C := ⟨Tryz.prog, layF, Tryz.f9.ntmps, ΓL, 0, [], []⟩) layF_ok mixed Tryz.func9 rfl (by kernel_rfl) rfl rfl rfl ?_
 repeat' (first | refine ex_call h3 ?_ | refine ex_call ho ?_ | refine qg1 ?_ | refine eD ?_ ?_ <;> intro)
 refine ex_callM (h1.toM (by kernel_rfl) (by kernel_rfl) _) ?_
 repeat' (first | refine ex_call h3 ?_ | refine ex_call ho ?_ | refine qg1 ?_ | refine eD ?_ ?_ <;> intro)
 refine ex_callM (h2.toM (by kernel_rfl) (by kernel_rfl) _) ?_
 repeat' (first | refine ex_call h3 ?_ | refine ex_call ho ?_ | refine qg1 ?_ | refine eD ?_ ?_ <;> intro)
 exact TLe.rfl
end Go.Proofs.YtoingpafcodojaaGreatDoor

namespace Go.Proofs.YtoingpafcodojaaGreatDoor
open Go.RowKit

def bitsN : Nat → Nat → List Nat
 | 0, _ => []
 | k + 1, a => a % 2 :: bitsN k (a / 2)
def valL : List Nat → Nat
 | [] => 0
 | x :: l => x + 2 * valL l
def BitL (l : List Nat) : Prop := ∀ x ∈ l, x ≤ 1
def plusF : Nat → List Nat → List Nat → List Nat
 | c, [], [] => [c]
 | c, x :: a, [] => (c + x) % 2 :: plusF ((c + x) / 2) a []
 | c, [], y :: b => (c + y) % 2 :: plusF ((c + y) / 2) [] b
 | c, x :: a, y :: b => (c + x + y) % 2 :: plusF ((c + x + y) / 2) a b
abbrev rN (l : List Nat) : List (List D) := l.map fun (b : Nat) => [di b]
abbrev dN (l : List Nat) : D := .sl 1 (rN l)
def rnumF (l : List Nat) : Nat × Nat := if valL l < 18446744073709551616 then (valL l, 0) else (0, 5)
end Go.Proofs.YtoingpafcodojaaGreatDoor

namespace Go.Proofs.YtoingpafcodojaaGreatDoor
open Go.RowKit

abbrev N64 : Nat := 18446744073709551616
def numV (v : Nat) : Nat × Nat := if v < 18446744073709551616 then (v, 0) else (0, 5)
abbrev opT (p : Nat × Nat) : TV := .tup [c1 (du p.1), c1 (di p.2)]
def subV (a b : Nat) : Nat × Nat := if a < b then (0, 5) else (a - b, 0)
def shrV (a n : Nat) : Nat × Nat := if 63 < n then (0, 5) else (a / 2 ^ n, 0)
def shlV (a n : Nat) : Nat × Nat := if 63 < n then (0, 5) else numV (a * 2 ^ n)
end Go.Proofs.YtoingpafcodojaaGreatDoor

namespace Go.Proofs.YtoingpafcodojaaGreatDoor
open Go.RowKit

def boB (e : Bool) (s : Nat) : Nat := if s = 2 ∨ (e = true ∧ s = 1) then 1 else 0
def boV (e : Bool) : List Nat → List Nat → Nat
 | x :: a, y :: b => boB e (x + y) + 2 * boV e a b
 | _, _ => 0
end Go.Proofs.YtoingpafcodojaaGreatDoor

namespace Go.Proofs.YtoingpafcodojaaGreatDoor
open Go.RowKit

end Go.Proofs.YtoingpafcodojaaGreatDoor

namespace Go.Proofs.YtoingpafcodojaaGreatDoor
open Go.RowKit

def divV (a b : Nat) : Nat × Nat := if b = 0 then (0, 6) else (a / b, 0)
def remV (a b : Nat) : Nat × Nat := if b = 0 then (0, 6) else (a % b, 0)
end Go.Proofs.YtoingpafcodojaaGreatDoor

namespace Go.Proofs.YtoingpafcodojaaGreatDoor
open Go.RowKit

end Go.Proofs.YtoingpafcodojaaGreatDoor

namespace Go.Proofs.YtoingpafcodojaaGreatDoor
open Go.RowKit

def resO (A : EV) : Option ET → Nat × Nat
 | some t => evalT A t
 | none => (0, 2)
def nmR (p : Nat × Nat) : List D := [du p.1]
def erR (p : Nat × Nat) : List D := [di p.2]
end Go.Proofs.YtoingpafcodojaaGreatDoor

namespace Go.Proofs.YtoingpafcodojaaGreatDoor
open Go.RowKit

def ΓQ : Glob := ⟨Γ0.G, Γ0.mono, [50], Γ0.gl, Γ0.gok⟩
def resL (X : List EI) (A : EV) : List (Nat × Nat) := (treesE X).map (resO A)
end Go.Proofs.YtoingpafcodojaaGreatDoor

namespace Go.Proofs.YtoingpafcodojaaGreatDoor

def TY.subX (t : TY) : List Int := (if t.ex = -1 then [] else [t.ex]) ++ t.args
def TY.subT (t : TY) : List Int := (if t.inn = -1 then [] else [t.inn]) ++ t.cases.map (·.t)
def usesX (s : PS) : List Int := s.xs.flatMap EX.kids ++ s.ts.flatMap TY.subX
def usesT (s : PS) : List Int := s.ts.flatMap TY.subT
structure OInv (s : PS) (a b : List Int) : Prop where
 x : ∀ j : Nat, j < s.xs.length → (usesX s).count (j : Int) + a.count (j : Int) = 1
 xr : ∀ j, j ∈ usesX s ∨ j ∈ a → 0 ≤ j ∧ j < s.xs.length
 xo : ∀ (i : Nat) (x : EX), s.xs[i]? = some x → ∀ k ∈ x.kids, k < i
 t : ∀ j : Nat, j < s.ts.length → (usesT s).count (j : Int) + b.count (j : Int) = 1
 tr : ∀ j, j ∈ usesT s ∨ j ∈ b → 0 ≤ j ∧ j < s.ts.length
 tt : ∀ (i : Nat) (t : TY), s.ts[i]? = some t → ∀ k ∈ t.subT, k < i
theorem OInv.perm {s : PS} {a b a' b' : List Int} (h : OInv s a b) (ha : a.Perm a') (hb : b.Perm b') : OInv s a' b' :=
 ⟨fun j hj => by rw [← ha.count_eq]; exact h.x j hj, fun j hj => h.xr j (by rwa [ha.mem_iff]), h.xo, fun j hj => by rw [← hb.count_eq]; exact h.t j hj, fun j hj => h.tr j (by rwa [hb.mem_iff]), h.tt⟩
theorem OInv.step {s : PS} {a b : List Int} (h : OInv s a b) (i : Nat) : OInv { s with i := i } a b := ⟨h.x, h.xr, h.xo, h.t, h.tr, h.tt⟩
def Ht {α : Type} (a b : List Int) (x : PM α) (f g : α → List Int) : Prop := ∀ s p q, OInv s (a ++ p) (b ++ q) → ∀ v s', x s = .ok v s' → OInv s' (f v ++ p) (g v ++ q)
theorem Ht.and {α β : Type} {a b : List Int} {x : PM α} {f g : α → List Int} {y : α → PM β} {f' g' : β → List Int} (hx : Ht a b x f g) (hy : ∀ v, Ht (f v) (g v) (y v) f' g') : Ht a b (x >>= y) f' g' := fun s p q h v s' he => by
 have he : PM.and x y s = .ok v s' := he
 unfold PM.and at he
 cases hxs : x s with
 | err i e => rw [hxs] at he; cases he
 | ok u s1 => rw [hxs] at he; exact hy u s1 p q (hx s p q h u s1 hxs) v s' he
theorem Ht.pure {α : Type} (v : α) (f g : α → List Int) : Ht (f v) (g v) (pure v) f g := fun s p q h v' s' he => by cases he; exact h
theorem Ht.fail {α : Type} {e : Nat} {a b : List Int} {f g : α → List Int} : Ht a b (failM e : PM α) f g := fun s p q h v s' he => by cases he
theorem Ht.look {α : Type} {f : PS → PM α} {a b : List Int} {f' g' : α → List Int} (h : ∀ s, Ht a b (f s) f' g') : Ht a b (fun s => f s s) f' g' := fun s p q hs => h s s p q hs
theorem Ht.at {α : Type} {p : Nat → Bool} {x y : PM α} {a b : List Int} {f g : α → List Int} (hx : Ht a b x f g) (hy : Ht a b y f g) : Ht a b (atM p x y) f g := fun s c d h v s' he => by
 unfold atM at he
 by_cases hp : p s.i = true
 ·rw [if_pos hp] at he; exact hx s c d h v s' he
 ·rw [if_neg hp] at he; exact hy s c d h v s' he
theorem Ht.more {α : Type} {a b : List Int} {x : PM α} {f g : α → List Int} (h : Ht a b x f g) (c d : List Int) : Ht (a ++ c) (b ++ d) x (fun v => f v ++ c) (fun v => g v ++ d) := fun s p q hi v s' he => by
 have := h s (c ++ p) (d ++ q) (by rw [← List.append_assoc, ← List.append_assoc]; exact hi) v s' he
 rw [List.append_assoc, List.append_assoc]
 exact this
theorem Ht.perm {α : Type} {a b a' b' : List Int} {x : PM α} {f g f' g' : α → List Int} (h : Ht a b x f g) (ha : a'.Perm a) (hb : b'.Perm b) (hf : ∀ v, (f v).Perm (f' v)) (hg : ∀ v, (g v).Perm (g' v)) : Ht a' b' x f' g' := fun s p q hi v s' he =>
 (h s p q (hi.perm (ha.append_right p) (hb.append_right q)) v s' he).perm ((hf v).append_right p) ((hg v).append_right q)
def Moves {α : Type} (x : PM α) : Prop := ∀ s v s', x s = .ok v s' → s'.xs = s.xs ∧ s'.ts = s.ts
theorem Moves.ht {α : Type} {x : PM α} (h : Moves x) (a b : List Int) : Ht a b x (fun _ => a) (fun _ => b) := fun s p q hi v s' he => by
 obtain ⟨h1, h2⟩ := h s v s' he
 obtain ⟨i, xs, ts⟩ := s'
 obtain rfl : xs = s.xs := h1
 obtain rfl : ts = s.ts := h2
 exact hi.step i
section
variable (L : List TokP)
theorem mv_step : Moves stepM := fun s v s' h => by cases h; exact ⟨rfl, rfl⟩
theorem mv_take (t : List UInt8) : Moves (takeM L t) := fun s v s' h => by
 unfold takeM at h; split at h <;> cases h; exact ⟨rfl, rfl⟩
theorem mv_name : Moves (nameM L) := fun s v s' h => by
 unfold nameM at h; split at h <;> cases h; exact ⟨rfl, rfl⟩
theorem mv_number : Moves (numberM L) := fun s v s' h => by
 unfold numberM at h; split at h <;> cases h; exact ⟨rfl, rfl⟩
theorem mv_room (n : Nat) : Moves (roomM n) := fun s v s' h => by
 unfold roomM at h; split at h <;> cases h; exact ⟨rfl, rfl⟩
theorem mv_enter (m : Nat) (b : Bool) : Moves (enterM m b) := fun s v s' h => by
 unfold enterM at h; split at h
 ·cases h
 ·split at h <;> cases h; exact ⟨rfl, rfl⟩
theorem mv_roomIf (p : Nat → Bool) (n : Nat) : Moves (fun s => if p s.i = true then roomM n s else .ok () s) := fun s v s' h => by
 dsimp only at h
 split at h
 ·exact mv_room n s v s' h
 ·cases h; exact ⟨rfl, rfl⟩
theorem mv_enterL (m : Nat) (p : Nat → Bool) : Moves (fun s => enterM m (p s.i) s) := fun s v s' h => mv_enter m _ s v s' h
end
theorem ht_put (x : EX) : Ht x.kids [] (putM x) (fun k => [k]) (fun _ => []) := fun s p q h v s' he => by
 cases he
 have hu : usesX { s with xs := s.xs ++ [x] } = s.xs.flatMap EX.kids ++ x.kids ++ s.ts.flatMap TY.subX := by unfold usesX; simp
 have hr : ∀ j, j ∈ usesX { s with xs := s.xs ++ [x] } ∨ j ∈ p → 0 ≤ j ∧ j < s.xs.length := fun j hj => h.xr j (by
  rw [hu] at hj
  unfold usesX
  simp only [List.mem_append] at hj ⊢
  grind)
 refine ⟨fun j hj => ?_, fun j hj => ?_, fun i y hy k hk => ?_, h.t, h.tr, h.tt⟩
 ·have hj : j < s.xs.length + 1 := by simpa using hj
  rw [List.count_append, List.count_singleton]
  by_cases he : j = s.xs.length
  ·subst he
   have h1 : (usesX { s with xs := s.xs ++ [x] }).count (s.xs.length : Int) = 0 := List.count_eq_zero.2 fun hm => by have := (hr _ (.inl hm)).2; omega
   have h2 : p.count (s.xs.length : Int) = 0 := List.count_eq_zero.2 fun hm => by have := (hr _ (.inr hm)).2; omega
   rw [h1, h2]; simp
  ·have h1 := h.x j (by omega)
   unfold usesX at h1
   rw [List.count_append, List.count_append] at h1
   rw [hu, List.count_append, List.count_append, if_neg (by simp; omega)]
   omega
 ·show 0 ≤ j ∧ j < ((s.xs ++ [x]).length : Nat)
  rw [List.length_append, List.length_singleton]
  by_cases hm : j ∈ usesX { s with xs := s.xs ++ [x] } ∨ j ∈ p
  ·have := hr j hm; omega
  ·have : j = (s.xs.length : Int) := by
    rcases hj with hj | hj
    ·exact absurd (.inl hj) hm
    ·rcases List.mem_append.1 hj with hj | hj
     ·simpa using hj
     ·exact absurd (.inr hj) hm
   omega
 ·have hy : (s.xs ++ [x])[i]? = some y := hy
  by_cases hi : i < s.xs.length
  ·rw [List.getElem?_append_left hi] at hy
   exact h.xo i y hy k hk
  ·have hl : i < (s.xs ++ [x]).length := (List.getElem?_eq_some_iff.1 hy).1
   rw [List.length_append, List.length_singleton] at hl
   obtain rfl : i = s.xs.length := by omega
   rw [List.getElem?_append_right (Nat.le_refl _), Nat.sub_self] at hy
   obtain rfl := Option.some.inj hy
   exact (h.xr k (.inr (List.mem_append_left _ hk))).2
theorem ht_lay (t : TY) : Ht t.subX t.subT (layM t) (fun _ => []) (fun k => [k]) := fun s p q h v s' he => by
 cases he
 have hu : usesX { s with ts := s.ts ++ [t] } = s.xs.flatMap EX.kids ++ s.ts.flatMap TY.subX ++ t.subX := by unfold usesX; simp
 have hv : usesT { s with ts := s.ts ++ [t] } = s.ts.flatMap TY.subT ++ t.subT := by unfold usesT; simp
 have hr : ∀ j, j ∈ usesT { s with ts := s.ts ++ [t] } ∨ j ∈ q → 0 ≤ j ∧ j < s.ts.length := fun j hj => h.tr j (by
  rw [hv] at hj
  unfold usesT
  simp only [List.mem_append] at hj ⊢
  grind)
 refine ⟨fun j hj => ?_, fun j hj => h.xr j ?_, h.xo, fun j hj => ?_, fun j hj => ?_, fun i y hy k hk => ?_⟩
 ·have h1 := h.x j hj
  unfold usesX at h1
  rw [List.count_append] at h1
  rw [hu, List.count_append, List.nil_append]
  rw [List.count_append] at h1
  rw [List.count_append]
  omega
 ·rw [hu] at hj
  unfold usesX
  simp only [List.mem_append, List.nil_append] at hj ⊢
  grind
 ·have hj : j < s.ts.length + 1 := by simpa using hj
  rw [List.count_append, List.count_singleton]
  by_cases he : j = s.ts.length
  ·subst he
   have h1 : (usesT { s with ts := s.ts ++ [t] }).count (s.ts.length : Int) = 0 := List.count_eq_zero.2 fun hm => by have := (hr _ (.inl hm)).2; omega
   have h2 : q.count (s.ts.length : Int) = 0 := List.count_eq_zero.2 fun hm => by have := (hr _ (.inr hm)).2; omega
   rw [h1, h2]; simp
  ·have h1 := h.t j (by omega)
   unfold usesT at h1
   rw [List.count_append] at h1
   rw [hv, List.count_append, if_neg (by simp; omega)]
   omega
 ·show 0 ≤ j ∧ j < ((s.ts ++ [t]).length : Nat)
  rw [List.length_append, List.length_singleton]
  by_cases hm : j ∈ usesT { s with ts := s.ts ++ [t] } ∨ j ∈ q
  ·have := hr j hm; omega
  ·have : j = (s.ts.length : Int) := by
    rcases hj with hj | hj
    ·exact absurd (.inl hj) hm
    ·rcases List.mem_append.1 hj with hj | hj
     ·simpa using hj
     ·exact absurd (.inr hj) hm
   omega
 ·have hy : (s.ts ++ [t])[i]? = some y := hy
  by_cases hi : i < s.ts.length
  ·rw [List.getElem?_append_left hi] at hy
   exact h.tt i y hy k hk
  ·have hl : i < (s.ts ++ [t]).length := (List.getElem?_eq_some_iff.1 hy).1
   rw [List.length_append, List.length_singleton] at hl
   obtain rfl : i = s.ts.length := by omega
   rw [List.getElem?_append_right (Nat.le_refl _), Nat.sub_self] at hy
   obtain rfl := Option.some.inj hy
   exact (h.tr k (.inr (List.mem_append_left _ hk))).2
section
variable {L : List TokP}
abbrev one : Int → List Int := fun k => [k]
abbrev non {α : Type} : α → List Int := fun _ => []
theorem ht_un (m : Nat) {un ex : PM Int} (h1 : Ht [] [] un one non) (h2 : Ht [] [] ex one non) : Ht [] [] (unF L m un ex) one non := by
 unfold unF
 refine Ht.at ?_ (Ht.at ?_ (Ht.at ?_ ?_))
 ·exact (mv_step.ht _ _).and fun _ => ((mv_enterL m (beginsV L)).ht _ _).and fun _ => h1.and fun k => ht_put ⟨2, [], 0, [], [k]⟩
 ·exact (mv_step.ht _ _).and fun _ => ((mv_enterL m (beginsV L)).ht _ _).and fun _ => h2.and fun k => ((mv_take L _).ht [k] []).and fun _ => Ht.pure k one non
 ·exact ((mv_name L).ht _ _).and fun w => ht_put ⟨1, [], 0, w, []⟩
 ·exact ((mv_number L).ht _ _).and fun n => ht_put ⟨0, [], n, [], []⟩
theorem ht_line (lv : Nat) {x : PM Int} (hx : Ht [] [] x one non) : ∀ n left, Ht [left] [] (lineN L lv x n left) one non
 | 0, left => Ht.pure left one non
 | n + 1, left => by
  rw [lineN]
  intro s p q h v s' he
  dsimp only at he
  by_cases hp : opAt L lv s.i = true
  ·rw [if_pos hp] at he
   refine ((mv_step.ht [left] []).and fun _ => ((hx.more [left] []).perm (a' := [left]) (b' := []) (f' := fun r => [left, r]) (g' := non) (.refl _) (.refl _) (fun r => .swap _ _ _) (fun _ => .refl _)).and fun r => (ht_put ⟨3, (tk L s.i).t, 0, [], [left, r]⟩).and fun k => ht_line lv hx n k) s p q h v s' he
  ·rw [if_neg hp] at he
   cases he
   exact h
theorem ht_lineJ {un : PM Int} (hx : Ht [] [] un one non) : ∀ j, Ht [] [] (lineJ L un j) one non
 | 0 => hx
 | j + 1 => (ht_lineJ hx j).and fun left => Ht.look fun s => ht_line _ (ht_lineJ hx j) _ _
theorem ht_unM : ∀ m, Ht [] [] (unM L m) one non
 | 0 => ht_un 0 Ht.fail Ht.fail
 | m + 1 => ht_un _ (ht_unM m) (ht_lineJ (ht_unM m) 8)
theorem ht_expr (m : Nat) : Ht [] [] (exprM L m) one non := ht_lineJ (ht_unM m) 8
theorem ht_bracket (m : Nat) : Ht [] [] (bracketM L m) one non := ((mv_take L _).ht _ _).and fun _ => (ht_expr m).and fun k => ((mv_take L _).ht [k] []).and fun _ => Ht.pure k one non
theorem ht_array (m : Nat) (t : TY) : Ht t.subX t.subT (arrayM L m t) non one :=
 (ht_lay t).and fun k => Ht.at ((((ht_bracket m).more [] [k]).perm (a' := []) (b' := [k]) (f' := one) (g' := fun _ => [k]) (.refl _) (.refl _) (fun _ => .refl _) (fun _ => .refl _)).and fun x => by
  intro s p q h v s' he
  have h0 := h.xr x (.inr (by simp))
  have h1 := h.tr k (.inr (by simp))
  have e1 : TY.subX { tyP 5 with ex := x, inn := k } = [x] := by unfold TY.subX; rw [if_neg (by show ¬ x = -1; omega)]; rfl
  have e2 : TY.subT { tyP 5 with ex := x, inn := k } = [k] := by unfold TY.subT; rw [if_neg (by show ¬ k = -1; omega)]; rfl
  have := ht_lay { tyP 5 with ex := x, inn := k } s p q
  rw [e1, e2] at this
  exact this h v s' he) (Ht.pure k non one)
theorem ht_args (m : Nat) : ∀ n l, Ht l [] (argsN L m n l) (fun l => l) non
 | 0, l => Ht.pure l (fun l => l) non
 | n + 1, l => Ht.at ((mv_step.ht l []).and fun _ => ((mv_roomIf (beginsV L ·) l.length).ht l []).and fun _ => (((ht_expr m).more l []).perm (a' := l) (b' := []) (f' := fun x => l ++ [x]) (g' := non) (.refl _) (.refl _) (fun x => List.perm_append_comm) (fun _ => .refl _)).and fun x => ht_args m n _) (Ht.pure l (fun l => l) non)
theorem sub_plain {t : TY} (h1 : t.ex = -1) (h2 : t.inn = -1) (h3 : t.cases = []) : t.subX = t.args ∧ t.subT = [] := by
 unfold TY.subX TY.subT
 rw [if_pos h1, if_pos h2, h3]
 exact ⟨rfl, rfl⟩
theorem ht_ret (t : TY) (h1 : t.ex = -1) (h2 : t.inn = -1) (h3 : t.cases = []) : Ht t.args [] (pure t : PM TY) TY.subX TY.subT := by
 have := Ht.pure t TY.subX TY.subT
 rwa [(sub_plain h1 h2 h3).1, (sub_plain h1 h2 h3).2] at this
theorem ht_lay1 (t : TY) (h1 : t.ex = -1) (h2 : t.inn = -1) (h3 : t.cases = []) : Ht t.args [] (layM t) non one := by
 have := ht_lay t
 rwa [(sub_plain h1 h2 h3).1, (sub_plain h1 h2 h3).2] at this
theorem ht_ref (m : Nat) : Ht [] [] (refM L m) TY.subX TY.subT :=
 ((mv_name L).ht _ _).and fun w => Ht.at ((mv_step.ht [] []).and fun _ => (ht_expr m).and fun x => (Ht.look fun s => ht_args m (L.length - s.i + 1) [x]).and fun l => ((mv_take L _).ht l []).and fun _ => ht_ret { tyP 10 with nm := w, args := l } rfl rfl rfl) (ht_ret { tyP 10 with nm := w } rfl rfl rfl)
theorem ht_inner (m : Nat) {kd : PM Int} (h : Ht [] [] kd non one) : Ht [] [] (innerM L m kd) non one := ((mv_enterL m (startsV L)).ht _ _).and fun _ => h
abbrev tys (l : List CA) : List Int := l.map (·.t)
theorem ht_cases (m : Nat) {kd : PM Int} (h : Ht [] [] kd non one) : ∀ n l, Ht [] (tys l) (casesN L m kd n l) non tys
 | 0, l => Ht.pure l non tys
 | n + 1, l => Ht.at (((mv_room _).ht [] (tys l)).and fun _ => (mv_step.ht [] (tys l)).and fun _ => ((mv_number L).ht [] (tys l)).and fun c => ((mv_take L _).ht [] (tys l)).and fun _ =>
   (((ht_inner m h).more [] (tys l)).perm (a' := []) (b' := tys l) (f' := non) (g' := fun k => tys (l ++ [⟨c, k⟩])) (.refl _) (.refl _) (fun _ => .refl _) (fun k => by unfold tys; rw [List.map_append]; exact List.perm_append_comm)).and fun k =>
   ((mv_take L _).ht [] (tys (l ++ [⟨c, k⟩]))).and fun _ => ht_cases m h n _) (Ht.pure l non tys)
def may (k : Int) : List Int := if k = -1 then [] else [k]
theorem ht_choice (m : Nat) {kd : PM Int} (h : Ht [] [] kd non one) : Ht [] [] (choiceM L m kd) non one := by
 unfold choiceM
 refine ((mv_take L _).ht _ _).and fun _ => (ht_expr m).and fun x => ((mv_take L _).ht [x] []).and fun _ => ((mv_take L _).ht [x] []).and fun _ =>
  (((Ht.look fun s => ht_cases m h (L.length - s.i + 1) []).more [x] []).perm (a' := [x]) (b' := []) (f' := fun _ => [x]) (g' := tys) (.refl _) (.refl _) (fun _ => .refl _) (fun l => by rw [List.append_nil])).and fun cs =>
  Ht.and (f := fun _ => [x]) (g := fun k => may k ++ tys cs) (Ht.at ((mv_step.ht [x] (tys cs)).and fun _ => ((mv_take L _).ht [x] (tys cs)).and fun _ => Ht.and (f := fun _ => [x]) (g := fun k => may k ++ tys cs) ?_ fun k => ((mv_take L _).ht [x] (may k ++ tys cs)).and fun _ => Ht.pure k (fun _ => [x]) (fun k => may k ++ tys cs)) (Ht.pure (-1) (fun _ => [x]) (fun k => may k ++ tys cs))) fun k => ((mv_take L _).ht [x] (may k ++ tys cs)).and fun _ => ?_
 ·intro s p q hi v s' he
  have := (ht_inner m h).more [x] (tys cs) s p q hi v s' he
  have h1 := this.tr v (.inr (by simp))
  have e : may v = [v] := by unfold may; rw [if_neg (by omega)]
  dsimp only
  rw [e]
  exact this
 ·intro s p q hi v s' he
  have h0 := hi.xr x (.inr (by simp))
  have e1 : TY.subX { tyP 9 with ex := x, inn := k, cases := cs } = [x] := by unfold TY.subX; rw [if_neg (by show ¬ x = -1; omega)]; rfl
  have := ht_lay { tyP 9 with ex := x, inn := k, cases := cs } s p q
  rw [e1] at this
  exact this hi v s' he
theorem ht_word (m : Nat) {kd : PM Int} (h : Ht [] [] kd non one) (w : List UInt8) : Ht [] [] (wordM L m kd w) non one := by
 unfold wordM
 split
 ·rename_i k _
  refine (ht_bracket m).and fun x => Ht.and (f := fun _ => [x]) (g := may) ?_ fun i => ?_
  ·by_cases hk : k = 7 ∨ k = 8
   ·rw [if_pos hk]
    intro s p q hi v s' he
    have := (ht_inner m h).more [x] [] s p q hi v s' he
    have h1 := this.tr v (.inr (by simp))
    have e : may v = [v] := by unfold may; rw [if_neg (by omega)]
    rw [e]
    exact this
   ·rw [if_neg hk]; exact Ht.pure (-1) (fun _ => [x]) may
  ·intro s p q hi v s' he
   have h0 := hi.xr x (.inr (by simp))
   have e1 : TY.subX { tyP k with ex := x, inn := i } = [x] := by unfold TY.subX; rw [if_neg (by show ¬ x = -1; omega)]; rfl
   have e2 : TY.subT { tyP k with ex := x, inn := i } = may i := by unfold TY.subT may; simp [tyP]
   have := ht_lay { tyP k with ex := x, inn := i } s p q
   rw [e1, e2] at this
   exact this hi v s' he
 ·repeat' split
  ·refine (ht_inner m h).and fun i => ?_
   intro s p q hi v s' he
   have h1 := hi.tr i (.inr (by simp))
   have e2 : TY.subT { tyP 6 with inn := i } = [i] := by unfold TY.subT; rw [if_neg (by show ¬ i = -1; omega)]; rfl
   have := ht_lay { tyP 6 with inn := i } s p q
   rw [e2] at this
   exact this hi v s' he
  ·exact ht_lay1 (tyP 4) rfl rfl rfl
  ·exact ht_lay1 (tyP 11) rfl rfl rfl
  ·exact ht_choice m h
  ·have := ht_array (L := L) m { tyP 0 with size := ((integerV w).getD (0, false)).1, little := ((integerV w).getD (0, false)).2 }
   rwa [(sub_plain rfl rfl rfl).1, (sub_plain rfl rfl rfl).2] at this
theorem ht_kindF (m : Nat) {kd : PM Int} (h : Ht [] [] kd non one) : Ht [] [] (kindF L m kd) non one := by
 unfold kindF
 exact Ht.at ((ht_ref m).and fun t => ht_array m t) (Ht.at (Ht.look (f := fun s => stepM >>= fun _ => wordM L m kd (tk L s.i).t) fun s => (mv_step.ht _ _).and fun _ => ht_word m h _) Ht.fail)
theorem ht_kind : ∀ m, Ht [] [] (kindM L m) non one
 | 0 => ht_kindF 0 Ht.fail
 | m + 1 => ht_kindF _ (ht_kind m)
theorem mv_and {α β : Type} {x : PM α} {y : α → PM β} (hx : Moves x) (hy : ∀ v, Moves (y v)) : Moves (x >>= y) := fun s v s' he => by
 have he : PM.and x y s = .ok v s' := he
 unfold PM.and at he
 cases hxs : x s with
 | err i e => rw [hxs] at he; cases he
 | ok u s1 =>
  rw [hxs] at he
  obtain ⟨h1, h2⟩ := hx s u s1 hxs
  obtain ⟨h3, h4⟩ := hy u s1 v s' he
  exact ⟨h3.trans h1, h4.trans h2⟩
theorem mv_pure {α : Type} (v : α) : Moves (pure v : PM α) := fun s v s' he => by cases he; exact ⟨rfl, rfl⟩
theorem mv_fail {α : Type} (e : Nat) : Moves (failM e : PM α) := fun s v s' he => by cases he
theorem mv_at {α : Type} {p : Nat → Bool} {x y : PM α} (hx : Moves x) (hy : Moves y) : Moves (atM p x y) := fun s v s' he => by
 unfold atM at he
 by_cases hp : p s.i = true
 ·rw [if_pos hp] at he; exact hx s v s' he
 ·rw [if_neg hp] at he; exact hy s v s' he
theorem mv_look {α : Type} {f : PS → PM α} (h : ∀ s, Moves (f s)) : Moves (fun s => f s s) := fun s v s' he => h s s v s' he
theorem mw_derived : Moves (derivedM L) := mv_at (mv_look (f := fun s => stepM >>= fun _ => takeM L t_lpar >>= fun _ => nameM L >>= fun a =>
   (if 3 ≤ derOf (tk L s.i).t then takeM L t_dots >>= fun _ => nameM L else pure []) >>= fun b => takeM L t_rpar >>= fun _ => pure (derOf (tk L s.i).t, a, b)) fun s => mv_and mv_step fun _ => mv_and (mv_take L _) fun _ => mv_and (mv_name L) fun a => mv_and (by
   by_cases hd : 3 ≤ derOf (tk L s.i).t
   ·rw [if_pos hd]; exact mv_and (mv_take L _) fun _ => mv_name L
   ·rw [if_neg hd]; exact mv_pure _) fun b => mv_and (mv_take L _) fun _ => mv_pure _) (mv_fail 4)
theorem mv_subs : ∀ n l, Moves (subsN L n l)
 | 0, l => mv_pure _
 | n + 1, l => by
  rw [subsN]
  exact mv_and (mv_roomIf (namedV L ·) _) fun _ => mv_and (mv_name L) fun w => mv_and (mv_take L _) fun _ => mv_and (mv_number L) fun b => mv_and (mv_take L _) fun _ => mv_at (mv_subs n _) (mv_pure _)
theorem mv_pars : ∀ n l, Moves (parsN L n l)
 | 0, l => mv_pure _
 | n + 1, l => mv_at (mv_and mv_step fun _ => mv_and (mv_roomIf (namedV L ·) _) fun _ => mv_and (mv_name L) fun x => mv_pars n _) (mv_pure _)
theorem mw_const : Moves (constM L) := mv_and (mv_take L _) fun _ => mv_and (mv_name L) fun w => mv_and (mv_take L _) fun _ => mv_and (mv_number L) fun n => mv_and (mv_take L _) fun _ => mv_pure _
def itX (x : IT) : List Int := may x.wh
def itT (x : IT) : List Int := may x.ty
theorem ht_field : Ht [] [] (fieldM L) itX itT := by
 unfold fieldM
 refine ((mv_name L).ht _ _).and fun w => ((mv_take L _).ht _ _).and fun _ => (ht_kind 32).and fun t => Ht.and (f := fun _ => []) (g := fun _ => [t]) (Ht.at ((mv_step.ht _ _).and fun _ => mw_derived.ht [] [t]) ((mv_pure _).ht [] [t])) fun d =>
  Ht.and (f := may) (g := fun _ => [t]) (Ht.at ((mv_step.ht [] [t]).and fun _ => ?_) (by have := Ht.pure (-1) may (fun _ => [t]); rwa [show may (-1) = [] from if_pos rfl] at this)) fun x => ((mv_take L _).ht (may x) [t]).and fun _ => ?_
 ·intro s p q hi v s' he
  have := (ht_expr 32).more [] [t] s p q hi v s' he
  have h1 := this.xr v (.inr (by simp))
  have e : may v = [v] := by unfold may; rw [if_neg (by omega)]
  rw [e]
  exact this
 ·intro s p q hi v s' he
  have h1 := hi.tr t (.inr (by simp))
  cases he
  have e : itT ⟨w, t, d.1, d.2.1, d.2.2, x, 0, false, []⟩ = [t] := by unfold itT may; rw [if_neg (by show ¬ t = -1; omega)]
  rw [e]
  exact hi
theorem ht_pack : Ht [] [] (packM L) itX itT := by
 unfold packM
 refine ((mv_take L _).ht _ _).and fun _ => ?_
 intro s p q hi v s' he
 dsimp only at he
 split at he
 ·cases he
 ·rename_i z lt _
  have h1 : Moves (stepM >>= fun _ => takeM L t_lcur >>= fun _ => (fun s => subsN L (L.length - s.i + 1) [] s) >>= fun l => takeM L t_rcur >>= fun _ => pure (⟨[], -1, 0, [], [], -1, z, lt, l⟩ : IT)) :=
   mv_and mv_step fun _ => mv_and (mv_take L _) fun _ => mv_and (mv_look fun s => mv_subs _ _) fun l => mv_and (mv_take L _) fun _ => mv_pure _
  have h3 : v.ty = -1 ∧ v.wh = -1 := by
   have he : PM.and stepM (fun _ => takeM L t_lcur >>= fun _ => (fun s => subsN L (L.length - s.i + 1) [] s) >>= fun l => takeM L t_rcur >>= fun _ => pure (⟨[], -1, 0, [], [], -1, z, lt, l⟩ : IT)) s = .ok v s' := he
   unfold PM.and stepM at he
   dsimp only at he
   have he : PM.and (takeM L t_lcur) (fun _ => (fun s => subsN L (L.length - s.i + 1) [] s) >>= fun l => takeM L t_rcur >>= fun _ => pure (⟨[], -1, 0, [], [], -1, z, lt, l⟩ : IT)) _ = .ok v s' := he
   unfold PM.and at he
   split at he
   ·have he : PM.and (fun s => subsN L (L.length - s.i + 1) [] s) (fun l => takeM L t_rcur >>= fun _ => pure (⟨[], -1, 0, [], [], -1, z, lt, l⟩ : IT)) _ = .ok v s' := he
    unfold PM.and at he
    split at he
    ·have he : PM.and (takeM L t_rcur) (fun _ => pure (⟨[], -1, 0, [], [], -1, z, lt, _⟩ : IT)) _ = .ok v s' := he
     unfold PM.and at he
     split at he
     ·cases he; exact ⟨rfl, rfl⟩
     ·cases he
    ·cases he
   ·cases he
  have := h1.ht [] [] s p q hi v s' he
  have e1 : itX v = [] := by unfold itX may; rw [if_pos h3.2]
  have e2 : itT v = [] := by unfold itT may; rw [if_pos h3.1]
  rw [e1, e2]
  exact this
theorem ht_items : ∀ n l, Ht (l.flatMap itX) (l.flatMap itT) (itemsN L n l) (fun l => l.flatMap itX) (fun l => l.flatMap itT)
 | 0, l => Ht.pure l (fun l => l.flatMap itX) (fun l => l.flatMap itT)
 | n + 1, l => Ht.at (((mv_room _).ht _ _).and fun _ => (((Ht.at ht_pack ht_field).more (l.flatMap itX) (l.flatMap itT)).perm (a' := l.flatMap itX) (b' := l.flatMap itT) (f' := fun x => (l ++ [x]).flatMap itX) (g' := fun x => (l ++ [x]).flatMap itT) (.refl _) (.refl _)
   (fun x => by rw [List.flatMap_append, List.flatMap_singleton]; exact List.perm_append_comm) (fun x => by rw [List.flatMap_append, List.flatMap_singleton]; exact List.perm_append_comm)).and fun x => ht_items n _) (Ht.pure l (fun l => l.flatMap itX) (fun l => l.flatMap itT))
def rcX (r : RC) : List Int := r.its.flatMap itX
def rcT (r : RC) : List Int := r.its.flatMap itT
theorem ht_record : Ht [] [] (recordM L) rcX rcT := by
 unfold recordM
 exact ((mv_take L _).ht _ _).and fun _ => ((mv_name L).ht _ _).and fun w =>
  ((mv_at (mv_and mv_step fun _ => mv_and (mv_name L) fun x => mv_and (mv_look fun s => mv_pars _ _) fun l => mv_and (mv_take L _) fun _ => mv_pure _) (mv_pure _)).ht [] []).and fun ps =>
  ((mv_take L _).ht _ _).and fun _ => (Ht.look fun s => ht_items _ []).and fun is => ((mv_take L _).ht (is.flatMap itX) (is.flatMap itT)).and fun _ => Ht.pure (⟨w, ps, is⟩ : RC) rcX rcT
theorem ht_whole : ∀ n cs (rs : List RC), Ht (rs.flatMap rcX) (rs.flatMap rcT) (wholeN L n cs rs) (fun p => p.2.flatMap rcX) (fun p => p.2.flatMap rcT)
 | 0, cs, rs => Ht.pure (cs, rs) (fun p => p.2.flatMap rcX) (fun p => p.2.flatMap rcT)
 | n + 1, cs, rs => Ht.at (((mv_room _).ht _ _).and fun _ => (mw_const.ht _ _).and fun c => ht_whole n _ rs)
  (Ht.at (((mv_room _).ht _ _).and fun _ => ((ht_record.more (rs.flatMap rcX) (rs.flatMap rcT)).perm (a' := rs.flatMap rcX) (b' := rs.flatMap rcT) (f' := fun x => (rs ++ [x]).flatMap rcX) (g' := fun x => (rs ++ [x]).flatMap rcT) (.refl _) (.refl _)
   (fun x => by rw [List.flatMap_append, List.flatMap_singleton]; exact List.perm_append_comm) (fun x => by rw [List.flatMap_append, List.flatMap_singleton]; exact List.perm_append_comm)).and fun x => ht_whole n _ _)
  (Ht.at (Ht.pure (cs, rs) (fun p => p.2.flatMap rcX) (fun p => p.2.flatMap rcT)) Ht.fail))
theorem file_order {R : LR} {cs : List CO} {rs : List RC} {xs : List EX} {ts : List TY} (h : fileV R = .ok cs rs xs ts) : OInv ⟨0, xs, ts⟩ (rs.flatMap rcX) (rs.flatMap rcT) := by
 unfold fileV at h
 split at h
 ·cases h
 ·rename_i L
  split at h
  ·rename_i c r s hw
   cases h
   have h0 : OInv ⟨0, [], []⟩ [] [] := ⟨fun j h => absurd h (Nat.not_lt_zero _), fun j h => by simp [usesX] at h, fun i x h => by simp at h, fun j h => absurd h (Nat.not_lt_zero _), fun j h => by simp [usesT] at h, fun i x h => by simp at h⟩
   have := ht_whole (L := L) (L.length + 1) [] [] ⟨0, [], []⟩ [] [] h0 _ _ hw
   rw [List.append_nil, List.append_nil] at this
   exact this.step 0
  ·cases h
end
end Go.Proofs.YtoingpafcodojaaGreatDoor

namespace Go.Proofs.YtoingpafcodojaaGreatDoor

class NumC (L : List TokP) : Prop where
 h : ∀ i, (tk L i).n < 18446744073709551616
structure GoodS (B : Nat) (s : PS) : Prop where
 x : ∀ e ∈ s.xs, e.kids.length ≤ B ∧ e.n < 18446744073709551616
 t : ∀ t ∈ s.ts, t.args.length ≤ B ∧ t.cases.length ≤ B
def Szd (B : Nat) {α : Type} (x : PM α) (R : α → Prop) : Prop := ∀ s v s', GoodS B s → x s = .ok v s' → GoodS B s' ∧ R v
section
variable {B : Nat} {L : List TokP} [NumC L]
theorem Szd.and {α β : Type} {x : PM α} {f : α → PM β} {R : α → Prop} {Q : β → Prop} (hx : Szd B x R) (hf : ∀ v, R v → Szd B (f v) Q) : Szd B (x >>= f) Q := fun s v s' h he => by
 have he : PM.and x f s = .ok v s' := he
 unfold PM.and at he
 cases hxs : x s with
 | err i e => rw [hxs] at he; cases he
 | ok u s1 =>
  rw [hxs] at he
  obtain ⟨h1, h2⟩ := hx s u s1 h hxs
  exact hf u h2 s1 v s' h1 he
theorem Szd.pure {α : Type} {R : α → Prop} (v : α) (h : R v) : Szd B (pure v) R := fun s v' s' hs he => by cases he; exact ⟨hs, h⟩
theorem Szd.fail {α : Type} {R : α → Prop} (e : Nat) : Szd B (failM e : PM α) R := fun s v s' hs he => by cases he
theorem Szd.at {α : Type} {p : Nat → Bool} {x y : PM α} {R : α → Prop} (hx : Szd B x R) (hy : Szd B y R) : Szd B (atM p x y) R := fun s v s' h he => by
 unfold atM at he
 by_cases hp : p s.i = true
 ·rw [if_pos hp] at he; exact hx s v s' h he
 ·rw [if_neg hp] at he; exact hy s v s' h he
theorem Szd.look {α : Type} {f : PS → PM α} {R : α → Prop} (h : ∀ s, Szd B (f s) R) : Szd B (fun s => f s s) R := fun s v s' hs he => h s s v s' hs he
theorem Szd.moves {α : Type} {x : PM α} (h : Moves x) : Szd B x (fun _ => True) := fun s v s' hs he => by
 obtain ⟨h1, h2⟩ := h s v s' he
 exact ⟨⟨by rw [h1]; exact hs.x, by rw [h2]; exact hs.t⟩, trivial⟩
theorem Szd.put (x : EX) (h : x.kids.length ≤ B ∧ x.n < 18446744073709551616) : Szd B (putM x) (fun _ => True) := fun s v s' hs he => by
 cases he
 refine ⟨⟨fun e hm => ?_, hs.t⟩, trivial⟩
 rcases List.mem_append.1 hm with hm | hm
 ·exact hs.x e hm
 ·rw [List.mem_singleton.1 hm]; exact h
theorem Szd.lay (t : TY) (h : t.args.length ≤ B) (h2 : t.cases.length ≤ B) : Szd B (layM t) (fun _ => True) := fun s v s' hs he => by
 cases he
 refine ⟨⟨hs.x, fun e hm => ?_⟩, trivial⟩
 rcases List.mem_append.1 hm with hm | hm
 ·exact hs.t e hm
 ·rw [List.mem_singleton.1 hm]; exact ⟨h, h2⟩
abbrev tru {α : Type} : α → Prop := fun _ => True
theorem sz_number : Szd B (numberM L) (fun n => n < 18446744073709551616) := fun s v s' hs he => by
 unfold numberM at he
 split at he
 ·cases he
  exact ⟨⟨hs.x, hs.t⟩, NumC.h _⟩
 ·cases he
theorem sz_un (hB : 2 ≤ B) (m : Nat) {un ex : PM Int} (h1 : Szd B un tru) (h2 : Szd B ex tru) : Szd B (unF L m un ex) tru :=
 Szd.at ((Szd.moves (mv_step)).and fun _ _ => (Szd.moves (mv_enterL m _)).and fun _ _ => h1.and fun k _ => Szd.put _ ⟨by show 1 ≤ B; omega, by show 0 < _; omega⟩)
 (Szd.at ((Szd.moves (mv_step)).and fun _ _ => (Szd.moves (mv_enterL m _)).and fun _ _ => h2.and fun k _ => (Szd.moves (mv_take L _)).and fun _ _ => Szd.pure _ trivial)
 (Szd.at ((Szd.moves (mv_name L)).and fun w _ => Szd.put _ ⟨Nat.zero_le _, by show 0 < _; omega⟩) (sz_number.and fun w hw => Szd.put _ ⟨Nat.zero_le _, hw⟩)))
omit [NumC L] in
theorem sz_line (hB : 2 ≤ B) (lv : Nat) {x : PM Int} (hx : Szd B x tru) : ∀ n left, Szd B (lineN L lv x n left) tru
 | 0, left => Szd.pure _ trivial
 | n + 1, left => Szd.look (f := fun s => atM (opAt L lv) (stepM >>= fun _ => x >>= fun right => putM ⟨3, (tk L s.i).t, 0, [], [left, right]⟩ >>= fun k => lineN L lv x n k) (pure left)) fun s =>
  Szd.at ((Szd.moves mv_step).and fun _ _ => hx.and fun r _ => (Szd.put _ ⟨by show 2 ≤ B; omega, by show 0 < _; omega⟩).and fun k _ => sz_line hB lv hx n k) (Szd.pure _ trivial)
omit [NumC L] in
theorem sz_lineJ (hB : 2 ≤ B) {un : PM Int} (hx : Szd B un tru) : ∀ j, Szd B (lineJ L un j) tru
 | 0 => hx
 | j + 1 => (sz_lineJ hB hx j).and fun left _ => Szd.look fun s => sz_line hB _ (sz_lineJ hB hx j) _ _
theorem sz_unM (hB : 2 ≤ B) : ∀ m, Szd B (unM L m) tru
 | 0 => sz_un hB 0 (Szd.fail _) (Szd.fail _)
 | m + 1 => sz_un hB _ (sz_unM hB m) (sz_lineJ hB (sz_unM hB m) 8)
theorem sz_expr (hB : 2 ≤ B) (m : Nat) : Szd B (exprM L m) tru := sz_lineJ hB (sz_unM hB m) 8
theorem sz_bracket (hB : 2 ≤ B) (m : Nat) : Szd B (bracketM L m) tru := (Szd.moves (mv_take L _)).and fun _ _ => (sz_expr hB m).and fun k _ => (Szd.moves (mv_take L _)).and fun _ _ => Szd.pure _ trivial
def tyS (B : Nat) (t : TY) : Prop := t.args.length ≤ B ∧ t.cases.length ≤ B
theorem sz_array (hB : 2 ≤ B) (m : Nat) (t : TY) (ht : tyS B t) : Szd B (arrayM L m t) tru :=
 (Szd.lay t ht.1 ht.2).and fun k _ => Szd.at ((sz_bracket hB m).and fun x _ => Szd.lay _ (Nat.zero_le _) (Nat.zero_le _)) (Szd.pure _ trivial)
theorem sz_args (hB : 2 ≤ B) (m : Nat) : ∀ n l, l.length + n ≤ B → Szd B (argsN L m n l) (fun l => l.length ≤ B)
 | 0, l, h => Szd.pure _ (by omega)
 | n + 1, l, h => Szd.at ((Szd.moves mv_step).and fun _ _ => (Szd.moves (mv_roomIf _ _)).and fun _ _ => (sz_expr hB m).and fun x _ => sz_args hB m n (l ++ [x]) (by rw [List.length_append, List.length_singleton]; omega)) (Szd.pure _ (by omega))
theorem sz_ref (hB : L.length + 2 ≤ B) (m : Nat) : Szd B (refM L m) (tyS B) :=
 (Szd.moves (mv_name L)).and fun w _ => Szd.at ((Szd.moves mv_step).and fun _ _ => (sz_expr (by omega) m).and fun x _ => (Szd.look fun s => sz_args (by omega) m _ [x] (by show 1 + (L.length - s.i + 1) ≤ B; omega)).and fun l hl => (Szd.moves (mv_take L _)).and fun _ _ => Szd.pure _ ⟨hl, Nat.zero_le _⟩) (Szd.pure _ ⟨Nat.zero_le _, Nat.zero_le _⟩)
section
variable {kd : PM Int}
omit [NumC L] in
theorem sz_inner (m : Nat) (h : Szd B kd tru) : Szd B (innerM L m kd) tru := (Szd.moves (mv_enterL m _)).and fun _ _ => h
omit [NumC L] in
theorem sz_cases (m : Nat) (h : Szd B kd tru) : ∀ n l, l.length + n ≤ B → Szd B (casesN L m kd n l) (fun l => l.length ≤ B)
 | 0, l, hl => Szd.pure _ (by omega)
 | n + 1, l, hl => Szd.at ((Szd.moves (mv_room _)).and fun _ _ => (Szd.moves mv_step).and fun _ _ => (Szd.moves (mv_number L)).and fun c _ => (Szd.moves (mv_take L _)).and fun _ _ => (sz_inner m h).and fun k _ => (Szd.moves (mv_take L _)).and fun _ _ => sz_cases m h n (l ++ [⟨c, k⟩]) (by rw [List.length_append, List.length_singleton]; omega)) (Szd.pure _ (by omega))
theorem sz_choice (hB : L.length + 2 ≤ B) (m : Nat) (h : Szd B kd tru) : Szd B (choiceM L m kd) tru :=
 (Szd.moves (mv_take L _)).and fun _ _ => (sz_expr (by omega) m).and fun x _ => (Szd.moves (mv_take L _)).and fun _ _ => (Szd.moves (mv_take L _)).and fun _ _ => (Szd.look fun s => sz_cases m h _ [] (by show 0 + (L.length - s.i + 1) ≤ B; omega)).and fun cs hcs =>
  (Szd.at ((Szd.moves mv_step).and fun _ _ => (Szd.moves (mv_take L _)).and fun _ _ => (sz_inner m h).and fun k _ => (Szd.moves (mv_take L _)).and fun _ _ => Szd.pure _ trivial) (Szd.pure (R := tru) _ trivial)).and fun k _ => (Szd.moves (mv_take L _)).and fun _ _ => Szd.lay _ (Nat.zero_le _) hcs
theorem sz_word (hB : L.length + 2 ≤ B) (m : Nat) (h : Szd B kd tru) (w : List UInt8) : Szd B (wordM L m kd w) tru := by
 unfold wordM
 split
 ·refine (sz_bracket (by omega) m).and fun x _ => Szd.and (R := tru) ?_ fun i _ => Szd.lay _ (Nat.zero_le _) (Nat.zero_le _)
  split
  ·exact sz_inner m h
  ·exact Szd.pure _ trivial
 ·repeat' split
  ·exact (sz_inner m h).and fun i _ => Szd.lay _ (Nat.zero_le _) (Nat.zero_le _)
  ·exact Szd.lay _ (Nat.zero_le _) (Nat.zero_le _)
  ·exact Szd.lay _ (Nat.zero_le _) (Nat.zero_le _)
  ·exact sz_choice hB m h
  ·exact sz_array (by omega) m _ ⟨Nat.zero_le _, Nat.zero_le _⟩
theorem sz_kindF (hB : L.length + 2 ≤ B) (m : Nat) (h : Szd B kd tru) : Szd B (kindF L m kd) tru :=
 Szd.at ((sz_ref hB m).and fun t ht => sz_array (by omega) m t ht) (Szd.look (f := fun s => atM (startsV L ·) (stepM >>= fun _ => wordM L m kd (tk L s.i).t) (failM 4)) fun s => Szd.at ((Szd.moves mv_step).and fun _ _ => sz_word hB m h _) (Szd.fail _))
end
theorem sz_kind (hB : L.length + 2 ≤ B) : ∀ m, Szd B (kindM L m) tru
 | 0 => sz_kindF hB 0 (Szd.fail _)
 | m + 1 => sz_kindF hB _ (sz_kind hB m)
def itS (B : Nat) (x : IT) : Prop := x.subs.length ≤ B
def rcS (B : Nat) (r : RC) : Prop := r.ps.length ≤ B ∧ r.its.length ≤ B ∧ ∀ x ∈ r.its, itS B x
theorem sz_field (hB : L.length + 2 ≤ B) : Szd B (fieldM L) (itS B) :=
 (Szd.moves (mv_name L)).and fun w _ => (Szd.moves (mv_take L _)).and fun _ _ => (sz_kind hB 32).and fun t _ => (Szd.moves (mv_at (mv_and mv_step fun _ => mw_derived (L := L)) (mv_pure _))).and fun d _ =>
  (Szd.at ((Szd.moves mv_step).and fun _ _ => sz_expr (by omega) 32) (Szd.pure (R := tru) _ trivial)).and fun x _ => (Szd.moves (mv_take L _)).and fun _ _ => Szd.pure _ (Nat.zero_le _)
omit [NumC L] in
theorem sz_subs : ∀ n l, l.length + n ≤ B → Szd B (subsN L n l) (fun l => l.length ≤ B)
 | 0, l, h => Szd.pure _ (by omega)
 | n + 1, l, h => by
  rw [subsN]
  exact (Szd.moves (mv_roomIf _ _)).and fun _ _ => (Szd.moves (mv_name L)).and fun w _ => (Szd.moves (mv_take L _)).and fun _ _ => (Szd.moves (mv_number L)).and fun b _ => (Szd.moves (mv_take L _)).and fun _ _ =>
   Szd.at (sz_subs n _ (by rw [List.length_append, List.length_singleton]; omega)) (Szd.pure _ (by rw [List.length_append, List.length_singleton]; omega))
omit [NumC L] in
theorem sz_pack (hB : L.length + 2 ≤ B) : Szd B (packM L) (itS B) := by
 unfold packM
 refine (Szd.moves (mv_take L _)).and fun _ _ => fun s v s' hs he => ?_
 split at he
 ·cases he
 ·rename_i z lt _
  exact ((Szd.moves mv_step).and fun _ _ => (Szd.moves (mv_take L t_lcur)).and fun _ _ => (Szd.look fun s => sz_subs (L := L) (L.length - s.i + 1) [] (by show 0 + (L.length - s.i + 1) ≤ B; omega)).and fun l hl => (Szd.moves (mv_take L t_rcur)).and fun _ _ => Szd.pure (⟨[], -1, 0, [], [], -1, z, lt, l⟩ : IT) (R := itS B) hl) s v s' hs he
omit [NumC L] in
theorem sz_pars : ∀ n l, l.length + n ≤ B → Szd B (parsN L n l) (fun l => l.length ≤ B)
 | 0, l, h => Szd.pure _ (by omega)
 | n + 1, l, h => Szd.at ((Szd.moves mv_step).and fun _ _ => (Szd.moves (mv_roomIf _ _)).and fun _ _ => (Szd.moves (mv_name L)).and fun x _ => sz_pars n (l ++ [x]) (by rw [List.length_append, List.length_singleton]; omega)) (Szd.pure _ (by omega))
theorem sz_items (hB : L.length + 2 ≤ B) : ∀ n l, l.length + n ≤ B → (∀ x ∈ l, itS B x) → Szd B (itemsN L n l) (fun l => l.length ≤ B ∧ ∀ x ∈ l, itS B x)
 | 0, l, h, hi => Szd.pure _ ⟨by omega, hi⟩
 | n + 1, l, h, hi => Szd.at ((Szd.moves (mv_room _)).and fun _ _ => (Szd.at (sz_pack hB) (sz_field hB)).and fun x hx => sz_items hB n (l ++ [x]) (by rw [List.length_append, List.length_singleton]; omega) (fun y hy => by
   rcases List.mem_append.1 hy with hy | hy
   ·exact hi y hy
   ·rw [List.mem_singleton.1 hy]; exact hx)) (Szd.pure _ ⟨by omega, hi⟩)
theorem sz_record (hB : L.length + 2 ≤ B) : Szd B (recordM L) (rcS B) := by
 unfold recordM
 exact (Szd.moves (mv_take L _)).and fun _ _ => (Szd.moves (mv_name L)).and fun w _ =>
  (Szd.at ((Szd.moves mv_step).and fun _ _ => (Szd.moves (mv_name L)).and fun x _ => (Szd.look fun s => sz_pars (L := L) _ [x] (by show 1 + (L.length - s.i + 1) ≤ B; omega)).and fun l hl => (Szd.moves (mv_take L _)).and fun _ _ => Szd.pure l (R := fun l => l.length ≤ B) hl) (Szd.pure [] (R := fun l => l.length ≤ B) (Nat.zero_le _))).and fun ps hps =>
  (Szd.moves (mv_take L _)).and fun _ _ => (Szd.look fun s => sz_items hB _ [] (by show 0 + (L.length - s.i + 1) ≤ B; omega) (by simp)).and fun is his => (Szd.moves (mv_take L _)).and fun _ _ => Szd.pure (⟨w, ps, is⟩ : RC) (R := rcS B) ⟨hps, his.1, his.2⟩
theorem sz_whole (hB : L.length + 2 ≤ B) : ∀ n cs rs, cs.length + n ≤ B → rs.length + n ≤ B → (∀ r ∈ rs, rcS B r) → Szd B (wholeN L n cs rs) (fun p => p.1.length ≤ B ∧ p.2.length ≤ B ∧ ∀ r ∈ p.2, rcS B r)
 | 0, cs, rs, h1, h2, h3 => Szd.pure _ ⟨by show cs.length ≤ B; omega, by show rs.length ≤ B; omega, h3⟩
 | n + 1, cs, rs, h1, h2, h3 => Szd.at ((Szd.moves (mv_room _)).and fun _ _ => (Szd.moves (mw_const (L := L))).and fun c _ => sz_whole hB n _ rs (by rw [List.length_append, List.length_singleton]; omega) (by omega) h3)
  (Szd.at ((Szd.moves (mv_room _)).and fun _ _ => (sz_record hB).and fun r hr => sz_whole hB n cs _ (by omega) (by rw [List.length_append, List.length_singleton]; omega) (fun y hy => by
   rcases List.mem_append.1 hy with hy | hy
   ·exact h3 y hy
   ·rw [List.mem_singleton.1 hy]; exact hr))
  (Szd.at (Szd.pure _ ⟨by show cs.length ≤ B; omega, by show rs.length ≤ B; omega, h3⟩) (Szd.fail _)))
theorem file_sized {cs : List CO} {rs : List RC} {xs : List EX} {ts : List TY} (hB : L.length + 2 ≤ B) (h : fileV (.ok L) = .ok cs rs xs ts) : GoodS B ⟨0, xs, ts⟩ ∧ cs.length ≤ B ∧ rs.length ≤ B ∧ ∀ r ∈ rs, rcS B r := by
 unfold fileV at h
 dsimp only at h
 split at h
 ·rename_i c r s hw
  cases h
  obtain ⟨h1, h2⟩ := sz_whole hB (L.length + 1) [] [] (by show 0 + (L.length + 1) ≤ B; omega) (by show 0 + (L.length + 1) ≤ B; omega) (by simp) ⟨0, [], []⟩ _ _ ⟨by simp, by simp⟩ hw
  exact ⟨⟨h1.x, h1.t⟩, h2⟩
 ·cases h
end
end Go.Proofs.YtoingpafcodojaaGreatDoor
