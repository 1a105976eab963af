/- Texts that the last one leans on: Words: Word, Integer, Keyword, Level. Condition: none. The parser's small functions over its tokens. Conditions: the place within the tokens. The parser's expressions. Conditions: the tokens end with the end; at most 100000 of them. The parser's lines of operators; its expressions. Conditions: the tokens end with the end; at most 100000 of them. The parser's types: brackets, arrays, references. Conditions: the tokens end with the end; at most 100000 of them. The parser's references. Conditions: the tokens end with the end; at most 100000 of them. The parser's switches. Conditions: the tokens end with the end; at most 100000 of them. The parser's types. Conditions: the tokens end with the end; at most 100000 of them. The parser's types that begin with a word. Conditions: the tokens end with the end; at most 100000 of them. The parser's items: how a field is derived; fields. Conditions: the tokens end with the end; at most 100000 of them. The parser's fields and packs; consts. Conditions: the tokens end with the end; at most 100000 of them. Plain law of the parser: the place never goes back; a field and a pack read at least one token. No condition. The parser's packs. Conditions: the tokens end with the end; at most 100000 of them. The parser's structs. Conditions: the tokens end with the end; at most 100000 of them. The parser of a whole description. Conditions: the tokens end with the end; at most 100000 of them. Parse's deferred closure. Con -/
import Derived.WalkKit
import Derived.Test.YtoingpafcodojaaGreatDoorBnd1
import Derived.Test.YtoingpafcodojaaGreatDoorBnd2
import Derived.Test.YtoingpafcodojaaGreatDoorBnd3
set_option linter.unusedVariables false
set_option linter.unusedSimpArgs false
set_option maxRecDepth 100000
namespace Go.Proofs.YtoingpafcodojaaGreatDoor
open Go.RowKit

def wordF (size : Int) (little : Bool) : List UInt8 :=
 let e : List UInt8 := if little = true then [108, 101] else [98, 101]
 if size = 1 then [117, 56] else if size = 2 then [117, 49, 54] ++ e else if size = 3 then [117, 50, 52] ++ e else if size = 4 then [117, 51, 50] ++ e else if size = 8 then [117, 54, 52] ++ e else []
theorem word_c (size : Int) (little : Bool) : CallsA Tryz.prog Γ0 114 [c1 (di size), c1 (db little)] (Tstr (bs (wordF size little))) := by
 by_cases h : size = 1 ∨ size = 2 ∨ size = 3 ∨ size = 4 ∨ size = 8
 ·rcases h with rfl | rfl | rfl | rfl | rfl <;> cases little
  all_goals
   refine fn_rule (C := ⟨Tryz.prog, layF, Tryz.f114.ntmps, Γ0, 0, [], []⟩) layF_ok mixed Tryz.func114 rfl (by kernel_rfl) rfl rfl rfl ?_
   repeat' (first | refine (and_mk (by decide)) ?_ | refine qg1 ?_ | refine eD ?_ ?_ <;> intro)
   first | exact TLe.rfl | exact TLe.eq (congrArg (fun s => Tstr s) (bs_app _ _))
 ·rw [show wordF size little = [] by unfold wordF; rw [if_neg (by omega), if_neg (by omega), if_neg (by omega), if_neg (by omega), if_neg (by omega)]]
  cases little
  all_goals
   refine fn_rule (C := ⟨Tryz.prog, layF, Tryz.f114.ntmps, Γ0, 0, [], []⟩) layF_ok mixed Tryz.func114 rfl (by kernel_rfl) rfl rfl rfl ?_
   repeat' (first | refine qgs ?_ | refine eD ?_ ?_ <;> intro)
   exact TLe.rfl
theorem level_c (w : List UInt8) : CallsA Tryz.prog Γ0 154 [c1 (ds (bs w))] (Ti (levelV w)) := by
 by_cases hm : w ∈ levelsL.map (·.1)
 ·simp only [levelsL, List.map_cons, List.map_nil, List.mem_cons, List.not_mem_nil, or_false] at hm
  rcases hm with rfl | rfl | rfl | rfl | rfl | rfl | rfl | rfl | rfl | rfl | rfl | rfl | rfl | rfl | rfl | rfl | rfl
  all_goals
   refine fn_rule (C := ⟨Tryz.prog, layF, Tryz.f154.ntmps, Γ0, 0, [], []⟩) layF_ok mixed Tryz.func154 rfl (by kernel_rfl) rfl rfl rfl ?_
   repeat' (first | refine qgs ?_ | refine eD ?_ ?_ <;> intro)
   exact TLe.eq (congrArg (fun n : Nat => Ti (n : Int)) (show _ = levelV _ by decide +kernel))
 ·have hne : ∀ l, l ∈ levelsL.map (·.1) → ¬ bs w = bs l := fun l hl he => hm (by rw [bsj.1 he]; exact hl)
  have h0 : levelV w = 0 := by
   have : List.find? (fun p => p.1 == w) levelsL = none := List.find?_eq_none.2 (fun p hp he => hm (List.mem_map.2 ⟨p, hp, by simpa using he⟩))
   unfold levelV; rw [this]; rfl
  rw [h0]
  refine fn_rule (C := ⟨Tryz.prog, layF, Tryz.f154.ntmps, Γ0, 0, [], []⟩) layF_ok mixed Tryz.func154 rfl (by kernel_rfl) rfl rfl rfl ?_
  repeat' (first | refine ex_false (hne _ (by decide)) ?_ | refine qg1 ?_ | refine eD ?_ ?_ <;> intro)
  exact TLe.rfl
def szL : List Nat := [1, 2, 3, 4, 8]
theorem integer_none {w : List UInt8} (h : ∀ k, k < 5 → ∀ l, wordF (szL.getD k 0 : Nat) l ≠ w) : integerV w = none := by
 have hn : w ∉ intsL.map (·.1) := by
  intro hm
  simp only [intsL, List.map_cons, List.map_nil, List.mem_cons, List.not_mem_nil, or_false] at hm
  rcases hm with rfl | rfl | rfl | rfl | rfl | rfl | rfl | rfl | rfl
  ·exact h 0 (by decide) false rfl
  ·exact h 1 (by decide) false rfl
  ·exact h 1 (by decide) true rfl
  ·exact h 2 (by decide) false rfl
  ·exact h 2 (by decide) true rfl
  ·exact h 3 (by decide) false rfl
  ·exact h 3 (by decide) true rfl
  ·exact h 4 (by decide) false rfl
  ·exact h 4 (by decide) true rfl
 exact Option.map_eq_none_iff.2 (List.find?_eq_none.2 fun p hp he => hn (List.mem_map.2 ⟨p, hp, by simpa using he⟩))
def intTV : Option (Nat × Bool) → TV
 | some (n, l) => .tup [c1 (di n), c1 (db l), c1 (db true)]
 | none => .tup [c1 (di 0), c1 (db false), c1 (db false)]
set_option maxHeartbeats 2000000 in
theorem integer_c (w : List UInt8) : CallsA Tryz.prog Γ0 82 [c1 (ds (bs w))] (intTV (integerV w)) := by
 refine fn_rule (C := ⟨Tryz.prog, layF, Tryz.f82.ntmps, Γ0, 0, [], []⟩) layF_ok mixed Tryz.func82 rfl (by kernel_rfl) rfl rfl rfl ?_
 repeat' (first | refine qgs ?_ | refine eD ?_ ?_ <;> intro)
 refine ex_loop (X := Nat) (fun i => ⟨[(0, Tstr (bs w)), (9, .o (gD [di 1, di 2, di 3, di 4, di 8])), (10, Ti i)], [], 0⟩) (fun i => 5 - i) (fun i => i ≤ 5 ∧ ∀ k, k < i → ∀ l, wordF (szL.getD k 0 : Nat) l ≠ w) 0 ⟨by omega, fun k h => absurd h (by omega)⟩ sS ?_
 rintro i ⟨hi, hP⟩
 by_cases h5 : i = 5
 ·subst h5
  rw [integer_none hP]
  repeat' (first | refine qgs ?_ | refine eD ?_ ?_ <;> intro)
  exact TLe.rfl
 ·have key : ∀ (z : Nat), szL.getD i 0 = z → (∀ l, wordF z l ≠ w) → ∀ k, k < i + 1 → ∀ l, wordF (szL.getD k 0 : Nat) l ≠ w := fun z hz hl k hk l => by
   by_cases e : k = i
   ·subst e; rw [hz]; exact hl l
   ·exact hP k (by omega) l
  rcases (show i = 0 ∨ i = 1 ∨ i = 2 ∨ i = 3 ∨ i = 4 by omega) with rfl | rfl | rfl | rfl | rfl
  ·repeat' (first | refine (ex_is ([.d (di 1)] : List CV) rfl) ?_ | refine qg1 ?_ | refine eD ?_ ?_ <;> intro)
   refine ex_loop (X := Nat) (fun j => ⟨[(0, Tstr (bs w)), (6, Ti 1), (9, .o (gD [di 1, di 2, di 3, di 4, di 8])), (10, Ti 0), (13, .o (gD [db false, db true])), (14, Ti j)], [], 0⟩) (fun j => 2 - j) (fun j => j ≤ 2 ∧ (0 < j → wordF 1 false ≠ w) ∧ (1 < j → wordF 1 true ≠ w)) 0 ⟨by omega, fun h => absurd h (by omega), fun h => absurd h (by omega)⟩ sS ?_
   rintro j ⟨hj, q0, q1⟩
   rcases (show j = 0 ∨ j = 1 ∨ j = 2 by omega) with rfl | rfl | rfl
   ·repeat' (first | refine ex_call (word_c 1 false) ?_ | refine (ex_is ([.d (db false)] : List CV) rfl) ?_ | refine qg1 ?_ | refine eD ?_ ?_ <;> intro)
    ·rename_i e
     obtain rfl := bsj.1 e
     exact TLe.rfl
    ·rename_i e
     exact ex_round 1 ⟨by omega, fun _ h => e (by rw [h]), fun h => absurd h (by omega)⟩ (by show 2 - 1 < 2 - 0; decide) sS
   ·repeat' (first | refine ex_call (word_c 1 true) ?_ | refine (ex_is ([.d (db true)] : List CV) rfl) ?_ | refine qg1 ?_ | refine eD ?_ ?_ <;> intro)
    ·rename_i e
     obtain rfl := bsj.1 e
     first | exact TLe.rfl | exact absurd rfl (q0 (by omega))
    ·rename_i e
     exact ex_round 2 ⟨by omega, fun _ => q0 (by omega), fun _ h => e (by rw [h])⟩ (by show 2 - 2 < 2 - 1; decide) sS
   ·repeat' (first | refine qgs ?_ | refine eD ?_ ?_ <;> intro)
    exact ex_round (0 + 1) ⟨by omega, key 1 (by decide) fun l => by cases l; exact q0 (by omega); exact q1 (by omega)⟩ (by show 5 - (0 + 1) < 5 - 0; omega) sS
  ·repeat' (first | refine (ex_is ([.d (di 2)] : List CV) rfl) ?_ | refine qg1 ?_ | refine eD ?_ ?_ <;> intro)
   refine ex_loop (X := Nat) (fun j => ⟨[(0, Tstr (bs w)), (6, Ti 2), (9, .o (gD [di 1, di 2, di 3, di 4, di 8])), (10, Ti 1), (13, .o (gD [db false, db true])), (14, Ti j)], [], 0⟩) (fun j => 2 - j) (fun j => j ≤ 2 ∧ (0 < j → wordF 2 false ≠ w) ∧ (1 < j → wordF 2 true ≠ w)) 0 ⟨by omega, fun h => absurd h (by omega), fun h => absurd h (by omega)⟩ sS ?_
   rintro j ⟨hj, q0, q1⟩
   rcases (show j = 0 ∨ j = 1 ∨ j = 2 by omega) with rfl | rfl | rfl
   ·repeat' (first | refine ex_call (word_c 2 false) ?_ | refine (ex_is ([.d (db false)] : List CV) rfl) ?_ | refine qg1 ?_ | refine eD ?_ ?_ <;> intro)
    ·rename_i e
     obtain rfl := bsj.1 e
     exact TLe.rfl
    ·rename_i e
     exact ex_round 1 ⟨by omega, fun _ h => e (by rw [h]), fun h => absurd h (by omega)⟩ (by show 2 - 1 < 2 - 0; decide) sS
   ·repeat' (first | refine ex_call (word_c 2 true) ?_ | refine (ex_is ([.d (db true)] : List CV) rfl) ?_ | refine qg1 ?_ | refine eD ?_ ?_ <;> intro)
    ·rename_i e
     obtain rfl := bsj.1 e
     first | exact TLe.rfl | exact absurd rfl (q0 (by omega))
    ·rename_i e
     exact ex_round 2 ⟨by omega, fun _ => q0 (by omega), fun _ h => e (by rw [h])⟩ (by show 2 - 2 < 2 - 1; decide) sS
   ·repeat' (first | refine qgs ?_ | refine eD ?_ ?_ <;> intro)
    exact ex_round (1 + 1) ⟨by omega, key 2 (by decide) fun l => by cases l; exact q0 (by omega); exact q1 (by omega)⟩ (by show 5 - (1 + 1) < 5 - 1; omega) sS
  ·repeat' (first | refine (ex_is ([.d (di 3)] : List CV) rfl) ?_ | refine qg1 ?_ | refine eD ?_ ?_ <;> intro)
   refine ex_loop (X := Nat) (fun j => ⟨[(0, Tstr (bs w)), (6, Ti 3), (9, .o (gD [di 1, di 2, di 3, di 4, di 8])), (10, Ti 2), (13, .o (gD [db false, db true])), (14, Ti j)], [], 0⟩) (fun j => 2 - j) (fun j => j ≤ 2 ∧ (0 < j → wordF 3 false ≠ w) ∧ (1 < j → wordF 3 true ≠ w)) 0 ⟨by omega, fun h => absurd h (by omega), fun h => absurd h (by omega)⟩ sS ?_
   rintro j ⟨hj, q0, q1⟩
   rcases (show j = 0 ∨ j = 1 ∨ j = 2 by omega) with rfl | rfl | rfl
   ·repeat' (first | refine ex_call (word_c 3 false) ?_ | refine (ex_is ([.d (db false)] : List CV) rfl) ?_ | refine qg1 ?_ | refine eD ?_ ?_ <;> intro)
    ·rename_i e
     obtain rfl := bsj.1 e
     exact TLe.rfl
    ·rename_i e
     exact ex_round 1 ⟨by omega, fun _ h => e (by rw [h]), fun h => absurd h (by omega)⟩ (by show 2 - 1 < 2 - 0; decide) sS
   ·repeat' (first | refine ex_call (word_c 3 true) ?_ | refine (ex_is ([.d (db true)] : List CV) rfl) ?_ | refine qg1 ?_ | refine eD ?_ ?_ <;> intro)
    ·rename_i e
     obtain rfl := bsj.1 e
     first | exact TLe.rfl | exact absurd rfl (q0 (by omega))
    ·rename_i e
     exact ex_round 2 ⟨by omega, fun _ => q0 (by omega), fun _ h => e (by rw [h])⟩ (by show 2 - 2 < 2 - 1; decide) sS
   ·repeat' (first | refine qgs ?_ | refine eD ?_ ?_ <;> intro)
    exact ex_round (2 + 1) ⟨by omega, key 3 (by decide) fun l => by cases l; exact q0 (by omega); exact q1 (by omega)⟩ (by show 5 - (2 + 1) < 5 - 2; omega) sS
  ·repeat' (first | refine (ex_is ([.d (di 4)] : List CV) rfl) ?_ | refine qg1 ?_ | refine eD ?_ ?_ <;> intro)
   refine ex_loop (X := Nat) (fun j => ⟨[(0, Tstr (bs w)), (6, Ti 4), (9, .o (gD [di 1, di 2, di 3, di 4, di 8])), (10, Ti 3), (13, .o (gD [db false, db true])), (14, Ti j)], [], 0⟩) (fun j => 2 - j) (fun j => j ≤ 2 ∧ (0 < j → wordF 4 false ≠ w) ∧ (1 < j → wordF 4 true ≠ w)) 0 ⟨by omega, fun h => absurd h (by omega), fun h => absurd h (by omega)⟩ sS ?_
   rintro j ⟨hj, q0, q1⟩
   rcases (show j = 0 ∨ j = 1 ∨ j = 2 by omega) with rfl | rfl | rfl
   ·repeat' (first | refine ex_call (word_c 4 false) ?_ | refine (ex_is ([.d (db false)] : List CV) rfl) ?_ | refine qg1 ?_ | refine eD ?_ ?_ <;> intro)
    ·rename_i e
     obtain rfl := bsj.1 e
     exact TLe.rfl
    ·rename_i e
     exact ex_round 1 ⟨by omega, fun _ h => e (by rw [h]), fun h => absurd h (by omega)⟩ (by show 2 - 1 < 2 - 0; decide) sS
   ·repeat' (first | refine ex_call (word_c 4 true) ?_ | refine (ex_is ([.d (db true)] : List CV) rfl) ?_ | refine qg1 ?_ | refine eD ?_ ?_ <;> intro)
    ·rename_i e
     obtain rfl := bsj.1 e
     first | exact TLe.rfl | exact absurd rfl (q0 (by omega))
    ·rename_i e
     exact ex_round 2 ⟨by omega, fun _ => q0 (by omega), fun _ h => e (by rw [h])⟩ (by show 2 - 2 < 2 - 1; decide) sS
   ·repeat' (first | refine qgs ?_ | refine eD ?_ ?_ <;> intro)
    exact ex_round (3 + 1) ⟨by omega, key 4 (by decide) fun l => by cases l; exact q0 (by omega); exact q1 (by omega)⟩ (by show 5 - (3 + 1) < 5 - 3; omega) sS
  ·repeat' (first | refine (ex_is ([.d (di 8)] : List CV) rfl) ?_ | refine qg1 ?_ | refine eD ?_ ?_ <;> intro)
   refine ex_loop (X := Nat) (fun j => ⟨[(0, Tstr (bs w)), (6, Ti 8), (9, .o (gD [di 1, di 2, di 3, di 4, di 8])), (10, Ti 4), (13, .o (gD [db false, db true])), (14, Ti j)], [], 0⟩) (fun j => 2 - j) (fun j => j ≤ 2 ∧ (0 < j → wordF 8 false ≠ w) ∧ (1 < j → wordF 8 true ≠ w)) 0 ⟨by omega, fun h => absurd h (by omega), fun h => absurd h (by omega)⟩ sS ?_
   rintro j ⟨hj, q0, q1⟩
   rcases (show j = 0 ∨ j = 1 ∨ j = 2 by omega) with rfl | rfl | rfl
   ·repeat' (first | refine ex_call (word_c 8 false) ?_ | refine (ex_is ([.d (db false)] : List CV) rfl) ?_ | refine qg1 ?_ | refine eD ?_ ?_ <;> intro)
    ·rename_i e
     obtain rfl := bsj.1 e
     exact TLe.rfl
    ·rename_i e
     exact ex_round 1 ⟨by omega, fun _ h => e (by rw [h]), fun h => absurd h (by omega)⟩ (by show 2 - 1 < 2 - 0; decide) sS
   ·repeat' (first | refine ex_call (word_c 8 true) ?_ | refine (ex_is ([.d (db true)] : List CV) rfl) ?_ | refine qg1 ?_ | refine eD ?_ ?_ <;> intro)
    ·rename_i e
     obtain rfl := bsj.1 e
     first | exact TLe.rfl | exact absurd rfl (q0 (by omega))
    ·rename_i e
     exact ex_round 2 ⟨by omega, fun _ => q0 (by omega), fun _ h => e (by rw [h])⟩ (by show 2 - 2 < 2 - 1; decide) sS
   ·repeat' (first | refine qgs ?_ | refine eD ?_ ?_ <;> intro)
    exact ex_round (4 + 1) ⟨by omega, key 8 (by decide) fun l => by cases l; exact q0 (by omega); exact q1 (by omega)⟩ (by show 5 - (4 + 1) < 5 - 4; omega) sS
theorem key_c (w : List UInt8) :
  CallsA Tryz.prog Γ0 81 [c1 (ds (bs w))] (Tb (keyV w)) := by
 by_cases hm : w ∈ keysL
 ·rw [show keyV w = true by unfold keyV; rw [List.contains_iff_mem.2 hm]; rfl]
  simp only [keysL, List.mem_cons, List.not_mem_nil, or_false] at hm
  rcases hm with rfl | rfl | rfl | rfl | rfl | rfl | rfl | rfl | rfl | rfl | rfl | rfl | rfl | rfl | rfl | rfl | rfl | rfl | rfl
  all_goals
   refine fn_rule (C := ⟨Tryz.prog, layF, Tryz.f81.ntmps, Γ0, 0, [], []⟩) layF_ok mixed Tryz.func81 rfl (by kernel_rfl) rfl rfl rfl ?_
   repeat' (first | refine qgs ?_ | refine eD ?_ ?_ <;> intro)
   exact TLe.rfl
 ·have hne : ∀ l, l ∈ keysL → ¬ bs w = bs l := fun l hl he => hm (by rw [bsj.1 he]; exact hl)
  have hk : keyV w = (integerV w).isSome := by unfold keyV; rw [show keysL.contains w = false by simpa using hm]; rfl
  rw [hk]
  have hc := integer_c w
  rcases hv : integerV w with _ | ⟨n, l⟩ <;> rw [hv] at hc
  ·have hc : CallsA Tryz.prog Γ0 82 [c1 (ds (bs w))] (.tup [c1 (di 0), c1 (db false), c1 (db false)]) := hc
   refine fn_rule (C := ⟨Tryz.prog, layF, Tryz.f81.ntmps, Γ0, 0, [], []⟩) layF_ok mixed Tryz.func81 rfl (by kernel_rfl) rfl rfl rfl ?_
   repeat' (first | refine ex_call hc ?_ | refine ex_false (hne _ (by decide)) ?_ | refine qg1 ?_ | refine eD ?_ ?_ <;> intro)
   exact TLe.rfl
  ·have hc : CallsA Tryz.prog Γ0 82 [c1 (ds (bs w))] (.tup [c1 (di n), c1 (db l), c1 (db true)]) := hc
   refine fn_rule (C := ⟨Tryz.prog, layF, Tryz.f81.ntmps, Γ0, 0, [], []⟩) layF_ok mixed Tryz.func81 rfl (by kernel_rfl) rfl rfl rfl ?_
   repeat' (first | refine ex_call hc ?_ | refine ex_false (hne _ (by decide)) ?_ | refine qg1 ?_ | refine eD ?_ ?_ <;> intro)
   exact TLe.rfl
end Go.Proofs.YtoingpafcodojaaGreatDoor

namespace Go.Proofs.YtoingpafcodojaaGreatDoor
open Go.RowKit

section
variable {L : List TokP} {m : Nat}
theorem is_c (i : Nat) (h : i < L.length) (t : List UInt8) : CallsM Tryz.prog ΓL 38 [(0, Qz L m i)] 2 [P0, c1 (ds (bs t))] (Tb (isV L i t)) [(0, Qz L m i)] [] := by
 have ha := ahead_c (L := L) (m := m) i h
 obtain ⟨R, hR⟩ : ∃ R, isV L i t = R := ⟨_, rfl⟩
 rw [hR]
 unfold isV at hR
 generalize tk L i = u at *
 by_cases hk : u.k = 3
 ·obtain rfl : false = R := by rw [← hR]; simp [hk]
  refine fn_ruleM (C := ⟨Tryz.prog, layF, Tryz.f38.ntmps, ΓL, 2, [], []⟩) layF_ok mixed Tryz.func38 rfl (by kernel_rfl) rfl rfl rfl ?_
  refine ex_callM (CallsM.ren (ha) [0, 1] 2 rfl rfl rfl rfl) ?_
  repeat' (first | refine qgs ?_ | refine eD ?_ ?_ <;> intro)
  exact ⟨rfl, TLe.rfl, rfl, rfl⟩
 ·by_cases ht : u.t = t
  ·obtain rfl : true = R := by rw [← hR]; simp [hk, ht]
   refine fn_ruleM (C := ⟨Tryz.prog, layF, Tryz.f38.ntmps, ΓL, 2, [], []⟩) layF_ok mixed Tryz.func38 rfl (by kernel_rfl) rfl rfl rfl ?_
   refine ex_callM (CallsM.ren (ha) [0, 1] 2 rfl rfl rfl rfl) ?_
   repeat' (first | refine qgs ?_ | refine eD ?_ ?_ <;> intro)
   refine ex_callM (CallsM.ren (ha) [0, 1] 2 rfl rfl rfl rfl) ?_
   refine ex_true (by rw [ht]) ?_
   repeat' (first | refine qgs ?_ | refine eD ?_ ?_ <;> intro)
   exact ⟨rfl, TLe.rfl, rfl, rfl⟩
  ·obtain rfl : false = R := by rw [← hR]; simp [hk, ht]
   refine fn_ruleM (C := ⟨Tryz.prog, layF, Tryz.f38.ntmps, ΓL, 2, [], []⟩) layF_ok mixed Tryz.func38 rfl (by kernel_rfl) rfl rfl rfl ?_
   refine ex_callM (CallsM.ren (ha) [0, 1] 2 rfl rfl rfl rfl) ?_
   repeat' (first | refine qgs ?_ | refine eD ?_ ?_ <;> intro)
   refine ex_callM (CallsM.ren (ha) [0, 1] 2 rfl rfl rfl rfl) ?_
   refine ex_false (fun e => ht (bsj.1 e)) ?_
   repeat' (first | refine qgs ?_ | refine eD ?_ ?_ <;> intro)
   exact ⟨rfl, TLe.rfl, rfl, rfl⟩
theorem take_c (s : PS) (h : s.i < L.length) (hn : L.length ≤ 1000000) (t : List UInt8) : C0 L m 56 [c1 (ds (bs t))] (takeM L t) (fun _ => .tup []) s := by
 have hi := is_c (m := m) s.i h t
 refine C0.of fun T hT => ?_
 unfold takeM at hT
 rcases hv : isV L s.i t with _ | _ <;> rw [hv] at hi hT
 ·obtain rfl : PR.err s.i 4 = T := hT
  refine fn_ruleP (C := ⟨Tryz.prog, layF, Tryz.f56.ntmps, ΓL, 2, [], []⟩) layF_ok mixed Tryz.func56 rfl (by kernel_rfl) rfl rfl rfl SLe.rfl ?_
  refine ex_callM (CallsM.ren (hi) [0, 1] 2 rfl rfl rfl rfl) ?_
  repeat' (first | refine qgs ?_ | refine eD ?_ ?_ <;> intro)
  refine ex_callM (CallsM.ren ((fail_c s.i 4 h)) [0, 1] 2 rfl rfl rfl rfl) ?_
  exact ⟨⟨_, rfl, rfl⟩, rfl, rfl⟩
 ·obtain rfl : PR.ok () { s with i := s.i + 1 } = T := hT
  refine fn_ruleP (C := ⟨Tryz.prog, layF, Tryz.f56.ntmps, ΓL, 2, [], []⟩) layF_ok mixed Tryz.func56 rfl (by kernel_rfl) rfl rfl rfl SLe.rfl ?_
  refine ex_callM (CallsM.ren (hi) [0, 1] 2 rfl rfl rfl rfl) ?_
  repeat' (first | refine aI ((s.i + 1 : Nat) : Int) ?_ | refine aU ((s.i + 1 : Nat) : Int) ?_ | refine aB ((s.i + 1 : Nat) : Int) ?_ | refine qg1 ?_ | refine eD ?_ ?_ <;> intro)
  exact ⟨rfl, TLe.rfl, rfl, rfl⟩
theorem may_yes (i : Nat) (h : i < L.length) (hn : L.length ≤ 1000000) (t : List UInt8) (hv : isV L i t = true) : CallsM Tryz.prog ΓL 59 [(0, Qz L m i)] 2 [P0, c1 (ds (bs t))] (Tb true) [(0, Qz L m (i + 1))] [] := by
 have hi := is_c (m := m) i h t
 rw [hv] at hi
 refine fn_ruleM (C := ⟨Tryz.prog, layF, Tryz.f59.ntmps, ΓL, 2, [], []⟩) layF_ok mixed Tryz.func59 rfl (by kernel_rfl) rfl rfl rfl ?_
 refine ex_callM (CallsM.ren (hi) [0, 1] 2 rfl rfl rfl rfl) ?_
 repeat' (first | refine aI ((i + 1 : Nat) : Int) ?_ | refine aU ((i + 1 : Nat) : Int) ?_ | refine aB ((i + 1 : Nat) : Int) ?_ | refine qg1 ?_ | refine eD ?_ ?_ <;> intro)
 exact ⟨rfl, TLe.rfl, rfl, rfl⟩
theorem may_no (i : Nat) (h : i < L.length) (t : List UInt8) (hv : isV L i t = false) : CallsM Tryz.prog ΓL 59 [(0, Qz L m i)] 2 [P0, c1 (ds (bs t))] (Tb false) [(0, Qz L m i)] [] := by
 have hi := is_c (m := m) i h t
 rw [hv] at hi
 refine fn_ruleM (C := ⟨Tryz.prog, layF, Tryz.f59.ntmps, ΓL, 2, [], []⟩) layF_ok mixed Tryz.func59 rfl (by kernel_rfl) rfl rfl rfl ?_
 refine ex_callM (CallsM.ren (hi) [0, 1] 2 rfl rfl rfl rfl) ?_
 repeat' (first | refine qgs ?_ | refine eD ?_ ?_ <;> intro)
 exact ⟨rfl, TLe.rfl, rfl, rfl⟩
theorem named_c (i : Nat) (h : i < L.length) : CallsM Tryz.prog ΓL 60 [(0, Qz L m i)] 2 [P0] (Tb (namedV L i)) [(0, Qz L m i)] [] := by
 have ha := ahead_c (L := L) (m := m) i h
 obtain ⟨R, hR⟩ : ∃ R, namedV L i = R := ⟨_, rfl⟩
 rw [hR]
 unfold namedV at hR
 generalize tk L i = u at *
 have hk := (key_c u.t).gL
 generalize keyV u.t = q at *
 by_cases h0 : u.k = 0
 ·obtain rfl : (!q) = R := by rw [← hR, decide_eq_true h0]; rfl
  cases q
  all_goals
   refine fn_ruleM (C := ⟨Tryz.prog, layF, Tryz.f60.ntmps, ΓL, 2, [], []⟩) layF_ok mixed Tryz.func60 rfl (by kernel_rfl) rfl rfl rfl ?_
   refine ex_callM (CallsM.ren (ha) [0, 1] 2 rfl rfl rfl rfl) ?_
   repeat' (first | refine qgs ?_ | refine eD ?_ ?_ <;> intro)
   refine ex_callM (CallsM.ren (ha) [0, 1] 2 rfl rfl rfl rfl) ?_
   repeat' (first | refine ex_call hk ?_ | refine qg1 ?_ | refine eD ?_ ?_ <;> intro)
   exact ⟨rfl, TLe.rfl, rfl, rfl⟩
 ·obtain rfl : false = R := by rw [← hR, decide_eq_false h0]; rfl
  refine fn_ruleM (C := ⟨Tryz.prog, layF, Tryz.f60.ntmps, ΓL, 2, [], []⟩) layF_ok mixed Tryz.func60 rfl (by kernel_rfl) rfl rfl rfl ?_
  refine ex_callM (CallsM.ren (ha) [0, 1] 2 rfl rfl rfl rfl) ?_
  repeat' (first | refine qgs ?_ | refine eD ?_ ?_ <;> intro)
  exact ⟨rfl, TLe.rfl, rfl, rfl⟩
theorem name_c (s : PS) (h : s.i < L.length) (hn : L.length ≤ 1000000) : C0 L m 57 [] (nameM L) (fun w => Tstr (bs w)) s := by
 have hi := named_c (m := m) s.i h
 refine C0.of fun T hT => ?_
 unfold nameM at hT
 rcases hv : namedV L s.i with _ | _ <;> rw [hv] at hi hT
 ·obtain rfl : PR.err s.i 4 = T := hT
  refine fn_ruleP (C := ⟨Tryz.prog, layF, Tryz.f57.ntmps, ΓL, 2, [], []⟩) layF_ok mixed Tryz.func57 rfl (by kernel_rfl) rfl rfl rfl SLe.rfl ?_
  refine ex_callM (CallsM.ren (hi) [0, 1] 2 rfl rfl rfl rfl) ?_
  repeat' (first | refine qgs ?_ | refine eD ?_ ?_ <;> intro)
  refine ex_callM (CallsM.ren ((fail_c s.i 4 h)) [0, 1] 2 rfl rfl rfl rfl) ?_
  exact ⟨⟨_, rfl, rfl⟩, rfl, rfl⟩
 ·obtain rfl : PR.ok (tk L s.i).t { s with i := s.i + 1 } = T := hT
  refine fn_ruleP (C := ⟨Tryz.prog, layF, Tryz.f57.ntmps, ΓL, 2, [], []⟩) layF_ok mixed Tryz.func57 rfl (by kernel_rfl) rfl rfl rfl SLe.rfl ?_
  refine ex_callM (CallsM.ren (hi) [0, 1] 2 rfl rfl rfl rfl) ?_
  repeat' (first | refine aI ((s.i : Nat) : Int) ?_ | refine aU ((s.i : Nat) : Int) ?_ | refine aB ((s.i : Nat) : Int) ?_ | refine aI ((s.i + 1 : Nat) : Int) ?_ | refine aU ((s.i + 1 : Nat) : Int) ?_ | refine aB ((s.i + 1 : Nat) : Int) ?_ | refine (ex_row s.i _ rfl (tk_at h)) ?_ | refine qg1 ?_ | refine eD ?_ ?_ <;> intro)
  exact ⟨rfl, TLe.rfl, rfl, rfl⟩
theorem num_c (s : PS) (h : s.i < L.length) (hn : L.length ≤ 1000000) : C0 L m 58 [] (numberM L) (fun n => Tu n) s := by
 have ha := ahead_c (L := L) (m := m) s.i h
 refine C0.of fun T hT => ?_
 unfold numberM at hT
 by_cases hv : (tk L s.i).k = 1
 ·rw [if_pos hv] at hT
  subst hT
  refine fn_ruleP (C := ⟨Tryz.prog, layF, Tryz.f58.ntmps, ΓL, 2, [], []⟩) layF_ok mixed Tryz.func58 rfl (by kernel_rfl) rfl rfl rfl SLe.rfl ?_
  refine ex_callM (CallsM.ren (ha) [0, 1] 2 rfl rfl rfl rfl) ?_
  repeat' (first | refine aI ((s.i : Nat) : Int) ?_ | refine aU ((s.i : Nat) : Int) ?_ | refine aB ((s.i : Nat) : Int) ?_ | refine aI ((s.i + 1 : Nat) : Int) ?_ | refine aU ((s.i + 1 : Nat) : Int) ?_ | refine aB ((s.i + 1 : Nat) : Int) ?_ | refine (ex_row s.i _ rfl (tk_at h)) ?_ | refine qg1 ?_ | refine eD ?_ ?_ <;> intro)
  exact ⟨rfl, TLe.rfl, rfl, rfl⟩
 ·rw [if_neg hv] at hT
  obtain rfl : PR.err s.i 4 = T := hT
  refine fn_ruleP (C := ⟨Tryz.prog, layF, Tryz.f58.ntmps, ΓL, 2, [], []⟩) layF_ok mixed Tryz.func58 rfl (by kernel_rfl) rfl rfl rfl SLe.rfl ?_
  refine ex_callM (CallsM.ren (ha) [0, 1] 2 rfl rfl rfl rfl) ?_
  repeat' (first | refine qgs ?_ | refine eD ?_ ?_ <;> intro)
  refine ex_callM (CallsM.ren ((fail_c s.i 4 h)) [0, 1] 2 rfl rfl rfl rfl) ?_
  exact ⟨⟨_, rfl, rfl⟩, rfl, rfl⟩
theorem room_c (s : PS) (h : s.i < L.length) (n : Nat) (hn : n ≤ 1000000) : C0 L m 39 [c1 (di n), c1 (di 64)] (roomM n) (fun _ => .tup []) s := by
 refine C0.of fun T hT => ?_
 unfold roomM at hT
 by_cases hv : 64 ≤ n
 ·rw [if_pos hv] at hT
  obtain rfl : PR.err s.i 10 = T := hT
  refine fn_ruleP (C := ⟨Tryz.prog, layF, Tryz.f39.ntmps, ΓL, 2, [], []⟩) layF_ok mixed Tryz.func39 rfl (by kernel_rfl) rfl rfl rfl SLe.rfl ?_
  repeat' (first | refine qgs ?_ | refine eD ?_ ?_ <;> intro)
  refine ex_callM (CallsM.ren ((fail_c s.i 10 h)) [0, 1] 2 rfl rfl rfl rfl) ?_
  exact ⟨⟨_, rfl, rfl⟩, rfl, rfl⟩
 ·rw [if_neg hv] at hT
  subst hT
  refine fn_ruleP (C := ⟨Tryz.prog, layF, Tryz.f39.ntmps, ΓL, 2, [], []⟩) layF_ok mixed Tryz.func39 rfl (by kernel_rfl) rfl rfl rfl SLe.rfl ?_
  repeat' (first | refine qgs ?_ | refine eD ?_ ?_ <;> intro)
  exact ⟨rfl, TLe.rfl, rfl, rfl⟩
theorem begins_c (i : Nat) (h : i < L.length) : CallsM Tryz.prog ΓL 152 [(0, Qz L m i)] 2 [P0] (Tb (beginsV L i)) [(0, Qz L m i)] [] := by
 have ha := ahead_c (L := L) (m := m) i h
 have h1 := is_c (m := m) i h t_bang
 have h2 := is_c (m := m) i h t_lpar
 have h3 := named_c (m := m) i h
 unfold beginsV
 generalize isV L i t_bang = a at *
 generalize isV L i t_lpar = b at *
 generalize namedV L i = c at *
 generalize tk L i = u at *
 cases a
 ·cases b
  ·cases c
   ·by_cases h4 : u.k = 1
    ·rw [decide_eq_true h4]
     refine fn_ruleM (C := ⟨Tryz.prog, layF, Tryz.f152.ntmps, ΓL, 2, [], []⟩) layF_ok mixed Tryz.func152 rfl (by kernel_rfl) rfl rfl rfl ?_
     refine ex_callM (CallsM.ren (h1) [0, 1] 2 rfl rfl rfl rfl) ?_
     repeat' (first | refine qgs ?_ | refine eD ?_ ?_ <;> intro)
     refine ex_callM (CallsM.ren (h2) [0, 1] 2 rfl rfl rfl rfl) ?_
     repeat' (first | refine qgs ?_ | refine eD ?_ ?_ <;> intro)
     refine ex_callM (CallsM.ren (h3) [0, 1] 2 rfl rfl rfl rfl) ?_
     repeat' (first | refine qgs ?_ | refine eD ?_ ?_ <;> intro)
     refine ex_callM (CallsM.ren (ha) [0, 1] 2 rfl rfl rfl rfl) ?_
     repeat' (first | refine qgs ?_ | refine eD ?_ ?_ <;> intro)
     exact ⟨rfl, TLe.rfl, rfl, rfl⟩
    ·rw [decide_eq_false h4]
     refine fn_ruleM (C := ⟨Tryz.prog, layF, Tryz.f152.ntmps, ΓL, 2, [], []⟩) layF_ok mixed Tryz.func152 rfl (by kernel_rfl) rfl rfl rfl ?_
     refine ex_callM (CallsM.ren (h1) [0, 1] 2 rfl rfl rfl rfl) ?_
     repeat' (first | refine qgs ?_ | refine eD ?_ ?_ <;> intro)
     refine ex_callM (CallsM.ren (h2) [0, 1] 2 rfl rfl rfl rfl) ?_
     repeat' (first | refine qgs ?_ | refine eD ?_ ?_ <;> intro)
     refine ex_callM (CallsM.ren (h3) [0, 1] 2 rfl rfl rfl rfl) ?_
     repeat' (first | refine qgs ?_ | refine eD ?_ ?_ <;> intro)
     refine ex_callM (CallsM.ren (ha) [0, 1] 2 rfl rfl rfl rfl) ?_
     repeat' (first | refine qgs ?_ | refine eD ?_ ?_ <;> intro)
     exact ⟨rfl, TLe.rfl, rfl, rfl⟩
   ·
    refine fn_ruleM (C := ⟨Tryz.prog, layF, Tryz.f152.ntmps, ΓL, 2, [], []⟩) layF_ok mixed Tryz.func152 rfl (by kernel_rfl) rfl rfl rfl ?_
    refine ex_callM (CallsM.ren (h1) [0, 1] 2 rfl rfl rfl rfl) ?_
    repeat' (first | refine qgs ?_ | refine eD ?_ ?_ <;> intro)
    refine ex_callM (CallsM.ren (h2) [0, 1] 2 rfl rfl rfl rfl) ?_
    repeat' (first | refine qgs ?_ | refine eD ?_ ?_ <;> intro)
    refine ex_callM (CallsM.ren (h3) [0, 1] 2 rfl rfl rfl rfl) ?_
    repeat' (first | refine qgs ?_ | refine eD ?_ ?_ <;> intro)
    exact ⟨rfl, TLe.rfl, rfl, rfl⟩
  ·
   refine fn_ruleM (C := ⟨Tryz.prog, layF, Tryz.f152.ntmps, ΓL, 2, [], []⟩) layF_ok mixed Tryz.func152 rfl (by kernel_rfl) rfl rfl rfl ?_
   refine ex_callM (CallsM.ren (h1) [0, 1] 2 rfl rfl rfl rfl) ?_
   repeat' (first | refine qgs ?_ | refine eD ?_ ?_ <;> intro)
   refine ex_callM (CallsM.ren (h2) [0, 1] 2 rfl rfl rfl rfl) ?_
   repeat' (first | refine qgs ?_ | refine eD ?_ ?_ <;> intro)
   exact ⟨rfl, TLe.rfl, rfl, rfl⟩
 ·
  refine fn_ruleM (C := ⟨Tryz.prog, layF, Tryz.f152.ntmps, ΓL, 2, [], []⟩) layF_ok mixed Tryz.func152 rfl (by kernel_rfl) rfl rfl rfl ?_
  refine ex_callM (CallsM.ren (h1) [0, 1] 2 rfl rfl rfl rfl) ?_
  repeat' (first | refine qgs ?_ | refine eD ?_ ?_ <;> intro)
  exact ⟨rfl, TLe.rfl, rfl, rfl⟩
set_option maxHeartbeats 4000000 in
theorem starts_c (i : Nat) (h : i < L.length) : CallsM Tryz.prog ΓL 117 [(0, Qz L m i)] 2 [P0] (Tb (startsV L i)) [(0, Qz L m i)] [] := by
 have ha := ahead_c (L := L) (m := m) i h
 have h3 := named_c (m := m) i h
 unfold startsV
 generalize namedV L i = c at *
 generalize tk L i = u at *
 obtain ⟨w, hw⟩ : ∃ w, u.t = w := ⟨_, rfl⟩
 simp only [tokD, hw] at ha
 rw [hw]
 cases c
 ·rw [Bool.false_or]
  by_cases h4 : u.k = 0
  ·rw [decide_eq_true h4, Bool.true_and]
   by_cases hm : w ∈ typesL
   ·rw [List.contains_iff_mem.2 hm, Bool.true_or]
    simp only [typesL, List.mem_cons, List.not_mem_nil, or_false] at hm
    rcases hm with rfl | rfl | rfl | rfl | rfl | rfl | rfl | rfl | rfl
    all_goals
     refine fn_ruleM (C := ⟨Tryz.prog, layF, Tryz.f117.ntmps, ΓL, 2, [], []⟩) layF_ok mixed Tryz.func117 rfl (by kernel_rfl) rfl rfl rfl ?_
     refine ex_callM (CallsM.ren (h3) [0, 1] 2 rfl rfl rfl rfl) ?_
     repeat' (first | refine qgs ?_ | refine eD ?_ ?_ <;> intro)
     refine ex_callM (CallsM.ren (ha) [0, 1] 2 rfl rfl rfl rfl) ?_
     repeat' (first | refine qgs ?_ | refine eD ?_ ?_ <;> intro)
     refine ex_callM (CallsM.ren (ha) [0, 1] 2 rfl rfl rfl rfl) ?_
     repeat' (first | refine qgs ?_ | refine eD ?_ ?_ <;> intro)
     exact ⟨rfl, TLe.rfl, rfl, rfl⟩
   ·have hne : ∀ l, l ∈ typesL → ¬ bs w = bs l := fun l hl he => hm (by rw [bsj.1 he]; exact hl)
    rw [show typesL.contains w = false by simpa using hm, Bool.false_or]
    have hc := (integer_c w).gL
    rcases hv : integerV w with _ | ⟨n, l⟩ <;> rw [hv] at hc
    ·have hc : CallsA Tryz.prog ΓL 82 [c1 (ds (bs w))] (.tup [c1 (di 0), c1 (db false), c1 (db false)]) := hc
     refine fn_ruleM (C := ⟨Tryz.prog, layF, Tryz.f117.ntmps, ΓL, 2, [], []⟩) layF_ok mixed Tryz.func117 rfl (by kernel_rfl) rfl rfl rfl ?_
     refine ex_callM (CallsM.ren (h3) [0, 1] 2 rfl rfl rfl rfl) ?_
     repeat' (first | refine qgs ?_ | refine eD ?_ ?_ <;> intro)
     refine ex_callM (CallsM.ren (ha) [0, 1] 2 rfl rfl rfl rfl) ?_
     repeat' (first | refine qgs ?_ | refine eD ?_ ?_ <;> intro)
     refine ex_callM (CallsM.ren (ha) [0, 1] 2 rfl rfl rfl rfl) ?_
     repeat' (first | refine ex_call hc ?_ | refine ex_false (hne _ (by decide)) ?_ | refine qg1 ?_ | refine eD ?_ ?_ <;> intro)
     exact ⟨rfl, TLe.rfl, rfl, rfl⟩
    ·have hc : CallsA Tryz.prog ΓL 82 [c1 (ds (bs w))] (.tup [c1 (di n), c1 (db l), c1 (db true)]) := hc
     refine fn_ruleM (C := ⟨Tryz.prog, layF, Tryz.f117.ntmps, ΓL, 2, [], []⟩) layF_ok mixed Tryz.func117 rfl (by kernel_rfl) rfl rfl rfl ?_
     refine ex_callM (CallsM.ren (h3) [0, 1] 2 rfl rfl rfl rfl) ?_
     repeat' (first | refine qgs ?_ | refine eD ?_ ?_ <;> intro)
     refine ex_callM (CallsM.ren (ha) [0, 1] 2 rfl rfl rfl rfl) ?_
     repeat' (first | refine qgs ?_ | refine eD ?_ ?_ <;> intro)
     refine ex_callM (CallsM.ren (ha) [0, 1] 2 rfl rfl rfl rfl) ?_
     repeat' (first | refine ex_call hc ?_ | refine ex_false (hne _ (by decide)) ?_ | refine qg1 ?_ | refine eD ?_ ?_ <;> intro)
     exact ⟨rfl, TLe.rfl, rfl, rfl⟩
  ·rw [decide_eq_false h4, Bool.false_and]
   refine fn_ruleM (C := ⟨Tryz.prog, layF, Tryz.f117.ntmps, ΓL, 2, [], []⟩) layF_ok mixed Tryz.func117 rfl (by kernel_rfl) rfl rfl rfl ?_
   refine ex_callM (CallsM.ren (h3) [0, 1] 2 rfl rfl rfl rfl) ?_
   repeat' (first | refine qgs ?_ | refine eD ?_ ?_ <;> intro)
   refine ex_callM (CallsM.ren (ha) [0, 1] 2 rfl rfl rfl rfl) ?_
   repeat' (first | refine qgs ?_ | refine eD ?_ ?_ <;> intro)
   exact ⟨rfl, TLe.rfl, rfl, rfl⟩
 ·rw [Bool.true_or]
  refine fn_ruleM (C := ⟨Tryz.prog, layF, Tryz.f117.ntmps, ΓL, 2, [], []⟩) layF_ok mixed Tryz.func117 rfl (by kernel_rfl) rfl rfl rfl ?_
  refine ex_callM (CallsM.ren (h3) [0, 1] 2 rfl rfl rfl rfl) ?_
  repeat' (first | refine qgs ?_ | refine eD ?_ ?_ <;> intro)
  exact ⟨rfl, TLe.rfl, rfl, rfl⟩
end
end Go.Proofs.YtoingpafcodojaaGreatDoor

namespace Go.Proofs.YtoingpafcodojaaGreatDoor
open Go.RowKit

section
variable {L : List TokP} {m : Nat}
theorem put_c (s : PS) (x : EX) (hx : s.xs.length ≤ 1000000) : C1 L m 156 [gD (exD x)] (putM x) (fun k => Ti k) s := by
 refine C1.of fun T hT => ?_
 obtain rfl : PR.ok (s.xs.length : Int) { s with xs := s.xs ++ [x] } = T := hT
 refine fn_ruleP (C := ⟨Tryz.prog, layF, Tryz.f156.ntmps, ΓL, 6, [], []⟩) layF_ok mixed Tryz.func156 rfl (by kernel_rfl) rfl rfl rfl SLe.rfl ?_
 repeat' (first | refine qgs ?_ | refine eD ?_ ?_ <;> intro)
 refine ex_app (s.xs.length) (1) 1000 (by first | rfl | (simp; done) | (simp; omega)) (by first | rfl | (simp; done) | (simp; omega)) rfl (by omega) ?_
 refine ex_is (List.map exD (s.xs ++ [x])) (by rw [List.map_append]; rfl) ?_
 repeat' (first | refine aI ((s.xs.length : Nat) : Int) ?_ | refine aU ((s.xs.length : Nat) : Int) ?_ | refine aB ((s.xs.length : Nat) : Int) ?_ | refine (ex_is (s.xs.length + 1) (by simp)) ?_ | refine qg1 ?_ | refine eD ?_ ?_ <;> intro)
 exact ⟨rfl, TLe.rfl, rfl, rfl⟩
theorem lay_c (s : PS) (x : TY) (hx : s.ts.length ≤ 1000000) : CallsM Tryz.prog ΓL 122 [(0, Qz L m s.i), (1, Fz 2 3 4 5), (5, Tz s.ts)] 6 [P0, gD (tyD x)] (Ti s.ts.length) [(0, Qz L m s.i), (1, Fz 2 3 4 6), (5, .dead)] [Tz (s.ts ++ [x])] := by
 refine fn_ruleP (C := ⟨Tryz.prog, layF, Tryz.f122.ntmps, ΓL, 6, [], []⟩) layF_ok mixed Tryz.func122 rfl (by kernel_rfl) rfl rfl rfl SLe.rfl ?_
 repeat' (first | refine qgs ?_ | refine eD ?_ ?_ <;> intro)
 refine ex_app (s.ts.length) (1) 1000 (by first | rfl | (simp; done) | (simp; omega)) (by first | rfl | (simp; done) | (simp; omega)) rfl (by omega) ?_
 refine ex_is (List.map tyD (s.ts ++ [x])) (by rw [List.map_append]; rfl) ?_
 repeat' (first | refine aI ((s.ts.length : Nat) : Int) ?_ | refine aU ((s.ts.length : Nat) : Int) ?_ | refine aB ((s.ts.length : Nat) : Int) ?_ | refine (ex_is (s.ts.length + 1) (by simp)) ?_ | refine qg1 ?_ | refine eD ?_ ?_ <;> intro)
 exact ⟨rfl, TLe.rfl, rfl, rfl⟩
theorem put0_c (i : Nat) (xs : List EX) (k : Nat) (n : Nat) (w : List UInt8) (hx : xs.length ≤ 1000000) :
  CallsM Tryz.prog ΓL 156 [(0, Qz L m i), (1, Fz 2 3 4 5), (4, Xz xs)] 6 [P0, gD [di k, ds ⟨#[]⟩, du n, ds (bs w), dnil]] (Ti xs.length) [(0, Qz L m i), (1, Fz 2 3 6 5), (4, .dead)] [Xz (xs ++ [⟨k, [], n, w, []⟩])] :=
 ((put_c (L := L) (m := m) ⟨i, xs, []⟩ ⟨k, [], n, w, []⟩ hx).ok rfl).argsLe (.cons T1Le.rfl (.cons (T1Le.g (.cons DLe.rfl (.cons DLe.rfl (.cons DLe.rfl (.cons DLe.rfl (.cons DLe.nil .nil)))))) .nil))
theorem deeper_no (s : PS) (hi : s.i < L.length) (h a : Nat) (l : List CV) : CallsM Tryz.prog ΓL 153 [(0, Qz L m s.i)] 2 [P0, c1 (db false), .f h a l] (.pan (flt L s.i 4)) [(0, .dead)] [] := by
 refine fn_ruleP (C := ⟨Tryz.prog, layF, Tryz.f153.ntmps, ΓL, 2, [], []⟩) layF_ok mixed Tryz.func153 rfl (by kernel_rfl) rfl rfl rfl SLe.rfl ?_
 repeat' (first | refine qgs ?_ | refine eD ?_ ?_ <;> intro)
 refine sC (CallsM.ren ((fail_c s.i 4 hi)) [0, 1] 2 rfl rfl rfl rfl) ?_
 exact ⟨⟨_, rfl, rfl⟩, rfl, rfl⟩
theorem deeper_deep (s : PS) (hi : s.i < L.length) (h a : Nat) (l : List CV) : CallsM Tryz.prog ΓL 153 [(0, Qz L 0 s.i)] 2 [P0, c1 (db true), .f h a l] (.pan (flt L s.i 8)) [(0, .dead)] [] := by
 refine fn_ruleP (C := ⟨Tryz.prog, layF, Tryz.f153.ntmps, ΓL, 2, [], []⟩) layF_ok mixed Tryz.func153 rfl (by kernel_rfl) rfl rfl rfl SLe.rfl ?_
 repeat' (first | refine qgs ?_ | refine eD ?_ ?_ <;> intro)
 refine sC (CallsM.ren ((fail_c s.i 8 hi)) [0, 1] 2 rfl rfl rfl rfl) ?_
 exact ⟨⟨_, rfl, rfl⟩, rfl, rfl⟩
theorem deep_assoc {α β : Type} {x : PM α} {f : α → PM β} {p : Nat → Bool} {s : PS} {T : PR β} (h : ((fun s => enterM m (p s.i) s) >>= fun _ => x >>= f) s = T) : ((enterM m (p s.i) >>= fun _ => x) >>= f) s = T := by
 rw [← h]
 show PM.and (PM.and (enterM m (p s.i)) fun _ => x) f s = PM.and (fun s => enterM m (p s.i) s) (fun _ => PM.and x f) s
 unfold PM.and
 dsimp only
 cases enterM m (p s.i) s <;> rfl
theorem PR.end1 {T : PR Int} {k : Int} {s : PS} (h : T = .ok k s) : PR.ok k s = T := h.symm
theorem deeper1_c {x : PM Int} {h : FuncId} (s : PS) (hi : s.i < L.length) (hm : m ≤ 32) (hc : ∀ m', m = m' + 1 → C1 L m' h [] x (fun k => Ti k) s) (b : Bool) :
  C1 L m 153 [c1 (db b), .f h 1 [.ptr 0 0]] (enterM m b >>= fun _ => x) (fun k => Ti k) s := by
 refine C1.of fun T hT => ?_
 cases b
 ·obtain rfl : PR.err s.i 4 = T := hT
  refine fn_ruleP (C := ⟨Tryz.prog, layF, Tryz.f153.ntmps, ΓL, 6, [], []⟩) layF_ok mixed Tryz.func153 rfl (by kernel_rfl) rfl rfl rfl SLe.rfl ?_
  repeat' (first | refine qgs ?_ | refine eD ?_ ?_ <;> intro)
  refine sC (CallsM.ren ((fail_c s.i 4 hi)) [0, 1] 6 rfl rfl rfl rfl) ?_
  exact ⟨⟨_, rfl, rfl⟩, rfl, rfl⟩
 ·cases m with
  | zero =>
   obtain rfl : PR.err s.i 8 = T := hT
   refine fn_ruleP (C := ⟨Tryz.prog, layF, Tryz.f153.ntmps, ΓL, 6, [], []⟩) layF_ok mixed Tryz.func153 rfl (by kernel_rfl) rfl rfl rfl SLe.rfl ?_
   repeat' (first | refine qgs ?_ | refine eD ?_ ?_ <;> intro)
   refine sC (CallsM.ren ((fail_c s.i 8 hi)) [0, 1] 6 rfl rfl rfl rfl) ?_
   exact ⟨⟨_, rfl, rfl⟩, rfl, rfl⟩
  | succ m =>
   have hT : x s = T := hT
   have hc := hc m rfl
   rcases T with ⟨k, s1⟩ | ⟨i, e⟩
   ·
    refine fn_ruleP (C := ⟨Tryz.prog, layF, Tryz.f153.ntmps, ΓL, 6, [], []⟩) layF_ok mixed Tryz.func153 rfl (by kernel_rfl) rfl rfl rfl SLe.rfl ?_
    repeat' (first | refine aI (32 - ((m : Nat) : Int)) ?_ | refine aU (32 - ((m : Nat) : Int)) ?_ | refine aB (32 - ((m : Nat) : Int)) ?_ | refine qg1 ?_ | refine eD ?_ ?_ <;> intro)
    refine sC (CallsM.ren ((hc.ok hT)) [0, 1, 2, 3, 4, 5] 6 rfl rfl rfl rfl) ?_
    repeat' (first | refine aI (32 - ((m + 1 : Nat) : Int)) ?_ | refine aU (32 - ((m + 1 : Nat) : Int)) ?_ | refine aB (32 - ((m + 1 : Nat) : Int)) ?_ | refine qg1 ?_ | refine eD ?_ ?_ <;> intro)
    exact ⟨rfl, TLe.rfl, rfl, rfl⟩
   ·
    refine fn_ruleP (C := ⟨Tryz.prog, layF, Tryz.f153.ntmps, ΓL, 6, [], []⟩) layF_ok mixed Tryz.func153 rfl (by kernel_rfl) rfl rfl rfl SLe.rfl ?_
    repeat' (first | refine aI (32 - ((m : Nat) : Int)) ?_ | refine aU (32 - ((m : Nat) : Int)) ?_ | refine aB (32 - ((m : Nat) : Int)) ?_ | refine qg1 ?_ | refine eD ?_ ?_ <;> intro)
    refine sC (CallsM.ren ((hc.err hT)) [0, 1, 2, 3, 4, 5] 6 rfl rfl rfl rfl) ?_
    exact ⟨⟨_, rfl, rfl⟩, rfl, rfl⟩
theorem mv_take1 {t : List UInt8} {i : Nat} {xs : List EX} {ts : List TY} {v : Unit} {s' : PS} (h : takeM L t ⟨i, xs, ts⟩ = .ok v s') : s' = ⟨i + 1, xs, ts⟩ := by
 unfold takeM at h; split at h <;> cases h; rfl
theorem mv_name1 {i : Nat} {xs : List EX} {ts : List TY} {v : List UInt8} {s' : PS} (h : nameM L ⟨i, xs, ts⟩ = .ok v s') : s' = ⟨i + 1, xs, ts⟩ := by
 unfold nameM at h; split at h <;> cases h; rfl
theorem mv_num1 {i : Nat} {xs : List EX} {ts : List TY} {v : Nat} {s' : PS} (h : numberM L ⟨i, xs, ts⟩ = .ok v s') : s' = ⟨i + 1, xs, ts⟩ := by
 unfold numberM at h; split at h <;> cases h; rfl
theorem mv_room1 {n i : Nat} {xs : List EX} {ts : List TY} {v : Unit} {s' : PS} (h : roomM n ⟨i, xs, ts⟩ = .ok v s') : s' = ⟨i, xs, ts⟩ := by
 unfold roomM at h; split at h <;> cases h; rfl
section
variable {α β : Type} {p : Nat → Bool} {x y : PM α} {f : Unit → PM β} {i : Nat} {xs : List EX} {ts : List TY}
theorem aty {T : PR α} (hT : atM p x y ⟨i, xs, ts⟩ = T) (h : p i = true) : x ⟨i, xs, ts⟩ = T := (at_pos (s := ⟨i, xs, ts⟩) h).symm.trans hT
theorem atn {T : PR α} (hT : atM p x y ⟨i, xs, ts⟩ = T) (h : p i = false) : y ⟨i, xs, ts⟩ = T := (at_neg (s := ⟨i, xs, ts⟩) h).symm.trans hT
theorem stp1 {T : PR β} (hT : (stepM >>= f) ⟨i, xs, ts⟩ = T) : f () ⟨i + 1, xs, ts⟩ = T := hT
theorem stpS (hL : TokOk L) {c : Nat} (h : SOk L c ⟨i, xs, ts⟩) (hk : (tk L i).k ≠ 3) : SOk L (c + 1) ⟨i + 1, xs, ts⟩ := stepP_ok hL h hk
theorem SOk.lt {c : Nat} (h : SOk L c ⟨i, xs, ts⟩) : i < L.length := h.i
theorem SOk.lx {c : Nat} (h : SOk L c ⟨i, xs, ts⟩) : xs.length + c ≤ i := h.x
theorem SOk.lt' {c : Nat} (h : SOk L c ⟨i, xs, ts⟩) : ts.length + c ≤ i := h.t
end
set_option maxHeartbeats 4000000 in
theorem unary_step (hL : TokOk L) (hn : L.length ≤ 100000) (hm : m ≤ 32) {un ex : PM Int} (hu : m ≠ 0 → Up L un 0 0) (he : m ≠ 0 → Up L ex 0 0)
  (h1 : ∀ m', m = m' + 1 → ∀ s, SOk L 0 s → C1 L m' 155 [] un (fun k => Ti k) s)
  (h2 : ∀ m', m = m' + 1 → ∀ s, SOk L 0 s → C1 L m' 85 [] ex (fun k => Ti k) s) (s : PS) (hs : SOk L 0 s) : C1 L m 155 [] (unF L m un ex) (fun k => Ti k) s := by
 refine C1.of fun T hT => ?_
 unfold unF at hT
 obtain ⟨i, xs, ts⟩ := s
 have hi := hs.lt
 have hxl := hs.lx
 have hdeep : ∀ {x : PM Int}, (m ≠ 0 → Up L x 0 0) → ∀ b, Up L (enterM m b >>= fun _ => x) 0 0 := fun {x} h b => by
  by_cases h0 : m = 0
  ·intro s c hs
   subst h0
   have e : (enterM 0 b >>= fun _ => x) s = .err s.i (if b = true then 8 else 4) := by cases b <;> rfl
   rw [e]
   cases b
   ·exact ⟨Nat.le_refl _, hs.i, by decide, by decide⟩
   ·exact ⟨Nat.le_refl _, hs.i, by decide, by decide⟩
  ·exact (Up.enter m b 0).and fun _ => h h0
 have hbg := fun h => begins_c (L := L) (m := m) (i + 1) h
 rcases hv : isV L i t_bang with _ | _
 ·replace hT := atn hT hv
  rcases hv2 : isV L i t_lpar with _ | _
  ·replace hT := atn hT hv2
   have hnm := named_c (m := m) i hi
   rcases hv3 : namedV L i with _ | _ <;> rw [hv3] at hnm
   ·replace hT := atn hT hv3
    refine fn_ruleP (C := ⟨Tryz.prog, layF, Tryz.f155.ntmps, ΓL, 6, [], []⟩) layF_ok mixed Tryz.func155 rfl (by kernel_rfl) rfl rfl rfl SLe.rfl ?_
    refine sC (CallsM.ren ((may_no i hi _ hv)) [0, 1] 6 rfl rfl rfl rfl) ?_
    repeat' (first | refine qgs ?_ | refine eD ?_ ?_ <;> intro)
    refine sC (CallsM.ren ((may_no i hi _ hv2)) [0, 1] 6 rfl rfl rfl rfl) ?_
    repeat' (first | refine qgs ?_ | refine eD ?_ ?_ <;> intro)
    refine sC (CallsM.ren (hnm) [0, 1] 6 rfl rfl rfl rfl) ?_
    repeat' (first | refine qgs ?_ | refine eD ?_ ?_ <;> intro)
    have hcon := num_c (m := m) ⟨i, xs, ts⟩ hs.i (by omega)
    rcases hx129 : (numberM L) ⟨i, xs, ts⟩ with ⟨n, s9⟩ | ⟨i9, e9⟩
    rotate_left
    ·obtain rfl := (and_err hx129).symm.trans hT
     refine sC (CallsM.ren (hcon.err hx129) [0, 1] 6 rfl rfl rfl rfl) ?_
     first | exact ⟨⟨_, rfl, rfl⟩, rfl, rfl⟩ | exact ⟨by kernel_rfl, ⟨_, rfl, rfl⟩, rfl, rfl⟩
    replace hT := (and_ok hx129).symm.trans hT
    refine sC (CallsM.ren (hcon.ok hx129) [0, 1] 6 rfl rfl rfl rfl) ?_
    clear hcon
    have hs1 := (Up.ok (Up.number hL 0) hs hx129).1
    obtain rfl := mv_num1 hx129
    repeat' (first | refine qgs ?_ | refine eD ?_ ?_ <;> intro)
    obtain rfl : PR.ok (xs.length : Int) ⟨i + 1, xs ++ [(⟨0, [], n, [], []⟩ : EX)], ts⟩ = T := hT
    refine sC (CallsM.ren ((put0_c (m := m) (i + 1) xs 0 n [] (by omega))) [0, 1, 2, 3, 4, 5] 6 rfl rfl rfl rfl) ?_
    repeat' (first | refine qgs ?_ | refine eD ?_ ?_ <;> intro)
    exact ⟨rfl, TLe.rfl, rfl, rfl⟩
   ·replace hT := aty hT hv3
    refine fn_ruleP (C := ⟨Tryz.prog, layF, Tryz.f155.ntmps, ΓL, 6, [], []⟩) layF_ok mixed Tryz.func155 rfl (by kernel_rfl) rfl rfl rfl SLe.rfl ?_
    refine sC (CallsM.ren ((may_no i hi _ hv)) [0, 1] 6 rfl rfl rfl rfl) ?_
    repeat' (first | refine qgs ?_ | refine eD ?_ ?_ <;> intro)
    refine sC (CallsM.ren ((may_no i hi _ hv2)) [0, 1] 6 rfl rfl rfl rfl) ?_
    repeat' (first | refine qgs ?_ | refine eD ?_ ?_ <;> intro)
    refine sC (CallsM.ren (hnm) [0, 1] 6 rfl rfl rfl rfl) ?_
    repeat' (first | refine qgs ?_ | refine eD ?_ ?_ <;> intro)
    have hcon := name_c (m := m) ⟨i, xs, ts⟩ hs.i (by omega)
    rcases hx143 : (nameM L) ⟨i, xs, ts⟩ with ⟨w, s9⟩ | ⟨i9, e9⟩
    rotate_left
    ·obtain rfl := (and_err hx143).symm.trans hT
     refine sC (CallsM.ren (hcon.err hx143) [0, 1] 6 rfl rfl rfl rfl) ?_
     first | exact ⟨⟨_, rfl, rfl⟩, rfl, rfl⟩ | exact ⟨by kernel_rfl, ⟨_, rfl, rfl⟩, rfl, rfl⟩
    replace hT := (and_ok hx143).symm.trans hT
    refine sC (CallsM.ren (hcon.ok hx143) [0, 1] 6 rfl rfl rfl rfl) ?_
    clear hcon
    have hs1 := (Up.ok (Up.name hL 0) hs hx143).1
    obtain rfl := mv_name1 hx143
    repeat' (first | refine qgs ?_ | refine eD ?_ ?_ <;> intro)
    obtain rfl : PR.ok (xs.length : Int) ⟨i + 1, xs ++ [(⟨1, [], 0, w, []⟩ : EX)], ts⟩ = T := hT
    refine sC (CallsM.ren ((put0_c (m := m) (i + 1) xs 1 0 w (by omega))) [0, 1, 2, 3, 4, 5] 6 rfl rfl rfl rfl) ?_
    repeat' (first | refine qgs ?_ | refine eD ?_ ?_ <;> intro)
    exact ⟨rfl, TLe.rfl, rfl, rfl⟩
  ·replace hT := deep_assoc (stp1 (aty hT hv2))
   have hs1 := stpS hL hs (isV_k hv2)
   refine fn_ruleP (C := ⟨Tryz.prog, layF, Tryz.f155.ntmps, ΓL, 6, [], []⟩) layF_ok mixed Tryz.func155 rfl (by kernel_rfl) rfl rfl rfl SLe.rfl ?_
   refine sC (CallsM.ren ((may_no i hi _ hv)) [0, 1] 6 rfl rfl rfl rfl) ?_
   repeat' (first | refine qgs ?_ | refine eD ?_ ?_ <;> intro)
   refine sC (CallsM.ren ((may_yes i hi (by omega) _ hv2)) [0, 1] 6 rfl rfl rfl rfl) ?_
   repeat' (first | refine qgs ?_ | refine eD ?_ ?_ <;> intro)
   refine sC (CallsM.ren ((hbg hs1.lt)) [0, 1] 6 rfl rfl rfl rfl) ?_
   repeat' (first | refine qgs ?_ | refine eD ?_ ?_ <;> intro)
   have hcon := deeper1_c (m := m) ⟨i + 1, xs, ts⟩ hs1.lt hm (fun m' e => h2 m' e _ (hs1.less (by omega))) (beginsV L (i + 1))
   rcases hx : ((enterM m (beginsV L (i + 1)) >>= fun _ => ex)) ⟨i + 1, xs, ts⟩ with ⟨k, ⟨i2, xs2, ts2⟩⟩ | ⟨i9, e9⟩
   rotate_left
   ·obtain rfl := (and_err hx).symm.trans hT
    refine sC (CallsM.ren (hcon.err hx) [0, 1, 2, 3, 4, 5] 6 rfl rfl rfl rfl) ?_
    first | exact ⟨⟨_, rfl, rfl⟩, rfl, rfl⟩ | exact ⟨by kernel_rfl, ⟨_, rfl, rfl⟩, rfl, rfl⟩
   replace hT := (and_ok hx).symm.trans hT
   refine sC (CallsM.ren (hcon.ok hx) [0, 1, 2, 3, 4, 5] 6 rfl rfl rfl rfl) ?_
   clear hcon
   have hs2 := (Up.ok ((hdeep he _).less (a' := 1) (b' := 1) 1 (by omega) (by omega)) hs1 hx).1
   repeat' (first | refine qgs ?_ | refine eD ?_ ?_ <;> intro)
   have hcon := take_c (m := m) ⟨i2, xs2, ts2⟩ hs2.i (by omega) t_rpar
   rcases hx160 : (takeM L t_rpar) ⟨i2, xs2, ts2⟩ with ⟨_, s9⟩ | ⟨i9, e9⟩
   rotate_left
   ·obtain rfl := (and_err hx160).symm.trans hT
    refine sC (CallsM.ren (hcon.err hx160) [0, 1] 7 rfl rfl rfl rfl) ?_
    first | exact ⟨⟨_, rfl, rfl⟩, rfl, rfl⟩ | exact ⟨by kernel_rfl, ⟨_, rfl, rfl⟩, rfl, rfl⟩
   replace hT := (and_ok hx160).symm.trans hT
   refine sC (CallsM.ren (hcon.ok hx160) [0, 1] 7 rfl rfl rfl rfl) ?_
   clear hcon
   have hs3 := (Up.ok (Up.take hL t_rpar 0) hs2 hx160).1
   obtain rfl := mv_take1 hx160
   obtain rfl : PR.ok k ⟨i2 + 1, xs2, ts2⟩ = T := hT
   repeat' (first | refine qgs ?_ | refine eD ?_ ?_ <;> intro)
   exact ⟨rfl, TLe.rfl, rfl, rfl⟩
 ·replace hT := deep_assoc (stp1 (aty hT hv))
  have hs1 := stpS hL hs (isV_k hv)
  refine fn_ruleP (C := ⟨Tryz.prog, layF, Tryz.f155.ntmps, ΓL, 6, [], []⟩) layF_ok mixed Tryz.func155 rfl (by kernel_rfl) rfl rfl rfl SLe.rfl ?_
  refine sC (CallsM.ren ((may_yes i hi (by omega) _ hv)) [0, 1] 6 rfl rfl rfl rfl) ?_
  repeat' (first | refine qgs ?_ | refine eD ?_ ?_ <;> intro)
  refine sC (CallsM.ren ((hbg hs1.lt)) [0, 1] 6 rfl rfl rfl rfl) ?_
  repeat' (first | refine qgs ?_ | refine eD ?_ ?_ <;> intro)
  have hcon := deeper1_c (m := m) ⟨i + 1, xs, ts⟩ hs1.lt hm (fun m' e => h1 m' e _ (hs1.less (by omega))) (beginsV L (i + 1))
  rcases hx : ((enterM m (beginsV L (i + 1)) >>= fun _ => un)) ⟨i + 1, xs, ts⟩ with ⟨k, ⟨i2, xs2, ts2⟩⟩ | ⟨i9, e9⟩
  rotate_left
  ·obtain rfl := (and_err hx).symm.trans hT
   refine sC (CallsM.ren (hcon.err hx) [0, 1, 2, 3, 4, 5] 6 rfl rfl rfl rfl) ?_
   first | exact ⟨⟨_, rfl, rfl⟩, rfl, rfl⟩ | exact ⟨by kernel_rfl, ⟨_, rfl, rfl⟩, rfl, rfl⟩
  replace hT := (and_ok hx).symm.trans hT
  refine sC (CallsM.ren (hcon.ok hx) [0, 1, 2, 3, 4, 5] 6 rfl rfl rfl rfl) ?_
  clear hcon
  have hs2 := (Up.ok ((hdeep hu _).less (a' := 1) (b' := 1) 1 (by omega) (by omega)) hs1 hx).1
  repeat' (first | refine qgs ?_ | refine eD ?_ ?_ <;> intro)
  obtain rfl : PR.ok (xs2.length : Int) ⟨i2, xs2 ++ [(⟨2, [], 0, [], [k]⟩ : EX)], ts2⟩ = T := hT
  have hx2 := hs2.lx
  have hl2 := hs2.lt
  have hp := (put_c (L := L) (m := m) ⟨i2, xs2, ts2⟩ ⟨2, [], 0, [], [k]⟩ (by show xs2.length ≤ _; omega)).ok rfl
  refine sC (CallsM.ren (hp) [0, 1, 2, 3, 6, 5] 8 rfl rfl rfl rfl) ?_
  repeat' (first | refine qgs ?_ | refine eD ?_ ?_ <;> intro)
  exact ⟨rfl, TLe.rfl, rfl, rfl⟩
end
end Go.Proofs.YtoingpafcodojaaGreatDoor

namespace Go.Proofs.YtoingpafcodojaaGreatDoor
open Go.RowKit

section
variable {L : List TokP} {m : Nat}
set_option maxHeartbeats 4000000 in
theorem line_step (hL : TokOk L) (hn : L.length ≤ 100000) (j : Nat) (hj : j ≤ 7) {x : PM Int} (hx : Up L x 0 0) (hc : ∀ s, SOk L 0 s → C1 L m 124 [c1 (di (9 - (j : Int)))] x (fun k => Ti k) s) (s : PS) (hs : SOk L 0 s) :
  C1 L m 124 [c1 (di (9 - ((j + 1 : Nat) : Int)))] (x >>= fun left => fun s => lineN L (8 - j) x (L.length - s.i + 1) left s) (fun k => Ti k) s := by
 refine C1.of fun T hT => ?_
 obtain ⟨i, xs, ts⟩ := s
 have h8 := (level_c [42]).gL
 rw [show levelV [42] = 8 by decide +kernel] at h8
 refine fn_ruleP (C := ⟨Tryz.prog, layF, Tryz.f124.ntmps, ΓL, 6, [], []⟩) layF_ok mixed Tryz.func124 rfl (by kernel_rfl) rfl rfl rfl SLe.rfl ?_
 repeat' (first | refine ex_call h8 ?_ | refine aI (9 - (j : Int)) ?_ | refine aU (9 - (j : Int)) ?_ | refine aB (9 - (j : Int)) ?_ | refine qg1 ?_ | refine eD ?_ ?_ <;> intro)
 have hcon := hc ⟨i, xs, ts⟩ hs
 rcases hx1 : (x) ⟨i, xs, ts⟩ with ⟨left, ⟨i1, xs1, ts1⟩⟩ | ⟨i9, e9⟩
 rotate_left
 ·obtain rfl := (and_err hx1).symm.trans hT
  refine sC (CallsM.ren (hcon.err hx1) [0, 1, 2, 3, 4, 5] 6 rfl rfl rfl rfl) ?_
  first | exact ⟨⟨_, rfl, rfl⟩, rfl, rfl⟩ | exact ⟨by kernel_rfl, ⟨_, rfl, rfl⟩, rfl, rfl⟩
 replace hT := (and_ok hx1).symm.trans hT
 refine sC (CallsM.ren (hcon.ok hx1) [0, 1, 2, 3, 4, 5] 6 rfl rfl rfl rfl) ?_
 clear hcon
 have hs1 := (Up.ok hx hs hx1).1
 repeat' (first | refine qgs ?_ | refine eD ?_ ?_ <;> intro)
 refine ex_loop (X := Nat × List EX × List TY × Int × Nat) (fun ⟨i, xs, _, left, _⟩ => ⟨[(0, .o P0), (1, Ti (9 - ((j + 1 : Nat) : Int))), (5, Ti left)], [(0, Qz L m i), (1, Fz 2 3 6 5), (4, .dead), (6, Xz xs)], 7⟩) (fun y => L.length - y.1)
  (fun ⟨i, xs, ts, left, n⟩ => SOk L 0 ⟨i, xs, ts⟩ ∧ L.length < i + n ∧ lineN L (8 - j) x n left ⟨i, xs, ts⟩ = T) (i1, xs1, ts1, left, L.length - i1 + 1) ⟨hs1, by omega, hT⟩ sS ?_
 clear hT hx1 hs1
 rintro ⟨i, xs, ts, left, n⟩ ⟨hs, hf, hT⟩
 have hi := hs.lt
 have ha := ahead_c (L := L) (m := m) i hi
 cases n with
 | zero => omega
 | succ n =>
  by_cases h2 : (tk L i).k = 2
  ·have hlv := (level_c (tk L i).t).gL
   by_cases h3 : levelV (tk L i).t = 8 - j
   ·have ho : opAt L (8 - j) i = true := by unfold opAt; rw [decide_eq_true h2, decide_eq_true h3]; rfl
    have hs1 := stpS hL hs (by omega)
    replace hT : (x >>= fun right => putM ⟨3, (tk L i).t, 0, [], [left, right]⟩ >>= fun k => lineN L (8 - j) x n k) ⟨i + 1, xs, ts⟩ = T := by
     rw [← hT, lineN]
     exact (if_pos ho).symm
    generalize tk L i = u at *
    refine sC (CallsM.ren (ha) [0, 1] 7 rfl rfl rfl rfl) ?_
    repeat' (first | refine qgs ?_ | refine eD ?_ ?_ <;> intro)
    refine sC (CallsM.ren (ha) [0, 1] 7 rfl rfl rfl rfl) ?_
    repeat' (first | refine ex_call hlv ?_ | refine qg1 ?_ | refine eD ?_ ?_ <;> intro)
    refine sC (CallsM.ren (ha) [0, 1] 7 rfl rfl rfl rfl) ?_
    repeat' (first | refine aI (9 - (j : Int)) ?_ | refine aU (9 - (j : Int)) ?_ | refine aB (9 - (j : Int)) ?_ | refine aI ((i + 1 : Nat) : Int) ?_ | refine aU ((i + 1 : Nat) : Int) ?_ | refine aB ((i + 1 : Nat) : Int) ?_ | refine qg1 ?_ | refine eD ?_ ?_ <;> intro)
    have hcon := hc ⟨i + 1, xs, ts⟩ (hs1.less (by omega))
    rcases hx1 : (x) ⟨i + 1, xs, ts⟩ with ⟨right, ⟨i1, xs1, ts1⟩⟩ | ⟨i9, e9⟩
    rotate_left
    ·obtain rfl := (and_err hx1).symm.trans hT
     refine sC (CallsM.ren (hcon.err hx1) [0, 1, 2, 3, 6, 5] 7 rfl rfl rfl rfl) ?_
     first | exact ⟨⟨_, rfl, rfl⟩, rfl, rfl⟩ | exact ⟨by kernel_rfl, ⟨_, rfl, rfl⟩, rfl, rfl⟩
    replace hT := (and_ok hx1).symm.trans hT
    refine sC (CallsM.ren (hcon.ok hx1) [0, 1, 2, 3, 6, 5] 7 rfl rfl rfl rfl) ?_
    clear hcon
    have hs2 := (Up.ok (hx.less (a' := 1) (b' := 1) 1 (by omega) (by omega)) hs1 hx1).1
    repeat' (first | refine qgs ?_ | refine eD ?_ ?_ <;> intro)
    have hx2 := hs2.lx
    have hl2 := hs2.lt
    have hp := (put_c (L := L) (m := m) ⟨i1, xs1, ts1⟩ ⟨3, u.t, 0, [], [left, right]⟩ (by show xs1.length ≤ _; omega)).ok rfl
    refine sC (CallsM.ren (hp) [0, 1, 2, 3, 7, 5] 9 rfl rfl rfl rfl) ?_
    repeat' (first | refine qgs ?_ | refine eD ?_ ?_ <;> intro)
    have hi1 : i + 1 ≤ i1 := by have := (Up.ok hx (hs1.less (Nat.zero_le _)) hx1).2; exact this
    exact ex_round (i1, xs1 ++ [(⟨3, u.t, 0, [], [left, right]⟩ : EX)], ts1, (xs1.length : Int), n) ⟨(Up.ok (Up.put _ 0) hs2 rfl).1, by omega, hT⟩ (by show L.length - i1 < L.length - i; omega) (sR [(0, 0), (1, 1), (2, 2), (3, 3), (4, 4), (5, 5), (9, 6)])
   ·have ho : opAt L (8 - j) i = false := by unfold opAt; rw [decide_eq_false h3]; simp
    obtain rfl : PR.ok left ⟨i, xs, ts⟩ = T := by rw [← hT, lineN]; exact (if_neg (by rw [ho]; decide)).symm
    generalize tk L i = u at *
    refine sC (CallsM.ren (ha) [0, 1] 7 rfl rfl rfl rfl) ?_
    repeat' (first | refine qgs ?_ | refine eD ?_ ?_ <;> intro)
    refine sC (CallsM.ren (ha) [0, 1] 7 rfl rfl rfl rfl) ?_
    repeat' (first | refine ex_call hlv ?_ | refine qg1 ?_ | refine eD ?_ ?_ <;> intro)
    exact ⟨rfl, TLe.rfl, rfl, rfl⟩
  ·have ho : opAt L (8 - j) i = false := by unfold opAt; rw [decide_eq_false h2]; rfl
   obtain rfl : PR.ok left ⟨i, xs, ts⟩ = T := by rw [← hT, lineN]; exact (if_neg (by rw [ho]; decide)).symm
   generalize tk L i = u at *
   refine sC (CallsM.ren (ha) [0, 1] 7 rfl rfl rfl rfl) ?_
   repeat' (first | refine qgs ?_ | refine eD ?_ ?_ <;> intro)
   exact ⟨rfl, TLe.rfl, rfl, rfl⟩
theorem line0_c {un : PM Int} (s : PS) (hc : C1 L m 155 [] un (fun k => Ti k) s) : C1 L m 124 [c1 (di (9 - ((0 : Nat) : Int)))] un (fun k => Ti k) s := by
 refine C1.of fun T hT => ?_
 have h8 := (level_c [42]).gL
 rw [show levelV [42] = 8 by decide +kernel] at h8
 rcases T with ⟨k, s1⟩ | ⟨i, e⟩
 ·
  refine fn_ruleP (C := ⟨Tryz.prog, layF, Tryz.f124.ntmps, ΓL, 6, [], []⟩) layF_ok mixed Tryz.func124 rfl (by kernel_rfl) rfl rfl rfl SLe.rfl ?_
  repeat' (first | refine ex_call h8 ?_ | refine qg1 ?_ | refine eD ?_ ?_ <;> intro)
  refine sC (CallsM.ren ((hc.ok hT)) [0, 1, 2, 3, 4, 5] 6 rfl rfl rfl rfl) ?_
  repeat' (first | refine qgs ?_ | refine eD ?_ ?_ <;> intro)
  exact ⟨rfl, TLe.rfl, rfl, rfl⟩
 ·
  refine fn_ruleP (C := ⟨Tryz.prog, layF, Tryz.f124.ntmps, ΓL, 6, [], []⟩) layF_ok mixed Tryz.func124 rfl (by kernel_rfl) rfl rfl rfl SLe.rfl ?_
  repeat' (first | refine ex_call h8 ?_ | refine qg1 ?_ | refine eD ?_ ?_ <;> intro)
  refine sC (CallsM.ren ((hc.err hT)) [0, 1, 2, 3, 4, 5] 6 rfl rfl rfl rfl) ?_
  exact ⟨⟨_, rfl, rfl⟩, rfl, rfl⟩
theorem line_c (hL : TokOk L) (hn : L.length ≤ 100000) {un : PM Int} (hu : Up L un 0 0) (hc : ∀ s, SOk L 0 s → C1 L m 155 [] un (fun k => Ti k) s) : ∀ j : Nat, j ≤ 8 → ∀ s, SOk L 0 s → C1 L m 124 [c1 (di (9 - (j : Int)))] (lineJ L un j) (fun k => Ti k) s
 | 0, _, s, hs => line0_c s (hc s hs)
 | j + 1, hj, s, hs => line_step hL hn j (by omega) (up_lineJ hL hu j) (line_c hL hn hu hc j (by omega)) s hs
theorem expr_of {x : PM Int} (s : PS) (hc : C1 L m 124 [c1 (di (9 - ((8 : Nat) : Int)))] x (fun k => Ti k) s) : C1 L m 85 [] x (fun k => Ti k) s := by
 have hc : C1 L m 124 [c1 (di 1)] x (fun k => Ti k) s := hc
 refine C1.of fun T hT => ?_
 rcases T with ⟨k, s1⟩ | ⟨i, e⟩
 ·
  refine fn_ruleP (C := ⟨Tryz.prog, layF, Tryz.f85.ntmps, ΓL, 6, [], []⟩) layF_ok mixed Tryz.func85 rfl (by kernel_rfl) rfl rfl rfl SLe.rfl ?_
  repeat' (first | refine qgs ?_ | refine eD ?_ ?_ <;> intro)
  refine sC (CallsM.ren ((hc.ok hT)) [0, 1, 2, 3, 4, 5] 6 rfl rfl rfl rfl) ?_
  repeat' (first | refine qgs ?_ | refine eD ?_ ?_ <;> intro)
  exact ⟨rfl, TLe.rfl, rfl, rfl⟩
 ·
  refine fn_ruleP (C := ⟨Tryz.prog, layF, Tryz.f85.ntmps, ΓL, 6, [], []⟩) layF_ok mixed Tryz.func85 rfl (by kernel_rfl) rfl rfl rfl SLe.rfl ?_
  repeat' (first | refine qgs ?_ | refine eD ?_ ?_ <;> intro)
  refine sC (CallsM.ren ((hc.err hT)) [0, 1, 2, 3, 4, 5] 6 rfl rfl rfl rfl) ?_
  exact ⟨⟨_, rfl, rfl⟩, rfl, rfl⟩
theorem unary_c (hL : TokOk L) (hn : L.length ≤ 100000) : ∀ m, m ≤ 32 → ∀ s, SOk L 0 s → C1 L m 155 [] (unM L m) (fun k => Ti k) s
 | 0, hm, s, hs => unary_step hL hn hm (fun h => absurd rfl h) (fun h => absurd rfl h) (fun _ h => by omega) (fun _ h => by omega) s hs
 | m + 1, hm, s, hs => unary_step hL hn hm (fun _ => up_unM hL m) (fun _ => up_lineJ hL (up_unM hL m) 8)
   (fun m' h s hs => by
    obtain rfl : m = m' := by omega
    exact unary_c hL hn m (by omega) s hs)
   (fun m' h s hs => by
    obtain rfl : m = m' := by omega
    exact expr_of s (line_c hL hn (up_unM hL m) (unary_c hL hn m (by omega)) 8 (Nat.le_refl _) s hs)) s hs
theorem expr_c (hL : TokOk L) (hn : L.length ≤ 100000) (m : Nat) (hm : m ≤ 32) (s : PS) (hs : SOk L 0 s) : C1 L m 85 [] (exprM L m) (fun k => Ti k) s :=
 expr_of s (line_c hL hn (up_unM hL m) (unary_c hL hn m hm) 8 (Nat.le_refl _) s hs)
end
end Go.Proofs.YtoingpafcodojaaGreatDoor

namespace Go.Proofs.YtoingpafcodojaaGreatDoor
open Go.RowKit

def Keep {α : Type} (x : PM α) : Prop := ∀ s v s', x s = .ok v s' → s'.ts = s.ts
theorem Keep.and {α β : Type} {x : PM α} {f : α → PM β} (hx : Keep x) (hf : ∀ v, Keep (f v)) : Keep (x >>= f) := fun s v s' h => by
 have hb : PM.and x f s = .ok v s' := h
 unfold PM.and at hb
 rcases hxs : x s with ⟨u, s1⟩ | ⟨i, e⟩
 ·rw [hxs] at hb; exact (hf u _ _ _ hb).trans (hx _ _ _ hxs)
 ·rw [hxs] at hb; cases hb
theorem Keep.at {α : Type} {p : Nat → Bool} {x y : PM α} (hx : Keep x) (hy : Keep y) : Keep (atM p x y) := fun s v s' h => by
 unfold atM at h
 split at h
 ·exact hx _ _ _ h
 ·exact hy _ _ _ h
theorem Keep.pure {α : Type} (v : α) : Keep (pure v) := fun s v s' h => by cases h; rfl
theorem Keep.step : Keep stepM := fun s v s' h => by cases h; rfl
theorem Keep.put (x : EX) : Keep (putM x) := fun s v s' h => by cases h; rfl
section
variable {L : List TokP} {m : Nat}
theorem Keep.take (t : List UInt8) : Keep (takeM L t) := fun s v s' h => by unfold takeM at h; split at h <;> cases h; rfl
theorem Keep.name : Keep (nameM L) := fun s v s' h => by unfold nameM at h; split at h <;> cases h; rfl
theorem Keep.num : Keep (numberM L) := fun s v s' h => by unfold numberM at h; split at h <;> cases h; rfl
theorem Keep.enter (p : Nat → Bool) : Keep (fun s => enterM m (p s.i) s) := fun s v s' h => by
 dsimp only at h; unfold enterM at h; split at h
 ·cases h
 ·split at h <;> cases h; rfl
theorem Keep.fail {α : Type} (e : Nat) : Keep (failM e : PM α) := fun s v s' h => by cases h
theorem keep_un (m : Nat) {un ex : PM Int} (h1 : Keep un) (h2 : Keep ex) : Keep (unF L m un ex) := by
 unfold unF
 exact Keep.at (Keep.step.and fun _ => (Keep.enter _).and fun _ => h1.and fun _ => Keep.put _) (Keep.at (Keep.step.and fun _ => (Keep.enter _).and fun _ => h2.and fun _ => (Keep.take _).and fun _ => Keep.pure _) (Keep.at (Keep.name.and fun _ => Keep.put _) (Keep.num.and fun _ => Keep.put _)))
theorem keep_line (lv : Nat) {x : PM Int} (hx : Keep x) : ∀ n left, Keep (lineN L lv x n left)
 | 0, left => Keep.pure _
 | n + 1, left => fun s v s' h => by
  rw [lineN] at h
  change (if opAt L lv s.i = true then _ else _) = _ at h
  split at h
  ·exact (Keep.step.and fun _ => hx.and fun r => (Keep.put ⟨3, (tk L s.i).t, 0, [], [left, r]⟩).and fun k => keep_line lv hx n k) _ _ _ h
  ·cases h; rfl
theorem keep_lineJ {un : PM Int} (hx : Keep un) : ∀ j, Keep (lineJ L un j)
 | 0 => hx
 | j + 1 => (keep_lineJ hx j).and fun left => fun s v s' h => keep_line _ (keep_lineJ hx j) _ _ s v s' h
theorem keep_unM : ∀ m, Keep (unM L m)
 | 0 => keep_un 0 (Keep.fail _) (Keep.fail _)
 | m + 1 => keep_un _ (keep_unM m) (keep_lineJ (keep_unM m) 8)
theorem keep_expr (m : Nat) : Keep (exprM L m) := keep_lineJ (keep_unM m) 8
theorem keep_bracket (m : Nat) : Keep (bracketM L m) := (Keep.take _).and fun _ => (keep_expr m).and fun _ => (Keep.take _).and fun _ => Keep.pure _
theorem Keep.eq {α : Type} {x : PM α} (h : Keep x) {i i1 : Nat} {xs xs1 : List EX} {ts ts1 : List TY} {v : α} (hx : x ⟨i, xs, ts⟩ = .ok v ⟨i1, xs1, ts1⟩) : ts = ts1 := (h _ _ _ hx).symm
theorem keep_args : ∀ n l, Keep (argsN L m n l)
 | 0, l => Keep.pure _
 | n + 1, l => Keep.at (Keep.step.and fun _ => (show Keep (fun s => if beginsV L s.i = true then roomM l.length s else .ok () s) from fun s v s' h => by
   dsimp only at h
   split at h
   ·unfold roomM at h; split at h <;> cases h; rfl
   ·cases h; rfl).and fun _ => (keep_expr m).and fun x => keep_args n _) (Keep.pure _)
theorem keep_ref : Keep (refM L m) := Keep.name.and fun w => Keep.at (Keep.step.and fun _ => (keep_expr m).and fun x => (show Keep (fun s => argsN L m (L.length - s.i + 1) [x] s) from fun s v s' h => keep_args _ _ s v s' h).and fun l => (Keep.take _).and fun _ => Keep.pure _) (Keep.pure _)
theorem start1 {i : Nat} {xs : List EX} : SLe 6 ⟨argTm 0 [P0], [(4, .dead), (0, Qz L m i), (1, Fz 2 3 6 5), (6, Xz xs)], 7⟩ ⟨argTm 0 [P0], [(0, Qz L m i), (1, Fz 2 3 4 5), (4, Xz xs)], 6⟩ :=
 SLe.kill (nx := 7) 4 (sR [(0, 0), (1, 1), (2, 2), (3, 3), (4, 6), (5, 5)])
theorem start2 {i : Nat} {xs : List EX} {ts : List TY} : SLe 6 ⟨argTm 0 [P0], [(4, .dead), (0, Qz L m i), (1, Fz 2 3 6 5), (6, Xz xs), (5, Tz ts)], 7⟩ ⟨argTm 0 [P0], [(0, Qz L m i), (1, Fz 2 3 4 5), (4, Xz xs), (5, Tz ts)], 6⟩ :=
 SLe.kill (nx := 7) 4 (sR [(0, 0), (1, 1), (2, 2), (3, 3), (4, 6), (5, 5)])
theorem start2t {i : Nat} {xs : List EX} {ts : List TY} {t : TY} : SLe 6 ⟨argTm 0 [P0, gD (tyD t)], [(4, .dead), (0, Qz L m i), (1, Fz 2 3 6 5), (6, Xz xs), (5, Tz ts)], 7⟩ ⟨argTm 0 [P0, gD (tyD t)], [(0, Qz L m i), (1, Fz 2 3 4 5), (4, Xz xs), (5, Tz ts)], 6⟩ :=
 SLe.kill (nx := 7) 4 (sR [(0, 0), (1, 1), (2, 2), (3, 3), (4, 6), (5, 5)])
theorem plain_c (k : Nat) : CallsA Tryz.prog ΓL 119 [c1 (di k)] (.o (gD [di k, di 0, db false, ds ⟨#[]⟩, dnil, di (-1), di (-1), dnil])) := by
 refine fn_rule (C := ⟨Tryz.prog, layF, Tryz.f119.ntmps, ΓL, 0, [], []⟩) layF_ok mixed Tryz.func119 rfl (by kernel_rfl) rfl rfl rfl ?_
 repeat' (first | refine qgs ?_ | refine eD ?_ ?_ <;> intro)
 exact TLe.rfl
theorem bracket_c (hL : TokOk L) (hn : L.length ≤ 100000) (hm : m ≤ 32) (s : PS) {c : Nat} (hs : SOk L c s) : C1 L m 120 [] (bracketM L m) (fun k => Ti k) s := by
 refine C1.of fun T hT => ?_
 unfold bracketM at hT
 obtain ⟨i, xs, ts⟩ := s
 refine fn_ruleP (C := ⟨Tryz.prog, layF, Tryz.f120.ntmps, ΓL, 6, [], []⟩) layF_ok mixed Tryz.func120 rfl (by kernel_rfl) rfl rfl rfl SLe.rfl ?_
 repeat' (first | refine qgs ?_ | refine eD ?_ ?_ <;> intro)
 have hcon := take_c (m := m) ⟨i, xs, ts⟩ hs.i (by omega) t_lsq
 rcases hx78 : (takeM L t_lsq) ⟨i, xs, ts⟩ with ⟨_, s9⟩ | ⟨i9, e9⟩
 rotate_left
 ·obtain rfl := (and_err hx78).symm.trans hT
  refine sC (CallsM.ren (hcon.err hx78) [0, 1] 6 rfl rfl rfl rfl) ?_
  first | exact ⟨⟨_, rfl, rfl⟩, rfl, rfl⟩ | exact ⟨by kernel_rfl, ⟨_, rfl, rfl⟩, rfl, rfl⟩
 replace hT := (and_ok hx78).symm.trans hT
 refine sC (CallsM.ren (hcon.ok hx78) [0, 1] 6 rfl rfl rfl rfl) ?_
 clear hcon
 have hs1 := (Up.ok (Up.take hL t_lsq 0) hs hx78).1
 obtain rfl := mv_take1 hx78
 repeat' (first | refine qgs ?_ | refine eD ?_ ?_ <;> intro)
 have hcon := expr_c hL hn m hm ⟨i + 1, xs, ts⟩ (hs1.less (by omega))
 rcases hx : (exprM L m) ⟨i + 1, xs, ts⟩ with ⟨k, ⟨i2, xs2, ts2⟩⟩ | ⟨i9, e9⟩
 rotate_left
 ·obtain rfl := (and_err hx).symm.trans hT
  refine sC (CallsM.ren (hcon.err hx) [0, 1, 2, 3, 4, 5] 6 rfl rfl rfl rfl) ?_
  first | exact ⟨⟨_, rfl, rfl⟩, rfl, rfl⟩ | exact ⟨by kernel_rfl, ⟨_, rfl, rfl⟩, rfl, rfl⟩
 replace hT := (and_ok hx).symm.trans hT
 refine sC (CallsM.ren (hcon.ok hx) [0, 1, 2, 3, 4, 5] 6 rfl rfl rfl rfl) ?_
 clear hcon
 have hs2 := (Up.ok (up_expr hL m 1) hs1 hx).1
 repeat' (first | refine qgs ?_ | refine eD ?_ ?_ <;> intro)
 have hcon := take_c (m := m) ⟨i2, xs2, ts2⟩ hs2.i (by omega) t_rsq
 rcases hx82 : (takeM L t_rsq) ⟨i2, xs2, ts2⟩ with ⟨_, s9⟩ | ⟨i9, e9⟩
 rotate_left
 ·obtain rfl := (and_err hx82).symm.trans hT
  refine sC (CallsM.ren (hcon.err hx82) [0, 1] 7 rfl rfl rfl rfl) ?_
  first | exact ⟨⟨_, rfl, rfl⟩, rfl, rfl⟩ | exact ⟨by kernel_rfl, ⟨_, rfl, rfl⟩, rfl, rfl⟩
 replace hT := (and_ok hx82).symm.trans hT
 refine sC (CallsM.ren (hcon.ok hx82) [0, 1] 7 rfl rfl rfl rfl) ?_
 clear hcon
 have hs3 := (Up.ok (Up.take hL t_rsq 0) hs2 hx82).1
 obtain rfl := mv_take1 hx82
 obtain rfl : PR.ok k ⟨i2 + 1, xs2, ts2⟩ = T := hT
 repeat' (first | refine qgs ?_ | refine eD ?_ ?_ <;> intro)
 exact ⟨rfl, TLe.rfl, rfl, rfl⟩
theorem layn_c (i : Nat) (ts : List TY) (k size : Nat) (little : Bool) (w : List UInt8) (x n : Int) (hx : ts.length ≤ 1000000) : CallsM Tryz.prog ΓL 122 [(0, Qz L m i), (1, Fz 2 3 4 5), (5, Tz ts)] 6 [P0, gD [di k, di size, db little, ds (bs w), dnil, di x, di n, dnil]] (Ti ts.length) [(0, Qz L m i), (1, Fz 2 3 4 6), (5, .dead)] [Tz (ts ++ [⟨k, size, little, w, [], x, n, []⟩])] :=
 (lay_c (L := L) (m := m) ⟨i, [], ts⟩ ⟨k, size, little, w, [], x, n, []⟩ hx).argsLe (.cons T1Le.rfl (.cons (T1Le.g (.cons DLe.rfl (.cons DLe.rfl (.cons DLe.rfl (.cons DLe.rfl (.cons DLe.nil (.cons DLe.rfl (.cons DLe.rfl (.cons DLe.nil .nil))))))))) .nil))
set_option maxHeartbeats 4000000 in
theorem array_c (hL : TokOk L) (hn : L.length ≤ 100000) (hm : m ≤ 32) (t : TY) (s : PS) {c : Nat} (hs : SOk L (c + 1) s) : C2 L m 115 [gD (tyD t)] (arrayM L m t) (fun k => Ti k) s := by
 refine C2.of fun T hT => ?_
 unfold arrayM at hT
 obtain ⟨i, xs, ts⟩ := s
 have hi := hs.lt
 have hxl := hs.lx
 have htl := hs.lt'
 replace hT : atM (isV L · t_lsq) (bracketM L m >>= fun x => layM { tyP 5 with ex := x, inn := ts.length }) (pure (ts.length : Int)) ⟨i, xs, ts ++ [t]⟩ = T := hT
 have hq : SOk L c ⟨i, xs, ts ++ [t]⟩ := (Up.ok (Up.lay t 0) hs rfl).1
 have hl := lay_c (L := L) (m := m) ⟨i, xs, ts⟩ t (by show ts.length ≤ _; omega)
 refine fn_ruleP (C := ⟨Tryz.prog, layF, Tryz.f115.ntmps, ΓL, 6, [], []⟩) layF_ok mixed Tryz.func115 rfl (by kernel_rfl) rfl rfl rfl start2t ?_
 repeat' (first | refine qgs ?_ | refine eD ?_ ?_ <;> intro)
 refine sC (CallsM.ren (hl) [0, 1, 2, 3, 6, 5] 8 rfl rfl rfl rfl) ?_
 repeat' (first | refine qgs ?_ | refine eD ?_ ?_ <;> intro)
 rcases hv : isV L i t_lsq with _ | _
 ·replace hT := atn hT hv
  obtain rfl : PR.ok (ts.length : Int) ⟨i, xs, ts ++ [t]⟩ = T := hT
  have hi := is_c (m := m) i hi t_lsq
  rw [hv] at hi
  refine sC (CallsM.ren (hi) [0, 1] 9 rfl rfl rfl rfl) ?_
  repeat' (first | refine qgs ?_ | refine eD ?_ ?_ <;> intro)
  exact ⟨rfl, TLe.rfl, rfl, rfl⟩
 ·replace hT := aty hT hv
  have hi := is_c (m := m) i hi t_lsq
  rw [hv] at hi
  refine sC (CallsM.ren (hi) [0, 1] 9 rfl rfl rfl rfl) ?_
  repeat' (first | refine ex_call (plain_c 5) ?_ | refine qg1 ?_ | refine eD ?_ ?_ <;> intro)
  have hcon := bracket_c hL hn hm ⟨i, xs, ts ++ [t]⟩ hq
  rcases hx : (bracketM L m) ⟨i, xs, ts ++ [t]⟩ with ⟨x, ⟨i2, xs2, ts2⟩⟩ | ⟨i9, e9⟩
  rotate_left
  ·obtain rfl := (and_err hx).symm.trans hT
   refine sC (CallsM.ren (hcon.err hx) [0, 1, 2, 3, 6, 8] 10 rfl rfl rfl rfl) ?_
   first | exact ⟨⟨_, rfl, rfl⟩, rfl, rfl⟩ | exact ⟨by kernel_rfl, ⟨_, rfl, rfl⟩, rfl, rfl⟩
  replace hT := (and_ok hx).symm.trans hT
  refine sC (CallsM.ren (hcon.ok hx) [0, 1, 2, 3, 6, 8] 10 rfl rfl rfl rfl) ?_
  clear hcon
  have hs2 := (Up.ok (up_bracket hL m 0) hq hx).1
  obtain rfl := (keep_bracket m).eq hx
  have hl2 := hs2.lt'
  have hi2 := hs2.lt
  obtain rfl : PR.ok ((ts ++ [t]).length : Int) ⟨i2, xs2, (ts ++ [t]) ++ [(⟨5, 0, false, [], [], x, ts.length, []⟩ : TY)]⟩ = T := hT
  repeat' (first | refine qgs ?_ | refine eD ?_ ?_ <;> intro)
  refine sC (CallsM.ren ((layn_c (L := L) (m := m) i2 (ts ++ [t]) 5 0 false [] x ts.length (by omega))) [0, 1, 2, 3, 10, 8] 11 rfl rfl rfl rfl) ?_
  repeat' (first | refine qgs ?_ | refine eD ?_ ?_ <;> intro)
  exact ⟨rfl, TLe.rfl, rfl, rfl⟩
end
end Go.Proofs.YtoingpafcodojaaGreatDoor

namespace Go.Proofs.YtoingpafcodojaaGreatDoor
open Go.RowKit

section
variable {L : List TokP} {m : Nat}
section
variable {α β γ : Type} {x y : PM α} {g : α → PM β} {f : β → PM γ} {F : α → PM β} {p : Nat → Bool} {i : Nat} {xs : List EX} {ts : List TY}
theorem asc {s : PS} {T : PR γ} (h : ((x >>= g) >>= f) s = T) : (x >>= fun v => g v >>= f) s = T := by
 rw [← h]
 show PM.and x (fun v => PM.and (g v) f) s = PM.and (PM.and x g) f s
 unfold PM.and
 cases x s <;> rfl
theorem atyB {T : PR β} (hT : (atM p x y >>= F) ⟨i, xs, ts⟩ = T) (h : p i = true) : (x >>= F) ⟨i, xs, ts⟩ = T := by
 rw [← hT]
 show PM.and _ _ _ = PM.and _ _ _
 unfold PM.and
 rw [at_pos (s := ⟨i, xs, ts⟩) h]
theorem atnB {T : PR β} (hT : (atM p x y >>= F) ⟨i, xs, ts⟩ = T) (h : p i = false) : (y >>= F) ⟨i, xs, ts⟩ = T := by
 rw [← hT]
 show PM.and _ _ _ = PM.and _ _ _
 unfold PM.and
 rw [at_neg (s := ⟨i, xs, ts⟩) h]
theorem pureT {v : α} {s : PS} {T : PR β} (hT : ((pure v : PM α) >>= F) s = T) : F v s = T := hT
theorem rmT {n : Nat} {F : Unit → PM β} {T : PR β} (hT : ((fun s => if p s.i = true then roomM n s else .ok () s) >>= F) ⟨i, xs, ts⟩ = T) (h : p i = true) : (roomM n >>= F) ⟨i, xs, ts⟩ = T := by
 rw [← hT]
 show PM.and _ _ _ = PM.and _ _ _
 unfold PM.and
 dsimp only
 rw [if_pos h]
theorem rmF {n : Nat} {F : Unit → PM β} {T : PR β} (hT : ((fun s => if p s.i = true then roomM n s else .ok () s) >>= F) ⟨i, xs, ts⟩ = T) (h : p i = false) : F () ⟨i, xs, ts⟩ = T := by
 rw [← hT]
 show _ = PM.and _ _ _
 unfold PM.and
 dsimp only
 rw [if_neg (by rw [h]; decide)]
end
theorem tyLe {k size : Nat} {little : Bool} {w : List UInt8} {x n : Int} : TLe (.o (gD [di k, di size, db little, ds (bs w), dnil, di x, di n, dnil])) (.o (gD (tyD ⟨k, size, little, w, [], x, n, []⟩))) :=
 TLe.o (T1Le.g (.cons DLe.rfl (.cons DLe.rfl (.cons DLe.rfl (.cons DLe.rfl (.cons DLe.nil (.cons DLe.rfl (.cons DLe.rfl (.cons DLe.nil .nil)))))))))
theorem tyLe1 {k size : Nat} {little : Bool} {w : List UInt8} {x n : Int} {l : List Int} : TLe (.o (gD [di k, di size, db little, ds (bs w), intsD l, di x, di n, dnil])) (.o (gD (tyD ⟨k, size, little, w, l, x, n, []⟩))) :=
 TLe.o (T1Le.g (.cons DLe.rfl (.cons DLe.rfl (.cons DLe.rfl (.cons DLe.rfl (.cons DLe.rfl (.cons DLe.rfl (.cons DLe.rfl (.cons DLe.nil .nil)))))))))
set_option maxHeartbeats 4000000 in
theorem ref_c (hL : TokOk L) (hn : L.length ≤ 100000) (hm : m ≤ 32) (s : PS) {c : Nat} (hs : SOk L c s) : C1 L m 116 [] (refM L m) (fun t => .o (gD (tyD t))) s := by
 refine C1.of fun T hT => ?_
 unfold refM at hT
 obtain ⟨i, xs, ts⟩ := s
 refine fn_ruleP (C := ⟨Tryz.prog, layF, Tryz.f116.ntmps, ΓL, 6, [], []⟩) layF_ok mixed Tryz.func116 rfl (by kernel_rfl) rfl rfl rfl start1 ?_
 repeat' (first | refine ex_call (plain_c 10) ?_ | refine qg1 ?_ | refine eD ?_ ?_ <;> intro)
 have hcon := name_c (m := m) ⟨i, xs, ts⟩ hs.i (by omega)
 rcases hx50 : (nameM L) ⟨i, xs, ts⟩ with ⟨w, s9⟩ | ⟨i9, e9⟩
 rotate_left
 ·obtain rfl := (and_err hx50).symm.trans hT
  refine sC (CallsM.ren (hcon.err hx50) [0, 1] 9 rfl rfl rfl rfl) ?_
  first | exact ⟨⟨_, rfl, rfl⟩, rfl, rfl⟩ | exact ⟨by kernel_rfl, ⟨_, rfl, rfl⟩, rfl, rfl⟩
 replace hT := (and_ok hx50).symm.trans hT
 refine sC (CallsM.ren (hcon.ok hx50) [0, 1] 9 rfl rfl rfl rfl) ?_
 clear hcon
 have hs1 := (Up.ok (Up.name hL 0) hs hx50).1
 obtain rfl := mv_name1 hx50
 repeat' (first | refine qgs ?_ | refine eD ?_ ?_ <;> intro)
 rcases hv : isV L (i + 1) t_lpar with _ | _
 ·replace hT := atn hT hv
  obtain rfl : PR.ok ({ tyP 10 with nm := w } : TY) ⟨i + 1, xs, ts⟩ = T := hT
  refine sC (CallsM.ren ((may_no (i + 1) hs1.lt _ hv)) [0, 1] 9 rfl rfl rfl rfl) ?_
  repeat' (first | refine qgs ?_ | refine eD ?_ ?_ <;> intro)
  exact ⟨rfl, tyLe, rfl, rfl⟩
 ·replace hT := stp1 (aty hT hv)
  have hs2 := stpS hL hs1 (isV_k hv)
  refine sC (CallsM.ren ((may_yes (i + 1) hs1.lt (by omega) _ hv)) [0, 1] 9 rfl rfl rfl rfl) ?_
  repeat' (first | refine qgs ?_ | refine eD ?_ ?_ <;> intro)
  have hcon := expr_c hL hn m hm ⟨i + 1 + 1, xs, ts⟩ (hs2.less (by omega))
  rcases hx : (exprM L m) ⟨i + 1 + 1, xs, ts⟩ with ⟨x, ⟨i2, xs2, ts2⟩⟩ | ⟨i9, e9⟩
  rotate_left
  ·obtain rfl := (and_err hx).symm.trans hT
   refine sC (CallsM.ren (hcon.err hx) [0, 1, 2, 3, 6, 5] 9 rfl rfl rfl rfl) ?_
   first | exact ⟨⟨_, rfl, rfl⟩, rfl, rfl⟩ | exact ⟨by kernel_rfl, ⟨_, rfl, rfl⟩, rfl, rfl⟩
  replace hT := (and_ok hx).symm.trans hT
  refine sC (CallsM.ren (hcon.ok hx) [0, 1, 2, 3, 6, 5] 9 rfl rfl rfl rfl) ?_
  clear hcon
  have hs3 := (Up.ok (up_expr hL m 2) hs2 hx).1
  repeat' (first | refine qgs ?_ | refine eD ?_ ?_ <;> intro)
  refine ex_app (0) (1) 1000 (by first | rfl | (simp; done) | (simp; omega)) (by first | rfl | (simp; done) | (simp; omega)) rfl (by omega) ?_
  refine ex_is (List.map (fun k : Int => [di k]) [x]) (rfl) ?_
  repeat' (first | refine qgs ?_ | refine eD ?_ ?_ <;> intro)
  replace hT : (argsN L m (L.length - i2 + 1) [x] >>= fun l => takeM L t_rpar >>= fun _ => pure ({ tyP 10 with nm := w, args := l } : TY)) ⟨i2, xs2, ts2⟩ = T := hT
  refine ex_loop (X := Nat × List EX × List TY × List Int × Nat) (fun ⟨i, xs, _, l, _⟩ => ⟨[(0, .o P0), (2, .o (.c (.ptr 7 0))), (3, .o (.c (.ptr 8 0)))], [(0, Qz L m i), (1, Fz 2 3 9 5), (4, .dead), (7, .obj [.d (di 0), .d (di 0), .d (db false), .d (ds ⟨#[]⟩), .d dnil, .d (di 0), .d (di 0), .d dnil]), (8, .obj [.d (di 10), .d (di 0), .d (db false), .d (ds (bs w)), .row 11, .d (di (-1)), .d (di (-1)), .d dnil]), (9, Xz xs), (11, .row 1 3 (l.map fun k => [di k]))], 12⟩) (fun y => L.length - y.1)
   (fun ⟨i, xs, ts, l, n⟩ => SOk L 2 ⟨i, xs, ts⟩ ∧ L.length < i + n ∧ l.length ≤ i ∧ (argsN L m n l >>= fun l => takeM L t_rpar >>= fun _ => pure ({ tyP 10 with nm := w, args := l } : TY)) ⟨i, xs, ts⟩ = T) (i2, xs2, ts2, [x], L.length - i2 + 1) ⟨hs3.less (by omega), by omega, by have := hs3.lx; show 1 ≤ i2; omega, hT⟩ sS ?_
  clear hT hx hs3 hs2 hs1 hs hv
  rintro ⟨i, xs, ts, l, n⟩ ⟨hs, hf, hll, hT⟩
  have hi := hs.lt
  cases n with
  | zero => omega
  | succ n =>
   rw [argsN] at hT
   rcases hv : isV L i t_comma with _ | _
   ·replace hT := pureT (atnB hT hv)
    refine sC (CallsM.ren ((may_no i hi _ hv)) [0, 1] 12 rfl rfl rfl rfl) ?_
    repeat' (first | refine qgs ?_ | refine eD ?_ ?_ <;> intro)
    have hcon := take_c (m := m) ⟨i, xs, ts⟩ hs.i (by omega) t_rpar
    rcases hx81 : (takeM L t_rpar) ⟨i, xs, ts⟩ with ⟨_, s9⟩ | ⟨i9, e9⟩
    rotate_left
    ·obtain rfl := (and_err hx81).symm.trans hT
     refine sC (CallsM.ren (hcon.err hx81) [0, 1] 12 rfl rfl rfl rfl) ?_
     first | exact ⟨⟨_, rfl, rfl⟩, rfl, rfl⟩ | exact ⟨by kernel_rfl, ⟨_, rfl, rfl⟩, rfl, rfl⟩
    replace hT := (and_ok hx81).symm.trans hT
    refine sC (CallsM.ren (hcon.ok hx81) [0, 1] 12 rfl rfl rfl rfl) ?_
    clear hcon
    have hs1 := (Up.ok (Up.take hL t_rpar 0) hs hx81).1
    obtain rfl := mv_take1 hx81
    obtain rfl : PR.ok ({ tyP 10 with nm := w, args := l } : TY) ⟨i + 1, xs, ts⟩ = T := hT
    repeat' (first | refine qgs ?_ | refine eD ?_ ?_ <;> intro)
    exact ⟨rfl, tyLe1, rfl, rfl⟩
   ·replace hT := asc (stp1 (asc (atyB hT hv)))
    have hs1 := stpS hL hs (isV_k hv)
    have hbc := begins_c (L := L) (m := m) (i + 1) hs1.lt
    refine sC (CallsM.ren ((may_yes i hi (by omega) _ hv)) [0, 1] 12 rfl rfl rfl rfl) ?_
    repeat' (first | refine qgs ?_ | refine eD ?_ ?_ <;> intro)
    rcases hb : beginsV L (i + 1) with _ | _ <;> rw [hb] at hbc
    ·replace hT := rmF hT hb
     refine sC (CallsM.ren (hbc) [0, 1] 12 rfl rfl rfl rfl) ?_
     repeat' (first | refine qgs ?_ | refine eD ?_ ?_ <;> intro)
     replace hT := asc hT
     have hcon := expr_c hL hn m hm ⟨i + 1, xs, ts⟩ (hs1.less (by omega))
     rcases hx : (exprM L m) ⟨i + 1, xs, ts⟩ with ⟨x, ⟨i2, xs2, ts2⟩⟩ | ⟨i9, e9⟩
     rotate_left
     ·obtain rfl := (and_err hx).symm.trans hT
      refine sC (CallsM.ren (hcon.err hx) [0, 1, 2, 3, 9, 5] 12 rfl rfl rfl rfl) ?_
      first | exact ⟨⟨_, rfl, rfl⟩, rfl, rfl⟩ | exact ⟨by kernel_rfl, ⟨_, rfl, rfl⟩, rfl, rfl⟩
     replace hT := (and_ok hx).symm.trans hT
     refine sC (CallsM.ren (hcon.ok hx) [0, 1, 2, 3, 9, 5] 12 rfl rfl rfl rfl) ?_
     clear hcon
     have hs3 := (Up.ok (up_expr hL m 3) hs1 hx).1
     have hi2 : i + 1 ≤ i2 := (Up.ok (up_expr hL m 3) hs1 hx).2
     repeat' (first | refine qgs ?_ | refine eD ?_ ?_ <;> intro)
     refine ex_app (l.length) (1) 1000 (by first | rfl | (simp; done) | (simp; omega)) (by first | rfl | (simp; done) | (simp; omega)) rfl (by omega) ?_
     refine ex_is (List.map (fun k : Int => [di k]) (l ++ [x])) (by rw [List.map_append]; rfl) ?_
     repeat' (first | refine qgs ?_ | refine eD ?_ ?_ <;> intro)
     exact ex_round (i2, xs2, ts2, l ++ [x], n) ⟨hs3.less (by omega), by omega, by simp; omega, hT⟩ (by show L.length - i2 < L.length - i; omega) (sR [(0, 0), (1, 1), (2, 2), (3, 3), (4, 4), (5, 5), (7, 7), (8, 8), (12, 9), (14, 11)])
    ·replace hT := rmT hT hb
     refine sC (CallsM.ren (hbc) [0, 1] 12 rfl rfl rfl rfl) ?_
     repeat' (first | refine ex_is l.length (by simp) ?_ | refine qg1 ?_ | refine eD ?_ ?_ <;> intro)
     have hcon := room_c (m := m) ⟨i + 1, xs, ts⟩ hs1.lt l.length (by omega)
     rcases hr : (roomM l.length) ⟨i + 1, xs, ts⟩ with ⟨_, s9⟩ | ⟨i9, e9⟩
     rotate_left
     ·obtain rfl := (and_err hr).symm.trans hT
      refine sC (CallsM.ren (hcon.err hr) [0, 1] 12 rfl rfl rfl rfl) ?_
      first | exact ⟨⟨_, rfl, rfl⟩, rfl, rfl⟩ | exact ⟨by kernel_rfl, ⟨_, rfl, rfl⟩, rfl, rfl⟩
     replace hT := (and_ok hr).symm.trans hT
     refine sC (CallsM.ren (hcon.ok hr) [0, 1] 12 rfl rfl rfl rfl) ?_
     clear hcon
     obtain rfl := mv_room1 hr
     repeat' (first | refine qgs ?_ | refine eD ?_ ?_ <;> intro)
     replace hT := asc hT
     have hcon := expr_c hL hn m hm ⟨i + 1, xs, ts⟩ (hs1.less (by omega))
     rcases hx : (exprM L m) ⟨i + 1, xs, ts⟩ with ⟨x, ⟨i2, xs2, ts2⟩⟩ | ⟨i9, e9⟩
     rotate_left
     ·obtain rfl := (and_err hx).symm.trans hT
      refine sC (CallsM.ren (hcon.err hx) [0, 1, 2, 3, 9, 5] 12 rfl rfl rfl rfl) ?_
      first | exact ⟨⟨_, rfl, rfl⟩, rfl, rfl⟩ | exact ⟨by kernel_rfl, ⟨_, rfl, rfl⟩, rfl, rfl⟩
     replace hT := (and_ok hx).symm.trans hT
     refine sC (CallsM.ren (hcon.ok hx) [0, 1, 2, 3, 9, 5] 12 rfl rfl rfl rfl) ?_
     clear hcon
     have hs3 := (Up.ok (up_expr hL m 3) hs1 hx).1
     have hi2 : i + 1 ≤ i2 := (Up.ok (up_expr hL m 3) hs1 hx).2
     repeat' (first | refine qgs ?_ | refine eD ?_ ?_ <;> intro)
     refine ex_app (l.length) (1) 1000 (by first | rfl | (simp; done) | (simp; omega)) (by first | rfl | (simp; done) | (simp; omega)) rfl (by omega) ?_
     refine ex_is (List.map (fun k : Int => [di k]) (l ++ [x])) (by rw [List.map_append]; rfl) ?_
     repeat' (first | refine qgs ?_ | refine eD ?_ ?_ <;> intro)
     exact ex_round (i2, xs2, ts2, l ++ [x], n) ⟨hs3.less (by omega), by omega, by simp; omega, hT⟩ (by show L.length - i2 < L.length - i; omega) (sR [(0, 0), (1, 1), (2, 2), (3, 3), (4, 4), (5, 5), (7, 7), (8, 8), (12, 9), (14, 11)])
end
end Go.Proofs.YtoingpafcodojaaGreatDoor

namespace Go.Proofs.YtoingpafcodojaaGreatDoor
open Go.RowKit

section
variable {L : List TokP} {m : Nat}
theorem SLe.via {nx0 : Nat} {s t u : St} (h' : SLe nx0 t u) (h : SLe nx0 s t) : SLe nx0 s u := h.trans h'
theorem takeY {t : List UInt8} {i : Nat} {xs : List EX} {ts : List TY} (h : isV L i t = true) : takeM L t ⟨i, xs, ts⟩ = .ok () ⟨i + 1, xs, ts⟩ := if_pos h
theorem deeper2_c {x : PM Int} {h : FuncId} (s : PS) (hi : s.i < L.length) (hm : m ≤ 32) (hc : ∀ m', m = m' + 1 → C2 L m' h [] x (fun k => Ti k) s) (b : Bool) :
  C2 L m 153 [c1 (db b), .f h 1 [.ptr 0 0]] (enterM m b >>= fun _ => x) (fun k => Ti k) s := by
 refine C2.of fun T hT => ?_
 cases b
 ·obtain rfl : PR.err s.i 4 = T := hT
  refine fn_ruleP (C := ⟨Tryz.prog, layF, Tryz.f153.ntmps, ΓL, 6, [], []⟩) layF_ok mixed Tryz.func153 rfl (by kernel_rfl) rfl rfl rfl SLe.rfl ?_
  repeat' (first | refine qgs ?_ | refine eD ?_ ?_ <;> intro)
  refine sC (CallsM.ren ((fail_c s.i 4 hi)) [0, 1] 6 rfl rfl rfl rfl) ?_
  exact ⟨⟨_, rfl, rfl⟩, rfl, rfl⟩
 ·cases m with
  | zero =>
   obtain rfl : PR.err s.i 8 = T := hT
   refine fn_ruleP (C := ⟨Tryz.prog, layF, Tryz.f153.ntmps, ΓL, 6, [], []⟩) layF_ok mixed Tryz.func153 rfl (by kernel_rfl) rfl rfl rfl SLe.rfl ?_
   repeat' (first | refine qgs ?_ | refine eD ?_ ?_ <;> intro)
   refine sC (CallsM.ren ((fail_c s.i 8 hi)) [0, 1] 6 rfl rfl rfl rfl) ?_
   exact ⟨⟨_, rfl, rfl⟩, rfl, rfl⟩
  | succ m =>
   have hT : x s = T := hT
   have hc := hc m rfl
   rcases T with ⟨k, s1⟩ | ⟨i, e⟩
   ·
    refine fn_ruleP (C := ⟨Tryz.prog, layF, Tryz.f153.ntmps, ΓL, 6, [], []⟩) layF_ok mixed Tryz.func153 rfl (by kernel_rfl) rfl rfl rfl SLe.rfl ?_
    repeat' (first | refine aI (32 - ((m : Nat) : Int)) ?_ | refine aU (32 - ((m : Nat) : Int)) ?_ | refine aB (32 - ((m : Nat) : Int)) ?_ | refine qg1 ?_ | refine eD ?_ ?_ <;> intro)
    refine sC (CallsM.ren ((hc.ok hT)) [0, 1, 2, 3, 4, 5] 6 rfl rfl rfl rfl) ?_
    repeat' (first | refine aI (32 - ((m + 1 : Nat) : Int)) ?_ | refine aU (32 - ((m + 1 : Nat) : Int)) ?_ | refine aB (32 - ((m + 1 : Nat) : Int)) ?_ | refine qg1 ?_ | refine eD ?_ ?_ <;> intro)
    exact ⟨rfl, TLe.rfl, rfl, rfl⟩
   ·
    refine fn_ruleP (C := ⟨Tryz.prog, layF, Tryz.f153.ntmps, ΓL, 6, [], []⟩) layF_ok mixed Tryz.func153 rfl (by kernel_rfl) rfl rfl rfl SLe.rfl ?_
    repeat' (first | refine aI (32 - ((m : Nat) : Int)) ?_ | refine aU (32 - ((m : Nat) : Int)) ?_ | refine aB (32 - ((m : Nat) : Int)) ?_ | refine qg1 ?_ | refine eD ?_ ?_ <;> intro)
    refine sC (CallsM.ren ((hc.err hT)) [0, 1, 2, 3, 4, 5] 6 rfl rfl rfl rfl) ?_
    exact ⟨⟨_, rfl, rfl⟩, rfl, rfl⟩
theorem inner_c (hm : m ≤ 32) {kd : PM Int} (s : PS) (hi : s.i < L.length) (hc : ∀ m', m = m' + 1 → C2 L m' 83 [] kd (fun k => Ti k) s) : C2 L m 121 [] (innerM L m kd) (fun k => Ti k) s := by
 refine C2.of fun T hT => ?_
 have hT : (enterM m (startsV L s.i) >>= fun _ => kd) s = T := hT
 have hd := deeper2_c s hi hm hc (startsV L s.i)
 rcases T with ⟨k, s1⟩ | ⟨i, e⟩
 ·
  refine fn_ruleP (C := ⟨Tryz.prog, layF, Tryz.f121.ntmps, ΓL, 6, [], []⟩) layF_ok mixed Tryz.func121 rfl (by kernel_rfl) rfl rfl rfl SLe.rfl ?_
  repeat' (first | refine qgs ?_ | refine eD ?_ ?_ <;> intro)
  refine sC (CallsM.ren ((starts_c (m := m) s.i hi)) [0, 1] 6 rfl rfl rfl rfl) ?_
  repeat' (first | refine qgs ?_ | refine eD ?_ ?_ <;> intro)
  refine sC (CallsM.ren ((hd.ok hT)) [0, 1, 2, 3, 4, 5] 6 rfl rfl rfl rfl) ?_
  repeat' (first | refine qgs ?_ | refine eD ?_ ?_ <;> intro)
  exact ⟨rfl, TLe.rfl, rfl, rfl⟩
 ·
  refine fn_ruleP (C := ⟨Tryz.prog, layF, Tryz.f121.ntmps, ΓL, 6, [], []⟩) layF_ok mixed Tryz.func121 rfl (by kernel_rfl) rfl rfl rfl SLe.rfl ?_
  repeat' (first | refine qgs ?_ | refine eD ?_ ?_ <;> intro)
  refine sC (CallsM.ren ((starts_c (m := m) s.i hi)) [0, 1] 6 rfl rfl rfl rfl) ?_
  repeat' (first | refine qgs ?_ | refine eD ?_ ?_ <;> intro)
  refine sC (CallsM.ren ((hd.err hT)) [0, 1, 2, 3, 4, 5] 6 rfl rfl rfl rfl) ?_
  exact ⟨⟨_, rfl, rfl⟩, rfl, rfl⟩
theorem layc_c (i : Nat) (ts : List TY) (x n : Int) (cs : List CA) (hx : ts.length ≤ 1000000) : CallsM Tryz.prog ΓL 122 [(0, Qz L m i), (1, Fz 2 3 4 5), (5, Tz ts)] 6 [P0, gD [di 9, di 0, db false, ds ⟨#[]⟩, dnil, di x, di n, .sl 2 (cs.map caD)]] (Ti ts.length) [(0, Qz L m i), (1, Fz 2 3 4 6), (5, .dead)] [Tz (ts ++ [⟨9, 0, false, [], [], x, n, cs⟩])] :=
 (lay_c (L := L) (m := m) ⟨i, [], ts⟩ ⟨9, 0, false, [], [], x, n, cs⟩ hx).argsLe (.cons T1Le.rfl (.cons (T1Le.g (.cons DLe.rfl (.cons DLe.rfl (.cons DLe.rfl (.cons DLe.rfl (.cons DLe.nil (.cons DLe.rfl (.cons DLe.rfl (.cons DLe.rfl .nil))))))))) .nil))
set_option maxHeartbeats 4000000 in
theorem choice_c (hL : TokOk L) (hn : L.length ≤ 100000) (hm : m ≤ 32) {kd : PM Int} (hu : Up L kd 0 0) (hc : ∀ m', m = m' + 1 → ∀ s, SOk L 0 s → C2 L m' 83 [] kd (fun k => Ti k) s) (s : PS) {c : Nat} (hs : SOk L (c + 1) s) :
  C2 L m 123 [] (choiceM L m kd) (fun k => Ti k) s := by
 refine C2.of fun T hT => ?_
 unfold choiceM at hT
 obtain ⟨i, xs, ts⟩ := s
 have hin : ∀ s, SOk L 0 s → C2 L m 121 [] (innerM L m kd) (fun k => Ti k) s := fun s hs => inner_c hm s hs.i fun m' e => hc m' e s hs
 refine fn_ruleP (C := ⟨Tryz.prog, layF, Tryz.f123.ntmps, ΓL, 6, [], []⟩) layF_ok mixed Tryz.func123 rfl (by kernel_rfl) rfl rfl rfl SLe.rfl ?_
 repeat' (first | refine ex_call (plain_c 9) ?_ | refine qg1 ?_ | refine eD ?_ ?_ <;> intro)
 have hcon := take_c (m := m) ⟨i, xs, ts⟩ hs.i (by omega) t_lpar
 rcases hx74 : (takeM L t_lpar) ⟨i, xs, ts⟩ with ⟨_, s9⟩ | ⟨i9, e9⟩
 rotate_left
 ·obtain rfl := (and_err hx74).symm.trans hT
  refine sC (CallsM.ren (hcon.err hx74) [0, 1] 7 rfl rfl rfl rfl) ?_
  first | exact ⟨⟨_, rfl, rfl⟩, rfl, rfl⟩ | exact ⟨by kernel_rfl, ⟨_, rfl, rfl⟩, rfl, rfl⟩
 replace hT := (and_ok hx74).symm.trans hT
 refine sC (CallsM.ren (hcon.ok hx74) [0, 1] 7 rfl rfl rfl rfl) ?_
 clear hcon
 have hs1 := (Up.ok (Up.take hL t_lpar 0) hs hx74).1
 obtain rfl := mv_take1 hx74
 repeat' (first | refine qgs ?_ | refine eD ?_ ?_ <;> intro)
 have hcon := expr_c hL hn m hm ⟨i + 1, xs, ts⟩ (hs1.less (by omega))
 rcases hx : (exprM L m) ⟨i + 1, xs, ts⟩ with ⟨x, ⟨i2, xs2, ts2⟩⟩ | ⟨i9, e9⟩
 rotate_left
 ·obtain rfl := (and_err hx).symm.trans hT
  refine sC (CallsM.ren (hcon.err hx) [0, 1, 2, 3, 4, 5] 7 rfl rfl rfl rfl) ?_
  first | exact ⟨⟨_, rfl, rfl⟩, rfl, rfl⟩ | exact ⟨by kernel_rfl, ⟨_, rfl, rfl⟩, rfl, rfl⟩
 replace hT := (and_ok hx).symm.trans hT
 refine sC (CallsM.ren (hcon.ok hx) [0, 1, 2, 3, 4, 5] 7 rfl rfl rfl rfl) ?_
 clear hcon
 have hs2 := (Up.ok (up_expr hL m 1) hs1 hx).1
 obtain rfl := (keep_expr m).eq hx
 repeat' (first | refine qgs ?_ | refine eD ?_ ?_ <;> intro)
 have hcon := take_c (m := m) ⟨i2, xs2, ts⟩ hs2.i (by omega) t_rpar
 rcases hx78 : (takeM L t_rpar) ⟨i2, xs2, ts⟩ with ⟨_, s9⟩ | ⟨i9, e9⟩
 rotate_left
 ·obtain rfl := (and_err hx78).symm.trans hT
  refine sC (CallsM.ren (hcon.err hx78) [0, 1] 8 rfl rfl rfl rfl) ?_
  first | exact ⟨⟨_, rfl, rfl⟩, rfl, rfl⟩ | exact ⟨by kernel_rfl, ⟨_, rfl, rfl⟩, rfl, rfl⟩
 replace hT := (and_ok hx78).symm.trans hT
 refine sC (CallsM.ren (hcon.ok hx78) [0, 1] 8 rfl rfl rfl rfl) ?_
 clear hcon
 have hs3 := (Up.ok (Up.take hL t_rpar 0) hs2 hx78).1
 obtain rfl := mv_take1 hx78
 repeat' (first | refine qgs ?_ | refine eD ?_ ?_ <;> intro)
 have hcon := take_c (m := m) ⟨i2 + 1, xs2, ts⟩ hs3.i (by omega) t_lcur
 rcases hx80 : (takeM L t_lcur) ⟨i2 + 1, xs2, ts⟩ with ⟨_, s9⟩ | ⟨i9, e9⟩
 rotate_left
 ·obtain rfl := (and_err hx80).symm.trans hT
  refine sC (CallsM.ren (hcon.err hx80) [0, 1] 8 rfl rfl rfl rfl) ?_
  first | exact ⟨⟨_, rfl, rfl⟩, rfl, rfl⟩ | exact ⟨by kernel_rfl, ⟨_, rfl, rfl⟩, rfl, rfl⟩
 replace hT := (and_ok hx80).symm.trans hT
 refine sC (CallsM.ren (hcon.ok hx80) [0, 1] 8 rfl rfl rfl rfl) ?_
 clear hcon
 have hs4 := (Up.ok (Up.take hL t_lcur 0) hs3 hx80).1
 obtain rfl := mv_take1 hx80
 repeat' (first | refine qgs ?_ | refine eD ?_ ?_ <;> intro)
 replace hT : (casesN L m kd (L.length - (i2 + 1 + 1) + 1) [] >>= fun cs => atM (isV L · w_else) (stepM >>= fun _ => takeM L t_colon >>= fun _ => innerM L m kd >>= fun k => takeM L t_semi >>= fun _ => pure k) (pure (-1)) >>= fun k => takeM L t_rcur >>= fun _ => layM { tyP 9 with ex := x, inn := k, cases := cs }) ⟨i2 + 1 + 1, xs2, ts⟩ = T := hT
 refine ex_loop (X := Nat × List EX × List TY × List CA × Nat) (fun ⟨i, xs, ts, cs, _⟩ => ⟨[(0, .o P0), (3, .o (.c (.ptr 6 0)))], [(5, .dead), (0, Qz L m i), (1, Fz 2 3 7 9), (4, .dead), (6, .obj [.d (di 9), .d (di 0), .d (db false), .d (ds ⟨#[]⟩), .d dnil, .d (di x), .d (di (-1)), .row 8]), (7, Xz xs), (8, .row 2 251 (cs.map caD)), (9, Tz ts)], 10⟩) (fun y => L.length - y.1)
  (fun ⟨i, xs, ts, cs, n⟩ => SOk L (c + 4) ⟨i, xs, ts⟩ ∧ L.length < i + n ∧ cs.length ≤ i ∧ (casesN L m kd n cs >>= fun cs => atM (isV L · w_else) (stepM >>= fun _ => takeM L t_colon >>= fun _ => innerM L m kd >>= fun k => takeM L t_semi >>= fun _ => pure k) (pure (-1)) >>= fun k => takeM L t_rcur >>= fun _ => layM { tyP 9 with ex := x, inn := k, cases := cs }) ⟨i, xs, ts⟩ = T) (i2 + 1 + 1, xs2, ts, [], L.length - (i2 + 1 + 1) + 1) ⟨hs4, by omega, Nat.zero_le _, hT⟩
  (SLe.kill (nx := 10) 5 (SLe.via (SLe.ownCell 6 7 8 2 251 rfl rfl rfl rfl rfl rfl) (sR [(0, 0), (1, 1), (2, 2), (3, 3), (4, 4), (6, 6), (7, 7), (8, 8), (5, 9)]))) ?_
 clear hT hx hs4 hs3 hs2 hs1 hs
 rintro ⟨i, xs, ts, cs, n⟩ ⟨hs, hf, hll, hT⟩
 have hi := hs.lt
 cases n with
 | zero => omega
 | succ n =>
  rw [casesN] at hT
  have his := is_c (m := m) i hi w_case
  rcases hv : isV L i w_case with _ | _ <;> rw [hv] at his
  ·replace hT := pureT (atnB hT hv)
   refine sC (CallsM.ren (his) [0, 1] 10 rfl rfl rfl rfl) ?_
   repeat' (first | refine qgs ?_ | refine eD ?_ ?_ <;> intro)
   rcases hv2 : isV L i w_else with _ | _
   ·replace hT := pureT (atnB hT hv2)
    refine sC (CallsM.ren ((may_no i hi _ hv2)) [0, 1] 10 rfl rfl rfl rfl) ?_
    repeat' (first | refine qgs ?_ | refine eD ?_ ?_ <;> intro)
    have hcon := take_c (m := m) ⟨i, xs, ts⟩ hs.i (by omega) t_rcur
    rcases hx102 : (takeM L t_rcur) ⟨i, xs, ts⟩ with ⟨_, s9⟩ | ⟨i9, e9⟩
    rotate_left
    ·obtain rfl := (and_err hx102).symm.trans hT
     refine sC (CallsM.ren (hcon.err hx102) [0, 1] 10 rfl rfl rfl rfl) ?_
     first | exact ⟨⟨_, rfl, rfl⟩, rfl, rfl⟩ | exact ⟨by kernel_rfl, ⟨_, rfl, rfl⟩, rfl, rfl⟩
    replace hT := (and_ok hx102).symm.trans hT
    refine sC (CallsM.ren (hcon.ok hx102) [0, 1] 10 rfl rfl rfl rfl) ?_
    clear hcon
    have hs1 := (Up.ok (Up.take hL t_rcur 0) hs hx102).1
    obtain rfl := mv_take1 hx102
    obtain rfl : PR.ok (ts.length : Int) ⟨i + 1, xs, ts ++ [(⟨9, 0, false, [], [], x, -1, cs⟩ : TY)]⟩ = T := hT
    have htl := hs.lt'
    repeat' (first | refine qgs ?_ | refine eD ?_ ?_ <;> intro)
    refine sC (CallsM.ren ((layc_c (L := L) (m := m) (i + 1) ts x (-1) cs (by omega))) [0, 1, 2, 3, 7, 9] 10 rfl rfl rfl rfl) ?_
    repeat' (first | refine qgs ?_ | refine eD ?_ ?_ <;> intro)
    exact ⟨rfl, TLe.rfl, rfl, rfl⟩
   ·replace hT := asc (stp1 (asc (atyB hT hv2)))
    have hs1 := stpS hL hs (isV_k hv2)
    refine sC (CallsM.ren ((may_yes i hi (by omega) _ hv2)) [0, 1] 10 rfl rfl rfl rfl) ?_
    repeat' (first | refine qgs ?_ | refine eD ?_ ?_ <;> intro)
    have hcon := take_c (m := m) ⟨i + 1, xs, ts⟩ hs1.i (by omega) t_colon
    rcases hx113 : (takeM L t_colon) ⟨i + 1, xs, ts⟩ with ⟨_, s9⟩ | ⟨i9, e9⟩
    rotate_left
    ·obtain rfl := (and_err hx113).symm.trans hT
     refine sC (CallsM.ren (hcon.err hx113) [0, 1] 10 rfl rfl rfl rfl) ?_
     first | exact ⟨⟨_, rfl, rfl⟩, rfl, rfl⟩ | exact ⟨by kernel_rfl, ⟨_, rfl, rfl⟩, rfl, rfl⟩
    replace hT := (and_ok hx113).symm.trans hT
    refine sC (CallsM.ren (hcon.ok hx113) [0, 1] 10 rfl rfl rfl rfl) ?_
    clear hcon
    have hs2 := (Up.ok (Up.take hL t_colon 0) hs1 hx113).1
    obtain rfl := mv_take1 hx113
    repeat' (first | refine qgs ?_ | refine eD ?_ ?_ <;> intro)
    replace hT := asc hT
    have hcon := hin ⟨i + 1 + 1, xs, ts⟩ (hs2.less (by omega))
    rcases hx : (innerM L m kd) ⟨i + 1 + 1, xs, ts⟩ with ⟨k, ⟨i3, xs3, ts3⟩⟩ | ⟨i9, e9⟩
    rotate_left
    ·obtain rfl := (and_err hx).symm.trans hT
     refine sC (CallsM.ren (hcon.err hx) [0, 1, 2, 3, 7, 9] 10 rfl rfl rfl rfl) ?_
     first | exact ⟨⟨_, rfl, rfl⟩, rfl, rfl⟩ | exact ⟨by kernel_rfl, ⟨_, rfl, rfl⟩, rfl, rfl⟩
    replace hT := (and_ok hx).symm.trans hT
    refine sC (CallsM.ren (hcon.ok hx) [0, 1, 2, 3, 7, 9] 10 rfl rfl rfl rfl) ?_
    clear hcon
    have hs3 := (Up.ok (up_inner m hu (c + 6)) (show SOk L (0 + (c + 6)) ⟨i + 1 + 1, xs, ts⟩ from hs2.less (by omega)) hx).1
    repeat' (first | refine qgs ?_ | refine eD ?_ ?_ <;> intro)
    replace hT := asc hT
    have hcon := take_c (m := m) ⟨i3, xs3, ts3⟩ hs3.i (by omega) t_semi
    rcases hx119 : (takeM L t_semi) ⟨i3, xs3, ts3⟩ with ⟨_, s9⟩ | ⟨i9, e9⟩
    rotate_left
    ·obtain rfl := (and_err hx119).symm.trans hT
     refine sC (CallsM.ren (hcon.err hx119) [0, 1] 12 rfl rfl rfl rfl) ?_
     first | exact ⟨⟨_, rfl, rfl⟩, rfl, rfl⟩ | exact ⟨by kernel_rfl, ⟨_, rfl, rfl⟩, rfl, rfl⟩
    replace hT := (and_ok hx119).symm.trans hT
    refine sC (CallsM.ren (hcon.ok hx119) [0, 1] 12 rfl rfl rfl rfl) ?_
    clear hcon
    have hs4 := (Up.ok (Up.take hL t_semi 0) hs3 hx119).1
    obtain rfl := mv_take1 hx119
    replace hT := pureT hT
    repeat' (first | refine qgs ?_ | refine eD ?_ ?_ <;> intro)
    have hcon := take_c (m := m) ⟨i3 + 1, xs3, ts3⟩ hs4.i (by omega) t_rcur
    rcases hx122 : (takeM L t_rcur) ⟨i3 + 1, xs3, ts3⟩ with ⟨_, s9⟩ | ⟨i9, e9⟩
    rotate_left
    ·obtain rfl := (and_err hx122).symm.trans hT
     refine sC (CallsM.ren (hcon.err hx122) [0, 1] 12 rfl rfl rfl rfl) ?_
     first | exact ⟨⟨_, rfl, rfl⟩, rfl, rfl⟩ | exact ⟨by kernel_rfl, ⟨_, rfl, rfl⟩, rfl, rfl⟩
    replace hT := (and_ok hx122).symm.trans hT
    refine sC (CallsM.ren (hcon.ok hx122) [0, 1] 12 rfl rfl rfl rfl) ?_
    clear hcon
    have hs5 := (Up.ok (Up.take hL t_rcur 0) hs4 hx122).1
    obtain rfl := mv_take1 hx122
    obtain rfl : PR.ok (ts3.length : Int) ⟨i3 + 1 + 1, xs3, ts3 ++ [(⟨9, 0, false, [], [], x, k, cs⟩ : TY)]⟩ = T := hT
    have htl := hs3.lt'
    have hi3 := hs3.lt
    repeat' (first | refine qgs ?_ | refine eD ?_ ?_ <;> intro)
    refine sC (CallsM.ren ((layc_c (L := L) (m := m) (i3 + 1 + 1) ts3 x k cs (by omega))) [0, 1, 2, 3, 10, 11] 12 rfl rfl rfl rfl) ?_
    repeat' (first | refine qgs ?_ | refine eD ?_ ?_ <;> intro)
    exact ⟨rfl, TLe.rfl, rfl, rfl⟩
  ·replace hT := asc (atyB hT hv)
   refine sC (CallsM.ren (his) [0, 1] 10 rfl rfl rfl rfl) ?_
   repeat' (first | refine ex_is cs.length (by simp) ?_ | refine qg1 ?_ | refine eD ?_ ?_ <;> intro)
   have hcon := room_c (m := m) ⟨i, xs, ts⟩ hi cs.length (by omega)
   rcases hr : (roomM cs.length) ⟨i, xs, ts⟩ with ⟨_, s9⟩ | ⟨i9, e9⟩
   rotate_left
   ·obtain rfl := (and_err hr).symm.trans hT
    refine sC (CallsM.ren (hcon.err hr) [0, 1] 10 rfl rfl rfl rfl) ?_
    first | exact ⟨⟨_, rfl, rfl⟩, rfl, rfl⟩ | exact ⟨by kernel_rfl, ⟨_, rfl, rfl⟩, rfl, rfl⟩
   replace hT := (and_ok hr).symm.trans hT
   refine sC (CallsM.ren (hcon.ok hr) [0, 1] 10 rfl rfl rfl rfl) ?_
   clear hcon
   obtain rfl := mv_room1 hr
   replace hT := asc (stp1 (asc hT))
   have hs1 := stpS hL hs (isV_k hv)
   repeat' (first | refine qgs ?_ | refine eD ?_ ?_ <;> intro)
   refine sC (CallsM.ren (((take_c (m := m) ⟨i, xs, ts⟩ hi (by omega) w_case).ok (takeY hv))) [0, 1] 10 rfl rfl rfl rfl) ?_
   repeat' (first | refine qgs ?_ | refine eD ?_ ?_ <;> intro)
   have hcon := num_c (m := m) ⟨i + 1, xs, ts⟩ hs1.i (by omega)
   rcases hx139 : (numberM L) ⟨i + 1, xs, ts⟩ with ⟨v, s9⟩ | ⟨i9, e9⟩
   rotate_left
   ·obtain rfl := (and_err hx139).symm.trans hT
    refine sC (CallsM.ren (hcon.err hx139) [0, 1] 10 rfl rfl rfl rfl) ?_
    first | exact ⟨⟨_, rfl, rfl⟩, rfl, rfl⟩ | exact ⟨by kernel_rfl, ⟨_, rfl, rfl⟩, rfl, rfl⟩
   replace hT := (and_ok hx139).symm.trans hT
   refine sC (CallsM.ren (hcon.ok hx139) [0, 1] 10 rfl rfl rfl rfl) ?_
   clear hcon
   have hs2 := (Up.ok (Up.number hL 0) hs1 hx139).1
   obtain rfl := mv_num1 hx139
   replace hT := asc hT
   repeat' (first | refine qgs ?_ | refine eD ?_ ?_ <;> intro)
   have hcon := take_c (m := m) ⟨i + 1 + 1, xs, ts⟩ hs2.i (by omega) t_colon
   rcases hx142 : (takeM L t_colon) ⟨i + 1 + 1, xs, ts⟩ with ⟨_, s9⟩ | ⟨i9, e9⟩
   rotate_left
   ·obtain rfl := (and_err hx142).symm.trans hT
    refine sC (CallsM.ren (hcon.err hx142) [0, 1] 10 rfl rfl rfl rfl) ?_
    first | exact ⟨⟨_, rfl, rfl⟩, rfl, rfl⟩ | exact ⟨by kernel_rfl, ⟨_, rfl, rfl⟩, rfl, rfl⟩
   replace hT := (and_ok hx142).symm.trans hT
   refine sC (CallsM.ren (hcon.ok hx142) [0, 1] 10 rfl rfl rfl rfl) ?_
   clear hcon
   have hs3 := (Up.ok (Up.take hL t_colon 0) hs2 hx142).1
   obtain rfl := mv_take1 hx142
   replace hT := asc hT
   repeat' (first | refine qgs ?_ | refine eD ?_ ?_ <;> intro)
   have hcon := hin ⟨i + 1 + 1 + 1, xs, ts⟩ (hs3.less (by omega))
   rcases hx : (innerM L m kd) ⟨i + 1 + 1 + 1, xs, ts⟩ with ⟨k, ⟨i3, xs3, ts3⟩⟩ | ⟨i9, e9⟩
   rotate_left
   ·obtain rfl := (and_err hx).symm.trans hT
    refine sC (CallsM.ren (hcon.err hx) [0, 1, 2, 3, 7, 9] 10 rfl rfl rfl rfl) ?_
    first | exact ⟨⟨_, rfl, rfl⟩, rfl, rfl⟩ | exact ⟨by kernel_rfl, ⟨_, rfl, rfl⟩, rfl, rfl⟩
   replace hT := (and_ok hx).symm.trans hT
   refine sC (CallsM.ren (hcon.ok hx) [0, 1, 2, 3, 7, 9] 10 rfl rfl rfl rfl) ?_
   clear hcon
   have hs4 := (Up.ok (up_inner m hu (c + 7)) (show SOk L (0 + (c + 7)) ⟨i + 1 + 1 + 1, xs, ts⟩ from hs3.less (by omega)) hx).1
   have hi3 : i + 1 + 1 + 1 ≤ i3 := (Up.ok (c := 0) (up_inner m hu 0) (hs3.less (by omega)) hx).2
   replace hs4 : SOk L (c + 7) ⟨i3, xs3, ts3⟩ := hs4.less (by omega)
   repeat' (first | refine qgs ?_ | refine eD ?_ ?_ <;> intro)
   refine ex_app (cs.length) (1) 1000 (by first | rfl | (simp; done) | (simp; omega)) (by first | rfl | (simp; done) | (simp; omega)) rfl (by omega) ?_
   refine ex_is (List.map caD (cs ++ [(⟨v, k⟩ : CA)])) (by rw [List.map_append]; rfl) ?_
   repeat' (first | refine qgs ?_ | refine eD ?_ ?_ <;> intro)
   replace hT := asc hT
   have hcon := take_c (m := m) ⟨i3, xs3, ts3⟩ hs4.i (by omega) t_semi
   rcases hx153 : (takeM L t_semi) ⟨i3, xs3, ts3⟩ with ⟨_, s9⟩ | ⟨i9, e9⟩
   rotate_left
   ·obtain rfl := (and_err hx153).symm.trans hT
    refine sC (CallsM.ren (hcon.err hx153) [0, 1] 14 rfl rfl rfl rfl) ?_
    first | exact ⟨⟨_, rfl, rfl⟩, rfl, rfl⟩ | exact ⟨by kernel_rfl, ⟨_, rfl, rfl⟩, rfl, rfl⟩
   replace hT := (and_ok hx153).symm.trans hT
   refine sC (CallsM.ren (hcon.ok hx153) [0, 1] 14 rfl rfl rfl rfl) ?_
   clear hcon
   have hs5 := (Up.ok (Up.take hL t_semi 0) hs4 hx153).1
   obtain rfl := mv_take1 hx153
   repeat' (first | refine qgs ?_ | refine eD ?_ ?_ <;> intro)
   exact ex_round (i3 + 1, xs3, ts3, cs ++ [(⟨v, k⟩ : CA)], n) ⟨hs5.less (by omega), by omega, by simp; omega, hT⟩ (by show L.length - (i3 + 1) < L.length - i; omega) (sR [(0, 0), (1, 1), (2, 2), (3, 3), (4, 4), (5, 5), (6, 6), (10, 7), (13, 8), (11, 9)])
end
end Go.Proofs.YtoingpafcodojaaGreatDoor

namespace Go.Proofs.YtoingpafcodojaaGreatDoor
open Go.RowKit

section
variable {L : List TokP} {m : Nat}
def sizedTV : Option Nat → TV
 | some k => .tup [c1 (di k), c1 (db true)]
 | none => .tup [c1 (di 0), c1 (db false)]
theorem sized_c (w : List UInt8) : CallsA Tryz.prog ΓL 118 [c1 (ds (bs w))] (sizedTV (sizedV w)) := by
 by_cases h : w = w_bytes ∨ w = w_zero ∨ w = w_skip ∨ w = w_window ∨ w = w_at
 ·rcases h with rfl | rfl | rfl | rfl | rfl
  all_goals
   refine fn_rule (C := ⟨Tryz.prog, layF, Tryz.f118.ntmps, ΓL, 0, [], []⟩) layF_ok mixed Tryz.func118 rfl (by kernel_rfl) rfl rfl rfl ?_
   repeat' (first | refine qgs ?_ | refine eD ?_ ?_ <;> intro)
   exact TLe.rfl
 ·have hne : ∀ l, l ∈ [w_bytes, w_zero, w_skip, w_window, w_at] → ¬ bs w = bs l := fun l hl he => h (by
   rw [bsj.1 he]
   simpa only [List.mem_cons, List.not_mem_nil, or_false] using hl)
  have h0 : sizedV w = none := by
   unfold sizedV
   rw [if_neg (fun e => h (by simp [e])), if_neg (fun e => h (by simp [e])), if_neg (fun e => h (by simp [e])), if_neg (fun e => h (by simp [e])), if_neg (fun e => h (by simp [e]))]
  rw [h0]
  refine fn_rule (C := ⟨Tryz.prog, layF, Tryz.f118.ntmps, ΓL, 0, [], []⟩) layF_ok mixed Tryz.func118 rfl (by kernel_rfl) rfl rfl rfl ?_
  repeat' (first | refine ex_false (hne _ (by decide)) ?_ | refine qg1 ?_ | refine eD ?_ ?_ <;> intro)
  exact TLe.rfl
set_option maxHeartbeats 4000000 in
theorem kind_named (hL : TokOk L) (hn : L.length ≤ 100000) (hm : m ≤ 32) (s : PS) (hs : SOk L 0 s) (hv : namedV L s.i = true) {kd : PM Int} : C2 L m 83 [] (kindF L m kd) (fun k => Ti k) s := by
 refine C2.of fun T hT => ?_
 unfold kindF at hT
 obtain ⟨i, xs, ts⟩ := s
 have hv : namedV L i = true := hv
 replace hT := aty hT hv
 have hnm := named_c (m := m) i hs.lt
 rw [hv] at hnm
 refine fn_ruleP (C := ⟨Tryz.prog, layF, Tryz.f83.ntmps, ΓL, 6, [], []⟩) layF_ok mixed Tryz.func83 rfl (by kernel_rfl) rfl rfl rfl SLe.rfl ?_
 repeat' (first | refine qgs ?_ | refine eD ?_ ?_ <;> intro)
 refine sC (CallsM.ren (hnm) [0, 1] 6 rfl rfl rfl rfl) ?_
 repeat' (first | refine qgs ?_ | refine eD ?_ ?_ <;> intro)
 have hcon := ref_c hL hn hm ⟨i, xs, ts⟩ hs
 rcases hx : (refM L m) ⟨i, xs, ts⟩ with ⟨t, ⟨i2, xs2, ts2⟩⟩ | ⟨i9, e9⟩
 rotate_left
 ·obtain rfl := (and_err hx).symm.trans hT
  refine sC (CallsM.ren (hcon.err hx) [0, 1, 2, 3, 4, 5] 6 rfl rfl rfl rfl) ?_
  first | exact ⟨⟨_, rfl, rfl⟩, rfl, rfl⟩ | exact ⟨by kernel_rfl, ⟨_, rfl, rfl⟩, rfl, rfl⟩
 replace hT := (and_ok hx).symm.trans hT
 refine sC (CallsM.ren (hcon.ok hx) [0, 1, 2, 3, 4, 5] 6 rfl rfl rfl rfl) ?_
 clear hcon
 have hs2 := (Up.ok (up_ref hL m) hs hx).1
 obtain rfl := (keep_ref).eq hx
 have hcon := array_c hL hn hm t ⟨i2, xs2, ts⟩ hs2
 rcases hy : (arrayM L m t) ⟨i2, xs2, ts⟩ with ⟨k, ⟨i3, xs3, ts3⟩⟩ | ⟨i9, e9⟩
 rotate_left
 ·obtain rfl := hy.symm.trans hT
  refine sC (CallsM.ren (hcon.err hy) [0, 1, 2, 3, 6, 5] 7 rfl rfl rfl rfl) ?_
  first | exact ⟨⟨_, rfl, rfl⟩, rfl, rfl⟩ | exact ⟨by kernel_rfl, ⟨_, rfl, rfl⟩, rfl, rfl⟩
 obtain rfl := hy.symm.trans hT
 refine sC (CallsM.ren (hcon.ok hy) [0, 1, 2, 3, 6, 5] 7 rfl rfl rfl rfl) ?_
 clear hcon
 repeat' (first | refine qgs ?_ | refine eD ?_ ?_ <;> intro)
 exact ⟨rfl, TLe.rfl, rfl, rfl⟩
theorem kind_bad (s : PS) (hi : s.i < L.length) (hv : startsV L s.i = false) {kd : PM Int} : C2 L m 83 [] (kindF L m kd) (fun k => Ti k) s := by
 refine C2.of fun T hT => ?_
 unfold kindF at hT
 obtain ⟨i, xs, ts⟩ := s
 have hv : startsV L i = false := hv
 have hi : i < L.length := hi
 have hv1 : namedV L i = false := by
  unfold startsV at hv
  rw [Bool.or_eq_false_iff] at hv
  exact hv.1
 obtain rfl : PR.err i 4 = T := atn (atn hT hv1) hv
 have hnm := named_c (m := m) i hi
 rw [hv1] at hnm
 have hst := starts_c (m := m) i hi
 rw [hv] at hst
 refine fn_ruleP (C := ⟨Tryz.prog, layF, Tryz.f83.ntmps, ΓL, 6, [], []⟩) layF_ok mixed Tryz.func83 rfl (by kernel_rfl) rfl rfl rfl SLe.rfl ?_
 repeat' (first | refine qgs ?_ | refine eD ?_ ?_ <;> intro)
 refine sC (CallsM.ren (hnm) [0, 1] 6 rfl rfl rfl rfl) ?_
 repeat' (first | refine qgs ?_ | refine eD ?_ ?_ <;> intro)
 refine sC (CallsM.ren (hst) [0, 1] 6 rfl rfl rfl rfl) ?_
 repeat' (first | refine qgs ?_ | refine eD ?_ ?_ <;> intro)
 refine sC (CallsM.ren ((fail_c (m := m) i 4 hi)) [0, 1] 6 rfl rfl rfl rfl) ?_
 exact ⟨⟨_, rfl, rfl⟩, rfl, rfl⟩
end
end Go.Proofs.YtoingpafcodojaaGreatDoor

namespace Go.Proofs.YtoingpafcodojaaGreatDoor
open Go.RowKit

section
variable {L : List TokP} {m : Nat}
set_option maxHeartbeats 8000000 in
theorem kind_word (hL : TokOk L) (hn : L.length ≤ 100000) (hm : m ≤ 32) {kd : PM Int} (hu : Up L kd 0 0) (hc : ∀ m', m = m' + 1 → ∀ s, SOk L 0 s → C2 L m' 83 [] kd (fun k => Ti k) s) (s : PS) (hs : SOk L 0 s) (hv1 : namedV L s.i = false) (hv : startsV L s.i = true) :
  C2 L m 83 [] (kindF L m kd) (fun k => Ti k) s := by
 refine C2.of fun T hT => ?_
 unfold kindF at hT
 obtain ⟨i, xs, ts⟩ := s
 have hv : startsV L i = true := hv
 have hv1 : namedV L i = false := hv1
 have hi := hs.lt
 have hin : ∀ s, SOk L 0 s → C2 L m 121 [] (innerM L m kd) (fun k => Ti k) s := fun s hs => inner_c hm s hs.i fun m' e => hc m' e s hs
 have hs1 := stpS hL hs (startsV_k hv)
 have hT1 := atn hT hv1
 have hT2 := aty hT1 hv
 have hT : wordM L m kd (tk L i).t ⟨i + 1, xs, ts⟩ = T := hT2
 clear hT1 hT2
 have hnm := named_c (m := m) i hi
 rw [hv1] at hnm
 have hst := starts_c (m := m) i hi
 rw [hv] at hst
 have ha := ahead_c (L := L) (m := m) i hi
 generalize tk L i = u at *
 obtain ⟨w, hw⟩ : ∃ w, u.t = w := ⟨_, rfl⟩
 simp only [tokD, hw] at ha
 rw [hw] at hT
 unfold wordM at hT
 have hz := sized_c w
 have htl := hs1.lt'
 refine fn_ruleP (C := ⟨Tryz.prog, layF, Tryz.f83.ntmps, ΓL, 6, [], []⟩) layF_ok mixed Tryz.func83 rfl (by kernel_rfl) rfl rfl rfl start2 ?_
 repeat' (first | refine qgs ?_ | refine eD ?_ ?_ <;> intro)
 refine sC (CallsM.ren (hnm) [0, 1] 7 rfl rfl rfl rfl) ?_
 repeat' (first | refine qgs ?_ | refine eD ?_ ?_ <;> intro)
 refine sC (CallsM.ren (hst) [0, 1] 7 rfl rfl rfl rfl) ?_
 repeat' (first | refine qgs ?_ | refine eD ?_ ?_ <;> intro)
 refine sC (CallsM.ren (ha) [0, 1] 7 rfl rfl rfl rfl) ?_
 rcases hzw : sizedV w with _ | k <;> rw [hzw] at hT hz
 ·have hz : CallsA Tryz.prog ΓL 118 [c1 (ds (bs w))] (.tup [c1 (di 0), c1 (db false)]) := hz
  dsimp only at hT
  by_cases h1 : w = w_rest
  ·subst h1
   rw [if_pos rfl] at hT
   repeat' (first | refine ex_call (plain_c 6) ?_ | refine ex_call hz ?_ | refine aI ((i + 1 : Nat) : Int) ?_ | refine aU ((i + 1 : Nat) : Int) ?_ | refine aB ((i + 1 : Nat) : Int) ?_ | refine qg1 ?_ | refine eD ?_ ?_ <;> intro)
   have hcon := hin ⟨i + 1, xs, ts⟩ (hs1.less (by omega))
   rcases hx : (innerM L m kd) ⟨i + 1, xs, ts⟩ with ⟨k, ⟨i3, xs3, ts3⟩⟩ | ⟨i9, e9⟩
   rotate_left
   ·obtain rfl := (and_err hx).symm.trans hT
    refine sC (CallsM.ren (hcon.err hx) [0, 1, 2, 3, 6, 5] 8 rfl rfl rfl rfl) ?_
    first | exact ⟨⟨_, rfl, rfl⟩, rfl, rfl⟩ | exact ⟨by kernel_rfl, ⟨_, rfl, rfl⟩, rfl, rfl⟩
   replace hT := (and_ok hx).symm.trans hT
   refine sC (CallsM.ren (hcon.ok hx) [0, 1, 2, 3, 6, 5] 8 rfl rfl rfl rfl) ?_
   clear hcon
   have hs3 := (Up.ok (up_inner m hu 1) hs1 hx).1
   have htl := hs3.lt'
   have hi3 := hs3.lt
   obtain rfl : PR.ok (ts3.length : Int) ⟨i3, xs3, ts3 ++ [(⟨6, 0, false, [], [], -1, k, []⟩ : TY)]⟩ = T := hT
   repeat' (first | refine qgs ?_ | refine eD ?_ ?_ <;> intro)
   refine sC (CallsM.ren ((layn_c (L := L) (m := m) i3 ts3 6 0 false [] (-1) k (by omega))) [0, 1, 2, 3, 8, 9] 10 rfl rfl rfl rfl) ?_
   repeat' (first | refine qgs ?_ | refine eD ?_ ?_ <;> intro)
   exact ⟨rfl, TLe.rfl, rfl, rfl⟩
  ·rw [if_neg h1] at hT
   by_cases h2 : w = w_tail
   ·subst h2
    rw [if_pos rfl] at hT
    obtain rfl : PR.ok (ts.length : Int) ⟨i + 1, xs, ts ++ [(⟨4, 0, false, [], [], -1, -1, []⟩ : TY)]⟩ = T := hT
    repeat' (first | refine ex_call (plain_c 4) ?_ | refine ex_call hz ?_ | refine aI ((i + 1 : Nat) : Int) ?_ | refine aU ((i + 1 : Nat) : Int) ?_ | refine aB ((i + 1 : Nat) : Int) ?_ | refine qg1 ?_ | refine eD ?_ ?_ <;> intro)
    refine sC (CallsM.ren ((layn_c (L := L) (m := m) (i + 1) ts 4 0 false [] (-1) (-1) (by omega))) [0, 1, 2, 3, 6, 5] 7 rfl rfl rfl rfl) ?_
    repeat' (first | refine qgs ?_ | refine eD ?_ ?_ <;> intro)
    exact ⟨rfl, TLe.rfl, rfl, rfl⟩
   ·rw [if_neg h2] at hT
    by_cases h3 : w = w_none
    ·subst h3
     rw [if_pos rfl] at hT
     obtain rfl : PR.ok (ts.length : Int) ⟨i + 1, xs, ts ++ [(⟨11, 0, false, [], [], -1, -1, []⟩ : TY)]⟩ = T := hT
     repeat' (first | refine ex_call (plain_c 11) ?_ | refine ex_call hz ?_ | refine aI ((i + 1 : Nat) : Int) ?_ | refine aU ((i + 1 : Nat) : Int) ?_ | refine aB ((i + 1 : Nat) : Int) ?_ | refine qg1 ?_ | refine eD ?_ ?_ <;> intro)
     refine sC (CallsM.ren ((layn_c (L := L) (m := m) (i + 1) ts 11 0 false [] (-1) (-1) (by omega))) [0, 1, 2, 3, 6, 5] 7 rfl rfl rfl rfl) ?_
     repeat' (first | refine qgs ?_ | refine eD ?_ ?_ <;> intro)
     exact ⟨rfl, TLe.rfl, rfl, rfl⟩
    ·rw [if_neg h3] at hT
     by_cases h4 : w = w_switch
     ·subst h4
      rw [if_pos rfl] at hT
      repeat' (first | refine ex_call hz ?_ | refine aI ((i + 1 : Nat) : Int) ?_ | refine aU ((i + 1 : Nat) : Int) ?_ | refine aB ((i + 1 : Nat) : Int) ?_ | refine qg1 ?_ | refine eD ?_ ?_ <;> intro)
      have hcon := choice_c hL hn hm hu hc ⟨i + 1, xs, ts⟩ hs1
      rcases hy : (choiceM L m kd) ⟨i + 1, xs, ts⟩ with ⟨k, ⟨i3, xs3, ts3⟩⟩ | ⟨i9, e9⟩
      rotate_left
      ·obtain rfl := hy.symm.trans hT
       refine sC (CallsM.ren (hcon.err hy) [0, 1, 2, 3, 6, 5] 7 rfl rfl rfl rfl) ?_
       first | exact ⟨⟨_, rfl, rfl⟩, rfl, rfl⟩ | exact ⟨by kernel_rfl, ⟨_, rfl, rfl⟩, rfl, rfl⟩
      obtain rfl := hy.symm.trans hT
      refine sC (CallsM.ren (hcon.ok hy) [0, 1, 2, 3, 6, 5] 7 rfl rfl rfl rfl) ?_
      clear hcon
      repeat' (first | refine qgs ?_ | refine eD ?_ ?_ <;> intro)
      exact ⟨rfl, TLe.rfl, rfl, rfl⟩
     ·rw [if_neg h4] at hT
      have hq := (integer_c w).gL
      obtain ⟨z, lt, ok, hzl, hq⟩ : ∃ (z : Nat) (lt ok : Bool), (integerV w).getD (0, false) = (z, lt) ∧ CallsA Tryz.prog ΓL 82 [c1 (ds (bs w))] (.tup [c1 (di z), c1 (db lt), c1 (db ok)]) := by
       rcases hi : integerV w with _ | ⟨z, lt⟩ <;> rw [hi] at hq
       ·exact ⟨0, false, false, rfl, hq⟩
       ·exact ⟨z, lt, true, rfl, hq⟩
      rw [hzl] at hT
      repeat' (first | refine ex_call (plain_c 0) ?_ | refine ex_call hq ?_ | refine ex_call hz ?_ | refine aI ((i + 1 : Nat) : Int) ?_ | refine aU ((i + 1 : Nat) : Int) ?_ | refine aB ((i + 1 : Nat) : Int) ?_ | refine ex_false (fun e => h4 (bsj.1 e)) ?_ | refine ex_false (fun e => h3 (bsj.1 e)) ?_ | refine ex_false (fun e => h2 (bsj.1 e)) ?_ | refine ex_false (fun e => h1 (bsj.1 e)) ?_ | refine qg1 ?_ | refine eD ?_ ?_ <;> intro)
      have har := (array_c (L := L) hL hn hm (⟨0, z, lt, [], [], -1, -1, []⟩ : TY) ⟨i + 1, xs, ts⟩ hs1)
      rcases hy : arrayM L m (⟨0, z, lt, [], [], -1, -1, []⟩ : TY) ⟨i + 1, xs, ts⟩ with ⟨k, ⟨i3, xs3, ts3⟩⟩ | ⟨i9, e9⟩
      ·obtain rfl := hy.symm.trans hT
       have hp := (har.ok hy).argsLe (xs := [P0, gD [di 0, di z, db lt, ds (bs []), dnil, di (-1), di (-1), dnil]]) (.cons T1Le.rfl (.cons (T1Le.g (.cons DLe.rfl (.cons DLe.rfl (.cons DLe.rfl (.cons DLe.rfl (.cons DLe.nil (.cons DLe.rfl (.cons DLe.rfl (.cons DLe.nil .nil))))))))) .nil))
       refine sC (CallsM.ren (hp) [0, 1, 2, 3, 6, 5] 8 rfl rfl rfl rfl) ?_
       repeat' (first | refine qgs ?_ | refine eD ?_ ?_ <;> intro)
       exact ⟨rfl, TLe.rfl, rfl, rfl⟩
      ·obtain rfl := hy.symm.trans hT
       have hp := (har.err hy).argsLe (xs := [P0, gD [di 0, di z, db lt, ds (bs []), dnil, di (-1), di (-1), dnil]]) (.cons T1Le.rfl (.cons (T1Le.g (.cons DLe.rfl (.cons DLe.rfl (.cons DLe.rfl (.cons DLe.rfl (.cons DLe.nil (.cons DLe.rfl (.cons DLe.rfl (.cons DLe.nil .nil))))))))) .nil))
       refine sC (CallsM.ren (hp) [0, 1, 2, 3, 6, 5] 8 rfl rfl rfl rfl) ?_
       exact ⟨⟨_, rfl, rfl⟩, rfl, rfl⟩
 ·have hz : CallsA Tryz.prog ΓL 118 [c1 (ds (bs w))] (.tup [c1 (di k), c1 (db true)]) := hz
  dsimp only at hT
  repeat' (first | refine ex_call (plain_c k) ?_ | refine ex_call hz ?_ | refine aI ((i + 1 : Nat) : Int) ?_ | refine aU ((i + 1 : Nat) : Int) ?_ | refine aB ((i + 1 : Nat) : Int) ?_ | refine qg1 ?_ | refine eD ?_ ?_ <;> intro)
  have hcon := bracket_c hL hn hm ⟨i + 1, xs, ts⟩ hs1
  rcases hx : (bracketM L m) ⟨i + 1, xs, ts⟩ with ⟨x, ⟨i2, xs2, ts2⟩⟩ | ⟨i9, e9⟩
  rotate_left
  ·obtain rfl := (and_err hx).symm.trans hT
   refine sC (CallsM.ren (hcon.err hx) [0, 1, 2, 3, 6, 5] 8 rfl rfl rfl rfl) ?_
   first | exact ⟨⟨_, rfl, rfl⟩, rfl, rfl⟩ | exact ⟨by kernel_rfl, ⟨_, rfl, rfl⟩, rfl, rfl⟩
  replace hT := (and_ok hx).symm.trans hT
  refine sC (CallsM.ren (hcon.ok hx) [0, 1, 2, 3, 6, 5] 8 rfl rfl rfl rfl) ?_
  clear hcon
  have hs2 := (Up.ok (up_bracket hL m 1) hs1 hx).1
  obtain rfl := (keep_bracket m).eq hx
  have hi2 := hs2.lt
  by_cases hk : k = 7 ∨ k = 8
  ·rw [if_pos hk] at hT
   rcases hk with rfl | rfl
   all_goals
    repeat' (first | refine qgs ?_ | refine eD ?_ ?_ <;> intro)
    have hcon := hin ⟨i2, xs2, ts⟩ (hs2.less (by omega))
    rcases hx2 : (innerM L m kd) ⟨i2, xs2, ts⟩ with ⟨n, ⟨i3, xs3, ts3⟩⟩ | ⟨i9, e9⟩
    rotate_left
    ·obtain rfl := (and_err hx2).symm.trans hT
     refine sC (CallsM.ren (hcon.err hx2) [0, 1, 2, 3, 8, 5] 9 rfl rfl rfl rfl) ?_
     first | exact ⟨⟨_, rfl, rfl⟩, rfl, rfl⟩ | exact ⟨by kernel_rfl, ⟨_, rfl, rfl⟩, rfl, rfl⟩
    replace hT := (and_ok hx2).symm.trans hT
    refine sC (CallsM.ren (hcon.ok hx2) [0, 1, 2, 3, 8, 5] 9 rfl rfl rfl rfl) ?_
    clear hcon
    have hs3 := (Up.ok (c := 0) (up_inner m hu 3) hs2 hx2).1
    have htl := hs3.lt'
    have hi3 := hs3.lt
    repeat' (first | refine qgs ?_ | refine eD ?_ ?_ <;> intro)
   ·obtain rfl : PR.ok (ts3.length : Int) ⟨i3, xs3, ts3 ++ [(⟨7, 0, false, [], [], x, n, []⟩ : TY)]⟩ = T := hT
    refine sC (CallsM.ren ((layn_c (L := L) (m := m) i3 ts3 7 0 false [] x n (by omega))) [0, 1, 2, 3, 9, 10] 11 rfl rfl rfl rfl) ?_
    repeat' (first | refine qgs ?_ | refine eD ?_ ?_ <;> intro)
    exact ⟨rfl, TLe.rfl, rfl, rfl⟩
   ·obtain rfl : PR.ok (ts3.length : Int) ⟨i3, xs3, ts3 ++ [(⟨8, 0, false, [], [], x, n, []⟩ : TY)]⟩ = T := hT
    refine sC (CallsM.ren ((layn_c (L := L) (m := m) i3 ts3 8 0 false [] x n (by omega))) [0, 1, 2, 3, 9, 10] 11 rfl rfl rfl rfl) ?_
    repeat' (first | refine qgs ?_ | refine eD ?_ ?_ <;> intro)
    exact ⟨rfl, TLe.rfl, rfl, rfl⟩
  ·rw [if_neg hk] at hT
   replace hT := pureT hT
   have htl2 := hs2.lt'
   obtain rfl : PR.ok (ts.length : Int) ⟨i2, xs2, ts ++ [(⟨k, 0, false, [], [], x, -1, []⟩ : TY)]⟩ = T := hT
   repeat' (first | refine qgs ?_ | refine eD ?_ ?_ <;> intro)
   refine sC (CallsM.ren ((layn_c (L := L) (m := m) i2 ts k 0 false [] x (-1) (by omega))) [0, 1, 2, 3, 8, 5] 9 rfl rfl rfl rfl) ?_
   repeat' (first | refine qgs ?_ | refine eD ?_ ?_ <;> intro)
   exact ⟨rfl, TLe.rfl, rfl, rfl⟩
theorem kind_step (hL : TokOk L) (hn : L.length ≤ 100000) (hm : m ≤ 32) {kd : PM Int} (hu : Up L kd 0 0) (hc : ∀ m', m = m' + 1 → ∀ s, SOk L 0 s → C2 L m' 83 [] kd (fun k => Ti k) s) (s : PS) (hs : SOk L 0 s) :
  C2 L m 83 [] (kindF L m kd) (fun k => Ti k) s := by
 rcases hv : startsV L s.i with _ | _
 ·exact kind_bad s hs.i hv
 ·rcases hv1 : namedV L s.i with _ | _
  ·exact kind_word hL hn hm hu hc s hs hv1 hv
  ·exact kind_named hL hn hm s hs hv1
theorem kind_c (hL : TokOk L) (hn : L.length ≤ 100000) : ∀ m, m ≤ 32 → ∀ s, SOk L 0 s → C2 L m 83 [] (kindM L m) (fun k => Ti k) s
 | 0, hm, s, hs => kind_step hL hn hm (Up.fail (by decide) (by decide) _ _) (fun _ h => by omega) s hs
 | m + 1, hm, s, hs => kind_step hL hn hm (up_kind hL m) (fun m' h s hs => by
   obtain rfl : m = m' := by omega
   exact kind_c hL hn m (by omega) s hs) s hs
end
end Go.Proofs.YtoingpafcodojaaGreatDoor

namespace Go.Proofs.YtoingpafcodojaaGreatDoor
open Go.RowKit

section
variable {P : Program} {Γ : Glob} {f : FuncId} {nx : Nat} {xs : List T1} {r : TV} {upd : List (Nat × Blk)} {new : List Blk} {a b c d e : Nat × Blk} {m : List (Nat × Blk)}
theorem CallsM.moreD (h : CallsM P Γ f [a, e] nx xs r upd new) : CallsM P Γ f [a, b, c, d, e] nx xs r upd new := h.more fun p hp => by
 simp only [List.mem_cons, List.not_mem_nil, or_false] at hp ⊢; rcases hp with hp | hp <;> simp [hp]
end
section
variable {L : List TokP} {m : Nat}
theorem isV_end {i : Nat} {t : List UInt8} (h : (tk L i).k = 3) : isV L i t = false := by unfold isV; simp [h]
theorem isV_not {i : Nat} {t w : List UInt8} (h : (tk L i).t = t) (hn : t ≠ w) : isV L i w = false := by unfold isV; rw [h, decide_eq_false hn, Bool.and_false]
theorem isV_yes {i : Nat} {t : List UInt8} (hk : (tk L i).k ≠ 3) (h : (tk L i).t = t) : isV L i t = true := by unfold isV; rw [h, decide_eq_false hk, decide_eq_true rfl]; rfl
abbrev Iz (nm : List UInt8) (ty : Int) (der : Nat) (a b : List UInt8) (wh : Int) : Blk := .obj [.d (ds (bs nm)), .d (di ty), .d (di der), .d (ds (bs a)), .d (ds (bs b)), .d (di wh), .d (di 0), .d (db false), .d dnil]
def PR.uD (L : List TokP) (m : Nat) (nm : List UInt8) (ty wh : Int) : PR (Nat × List UInt8 × List UInt8) → List (Nat × Blk)
 | .ok v s => [(0, Qz L m s.i), (2, Iz nm ty v.1 v.2.1 v.2.2 wh)]
 | .err _ _ => [(0, .dead), (2, .dead)]
set_option maxHeartbeats 4000000 in
theorem derived_c (hL : TokOk L) (hn : L.length ≤ 100000) (nm : List UInt8) (ty wh : Int) (s : PS) {c : Nat} (hs : SOk L c s) :
  CallsM Tryz.prog ΓL 84 [(0, Qz L m s.i), (2, Iz nm ty 0 [] [] wh)] 3 [P0, .c (.ptr 2 0)] ((derivedM L s).tv L fun _ => .tup []) ((derivedM L s).uD L m nm ty wh) [] := by
 obtain ⟨T, hT⟩ : ∃ T, derivedM L s = T := ⟨_, rfl⟩
 rw [hT]
 unfold derivedM at hT
 obtain ⟨i, xs, ts⟩ := s
 have hi := hs.lt
 have hbad : (∀ t, t ∈ [w_sizeof, w_countof, w_crc32, w_adler32] → isV L i t = false) → T = .err i 4 → CallsM Tryz.prog ΓL 84 [(0, Qz L m i), (2, Iz nm ty 0 [] [] wh)] 3 [P0, .c (.ptr 2 0)] (T.tv L fun _ => .tup []) (T.uD L m nm ty wh) [] := fun hv hTe => by
  subst hTe
  refine fn_ruleP (C := ⟨Tryz.prog, layF, Tryz.f84.ntmps, ΓL, 3, [], []⟩) layF_ok mixed Tryz.func84 rfl (by kernel_rfl) rfl rfl rfl SLe.rfl ?_
  refine sC (CallsM.ren ((may_no i hi _ (hv w_sizeof (by simp)))) [0, 1] 3 rfl rfl rfl rfl) ?_
  repeat' (first | refine qgs ?_ | refine eD ?_ ?_ <;> intro)
  refine sC (CallsM.ren ((may_no i hi _ (hv w_countof (by simp)))) [0, 1] 3 rfl rfl rfl rfl) ?_
  repeat' (first | refine qgs ?_ | refine eD ?_ ?_ <;> intro)
  refine sC (CallsM.ren ((may_no i hi _ (hv w_crc32 (by simp)))) [0, 1] 3 rfl rfl rfl rfl) ?_
  repeat' (first | refine qgs ?_ | refine eD ?_ ?_ <;> intro)
  refine sC (CallsM.ren ((may_no i hi _ (hv w_adler32 (by simp)))) [0, 1] 3 rfl rfl rfl rfl) ?_
  repeat' (first | refine qgs ?_ | refine eD ?_ ?_ <;> intro)
  refine sC (CallsM.ren ((fail_c i 4 hi)) [0, 1] 3 rfl rfl rfl rfl) ?_
  exact ⟨⟨_, rfl, rfl⟩, rfl, rfl⟩
 by_cases hk : (tk L i).k = 3
 ·exact hbad (fun t _ => isV_end hk) (atn hT (by simp [hk])).symm
 ·obtain ⟨w, hw⟩ : ∃ w, (tk L i).t = w := ⟨_, rfl⟩
  by_cases hm : w ∈ [w_sizeof, w_countof, w_crc32, w_adler32]
  ·have hs1 := stpS hL hs hk
   have hd0 : derOf w ≠ 0 := by
    simp only [List.mem_cons, List.not_mem_nil, or_false] at hm
    rcases hm with rfl | rfl | rfl | rfl <;> decide
   have hT0 := aty hT (by simp [hk, hw, hd0])
   have hT : (takeM L t_lpar >>= fun _ => nameM L >>= fun a => (if 3 ≤ derOf w then takeM L t_dots >>= fun _ => nameM L else pure []) >>= fun b => takeM L t_rpar >>= fun _ => pure (derOf w, a, b)) ⟨i + 1, xs, ts⟩ = T := by rw [← hw]; exact hT0
   clear hT0
   simp only [List.mem_cons, List.not_mem_nil, or_false] at hm
   rcases hm with rfl | rfl | rfl | rfl
   ·rw [show derOf w_sizeof = 1 by decide +kernel] at hT
    refine fn_ruleP (C := ⟨Tryz.prog, layF, Tryz.f84.ntmps, ΓL, 3, [], []⟩) layF_ok mixed Tryz.func84 rfl (by kernel_rfl) rfl rfl rfl SLe.rfl ?_
    refine sC (CallsM.ren ((may_yes i hi (by omega) _ (isV_yes hk hw))) [0, 1] 3 rfl rfl rfl rfl) ?_
    repeat' (first | refine qgs ?_ | refine eD ?_ ?_ <;> intro)
    have hcon := take_c (m := m) ⟨i + 1, xs, ts⟩ hs1.i (by omega) t_lpar
    rcases hx59 : (takeM L t_lpar) ⟨i + 1, xs, ts⟩ with ⟨_, s9⟩ | ⟨i9, e9⟩
    rotate_left
    ·obtain rfl := (and_err hx59).symm.trans hT
     refine sC (CallsM.ren (hcon.err hx59) [0, 1] 3 rfl rfl rfl rfl) ?_
     first | exact ⟨⟨_, rfl, rfl⟩, rfl, rfl⟩ | exact ⟨by kernel_rfl, ⟨_, rfl, rfl⟩, rfl, rfl⟩
    replace hT := (and_ok hx59).symm.trans hT
    refine sC (CallsM.ren (hcon.ok hx59) [0, 1] 3 rfl rfl rfl rfl) ?_
    clear hcon
    have hs2 := (Up.ok (Up.take hL t_lpar 0) hs1 hx59).1
    obtain rfl := mv_take1 hx59
    repeat' (first | refine qgs ?_ | refine eD ?_ ?_ <;> intro)
    have hcon := name_c (m := m) ⟨i + 1 + 1, xs, ts⟩ hs2.i (by omega)
    rcases hx61 : (nameM L) ⟨i + 1 + 1, xs, ts⟩ with ⟨a, s9⟩ | ⟨i9, e9⟩
    rotate_left
    ·obtain rfl := (and_err hx61).symm.trans hT
     refine sC (CallsM.ren (hcon.err hx61) [0, 1] 3 rfl rfl rfl rfl) ?_
     first | exact ⟨⟨_, rfl, rfl⟩, rfl, rfl⟩ | exact ⟨by kernel_rfl, ⟨_, rfl, rfl⟩, rfl, rfl⟩
    replace hT := (and_ok hx61).symm.trans hT
    refine sC (CallsM.ren (hcon.ok hx61) [0, 1] 3 rfl rfl rfl rfl) ?_
    clear hcon
    have hs3 := (Up.ok (Up.name hL 0) hs2 hx61).1
    obtain rfl := mv_name1 hx61
    repeat' (first | refine qgs ?_ | refine eD ?_ ?_ <;> intro)
    replace hT := pureT hT
    have hcon := take_c (m := m) ⟨i + 1 + 1 + 1, xs, ts⟩ hs3.i (by omega) t_rpar
    rcases hx64 : (takeM L t_rpar) ⟨i + 1 + 1 + 1, xs, ts⟩ with ⟨_, s9⟩ | ⟨i9, e9⟩
    rotate_left
    ·obtain rfl := (and_err hx64).symm.trans hT
     refine sC (CallsM.ren (hcon.err hx64) [0, 1] 3 rfl rfl rfl rfl) ?_
     first | exact ⟨⟨_, rfl, rfl⟩, rfl, rfl⟩ | exact ⟨by kernel_rfl, ⟨_, rfl, rfl⟩, rfl, rfl⟩
    replace hT := (and_ok hx64).symm.trans hT
    refine sC (CallsM.ren (hcon.ok hx64) [0, 1] 3 rfl rfl rfl rfl) ?_
    clear hcon
    have hs4 := (Up.ok (Up.take hL t_rpar 0) hs3 hx64).1
    obtain rfl := mv_take1 hx64
    obtain rfl : PR.ok ((1 : Nat), a, ([] : List UInt8)) ⟨i + 1 + 1 + 1 + 1, xs, ts⟩ = T := hT
    repeat' (first | refine qgs ?_ | refine eD ?_ ?_ <;> intro)
    exact ⟨rfl, TLe.rfl, rfl, rfl⟩
   ·rw [show derOf w_countof = 2 by decide +kernel] at hT
    refine fn_ruleP (C := ⟨Tryz.prog, layF, Tryz.f84.ntmps, ΓL, 3, [], []⟩) layF_ok mixed Tryz.func84 rfl (by kernel_rfl) rfl rfl rfl SLe.rfl ?_
    refine sC (CallsM.ren ((may_no i hi w_sizeof (isV_not hw (by decide)))) [0, 1] 3 rfl rfl rfl rfl) ?_
    repeat' (first | refine qgs ?_ | refine eD ?_ ?_ <;> intro)
    refine sC (CallsM.ren ((may_yes i hi (by omega) _ (isV_yes hk hw))) [0, 1] 3 rfl rfl rfl rfl) ?_
    repeat' (first | refine qgs ?_ | refine eD ?_ ?_ <;> intro)
    have hcon := take_c (m := m) ⟨i + 1, xs, ts⟩ hs1.i (by omega) t_lpar
    rcases hx74 : (takeM L t_lpar) ⟨i + 1, xs, ts⟩ with ⟨_, s9⟩ | ⟨i9, e9⟩
    rotate_left
    ·obtain rfl := (and_err hx74).symm.trans hT
     refine sC (CallsM.ren (hcon.err hx74) [0, 1] 3 rfl rfl rfl rfl) ?_
     first | exact ⟨⟨_, rfl, rfl⟩, rfl, rfl⟩ | exact ⟨by kernel_rfl, ⟨_, rfl, rfl⟩, rfl, rfl⟩
    replace hT := (and_ok hx74).symm.trans hT
    refine sC (CallsM.ren (hcon.ok hx74) [0, 1] 3 rfl rfl rfl rfl) ?_
    clear hcon
    have hs2 := (Up.ok (Up.take hL t_lpar 0) hs1 hx74).1
    obtain rfl := mv_take1 hx74
    repeat' (first | refine qgs ?_ | refine eD ?_ ?_ <;> intro)
    have hcon := name_c (m := m) ⟨i + 1 + 1, xs, ts⟩ hs2.i (by omega)
    rcases hx76 : (nameM L) ⟨i + 1 + 1, xs, ts⟩ with ⟨a, s9⟩ | ⟨i9, e9⟩
    rotate_left
    ·obtain rfl := (and_err hx76).symm.trans hT
     refine sC (CallsM.ren (hcon.err hx76) [0, 1] 3 rfl rfl rfl rfl) ?_
     first | exact ⟨⟨_, rfl, rfl⟩, rfl, rfl⟩ | exact ⟨by kernel_rfl, ⟨_, rfl, rfl⟩, rfl, rfl⟩
    replace hT := (and_ok hx76).symm.trans hT
    refine sC (CallsM.ren (hcon.ok hx76) [0, 1] 3 rfl rfl rfl rfl) ?_
    clear hcon
    have hs3 := (Up.ok (Up.name hL 0) hs2 hx76).1
    obtain rfl := mv_name1 hx76
    repeat' (first | refine qgs ?_ | refine eD ?_ ?_ <;> intro)
    replace hT := pureT hT
    have hcon := take_c (m := m) ⟨i + 1 + 1 + 1, xs, ts⟩ hs3.i (by omega) t_rpar
    rcases hx79 : (takeM L t_rpar) ⟨i + 1 + 1 + 1, xs, ts⟩ with ⟨_, s9⟩ | ⟨i9, e9⟩
    rotate_left
    ·obtain rfl := (and_err hx79).symm.trans hT
     refine sC (CallsM.ren (hcon.err hx79) [0, 1] 3 rfl rfl rfl rfl) ?_
     first | exact ⟨⟨_, rfl, rfl⟩, rfl, rfl⟩ | exact ⟨by kernel_rfl, ⟨_, rfl, rfl⟩, rfl, rfl⟩
    replace hT := (and_ok hx79).symm.trans hT
    refine sC (CallsM.ren (hcon.ok hx79) [0, 1] 3 rfl rfl rfl rfl) ?_
    clear hcon
    have hs4 := (Up.ok (Up.take hL t_rpar 0) hs3 hx79).1
    obtain rfl := mv_take1 hx79
    obtain rfl : PR.ok ((2 : Nat), a, ([] : List UInt8)) ⟨i + 1 + 1 + 1 + 1, xs, ts⟩ = T := hT
    repeat' (first | refine qgs ?_ | refine eD ?_ ?_ <;> intro)
    exact ⟨rfl, TLe.rfl, rfl, rfl⟩
   ·rw [show derOf w_crc32 = 3 by decide +kernel] at hT
    refine fn_ruleP (C := ⟨Tryz.prog, layF, Tryz.f84.ntmps, ΓL, 3, [], []⟩) layF_ok mixed Tryz.func84 rfl (by kernel_rfl) rfl rfl rfl SLe.rfl ?_
    refine sC (CallsM.ren ((may_no i hi w_sizeof (isV_not hw (by decide)))) [0, 1] 3 rfl rfl rfl rfl) ?_
    repeat' (first | refine qgs ?_ | refine eD ?_ ?_ <;> intro)
    refine sC (CallsM.ren ((may_no i hi w_countof (isV_not hw (by decide)))) [0, 1] 3 rfl rfl rfl rfl) ?_
    repeat' (first | refine qgs ?_ | refine eD ?_ ?_ <;> intro)
    refine sC (CallsM.ren ((may_yes i hi (by omega) _ (isV_yes hk hw))) [0, 1] 3 rfl rfl rfl rfl) ?_
    repeat' (first | refine qgs ?_ | refine eD ?_ ?_ <;> intro)
    have hcon := take_c (m := m) ⟨i + 1, xs, ts⟩ hs1.i (by omega) t_lpar
    rcases hx91 : (takeM L t_lpar) ⟨i + 1, xs, ts⟩ with ⟨_, s9⟩ | ⟨i9, e9⟩
    rotate_left
    ·obtain rfl := (and_err hx91).symm.trans hT
     refine sC (CallsM.ren (hcon.err hx91) [0, 1] 3 rfl rfl rfl rfl) ?_
     first | exact ⟨⟨_, rfl, rfl⟩, rfl, rfl⟩ | exact ⟨by kernel_rfl, ⟨_, rfl, rfl⟩, rfl, rfl⟩
    replace hT := (and_ok hx91).symm.trans hT
    refine sC (CallsM.ren (hcon.ok hx91) [0, 1] 3 rfl rfl rfl rfl) ?_
    clear hcon
    have hs2 := (Up.ok (Up.take hL t_lpar 0) hs1 hx91).1
    obtain rfl := mv_take1 hx91
    repeat' (first | refine qgs ?_ | refine eD ?_ ?_ <;> intro)
    have hcon := name_c (m := m) ⟨i + 1 + 1, xs, ts⟩ hs2.i (by omega)
    rcases hx93 : (nameM L) ⟨i + 1 + 1, xs, ts⟩ with ⟨a, s9⟩ | ⟨i9, e9⟩
    rotate_left
    ·obtain rfl := (and_err hx93).symm.trans hT
     refine sC (CallsM.ren (hcon.err hx93) [0, 1] 3 rfl rfl rfl rfl) ?_
     first | exact ⟨⟨_, rfl, rfl⟩, rfl, rfl⟩ | exact ⟨by kernel_rfl, ⟨_, rfl, rfl⟩, rfl, rfl⟩
    replace hT := (and_ok hx93).symm.trans hT
    refine sC (CallsM.ren (hcon.ok hx93) [0, 1] 3 rfl rfl rfl rfl) ?_
    clear hcon
    have hs3 := (Up.ok (Up.name hL 0) hs2 hx93).1
    obtain rfl := mv_name1 hx93
    repeat' (first | refine qgs ?_ | refine eD ?_ ?_ <;> intro)
    replace hT := asc hT
    have hcon := take_c (m := m) ⟨i + 1 + 1 + 1, xs, ts⟩ hs3.i (by omega) t_dots
    rcases hx96 : (takeM L t_dots) ⟨i + 1 + 1 + 1, xs, ts⟩ with ⟨_, s9⟩ | ⟨i9, e9⟩
    rotate_left
    ·obtain rfl := (and_err hx96).symm.trans hT
     refine sC (CallsM.ren (hcon.err hx96) [0, 1] 3 rfl rfl rfl rfl) ?_
     first | exact ⟨⟨_, rfl, rfl⟩, rfl, rfl⟩ | exact ⟨by kernel_rfl, ⟨_, rfl, rfl⟩, rfl, rfl⟩
    replace hT := (and_ok hx96).symm.trans hT
    refine sC (CallsM.ren (hcon.ok hx96) [0, 1] 3 rfl rfl rfl rfl) ?_
    clear hcon
    have hs4 := (Up.ok (Up.take hL t_dots 0) hs3 hx96).1
    obtain rfl := mv_take1 hx96
    repeat' (first | refine qgs ?_ | refine eD ?_ ?_ <;> intro)
    have hcon := name_c (m := m) ⟨i + 1 + 1 + 1 + 1, xs, ts⟩ hs4.i (by omega)
    rcases hx98 : (nameM L) ⟨i + 1 + 1 + 1 + 1, xs, ts⟩ with ⟨b, s9⟩ | ⟨i9, e9⟩
    rotate_left
    ·obtain rfl := (and_err hx98).symm.trans hT
     refine sC (CallsM.ren (hcon.err hx98) [0, 1] 3 rfl rfl rfl rfl) ?_
     first | exact ⟨⟨_, rfl, rfl⟩, rfl, rfl⟩ | exact ⟨by kernel_rfl, ⟨_, rfl, rfl⟩, rfl, rfl⟩
    replace hT := (and_ok hx98).symm.trans hT
    refine sC (CallsM.ren (hcon.ok hx98) [0, 1] 3 rfl rfl rfl rfl) ?_
    clear hcon
    have hs5 := (Up.ok (Up.name hL 0) hs4 hx98).1
    obtain rfl := mv_name1 hx98
    repeat' (first | refine qgs ?_ | refine eD ?_ ?_ <;> intro)
    have hcon := take_c (m := m) ⟨i + 1 + 1 + 1 + 1 + 1, xs, ts⟩ hs5.i (by omega) t_rpar
    rcases hx100 : (takeM L t_rpar) ⟨i + 1 + 1 + 1 + 1 + 1, xs, ts⟩ with ⟨_, s9⟩ | ⟨i9, e9⟩
    rotate_left
    ·obtain rfl := (and_err hx100).symm.trans hT
     refine sC (CallsM.ren (hcon.err hx100) [0, 1] 3 rfl rfl rfl rfl) ?_
     first | exact ⟨⟨_, rfl, rfl⟩, rfl, rfl⟩ | exact ⟨by kernel_rfl, ⟨_, rfl, rfl⟩, rfl, rfl⟩
    replace hT := (and_ok hx100).symm.trans hT
    refine sC (CallsM.ren (hcon.ok hx100) [0, 1] 3 rfl rfl rfl rfl) ?_
    clear hcon
    have hs6 := (Up.ok (Up.take hL t_rpar 0) hs5 hx100).1
    obtain rfl := mv_take1 hx100
    obtain rfl : PR.ok ((3 : Nat), a, b) ⟨i + 1 + 1 + 1 + 1 + 1 + 1, xs, ts⟩ = T := hT
    repeat' (first | refine qgs ?_ | refine eD ?_ ?_ <;> intro)
    exact ⟨rfl, TLe.rfl, rfl, rfl⟩
   ·rw [show derOf w_adler32 = 4 by decide +kernel] at hT
    refine fn_ruleP (C := ⟨Tryz.prog, layF, Tryz.f84.ntmps, ΓL, 3, [], []⟩) layF_ok mixed Tryz.func84 rfl (by kernel_rfl) rfl rfl rfl SLe.rfl ?_
    refine sC (CallsM.ren ((may_no i hi w_sizeof (isV_not hw (by decide)))) [0, 1] 3 rfl rfl rfl rfl) ?_
    repeat' (first | refine qgs ?_ | refine eD ?_ ?_ <;> intro)
    refine sC (CallsM.ren ((may_no i hi w_countof (isV_not hw (by decide)))) [0, 1] 3 rfl rfl rfl rfl) ?_
    repeat' (first | refine qgs ?_ | refine eD ?_ ?_ <;> intro)
    refine sC (CallsM.ren ((may_no i hi w_crc32 (isV_not hw (by decide)))) [0, 1] 3 rfl rfl rfl rfl) ?_
    repeat' (first | refine qgs ?_ | refine eD ?_ ?_ <;> intro)
    refine sC (CallsM.ren ((may_yes i hi (by omega) _ (isV_yes hk hw))) [0, 1] 3 rfl rfl rfl rfl) ?_
    repeat' (first | refine qgs ?_ | refine eD ?_ ?_ <;> intro)
    have hcon := take_c (m := m) ⟨i + 1, xs, ts⟩ hs1.i (by omega) t_lpar
    rcases hx114 : (takeM L t_lpar) ⟨i + 1, xs, ts⟩ with ⟨_, s9⟩ | ⟨i9, e9⟩
    rotate_left
    ·obtain rfl := (and_err hx114).symm.trans hT
     refine sC (CallsM.ren (hcon.err hx114) [0, 1] 3 rfl rfl rfl rfl) ?_
     first | exact ⟨⟨_, rfl, rfl⟩, rfl, rfl⟩ | exact ⟨by kernel_rfl, ⟨_, rfl, rfl⟩, rfl, rfl⟩
    replace hT := (and_ok hx114).symm.trans hT
    refine sC (CallsM.ren (hcon.ok hx114) [0, 1] 3 rfl rfl rfl rfl) ?_
    clear hcon
    have hs2 := (Up.ok (Up.take hL t_lpar 0) hs1 hx114).1
    obtain rfl := mv_take1 hx114
    repeat' (first | refine qgs ?_ | refine eD ?_ ?_ <;> intro)
    have hcon := name_c (m := m) ⟨i + 1 + 1, xs, ts⟩ hs2.i (by omega)
    rcases hx116 : (nameM L) ⟨i + 1 + 1, xs, ts⟩ with ⟨a, s9⟩ | ⟨i9, e9⟩
    rotate_left
    ·obtain rfl := (and_err hx116).symm.trans hT
     refine sC (CallsM.ren (hcon.err hx116) [0, 1] 3 rfl rfl rfl rfl) ?_
     first | exact ⟨⟨_, rfl, rfl⟩, rfl, rfl⟩ | exact ⟨by kernel_rfl, ⟨_, rfl, rfl⟩, rfl, rfl⟩
    replace hT := (and_ok hx116).symm.trans hT
    refine sC (CallsM.ren (hcon.ok hx116) [0, 1] 3 rfl rfl rfl rfl) ?_
    clear hcon
    have hs3 := (Up.ok (Up.name hL 0) hs2 hx116).1
    obtain rfl := mv_name1 hx116
    repeat' (first | refine qgs ?_ | refine eD ?_ ?_ <;> intro)
    replace hT := asc hT
    have hcon := take_c (m := m) ⟨i + 1 + 1 + 1, xs, ts⟩ hs3.i (by omega) t_dots
    rcases hx119 : (takeM L t_dots) ⟨i + 1 + 1 + 1, xs, ts⟩ with ⟨_, s9⟩ | ⟨i9, e9⟩
    rotate_left
    ·obtain rfl := (and_err hx119).symm.trans hT
     refine sC (CallsM.ren (hcon.err hx119) [0, 1] 3 rfl rfl rfl rfl) ?_
     first | exact ⟨⟨_, rfl, rfl⟩, rfl, rfl⟩ | exact ⟨by kernel_rfl, ⟨_, rfl, rfl⟩, rfl, rfl⟩
    replace hT := (and_ok hx119).symm.trans hT
    refine sC (CallsM.ren (hcon.ok hx119) [0, 1] 3 rfl rfl rfl rfl) ?_
    clear hcon
    have hs4 := (Up.ok (Up.take hL t_dots 0) hs3 hx119).1
    obtain rfl := mv_take1 hx119
    repeat' (first | refine qgs ?_ | refine eD ?_ ?_ <;> intro)
    have hcon := name_c (m := m) ⟨i + 1 + 1 + 1 + 1, xs, ts⟩ hs4.i (by omega)
    rcases hx121 : (nameM L) ⟨i + 1 + 1 + 1 + 1, xs, ts⟩ with ⟨b, s9⟩ | ⟨i9, e9⟩
    rotate_left
    ·obtain rfl := (and_err hx121).symm.trans hT
     refine sC (CallsM.ren (hcon.err hx121) [0, 1] 3 rfl rfl rfl rfl) ?_
     first | exact ⟨⟨_, rfl, rfl⟩, rfl, rfl⟩ | exact ⟨by kernel_rfl, ⟨_, rfl, rfl⟩, rfl, rfl⟩
    replace hT := (and_ok hx121).symm.trans hT
    refine sC (CallsM.ren (hcon.ok hx121) [0, 1] 3 rfl rfl rfl rfl) ?_
    clear hcon
    have hs5 := (Up.ok (Up.name hL 0) hs4 hx121).1
    obtain rfl := mv_name1 hx121
    repeat' (first | refine qgs ?_ | refine eD ?_ ?_ <;> intro)
    have hcon := take_c (m := m) ⟨i + 1 + 1 + 1 + 1 + 1, xs, ts⟩ hs5.i (by omega) t_rpar
    rcases hx123 : (takeM L t_rpar) ⟨i + 1 + 1 + 1 + 1 + 1, xs, ts⟩ with ⟨_, s9⟩ | ⟨i9, e9⟩
    rotate_left
    ·obtain rfl := (and_err hx123).symm.trans hT
     refine sC (CallsM.ren (hcon.err hx123) [0, 1] 3 rfl rfl rfl rfl) ?_
     first | exact ⟨⟨_, rfl, rfl⟩, rfl, rfl⟩ | exact ⟨by kernel_rfl, ⟨_, rfl, rfl⟩, rfl, rfl⟩
    replace hT := (and_ok hx123).symm.trans hT
    refine sC (CallsM.ren (hcon.ok hx123) [0, 1] 3 rfl rfl rfl rfl) ?_
    clear hcon
    have hs6 := (Up.ok (Up.take hL t_rpar 0) hs5 hx123).1
    obtain rfl := mv_take1 hx123
    obtain rfl : PR.ok ((4 : Nat), a, b) ⟨i + 1 + 1 + 1 + 1 + 1 + 1, xs, ts⟩ = T := hT
    repeat' (first | refine qgs ?_ | refine eD ?_ ?_ <;> intro)
    exact ⟨rfl, TLe.rfl, rfl, rfl⟩
  ·have h0 : derOf w = 0 := by
    unfold derOf
    rw [if_neg (fun e => hm (by simp [e])), if_neg (fun e => hm (by simp [e])), if_neg (fun e => hm (by simp [e])), if_neg (fun e => hm (by simp [e]))]
   exact hbad (fun t ht => isV_not hw (fun e => hm (by rw [e]; exact ht))) (atn hT (by simp [hw, h0])).symm
end
end Go.Proofs.YtoingpafcodojaaGreatDoor

namespace Go.Proofs.YtoingpafcodojaaGreatDoor
open Go.RowKit

section
variable {L : List TokP} {m : Nat}
theorem const_c (hL : TokOk L) (hn : L.length ≤ 100000) (s : PS) {c : Nat} (hs : SOk L c s) : C0 L m 40 [] (constM L) (fun v => .o (gD (coD v))) s := by
 refine C0.of fun T hT => ?_
 unfold constM at hT
 obtain ⟨i, xs, ts⟩ := s
 refine fn_ruleP (C := ⟨Tryz.prog, layF, Tryz.f40.ntmps, ΓL, 2, [], []⟩) layF_ok mixed Tryz.func40 rfl (by kernel_rfl) rfl rfl rfl SLe.rfl ?_
 repeat' (first | refine qgs ?_ | refine eD ?_ ?_ <;> intro)
 have hcon := take_c (m := m) ⟨i, xs, ts⟩ hs.i (by omega) w_const
 rcases hx14 : (takeM L w_const) ⟨i, xs, ts⟩ with ⟨_, s9⟩ | ⟨i9, e9⟩
 rotate_left
 ·obtain rfl := (and_err hx14).symm.trans hT
  refine sC (CallsM.ren (hcon.err hx14) [0, 1] 3 rfl rfl rfl rfl) ?_
  first | exact ⟨⟨_, rfl, rfl⟩, rfl, rfl⟩ | exact ⟨by kernel_rfl, ⟨_, rfl, rfl⟩, rfl, rfl⟩
 replace hT := (and_ok hx14).symm.trans hT
 refine sC (CallsM.ren (hcon.ok hx14) [0, 1] 3 rfl rfl rfl rfl) ?_
 clear hcon
 have hs1 := (Up.ok (Up.take hL w_const 0) hs hx14).1
 obtain rfl := mv_take1 hx14
 repeat' (first | refine qgs ?_ | refine eD ?_ ?_ <;> intro)
 have hcon := name_c (m := m) ⟨i + 1, xs, ts⟩ hs1.i (by omega)
 rcases hx16 : (nameM L) ⟨i + 1, xs, ts⟩ with ⟨w, s9⟩ | ⟨i9, e9⟩
 rotate_left
 ·obtain rfl := (and_err hx16).symm.trans hT
  refine sC (CallsM.ren (hcon.err hx16) [0, 1] 3 rfl rfl rfl rfl) ?_
  first | exact ⟨⟨_, rfl, rfl⟩, rfl, rfl⟩ | exact ⟨by kernel_rfl, ⟨_, rfl, rfl⟩, rfl, rfl⟩
 replace hT := (and_ok hx16).symm.trans hT
 refine sC (CallsM.ren (hcon.ok hx16) [0, 1] 3 rfl rfl rfl rfl) ?_
 clear hcon
 have hs2 := (Up.ok (Up.name hL 0) hs1 hx16).1
 obtain rfl := mv_name1 hx16
 repeat' (first | refine qgs ?_ | refine eD ?_ ?_ <;> intro)
 have hcon := take_c (m := m) ⟨i + 1 + 1, xs, ts⟩ hs2.i (by omega) t_eq
 rcases hx18 : (takeM L t_eq) ⟨i + 1 + 1, xs, ts⟩ with ⟨_, s9⟩ | ⟨i9, e9⟩
 rotate_left
 ·obtain rfl := (and_err hx18).symm.trans hT
  refine sC (CallsM.ren (hcon.err hx18) [0, 1] 4 rfl rfl rfl rfl) ?_
  first | exact ⟨⟨_, rfl, rfl⟩, rfl, rfl⟩ | exact ⟨by kernel_rfl, ⟨_, rfl, rfl⟩, rfl, rfl⟩
 replace hT := (and_ok hx18).symm.trans hT
 refine sC (CallsM.ren (hcon.ok hx18) [0, 1] 4 rfl rfl rfl rfl) ?_
 clear hcon
 have hs3 := (Up.ok (Up.take hL t_eq 0) hs2 hx18).1
 obtain rfl := mv_take1 hx18
 repeat' (first | refine qgs ?_ | refine eD ?_ ?_ <;> intro)
 have hcon := num_c (m := m) ⟨i + 1 + 1 + 1, xs, ts⟩ hs3.i (by omega)
 rcases hx20 : (numberM L) ⟨i + 1 + 1 + 1, xs, ts⟩ with ⟨n, s9⟩ | ⟨i9, e9⟩
 rotate_left
 ·obtain rfl := (and_err hx20).symm.trans hT
  refine sC (CallsM.ren (hcon.err hx20) [0, 1] 4 rfl rfl rfl rfl) ?_
  first | exact ⟨⟨_, rfl, rfl⟩, rfl, rfl⟩ | exact ⟨by kernel_rfl, ⟨_, rfl, rfl⟩, rfl, rfl⟩
 replace hT := (and_ok hx20).symm.trans hT
 refine sC (CallsM.ren (hcon.ok hx20) [0, 1] 4 rfl rfl rfl rfl) ?_
 clear hcon
 have hs4 := (Up.ok (Up.number hL 0) hs3 hx20).1
 obtain rfl := mv_num1 hx20
 repeat' (first | refine qgs ?_ | refine eD ?_ ?_ <;> intro)
 have hcon := take_c (m := m) ⟨i + 1 + 1 + 1 + 1, xs, ts⟩ hs4.i (by omega) t_semi
 rcases hx22 : (takeM L t_semi) ⟨i + 1 + 1 + 1 + 1, xs, ts⟩ with ⟨_, s9⟩ | ⟨i9, e9⟩
 rotate_left
 ·obtain rfl := (and_err hx22).symm.trans hT
  refine sC (CallsM.ren (hcon.err hx22) [0, 1] 4 rfl rfl rfl rfl) ?_
  first | exact ⟨⟨_, rfl, rfl⟩, rfl, rfl⟩ | exact ⟨by kernel_rfl, ⟨_, rfl, rfl⟩, rfl, rfl⟩
 replace hT := (and_ok hx22).symm.trans hT
 refine sC (CallsM.ren (hcon.ok hx22) [0, 1] 4 rfl rfl rfl rfl) ?_
 clear hcon
 have hs5 := (Up.ok (Up.take hL t_semi 0) hs4 hx22).1
 obtain rfl := mv_take1 hx22
 obtain rfl : PR.ok (⟨w, n⟩ : CO) ⟨i + 1 + 1 + 1 + 1 + 1, xs, ts⟩ = T := hT
 repeat' (first | refine qgs ?_ | refine eD ?_ ?_ <;> intro)
 exact ⟨rfl, TLe.rfl, rfl, rfl⟩
theorem itLe {nm a b : List UInt8} {ty wh : Int} {der : Nat} : TLe (.o (gD [ds (bs nm), di ty, di der, ds (bs a), ds (bs b), di wh, di 0, db false, dnil])) (.o (gD (itD ⟨nm, ty, der, a, b, wh, 0, false, []⟩))) :=
 TLe.o (T1Le.g (.cons DLe.rfl (.cons DLe.rfl (.cons DLe.rfl (.cons DLe.rfl (.cons DLe.rfl (.cons DLe.rfl (.cons DLe.rfl (.cons DLe.rfl (.cons DLe.nil .nil))))))))))
theorem mv_derived (L : List TokP) : ∀ s v s', derivedM L s = .ok v s' → s'.xs = s.xs ∧ s'.ts = s.ts := fun s v s' h => by
 have mvand : ∀ {α β : Type} {x : PM α} {f : α → PM β}, (∀ s v s', x s = .ok v s' → s'.xs = s.xs ∧ s'.ts = s.ts) → (∀ u s v s', f u s = .ok v s' → s'.xs = s.xs ∧ s'.ts = s.ts) → ∀ s v s', (x >>= f) s = .ok v s' → s'.xs = s.xs ∧ s'.ts = s.ts := fun {α β x f} hx hf s v s' h => by
  have hb : PM.and x f s = .ok v s' := h
  unfold PM.and at hb
  rcases hxs : x s with ⟨u, s1⟩ | ⟨i, e⟩ <;> rw [hxs] at hb
  ·have h1 := hx _ _ _ hxs
   have h2 := hf _ _ _ _ hb
   exact ⟨h2.1.trans h1.1, h2.2.trans h1.2⟩
  ·cases hb
 have mt : ∀ t s v s', takeM L t s = .ok v s' → s'.xs = s.xs ∧ s'.ts = s.ts := fun t s v s' h => by unfold takeM at h; split at h <;> cases h; exact ⟨rfl, rfl⟩
 have mn : ∀ s v s', nameM L s = .ok v s' → s'.xs = s.xs ∧ s'.ts = s.ts := fun s v s' h => by unfold nameM at h; split at h <;> cases h; exact ⟨rfl, rfl⟩
 unfold derivedM atM at h
 split at h
 ·refine mvand (x := stepM) (fun s v s' h => by cases h; exact ⟨rfl, rfl⟩) (fun _ => mvand (mt _) fun _ => mvand mn fun a => mvand ?_ fun b => mvand (mt _) fun _ => fun s v s' h => by cases h; exact ⟨rfl, rfl⟩) s v s' h
  intro s1 v1 s2 h1
  split at h1
  ·exact mvand (mt _) (fun _ => mn) _ _ _ h1
  ·cases h1; exact ⟨rfl, rfl⟩
 ·cases h
set_option maxHeartbeats 8000000 in
theorem field_c (hL : TokOk L) (hn : L.length ≤ 100000) (hm : m = 32) (s : PS) (hs : SOk L 0 s) : C2 L m 62 [] (fieldM L) (fun v => .o (gD (itD v))) s := by
 refine C2.of fun T hT => ?_
 unfold fieldM at hT
 rw [← hm] at hT
 have hm2 : m ≤ 32 := by omega
 obtain ⟨i, xs, ts⟩ := s
 refine fn_ruleP (C := ⟨Tryz.prog, layF, Tryz.f62.ntmps, ΓL, 6, [], [6]⟩) layF_ok mixed Tryz.func62 rfl (by kernel_rfl) rfl rfl rfl SLe.rfl ?_
 repeat' (first | refine qgs ?_ | refine eD ?_ ?_ <;> intro)
 have hcon := name_c (m := m) ⟨i, xs, ts⟩ hs.i (by omega)
 rcases hx57 : (nameM L) ⟨i, xs, ts⟩ with ⟨w, s9⟩ | ⟨i9, e9⟩
 rotate_left
 ·obtain rfl := (and_err hx57).symm.trans hT
  refine sC (CallsM.ren (hcon.err hx57) [0, 1] 7 rfl rfl rfl rfl) ?_
  first | exact ⟨⟨_, rfl, rfl⟩, rfl, rfl⟩ | exact ⟨by kernel_rfl, ⟨_, rfl, rfl⟩, rfl, rfl⟩
 replace hT := (and_ok hx57).symm.trans hT
 refine sC (CallsM.ren (hcon.ok hx57) [0, 1] 7 rfl rfl rfl rfl) ?_
 clear hcon
 have hs1 := (Up.ok (Up.name hL 0) hs hx57).1
 obtain rfl := mv_name1 hx57
 repeat' (first | refine qgs ?_ | refine eD ?_ ?_ <;> intro)
 have hcon := take_c (m := m) ⟨i + 1, xs, ts⟩ hs1.i (by omega) t_colon
 rcases hx59 : (takeM L t_colon) ⟨i + 1, xs, ts⟩ with ⟨_, s9⟩ | ⟨i9, e9⟩
 rotate_left
 ·obtain rfl := (and_err hx59).symm.trans hT
  refine sC (CallsM.ren (hcon.err hx59) [0, 1] 8 rfl rfl rfl rfl) ?_
  first | exact ⟨⟨_, rfl, rfl⟩, rfl, rfl⟩ | exact ⟨by kernel_rfl, ⟨_, rfl, rfl⟩, rfl, rfl⟩
 replace hT := (and_ok hx59).symm.trans hT
 refine sC (CallsM.ren (hcon.ok hx59) [0, 1] 8 rfl rfl rfl rfl) ?_
 clear hcon
 have hs2 := (Up.ok (Up.take hL t_colon 0) hs1 hx59).1
 obtain rfl := mv_take1 hx59
 repeat' (first | refine qgs ?_ | refine eD ?_ ?_ <;> intro)
 have hcon := kind_c hL hn m hm2 ⟨i + 1 + 1, xs, ts⟩ (hs2.less (by omega))
 rcases hx : (kindM L m) ⟨i + 1 + 1, xs, ts⟩ with ⟨t, ⟨i2, xs2, ts2⟩⟩ | ⟨i9, e9⟩
 rotate_left
 ·obtain rfl := (and_err hx).symm.trans hT
  refine sC (CallsM.ren (hcon.err hx) [0, 1, 2, 3, 4, 5] 8 rfl rfl rfl rfl) ?_
  first | exact ⟨⟨_, rfl, rfl⟩, rfl, rfl⟩ | exact ⟨by kernel_rfl, ⟨_, rfl, rfl⟩, rfl, rfl⟩
 replace hT := (and_ok hx).symm.trans hT
 refine sC (CallsM.ren (hcon.ok hx) [0, 1, 2, 3, 4, 5] 8 rfl rfl rfl rfl) ?_
 clear hcon
 have hs3 := (Up.ok (c := 0) ((up_kind hL m).less (a' := 2) (b' := 2) 2 (by omega) (by omega)) hs2 hx).1
 repeat' (first | refine qgs ?_ | refine eD ?_ ?_ <;> intro)
 refine ex_join (X := Nat × Nat × List UInt8 × List UInt8) (fun ⟨i, e, a, b⟩ => ⟨[(0, .o P0), (2, .o (.c (.ptr 6 0))), (3, .o (.c (.ptr 7 0)))], [(0, Qz L m i), (1, Fz 2 3 8 9), (4, .dead), (5, .dead), (6, .obj [.d (ds ⟨#[]⟩), .d (di 0), .d (di 0), .d (ds ⟨#[]⟩), .d (ds ⟨#[]⟩), .d (di 0), .d (di 0), .d (db false), .d dnil]), (7, Iz w t e a b (-1)), (8, Xz xs2), (9, Tz ts2)], 10⟩)
  (fun ⟨i, e, a, b⟩ => SOk L 2 ⟨i, xs2, ts2⟩ ∧ (atM (isV L · w_where) (stepM >>= fun _ => exprM L m) (pure (-1)) >>= fun x => takeM L t_semi >>= fun _ => pure (⟨w, t, e, a, b, x, 0, false, []⟩ : IT)) ⟨i, xs2, ts2⟩ = T) ?_ ?_
 ·rcases hv : isV L i2 t_eq with _ | _
  ·replace hT := pureT (atnB hT hv)
   refine sC (CallsM.ren ((may_no i2 hs3.lt _ hv)) [0, 1] 10 rfl rfl rfl rfl) ?_
   repeat' (first | refine qgs ?_ | refine eD ?_ ?_ <;> intro)
   exact ex_meet (i2, 0, [], []) ⟨hs3.less (by omega), hT⟩ sS
  ·replace hT := stp1 (asc (atyB hT hv))
   have hs4 := stpS hL hs3 (isV_k hv)
   have hd := derived_c (m := m) hL hn w t (-1) ⟨i2 + 1, xs2, ts2⟩ hs4
   refine sC (CallsM.ren ((may_yes i2 hs3.lt (by omega) _ hv)) [0, 1] 10 rfl rfl rfl rfl) ?_
   repeat' (first | refine qgs ?_ | refine eD ?_ ?_ <;> intro)
   rcases hy : derivedM L ⟨i2 + 1, xs2, ts2⟩ with ⟨⟨e, a, b⟩, ⟨i3, xs3, ts3⟩⟩ | ⟨i9, e9⟩
   ·replace hT := (and_ok hy).symm.trans hT
    obtain ⟨h1, h2⟩ : xs3 = xs2 ∧ ts3 = ts2 := mv_derived L _ _ _ hy
    subst h1 h2
    have hs5 := (Up.ok (up_derived hL 3) hs4 hy).1
    rw [hy] at hd
    refine ex_callM (CallsM.moreD (CallsM.ren hd [0, 1, 7] 10 rfl rfl rfl rfl)) ?_
    repeat' (first | refine qgs ?_ | refine eD ?_ ?_ <;> intro)
    exact ex_meet (i3, e, a, b) ⟨hs5.less (by omega), hT⟩ sS
   ·obtain rfl := (and_err hy).symm.trans hT
    rw [hy] at hd
    refine ex_callM (CallsM.moreD (CallsM.ren hd [0, 1, 7] 10 rfl rfl rfl rfl)) ?_
    exact ⟨⟨_, rfl, rfl⟩, rfl, rfl⟩
 ·rintro ⟨i, e, a, b⟩ ⟨hs, hT⟩
  rcases hv : isV L i w_where with _ | _
  ·replace hT := pureT (atnB hT hv)
   refine sC (CallsM.ren ((may_no i hs.lt _ hv)) [0, 1] 10 rfl rfl rfl rfl) ?_
   repeat' (first | refine qgs ?_ | refine eD ?_ ?_ <;> intro)
   have hcon := take_c (m := m) ⟨i, xs2, ts2⟩ hs.i (by omega) t_semi
   rcases hx93 : (takeM L t_semi) ⟨i, xs2, ts2⟩ with ⟨_, s9⟩ | ⟨i9, e9⟩
   rotate_left
   ·obtain rfl := (and_err hx93).symm.trans hT
    refine sC (CallsM.ren (hcon.err hx93) [0, 1] 10 rfl rfl rfl rfl) ?_
    first | exact ⟨⟨_, rfl, rfl⟩, rfl, rfl⟩ | exact ⟨by kernel_rfl, ⟨_, rfl, rfl⟩, rfl, rfl⟩
   replace hT := (and_ok hx93).symm.trans hT
   refine sC (CallsM.ren (hcon.ok hx93) [0, 1] 10 rfl rfl rfl rfl) ?_
   clear hcon
   have hs1 := (Up.ok (Up.take hL t_semi 0) hs hx93).1
   obtain rfl := mv_take1 hx93
   obtain rfl : PR.ok (⟨w, t, e, a, b, -1, 0, false, []⟩ : IT) ⟨i + 1, xs2, ts2⟩ = T := hT
   repeat' (first | refine qgs ?_ | refine eD ?_ ?_ <;> intro)
   exact ⟨rfl, itLe, rfl, rfl⟩
  ·replace hT := stp1 (asc (atyB hT hv))
   have hs1 := stpS hL hs (isV_k hv)
   refine sC (CallsM.ren ((may_yes i hs.lt (by omega) _ hv)) [0, 1] 10 rfl rfl rfl rfl) ?_
   repeat' (first | refine qgs ?_ | refine eD ?_ ?_ <;> intro)
   have hcon := expr_c hL hn m hm2 ⟨i + 1, xs2, ts2⟩ (hs1.less (by omega))
   rcases hx : (exprM L m) ⟨i + 1, xs2, ts2⟩ with ⟨x, ⟨i4, xs4, ts4⟩⟩ | ⟨i9, e9⟩
   rotate_left
   ·obtain rfl := (and_err hx).symm.trans hT
    refine sC (CallsM.ren (hcon.err hx) [0, 1, 2, 3, 8, 9] 10 rfl rfl rfl rfl) ?_
    first | exact ⟨⟨_, rfl, rfl⟩, rfl, rfl⟩ | exact ⟨by kernel_rfl, ⟨_, rfl, rfl⟩, rfl, rfl⟩
   replace hT := (and_ok hx).symm.trans hT
   refine sC (CallsM.ren (hcon.ok hx) [0, 1, 2, 3, 8, 9] 10 rfl rfl rfl rfl) ?_
   clear hcon
   have hs2 := (Up.ok (up_expr hL m 3) hs1 hx).1
   obtain rfl := (keep_expr m).eq hx
   repeat' (first | refine qgs ?_ | refine eD ?_ ?_ <;> intro)
   have hcon := take_c (m := m) ⟨i4, xs4, ts2⟩ hs2.i (by omega) t_semi
   rcases hx103 : (takeM L t_semi) ⟨i4, xs4, ts2⟩ with ⟨_, s9⟩ | ⟨i9, e9⟩
   rotate_left
   ·obtain rfl := (and_err hx103).symm.trans hT
    refine sC (CallsM.ren (hcon.err hx103) [0, 1] 11 rfl rfl rfl rfl) ?_
    first | exact ⟨⟨_, rfl, rfl⟩, rfl, rfl⟩ | exact ⟨by kernel_rfl, ⟨_, rfl, rfl⟩, rfl, rfl⟩
   replace hT := (and_ok hx103).symm.trans hT
   refine sC (CallsM.ren (hcon.ok hx103) [0, 1] 11 rfl rfl rfl rfl) ?_
   clear hcon
   have hs3 := (Up.ok (Up.take hL t_semi 0) hs2 hx103).1
   obtain rfl := mv_take1 hx103
   obtain rfl : PR.ok (⟨w, t, e, a, b, x, 0, false, []⟩ : IT) ⟨i4 + 1, xs4, ts2⟩ = T := hT
   repeat' (first | refine qgs ?_ | refine eD ?_ ?_ <;> intro)
   exact ⟨rfl, itLe, rfl, rfl⟩
end
end Go.Proofs.YtoingpafcodojaaGreatDoor

namespace Go.Proofs.YtoingpafcodojaaGreatDoor

def Mo {α : Type} (x : PM α) : Prop := ∀ s v s', x s = .ok v s' → s.i ≤ s'.i
def Mo1 {α : Type} (x : PM α) : Prop := ∀ s v s', x s = .ok v s' → s.i < s'.i
theorem mo_inv {α β : Type} {x : PM α} {f : α → PM β} {s s' : PS} {v : β} (h : (x >>= f) s = .ok v s') : ∃ u s1, x s = .ok u s1 ∧ f u s1 = .ok v s' := by
 have hb : PM.and x f s = .ok v s' := h
 unfold PM.and at hb
 rcases hxs : x s with ⟨u, s1⟩ | ⟨i, e⟩
 ·rw [hxs] at hb; exact ⟨u, s1, rfl, hb⟩
 ·rw [hxs] at hb; cases hb
theorem Mo.and {α β : Type} {x : PM α} {f : α → PM β} (hx : Mo x) (hf : ∀ v, Mo (f v)) : Mo (x >>= f) := fun s v s' h => by
 obtain ⟨u, s1, h1, h2⟩ := mo_inv h
 exact Nat.le_trans (hx _ _ _ h1) (hf u _ _ _ h2)
theorem Mo1.and {α β : Type} {x : PM α} {f : α → PM β} (hx : Mo1 x) (hf : ∀ v, Mo (f v)) : Mo1 (x >>= f) := fun s v s' h => by
 obtain ⟨u, s1, h1, h2⟩ := mo_inv h
 exact Nat.lt_of_lt_of_le (hx _ _ _ h1) (hf u _ _ _ h2)
theorem Mo1.mo {α : Type} {x : PM α} (h : Mo1 x) : Mo x := fun s v s' hx => Nat.le_of_lt (h s v s' hx)
theorem Mo.at {α : Type} {p : Nat → Bool} {x y : PM α} (hx : Mo x) (hy : Mo y) : Mo (atM p x y) := fun s v s' h => by
 unfold atM at h
 split at h
 ·exact hx _ _ _ h
 ·exact hy _ _ _ h
theorem Mo.pure {α : Type} (v : α) : Mo (pure v) := fun s u s' h => by cases h; exact Nat.le_refl _
theorem Mo.put (x : EX) : Mo (putM x) := fun s u s' h => by cases h; exact Nat.le_refl _
theorem Mo.lay (x : TY) : Mo (layM x) := fun s u s' h => by cases h; exact Nat.le_refl _
theorem Mo.fail {α : Type} (e : Nat) : Mo (failM e : PM α) := fun s u s' h => by cases h
theorem Mo1.step : Mo1 stepM := fun s u s' h => by cases h; exact Nat.lt_succ_self _
theorem Mo.room (n : Nat) : Mo (roomM n) := fun s u s' h => by unfold roomM at h; split at h <;> cases h; exact Nat.le_refl _
theorem Mo.roomIf (p : Nat → Bool) (n : Nat) : Mo (fun s => if p s.i = true then roomM n s else .ok () s) := fun s u s' h => by
 dsimp only at h
 split at h
 ·exact Mo.room n _ _ _ h
 ·cases h; exact Nat.le_refl _
theorem Mo.enter (m : Nat) (p : Nat → Bool) : Mo (fun s => enterM m (p s.i) s) := fun s u s' h => by
 dsimp only at h; unfold enterM at h
 split at h
 ·cases h
 ·split at h <;> cases h; exact Nat.le_refl _
section
variable {L : List TokP}
theorem Mo1.take (t : List UInt8) : Mo1 (takeM L t) := fun s v s' h => by unfold takeM at h; split at h <;> cases h; exact Nat.lt_succ_self _
theorem Mo1.name : Mo1 (nameM L) := fun s v s' h => by unfold nameM at h; split at h <;> cases h; exact Nat.lt_succ_self _
theorem Mo1.num : Mo1 (numberM L) := fun s v s' h => by unfold numberM at h; split at h <;> cases h; exact Nat.lt_succ_self _
theorem mo_un (m : Nat) {un ex : PM Int} (h1 : Mo un) (h2 : Mo ex) : Mo (unF L m un ex) :=
 Mo.at (Mo1.step.mo.and fun _ => (Mo.enter _ _).and fun _ => h1.and fun _ => Mo.put _) (Mo.at (Mo1.step.mo.and fun _ => (Mo.enter _ _).and fun _ => h2.and fun _ => (Mo1.take _).mo.and fun _ => Mo.pure _) (Mo.at (Mo1.name.mo.and fun _ => Mo.put _) (Mo1.num.mo.and fun _ => Mo.put _)))
theorem mo_line (lv : Nat) {x : PM Int} (hx : Mo x) : ∀ n left, Mo (lineN L lv x n left)
 | 0, left => Mo.pure _
 | n + 1, left => fun s v s' h => by
  rw [lineN] at h
  change (if opAt L lv s.i = true then _ else _) = _ at h
  split at h
  ·exact (Mo1.step.mo.and fun _ => hx.and fun r => (Mo.put ⟨3, (tk L s.i).t, 0, [], [left, r]⟩).and fun k => mo_line lv hx n k) _ _ _ h
  ·cases h; exact Nat.le_refl _
theorem mo_lineJ {un : PM Int} (hx : Mo un) : ∀ j, Mo (lineJ L un j)
 | 0 => hx
 | j + 1 => (mo_lineJ hx j).and fun left => fun s v s' h => mo_line _ (mo_lineJ hx j) _ _ s v s' h
theorem mo_unM : ∀ m, Mo (unM L m)
 | 0 => mo_un 0 (Mo.fail _) (Mo.fail _)
 | m + 1 => mo_un _ (mo_unM m) (mo_lineJ (mo_unM m) 8)
theorem mo_expr (m : Nat) : Mo (exprM L m) := mo_lineJ (mo_unM m) 8
theorem mo_bracket (m : Nat) : Mo (bracketM L m) := (Mo1.take _).mo.and fun _ => (mo_expr m).and fun _ => (Mo1.take _).mo.and fun _ => Mo.pure _
theorem mo_array (m : Nat) (t : TY) : Mo (arrayM L m t) := (Mo.lay t).and fun k => Mo.at ((mo_bracket m).and fun x => Mo.lay _) (Mo.pure _)
theorem mo_args (m : Nat) : ∀ n l, Mo (argsN L m n l)
 | 0, l => Mo.pure _
 | n + 1, l => Mo.at (Mo1.step.mo.and fun _ => (Mo.roomIf (beginsV L ·) _).and fun _ => (mo_expr m).and fun x => mo_args m n _) (Mo.pure _)
theorem mo_ref (m : Nat) : Mo (refM L m) := Mo1.name.mo.and fun w => Mo.at (Mo1.step.mo.and fun _ => (mo_expr m).and fun x => (show Mo (fun s => argsN L m (L.length - s.i + 1) [x] s) from fun s v s' h => mo_args m _ _ s v s' h).and fun l => (Mo1.take _).mo.and fun _ => Mo.pure _) (Mo.pure _)
theorem mo_inner (m : Nat) {kd : PM Int} (h : Mo kd) : Mo (innerM L m kd) := (Mo.enter m (startsV L ·)).and fun _ => h
theorem mo_cases (m : Nat) {kd : PM Int} (h : Mo kd) : ∀ n l, Mo (casesN L m kd n l)
 | 0, l => Mo.pure _
 | n + 1, l => Mo.at ((Mo.room _).and fun _ => Mo1.step.mo.and fun _ => Mo1.num.mo.and fun c => (Mo1.take _).mo.and fun _ => (mo_inner m h).and fun k => (Mo1.take _).mo.and fun _ => mo_cases m h n _) (Mo.pure _)
theorem mo_choice (m : Nat) {kd : PM Int} (h : Mo kd) : Mo (choiceM L m kd) := by
 unfold choiceM
 exact (Mo1.take _).mo.and fun _ => (mo_expr m).and fun x => (Mo1.take _).mo.and fun _ => (Mo1.take _).mo.and fun _ => (show Mo (fun s => casesN L m kd (L.length - s.i + 1) [] s) from fun s v s' hx => mo_cases m h _ _ s v s' hx).and fun cs =>
  (Mo.at (Mo1.step.mo.and fun _ => (Mo1.take _).mo.and fun _ => (mo_inner m h).and fun k => (Mo1.take _).mo.and fun _ => Mo.pure _) (Mo.pure _)).and fun k => (Mo1.take _).mo.and fun _ => Mo.lay _
theorem mo_word (m : Nat) {kd : PM Int} (h : Mo kd) (w : List UInt8) : Mo (wordM L m kd w) := by
 unfold wordM
 split
 ·refine (mo_bracket m).and fun x => ?_
  split
  ·exact (mo_inner m h).and fun i => Mo.lay _
  ·exact (Mo.pure _).and fun i => Mo.lay _
 ·repeat' split
  ·exact (mo_inner m h).and fun i => Mo.lay _
  ·exact Mo.lay _
  ·exact Mo.lay _
  ·exact mo_choice m h
  ·exact mo_array m _
theorem mo_kindF (m : Nat) {kd : PM Int} (h : Mo kd) : Mo (kindF L m kd) := Mo.at ((mo_ref m).and fun t => mo_array m t) (Mo.at (fun s v s' hx => (Mo1.step.mo.and fun _ => mo_word m h (tk L s.i).t) s v s' hx) (Mo.fail _))
theorem mo_kind : ∀ m, Mo (kindM L m)
 | 0 => mo_kindF 0 (Mo.fail _)
 | m + 1 => mo_kindF _ (mo_kind m)
theorem mo_derived : Mo (derivedM L) := by
 refine Mo.at (fun s v s' hx => (Mo1.step.mo.and fun _ => (Mo1.take t_lpar).mo.and fun _ => Mo1.name.mo.and fun a => Mo.and ?_ fun b => (Mo1.take t_rpar).mo.and fun _ => Mo.pure (derOf (tk L s.i).t, a, b)) s v s' hx) (Mo.fail _)
 split
 ·exact (Mo1.take _).mo.and fun _ => Mo1.name.mo
 ·exact Mo.pure _
theorem mo_field : Mo1 (fieldM L) := Mo1.name.and fun w => (Mo1.take _).mo.and fun _ => (mo_kind 32).and fun t => (Mo.at (Mo1.step.mo.and fun _ => mo_derived) (Mo.pure _)).and fun d => (Mo.at (Mo1.step.mo.and fun _ => mo_expr 32) (Mo.pure _)).and fun x => (Mo1.take _).mo.and fun _ => Mo.pure _
theorem mo_subs : ∀ n l, Mo (subsN L n l)
 | 0, l => Mo.pure _
 | n + 1, l => by
  rw [subsN]
  exact (Mo.roomIf (namedV L ·) _).and fun _ => Mo1.name.mo.and fun w => (Mo1.take _).mo.and fun _ => Mo1.num.mo.and fun b => (Mo1.take _).mo.and fun _ => Mo.at (mo_subs n _) (Mo.pure _)
theorem mo_pack : Mo1 (packM L) := (Mo1.take _).and fun _ => fun s v s' h => by
 split at h
 ·cases h
 ·exact (Mo1.step.mo.and fun _ => (Mo1.take _).mo.and fun _ => (show Mo (fun s => subsN L (L.length - s.i + 1) [] s) from fun s v s' hx => mo_subs _ _ s v s' hx).and fun l => (Mo1.take _).mo.and fun _ => Mo.pure _) _ _ _ h
theorem mo_pars : ∀ n l, Mo (parsN L n l)
 | 0, l => Mo.pure _
 | n + 1, l => Mo.at (Mo1.step.mo.and fun _ => (Mo.roomIf (namedV L ·) _).and fun _ => Mo1.name.mo.and fun x => mo_pars n _) (Mo.pure _)
theorem mo_items : ∀ n l, Mo (itemsN L n l)
 | 0, l => Mo.pure _
 | n + 1, l => Mo.at ((Mo.room _).and fun _ => (Mo.at mo_pack.mo mo_field.mo).and fun x => mo_items n _) (Mo.pure _)
theorem mo_record : Mo1 (recordM L) := (Mo1.take _).and fun _ => Mo1.name.mo.and fun w =>
 (Mo.at (Mo1.step.mo.and fun _ => Mo1.name.mo.and fun x => (show Mo (fun s => parsN L (L.length - s.i + 1) [x] s) from fun s v s' h => mo_pars _ _ s v s' h).and fun l => (Mo1.take _).mo.and fun _ => Mo.pure _) (Mo.pure _)).and fun ps =>
 (Mo1.take _).mo.and fun _ => (show Mo (fun s => itemsN L (L.length - s.i + 1) [] s) from fun s v s' h => mo_items _ _ s v s' h).and fun is => (Mo1.take _).mo.and fun _ => Mo.pure _
theorem mo_const : Mo1 (constM L) := (Mo1.take _).and fun _ => Mo1.name.mo.and fun w => (Mo1.take _).mo.and fun _ => Mo1.num.mo.and fun n => (Mo1.take _).mo.and fun _ => Mo.pure _
end
end Go.Proofs.YtoingpafcodojaaGreatDoor

namespace Go.Proofs.YtoingpafcodojaaGreatDoor
open Go.RowKit

section
variable {L : List TokP} {m : Nat}
def headN (L : List TokP) (n : Nat) (l : List SB) : PM (List SB) := if l = [] then subsN L n l else atM (namedV L ·) (subsN L n l) (pure l)
set_option maxHeartbeats 8000000 in
theorem pack_c (hL : TokOk L) (hn : L.length ≤ 100000) (s : PS) {c : Nat} (hs : SOk L c s) : C0 L m 61 [] (packM L) (fun v => .o (gD (itD v))) s := by
 refine C0.of fun T hT => ?_
 unfold packM at hT
 obtain ⟨i, xs, ts⟩ := s
 refine fn_ruleP (C := ⟨Tryz.prog, layF, Tryz.f61.ntmps, ΓL, 2, [], []⟩) layF_ok mixed Tryz.func61 rfl (by kernel_rfl) rfl rfl rfl SLe.rfl ?_
 repeat' (first | refine qgs ?_ | refine eD ?_ ?_ <;> intro)
 have hcon := take_c (m := m) ⟨i, xs, ts⟩ hs.i (by omega) w_pack
 rcases hx18 : (takeM L w_pack) ⟨i, xs, ts⟩ with ⟨_, s9⟩ | ⟨i9, e9⟩
 rotate_left
 ·obtain rfl := (and_err hx18).symm.trans hT
  refine sC (CallsM.ren (hcon.err hx18) [0, 1] 3 rfl rfl rfl rfl) ?_
  first | exact ⟨⟨_, rfl, rfl⟩, rfl, rfl⟩ | exact ⟨by kernel_rfl, ⟨_, rfl, rfl⟩, rfl, rfl⟩
 replace hT := (and_ok hx18).symm.trans hT
 refine sC (CallsM.ren (hcon.ok hx18) [0, 1] 3 rfl rfl rfl rfl) ?_
 clear hcon
 have hs1 := (Up.ok (Up.take hL w_pack 0) hs hx18).1
 obtain rfl := mv_take1 hx18
 have ha := ahead_c (L := L) (m := m) (i + 1) hs1.lt
 have hT : (match (if (tk L (i + 1)).k = 0 then integerV (tk L (i + 1)).t else none) with
  | none => failM 4 ⟨i + 1, xs, ts⟩
  | some (z, lt) => (stepM >>= fun _ => takeM L t_lcur >>= fun _ => (fun s => subsN L (L.length - s.i + 1) [] s) >>= fun l => takeM L t_rcur >>= fun _ => pure (⟨[], -1, 0, [], [], -1, z, lt, l⟩ : IT)) ⟨i + 1, xs, ts⟩) = T := hT
 have hk3 : (tk L (i + 1)).k = 0 → (tk L (i + 1)).k ≠ 3 := fun h => by omega
 have hs2 := fun h => stpS hL hs1 (hk3 h)
 clear hk3
 generalize tk L (i + 1) = u at *
 have hq := (integer_c u.t).gL
 repeat' (first | refine qgs ?_ | refine eD ?_ ?_ <;> intro)
 refine sC (CallsM.ren (ha) [0, 1] 4 rfl rfl rfl rfl) ?_
 rcases hz : integerV u.t with _ | ⟨z, lt⟩ <;> rw [hz] at hT hq
 ·have hq : CallsA Tryz.prog ΓL 82 [c1 (ds (bs u.t))] (.tup [c1 (di 0), c1 (db false), c1 (db false)]) := hq
  obtain rfl : PR.err (i + 1) 4 = T := by
   rw [← hT]
   by_cases hk : u.k = 0
   ·rw [if_pos hk]; rfl
   ·rw [if_neg hk]; rfl
  repeat' (first | refine ex_call hq ?_ | refine qg1 ?_ | refine eD ?_ ?_ <;> intro)
  refine sC (CallsM.ren ((fail_c (m := m) (i + 1) 4 hs1.lt)) [0, 1] 4 rfl rfl rfl rfl) ?_
  exact ⟨⟨_, rfl, rfl⟩, rfl, rfl⟩
 ·have hq : CallsA Tryz.prog ΓL 82 [c1 (ds (bs u.t))] (.tup [c1 (di z), c1 (db lt), c1 (db true)]) := hq
  by_cases hk : u.k = 0
  ·rw [if_pos hk] at hT
   replace hs2 := hs2 hk
   have hi1 := hs1.lt
   have hi2 := hs2.lt
   repeat' (first | refine ex_call hq ?_ | refine qg1 ?_ | refine eD ?_ ?_ <;> intro)
   refine sC (CallsM.ren (ha) [0, 1] 4 rfl rfl rfl rfl) ?_
   repeat' (first | refine aI ((i + 1 + 1 : Nat) : Int) ?_ | refine aU ((i + 1 + 1 : Nat) : Int) ?_ | refine aB ((i + 1 + 1 : Nat) : Int) ?_ | refine qg1 ?_ | refine eD ?_ ?_ <;> intro)
   replace hT : (takeM L t_lcur >>= fun _ => (fun s => subsN L (L.length - s.i + 1) [] s) >>= fun l => takeM L t_rcur >>= fun _ => pure (⟨[], -1, 0, [], [], -1, z, lt, l⟩ : IT)) ⟨i + 1 + 1, xs, ts⟩ = T := hT
   have hcon := take_c (m := m) ⟨i + 1 + 1, xs, ts⟩ hs2.i (by omega) t_lcur
   rcases hx50 : (takeM L t_lcur) ⟨i + 1 + 1, xs, ts⟩ with ⟨_, s9⟩ | ⟨i9, e9⟩
   rotate_left
   ·obtain rfl := (and_err hx50).symm.trans hT
    refine sC (CallsM.ren (hcon.err hx50) [0, 1] 4 rfl rfl rfl rfl) ?_
    first | exact ⟨⟨_, rfl, rfl⟩, rfl, rfl⟩ | exact ⟨by kernel_rfl, ⟨_, rfl, rfl⟩, rfl, rfl⟩
   replace hT := (and_ok hx50).symm.trans hT
   refine sC (CallsM.ren (hcon.ok hx50) [0, 1] 4 rfl rfl rfl rfl) ?_
   clear hcon
   have hs3 := (Up.ok (Up.take hL t_lcur 0) hs2 hx50).1
   obtain rfl := mv_take1 hx50
   repeat' (first | refine qgs ?_ | refine eD ?_ ?_ <;> intro)
   replace hT : (headN L (L.length - (i + 1 + 1 + 1) + 1) [] >>= fun l => takeM L t_rcur >>= fun _ => pure (⟨[], -1, 0, [], [], -1, z, lt, l⟩ : IT)) ⟨i + 1 + 1 + 1, xs, ts⟩ = T := hT
   refine ex_loop (X := Nat × List SB × Nat) (fun ⟨i, l, _⟩ => ⟨[(0, .o P0), (2, .o (.c (.ptr 2 0))), (3, .o (.c (.ptr 3 0)))], [(0, Qz L m i), (2, .obj [.d (ds ⟨#[]⟩), .d (di 0), .d (di 0), .d (ds ⟨#[]⟩), .d (ds ⟨#[]⟩), .d (di 0), .d (di 0), .d (db false), .d dnil]), (3, .obj [.d (ds ⟨#[]⟩), .d (di (-1)), .d (di 0), .d (ds ⟨#[]⟩), .d (ds ⟨#[]⟩), .d (di (-1)), .d (di z), .d (db lt), .row 4]), (4, .row 2 198 (l.map sbD))], 5⟩) (fun y => L.length - y.1)
    (fun ⟨i, l, n⟩ => SOk L c ⟨i, xs, ts⟩ ∧ L.length < i + n ∧ l.length ≤ i ∧ (headN L n l >>= fun l => takeM L t_rcur >>= fun _ => pure (⟨[], -1, 0, [], [], -1, z, lt, l⟩ : IT)) ⟨i, xs, ts⟩ = T) (i + 1 + 1 + 1, [], L.length - (i + 1 + 1 + 1) + 1) ⟨hs3.less (by omega), by omega, Nat.zero_le _, hT⟩ (SLe.trans sS (SLe.ownCell 3 8 4 2 198 rfl rfl rfl rfl rfl rfl)) ?_
   clear hT hs3 hs2 hs1 ha hq hs
   rintro ⟨i, l, n⟩ ⟨hs, hf, hll, hT⟩
   have hi := hs.lt
   have hnm := named_c (m := m) i hi
   cases n with
   | zero => omega
   | succ n =>
    have hbody : (l = [] ∨ namedV L i = true) → (subsN L (n + 1) l >>= fun l => takeM L t_rcur >>= fun _ => pure (⟨[], -1, 0, [], [], -1, z, lt, l⟩ : IT)) ⟨i, xs, ts⟩ = T := fun h => by
     unfold headN at hT
     by_cases hl : l = []
     ·rwa [if_pos hl] at hT
     ·rw [if_neg hl] at hT
      exact atyB hT (h.resolve_left hl)
    by_cases hgo : l = [] ∨ namedV L i = true
    ·replace hT := hbody hgo
     rw [subsN] at hT
     replace hT := asc hT
     by_cases hl : l = []
     ·subst hl
      repeat' (first | refine ex_is (α := Nat) 0 rfl ?_ | refine qg1 ?_ | refine eD ?_ ?_ <;> intro)
      rcases hnv : namedV L i with _ | _ <;> rw [hnv] at hnm
      ·replace hT := asc (rmF hT hnv)
       refine sC (CallsM.ren (hnm) [0, 1] 5 rfl rfl rfl rfl) ?_
       repeat' (first | refine qgs ?_ | refine eD ?_ ?_ <;> intro)
       have hcon := name_c (m := m) ⟨i, xs, ts⟩ hs.i (by omega)
       rcases hx79 : (nameM L) ⟨i, xs, ts⟩ with ⟨w, s9⟩ | ⟨i9, e9⟩
       rotate_left
       ·obtain rfl := (and_err hx79).symm.trans hT
        refine sC (CallsM.ren (hcon.err hx79) [0, 1] 5 rfl rfl rfl rfl) ?_
        first | exact ⟨⟨_, rfl, rfl⟩, rfl, rfl⟩ | exact ⟨by kernel_rfl, ⟨_, rfl, rfl⟩, rfl, rfl⟩
       replace hT := (and_ok hx79).symm.trans hT
       refine sC (CallsM.ren (hcon.ok hx79) [0, 1] 5 rfl rfl rfl rfl) ?_
       clear hcon
       have hs1 := (Up.ok (Up.name hL 0) hs hx79).1
       obtain rfl := mv_name1 hx79
       replace hT := asc hT
       repeat' (first | refine qgs ?_ | refine eD ?_ ?_ <;> intro)
       have hcon := take_c (m := m) ⟨i + 1, xs, ts⟩ hs1.i (by omega) t_colon
       rcases hx82 : (takeM L t_colon) ⟨i + 1, xs, ts⟩ with ⟨_, s9⟩ | ⟨i9, e9⟩
       rotate_left
       ·obtain rfl := (and_err hx82).symm.trans hT
        refine sC (CallsM.ren (hcon.err hx82) [0, 1] 5 rfl rfl rfl rfl) ?_
        first | exact ⟨⟨_, rfl, rfl⟩, rfl, rfl⟩ | exact ⟨by kernel_rfl, ⟨_, rfl, rfl⟩, rfl, rfl⟩
       replace hT := (and_ok hx82).symm.trans hT
       refine sC (CallsM.ren (hcon.ok hx82) [0, 1] 5 rfl rfl rfl rfl) ?_
       clear hcon
       have hs2 := (Up.ok (Up.take hL t_colon 0) hs1 hx82).1
       obtain rfl := mv_take1 hx82
       replace hT := asc hT
       repeat' (first | refine qgs ?_ | refine eD ?_ ?_ <;> intro)
       have hcon := num_c (m := m) ⟨i + 1 + 1, xs, ts⟩ hs2.i (by omega)
       rcases hx85 : (numberM L) ⟨i + 1 + 1, xs, ts⟩ with ⟨b, s9⟩ | ⟨i9, e9⟩
       rotate_left
       ·obtain rfl := (and_err hx85).symm.trans hT
        refine sC (CallsM.ren (hcon.err hx85) [0, 1] 5 rfl rfl rfl rfl) ?_
        first | exact ⟨⟨_, rfl, rfl⟩, rfl, rfl⟩ | exact ⟨by kernel_rfl, ⟨_, rfl, rfl⟩, rfl, rfl⟩
       replace hT := (and_ok hx85).symm.trans hT
       refine sC (CallsM.ren (hcon.ok hx85) [0, 1] 5 rfl rfl rfl rfl) ?_
       clear hcon
       have hs3 := (Up.ok (Up.number hL 0) hs2 hx85).1
       obtain rfl := mv_num1 hx85
       replace hT := asc hT
       repeat' (first | refine qgs ?_ | refine eD ?_ ?_ <;> intro)
       have hcon := take_c (m := m) ⟨i + 1 + 1 + 1, xs, ts⟩ hs3.i (by omega) t_semi
       rcases hx88 : (takeM L t_semi) ⟨i + 1 + 1 + 1, xs, ts⟩ with ⟨_, s9⟩ | ⟨i9, e9⟩
       rotate_left
       ·obtain rfl := (and_err hx88).symm.trans hT
        refine sC (CallsM.ren (hcon.err hx88) [0, 1] 5 rfl rfl rfl rfl) ?_
        first | exact ⟨⟨_, rfl, rfl⟩, rfl, rfl⟩ | exact ⟨by kernel_rfl, ⟨_, rfl, rfl⟩, rfl, rfl⟩
       replace hT := (and_ok hx88).symm.trans hT
       refine sC (CallsM.ren (hcon.ok hx88) [0, 1] 5 rfl rfl rfl rfl) ?_
       clear hcon
       have hs4 := (Up.ok (Up.take hL t_semi 0) hs3 hx88).1
       obtain rfl := mv_take1 hx88
       have hi4 := hs4.lt
       have hmin : (if (1048576 : Int) < (b : Int) then 1048576 else (b : Int)) = ((min b 1048576 : Nat) : Int) := by split <;> omega
       repeat' (first | refine aI ((min b 1048576 : Nat) : Int) ?_ | refine aU ((min b 1048576 : Nat) : Int) ?_ | refine aB ((min b 1048576 : Nat) : Int) ?_ | refine ex_is ((min b 1048576 : Nat) : Int) hmin ?_ | refine qg1 ?_ | refine eD ?_ ?_ <;> intro)
       refine ex_app (0) (1) 1000 (by first | rfl | (simp; done) | (simp; omega)) (by first | rfl | (simp; done) | (simp; omega)) rfl (by omega) ?_
       refine ex_is (List.map sbD ([] ++ [(⟨w, min b 1048576⟩ : SB)])) (by rw [List.map_append]; rfl) ?_
       repeat' (first | refine qgs ?_ | refine eD ?_ ?_ <;> intro)
       exact ex_round (i + 1 + 1 + 1 + 1, [] ++ [(⟨w, min b 1048576⟩ : SB)], n) ⟨hs4.less (by omega), by omega, by simp <;> omega, by unfold headN; rw [if_neg (by simp)]; exact hT⟩ (by show L.length - (i + 1 + 1 + 1 + 1) < L.length - i; omega) (sR [(0, 0), (2, 2), (3, 3), (6, 4), (1, 1)])
      ·replace hT := rmT hT hnv
       refine sC (CallsM.ren (hnm) [0, 1] 5 rfl rfl rfl rfl) ?_
       repeat' (first | refine ex_is (α := Nat) 0 rfl ?_ | refine qg1 ?_ | refine eD ?_ ?_ <;> intro)
       have hcon := room_c (m := m) ⟨i, xs, ts⟩ hi 0 (by omega)
       rcases hr : (roomM 0) ⟨i, xs, ts⟩ with ⟨_, s9⟩ | ⟨i9, e9⟩
       rotate_left
       ·obtain rfl := (and_err hr).symm.trans hT
        refine sC (CallsM.ren (hcon.err hr) [0, 1] 5 rfl rfl rfl rfl) ?_
        first | exact ⟨⟨_, rfl, rfl⟩, rfl, rfl⟩ | exact ⟨by kernel_rfl, ⟨_, rfl, rfl⟩, rfl, rfl⟩
       replace hT := (and_ok hr).symm.trans hT
       refine sC (CallsM.ren (hcon.ok hr) [0, 1] 5 rfl rfl rfl rfl) ?_
       clear hcon
       obtain rfl := mv_room1 hr
       replace hT := asc hT
       repeat' (first | refine qgs ?_ | refine eD ?_ ?_ <;> intro)
       have hcon := name_c (m := m) ⟨i, xs, ts⟩ hs.i (by omega)
       rcases hx102 : (nameM L) ⟨i, xs, ts⟩ with ⟨w, s9⟩ | ⟨i9, e9⟩
       rotate_left
       ·obtain rfl := (and_err hx102).symm.trans hT
        refine sC (CallsM.ren (hcon.err hx102) [0, 1] 5 rfl rfl rfl rfl) ?_
        first | exact ⟨⟨_, rfl, rfl⟩, rfl, rfl⟩ | exact ⟨by kernel_rfl, ⟨_, rfl, rfl⟩, rfl, rfl⟩
       replace hT := (and_ok hx102).symm.trans hT
       refine sC (CallsM.ren (hcon.ok hx102) [0, 1] 5 rfl rfl rfl rfl) ?_
       clear hcon
       have hs1 := (Up.ok (Up.name hL 0) hs hx102).1
       obtain rfl := mv_name1 hx102
       replace hT := asc hT
       repeat' (first | refine qgs ?_ | refine eD ?_ ?_ <;> intro)
       have hcon := take_c (m := m) ⟨i + 1, xs, ts⟩ hs1.i (by omega) t_colon
       rcases hx105 : (takeM L t_colon) ⟨i + 1, xs, ts⟩ with ⟨_, s9⟩ | ⟨i9, e9⟩
       rotate_left
       ·obtain rfl := (and_err hx105).symm.trans hT
        refine sC (CallsM.ren (hcon.err hx105) [0, 1] 5 rfl rfl rfl rfl) ?_
        first | exact ⟨⟨_, rfl, rfl⟩, rfl, rfl⟩ | exact ⟨by kernel_rfl, ⟨_, rfl, rfl⟩, rfl, rfl⟩
       replace hT := (and_ok hx105).symm.trans hT
       refine sC (CallsM.ren (hcon.ok hx105) [0, 1] 5 rfl rfl rfl rfl) ?_
       clear hcon
       have hs2 := (Up.ok (Up.take hL t_colon 0) hs1 hx105).1
       obtain rfl := mv_take1 hx105
       replace hT := asc hT
       repeat' (first | refine qgs ?_ | refine eD ?_ ?_ <;> intro)
       have hcon := num_c (m := m) ⟨i + 1 + 1, xs, ts⟩ hs2.i (by omega)
       rcases hx108 : (numberM L) ⟨i + 1 + 1, xs, ts⟩ with ⟨b, s9⟩ | ⟨i9, e9⟩
       rotate_left
       ·obtain rfl := (and_err hx108).symm.trans hT
        refine sC (CallsM.ren (hcon.err hx108) [0, 1] 5 rfl rfl rfl rfl) ?_
        first | exact ⟨⟨_, rfl, rfl⟩, rfl, rfl⟩ | exact ⟨by kernel_rfl, ⟨_, rfl, rfl⟩, rfl, rfl⟩
       replace hT := (and_ok hx108).symm.trans hT
       refine sC (CallsM.ren (hcon.ok hx108) [0, 1] 5 rfl rfl rfl rfl) ?_
       clear hcon
       have hs3 := (Up.ok (Up.number hL 0) hs2 hx108).1
       obtain rfl := mv_num1 hx108
       replace hT := asc hT
       repeat' (first | refine qgs ?_ | refine eD ?_ ?_ <;> intro)
       have hcon := take_c (m := m) ⟨i + 1 + 1 + 1, xs, ts⟩ hs3.i (by omega) t_semi
       rcases hx111 : (takeM L t_semi) ⟨i + 1 + 1 + 1, xs, ts⟩ with ⟨_, s9⟩ | ⟨i9, e9⟩
       rotate_left
       ·obtain rfl := (and_err hx111).symm.trans hT
        refine sC (CallsM.ren (hcon.err hx111) [0, 1] 5 rfl rfl rfl rfl) ?_
        first | exact ⟨⟨_, rfl, rfl⟩, rfl, rfl⟩ | exact ⟨by kernel_rfl, ⟨_, rfl, rfl⟩, rfl, rfl⟩
       replace hT := (and_ok hx111).symm.trans hT
       refine sC (CallsM.ren (hcon.ok hx111) [0, 1] 5 rfl rfl rfl rfl) ?_
       clear hcon
       have hs4 := (Up.ok (Up.take hL t_semi 0) hs3 hx111).1
       obtain rfl := mv_take1 hx111
       have hi4 := hs4.lt
       have hmin : (if (1048576 : Int) < (b : Int) then 1048576 else (b : Int)) = ((min b 1048576 : Nat) : Int) := by split <;> omega
       repeat' (first | refine aI ((min b 1048576 : Nat) : Int) ?_ | refine aU ((min b 1048576 : Nat) : Int) ?_ | refine aB ((min b 1048576 : Nat) : Int) ?_ | refine ex_is ((min b 1048576 : Nat) : Int) hmin ?_ | refine qg1 ?_ | refine eD ?_ ?_ <;> intro)
       refine ex_app (0) (1) 1000 (by first | rfl | (simp; done) | (simp; omega)) (by first | rfl | (simp; done) | (simp; omega)) rfl (by omega) ?_
       refine ex_is (List.map sbD ([] ++ [(⟨w, min b 1048576⟩ : SB)])) (by rw [List.map_append]; rfl) ?_
       repeat' (first | refine qgs ?_ | refine eD ?_ ?_ <;> intro)
       exact ex_round (i + 1 + 1 + 1 + 1, [] ++ [(⟨w, min b 1048576⟩ : SB)], n) ⟨hs4.less (by omega), by omega, by simp <;> omega, by unfold headN; rw [if_neg (by simp)]; exact hT⟩ (by show L.length - (i + 1 + 1 + 1 + 1) < L.length - i; omega) (sR [(0, 0), (2, 2), (3, 3), (6, 4), (1, 1)])
     ·have hnv : namedV L i = true := hgo.resolve_left hl
      have hl0 : l.length ≠ 0 := fun e => hl (List.eq_nil_of_length_eq_zero e)
      rw [hnv] at hnm
      repeat' (first | refine ex_is l.length (by simp) ?_ | refine qg1 ?_ | refine eD ?_ ?_ <;> intro)
      refine sC (CallsM.ren (hnm) [0, 1] 5 rfl rfl rfl rfl) ?_
      repeat' (first | refine qgs ?_ | refine eD ?_ ?_ <;> intro)
      replace hT := rmT hT hnv
      refine sC (CallsM.ren (hnm) [0, 1] 5 rfl rfl rfl rfl) ?_
      repeat' (first | refine ex_is l.length (by simp) ?_ | refine qg1 ?_ | refine eD ?_ ?_ <;> intro)
      have hcon := room_c (m := m) ⟨i, xs, ts⟩ hi l.length (by omega)
      rcases hr : (roomM l.length) ⟨i, xs, ts⟩ with ⟨_, s9⟩ | ⟨i9, e9⟩
      rotate_left
      ·obtain rfl := (and_err hr).symm.trans hT
       refine sC (CallsM.ren (hcon.err hr) [0, 1] 5 rfl rfl rfl rfl) ?_
       first | exact ⟨⟨_, rfl, rfl⟩, rfl, rfl⟩ | exact ⟨by kernel_rfl, ⟨_, rfl, rfl⟩, rfl, rfl⟩
      replace hT := (and_ok hr).symm.trans hT
      refine sC (CallsM.ren (hcon.ok hr) [0, 1] 5 rfl rfl rfl rfl) ?_
      clear hcon
      obtain rfl := mv_room1 hr
      replace hT := asc hT
      repeat' (first | refine qgs ?_ | refine eD ?_ ?_ <;> intro)
      have hcon := name_c (m := m) ⟨i, xs, ts⟩ hs.i (by omega)
      rcases hx131 : (nameM L) ⟨i, xs, ts⟩ with ⟨w, s9⟩ | ⟨i9, e9⟩
      rotate_left
      ·obtain rfl := (and_err hx131).symm.trans hT
       refine sC (CallsM.ren (hcon.err hx131) [0, 1] 5 rfl rfl rfl rfl) ?_
       first | exact ⟨⟨_, rfl, rfl⟩, rfl, rfl⟩ | exact ⟨by kernel_rfl, ⟨_, rfl, rfl⟩, rfl, rfl⟩
      replace hT := (and_ok hx131).symm.trans hT
      refine sC (CallsM.ren (hcon.ok hx131) [0, 1] 5 rfl rfl rfl rfl) ?_
      clear hcon
      have hs1 := (Up.ok (Up.name hL 0) hs hx131).1
      obtain rfl := mv_name1 hx131
      replace hT := asc hT
      repeat' (first | refine qgs ?_ | refine eD ?_ ?_ <;> intro)
      have hcon := take_c (m := m) ⟨i + 1, xs, ts⟩ hs1.i (by omega) t_colon
      rcases hx134 : (takeM L t_colon) ⟨i + 1, xs, ts⟩ with ⟨_, s9⟩ | ⟨i9, e9⟩
      rotate_left
      ·obtain rfl := (and_err hx134).symm.trans hT
       refine sC (CallsM.ren (hcon.err hx134) [0, 1] 5 rfl rfl rfl rfl) ?_
       first | exact ⟨⟨_, rfl, rfl⟩, rfl, rfl⟩ | exact ⟨by kernel_rfl, ⟨_, rfl, rfl⟩, rfl, rfl⟩
      replace hT := (and_ok hx134).symm.trans hT
      refine sC (CallsM.ren (hcon.ok hx134) [0, 1] 5 rfl rfl rfl rfl) ?_
      clear hcon
      have hs2 := (Up.ok (Up.take hL t_colon 0) hs1 hx134).1
      obtain rfl := mv_take1 hx134
      replace hT := asc hT
      repeat' (first | refine qgs ?_ | refine eD ?_ ?_ <;> intro)
      have hcon := num_c (m := m) ⟨i + 1 + 1, xs, ts⟩ hs2.i (by omega)
      rcases hx137 : (numberM L) ⟨i + 1 + 1, xs, ts⟩ with ⟨b, s9⟩ | ⟨i9, e9⟩
      rotate_left
      ·obtain rfl := (and_err hx137).symm.trans hT
       refine sC (CallsM.ren (hcon.err hx137) [0, 1] 5 rfl rfl rfl rfl) ?_
       first | exact ⟨⟨_, rfl, rfl⟩, rfl, rfl⟩ | exact ⟨by kernel_rfl, ⟨_, rfl, rfl⟩, rfl, rfl⟩
      replace hT := (and_ok hx137).symm.trans hT
      refine sC (CallsM.ren (hcon.ok hx137) [0, 1] 5 rfl rfl rfl rfl) ?_
      clear hcon
      have hs3 := (Up.ok (Up.number hL 0) hs2 hx137).1
      obtain rfl := mv_num1 hx137
      replace hT := asc hT
      repeat' (first | refine qgs ?_ | refine eD ?_ ?_ <;> intro)
      have hcon := take_c (m := m) ⟨i + 1 + 1 + 1, xs, ts⟩ hs3.i (by omega) t_semi
      rcases hx140 : (takeM L t_semi) ⟨i + 1 + 1 + 1, xs, ts⟩ with ⟨_, s9⟩ | ⟨i9, e9⟩
      rotate_left
      ·obtain rfl := (and_err hx140).symm.trans hT
       refine sC (CallsM.ren (hcon.err hx140) [0, 1] 5 rfl rfl rfl rfl) ?_
       first | exact ⟨⟨_, rfl, rfl⟩, rfl, rfl⟩ | exact ⟨by kernel_rfl, ⟨_, rfl, rfl⟩, rfl, rfl⟩
      replace hT := (and_ok hx140).symm.trans hT
      refine sC (CallsM.ren (hcon.ok hx140) [0, 1] 5 rfl rfl rfl rfl) ?_
      clear hcon
      have hs4 := (Up.ok (Up.take hL t_semi 0) hs3 hx140).1
      obtain rfl := mv_take1 hx140
      have hi4 := hs4.lt
      have hmin : (if (1048576 : Int) < (b : Int) then 1048576 else (b : Int)) = ((min b 1048576 : Nat) : Int) := by split <;> omega
      repeat' (first | refine aI ((min b 1048576 : Nat) : Int) ?_ | refine aU ((min b 1048576 : Nat) : Int) ?_ | refine aB ((min b 1048576 : Nat) : Int) ?_ | refine ex_is ((min b 1048576 : Nat) : Int) hmin ?_ | refine qg1 ?_ | refine eD ?_ ?_ <;> intro)
      refine ex_app (l.length) (1) 1000 (by first | rfl | (simp; done) | (simp; omega)) (by first | rfl | (simp; done) | (simp; omega)) rfl (by omega) ?_
      refine ex_is (List.map sbD (l ++ [(⟨w, min b 1048576⟩ : SB)])) (by rw [List.map_append]; rfl) ?_
      repeat' (first | refine qgs ?_ | refine eD ?_ ?_ <;> intro)
      exact ex_round (i + 1 + 1 + 1 + 1, l ++ [(⟨w, min b 1048576⟩ : SB)], n) ⟨hs4.less (by omega), by omega, by simp <;> omega, by unfold headN; rw [if_neg (by simp)]; exact hT⟩ (by show L.length - (i + 1 + 1 + 1 + 1) < L.length - i; omega) (sR [(0, 0), (2, 2), (3, 3), (6, 4), (1, 1)])
    ·have hl : l ≠ [] := fun e => hgo (.inl e)
     have hnv : namedV L i = false := by simpa using fun e => hgo (.inr e)
     rw [hnv] at hnm
     unfold headN at hT
     rw [if_neg hl] at hT
     replace hT := pureT (atnB hT hnv)
     have hl0 : l.length ≠ 0 := fun e => hl (List.eq_nil_of_length_eq_zero e)
     repeat' (first | refine ex_is l.length (by simp) ?_ | refine qg1 ?_ | refine eD ?_ ?_ <;> intro)
     refine sC (CallsM.ren (hnm) [0, 1] 5 rfl rfl rfl rfl) ?_
     repeat' (first | refine qgs ?_ | refine eD ?_ ?_ <;> intro)
     have hcon := take_c (m := m) ⟨i, xs, ts⟩ hs.i (by omega) t_rcur
     rcases hx158 : (takeM L t_rcur) ⟨i, xs, ts⟩ with ⟨_, s9⟩ | ⟨i9, e9⟩
     rotate_left
     ·obtain rfl := (and_err hx158).symm.trans hT
      refine sC (CallsM.ren (hcon.err hx158) [0, 1] 5 rfl rfl rfl rfl) ?_
      first | exact ⟨⟨_, rfl, rfl⟩, rfl, rfl⟩ | exact ⟨by kernel_rfl, ⟨_, rfl, rfl⟩, rfl, rfl⟩
     replace hT := (and_ok hx158).symm.trans hT
     refine sC (CallsM.ren (hcon.ok hx158) [0, 1] 5 rfl rfl rfl rfl) ?_
     clear hcon
     have hs1 := (Up.ok (Up.take hL t_rcur 0) hs hx158).1
     obtain rfl := mv_take1 hx158
     obtain rfl : PR.ok (⟨[], -1, 0, [], [], -1, z, lt, l⟩ : IT) ⟨i + 1, xs, ts⟩ = T := hT
     repeat' (first | refine qgs ?_ | refine eD ?_ ?_ <;> intro)
     exact ⟨rfl, TLe.rfl, rfl, rfl⟩
  ·rw [if_neg hk] at hT
   obtain rfl : PR.err (i + 1) 4 = T := hT
   repeat' (first | refine ex_call hq ?_ | refine qg1 ?_ | refine eD ?_ ?_ <;> intro)
   refine sC (CallsM.ren (ha) [0, 1] 4 rfl rfl rfl rfl) ?_
   repeat' (first | refine qgs ?_ | refine eD ?_ ?_ <;> intro)
   refine sC (CallsM.ren ((fail_c (m := m) (i + 1) 4 hs1.lt)) [0, 1] 4 rfl rfl rfl rfl) ?_
   exact ⟨⟨_, rfl, rfl⟩, rfl, rfl⟩
end
end Go.Proofs.YtoingpafcodojaaGreatDoor

namespace Go.Proofs.YtoingpafcodojaaGreatDoor
open Go.RowKit

section
variable {L : List TokP} {m : Nat}
def Mv {α : Type} (x : PM α) : Prop := ∀ s v s', x s = .ok v s' → s.xs = s'.xs ∧ s.ts = s'.ts
theorem Mv.and {α β : Type} {x : PM α} {f : α → PM β} (hx : Mv x) (hf : ∀ v, Mv (f v)) : Mv (x >>= f) := fun s v s' h => by
 obtain ⟨u, s1, h1, h2⟩ := mo_inv h
 exact ⟨(hx _ _ _ h1).1.trans (hf u _ _ _ h2).1, (hx _ _ _ h1).2.trans (hf u _ _ _ h2).2⟩
theorem Mv.at {α : Type} {p : Nat → Bool} {x y : PM α} (hx : Mv x) (hy : Mv y) : Mv (atM p x y) := fun s v s' h => by
 unfold atM at h
 split at h
 ·exact hx _ _ _ h
 ·exact hy _ _ _ h
theorem Mv.pure {α : Type} (v : α) : Mv (pure v) := fun s u s' h => by cases h; exact ⟨rfl, rfl⟩
theorem Mv.step : Mv stepM := fun s u s' h => by cases h; exact ⟨rfl, rfl⟩
theorem Mv.take (t : List UInt8) : Mv (takeM L t) := fun s v s' h => by unfold takeM at h; split at h <;> cases h; exact ⟨rfl, rfl⟩
theorem Mv.name : Mv (nameM L) := fun s v s' h => by unfold nameM at h; split at h <;> cases h; exact ⟨rfl, rfl⟩
theorem Mv.num : Mv (numberM L) := fun s v s' h => by unfold numberM at h; split at h <;> cases h; exact ⟨rfl, rfl⟩
theorem Mv.roomIf (p : Nat → Bool) (n : Nat) : Mv (fun s => if p s.i = true then roomM n s else .ok () s) := fun s u s' h => by
 dsimp only at h
 split at h
 ·unfold roomM at h; split at h <;> cases h; exact ⟨rfl, rfl⟩
 ·cases h; exact ⟨rfl, rfl⟩
theorem mvs_subs : ∀ n l, Mv (subsN L n l)
 | 0, l => Mv.pure _
 | n + 1, l => by
  rw [subsN]
  exact (Mv.roomIf (namedV L ·) _).and fun _ => Mv.name.and fun w => (Mv.take _).and fun _ => Mv.num.and fun b => (Mv.take _).and fun _ => Mv.at (mvs_subs n _) (Mv.pure _)
theorem mvs_pack : Mv (packM L) := (Mv.take _).and fun _ => fun s v s' h => by
 split at h
 ·cases h
 ·exact (Mv.step.and fun _ => (Mv.take _).and fun _ => (show Mv (fun s => subsN L (L.length - s.i + 1) [] s) from fun s v s' hx => mvs_subs _ _ s v s' hx).and fun l => (Mv.take _).and fun _ => Mv.pure _) _ _ _ h
theorem mv_pack {i i1 : Nat} {xs xs1 : List EX} {ts ts1 : List TY} {v : IT} (h : packM L ⟨i, xs, ts⟩ = .ok v ⟨i1, xs1, ts1⟩) : xs = xs1 ∧ ts = ts1 := mvs_pack _ _ _ h
theorem mvs_const : Mv (constM L) := (Mv.take _).and fun _ => Mv.name.and fun w => (Mv.take _).and fun _ => Mv.num.and fun n => (Mv.take _).and fun _ => Mv.pure _
theorem mv_const {i i1 : Nat} {xs xs1 : List EX} {ts ts1 : List TY} {v : CO} (h : constM L ⟨i, xs, ts⟩ = .ok v ⟨i1, xs1, ts1⟩) : xs = xs1 ∧ ts = ts1 := mvs_const _ _ _ h
set_option maxHeartbeats 16000000 in
theorem record_c (hL : TokOk L) (hn : L.length ≤ 100000) (hm : m = 32) (s : PS) {c : Nat} (hs : SOk L c s) : C2 L m 41 [] (recordM L) (fun v => .o (gD (rcD v))) s := by
 refine C2.of fun T hT => ?_
 unfold recordM at hT
 obtain ⟨i, xs, ts⟩ := s
 refine fn_ruleP (C := ⟨Tryz.prog, layF, Tryz.f41.ntmps, ΓL, 6, [], [10]⟩) layF_ok mixed Tryz.func41 rfl (by kernel_rfl) rfl rfl rfl SLe.rfl ?_
 repeat' (first | refine qgs ?_ | refine eD ?_ ?_ <;> intro)
 have hcon := take_c (m := m) ⟨i, xs, ts⟩ hs.i (by omega) w_struct
 rcases hx47 : (takeM L w_struct) ⟨i, xs, ts⟩ with ⟨_, s9⟩ | ⟨i9, e9⟩
 rotate_left
 ·obtain rfl := (and_err hx47).symm.trans hT
  refine sC (CallsM.ren (hcon.err hx47) [0, 1] 7 rfl rfl rfl rfl) ?_
  first | exact ⟨⟨_, rfl, rfl⟩, rfl, rfl⟩ | exact ⟨by kernel_rfl, ⟨_, rfl, rfl⟩, rfl, rfl⟩
 replace hT := (and_ok hx47).symm.trans hT
 refine sC (CallsM.ren (hcon.ok hx47) [0, 1] 7 rfl rfl rfl rfl) ?_
 clear hcon
 have hs1 := (Up.ok (Up.take hL w_struct 0) hs hx47).1
 obtain rfl := mv_take1 hx47
 repeat' (first | refine qgs ?_ | refine eD ?_ ?_ <;> intro)
 have hcon := name_c (m := m) ⟨i + 1, xs, ts⟩ hs1.i (by omega)
 rcases hx49 : (nameM L) ⟨i + 1, xs, ts⟩ with ⟨w, s9⟩ | ⟨i9, e9⟩
 rotate_left
 ·obtain rfl := (and_err hx49).symm.trans hT
  refine sC (CallsM.ren (hcon.err hx49) [0, 1] 7 rfl rfl rfl rfl) ?_
  first | exact ⟨⟨_, rfl, rfl⟩, rfl, rfl⟩ | exact ⟨by kernel_rfl, ⟨_, rfl, rfl⟩, rfl, rfl⟩
 replace hT := (and_ok hx49).symm.trans hT
 refine sC (CallsM.ren (hcon.ok hx49) [0, 1] 7 rfl rfl rfl rfl) ?_
 clear hcon
 have hs2 := (Up.ok (Up.name hL 0) hs1 hx49).1
 obtain rfl := mv_name1 hx49
 repeat' (first | refine qgs ?_ | refine eD ?_ ?_ <;> intro)
 refine ex_join (X := Nat × List (List UInt8)) (fun ⟨i, ps⟩ => ⟨[(0, .o P0), (2, .o (.c (.ptr 6 0))), (3, .o (.c (.ptr 7 0)))], [(0, Qz L m i), (1, Fz 2 3 4 5), (4, Xz xs), (5, Tz ts), (6, .obj [.d (ds ⟨#[]⟩), .d dnil, .d dnil]), (7, .obj [.d (ds (bs w)), .row 9, .d dnil]), (9, .row 1 9 (ps.map fun p => [ds (bs p)]))], 10⟩)
  (fun ⟨i, ps⟩ => SOk L c ⟨i, xs, ts⟩ ∧ (takeM L t_lcur >>= fun _ => (fun s => itemsN L (L.length - s.i + 1) [] s) >>= fun is => takeM L t_rcur >>= fun _ => pure (⟨w, ps, is⟩ : RC)) ⟨i, xs, ts⟩ = T) ?_ ?_
 ·rcases hv : isV L (i + 1 + 1) t_lpar with _ | _
  ·replace hT := pureT (atnB hT hv)
   refine sC (CallsM.ren ((may_no (i + 1 + 1) hs2.lt _ hv)) [0, 1] 8 rfl rfl rfl rfl) ?_
   repeat' (first | refine qgs ?_ | refine eD ?_ ?_ <;> intro)
   exact ex_meet (i + 1 + 1, []) ⟨hs2.less (by omega), hT⟩ (SLe.trans sS (SLe.ownCell 7 1 9 1 9 rfl rfl rfl rfl rfl rfl))
  ·replace hT := asc (stp1 (asc (atyB hT hv)))
   have hs3 := stpS hL hs2 (isV_k hv)
   have hi3 := hs3.lt
   refine sC (CallsM.ren ((may_yes (i + 1 + 1) hs2.lt (by omega) _ hv)) [0, 1] 8 rfl rfl rfl rfl) ?_
   repeat' (first | refine qgs ?_ | refine eD ?_ ?_ <;> intro)
   have hcon := name_c (m := m) ⟨i + 1 + 1 + 1, xs, ts⟩ hs3.i (by omega)
   rcases hx63 : (nameM L) ⟨i + 1 + 1 + 1, xs, ts⟩ with ⟨p, s9⟩ | ⟨i9, e9⟩
   rotate_left
   ·obtain rfl := (and_err hx63).symm.trans hT
    refine sC (CallsM.ren (hcon.err hx63) [0, 1] 8 rfl rfl rfl rfl) ?_
    first | exact ⟨⟨_, rfl, rfl⟩, rfl, rfl⟩ | exact ⟨by kernel_rfl, ⟨_, rfl, rfl⟩, rfl, rfl⟩
   replace hT := (and_ok hx63).symm.trans hT
   refine sC (CallsM.ren (hcon.ok hx63) [0, 1] 8 rfl rfl rfl rfl) ?_
   clear hcon
   have hs4 := (Up.ok (Up.name hL 0) hs3 hx63).1
   obtain rfl := mv_name1 hx63
   have hi4 := hs4.lt
   repeat' (first | refine qgs ?_ | refine eD ?_ ?_ <;> intro)
   refine ex_app (0) (1) 1000 (by first | rfl | (simp; done) | (simp; omega)) (by first | rfl | (simp; done) | (simp; omega)) rfl (by omega) ?_
   refine ex_is (List.map (fun p : List UInt8 => [ds (bs p)]) [p]) (rfl) ?_
   repeat' (first | refine qgs ?_ | refine eD ?_ ?_ <;> intro)
   replace hT := asc hT
   replace hT : (parsN L (L.length - (i + 1 + 1 + 1 + 1) + 1) [p] >>= fun l => (takeM L t_rpar >>= fun _ => pure l) >>= fun ps => takeM L t_lcur >>= fun _ => (fun s => itemsN L (L.length - s.i + 1) [] s) >>= fun is => takeM L t_rcur >>= fun _ => pure (⟨w, ps, is⟩ : RC)) ⟨i + 1 + 1 + 1 + 1, xs, ts⟩ = T := hT
   refine ex_loop (X := Nat × List (List UInt8) × Nat) (fun ⟨i, ps, _⟩ => ⟨[(0, .o P0), (2, .o (.c (.ptr 6 0))), (3, .o (.c (.ptr 7 0)))], [(0, Qz L m i), (1, Fz 2 3 4 5), (4, Xz xs), (5, Tz ts), (6, .obj [.d (ds ⟨#[]⟩), .d dnil, .d dnil]), (7, .obj [.d (ds (bs w)), .row 9, .d dnil]), (9, .row 1 9 (ps.map fun p => [ds (bs p)]))], 10⟩) (fun y => L.length - y.1)
    (fun ⟨i, l, n⟩ => SOk L c ⟨i, xs, ts⟩ ∧ L.length < i + n ∧ l.length ≤ i ∧ (parsN L n l >>= fun l => (takeM L t_rpar >>= fun _ => pure l) >>= fun ps => takeM L t_lcur >>= fun _ => (fun s => itemsN L (L.length - s.i + 1) [] s) >>= fun is => takeM L t_rcur >>= fun _ => pure (⟨w, ps, is⟩ : RC)) ⟨i, xs, ts⟩ = T) (i + 1 + 1 + 1 + 1, [p], L.length - (i + 1 + 1 + 1 + 1) + 1) ⟨hs4.less (by omega), by omega, by simp, hT⟩ sS ?_
   clear hT hs4 hs3 hs2 hs1 hs hi3 hi4
   rintro ⟨i, l, n⟩ ⟨hs, hf, hll, hT⟩
   have hi := hs.lt
   cases n with
   | zero => omega
   | succ n =>
    rw [parsN] at hT
    rcases hv : isV L i t_comma with _ | _
    ·replace hT := atnB hT hv
     replace hT := pureT hT
     replace hT := asc hT
     refine sC (CallsM.ren ((may_no i hi _ hv)) [0, 1] 10 rfl rfl rfl rfl) ?_
     repeat' (first | refine qgs ?_ | refine eD ?_ ?_ <;> intro)
     have hcon := take_c (m := m) ⟨i, xs, ts⟩ hs.i (by omega) t_rpar
     rcases hx86 : (takeM L t_rpar) ⟨i, xs, ts⟩ with ⟨_, s9⟩ | ⟨i9, e9⟩
     rotate_left
     ·obtain rfl := (and_err hx86).symm.trans hT
      refine sC (CallsM.ren (hcon.err hx86) [0, 1] 10 rfl rfl rfl rfl) ?_
      first | exact ⟨⟨_, rfl, rfl⟩, rfl, rfl⟩ | exact ⟨by kernel_rfl, ⟨_, rfl, rfl⟩, rfl, rfl⟩
     replace hT := (and_ok hx86).symm.trans hT
     refine sC (CallsM.ren (hcon.ok hx86) [0, 1] 10 rfl rfl rfl rfl) ?_
     clear hcon
     have hs1 := (Up.ok (Up.take hL t_rpar 0) hs hx86).1
     obtain rfl := mv_take1 hx86
     replace hT := pureT hT
     repeat' (first | refine qgs ?_ | refine eD ?_ ?_ <;> intro)
     exact ex_meet (i + 1, l) ⟨hs1.less (by omega), hT⟩ sS
    ·replace hT := asc (stp1 (asc (atyB hT hv)))
     have hs1 := stpS hL hs (isV_k hv)
     have hnm := named_c (m := m) (i + 1) hs1.lt
     refine sC (CallsM.ren ((may_yes i hi (by omega) _ hv)) [0, 1] 10 rfl rfl rfl rfl) ?_
     repeat' (first | refine qgs ?_ | refine eD ?_ ?_ <;> intro)
     rcases hb : namedV L (i + 1) with _ | _ <;> rw [hb] at hnm
     ·replace hT := asc (rmF hT hb)
      refine sC (CallsM.ren (hnm) [0, 1] 10 rfl rfl rfl rfl) ?_
      repeat' (first | refine qgs ?_ | refine eD ?_ ?_ <;> intro)
      have hcon := name_c (m := m) ⟨i + 1, xs, ts⟩ hs1.i (by omega)
      rcases hx99 : (nameM L) ⟨i + 1, xs, ts⟩ with ⟨p, s9⟩ | ⟨i9, e9⟩
      rotate_left
      ·obtain rfl := (and_err hx99).symm.trans hT
       refine sC (CallsM.ren (hcon.err hx99) [0, 1] 10 rfl rfl rfl rfl) ?_
       first | exact ⟨⟨_, rfl, rfl⟩, rfl, rfl⟩ | exact ⟨by kernel_rfl, ⟨_, rfl, rfl⟩, rfl, rfl⟩
      replace hT := (and_ok hx99).symm.trans hT
      refine sC (CallsM.ren (hcon.ok hx99) [0, 1] 10 rfl rfl rfl rfl) ?_
      clear hcon
      have hs2 := (Up.ok (Up.name hL 0) hs1 hx99).1
      obtain rfl := mv_name1 hx99
      have hi2 := hs2.lt
      repeat' (first | refine qgs ?_ | refine eD ?_ ?_ <;> intro)
      refine ex_app (l.length) (1) 1000 (by first | rfl | (simp; done) | (simp; omega)) (by first | rfl | (simp; done) | (simp; omega)) rfl (by omega) ?_
      refine ex_is (List.map (fun p : List UInt8 => [ds (bs p)]) (l ++ [p])) (by rw [List.map_append]; rfl) ?_
      repeat' (first | refine qgs ?_ | refine eD ?_ ?_ <;> intro)
      exact ex_round (i + 1 + 1, l ++ [p], n) ⟨hs2.less (by omega), by omega, by simp <;> omega, hT⟩ (by show L.length - (i + 1 + 1) < L.length - i; omega) (sR [(0, 0), (1, 1), (2, 2), (3, 3), (4, 4), (5, 5), (6, 6), (7, 7), (11, 9)])
     ·replace hT := rmT hT hb
      refine sC (CallsM.ren (hnm) [0, 1] 10 rfl rfl rfl rfl) ?_
      repeat' (first | refine ex_is l.length (by simp) ?_ | refine qg1 ?_ | refine eD ?_ ?_ <;> intro)
      have hcon := room_c (m := m) ⟨i + 1, xs, ts⟩ hs1.lt l.length (by omega)
      rcases hr : (roomM l.length) ⟨i + 1, xs, ts⟩ with ⟨_, s9⟩ | ⟨i9, e9⟩
      rotate_left
      ·obtain rfl := (and_err hr).symm.trans hT
       refine sC (CallsM.ren (hcon.err hr) [0, 1] 10 rfl rfl rfl rfl) ?_
       first | exact ⟨⟨_, rfl, rfl⟩, rfl, rfl⟩ | exact ⟨by kernel_rfl, ⟨_, rfl, rfl⟩, rfl, rfl⟩
      replace hT := (and_ok hr).symm.trans hT
      refine sC (CallsM.ren (hcon.ok hr) [0, 1] 10 rfl rfl rfl rfl) ?_
      clear hcon
      obtain rfl := mv_room1 hr
      replace hT := asc hT
      repeat' (first | refine qgs ?_ | refine eD ?_ ?_ <;> intro)
      have hcon := name_c (m := m) ⟨i + 1, xs, ts⟩ hs1.i (by omega)
      rcases hx112 : (nameM L) ⟨i + 1, xs, ts⟩ with ⟨p, s9⟩ | ⟨i9, e9⟩
      rotate_left
      ·obtain rfl := (and_err hx112).symm.trans hT
       refine sC (CallsM.ren (hcon.err hx112) [0, 1] 10 rfl rfl rfl rfl) ?_
       first | exact ⟨⟨_, rfl, rfl⟩, rfl, rfl⟩ | exact ⟨by kernel_rfl, ⟨_, rfl, rfl⟩, rfl, rfl⟩
      replace hT := (and_ok hx112).symm.trans hT
      refine sC (CallsM.ren (hcon.ok hx112) [0, 1] 10 rfl rfl rfl rfl) ?_
      clear hcon
      have hs2 := (Up.ok (Up.name hL 0) hs1 hx112).1
      obtain rfl := mv_name1 hx112
      have hi2 := hs2.lt
      repeat' (first | refine qgs ?_ | refine eD ?_ ?_ <;> intro)
      refine ex_app (l.length) (1) 1000 (by first | rfl | (simp; done) | (simp; omega)) (by first | rfl | (simp; done) | (simp; omega)) rfl (by omega) ?_
      refine ex_is (List.map (fun p : List UInt8 => [ds (bs p)]) (l ++ [p])) (by rw [List.map_append]; rfl) ?_
      repeat' (first | refine qgs ?_ | refine eD ?_ ?_ <;> intro)
      exact ex_round (i + 1 + 1, l ++ [p], n) ⟨hs2.less (by omega), by omega, by simp <;> omega, hT⟩ (by show L.length - (i + 1 + 1) < L.length - i; omega) (sR [(0, 0), (1, 1), (2, 2), (3, 3), (4, 4), (5, 5), (6, 6), (7, 7), (11, 9)])
 ·clear hT hs2 hs1 hs
  rintro ⟨i, ps⟩ ⟨hs, hT⟩
  repeat' (first | refine qgs ?_ | refine eD ?_ ?_ <;> intro)
  have hcon := take_c (m := m) ⟨i, xs, ts⟩ hs.i (by omega) t_lcur
  rcases hx122 : (takeM L t_lcur) ⟨i, xs, ts⟩ with ⟨_, s9⟩ | ⟨i9, e9⟩
  rotate_left
  ·obtain rfl := (and_err hx122).symm.trans hT
   refine sC (CallsM.ren (hcon.err hx122) [0, 1] 10 rfl rfl rfl rfl) ?_
   first | exact ⟨⟨_, rfl, rfl⟩, rfl, rfl⟩ | exact ⟨by kernel_rfl, ⟨_, rfl, rfl⟩, rfl, rfl⟩
  replace hT := (and_ok hx122).symm.trans hT
  refine sC (CallsM.ren (hcon.ok hx122) [0, 1] 10 rfl rfl rfl rfl) ?_
  clear hcon
  have hs1 := (Up.ok (Up.take hL t_lcur 0) hs hx122).1
  obtain rfl := mv_take1 hx122
  repeat' (first | refine qgs ?_ | refine eD ?_ ?_ <;> intro)
  replace hT : (itemsN L (L.length - (i + 1) + 1) [] >>= fun is => takeM L t_rcur >>= fun _ => pure (⟨w, ps, is⟩ : RC)) ⟨i + 1, xs, ts⟩ = T := hT
  refine ex_loop (X := Nat × List EX × List TY × List IT × Nat) (fun ⟨i, xs, ts, l, _⟩ => ⟨[(0, .o P0), (2, .o (.c (.ptr 6 0))), (3, .o (.c (.ptr 7 0)))], [(5, .dead), (4, .dead), (0, Qz L m i), (1, Fz 2 3 11 12), (6, .obj [.d (ds ⟨#[]⟩), .d dnil, .d dnil]), (7, .obj [.d (ds (bs w)), .row 9, .row 10]), (9, .row 1 9 (ps.map fun p => [ds (bs p)])), (10, .row 9 177 (l.map itD)), (11, Xz xs), (12, Tz ts)], 13⟩) (fun y => L.length - y.1)
   (fun ⟨i, xs, ts, l, n⟩ => SOk L 0 ⟨i, xs, ts⟩ ∧ L.length < i + n ∧ l.length ≤ i ∧ (itemsN L n l >>= fun is => takeM L t_rcur >>= fun _ => pure (⟨w, ps, is⟩ : RC)) ⟨i, xs, ts⟩ = T) (i + 1, xs, ts, [], L.length - (i + 1) + 1) ⟨hs1.less (by omega), by omega, Nat.zero_le _, hT⟩
   (SLe.kill (nx := 13) 5 (SLe.kill (nx := 13) 4 (SLe.via (SLe.ownCell 7 2 10 9 177 rfl rfl rfl rfl rfl rfl) (sR [(0, 0), (1, 1), (2, 2), (3, 3), (6, 6), (7, 7), (9, 9), (10, 10), (4, 11), (5, 12)])))) ?_
  clear hT hs1 hs
  rintro ⟨i, xs, ts, l, n⟩ ⟨hs, hf, hll, hT⟩
  have hi := hs.lt
  have hpk := is_c (m := m) i hi w_pack
  have hnm := named_c (m := m) i hi
  cases n with
  | zero => omega
  | succ n =>
   rw [itemsN] at hT
   rcases hv : isV L i w_pack with _ | _ <;> rw [hv] at hpk
   ·rcases hv2 : namedV L i with _ | _ <;> rw [hv2] at hnm
    ·replace hT := pureT (atnB hT (by rw [hv, hv2]; rfl))
     refine sC (CallsM.ren (hpk) [0, 1] 13 rfl rfl rfl rfl) ?_
     repeat' (first | refine qgs ?_ | refine eD ?_ ?_ <;> intro)
     refine sC (CallsM.ren (hnm) [0, 1] 13 rfl rfl rfl rfl) ?_
     repeat' (first | refine qgs ?_ | refine eD ?_ ?_ <;> intro)
     have hcon := take_c (m := m) ⟨i, xs, ts⟩ hs.i (by omega) t_rcur
     rcases hx144 : (takeM L t_rcur) ⟨i, xs, ts⟩ with ⟨_, s9⟩ | ⟨i9, e9⟩
     rotate_left
     ·obtain rfl := (and_err hx144).symm.trans hT
      refine sC (CallsM.ren (hcon.err hx144) [0, 1] 13 rfl rfl rfl rfl) ?_
      first | exact ⟨⟨_, rfl, rfl⟩, rfl, rfl⟩ | exact ⟨by kernel_rfl, ⟨_, rfl, rfl⟩, rfl, rfl⟩
     replace hT := (and_ok hx144).symm.trans hT
     refine sC (CallsM.ren (hcon.ok hx144) [0, 1] 13 rfl rfl rfl rfl) ?_
     clear hcon
     have hs1 := (Up.ok (Up.take hL t_rcur 0) hs hx144).1
     obtain rfl := mv_take1 hx144
     obtain rfl : PR.ok (⟨w, ps, l⟩ : RC) ⟨i + 1, xs, ts⟩ = T := hT
     repeat' (first | refine qgs ?_ | refine eD ?_ ?_ <;> intro)
     exact ⟨rfl, TLe.rfl, rfl, rfl⟩
    ·replace hT := asc (atyB hT (by rw [hv, hv2]; rfl))
     refine sC (CallsM.ren (hpk) [0, 1] 13 rfl rfl rfl rfl) ?_
     repeat' (first | refine qgs ?_ | refine eD ?_ ?_ <;> intro)
     refine sC (CallsM.ren (hnm) [0, 1] 13 rfl rfl rfl rfl) ?_
     repeat' (first | refine ex_is l.length (by simp) ?_ | refine qg1 ?_ | refine eD ?_ ?_ <;> intro)
     have hcon := room_c (m := m) ⟨i, xs, ts⟩ hi l.length (by omega)
     rcases hr : (roomM l.length) ⟨i, xs, ts⟩ with ⟨_, s9⟩ | ⟨i9, e9⟩
     rotate_left
     ·obtain rfl := (and_err hr).symm.trans hT
      refine sC (CallsM.ren (hcon.err hr) [0, 1] 13 rfl rfl rfl rfl) ?_
      first | exact ⟨⟨_, rfl, rfl⟩, rfl, rfl⟩ | exact ⟨by kernel_rfl, ⟨_, rfl, rfl⟩, rfl, rfl⟩
     replace hT := (and_ok hr).symm.trans hT
     refine sC (CallsM.ren (hcon.ok hr) [0, 1] 13 rfl rfl rfl rfl) ?_
     clear hcon
     obtain rfl := mv_room1 hr
     replace hT := atnB (asc hT) hv
     repeat' (first | refine qgs ?_ | refine eD ?_ ?_ <;> intro)
     refine sC (CallsM.ren (hpk) [0, 1] 13 rfl rfl rfl rfl) ?_
     repeat' (first | refine qgs ?_ | refine eD ?_ ?_ <;> intro)
     have hcon := field_c hL hn hm ⟨i, xs, ts⟩ hs
     rcases hx : (fieldM L) ⟨i, xs, ts⟩ with ⟨x, ⟨i2, xs2, ts2⟩⟩ | ⟨i9, e9⟩
     rotate_left
     ·obtain rfl := (and_err hx).symm.trans hT
      refine sC (CallsM.ren (hcon.err hx) [0, 1, 2, 3, 11, 12] 13 rfl rfl rfl rfl) ?_
      first | exact ⟨⟨_, rfl, rfl⟩, rfl, rfl⟩ | exact ⟨by kernel_rfl, ⟨_, rfl, rfl⟩, rfl, rfl⟩
     replace hT := (and_ok hx).symm.trans hT
     refine sC (CallsM.ren (hcon.ok hx) [0, 1, 2, 3, 11, 12] 13 rfl rfl rfl rfl) ?_
     clear hcon
     have hs2 := (Up.ok (up_field hL) hs hx).1
     have hgo : i < i2 := mo_field _ _ _ hx
     repeat' (first | refine qgs ?_ | refine eD ?_ ?_ <;> intro)
     refine ex_app (l.length) (1) 1000 (by first | rfl | (simp; done) | (simp; omega)) (by first | rfl | (simp; done) | (simp; omega)) rfl (by omega) ?_
     refine ex_is (List.map itD (l ++ [x])) (by rw [List.map_append]; rfl) ?_
     repeat' (first | refine qgs ?_ | refine eD ?_ ?_ <;> intro)
     exact ex_round (i2, xs2, ts2, l ++ [x], n) ⟨hs2, by omega, by simp <;> omega, hT⟩ (by show L.length - i2 < L.length - i; omega) (sR [(0, 0), (1, 1), (2, 2), (3, 3), (4, 4), (5, 5), (6, 6), (7, 7), (9, 9), (13, 11), (14, 12), (16, 10)])
   ·replace hT := asc (atyB hT (by rw [hv]; rfl))
    refine sC (CallsM.ren (hpk) [0, 1] 13 rfl rfl rfl rfl) ?_
    repeat' (first | refine ex_is l.length (by simp) ?_ | refine qg1 ?_ | refine eD ?_ ?_ <;> intro)
    have hcon := room_c (m := m) ⟨i, xs, ts⟩ hi l.length (by omega)
    rcases hr : (roomM l.length) ⟨i, xs, ts⟩ with ⟨_, s9⟩ | ⟨i9, e9⟩
    rotate_left
    ·obtain rfl := (and_err hr).symm.trans hT
     refine sC (CallsM.ren (hcon.err hr) [0, 1] 13 rfl rfl rfl rfl) ?_
     first | exact ⟨⟨_, rfl, rfl⟩, rfl, rfl⟩ | exact ⟨by kernel_rfl, ⟨_, rfl, rfl⟩, rfl, rfl⟩
    replace hT := (and_ok hr).symm.trans hT
    refine sC (CallsM.ren (hcon.ok hr) [0, 1] 13 rfl rfl rfl rfl) ?_
    clear hcon
    obtain rfl := mv_room1 hr
    replace hT := atyB (asc hT) hv
    repeat' (first | refine qgs ?_ | refine eD ?_ ?_ <;> intro)
    refine sC (CallsM.ren (hpk) [0, 1] 13 rfl rfl rfl rfl) ?_
    repeat' (first | refine qgs ?_ | refine eD ?_ ?_ <;> intro)
    have hcon := pack_c (m := m) hL hn ⟨i, xs, ts⟩ hs
    rcases hx : (packM L) ⟨i, xs, ts⟩ with ⟨x, ⟨i2, xs2, ts2⟩⟩ | ⟨i9, e9⟩
    rotate_left
    ·obtain rfl := (and_err hx).symm.trans hT
     refine sC (CallsM.ren (hcon.err hx) [0, 1] 13 rfl rfl rfl rfl) ?_
     first | exact ⟨⟨_, rfl, rfl⟩, rfl, rfl⟩ | exact ⟨by kernel_rfl, ⟨_, rfl, rfl⟩, rfl, rfl⟩
    replace hT := (and_ok hx).symm.trans hT
    refine sC (CallsM.ren (hcon.ok hx) [0, 1] 13 rfl rfl rfl rfl) ?_
    clear hcon
    have hs2 := (Up.ok (up_pack hL) hs hx).1
    have hgo : i < i2 := mo_pack _ _ _ hx
    obtain ⟨rfl, rfl⟩ := mv_pack hx
    repeat' (first | refine qgs ?_ | refine eD ?_ ?_ <;> intro)
    refine ex_app (l.length) (1) 1000 (by first | rfl | (simp; done) | (simp; omega)) (by first | rfl | (simp; done) | (simp; omega)) rfl (by omega) ?_
    refine ex_is (List.map itD (l ++ [x])) (by rw [List.map_append]; rfl) ?_
    repeat' (first | refine qgs ?_ | refine eD ?_ ?_ <;> intro)
    exact ex_round (i2, xs, ts, l ++ [x], n) ⟨hs2, by omega, by simp <;> omega, hT⟩ (by show L.length - i2 < L.length - i; omega) (sR [(0, 0), (1, 1), (2, 2), (3, 3), (4, 4), (5, 5), (6, 6), (7, 7), (9, 9), (11, 11), (12, 12), (14, 10)])
end
end Go.Proofs.YtoingpafcodojaaGreatDoor

namespace Go.Proofs.YtoingpafcodojaaGreatDoor
open Go.RowKit

section
variable {P : Program} {Γ : Glob} {f : FuncId} {nx : Nat} {xs : List T1} {r : TV} {upd : List (Nat × Blk)} {new : List Blk} {a b c d e g : Nat × Blk} {m : List (Nat × Blk)}
theorem CallsM.moreW (h : CallsM P Γ f [a, b, e, g] nx xs r upd new) : CallsM P Γ f [a, b, c, d, e, g] nx xs r upd new := h.more fun p hp => by
 simp only [List.mem_cons, List.not_mem_nil, or_false] at hp ⊢; rcases hp with hp | hp | hp | hp <;> simp [hp]
end
abbrev Cz (l : List CO) : Blk := .row 2 82 (l.map coD)
abbrev Uz (l : List RC) : Blk := .row 3 146 (l.map rcD)
def PR.uW (L : List TokP) (m : Nat) : PR (List CO × List RC) → List (Nat × Blk)
 | .ok _ s => [(0, Qz L m s.i), (1, Fz 6 7 8 9), (2, .dead), (3, .dead), (4, .dead), (5, .dead)]
 | .err _ _ => [(0, .dead), (1, .dead), (2, .dead), (3, .dead), (4, .dead), (5, .dead)]
def PR.nW : PR (List CO × List RC) → List Blk
 | .ok v s => [Cz v.1, Uz v.2, Xz s.xs, Tz s.ts]
 | .err _ _ => []
theorem ex_pan {P : Program} {Γ : Glob} {f : FuncId} {m : List (Nat × Blk)} {nx : Nat} {xs : List T1} {r : TV} {upd : List (Nat × Blk)} {new : List Blk} (Q : Prop) (h : CallsM P Γ f m nx xs r upd new) {K : TV → List (Nat × Blk) → List Blk → Prop} (e : K r upd new = Q) (hq : Q) : ∃ r upd new, CallsM P Γ f m nx xs r upd new ∧ K r upd new := ⟨r, upd, new, h, e.mpr hq⟩
section
variable {L : List TokP} {m : Nat}
set_option maxHeartbeats 16000000 in
theorem whole_c (hL : TokOk L) (hn : L.length ≤ 100000) (hm : m = 32) (i n0 : Nat) (xs : List EX) (ts : List TY) (cs : List CO) (rs : List RC) (hs : SOk L 0 ⟨i, xs, ts⟩) (hf : L.length < i + n0) (hcl : cs.length ≤ i) (hrl : rs.length ≤ i) (T : PR (List CO × List RC)) (hT : wholeN L n0 cs rs ⟨i, xs, ts⟩ = T) :
  CallsM Tryz.prog ΓL 21 [(0, Qz L m i), (1, Fz 2 3 4 5), (2, Cz cs), (3, Uz rs), (4, Xz xs), (5, Tz ts)] 6 [P0] (T.tv L fun _ => .tup []) (T.uW L m) T.nW := by
 refine fn_ruleP (C := ⟨Tryz.prog, layF, Tryz.f21.ntmps, ΓL, 6, [], []⟩) layF_ok mixed Tryz.func21 rfl (by kernel_rfl) rfl rfl rfl SLe.rfl ?_
 repeat' (first | refine qgs ?_ | refine eD ?_ ?_ <;> intro)
 refine ex_loop (X := Nat × List EX × List TY × List CO × List RC × Nat) (fun ⟨i, xs, ts, cs, rs, _⟩ => ⟨[(0, .o P0)], [(5, .dead), (4, .dead), (3, .dead), (2, .dead), (0, Qz L m i), (1, Fz 6 7 8 9), (6, Cz cs), (7, Uz rs), (8, Xz xs), (9, Tz ts)], 10⟩) (fun y => L.length - y.1)
  (fun ⟨i, xs, ts, cs, rs, n⟩ => SOk L 0 ⟨i, xs, ts⟩ ∧ L.length < i + n ∧ cs.length ≤ i ∧ rs.length ≤ i ∧ wholeN L n cs rs ⟨i, xs, ts⟩ = T) (i, xs, ts, cs, rs, n0) ⟨hs, hf, hcl, hrl, hT⟩
  (SLe.kill (nx := 10) 5 (SLe.kill (nx := 10) 4 (SLe.kill (nx := 10) 3 (SLe.kill (nx := 10) 2 (sR [(0, 0), (1, 1), (2, 6), (3, 7), (4, 8), (5, 9)]))))) ?_
 clear hT hf hcl hrl hs
 rintro ⟨i, xs, ts, cs, rs, n⟩ ⟨hs, hf, hcl, hrl, hT⟩
 have hi := hs.lt
 have hic := is_c (m := m) i hi w_const
 have hir := is_c (m := m) i hi w_struct
 cases n with
 | zero => omega
 | succ n =>
  rw [wholeN] at hT
  rcases hv : isV L i w_const with _ | _ <;> rw [hv] at hic
  ·replace hT := atn hT hv
   rcases hv2 : isV L i w_struct with _ | _ <;> rw [hv2] at hir
   ·replace hT := atn hT hv2
    have ha := ahead_c (L := L) (m := m) i hi
    by_cases hk : (tk L i).k = 3
    ·obtain rfl : PR.ok (cs, rs) ⟨i, xs, ts⟩ = T := aty hT (by rw [hk]; rfl)
     generalize tk L i = u at *
     refine sC (CallsM.ren (hic) [0, 1] 10 rfl rfl rfl rfl) ?_
     repeat' (first | refine qgs ?_ | refine eD ?_ ?_ <;> intro)
     refine sC (CallsM.ren (hir) [0, 1] 10 rfl rfl rfl rfl) ?_
     repeat' (first | refine qgs ?_ | refine eD ?_ ?_ <;> intro)
     refine sC (CallsM.ren (ha) [0, 1] 10 rfl rfl rfl rfl) ?_
     repeat' (first | refine qgs ?_ | refine eD ?_ ?_ <;> intro)
     exact ⟨rfl, TLe.rfl, rfl, rfl⟩
    ·obtain rfl : PR.err i 4 = T := atn hT (by simp [hk])
     have hfl := fail_c (m := m) i 4 hi
     generalize tk L i = u at *
     refine sC (CallsM.ren (hic) [0, 1] 10 rfl rfl rfl rfl) ?_
     repeat' (first | refine qgs ?_ | refine eD ?_ ?_ <;> intro)
     refine sC (CallsM.ren (hir) [0, 1] 10 rfl rfl rfl rfl) ?_
     repeat' (first | refine qgs ?_ | refine eD ?_ ?_ <;> intro)
     refine sC (CallsM.ren (ha) [0, 1] 10 rfl rfl rfl rfl) ?_
     repeat' (first | refine qgs ?_ | refine eD ?_ ?_ <;> intro)
     refine sC (CallsM.ren ((fail_c (m := m) i 4 hi)) [0, 1] 10 rfl rfl rfl rfl) ?_
     exact ⟨⟨_, rfl, rfl⟩, rfl, rfl⟩
   ·replace hT := aty hT hv2
    refine sC (CallsM.ren (hic) [0, 1] 10 rfl rfl rfl rfl) ?_
    repeat' (first | refine qgs ?_ | refine eD ?_ ?_ <;> intro)
    refine sC (CallsM.ren (hir) [0, 1] 10 rfl rfl rfl rfl) ?_
    repeat' (first | refine ex_is rs.length (by simp) ?_ | refine qg1 ?_ | refine eD ?_ ?_ <;> intro)
    have hcon := room_c (m := m) ⟨i, xs, ts⟩ hi rs.length (by omega)
    rcases hr : (roomM rs.length) ⟨i, xs, ts⟩ with ⟨_, s9⟩ | ⟨i9, e9⟩
    rotate_left
    ·obtain rfl := (and_err hr).symm.trans hT
     refine sC (CallsM.ren (hcon.err hr) [0, 1] 10 rfl rfl rfl rfl) ?_
     first | exact ⟨⟨_, rfl, rfl⟩, rfl, rfl⟩ | exact ⟨by kernel_rfl, ⟨_, rfl, rfl⟩, rfl, rfl⟩
    replace hT := (and_ok hr).symm.trans hT
    refine sC (CallsM.ren (hcon.ok hr) [0, 1] 10 rfl rfl rfl rfl) ?_
    clear hcon
    obtain rfl := mv_room1 hr
    repeat' (first | refine qgs ?_ | refine eD ?_ ?_ <;> intro)
    have hcon := record_c (m := m) hL hn hm ⟨i, xs, ts⟩ hs
    rcases hx : recordM L ⟨i, xs, ts⟩ with ⟨r, ⟨i2, xs2, ts2⟩⟩ | ⟨i9, e9⟩
    ·replace hT := (and_ok hx).symm.trans hT
     have hs2 := (Up.ok (up_record hL) hs hx).1
     have hgo : i < i2 := mo_record _ _ _ hx
     refine ex_callM (CallsM.moreW (CallsM.ren (hcon.ok hx) [0, 1, 6, 7, 8, 9] 10 rfl rfl rfl rfl)) ?_
     repeat' (first | refine qgs ?_ | refine eD ?_ ?_ <;> intro)
     refine ex_app (rs.length) (1) 1000 (by first | rfl | (simp; done) | (simp; omega)) (by first | rfl | (simp; done) | (simp; omega)) rfl (by omega) ?_
     refine ex_is (List.map rcD (rs ++ [r])) (by rw [List.map_append]; rfl) ?_
     repeat' (first | refine qgs ?_ | refine eD ?_ ?_ <;> intro)
     exact ex_round (i2, xs2, ts2, cs, rs ++ [r], n) ⟨hs2, by omega, by omega, by simp <;> omega, hT⟩ (by show L.length - i2 < L.length - i; omega) (sR [(0, 0), (1, 1), (2, 2), (3, 3), (4, 4), (5, 5), (6, 6), (13, 7), (10, 8), (11, 9)])
    ·obtain rfl := (and_err hx).symm.trans hT
     exact ex_pan ((true = true) ∧ panIs (.pan (flt L i9 e9)) (panE (flt L i9 e9)) ∧ (PR.uW L m (.err i9 e9)) = deadM [0, 1, 2, 3, 4, 5] ∧ ([] : List Blk) = []) (CallsM.moreW (CallsM.ren (hcon.err hx) [0, 1, 6, 7, 8, 9] 10 rfl rfl rfl rfl)) (by kernel_rfl) ⟨rfl, ⟨_, rfl, rfl⟩, rfl, rfl⟩
  ·replace hT := aty hT hv
   refine sC (CallsM.ren (hic) [0, 1] 10 rfl rfl rfl rfl) ?_
   repeat' (first | refine ex_is cs.length (by simp) ?_ | refine qg1 ?_ | refine eD ?_ ?_ <;> intro)
   have hcon := room_c (m := m) ⟨i, xs, ts⟩ hi cs.length (by omega)
   rcases hr : (roomM cs.length) ⟨i, xs, ts⟩ with ⟨_, s9⟩ | ⟨i9, e9⟩
   rotate_left
   ·obtain rfl := (and_err hr).symm.trans hT
    refine sC (CallsM.ren (hcon.err hr) [0, 1] 10 rfl rfl rfl rfl) ?_
    first | exact ⟨⟨_, rfl, rfl⟩, rfl, rfl⟩ | exact ⟨by kernel_rfl, ⟨_, rfl, rfl⟩, rfl, rfl⟩
   replace hT := (and_ok hr).symm.trans hT
   refine sC (CallsM.ren (hcon.ok hr) [0, 1] 10 rfl rfl rfl rfl) ?_
   clear hcon
   obtain rfl := mv_room1 hr
   repeat' (first | refine qgs ?_ | refine eD ?_ ?_ <;> intro)
   have hcon := const_c (m := m) hL hn ⟨i, xs, ts⟩ hs
   rcases hx : constM L ⟨i, xs, ts⟩ with ⟨c, ⟨i2, xs2, ts2⟩⟩ | ⟨i9, e9⟩
   rotate_left
   ·obtain rfl := (and_err hx).symm.trans hT
    exact ex_pan ((true = true) ∧ panIs (.pan (flt L i9 e9)) (panE (flt L i9 e9)) ∧ (PR.uW L m (.err i9 e9)) = deadM [0, 1, 2, 3, 4, 5] ∧ ([] : List Blk) = []) (CallsM.more0 (CallsM.ren (hcon.err hx) [0, 1] 10 rfl rfl rfl rfl)) (by kernel_rfl) ⟨rfl, ⟨_, rfl, rfl⟩, rfl, rfl⟩
   replace hT := (and_ok hx).symm.trans hT
   refine ex_callM (CallsM.more0 (CallsM.ren (hcon.ok hx) [0, 1] 10 rfl rfl rfl rfl)) ?_
   have hs2 := (Up.ok (up_const hL) hs hx).1
   obtain ⟨rfl, rfl⟩ := mv_const hx
   have hgo : i < i2 := mo_const _ _ _ hx
   repeat' (first | refine qgs ?_ | refine eD ?_ ?_ <;> intro)
   refine ex_app (cs.length) (1) 1000 (by first | rfl | (simp; done) | (simp; omega)) (by first | rfl | (simp; done) | (simp; omega)) rfl (by omega) ?_
   refine ex_is (List.map coD (cs ++ [c])) (by rw [List.map_append]; rfl) ?_
   repeat' (first | refine qgs ?_ | refine eD ?_ ?_ <;> intro)
   exact ex_round (i2, xs, ts, cs ++ [c], rs, n) ⟨hs2, by omega, by simp <;> omega, by omega, hT⟩ (by show L.length - i2 < L.length - i; omega) (sR [(0, 0), (1, 1), (2, 2), (3, 3), (4, 4), (5, 5), (11, 6), (7, 7), (8, 8), (9, 9)])
end
end Go.Proofs.YtoingpafcodojaaGreatDoor

namespace Go.Proofs.YtoingpafcodojaaGreatDoor
open Go.RowKit

theorem lexN_len : ∀ (n : Nat) (r : List UInt8) (l c : Nat) (ts : List TokP), r.length < n → lexN n r l c = .ok ts → ts.length ≤ r.length + 1 := by
 intro n
 induction n with
 | zero => intro r l c ts h; omega
 | succ n ih =>
  intro r l c ts hlen h
  rw [lexN] at h
  rcases hs : stp r l c with _ | ⟨r', l', c'⟩ | ⟨k, t, v⟩ | e <;> rw [hs] at h <;> dsimp only at h
  ·cases h; simp
  ·have := stp_go hs
   have := ih r' l' c' ts (by omega) h
   omega
  ·have ht := stp_tok hs
   obtain ⟨⟨X, rfl⟩, h2, h3, -⟩ := tokF_ok ht
   have h4 : 0 < t.length := List.length_pos_iff.2 h2
   rw [List.drop_left] at h
   rw [List.length_append] at hlen ⊢
   rcases hr : lexN n X l (c + t.length) with ts' | _
   ·rw [hr] at h
    have h' : [⟨k, t, v, l, c⟩] ++ ts' = ts := by injection h
    have := ih X l (c + t.length) ts' (by omega) hr
    rw [← h']
    simp
    omega
   ·rw [hr] at h; cases h
  ·cases h
theorem lexV_ok {s : List UInt8} {L : List TokP} (h : lexV s = .ok L) : TokOk L ∧ L.length ≤ 100000 := by
 unfold lexV at h
 split at h
 ·rename_i hs
  have hlen := lexN_len _ s 1 1 L (Nat.lt_succ_self _) h
  obtain ⟨us, l', c', rfl, _⟩ := lexF_good h
  refine ⟨⟨by simp, fun i hi => ?_⟩, by omega⟩
  simp only [List.length_append, List.length_cons, List.length_nil] at hi
  have : i = us.length := by omega
  unfold tk
  rw [this, List.getD_eq_getElem?_getD, List.getElem?_append_right (Nat.le_refl _)]
  simp
 ·cases h
theorem stp_err {r : List UInt8} {l c e : Nat} (h : stp r l c = .err e) : tokF r = .err e := by
 unfold stp at h
 split at h
 ·cases h
 ·split at h
  ·cases h
  ·split at h
   ·cases h
   ·split at h
    ·cases h
    ·revert h
     unfold TR.stp
     split <;> intro h <;> cases h
     assumption
theorem lexN_err : ∀ (n : Nat) (r : List UInt8) (l c l' c' e : Nat), r.length < n → lexN n r l c = .err l' c' e → 4 ≤ e ∧ e ≤ 7 := by
 intro n
 induction n with
 | zero => intro r l c l' c' e h; omega
 | succ n ih =>
  intro r l c l' c' e hlen h
  rw [lexN] at h
  rcases hs : stp r l c with _ | ⟨r', l1, c1⟩ | ⟨k, t, v⟩ | e1 <;> rw [hs] at h <;> dsimp only at h
  ·cases h
  ·have := stp_go hs
   exact ih r' l1 c1 l' c' e (by omega) h
  ·have ht := stp_tok hs
   obtain ⟨⟨X, rfl⟩, h2, h3, -⟩ := tokF_ok ht
   have h4 : 0 < t.length := List.length_pos_iff.2 h2
   rw [List.drop_left] at h
   rw [List.length_append] at hlen
   rcases hr : lexN n X l (c + t.length) with ts' | ⟨l2, c2, e2⟩
   ·rw [hr] at h; cases h
   ·rw [hr] at h
    cases h
    exact ih X l _ _ _ _ (by omega) hr
  ·cases h
   exact tokF_err (stp_err hs)
theorem lexV_err {s : List UInt8} {l c e : Nat} (h : lexV s = .err l c e) : 4 ≤ e ∧ e ≤ 7 := by
 unfold lexV at h
 split at h
 ·exact lexN_err _ s 1 1 l c e (Nat.lt_succ_self _) h
 ·cases h; decide
def fileD (cs : List CO) (rs : List RC) (xs : List EX) (ts : List TY) : List D := [.sl 2 (cs.map coD), .sl 3 (rs.map rcD), .sl 5 (xs.map exD), .sl 8 (ts.map tyD)]
abbrev dnp : D := .v (.pointer none)
def parT : FR → TV
 | .ok cs rs xs ts => .tup [.c (.eptr (fileD cs rs xs ts)), gD [di 0, di 0], c1 (di 0)]
 | .err l c e => .tup [c1 dnp, gD [di l, di c], c1 (di e)]
theorem nil_eq (w : World) : (binOp BinOp.eql 20 .nilIface .nilIface).run Tryz.prog w = .ok (.bool true) w := by kernel_rfl
theorem iface_eq (t : TypeId) (v : Value) (w : World) : (binOp BinOp.eql 20 (.iface t v) .nilIface).run Tryz.prog w = .ok (.bool false) w := by rfl
theorem catch_idle (x y z : Value) (w : World) :
  CallsD Tryz.prog 20 #[x, y, z] .returning w fun e u' w' => e = .returned (.tuple #[]) ∧ u' = .returning ∧ w' = w := by
 refine callsD_of_wpS Tryz.func20 rfl fun c₀ cs hu => ?_
 apply wpS_seq
 apply wpS_region
 simp [wpOpsS, go_sem, recoverD, hu, Tryz.ntmps20, Exit.thenS]
 refine wpS_of_wp ?_
 refine wp_block ?_
 apply wp_seq
 apply wp_region
 simp [wpOps, go_sem, nil_eq, Exit.then]
 repeat apply Or.inl
 refine Go.wp_cond_true ?hc ?h
 ·simp [Act.eval]
 apply wp_region
 simp [wpOps, go_sem, Exit.inBlock]
 repeat apply Or.inl
 cases c₀
 simp_all [bodyPostS, results, Tryz.results20, Exit.thenS]
theorem assert_ok (v : Value) (w : World) : (Instr.typeAssert (.iface 89 v) 20 89 true).run Tryz.prog w = .ok (.tuple #[v, .bool true]) w := by
 simp [Instr.typeAssert, run_underlying, Tryz.underlying89]
abbrev pv (l c e : Nat) (r : Bool) : List PanicEntry := [{ v := fltV l c e, recovered := r }]
def hitM (f0 d1 d2 e0 : D) : List (Nat × Blk) := [(0, .obj [.d f0] 23), (1, .obj [.d d1, .d d2]), (2, .obj [.d e0])]
theorem catch_hit (l c e : Nat) (f0 d1 d2 e0 : D) {ι : Nat → Value} {S : Nat → Prop} {w : World} (hS : ∀ b, S b → b < w.heap.size) (hG : ΓL.G S w) (hblk : ∀ p ∈ hitM f0 d1 d2 e0, BlkOk ι S w p.1 p.2)
  (hdst : ∀ p ∈ hitM f0 d1 d2 e0, ∀ q ∈ hitM f0 d1 d2 e0, ∀ g, p.2.live = true → q.2.live = true → blkOf (ι p.1) = some g → blkOf (ι q.1) = some g → p.1 = q.1) :
  CallsD Tryz.prog 20 #[ι 0, ι 1, ι 2] (.panicking (pv l c e false)) w fun e' u' w' => e' = .returned (.tuple #[]) ∧ u' = .panicking (pv l c e true) ∧ ∃ ι' S', After ι S w 3 ⟨.und, [0, 1, 2], hitM dnp (di l) (di c) (di e), []⟩ undef ι' S' w' := by
 have hp : ∀ k, k < 3 → ∃ b, ι k = .pointer (some ⟨b, 0, none⟩) := fun k hk => by
  match k, hk with
  | 0, _ => obtain ⟨b, arr, ty, h1, _⟩ := hblk _ (List.mem_cons_self ..); exact ⟨b, h1⟩
  | 1, _ => obtain ⟨b, arr, ty, h1, _⟩ := hblk _ (List.mem_cons_of_mem _ (List.mem_cons_self ..)); exact ⟨b, h1⟩
  | 2, _ => obtain ⟨b, arr, ty, h1, _⟩ := hblk _ (List.mem_cons_of_mem _ (List.mem_cons_of_mem _ (List.mem_cons_self ..))); exact ⟨b, h1⟩
 obtain ⟨b0, hb0⟩ := hp 0 (by omega)
 obtain ⟨b1, hb1⟩ := hp 1 (by omega)
 obtain ⟨b2, hb2⟩ := hp 2 (by omega)
 refine callsD_of_wpS Tryz.func20 rfl fun c₀ cs hu => ?_
 apply wpS_seq
 apply wpS_region
 simp [wpOpsS, go_sem, recoverD, hu, Tryz.ntmps20, Exit.thenS]
 refine wpS_of_wp ?_
 refine wp_block ?_
 apply wp_seq
 apply wp_region
 simp [wpOps, go_sem, iface_eq, Exit.then]
 apply Or.inl
 refine Go.wp_cond_false ?hc ?h
 ·simp [Act.eval]
 apply wp_seq
 apply wp_region
 simp [wpOps, go_sem, assert_ok, Exit.then]
 iterate 3 apply Or.inl
 refine Go.wp_cond_true ?hc2 ?h2
 ·simp [Act.eval]
 refine Code.wp_mono (fun e1 a1 w1 h => ?_) (code_after (C := ⟨Tryz.prog, layF, Tryz.f20.ntmps, ΓL, 3, [], []⟩) (tm := [(0, .o (.c (.ptr 0 0))), (1, .o (.c (.ptr 1 0))), (2, .o (.c (.ptr 2 0))), (11, .o (gD [di l, di c, di e]))]) (m := hitM f0 d1 d2 e0) (upd := hitM dnp (di l) (di c) (di e)) (new := []) layF_ok mixed rfl ?hvc hS hG hblk hdst ?htm (by simp [Tryz.ntmps20]) rfl)
 case hvc =>
  repeat' (first | refine qgs ?_ | refine eD ?_ ?_ <;> intro)
  exact ⟨rfl, rfl, rfl⟩
 case htm =>
  intro t tv ht
  simp only [findL] at ht
  split at ht
  ·rename_i h; subst h; cases ht
   exact ⟨b0, hb0, by simp [hb0]⟩
  ·split at ht
   ·rename_i h; subst h; cases ht
    exact ⟨b1, hb1, by simp [hb1]⟩
   ·split at ht
    ·rename_i h; subst h; cases ht
     exact ⟨b2, hb2, by simp [hb2]⟩
    ·split at ht
     ·rename_i h; subst h; cases ht
      exact ⟨[.int .i64 l, .int .i64 c, .int .i64 e], by simp, .cons (Imm.v rfl) (.cons (Imm.v rfl) (.cons (Imm.v rfl) .nil))⟩
     ·cases ht
 obtain ⟨rfl, h1, ι', S', A⟩ := h
 simp only [Exit.inBlock, bodyPostS]
 exact ⟨h1, .panicking (pv l c e true), rfl, .tuple #[], by simp [results, Tryz.results20], rfl, rfl, ι', S', A⟩
end Go.Proofs.YtoingpafcodojaaGreatDoor

namespace Go.Proofs.YtoingpafcodojaaGreatDoor
open Go.RowKit

def HitP (v : Value) (st : St) (upd : List (Nat × Blk)) : Prop := ∃ (l c e : Nat) (f0 d1 d2 e0 : D), v = fltV l c e ∧ upd = hitM dnp (di l) (di c) (di e) ∧
 findL st.mem 0 = some (.obj [.d f0] 23) ∧ findL st.mem 1 = some (.obj [.d d1, .d d2]) ∧ findL st.mem 2 = some (.obj [.d e0])
theorem hitP_ok (v : Value) (st : St) (upd : List (Nat × Blk)) (h : HitP v st upd) (ι : Nat → Value) (S : Nat → Prop) (w : World) (hS : ∀ b, S b → b < w.heap.size) (hG : ΓL.G S w) (hblk : ∀ k b, findL st.mem k = some b → BlkOk ι S w k b)
  (hdst : ∀ k k' b b' g, findL st.mem k = some b → findL st.mem k' = some b' → b.live = true → b'.live = true → blkOf (ι k) = some g → blkOf (ι k') = some g → k = k') :
  CallsD Tryz.prog 20 ([0, 1, 2].map ι).toArray (.panicking (panE v)) w fun e' u' w' => e' = .returned (.tuple #[]) ∧ u' = .panicking [{ v, recovered := true }] ∧ ∃ ι' S', After ι S w st.nx ⟨.und, [], upd, []⟩ undef ι' S' w' := by
 obtain ⟨l, c, e, f0, d1, d2, e0, rfl, rfl, h0, h1, h2⟩ := h
 have hf : ∀ p ∈ hitM f0 d1 d2 e0, findL st.mem p.1 = some p.2 := fun p hp => by
  simp only [hitM, List.mem_cons, List.not_mem_nil, or_false] at hp
  rcases hp with rfl | rfl | rfl
  ·exact h0
  ·exact h1
  ·exact h2
 refine (catch_hit l c e f0 d1 d2 e0 hS hG (fun p hp => hblk _ _ (hf p hp)) (fun p hp q hq g => hdst _ _ _ _ g (hf p hp) (hf q hq))).mono ?_
 rintro e' u' w' ⟨he, hu, ι', S', A⟩
 refine ⟨he, hu, ι', S', ⟨A.val, fun k _ => A.keep k (by show k < 3 ∨ 3 + 0 ≤ k; omega), A.smono, A.sgrow, A.slt, A.os, A.tape, A.output, A.size, A.heap, A.updok, fun i b hb => by simp at hb, fun i b hb => by simp at hb, fun i j b b' g hb => by simp at hb⟩⟩
def fileS (s : List UInt8) : FR := fileV (lexV s)
theorem Parse_c (s : List UInt8) : CallsA Tryz.prog ΓL 7 [c1 (ds (bs s))] (parT (fileS s)) := by
 have hlx := lex_c s
 obtain ⟨R, hR⟩ : ∃ R, fileS s = R := ⟨_, rfl⟩
 rw [hR]
 refine fn_ruleE (C := ⟨Tryz.prog, layF, Tryz.f7.ntmps, ΓL, 0, [5], []⟩) (g := 20) (t9 := 17) (nx2 := 3) (caps := [2, 3, 4]) (capN := [0, 1, 2]) layF_ok mixed Tryz.func7 rfl (by kernel_rfl) rfl rfl rfl HitP ?hdef ?henter ?hidle rfl hitP_ok ?h
 case hdef =>
  intro a w Q hsz h
  have h9 : 17 < a.tmps.size := by rw [hsz]; decide
  apply wp_region
  simp [wpOps, go_sem, h9]
  refine .inl (.inl ?_)
  simpa [Oper.upon, Act.put] using h (.func (.func 20) #[] #[a.tmps[2]?.getD undef, a.tmps[3]?.getD undef, a.tmps[4]?.getD undef])
 case henter =>
  intro vs w
  kernel_rfl
 case hidle =>
  intro vs w hl
  match vs, hl with
  | [x, y, z], _ => exact catch_idle x y z w
 case h =>
  rcases hl : lexV s with L | ⟨l, c, e⟩
  ·rw [hl] at hlx
   have hlx : CallsA Tryz.prog ΓL 19 [c1 (ds (bs s))] (.tup [c1 (.sl 5 (L.map tokD)), gD [di 0, di 0], c1 (di 0)]) := hlx
   obtain ⟨hL, hn⟩ := lexV_ok hl
   repeat' (first | refine ex_call hlx ?_ | refine qg1 ?_ | refine eD ?_ ?_ <;> intro)
   refine ⟨⟨rfl, rfl, rfl, trivial⟩, rfl, ?_⟩
   refine ex_join (X := Unit) (fun _ => ⟨[(2, .o (.c (.ptr 0 0))), (3, .o (.c (.ptr 1 0))), (4, .o (.c (.ptr 2 0))), (6, .o (.c (.ptr 4 0)))], [(0, .obj [.d dnp] 23), (1, .obj [.d (di 0), .d (di 0)]), (2, .obj [.d (di 0)]), (4, .obj [.d (.sl 5 (L.map tokD)), .d (di ((0 : Nat) : Int)), .d (di (32 - ((32 : Nat) : Int))), .ptr 3 0]), (3, Fz 5 6 7 8), (5, Cz []), (6, Uz []), (7, Xz []), (8, Tz [])], 9⟩) (fun _ => True) ?_ ?_
   ·repeat' (first | refine qgs ?_ | refine eD ?_ ?_ <;> intro)
    exact ex_meet () trivial (SLe.via (SLe.ownCell 3 0 5 2 82 rfl rfl rfl rfl rfl rfl) (SLe.via (SLe.ownCell 3 1 6 3 146 rfl rfl rfl rfl rfl rfl) (SLe.via (SLe.ownCell 3 2 7 5 77 rfl rfl rfl rfl rfl rfl) (SLe.via (SLe.ownCell 3 3 8 8 57 rfl rfl rfl rfl rfl rfl) sS))))
   ·intro _ _
    have hlen := hL.1
    have hw := whole_c (m := 32) hL hn rfl 0 (L.length + 1) [] [] [] [] ⟨hlen, by simp, by simp⟩ (by omega) (by simp) (by simp) _ rfl
    rcases hT : wholeN L (L.length + 1) [] [] ⟨0, [], []⟩ with ⟨⟨cs, rs⟩, s1⟩ | ⟨i, e⟩
    ·obtain rfl : FR.ok cs rs s1.xs s1.ts = R := by rw [← hR]; unfold fileS fileV; rw [hl]; dsimp only; rw [hT]
     rw [hT] at hw
     have hw : CallsM Tryz.prog ΓL 21 [(0, Qz L 32 0), (1, Fz 2 3 4 5), (2, Cz []), (3, Uz []), (4, Xz []), (5, Tz [])] 6 [P0] (.tup []) [(0, Qz L 32 s1.i), (1, Fz 6 7 8 9), (2, .dead), (3, .dead), (4, .dead), (5, .dead)] [Cz cs, Uz rs, Xz s1.xs, Tz s1.ts] := hw
     repeat' (first | refine qgs ?_ | refine eD ?_ ?_ <;> intro)
     refine ex_callM (CallsM.ren hw [4, 3, 5, 6, 7, 8] 9 rfl rfl rfl rfl) ?_
     repeat' (first | refine qgs ?_ | refine eD ?_ ?_ <;> intro)
     exact ⟨_, SLe.via (show SLe 3 ⟨[(2, .o (.c (.ptr 0 0))), (3, .o (.c (.ptr 1 0))), (4, .o (.c (.ptr 2 0)))], [(0, .obj [.ptr 3 0] 23), (1, .obj [.d (di 0), .d (di 0)]), (2, .obj [.d (di 0)]), (3, Fz 9 10 11 12), (9, Cz cs), (10, Uz rs), (11, Xz s1.xs), (12, Tz s1.ts)], 13⟩ _ from sS)
      (SLe.via (SLe.still 9 2 82 (cs.map coD) rfl) (SLe.via (SLe.still 10 3 146 (rs.map rcD) rfl) (SLe.via (SLe.still 11 5 77 (s1.xs.map exD) rfl) (SLe.via (SLe.still 12 8 57 (s1.ts.map tyD) rfl)
       (SLe.via (sle_fixO 0 0 3 (dl := fileD cs rs s1.xs s1.ts) rfl rfl rfl rfl) (show SLe 3 ⟨[(2, .o (.c (.ptr 0 0))), (3, .o (.c (.ptr 1 0))), (4, .o (.c (.ptr 2 0)))], [(0, .obj [.eptr (fileD cs rs s1.xs s1.ts)] 23), (1, .obj [.d (di 0), .d (di 0)]), (2, .obj [.d (di 0)])], 13⟩ _ from sS)))))), TLe.rfl, rfl⟩
    ·obtain rfl : FR.err (tk L i).l (tk L i).c e = R := by rw [← hR]; unfold fileS fileV; rw [hl]; dsimp only; rw [hT]
     rw [hT] at hw
     have hw : CallsM Tryz.prog ΓL 21 [(0, Qz L 32 0), (1, Fz 2 3 4 5), (2, Cz []), (3, Uz []), (4, Xz []), (5, Tz [])] 6 [P0] (.pan (flt L i e)) [(0, .dead), (1, .dead), (2, .dead), (3, .dead), (4, .dead), (5, .dead)] [] := hw
     repeat' (first | refine qgs ?_ | refine eD ?_ ?_ <;> intro)
     refine ex_callM (CallsM.ren hw [4, 3, 5, 6, 7, 8] 9 rfl rfl rfl rfl) ?_
     exact ⟨flt L i e, _, rfl, ⟨(tk L i).l, (tk L i).c, e, _, _, _, _, rfl, rfl, rfl, rfl, rfl⟩, rfl, rfl, _, fun _ _ _ _ h => h, TLe.rfl, rfl⟩
  ·rw [hl] at hlx
   have he := lexV_err hl
   have hlx : CallsA Tryz.prog ΓL 19 [c1 (ds (bs s))] (.tup [c1 (.sl 5 []), gD [di l, di c], c1 (di e)]) := hlx
   obtain rfl : FR.err l c e = R := by rw [← hR]; unfold fileS; rw [hl]; rfl
   repeat' (first | refine ex_call hlx ?_ | refine qg1 ?_ | refine eD ?_ ?_ <;> intro)
   exact ⟨_, fun _ _ _ _ h => h, TLe.rfl, rfl⟩
end Go.Proofs.YtoingpafcodojaaGreatDoor

namespace Go.Proofs.YtoingpafcodojaaGreatDoor
open Go.RowKit

def fnQF (L : Nat → Option Lay) (rs : List ResultVar) (r : TV) : Exit → St → Prop
 | .normal, st | .ret, st => retOkE 0 L rs r st
 | _, _ => False
theorem fn_ruleF {C : Ctx} {f : FuncId} {fn : Func} {c : Code} (hL : LOk C.P C.L) (hm : C.P.follows .mixedOrders = true) (hf : C.P.funcs[f]? = some fn) (hb : fn.body = some c) (hname : (fn.name == "runtime.NumGoroutine") = false)
  (hn : fn.ntmps = C.n) (h0 : C.nx0 = 0) {xs : List T1} (hx : Nat.ble xs.length C.n = true) {r : TV} (h : vc C c ⟨argTm 0 xs, [], 0⟩ (fnQF C.L fn.results.toList r)) : CallsA C.P C.Γ f xs r := by
 refine ⟨⟨fn, hf, hname, by rw [hb]; rfl⟩, fun S w vs hS hG hvs => ?_⟩
 have hxl := Nat.le_of_ble_eq_true hx
 have hlen := hvs.len
 refine calls_of_wp hf hb ?_
 have hR : RS ⟨w, fun _ => False, S, C.n, C.Γ, ι0, 0, []⟩ ⟨argTm 0 xs, [], 0⟩ { tmps := vs.toArray ++ Array.replicate (fn.ntmps - vs.toArray.size) undef, defers := [] } w := by
  refine ⟨ι0, S, rfl, rfl, rfl, Nat.le_refl _, fun _ _ _ => rfl, hS, fun _ h => h, fun _ h => .inl h, fun t tv ht => ?_, (fun k b hk => by cases hk), (fun k b hk => by cases hk), (fun k k' b b' g hk => by cases hk), rfl, ?_, hG, fun _ _ => rfl⟩
  ·obtain ⟨x, rfl, _, hx⟩ := argTm_find xs 0 t tv ht
   rw [Nat.sub_zero] at hx
   obtain ⟨u, hu, hv⟩ := hvs.at_left hx
   have hlt := (List.getElem?_eq_some_iff.1 hu).1
   have : (vs.toArray ++ Array.replicate (fn.ntmps - vs.toArray.size) undef).getD t undef = u := by
    simp [Array.getElem?_append, hlt, hu]
    have h2 := (List.getElem?_eq_some_iff.1 hu).2
    exact h2
   show V ι0 S w (.o x) _
   dsimp only
   rw [this]
   exact hv
  ·simp; omega
 refine Code.wp_mono (fun e a w' hq => ?_) (vc_ok hL ⟨rfl, rfl, h0.symm⟩ hm c _ _ _ w h hR)
 obtain ⟨st, hR', hq⟩ := hq
 have key : retOkE 0 C.L fn.results.toList r st → a.defers = [] ∧ ∃ v, (results fn a.tmps).run C.P w' = .ok v w' ∧ ∃ x S', Ending.returned v = .returned x ∧ Below w.heap.size w w' ∧ (∀ b, S b → S' b) ∧ (∀ b, S' b → S b ∨ w.heap.size ≤ b) ∧ (∀ b, S' b → b < w'.heap.size) ∧ V ι0 S' w' r x := fun hret => by
  obtain ⟨v, h1, h2⟩ := end_dataE hL hR' hret
  obtain ⟨ι, S1, I⟩ := hR'
  exact ⟨I.dn, v, h1, h2⟩
 cases e with
 | normal => exact key hq
 | ret => exact key hq
 | _ => exact hq.elim
end Go.Proofs.YtoingpafcodojaaGreatDoor

namespace Go.Proofs.YtoingpafcodojaaGreatDoor
def opsL7 : List (List UInt8) := levelsL.map (·.1)
def xsL (a b : List UInt8) : List EX := if levelV a < levelV b then [⟨1, [], 0, [120], []⟩, ⟨1, [], 0, [121], []⟩, ⟨1, [], 0, [122], []⟩, ⟨3, b, 0, [], [1, 2]⟩, ⟨3, a, 0, [], [0, 3]⟩] else [⟨1, [], 0, [120], []⟩, ⟨1, [], 0, [121], []⟩, ⟨3, a, 0, [], [0, 1]⟩, ⟨1, [], 0, [122], []⟩, ⟨3, b, 0, [], [2, 3]⟩]
deriving instance DecidableEq for EX, CA, TY, SB, IT, RC, CO, FR
end Go.Proofs.YtoingpafcodojaaGreatDoor

namespace Go.Proofs.YtoingpafcodojaaGreatDoor
def preA : List UInt8 := [115, 116, 114, 117, 99, 116, 32, 83, 32, 123, 32, 97, 58, 32, 98, 121, 116, 101, 115, 91]
def postA : List UInt8 := [93, 59, 32, 125]
def textA (s : List UInt8) : List UInt8 := preA ++ s ++ postA
end Go.Proofs.YtoingpafcodojaaGreatDoor

namespace Go.Proofs.YtoingpafcodojaaGreatDoor
open Go.RowKit

theorem of_ok (s : List UInt8) (hs : s.length ≤ 1000000) {cs : List CO} {rs : List RC} {xs : List EX} {t : TY} {ts : List TY} (h : fileS (textA s) = .ok cs rs xs (t :: ts)) (htl : ts.length ≤ 1000000) :
  CallsA Tryz.prog ΓL 13 [c1 (ds (bs s))] (.tup [.c (.eptr (fileD cs rs xs (t :: ts))), c1 (di t.ex)]) := by
 have hp := Parse_c (textA s)
 rw [h] at hp
 have hp : CallsA Tryz.prog ΓL 7 [c1 (ds (bs preA ++ bs s ++ bs postA))] (.tup [.c (.eptr (fileD cs rs xs (t :: ts))), gD [di 0, di 0], c1 (di 0)]) := by
  rw [bs_app, bs_app]
  exact hp
 have hsz : (bs s).size = s.length := by simp [bs, ByteArray.size]
 have hm : ((t :: ts).map tyD).length = ts.length + 1 := by simp
 refine fn_ruleF (C := ⟨Tryz.prog, layF, Tryz.f13.ntmps, ΓL, 0, [], []⟩) layF_ok mixed Tryz.func13 rfl (by kernel_rfl) rfl rfl rfl ?_
 have q1 : (bs preA).size + (bs s).size ≤ 9223372036854775807 := by
  rw [hsz]
  show 20 + s.length ≤ _
  omega
 have q2 : (bs preA ++ bs s).size + (bs postA).size ≤ 9223372036854775807 := by
  rw [ByteArray.size_append, hsz]
  show 20 + s.length + 4 ≤ _
  omega
 repeat' (first | refine qgs ?_ | refine eD ?_ ?_ <;> intro)
 refine and_mk q1 ?_
 repeat' (first | refine qgs ?_ | refine eD ?_ ?_ <;> intro)
 refine and_mk q2 ?_
 repeat' (first | refine ex_call hp ?_ | refine (ex_row (l := t :: ts) 0 t rfl rfl) ?_ | refine (ex_is _ hm) ?_ | refine (ex_pn (by kernel_rfl) false (fun _ _ => by kernel_rfl)) ?_ | refine qg1 ?_ | refine eD ?_ ?_ <;> intro)
 exact ⟨_, SLe.rfl, TLe.rfl, rfl⟩
def wkS : List UInt8 := [110, 32, 42, 32, 40, 110, 32, 45, 32, 49, 41]
def wkX : List EX := [⟨1, [], 0, [110], []⟩, ⟨1, [], 0, [110], []⟩, ⟨0, [], 1, [], []⟩, ⟨3, [45], 0, [], [1, 2]⟩, ⟨3, [42], 0, [], [0, 3]⟩]
def wkY : TY := ⟨1, 0, false, [], [], 4, -1, []⟩
def wkR : List RC := [⟨[83], [], [⟨[97], 0, 0, [], [], -1, 0, false, []⟩]⟩]
theorem wk_file : fileS (textA wkS) = .ok [] wkR wkX [wkY] := by decide +kernel
theorem wk_e1 : evalE (wkX.map EX.ei) 4 [([110], 3)] = (6, 0) := by decide +kernel
theorem wk_e2 : evalE (wkX.map EX.ei) 4 [([110], 3), ([110], 0)] = (0, 5) := by decide +kernel
theorem wk_eval (e : EV) (he : EnvOk e) (hel : e.length ≤ 1000000) : CallsA Tryz.prog ΓL 11 [.c (.eptr (fileD [] wkR wkX [wkY])), c1 (di 4), c1 (.sl 2 (e.map evD))] (owT (evalE (wkX.map EX.ei) 4 e)) :=
 (eval_c (wkX.map EX.ei) e (.sl 2 ([].map coD)) (.sl 3 (wkR.map rcD)) (.sl 8 ([wkY].map tyD)) 4 (by unfold XsOk; decide) he hel (by decide) (by decide) (by decide)).gL
set_option maxHeartbeats 2000000 in
theorem wakes10_c : CallsA Tryz.prog ΓL 9 [] (Tb true) := by
 have ho := of_ok wkS (by decide) wk_file (by decide)
 have h1 := wk_eval [([110], 3)] (by unfold EnvOk; decide) (by decide)
 rw [wk_e1] at h1
 have h2 := wk_eval [([110], 3), ([110], 0)] (by unfold EnvOk; decide) (by decide)
 rw [wk_e2] at h2
 have h3 := (eval_nil 0 dnil).gL
 refine fn_rule (C := ⟨Tryz.prog, layF, Tryz.f9.ntmps, ΓL, 0, [], []⟩) layF_ok mixed Tryz.func9 rfl (by kernel_rfl) rfl rfl rfl ?_
 repeat' (first | refine ex_call h3 ?_ | refine ex_call ho ?_ | refine qg1 ?_ | refine eD ?_ ?_ <;> intro)
 refine ex_callM (h1.toM (by kernel_rfl) (by kernel_rfl) _) ?_
 repeat' (first | refine ex_call h3 ?_ | refine ex_call ho ?_ | refine qg1 ?_ | refine eD ?_ ?_ <;> intro)
 refine ex_callM (h2.toM (by kernel_rfl) (by kernel_rfl) _) ?_
 repeat' (first | refine ex_call h3 ?_ | refine ex_call ho ?_ | refine qg1 ?_ | refine eD ?_ ?_ <;> intro)
 exact TLe.rfl
end Go.Proofs.YtoingpafcodojaaGreatDoor

namespace Go.Proofs.YtoingpafcodojaaGreatDoor
open Go.RowKit

def bitsN : Nat → Nat → List Nat
 | 0, _ => []
 | k + 1, a => a % 2 :: bitsN k (a / 2)
def valL : List Nat → Nat
 | [] => 0
 | x :: l => x + 2 * valL l
def BitL (l : List Nat) : Prop := ∀ x ∈ l, x ≤ 1
def plusF : Nat → List Nat → List Nat → List Nat
 | c, [], [] => [c]
 | c, x :: a, [] => (c + x) % 2 :: plusF ((c + x) / 2) a []
 | c, [], y :: b => (c + y) % 2 :: plusF ((c + y) / 2) [] b
 | c, x :: a, y :: b => (c + x + y) % 2 :: plusF ((c + x + y) / 2) a b
theorem bits_len : ∀ k a, (bitsN k a).length = k
 | 0, _ => rfl
 | k + 1, a => by rw [bitsN, List.length_cons, bits_len k]
theorem bits_val : ∀ k a, a < 2 ^ k → valL (bitsN k a) = a
 | 0, a, h => by simp at h; subst h; rfl
 | k + 1, a, h => by
  rw [bitsN, valL, bits_val k (a / 2) (by rw [Nat.pow_succ] at h; omega)]
  omega
theorem bits_bit : ∀ k a, BitL (bitsN k a)
 | 0, _ => fun x h => by simp [bitsN] at h
 | k + 1, a => fun x h => by
  rw [bitsN] at h
  rcases List.mem_cons.1 h with h | h
  ·omega
  ·exact bits_bit k _ x h
theorem plus_val (c : Nat) (a b : List Nat) : valL (plusF c a b) = c + valL a + valL b := by
 induction c, a, b using plusF.induct with
 | case1 c => simp [plusF, valL]
 | case2 c x a ih => simp only [plusF, valL, ih]; omega
 | case3 c y b ih => simp only [plusF, valL, ih]; omega
 | case4 c x a y b ih => simp only [plusF, valL, ih]; omega
theorem plus_len (c : Nat) (a b : List Nat) : (plusF c a b).length = (if a.length < b.length then b.length else a.length) + 1 := by
 induction c, a, b using plusF.induct with
 | case1 c => simp [plusF]
 | case2 c x a ih => rw [plusF, List.length_cons, ih]; simp
 | case3 c y b ih =>
  rw [plusF, List.length_cons, ih]
  simp only [List.length_nil, List.length_cons]
  rw [if_pos (Nat.succ_pos _)]
  by_cases h : 0 < b.length
  ·rw [if_pos h]
  ·rw [if_neg h]; omega
 | case4 c x a y b ih => rw [plusF, List.length_cons, ih]; simp only [List.length_cons]; split <;> split <;> omega
theorem BitL.cons {x : Nat} {l : List Nat} (h : BitL (x :: l)) : x ≤ 1 ∧ BitL l := ⟨h x List.mem_cons_self, fun y hy => h y (List.mem_cons_of_mem _ hy)⟩
theorem BitL.mk {x : Nat} {l : List Nat} (h : x ≤ 1) (h2 : BitL l) : BitL (x :: l) := fun y hy => by
 rcases List.mem_cons.1 hy with rfl | hy
 ·exact h
 ·exact h2 y hy
theorem plus_bit (c : Nat) (a b : List Nat) (hc : c ≤ 1) (ha : BitL a) (hb : BitL b) : BitL (plusF c a b) := by
 induction c, a, b using plusF.induct with
 | case1 c => rw [plusF]; exact BitL.mk hc (fun x h => by cases h)
 | case2 c x a ih => have := ha.cons; rw [plusF]; exact BitL.mk (by omega) (ih (by omega) this.2 hb)
 | case3 c y b ih => have := hb.cons; rw [plusF]; exact BitL.mk (by omega) (ih (by omega) ha this.2)
 | case4 c x a y b ih => have := ha.cons; have h2 := hb.cons; rw [plusF]; exact BitL.mk (by omega) (ih (by omega) this.2 h2.2)
theorem set_mid {α : Type} (l : List α) (x y : α) (r : List α) : (l ++ x :: r).set l.length y = l ++ y :: r := by
 rw [List.set_append_right _ _ (Nat.le_refl _), Nat.sub_self]; rfl
theorem valL_drop {l : List Nat} {j : Nat} {x : Nat} (h : l[j]? = some x) : valL (l.drop j) = x + 2 * valL (l.drop (j + 1)) := by
 obtain ⟨hj, rfl⟩ := List.getElem?_eq_some_iff.1 h
 rw [List.drop_eq_getElem_cons hj, valL]
theorem valL_le (l : List Nat) (j : Nat) : valL (l.drop j) * 2 ^ j ≤ valL l := by
 induction j generalizing l with
 | zero => simp
 | succ j ih =>
  cases l with
  | nil => simp [valL]
  | cons x l =>
   rw [List.drop_succ_cons, valL, Nat.pow_succ, ← Nat.mul_assoc]
   have := ih l
   omega
abbrev rN (l : List Nat) : List (List D) := l.map fun (b : Nat) => [di b]
abbrev dN (l : List Nat) : D := .sl 1 (rN l)
theorem rN_len (l : List Nat) : (rN l).length = l.length := List.length_map _
set_option maxHeartbeats 2000000 in
theorem bits_c (a : Nat) (ha : a < 18446744073709551616) : CallsA Tryz.prog Γ0 135 [c1 (du a)] (.o (c1 (dN (bitsN 64 a)))) := by
 obtain ⟨R, hR⟩ : ∃ R, bitsN 64 a = R := ⟨_, rfl⟩
 rw [hR]
 refine fn_rule (C := ⟨Tryz.prog, layF, Tryz.f135.ntmps, Γ0, 0, [], []⟩) layF_ok mixed Tryz.func135 rfl (by kernel_rfl) rfl rfl rfl ?_
 repeat' (first | refine qgs ?_ | refine eD ?_ ?_ <;> intro)
 refine ⟨by decide, ?_⟩
 refine ex_is (rN (List.replicate 64 0)) (by rfl) ?_
 repeat' (first | refine qgs ?_ | refine eD ?_ ?_ <;> intro)
 refine ex_loop (X := Nat × Nat × List Nat) (fun ⟨i, b, l⟩ => ⟨[(0, Tu b), (3, .o (.c (.row 0))), (4, Ti i)], [(0, .row 1 3 (rN (l ++ List.replicate (64 - i) 0)))], 1⟩) (fun x => 64 - x.1) (fun ⟨i, b, l⟩ => i ≤ 64 ∧ l.length = i ∧ b < 18446744073709551616 ∧ l ++ bitsN (64 - i) b = R) (0, a, []) ⟨Nat.zero_le _, rfl, ha, hR⟩ sS ?_
 rintro ⟨i, b, l⟩ ⟨hi, hl, hb, he⟩
 refine ex_dec (fun h => ?_) (fun h => ?_)
 ·have hi4 : i < 64 := by omega
  obtain ⟨m, hm⟩ : ∃ m, 64 - i = m + 1 := ⟨63 - i, by omega⟩
  rw [hm, bitsN] at he
  rw [hm, List.replicate_succ]
  repeat' (first | refine aI ((i + 1 : Nat) : Int) ?_ | refine aU ((i + 1 : Nat) : Int) ?_ | refine aB ((i + 1 : Nat) : Int) ?_ | refine (ex_is ((b % 2 : Nat) : Int) rfl) ?_ | refine qg1 ?_ | refine eD ?_ ?_ <;> intro)
  refine ⟨by rw [rN_len, List.length_append, List.length_cons]; omega, ?_⟩
  repeat' (first | refine qgs ?_ | refine eD ?_ ?_ <;> intro)
  refine ⟨[di (0 : Nat)], by rw [Int.toNat_natCast, ← hl]; simp [rN], ?_⟩
  refine ex_is (rN ((l ++ [b % 2]) ++ List.replicate (64 - (i + 1)) 0)) (by rw [show 64 - (i + 1) = m by omega, List.append_assoc, List.singleton_append, ← set_mid l 0 (b % 2), hl]; rw [rN, rN, List.map_set]; rfl) ?_
  repeat' (first | refine aI ((i + 1 : Nat) : Int) ?_ | refine aU ((i + 1 : Nat) : Int) ?_ | refine aB ((i + 1 : Nat) : Int) ?_ | refine (ex_u64 ((b / 2 : Nat) : Int) rfl (by omega) (by omega)) ?_ | refine qg1 ?_ | refine eD ?_ ?_ <;> intro)
  exact ex_round (i + 1, b / 2, l ++ [b % 2]) ⟨by omega, by simp [hl], by omega, by rw [show 64 - (i + 1) = m by omega, List.append_assoc]; exact he⟩ (by show _ - _ < _ - _; omega) sS
 ·have hi4 : i = 64 := by omega
  subst hi4
  rw [Nat.sub_self, bitsN, List.append_nil] at he
  subst he
  rw [show l ++ List.replicate (64 - 64) 0 = l from List.append_nil l]
  repeat' (first | refine qgs ?_ | refine eD ?_ ?_ <;> intro)
  exact TLe.rfl
set_option maxHeartbeats 4000000 in
theorem plus_c (a b : List Nat) (ha : a.length ≤ 1000) (hb : b.length ≤ 1000) (hA : BitL a) (hB : BitL b) : CallsA Tryz.prog Γ0 136 [c1 (dN a), c1 (dN b)] (.o (c1 (dN (plusF 0 a b)))) := by
 have hla := rN_len a
 have hlb := rN_len b
 obtain ⟨n, hn⟩ : ∃ n, (if a.length < b.length then b.length else a.length) = n := ⟨_, rfl⟩
 obtain ⟨R, hR⟩ : ∃ R, plusF 0 a b = R := ⟨_, rfl⟩
 rw [hR]
 have hnn : a.length ≤ n ∧ b.length ≤ n ∧ n ≤ 1000 := by rw [← hn]; split <;> omega
 refine fn_rule (C := ⟨Tryz.prog, layF, Tryz.f136.ntmps, Γ0, 0, [], [4]⟩) layF_ok mixed Tryz.func136 rfl (by kernel_rfl) rfl rfl rfl ?_
 repeat' (first | refine (ex_is _ hlb) ?_ | refine (ex_is _ hla) ?_ | refine qg1 ?_ | refine eD ?_ ?_ <;> intro)
 refine ex_join (X := Unit) (fun _ => ⟨[(0, .o (c1 (dN a))), (1, .o (c1 (dN b))), (5, Ti n)], [], 0⟩) (fun _ => True) ?_ ?_
 ·by_cases h : a.length < b.length
  ·rw [if_pos h] at hn
   subst hn
   repeat' (first | refine (ex_is _ hlb) ?_ | refine (ex_is _ hla) ?_ | refine qg1 ?_ | refine eD ?_ ?_ <;> intro)
   exact ex_meet () trivial sS
  ·rw [if_neg h] at hn
   subst hn
   repeat' (first | refine (ex_is _ hlb) ?_ | refine (ex_is _ hla) ?_ | refine qg1 ?_ | refine eD ?_ ?_ <;> intro)
   exact ex_meet () trivial sS
 rintro - -
 repeat' (first | refine aI ((n + 1 : Nat) : Int) ?_ | refine aU ((n + 1 : Nat) : Int) ?_ | refine aB ((n + 1 : Nat) : Int) ?_ | refine qg1 ?_ | refine eD ?_ ?_ <;> intro)
 refine ⟨by show ((n + 1 : Nat) : Int).toNat * (8 + 1) ≤ 140737488355328; omega, ?_⟩
 refine ex_is (rN (0 :: List.replicate n 0)) (by simp [rN]; rfl) ?_
 repeat' (first | refine qgs ?_ | refine eD ?_ ?_ <;> intro)
 refine ex_loop (X := Nat × Nat × List Nat) (fun ⟨i, c, l⟩ => ⟨[(0, .o (c1 (dN a))), (1, .o (c1 (dN b))), (5, Ti n), (6, .o (.c (.row 0))), (7, Ti i)], [(0, .row 1 3 (rN (l ++ c :: List.replicate (n - i) 0)))], 1⟩) (fun x => n - x.1) (fun ⟨i, c, l⟩ => i ≤ n ∧ l.length = i ∧ c ≤ 1 ∧ l ++ plusF c (a.drop i) (b.drop i) = R) (0, 0, []) ⟨Nat.zero_le _, rfl, Nat.zero_le _, hR⟩ sS ?_
 rintro ⟨i, c, l⟩ ⟨hi, hl, hc, he⟩
 refine ex_dec (fun h => ?_) (fun h => ?_)
 ·have hin : i < n := by omega
  have hm : n - i = (n - (i + 1)) + 1 := by omega
  have hget : (rN (l ++ c :: List.replicate (n - i) 0))[(i : Int).toNat]? = some [di c] := by rw [Int.toNat_natCast, ← hl]; simp [rN]
  have hlen : ∀ s r, (rN (l ++ s :: r)).length = i + 1 + r.length := fun s r => by rw [rN_len, List.length_append, List.length_cons, hl]; omega
  have hset : ∀ s x r, (rN (l ++ x :: r)).set (i : Int).toNat [di (s : Nat)] = rN (l ++ s :: r) := fun s x r => by rw [Int.toNat_natCast, ← hl, ← set_mid l x s r]; simp [rN]
  have hset2 : ∀ (s t x : Nat) r, (rN (l ++ s :: x :: r)).set ((i + 1 : Nat) : Int).toNat [di (t : Nat)] = rN ((l ++ [s]) ++ t :: r) := fun s t x r => by
   have h3 := set_mid (l ++ [s]) x t r
   rw [List.length_append, List.length_singleton, hl, List.append_assoc, List.singleton_append] at h3
   rw [Int.toNat_natCast, ← h3]; simp [rN]
  have hget2 : ∀ s : Nat, (rN (l ++ s :: 0 :: List.replicate (n - (i + 1)) 0))[((i + 1 : Nat) : Int).toNat]? = some [di (0 : Nat)] := fun s => by
   rw [Int.toNat_natCast, ← hl]; simp [rN]
  have hget1 : (rN (l ++ c :: 0 :: List.replicate (n - (i + 1)) 0))[(i : Int).toNat]? = some [di c] := by rw [Int.toNat_natCast, ← hl]; simp [rN]
  rw [hm, List.replicate_succ] at hget ⊢
  repeat' (first | refine qgs ?_ | refine eD ?_ ?_ <;> intro)
  refine ⟨by rw [hlen]; omega, ?_⟩
  repeat' (first | refine qgs ?_ | refine eD ?_ ?_ <;> intro)
  refine ⟨[di c], hget, ?_⟩
  by_cases h1 : i < a.length
  ·have hx : a[i]? = some a[i] := at_some h1
   have hx1 := hA a[i] (List.getElem_mem _)
   rw [List.drop_eq_getElem_cons h1] at he
   generalize a[i] = x at *
   by_cases h2 : i < b.length
   ·have hy : b[i]? = some b[i] := at_some h2
    have hy1 := hB b[i] (List.getElem_mem _)
    rw [List.drop_eq_getElem_cons h2] at he
    generalize b[i] = y at *
    rw [plusF] at he
    repeat' (first | refine aI ((i + 1 : Nat) : Int) ?_ | refine aU ((i + 1 : Nat) : Int) ?_ | refine aB ((i + 1 : Nat) : Int) ?_ | refine aI ((c + x + y : Nat) : Int) ?_ | refine aU ((c + x + y : Nat) : Int) ?_ | refine aB ((c + x + y : Nat) : Int) ?_ | refine aI ((c + x : Nat) : Int) ?_ | refine aU ((c + x : Nat) : Int) ?_ | refine aB ((c + x : Nat) : Int) ?_ | refine (ex_is (((c + x + y) % 2 : Nat) : Int) rfl) ?_ | refine (ex_row i y rfl hy) ?_ | refine (ex_row i x rfl hx) ?_ | refine (ex_is _ hlb) ?_ | refine (ex_is _ hla) ?_ | refine qg1 ?_ | refine eD ?_ ?_ <;> intro)
    refine ⟨by rw [hlen, List.length_cons]; omega, ?_⟩
    repeat' (first | refine qgs ?_ | refine eD ?_ ?_ <;> intro)
    refine ⟨[di c], hget1, ?_⟩
    refine ex_is (rN (l ++ (c + x + y) % 2 :: 0 :: List.replicate (n - (i + 1)) 0)) (hset ((c + x + y) % 2) c _) ?_
    repeat' (first | refine aI ((i + 1 : Nat) : Int) ?_ | refine aU ((i + 1 : Nat) : Int) ?_ | refine aB ((i + 1 : Nat) : Int) ?_ | refine (ex_i64 (((c + x + y) / 2 : Nat) : Int) rfl (by omega) (by omega)) ?_ | refine qg1 ?_ | refine eD ?_ ?_ <;> intro)
    refine ⟨by rw [hlen, List.length_cons]; omega, ?_⟩
    repeat' (first | refine qgs ?_ | refine eD ?_ ?_ <;> intro)
    refine ⟨[di (0 : Nat)], hget2 _, ?_⟩
    refine ex_is (rN ((l ++ [(c + x + y) % 2]) ++ (c + x + y) / 2 :: List.replicate (n - (i + 1)) 0)) (hset2 ((c + x + y) % 2) ((c + x + y) / 2) 0 _) ?_
    repeat' (first | refine aI ((i + 1 : Nat) : Int) ?_ | refine aU ((i + 1 : Nat) : Int) ?_ | refine aB ((i + 1 : Nat) : Int) ?_ | refine qg1 ?_ | refine eD ?_ ?_ <;> intro)
    exact ex_round (i + 1, (c + x + y) / 2, l ++ [(c + x + y) % 2]) ⟨by omega, by simp [hl], by omega, by rw [List.append_assoc]; exact he⟩ (by show _ - _ < _ - _; omega) sS
   ·rw [List.drop_eq_nil_of_le (show b.length ≤ i by omega), plusF] at he
    repeat' (first | refine aI ((i + 1 : Nat) : Int) ?_ | refine aU ((i + 1 : Nat) : Int) ?_ | refine aB ((i + 1 : Nat) : Int) ?_ | refine aI ((c + x : Nat) : Int) ?_ | refine aU ((c + x : Nat) : Int) ?_ | refine aB ((c + x : Nat) : Int) ?_ | refine (ex_is (((c + x) % 2 : Nat) : Int) rfl) ?_ | refine (ex_row i x rfl hx) ?_ | refine (ex_is _ hlb) ?_ | refine (ex_is _ hla) ?_ | refine qg1 ?_ | refine eD ?_ ?_ <;> intro)
    refine ⟨by rw [hlen, List.length_cons]; omega, ?_⟩
    repeat' (first | refine qgs ?_ | refine eD ?_ ?_ <;> intro)
    refine ⟨[di c], hget1, ?_⟩
    refine ex_is (rN (l ++ (c + x) % 2 :: 0 :: List.replicate (n - (i + 1)) 0)) (hset ((c + x) % 2) c _) ?_
    repeat' (first | refine aI ((i + 1 : Nat) : Int) ?_ | refine aU ((i + 1 : Nat) : Int) ?_ | refine aB ((i + 1 : Nat) : Int) ?_ | refine (ex_i64 (((c + x) / 2 : Nat) : Int) rfl (by omega) (by omega)) ?_ | refine qg1 ?_ | refine eD ?_ ?_ <;> intro)
    refine ⟨by rw [hlen, List.length_cons]; omega, ?_⟩
    repeat' (first | refine qgs ?_ | refine eD ?_ ?_ <;> intro)
    refine ⟨[di (0 : Nat)], hget2 _, ?_⟩
    refine ex_is (rN ((l ++ [(c + x) % 2]) ++ (c + x) / 2 :: List.replicate (n - (i + 1)) 0)) (hset2 ((c + x) % 2) ((c + x) / 2) 0 _) ?_
    repeat' (first | refine aI ((i + 1 : Nat) : Int) ?_ | refine aU ((i + 1 : Nat) : Int) ?_ | refine aB ((i + 1 : Nat) : Int) ?_ | refine qg1 ?_ | refine eD ?_ ?_ <;> intro)
    exact ex_round (i + 1, (c + x) / 2, l ++ [(c + x) % 2]) ⟨by omega, by simp [hl], by omega, by rw [List.append_assoc, List.drop_eq_nil_of_le (show b.length ≤ i + 1 by omega)]; exact he⟩ (by show _ - _ < _ - _; omega) sS
  ·have h2 : i < b.length := by rw [← hn] at hin; split at hin <;> omega
   have hy : b[i]? = some b[i] := at_some h2
   have hy1 := hB b[i] (List.getElem_mem _)
   rw [List.drop_eq_nil_of_le (show a.length ≤ i by omega), List.drop_eq_getElem_cons h2] at he
   generalize b[i] = y at *
   rw [plusF] at he
   repeat' (first | refine aI ((i + 1 : Nat) : Int) ?_ | refine aU ((i + 1 : Nat) : Int) ?_ | refine aB ((i + 1 : Nat) : Int) ?_ | refine aI ((c + y : Nat) : Int) ?_ | refine aU ((c + y : Nat) : Int) ?_ | refine aB ((c + y : Nat) : Int) ?_ | refine (ex_is (((c + y) % 2 : Nat) : Int) rfl) ?_ | refine (ex_row i y rfl hy) ?_ | refine (ex_is _ hlb) ?_ | refine (ex_is _ hla) ?_ | refine qg1 ?_ | refine eD ?_ ?_ <;> intro)
   refine ⟨by rw [hlen, List.length_cons]; omega, ?_⟩
   repeat' (first | refine qgs ?_ | refine eD ?_ ?_ <;> intro)
   refine ⟨[di c], hget1, ?_⟩
   refine ex_is (rN (l ++ (c + y) % 2 :: 0 :: List.replicate (n - (i + 1)) 0)) (hset ((c + y) % 2) c _) ?_
   repeat' (first | refine aI ((i + 1 : Nat) : Int) ?_ | refine aU ((i + 1 : Nat) : Int) ?_ | refine aB ((i + 1 : Nat) : Int) ?_ | refine (ex_i64 (((c + y) / 2 : Nat) : Int) rfl (by omega) (by omega)) ?_ | refine qg1 ?_ | refine eD ?_ ?_ <;> intro)
   refine ⟨by rw [hlen, List.length_cons]; omega, ?_⟩
   repeat' (first | refine qgs ?_ | refine eD ?_ ?_ <;> intro)
   refine ⟨[di (0 : Nat)], hget2 _, ?_⟩
   refine ex_is (rN ((l ++ [(c + y) % 2]) ++ (c + y) / 2 :: List.replicate (n - (i + 1)) 0)) (hset2 ((c + y) % 2) ((c + y) / 2) 0 _) ?_
   repeat' (first | refine aI ((i + 1 : Nat) : Int) ?_ | refine aU ((i + 1 : Nat) : Int) ?_ | refine aB ((i + 1 : Nat) : Int) ?_ | refine qg1 ?_ | refine eD ?_ ?_ <;> intro)
   exact ex_round (i + 1, (c + y) / 2, l ++ [(c + y) % 2]) ⟨by omega, by simp [hl], by omega, by rw [List.append_assoc, List.drop_eq_nil_of_le (show a.length ≤ i + 1 by omega)]; exact he⟩ (by show _ - _ < _ - _; omega) sS
 ·have hin : i = n := by omega
  subst hin
  rw [List.drop_eq_nil_of_le hnn.1, List.drop_eq_nil_of_le hnn.2.1, plusF] at he
  subst he
  rw [Nat.sub_self]
  repeat' (first | refine qgs ?_ | refine eD ?_ ?_ <;> intro)
  exact TLe.rfl
theorem num_step {n j x : Nat} (hj : j ≤ 63) (hx : x ≤ 1) (h : n * 2 ^ (j + 1) < 18446744073709551616) : (n + n + x) * 2 ^ j < 18446744073709551616 := by
 have e0 : (18446744073709551616 : Nat) = 2 ^ 64 := by decide
 have e : (2 : Nat) ^ 64 = 2 ^ (63 - j) * 2 ^ (j + 1) := by rw [← Nat.pow_add, show 63 - j + (j + 1) = 64 by omega]
 rw [e0, e] at h
 have h2 : n < 2 ^ (63 - j) := Nat.lt_of_mul_lt_mul_right h
 have e2 : (2 : Nat) ^ 64 = (2 ^ (63 - j) * 2) * 2 ^ j := by rw [e, Nat.pow_succ, Nat.mul_assoc, Nat.mul_comm 2]
 rw [e0, e2]
 exact Nat.mul_lt_mul_of_pos_right (by omega) (Nat.two_pow_pos j)
theorem num_zero {n j : Nat} (hj : 63 < j) (h : n * 2 ^ (j + 1) < 18446744073709551616) : n = 0 := by
 rcases n with _ | n
 ·rfl
 ·exfalso
  have h1 : (2 : Nat) ^ 64 ≤ 2 ^ (j + 1) := Nat.pow_le_pow_right (by omega) (by omega)
  have h2 : 2 ^ (j + 1) ≤ (n + 1) * 2 ^ (j + 1) := Nat.le_mul_of_pos_left _ (by omega)
  have e0 : (18446744073709551616 : Nat) = 2 ^ 64 := by decide
  omega
def rnumF (l : List Nat) : Nat × Nat := if valL l < 18446744073709551616 then (valL l, 0) else (0, 5)
set_option maxHeartbeats 4000000 in
theorem rNumber_c (l : List Nat) (hl : l.length ≤ 100000) (hB : BitL l) : CallsA Tryz.prog Γ0 137 [c1 (dN l)] (.tup [c1 (du (rnumF l).1), c1 (di (rnumF l).2)]) := by
 have hll := rN_len l
 refine fn_rule (C := ⟨Tryz.prog, layF, Tryz.f137.ntmps, Γ0, 0, [], []⟩) layF_ok mixed Tryz.func137 rfl (by kernel_rfl) rfl rfl rfl ?_
 repeat' (first | refine (ex_is _ hll) ?_ | refine qg1 ?_ | refine eD ?_ ?_ <;> intro)
 refine ex_loop (X := Nat × Nat × Int) (fun ⟨k, n, z⟩ => ⟨[(0, .o (c1 (dN l))), (4, Tu n), (5, Ti z)], [], 0⟩) (fun x => x.1) (fun ⟨k, n, z⟩ => z = (k : Int) - 1 ∧ k ≤ l.length ∧ n = valL (l.drop k) ∧ n * 2 ^ k < 18446744073709551616) (l.length, 0, (l.length : Int) - 1) ⟨rfl, Nat.le_refl _, by rw [List.drop_length]; rfl, by omega⟩ sS ?_
 rintro ⟨k, n, z⟩ ⟨hz, hk, hn, hnb⟩
 rcases k with _ | j
 ·have hF : rnumF l = (n, 0) := by
   unfold rnumF
   rw [List.drop_zero] at hn
   rw [← hn, if_pos (by omega)]
  rw [hF]
  repeat' (first | refine qgs ?_ | refine eD ?_ ?_ <;> intro)
  exact TLe.rfl
 ·obtain rfl : z = (j : Int) := by omega
  have hj : j < l.length := by omega
  have hx : l[j]? = some l[j] := at_some hj
  have hx1 := hB l[j] (List.getElem_mem _)
  have hd := valL_drop hx
  generalize l[j] = x at *
  rw [← hn] at hd
  by_cases h63 : 63 < j
  ·obtain rfl := num_zero h63 hnb
   have hx2 : x = 1 ∨ x = 0 := by omega
   rcases hx2 with rfl | rfl
   ·have hF : rnumF l = (0, 5) := by
     unfold rnumF
     have h1 := valL_le l j
     have h2 : (2 : Nat) ^ 64 ≤ 2 ^ j := Nat.pow_le_pow_right (by omega) (by omega)
     have e0 : (18446744073709551616 : Nat) = 2 ^ 64 := by decide
     rw [hd] at h1
     rw [if_neg (by omega)]
    rw [hF]
    repeat' (first | refine (ex_row j 1 rfl hx) ?_ | refine qg1 ?_ | refine eD ?_ ?_ <;> intro)
    exact TLe.rfl
   ·repeat' (first | refine aI ((j : Int) - 1) ?_ | refine aU ((j : Int) - 1) ?_ | refine aB ((j : Int) - 1) ?_ | refine (ex_row j 0 rfl hx) ?_ | refine qg1 ?_ | refine eD ?_ ?_ <;> intro)
    exact ex_round (j, 0, (j : Int) - 1) ⟨rfl, by omega, by omega, by omega⟩ (by show j < j + 1; omega) sS
  ·have hs := num_step (by omega) hx1 hnb
   have hs2 : n + n + x < 18446744073709551616 := Nat.lt_of_le_of_lt (Nat.le_mul_of_pos_right _ (Nat.two_pow_pos j)) hs
   repeat' (first | refine aI ((n + n + x : Nat) : Int) ?_ | refine aU ((n + n + x : Nat) : Int) ?_ | refine aB ((n + n + x : Nat) : Int) ?_ | refine aI ((x : Nat) : Int) ?_ | refine aU ((x : Nat) : Int) ?_ | refine aB ((x : Nat) : Int) ?_ | refine aI ((n + n : Nat) : Int) ?_ | refine aU ((n + n : Nat) : Int) ?_ | refine aB ((n + n : Nat) : Int) ?_ | refine aI ((j : Int) - 1) ?_ | refine aU ((j : Int) - 1) ?_ | refine aB ((j : Int) - 1) ?_ | refine (ex_row j x rfl hx) ?_ | refine qg1 ?_ | refine eD ?_ ?_ <;> intro)
   exact ex_round (j, n + n + x, (j : Int) - 1) ⟨rfl, by omega, by omega, hs⟩ (by show j < j + 1; omega) sS
end Go.Proofs.YtoingpafcodojaaGreatDoor

namespace Go.Proofs.YtoingpafcodojaaGreatDoor
open Go.RowKit

abbrev N64 : Nat := 18446744073709551616
def numV (v : Nat) : Nat × Nat := if v < 18446744073709551616 then (v, 0) else (0, 5)
theorem rnumF_val (l : List Nat) : rnumF l = numV (valL l) := rfl
abbrev opT (p : Nat × Nat) : TV := .tup [c1 (du p.1), c1 (di p.2)]
theorem pow64 : (18446744073709551616 : Nat) = 2 ^ 64 := by decide
theorem radd_c (a b : Nat) (ha : a < 18446744073709551616) (hb : b < 18446744073709551616) : CallsA Tryz.prog Γ0 99 [c1 (du a), c1 (du b)] (opT (numV (a + b))) := by
 have h1 := bits_c a ha
 have h2 := bits_c b hb
 have h3 := plus_c (bitsN 64 a) (bitsN 64 b) (by rw [bits_len]; omega) (by rw [bits_len]; omega) (bits_bit _ _) (bits_bit _ _)
 have h4 := rNumber_c (plusF 0 (bitsN 64 a) (bitsN 64 b)) (by rw [plus_len, bits_len, bits_len, if_neg (by omega)]; omega) (plus_bit _ _ _ (by omega) (bits_bit _ _) (bits_bit _ _))
 rw [rnumF_val, plus_val, bits_val 64 a (by rw [← pow64]; exact ha), bits_val 64 b (by rw [← pow64]; exact hb), Nat.zero_add] at h4
 refine fn_rule (C := ⟨Tryz.prog, layF, Tryz.f99.ntmps, Γ0, 0, [], []⟩) layF_ok mixed Tryz.func99 rfl (by kernel_rfl) rfl rfl rfl ?_
 repeat' (first | refine ex_call h4 ?_ | refine ex_call h3 ?_ | refine ex_call h2 ?_ | refine ex_call h1 ?_ | refine qg1 ?_ | refine eD ?_ ?_ <;> intro)
 exact TLe.rfl
def subV (a b : Nat) : Nat × Nat := if a < b then (0, 5) else (a - b, 0)
theorem rsub_c (a b : Nat) (ha : a < 18446744073709551616) (hb : b < 18446744073709551616) : CallsA Tryz.prog Γ0 100 [c1 (du a), c1 (du b)] (opT (subV a b)) := by
 refine fn_rule (C := ⟨Tryz.prog, layF, Tryz.f100.ntmps, Γ0, 0, [], []⟩) layF_ok mixed Tryz.func100 rfl (by kernel_rfl) rfl rfl rfl ?_
 unfold subV
 by_cases h : a < b
 ·rw [if_pos h]
  repeat' (first | refine qgs ?_ | refine eD ?_ ?_ <;> intro)
  exact TLe.rfl
 ·rw [if_neg h]
  repeat' (first | refine aI ((a - b : Nat) : Int) ?_ | refine aU ((a - b : Nat) : Int) ?_ | refine aB ((a - b : Nat) : Int) ?_ | refine qg1 ?_ | refine eD ?_ ?_ <;> intro)
  exact TLe.rfl
theorem rdiv_c (a b : Nat) (ha : a < 18446744073709551616) (hb : b < 18446744073709551616) : CallsA Tryz.prog Γ0 102 [c1 (du a), c1 (du b)] (.tup [c1 (du (a / b : Nat)), c1 (du (if b = 0 then 0 else a % b : Nat)), c1 (di (if b = 0 then 6 else 0))]) := by
 refine fn_rule (C := ⟨Tryz.prog, layF, Tryz.f102.ntmps, Γ0, 0, [], []⟩) layF_ok mixed Tryz.func102 rfl (by kernel_rfl) rfl rfl rfl ?_
 by_cases h : b = 0
 ·subst h
  rw [if_pos rfl, if_pos rfl, Nat.div_zero]
  repeat' (first | refine qgs ?_ | refine eD ?_ ?_ <;> intro)
  exact TLe.rfl
 ·rw [if_neg h, if_neg h]
  have h1 := Nat.div_add_mod' a b
  have h2 := Nat.div_le_self a b
  have h4 : (a : Int).tdiv (b : Int) = ((a / b : Nat) : Int) := rfl
  generalize a % b = r at *
  generalize a / b = q at *
  generalize hp : q * b = p at *
  have hp2 : (q : Int) * (b : Int) = (p : Int) := by rw [← hp, Int.natCast_mul]
  repeat' (first | refine aI ((r : Nat) : Int) ?_ | refine aU ((r : Nat) : Int) ?_ | refine aB ((r : Nat) : Int) ?_ | refine (ex_u64 ((p : Nat) : Int) hp2 (by omega) (by omega)) ?_ | refine (ex_u64 ((q : Nat) : Int) h4 (by omega) (by omega)) ?_ | refine qg1 ?_ | refine eD ?_ ?_ <;> intro)
  exact TLe.rfl
def shrV (a n : Nat) : Nat × Nat := if 63 < n then (0, 5) else (a / 2 ^ n, 0)
theorem rshr_c (a n : Nat) (ha : a < 18446744073709551616) (hn : n < 18446744073709551616) : CallsA Tryz.prog Γ0 104 [c1 (du a), c1 (du n)] (opT (shrV a n)) := by
 refine fn_rule (C := ⟨Tryz.prog, layF, Tryz.f104.ntmps, Γ0, 0, [], []⟩) layF_ok mixed Tryz.func104 rfl (by kernel_rfl) rfl rfl rfl ?_
 unfold shrV
 by_cases h : 63 < n
 ·rw [if_pos h]
  repeat' (first | refine qgs ?_ | refine eD ?_ ?_ <;> intro)
  exact TLe.rfl
 ·rw [if_neg h]
  repeat' (first | refine qgs ?_ | refine eD ?_ ?_ <;> intro)
  refine ex_loop (X := Nat × Nat) (fun ⟨i, c⟩ => ⟨[(0, Tu c), (1, Tu n), (6, Tu i)], [], 0⟩) (fun x => n - x.1) (fun ⟨i, c⟩ => i ≤ n ∧ c < 18446744073709551616 ∧ c = a / 2 ^ i) (0, a) ⟨Nat.zero_le _, ha, by simp⟩ sS ?_
  rintro ⟨i, c⟩ ⟨hi, hc, he⟩
  refine ex_dec (fun h2 => ?_) (fun h2 => ?_)
  ·have hin : i < n := by omega
   repeat' (first | refine aI ((i + 1 : Nat) : Int) ?_ | refine aU ((i + 1 : Nat) : Int) ?_ | refine aB ((i + 1 : Nat) : Int) ?_ | refine (ex_u64 ((c / 2 : Nat) : Int) rfl (by omega) (by omega)) ?_ | refine qg1 ?_ | refine eD ?_ ?_ <;> intro)
   exact ex_round (i + 1, c / 2) ⟨by omega, by omega, by rw [he, Nat.div_div_eq_div_mul, Nat.pow_succ]⟩ (by show _ - _ < _ - _; omega) sS
  ·have hin : i = n := by omega
   subst hin
   subst he
   repeat' (first | refine qgs ?_ | refine eD ?_ ?_ <;> intro)
   exact TLe.rfl
def shlV (a n : Nat) : Nat × Nat := if 63 < n then (0, 5) else numV (a * 2 ^ n)
theorem rshl_c (a n : Nat) (ha : a < 18446744073709551616) (hn : n < 18446744073709551616) : CallsA Tryz.prog Γ0 103 [c1 (du a), c1 (du n)] (opT (shlV a n)) := by
 refine fn_rule (C := ⟨Tryz.prog, layF, Tryz.f103.ntmps, Γ0, 0, [], []⟩) layF_ok mixed Tryz.func103 rfl (by kernel_rfl) rfl rfl rfl ?_
 unfold shlV
 by_cases h : 63 < n
 ·rw [if_pos h]
  repeat' (first | refine qgs ?_ | refine eD ?_ ?_ <;> intro)
  exact TLe.rfl
 ·rw [if_neg h]
  repeat' (first | refine qgs ?_ | refine eD ?_ ?_ <;> intro)
  refine ex_loop (X := Nat × Nat) (fun ⟨i, c⟩ => ⟨[(0, Tu c), (1, Tu n), (6, Tu i)], [], 0⟩) (fun x => n - x.1) (fun ⟨i, c⟩ => i ≤ n ∧ c < 18446744073709551616 ∧ c = a * 2 ^ i) (0, a) ⟨Nat.zero_le _, ha, by simp⟩ sS ?_
  rintro ⟨i, c⟩ ⟨hi, hc, he⟩
  refine ex_dec (fun h2 => ?_) (fun h2 => ?_)
  ·have hin : i < n := by omega
   by_cases hbig : 9223372036854775807 < c
   ·have hV : numV (a * 2 ^ n) = (0, 5) := by
     unfold numV
     have h3 : 2 ^ (i + 1) ≤ 2 ^ n := Nat.pow_le_pow_right (by omega) (by omega)
     have h4 := Nat.mul_le_mul_left a h3
     rw [Nat.pow_succ, ← Nat.mul_assoc, ← he] at h4
     rw [if_neg (by omega)]
    rw [hV]
    repeat' (first | refine qgs ?_ | refine eD ?_ ?_ <;> intro)
    exact TLe.rfl
   ·repeat' (first | refine aI ((i + 1 : Nat) : Int) ?_ | refine aU ((i + 1 : Nat) : Int) ?_ | refine aB ((i + 1 : Nat) : Int) ?_ | refine aI ((c + c : Nat) : Int) ?_ | refine aU ((c + c : Nat) : Int) ?_ | refine aB ((c + c : Nat) : Int) ?_ | refine qg1 ?_ | refine eD ?_ ?_ <;> intro)
    exact ex_round (i + 1, c + c) ⟨by omega, by omega, by rw [Nat.pow_succ, ← Nat.mul_assoc, ← he]; omega⟩ (by show _ - _ < _ - _; omega) sS
  ·have hin : i = n := by omega
   subst hin
   have hV : numV (a * 2 ^ i) = (c, 0) := by
    unfold numV
    rw [← he, if_pos hc]
   rw [hV]
   repeat' (first | refine qgs ?_ | refine eD ?_ ?_ <;> intro)
   exact TLe.rfl
theorem truth_c (b : Bool) : CallsA Tryz.prog Γ0 74 [c1 (db b)] (.o (c1 (du (if b then 1 else 0)))) := by
 refine fn_rule (C := ⟨Tryz.prog, layF, Tryz.f74.ntmps, Γ0, 0, [], []⟩) layF_ok mixed Tryz.func74 rfl (by kernel_rfl) rfl rfl rfl ?_
 cases b
 ·repeat' (first | refine qgs ?_ | refine eD ?_ ?_ <;> intro)
  exact TLe.rfl
 ·repeat' (first | refine qgs ?_ | refine eD ?_ ?_ <;> intro)
  exact TLe.rfl
end Go.Proofs.YtoingpafcodojaaGreatDoor

namespace Go.Proofs.YtoingpafcodojaaGreatDoor
open Go.RowKit

def boB (e : Bool) (s : Nat) : Nat := if s = 2 ∨ (e = true ∧ s = 1) then 1 else 0
def boV (e : Bool) : List Nat → List Nat → Nat
 | x :: a, y :: b => boB e (x + y) + 2 * boV e a b
 | _, _ => 0
theorem boV_drop {e : Bool} {a b : List Nat} {j x y : Nat} (h1 : a[j]? = some x) (h2 : b[j]? = some y) : boV e (a.drop j) (b.drop j) = boB e (x + y) + 2 * boV e (a.drop (j + 1)) (b.drop (j + 1)) := by
 obtain ⟨hj, rfl⟩ := List.getElem?_eq_some_iff.1 h1
 obtain ⟨hk, rfl⟩ := List.getElem?_eq_some_iff.1 h2
 rw [List.drop_eq_getElem_cons hj, List.drop_eq_getElem_cons hk, boV]
theorem boB_le (e : Bool) (s : Nat) : boB e s ≤ 1 := by unfold boB; split <;> omega
set_option maxHeartbeats 4000000 in
theorem both_c (a b : Nat) (e : Bool) (ha : a < 18446744073709551616) (hb : b < 18446744073709551616) : CallsA Tryz.prog Γ0 105 [c1 (du a), c1 (du b), c1 (db e)] (.o (c1 (du (boV e (bitsN 64 a) (bitsN 64 b))))) := by
 have h1 := bits_c a ha
 have h2 := bits_c b hb
 have hA := bits_bit 64 a
 have hB := bits_bit 64 b
 have hAl := bits_len 64 a
 have hBl := bits_len 64 b
 generalize bitsN 64 a = A at *
 generalize bitsN 64 b = B at *
 refine fn_rule (C := ⟨Tryz.prog, layF, Tryz.f105.ntmps, Γ0, 0, [], []⟩) layF_ok mixed Tryz.func105 rfl (by kernel_rfl) rfl rfl rfl ?_
 repeat' (first | refine ex_call h2 ?_ | refine ex_call h1 ?_ | refine qg1 ?_ | refine eD ?_ ?_ <;> intro)
 refine ex_loop (X := Nat × Nat × Int) (fun ⟨k, n, z⟩ => ⟨[(2, Tb e), (7, .o (c1 (dN A))), (8, .o (c1 (dN B))), (9, Tu n), (10, Ti z)], [], 0⟩) (fun x => x.1) (fun ⟨k, n, z⟩ => z = (k : Int) - 1 ∧ k ≤ 64 ∧ n = boV e (A.drop k) (B.drop k) ∧ n * 2 ^ k < 18446744073709551616) (64, 0, 63) ⟨rfl, Nat.le_refl _, by rw [List.drop_eq_nil_of_le (by omega)]; rfl, by rw [Nat.zero_mul]; decide⟩ sS ?_
 rintro ⟨k, n, z⟩ ⟨hz, hk, hn, hnb⟩
 rcases k with _ | j
 ·rw [List.drop_zero, List.drop_zero] at hn
  subst hn
  repeat' (first | refine qgs ?_ | refine eD ?_ ?_ <;> intro)
  exact TLe.rfl
 ·obtain rfl : z = (j : Int) := by omega
  have hx : A[j]? = some A[j] := at_some (by omega)
  have hy : B[j]? = some B[j] := at_some (by omega)
  have hx1 := hA A[j] (List.getElem_mem _)
  have hy1 := hB B[j] (List.getElem_mem _)
  have hd := boV_drop (e := e) hx hy
  generalize A[j] = x at *
  generalize B[j] = y at *
  rw [← hn] at hd
  have hbl := boB_le e (x + y)
  have hs := num_step (by omega) hbl hnb
  have hs2 : n + n + boB e (x + y) < 18446744073709551616 := Nat.lt_of_le_of_lt (Nat.le_mul_of_pos_right _ (Nat.two_pow_pos j)) hs
  have hxy : x + y = 0 ∨ x + y = 1 ∨ x + y = 2 := by omega
  have hn1 : boV e (A.drop j) (B.drop j) = n + n + boB e (x + y) := by omega
  rcases hxy with h0 | h0 | h0 <;> rw [h0] at hs hs2 hn1 <;> cases e
  ·rw [show boB false 0 = 0 from rfl] at hs hs2 hn1
   repeat' (first | refine aI ((n + n : Nat) : Int) ?_ | refine aU ((n + n : Nat) : Int) ?_ | refine aB ((n + n : Nat) : Int) ?_ | refine aI (0 : Int) ?_ | refine aU (0 : Int) ?_ | refine aB (0 : Int) ?_ | refine aI ((j : Int) - 1) ?_ | refine aU ((j : Int) - 1) ?_ | refine aB ((j : Int) - 1) ?_ | refine (ex_row j y rfl hy) ?_ | refine (ex_row j x rfl hx) ?_ | refine qg1 ?_ | refine eD ?_ ?_ <;> intro)
   exact ex_round (j, n + n, (j : Int) - 1) ⟨rfl, by omega, hn1.symm, hs⟩ (by show j < j + 1; omega) sS
  ·rw [show boB true 0 = 0 from rfl] at hs hs2 hn1
   repeat' (first | refine aI ((n + n : Nat) : Int) ?_ | refine aU ((n + n : Nat) : Int) ?_ | refine aB ((n + n : Nat) : Int) ?_ | refine aI (0 : Int) ?_ | refine aU (0 : Int) ?_ | refine aB (0 : Int) ?_ | refine aI ((j : Int) - 1) ?_ | refine aU ((j : Int) - 1) ?_ | refine aB ((j : Int) - 1) ?_ | refine (ex_row j y rfl hy) ?_ | refine (ex_row j x rfl hx) ?_ | refine qg1 ?_ | refine eD ?_ ?_ <;> intro)
   exact ex_round (j, n + n, (j : Int) - 1) ⟨rfl, by omega, hn1.symm, hs⟩ (by show j < j + 1; omega) sS
  ·rw [show boB false 1 = 0 from rfl] at hs hs2 hn1
   repeat' (first | refine aI ((n + n : Nat) : Int) ?_ | refine aU ((n + n : Nat) : Int) ?_ | refine aB ((n + n : Nat) : Int) ?_ | refine aI (1 : Int) ?_ | refine aU (1 : Int) ?_ | refine aB (1 : Int) ?_ | refine aI ((j : Int) - 1) ?_ | refine aU ((j : Int) - 1) ?_ | refine aB ((j : Int) - 1) ?_ | refine (ex_row j y rfl hy) ?_ | refine (ex_row j x rfl hx) ?_ | refine qg1 ?_ | refine eD ?_ ?_ <;> intro)
   exact ex_round (j, n + n, (j : Int) - 1) ⟨rfl, by omega, hn1.symm, hs⟩ (by show j < j + 1; omega) sS
  ·rw [show boB true 1 = 1 from rfl] at hs hs2 hn1
   repeat' (first | refine aI ((n + n + 1 : Nat) : Int) ?_ | refine aU ((n + n + 1 : Nat) : Int) ?_ | refine aB ((n + n + 1 : Nat) : Int) ?_ | refine aI ((n + n : Nat) : Int) ?_ | refine aU ((n + n : Nat) : Int) ?_ | refine aB ((n + n : Nat) : Int) ?_ | refine aI (1 : Int) ?_ | refine aU (1 : Int) ?_ | refine aB (1 : Int) ?_ | refine aI ((j : Int) - 1) ?_ | refine aU ((j : Int) - 1) ?_ | refine aB ((j : Int) - 1) ?_ | refine (ex_row j y rfl hy) ?_ | refine (ex_row j x rfl hx) ?_ | refine qg1 ?_ | refine eD ?_ ?_ <;> intro)
   exact ex_round (j, n + n + 1, (j : Int) - 1) ⟨rfl, by omega, hn1.symm, hs⟩ (by show j < j + 1; omega) sS
  ·rw [show boB false 2 = 1 from rfl] at hs hs2 hn1
   repeat' (first | refine aI ((n + n + 1 : Nat) : Int) ?_ | refine aU ((n + n + 1 : Nat) : Int) ?_ | refine aB ((n + n + 1 : Nat) : Int) ?_ | refine aI ((n + n : Nat) : Int) ?_ | refine aU ((n + n : Nat) : Int) ?_ | refine aB ((n + n : Nat) : Int) ?_ | refine aI (2 : Int) ?_ | refine aU (2 : Int) ?_ | refine aB (2 : Int) ?_ | refine aI ((j : Int) - 1) ?_ | refine aU ((j : Int) - 1) ?_ | refine aB ((j : Int) - 1) ?_ | refine (ex_row j y rfl hy) ?_ | refine (ex_row j x rfl hx) ?_ | refine qg1 ?_ | refine eD ?_ ?_ <;> intro)
   exact ex_round (j, n + n + 1, (j : Int) - 1) ⟨rfl, by omega, hn1.symm, hs⟩ (by show j < j + 1; omega) sS
  ·rw [show boB true 2 = 1 from rfl] at hs hs2 hn1
   repeat' (first | refine aI ((n + n + 1 : Nat) : Int) ?_ | refine aU ((n + n + 1 : Nat) : Int) ?_ | refine aB ((n + n + 1 : Nat) : Int) ?_ | refine aI ((n + n : Nat) : Int) ?_ | refine aU ((n + n : Nat) : Int) ?_ | refine aB ((n + n : Nat) : Int) ?_ | refine aI (2 : Int) ?_ | refine aU (2 : Int) ?_ | refine aB (2 : Int) ?_ | refine aI ((j : Int) - 1) ?_ | refine aU ((j : Int) - 1) ?_ | refine aB ((j : Int) - 1) ?_ | refine (ex_row j y rfl hy) ?_ | refine (ex_row j x rfl hx) ?_ | refine qg1 ?_ | refine eD ?_ ?_ <;> intro)
   exact ex_round (j, n + n + 1, (j : Int) - 1) ⟨rfl, by omega, hn1.symm, hs⟩ (by show j < j + 1; omega) sS
end Go.Proofs.YtoingpafcodojaaGreatDoor
