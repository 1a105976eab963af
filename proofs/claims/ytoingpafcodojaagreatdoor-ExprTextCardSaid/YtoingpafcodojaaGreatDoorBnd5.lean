/- Texts that the last one leans on: The document's layer 1: products, every operator. No condition. The document's layer 1: every operator. No condition. The document's operators. No condition. The document's own reckoning of one expression. Condition: numbers below 2^64. The document's reckoning of all expressions up to a place. Condition: numbers below 2^64. Plain law of ParseOrder: each expression and type is made of such as stand ahead of it, and is part of just one. Condition: none. Plain law of the parser: how long the lists of a file are, how great its numbers. Printed by genynm.py. Condition: the tokens' numbers are below 2^64. The document's parser as a plain law: it goes on with its error set; what it tells is what the plain parser tells. Condition: the last token, and it alone, may be the end. The document's parser, part by part, tells what the plain parser tells. Conditions: the last token, and it alone, may be the end; the end has no text. The document's parser: its data as the engine reads it; its small functions. Conditions: the place within the tokens. The document's words: Integer, Keyword, Level. No condition. The document's parser: names, numbers, what may begin; rows. Conditions: the place within the tokens. The document's parser: where an operand may begin. Conditions: the place within the tokens. The document's parser: where a type may begin. Conditions: the place within the tokens. The document's parser: operands. Conditions: the tokens end with the end;  -/
import Derived.Test.YtoingpafcodojaaGreatDoorBnd1
import Derived.Test.YtoingpafcodojaaGreatDoorBnd2
import Derived.Test.YtoingpafcodojaaGreatDoorBnd3
import Derived.Test.YtoingpafcodojaaGreatDoorBnd4
set_option linter.unusedVariables false
set_option linter.unusedSimpArgs false
set_option maxRecDepth 100000
namespace Go.Proofs.YtoingpafcodojaaGreatDoor
open Go.RowKit

theorem valL_zero (l : List Nat) : valL (0 :: l) = 2 * valL l := by rw [valL, Nat.zero_add]
set_option maxHeartbeats 4000000 in
theorem rmul_c (a b : Nat) (ha : a < 18446744073709551616) (hb : b < 18446744073709551616) : CallsA Tryz.prog Γ0 101 [c1 (du a), c1 (du b)] (opT (numV (a * b))) := by
 have h1 := bits_c a ha
 have h2 := bits_c b hb
 have hB := bits_bit 64 b
 have hBl := bits_len 64 b
 have hBv := bits_val 64 b (by rw [← pow64]; exact hb)
 have hA := bits_bit 64 a
 have hAl := bits_len 64 a
 have hAv := bits_val 64 a (by rw [← pow64]; exact ha)
 generalize bitsN 64 a = A at *
 generalize bitsN 64 b = B at *
 refine fn_rule (C := ⟨Tryz.prog, layF, Tryz.f101.ntmps, Γ0, 0, [], [9]⟩) layF_ok mixed Tryz.func101 rfl (by kernel_rfl) rfl rfl rfl ?_
 repeat' (first | refine ex_call h2 ?_ | refine ex_call h1 ?_ | refine qg1 ?_ | refine eD ?_ ?_ <;> intro)
 refine ex_loop (X := Nat × List Nat × List Nat) (fun ⟨i, x, s⟩ => ⟨[(6, .o (c1 (dN x))), (7, .o (c1 (dN B))), (8, .o (c1 (dN s))), (9, Ti i)], [], 1⟩) (fun y => 64 - y.1)
  (fun ⟨i, x, s⟩ => i ≤ 64 ∧ x.length = 64 + i ∧ BitL x ∧ BitL s ∧ s.length ≤ 65 + i ∧ valL s + valL x * valL (B.drop i) = a * b) (0, A, []) ⟨Nat.zero_le _, by omega, hA, (fun x h => by cases h), by simp, by rw [List.drop_zero, hAv, hBv]; simp [valL]⟩ (SLe.trans sS (SLe.still 0 1 3 [] rfl)) ?_
 rintro ⟨i, x, s⟩ ⟨hi, hxl, hX, hS, hsl, hv⟩
 refine ex_dec (fun h => ?_) (fun h => ?_)
 ·have hi6 : i < 64 := by omega
  have hy : B[i]? = some B[i] := at_some (by omega)
  have hy1 := hB B[i] (List.getElem_mem _)
  have hd := valL_drop hy
  generalize B[i] = y at *
  have hp := plus_c s x (by omega) (by omega) hS hX
  have hxm := rN_len x
  repeat' (first | refine qgs ?_ | refine eD ?_ ?_ <;> intro)
  refine ex_join (X := List Nat) (fun s' => ⟨[(6, .o (c1 (dN x))), (7, .o (c1 (dN B))), (8, .o (c1 (dN s'))), (9, Ti i)], [], 1⟩) (fun s' => BitL s' ∧ s'.length ≤ 65 + (i + 1) ∧ valL s' = valL s + y * valL x) ?_ ?_
  ·have hy2 : y = 0 ∨ y = 1 := by omega
   rcases hy2 with rfl | rfl
   ·repeat' (first | refine (ex_row i 0 rfl hy) ?_ | refine qg1 ?_ | refine eD ?_ ?_ <;> intro)
    exact ex_meet s ⟨hS, by omega, by omega⟩ sS
   ·repeat' (first | refine ex_call hp ?_ | refine (ex_row i 1 rfl hy) ?_ | refine qg1 ?_ | refine eD ?_ ?_ <;> intro)
    exact ex_meet (plusF 0 s x) ⟨plus_bit _ _ _ (by omega) hS hX, by rw [plus_len]; split <;> omega, by rw [plus_val]; omega⟩ sS
  ·rintro s' ⟨hS', hsl', hsv⟩
   repeat' (first | refine qgs ?_ | refine eD ?_ ?_ <;> intro)
   refine ex_loop (X := Nat) (fun q => ⟨[(6, .o (c1 (dN x))), (7, .o (c1 (dN B))), (8, .o (c1 (dN s'))), (9, Ti i), (10, .o (.c (.row 1))), (11, Ti q)], [(1, .row 1 3 (rN (0 :: x.take q)))], 2⟩) (fun q => x.length - q) (fun q => q ≤ x.length) 0 (Nat.zero_le _) sS ?_
   intro q hq
   by_cases hql : q < x.length
   ·have hz : x[q]? = some x[q] := at_some hql
    have htk : x.take (q + 1) = x.take q ++ [x[q]] := by rw [List.take_add_one, hz]; rfl
    generalize x[q] = z at hz htk
    have htl : (0 :: x.take q).length = q + 1 := by rw [List.length_cons, List.length_take]; omega
    repeat' (first | refine (ex_row q z rfl hz) ?_ | refine (ex_is _ hxm) ?_ | refine qg1 ?_ | refine eD ?_ ?_ <;> intro)
    refine ⟨by rw [rN_len, htl]; show (q + 1 + 1) * (8 + 1) ≤ 140737488355328; omega, ?_⟩
    refine ex_is (rN (0 :: x.take (q + 1))) (by rw [htk]; simp [rN]; rfl) ?_
    repeat' (first | refine aI ((q + 1 : Nat) : Int) ?_ | refine aU ((q + 1 : Nat) : Int) ?_ | refine aB ((q + 1 : Nat) : Int) ?_ | refine qg1 ?_ | refine eD ?_ ?_ <;> intro)
    exact ex_round (q + 1) (by show q + 1 ≤ x.length; omega) (by show _ - _ < _ - _; omega) (sR [(3, 1)])
   ·have hqe : q = x.length := by omega
    have htk : x.take q = x := List.take_of_length_le (by omega)
    repeat' (first | refine aI ((i + 1 : Nat) : Int) ?_ | refine aU ((i + 1 : Nat) : Int) ?_ | refine aB ((i + 1 : Nat) : Int) ?_ | refine (ex_is _ hxm) ?_ | refine qg1 ?_ | refine eD ?_ ?_ <;> intro)
    exact ex_round (i + 1, 0 :: x.take q, s') ⟨by omega, by rw [htk, List.length_cons]; omega, by rw [htk]; exact BitL.mk (by omega) hX, hS', hsl', by
     rw [htk, hsv, valL_zero, Nat.mul_comm y, Nat.mul_comm 2 (valL x), Nat.mul_assoc, Nat.add_assoc]
     rw [hd, Nat.mul_add] at hv
     exact hv⟩ (by show _ - _ < _ - _; omega) (SLe.trans sS (SLe.still 1 1 3 _ rfl))
 ·have hi6 : i = 64 := by omega
  subst hi6
  rw [List.drop_eq_nil_of_le (by omega), show valL [] = 0 from rfl, Nat.mul_zero, Nat.add_zero] at hv
  have hn := rNumber_c s (by omega) hS
  rw [rnumF_val, hv] at hn
  repeat' (first | refine ex_call hn ?_ | refine qg1 ?_ | refine eD ?_ ?_ <;> intro)
  exact TLe.rfl
end Go.Proofs.YtoingpafcodojaaGreatDoor

namespace Go.Proofs.YtoingpafcodojaaGreatDoor
open Go.RowKit

theorem op_add_c (a b : Nat) (ha : a < 18446744073709551616) (hb : b < 18446744073709551616) : CallsA Tryz.prog Γ0 75 [c1 (ds (⟨#[43]⟩ : ByteArray)), c1 (du a), c1 (du b)] (opT (numV (a + b))) := by
 have h := radd_c a b ha hb
 refine fn_rule (C := ⟨Tryz.prog, layF, Tryz.f75.ntmps, Γ0, 0, [], []⟩) layF_ok mixed Tryz.func75 rfl (by kernel_rfl) rfl rfl rfl ?_
 repeat' (first | refine ex_call h ?_ | refine qg1 ?_ | refine eD ?_ ?_ <;> intro)
 exact TLe.rfl
theorem op_sub_c (a b : Nat) (ha : a < 18446744073709551616) (hb : b < 18446744073709551616) : CallsA Tryz.prog Γ0 75 [c1 (ds (⟨#[45]⟩ : ByteArray)), c1 (du a), c1 (du b)] (opT (subV a b)) := by
 have h := rsub_c a b ha hb
 refine fn_rule (C := ⟨Tryz.prog, layF, Tryz.f75.ntmps, Γ0, 0, [], []⟩) layF_ok mixed Tryz.func75 rfl (by kernel_rfl) rfl rfl rfl ?_
 repeat' (first | refine ex_call h ?_ | refine qg1 ?_ | refine eD ?_ ?_ <;> intro)
 exact TLe.rfl
theorem op_mul_c (a b : Nat) (ha : a < 18446744073709551616) (hb : b < 18446744073709551616) : CallsA Tryz.prog Γ0 75 [c1 (ds (⟨#[42]⟩ : ByteArray)), c1 (du a), c1 (du b)] (opT (numV (a * b))) := by
 have h := rmul_c a b ha hb
 refine fn_rule (C := ⟨Tryz.prog, layF, Tryz.f75.ntmps, Γ0, 0, [], []⟩) layF_ok mixed Tryz.func75 rfl (by kernel_rfl) rfl rfl rfl ?_
 repeat' (first | refine ex_call h ?_ | refine qg1 ?_ | refine eD ?_ ?_ <;> intro)
 exact TLe.rfl
theorem op_shl_c (a b : Nat) (ha : a < 18446744073709551616) (hb : b < 18446744073709551616) : CallsA Tryz.prog Γ0 75 [c1 (ds (⟨#[60, 60]⟩ : ByteArray)), c1 (du a), c1 (du b)] (opT (shlV a b)) := by
 have h := rshl_c a b ha hb
 refine fn_rule (C := ⟨Tryz.prog, layF, Tryz.f75.ntmps, Γ0, 0, [], []⟩) layF_ok mixed Tryz.func75 rfl (by kernel_rfl) rfl rfl rfl ?_
 repeat' (first | refine ex_call h ?_ | refine qg1 ?_ | refine eD ?_ ?_ <;> intro)
 exact TLe.rfl
theorem op_shr_c (a b : Nat) (ha : a < 18446744073709551616) (hb : b < 18446744073709551616) : CallsA Tryz.prog Γ0 75 [c1 (ds (⟨#[62, 62]⟩ : ByteArray)), c1 (du a), c1 (du b)] (opT (shrV a b)) := by
 have h := rshr_c a b ha hb
 refine fn_rule (C := ⟨Tryz.prog, layF, Tryz.f75.ntmps, Γ0, 0, [], []⟩) layF_ok mixed Tryz.func75 rfl (by kernel_rfl) rfl rfl rfl ?_
 repeat' (first | refine ex_call h ?_ | refine qg1 ?_ | refine eD ?_ ?_ <;> intro)
 exact TLe.rfl
def divV (a b : Nat) : Nat × Nat := if b = 0 then (0, 6) else (a / b, 0)
def remV (a b : Nat) : Nat × Nat := if b = 0 then (0, 6) else (a % b, 0)
theorem op_div_c (a b : Nat) (ha : a < 18446744073709551616) (hb : b < 18446744073709551616) : CallsA Tryz.prog Γ0 75 [c1 (ds (⟨#[47]⟩ : ByteArray)), c1 (du a), c1 (du b)] (opT (divV a b)) := by
 have h := rdiv_c a b ha hb
 unfold divV
 by_cases hz : b = 0
 ·rw [if_pos hz] at h ⊢
  rw [if_pos hz, hz, Nat.div_zero] at h
  rw [hz]
  refine fn_rule (C := ⟨Tryz.prog, layF, Tryz.f75.ntmps, Γ0, 0, [], []⟩) layF_ok mixed Tryz.func75 rfl (by kernel_rfl) rfl rfl rfl ?_
  repeat' (first | refine ex_call h ?_ | refine qg1 ?_ | refine eD ?_ ?_ <;> intro)
  exact TLe.rfl
 ·rw [if_neg hz] at h ⊢
  rw [if_neg hz] at h
  refine fn_rule (C := ⟨Tryz.prog, layF, Tryz.f75.ntmps, Γ0, 0, [], []⟩) layF_ok mixed Tryz.func75 rfl (by kernel_rfl) rfl rfl rfl ?_
  repeat' (first | refine ex_call h ?_ | refine qg1 ?_ | refine eD ?_ ?_ <;> intro)
  exact TLe.rfl
theorem op_rem_c (a b : Nat) (ha : a < 18446744073709551616) (hb : b < 18446744073709551616) : CallsA Tryz.prog Γ0 75 [c1 (ds (⟨#[37]⟩ : ByteArray)), c1 (du a), c1 (du b)] (opT (remV a b)) := by
 have h := rdiv_c a b ha hb
 unfold remV
 by_cases hz : b = 0
 ·rw [if_pos hz] at h ⊢
  rw [if_pos hz, hz, Nat.div_zero] at h
  rw [hz]
  refine fn_rule (C := ⟨Tryz.prog, layF, Tryz.f75.ntmps, Γ0, 0, [], []⟩) layF_ok mixed Tryz.func75 rfl (by kernel_rfl) rfl rfl rfl ?_
  repeat' (first | refine ex_call h ?_ | refine qg1 ?_ | refine eD ?_ ?_ <;> intro)
  exact TLe.rfl
 ·rw [if_neg hz] at h ⊢
  rw [if_neg hz] at h
  refine fn_rule (C := ⟨Tryz.prog, layF, Tryz.f75.ntmps, Γ0, 0, [], []⟩) layF_ok mixed Tryz.func75 rfl (by kernel_rfl) rfl rfl rfl ?_
  repeat' (first | refine ex_call h ?_ | refine qg1 ?_ | refine eD ?_ ?_ <;> intro)
  exact TLe.rfl
theorem op_and_c (a b : Nat) (ha : a < 18446744073709551616) (hb : b < 18446744073709551616) : CallsA Tryz.prog Γ0 75 [c1 (ds (⟨#[38]⟩ : ByteArray)), c1 (du a), c1 (du b)] (opT (boV false (bitsN 64 a) (bitsN 64 b), 0)) := by
 have h := both_c a b false ha hb
 refine fn_rule (C := ⟨Tryz.prog, layF, Tryz.f75.ntmps, Γ0, 0, [], []⟩) layF_ok mixed Tryz.func75 rfl (by kernel_rfl) rfl rfl rfl ?_
 repeat' (first | refine ex_call h ?_ | refine qg1 ?_ | refine eD ?_ ?_ <;> intro)
 exact TLe.rfl
theorem op_or_c (a b : Nat) (ha : a < 18446744073709551616) (hb : b < 18446744073709551616) : CallsA Tryz.prog Γ0 75 [c1 (ds (⟨#[124]⟩ : ByteArray)), c1 (du a), c1 (du b)] (opT (boV true (bitsN 64 a) (bitsN 64 b), 0)) := by
 have h := both_c a b true ha hb
 refine fn_rule (C := ⟨Tryz.prog, layF, Tryz.f75.ntmps, Γ0, 0, [], []⟩) layF_ok mixed Tryz.func75 rfl (by kernel_rfl) rfl rfl rfl ?_
 repeat' (first | refine ex_call h ?_ | refine qg1 ?_ | refine eD ?_ ?_ <;> intro)
 exact TLe.rfl
theorem op_eq_c (a b : Nat) (ha : a < 18446744073709551616) (hb : b < 18446744073709551616) : CallsA Tryz.prog Γ0 75 [c1 (ds (⟨#[61, 61]⟩ : ByteArray)), c1 (du a), c1 (du b)] (opT (if a = b then 1 else 0, 0)) := by
 have h1 : CallsA Tryz.prog Γ0 _ _ _ := truth_c true
 have h0 : CallsA Tryz.prog Γ0 _ _ _ := truth_c false
 rw [if_pos rfl] at h1
 rw [if_neg (by decide)] at h0
 by_cases hp : a = b
 ·rw [if_pos hp]
  refine fn_rule (C := ⟨Tryz.prog, layF, Tryz.f75.ntmps, Γ0, 0, [], []⟩) layF_ok mixed Tryz.func75 rfl (by kernel_rfl) rfl rfl rfl ?_
  repeat' (first | refine ex_call h0 ?_ | refine ex_call h1 ?_ | refine qg1 ?_ | refine eD ?_ ?_ <;> intro)
  exact TLe.rfl
 ·rw [if_neg hp]
  refine fn_rule (C := ⟨Tryz.prog, layF, Tryz.f75.ntmps, Γ0, 0, [], []⟩) layF_ok mixed Tryz.func75 rfl (by kernel_rfl) rfl rfl rfl ?_
  repeat' (first | refine ex_call h0 ?_ | refine ex_call h1 ?_ | refine qg1 ?_ | refine eD ?_ ?_ <;> intro)
  exact TLe.rfl
theorem op_ne_c (a b : Nat) (ha : a < 18446744073709551616) (hb : b < 18446744073709551616) : CallsA Tryz.prog Γ0 75 [c1 (ds (⟨#[33, 61]⟩ : ByteArray)), c1 (du a), c1 (du b)] (opT (if a ≠ b then 1 else 0, 0)) := by
 have h1 : CallsA Tryz.prog Γ0 _ _ _ := truth_c true
 have h0 : CallsA Tryz.prog Γ0 _ _ _ := truth_c false
 rw [if_pos rfl] at h1
 rw [if_neg (by decide)] at h0
 by_cases hp : a ≠ b
 ·rw [if_pos hp]
  refine fn_rule (C := ⟨Tryz.prog, layF, Tryz.f75.ntmps, Γ0, 0, [], []⟩) layF_ok mixed Tryz.func75 rfl (by kernel_rfl) rfl rfl rfl ?_
  repeat' (first | refine ex_call h0 ?_ | refine ex_call h1 ?_ | refine qg1 ?_ | refine eD ?_ ?_ <;> intro)
  exact TLe.rfl
 ·rw [if_neg hp]
  refine fn_rule (C := ⟨Tryz.prog, layF, Tryz.f75.ntmps, Γ0, 0, [], []⟩) layF_ok mixed Tryz.func75 rfl (by kernel_rfl) rfl rfl rfl ?_
  repeat' (first | refine ex_call h0 ?_ | refine ex_call h1 ?_ | refine qg1 ?_ | refine eD ?_ ?_ <;> intro)
  exact TLe.rfl
theorem op_lt_c (a b : Nat) (ha : a < 18446744073709551616) (hb : b < 18446744073709551616) : CallsA Tryz.prog Γ0 75 [c1 (ds (⟨#[60]⟩ : ByteArray)), c1 (du a), c1 (du b)] (opT (if a < b then 1 else 0, 0)) := by
 have h1 : CallsA Tryz.prog Γ0 _ _ _ := truth_c true
 have h0 : CallsA Tryz.prog Γ0 _ _ _ := truth_c false
 rw [if_pos rfl] at h1
 rw [if_neg (by decide)] at h0
 by_cases hp : a < b
 ·rw [if_pos hp]
  refine fn_rule (C := ⟨Tryz.prog, layF, Tryz.f75.ntmps, Γ0, 0, [], []⟩) layF_ok mixed Tryz.func75 rfl (by kernel_rfl) rfl rfl rfl ?_
  repeat' (first | refine ex_call h0 ?_ | refine ex_call h1 ?_ | refine qg1 ?_ | refine eD ?_ ?_ <;> intro)
  exact TLe.rfl
 ·rw [if_neg hp]
  refine fn_rule (C := ⟨Tryz.prog, layF, Tryz.f75.ntmps, Γ0, 0, [], []⟩) layF_ok mixed Tryz.func75 rfl (by kernel_rfl) rfl rfl rfl ?_
  repeat' (first | refine ex_call h0 ?_ | refine ex_call h1 ?_ | refine qg1 ?_ | refine eD ?_ ?_ <;> intro)
  exact TLe.rfl
theorem op_le_c (a b : Nat) (ha : a < 18446744073709551616) (hb : b < 18446744073709551616) : CallsA Tryz.prog Γ0 75 [c1 (ds (⟨#[60, 61]⟩ : ByteArray)), c1 (du a), c1 (du b)] (opT (if a ≤ b then 1 else 0, 0)) := by
 have h1 : CallsA Tryz.prog Γ0 _ _ _ := truth_c true
 have h0 : CallsA Tryz.prog Γ0 _ _ _ := truth_c false
 rw [if_pos rfl] at h1
 rw [if_neg (by decide)] at h0
 by_cases hp : a ≤ b
 ·rw [if_pos hp]
  refine fn_rule (C := ⟨Tryz.prog, layF, Tryz.f75.ntmps, Γ0, 0, [], []⟩) layF_ok mixed Tryz.func75 rfl (by kernel_rfl) rfl rfl rfl ?_
  repeat' (first | refine ex_call h0 ?_ | refine ex_call h1 ?_ | refine qg1 ?_ | refine eD ?_ ?_ <;> intro)
  exact TLe.rfl
 ·rw [if_neg hp]
  refine fn_rule (C := ⟨Tryz.prog, layF, Tryz.f75.ntmps, Γ0, 0, [], []⟩) layF_ok mixed Tryz.func75 rfl (by kernel_rfl) rfl rfl rfl ?_
  repeat' (first | refine ex_call h0 ?_ | refine ex_call h1 ?_ | refine qg1 ?_ | refine eD ?_ ?_ <;> intro)
  exact TLe.rfl
theorem op_gt_c (a b : Nat) (ha : a < 18446744073709551616) (hb : b < 18446744073709551616) : CallsA Tryz.prog Γ0 75 [c1 (ds (⟨#[62]⟩ : ByteArray)), c1 (du a), c1 (du b)] (opT (if b < a then 1 else 0, 0)) := by
 have h1 : CallsA Tryz.prog Γ0 _ _ _ := truth_c true
 have h0 : CallsA Tryz.prog Γ0 _ _ _ := truth_c false
 rw [if_pos rfl] at h1
 rw [if_neg (by decide)] at h0
 by_cases hp : b < a
 ·rw [if_pos hp]
  refine fn_rule (C := ⟨Tryz.prog, layF, Tryz.f75.ntmps, Γ0, 0, [], []⟩) layF_ok mixed Tryz.func75 rfl (by kernel_rfl) rfl rfl rfl ?_
  repeat' (first | refine ex_call h0 ?_ | refine ex_call h1 ?_ | refine qg1 ?_ | refine eD ?_ ?_ <;> intro)
  exact TLe.rfl
 ·rw [if_neg hp]
  refine fn_rule (C := ⟨Tryz.prog, layF, Tryz.f75.ntmps, Γ0, 0, [], []⟩) layF_ok mixed Tryz.func75 rfl (by kernel_rfl) rfl rfl rfl ?_
  repeat' (first | refine ex_call h0 ?_ | refine ex_call h1 ?_ | refine qg1 ?_ | refine eD ?_ ?_ <;> intro)
  exact TLe.rfl
theorem op_ge_c (a b : Nat) (ha : a < 18446744073709551616) (hb : b < 18446744073709551616) : CallsA Tryz.prog Γ0 75 [c1 (ds (⟨#[62, 61]⟩ : ByteArray)), c1 (du a), c1 (du b)] (opT (if b ≤ a then 1 else 0, 0)) := by
 have h1 : CallsA Tryz.prog Γ0 _ _ _ := truth_c true
 have h0 : CallsA Tryz.prog Γ0 _ _ _ := truth_c false
 rw [if_pos rfl] at h1
 rw [if_neg (by decide)] at h0
 by_cases hp : b ≤ a
 ·rw [if_pos hp]
  refine fn_rule (C := ⟨Tryz.prog, layF, Tryz.f75.ntmps, Γ0, 0, [], []⟩) layF_ok mixed Tryz.func75 rfl (by kernel_rfl) rfl rfl rfl ?_
  repeat' (first | refine ex_call h0 ?_ | refine ex_call h1 ?_ | refine qg1 ?_ | refine eD ?_ ?_ <;> intro)
  exact TLe.rfl
 ·rw [if_neg hp]
  refine fn_rule (C := ⟨Tryz.prog, layF, Tryz.f75.ntmps, Γ0, 0, [], []⟩) layF_ok mixed Tryz.func75 rfl (by kernel_rfl) rfl rfl rfl ?_
  repeat' (first | refine ex_call h0 ?_ | refine ex_call h1 ?_ | refine qg1 ?_ | refine eD ?_ ?_ <;> intro)
  exact TLe.rfl
theorem op_both_c (a b : Nat) (ha : a < 18446744073709551616) (hb : b < 18446744073709551616) : CallsA Tryz.prog Γ0 75 [c1 (ds (⟨#[38, 38]⟩ : ByteArray)), c1 (du a), c1 (du b)] (opT (if a ≠ 0 ∧ b ≠ 0 then 1 else 0, 0)) := by
 have h1 : CallsA Tryz.prog Γ0 _ _ _ := truth_c true
 have h0 : CallsA Tryz.prog Γ0 _ _ _ := truth_c false
 rw [if_pos rfl] at h1
 rw [if_neg (by decide)] at h0
 by_cases ha0 : a = 0
 ·by_cases hb0 : b = 0
  ·rw [if_neg (by omega)]
   refine fn_rule (C := ⟨Tryz.prog, layF, Tryz.f75.ntmps, Γ0, 0, [], []⟩) layF_ok mixed Tryz.func75 rfl (by kernel_rfl) rfl rfl rfl ?_
   repeat' (first | refine ex_call h0 ?_ | refine ex_call h1 ?_ | refine qg1 ?_ | refine eD ?_ ?_ <;> intro)
   exact TLe.rfl
  ·rw [if_neg (by omega)]
   refine fn_rule (C := ⟨Tryz.prog, layF, Tryz.f75.ntmps, Γ0, 0, [], []⟩) layF_ok mixed Tryz.func75 rfl (by kernel_rfl) rfl rfl rfl ?_
   repeat' (first | refine ex_call h0 ?_ | refine ex_call h1 ?_ | refine qg1 ?_ | refine eD ?_ ?_ <;> intro)
   exact TLe.rfl
 ·by_cases hb0 : b = 0
  ·rw [if_neg (by omega)]
   refine fn_rule (C := ⟨Tryz.prog, layF, Tryz.f75.ntmps, Γ0, 0, [], []⟩) layF_ok mixed Tryz.func75 rfl (by kernel_rfl) rfl rfl rfl ?_
   repeat' (first | refine ex_call h0 ?_ | refine ex_call h1 ?_ | refine qg1 ?_ | refine eD ?_ ?_ <;> intro)
   exact TLe.rfl
  ·rw [if_pos (by omega)]
   refine fn_rule (C := ⟨Tryz.prog, layF, Tryz.f75.ntmps, Γ0, 0, [], []⟩) layF_ok mixed Tryz.func75 rfl (by kernel_rfl) rfl rfl rfl ?_
   repeat' (first | refine ex_call h0 ?_ | refine ex_call h1 ?_ | refine qg1 ?_ | refine eD ?_ ?_ <;> intro)
   exact TLe.rfl
theorem op_either_c (a b : Nat) (ha : a < 18446744073709551616) (hb : b < 18446744073709551616) : CallsA Tryz.prog Γ0 75 [c1 (ds (⟨#[124, 124]⟩ : ByteArray)), c1 (du a), c1 (du b)] (opT (if a ≠ 0 ∨ b ≠ 0 then 1 else 0, 0)) := by
 have h1 : CallsA Tryz.prog Γ0 _ _ _ := truth_c true
 have h0 : CallsA Tryz.prog Γ0 _ _ _ := truth_c false
 rw [if_pos rfl] at h1
 rw [if_neg (by decide)] at h0
 by_cases ha0 : a = 0
 ·by_cases hb0 : b = 0
  ·rw [if_neg (by omega)]
   refine fn_rule (C := ⟨Tryz.prog, layF, Tryz.f75.ntmps, Γ0, 0, [], []⟩) layF_ok mixed Tryz.func75 rfl (by kernel_rfl) rfl rfl rfl ?_
   repeat' (first | refine ex_call h0 ?_ | refine ex_call h1 ?_ | refine qg1 ?_ | refine eD ?_ ?_ <;> intro)
   exact TLe.rfl
  ·rw [if_pos (by omega)]
   refine fn_rule (C := ⟨Tryz.prog, layF, Tryz.f75.ntmps, Γ0, 0, [], []⟩) layF_ok mixed Tryz.func75 rfl (by kernel_rfl) rfl rfl rfl ?_
   repeat' (first | refine ex_call h0 ?_ | refine ex_call h1 ?_ | refine qg1 ?_ | refine eD ?_ ?_ <;> intro)
   exact TLe.rfl
 ·by_cases hb0 : b = 0
  ·rw [if_pos (by omega)]
   refine fn_rule (C := ⟨Tryz.prog, layF, Tryz.f75.ntmps, Γ0, 0, [], []⟩) layF_ok mixed Tryz.func75 rfl (by kernel_rfl) rfl rfl rfl ?_
   repeat' (first | refine ex_call h0 ?_ | refine ex_call h1 ?_ | refine qg1 ?_ | refine eD ?_ ?_ <;> intro)
   exact TLe.rfl
  ·rw [if_pos (by omega)]
   refine fn_rule (C := ⟨Tryz.prog, layF, Tryz.f75.ntmps, Γ0, 0, [], []⟩) layF_ok mixed Tryz.func75 rfl (by kernel_rfl) rfl rfl rfl ?_
   repeat' (first | refine ex_call h0 ?_ | refine ex_call h1 ?_ | refine qg1 ?_ | refine eD ?_ ?_ <;> intro)
   exact TLe.rfl
end Go.Proofs.YtoingpafcodojaaGreatDoor

namespace Go.Proofs.YtoingpafcodojaaGreatDoor
open Go.RowKit

theorem bo_and : ∀ (k a b : Nat), a < 2 ^ k → b < 2 ^ k → boV false (bitsN k a) (bitsN k b) = a &&& b
 | 0, a, b, ha, hb => by
  have h1 : a = 0 := by simpa using ha
  have h2 : b = 0 := by simpa using hb
  subst h1; subst h2; rfl
 | k + 1, a, b, ha, hb => by
  rw [Nat.pow_succ] at ha hb
  rw [bitsN, bitsN, boV, bo_and k (a / 2) (b / 2) (by omega) (by omega), ← Nat.and_div_two]
  have h1 : (a &&& b) % 2 = (a % 2) &&& (b % 2) := Nat.and_mod_two_pow (n := 1)
  have h2 : boB false (a % 2 + b % 2) = (a % 2) &&& (b % 2) := by
   rcases Nat.mod_two_eq_zero_or_one a with h | h <;> rcases Nat.mod_two_eq_zero_or_one b with h' | h' <;> rw [h, h'] <;> decide
  rw [h2, ← h1]
  omega
theorem bo_or : ∀ (k a b : Nat), a < 2 ^ k → b < 2 ^ k → boV true (bitsN k a) (bitsN k b) = a ||| b
 | 0, a, b, ha, hb => by
  have h1 : a = 0 := by simpa using ha
  have h2 : b = 0 := by simpa using hb
  subst h1; subst h2; rfl
 | k + 1, a, b, ha, hb => by
  rw [Nat.pow_succ] at ha hb
  rw [bitsN, bitsN, boV, bo_or k (a / 2) (b / 2) (by omega) (by omega), ← Nat.or_div_two]
  have h1 : (a ||| b) % 2 = (a % 2) ||| (b % 2) := Nat.or_mod_two_pow (n := 1)
  have h2 : boB true (a % 2 + b % 2) = (a % 2) ||| (b % 2) := by
   rcases Nat.mod_two_eq_zero_or_one a with h | h <;> rcases Nat.mod_two_eq_zero_or_one b with h' | h' <;> rw [h, h'] <;> decide
  rw [h2, ← h1]
  omega
theorem yes_if (c : Bool) (p : Prop) [Decidable p] (h : (c = true) ↔ p) : yes c = (if p then 1 else 0, 0) := by
 by_cases hp : p
 ·rw [if_pos hp, h.2 hp]; rfl
 ·rw [if_neg hp, show c = false by cases c; rfl; exact absurd (h.1 rfl) hp]; rfl
theorem rOp_c (op : List UInt8) (a b : Nat) (ha : a < 18446744073709551616) (hb : b < 18446744073709551616) : CallsA Tryz.prog Γ0 75 [c1 (ds (bs op)), c1 (du a), c1 (du b)] (owT (opW op a b)) := by
 by_cases hm : op ∈ opsL
 ·simp only [opsL, List.mem_cons, List.not_mem_nil, or_false] at hm
  rcases hm with rfl | rfl | rfl | rfl | rfl | rfl | rfl | rfl | rfl | rfl | rfl | rfl | rfl | rfl | rfl | rfl | rfl
  ·rw [show opW [43] a b = numW (a + b) by simp [opW]]
   exact op_add_c a b ha hb
  ·rw [show opW [45] a b = subW a b by simp [opW]]
   exact op_sub_c a b ha hb
  ·rw [show opW [42] a b = numW (a * b) by simp [opW]]
   exact op_mul_c a b ha hb
  ·rw [show opW [47] a b = divW a b by simp [opW]]
   exact op_div_c a b ha hb
  ·rw [show opW [37] a b = remW a b by simp [opW]]
   exact op_rem_c a b ha hb
  ·rw [show opW [60, 60] a b = shlW a b by simp [opW]]
   exact op_shl_c a b ha hb
  ·rw [show opW [62, 62] a b = shrW a b by simp [opW]]
   exact op_shr_c a b ha hb
  ·rw [show opW [38] a b = (a &&& b, 0) by simp [opW], ← bo_and 64 a b ha hb]
   exact op_and_c a b ha hb
  ·rw [show opW [124] a b = (a ||| b, 0) by simp [opW], ← bo_or 64 a b ha hb]
   exact op_or_c a b ha hb
  ·rw [show opW [61, 61] a b = yes (decide (a = b)) by simp [opW], yes_if _ (a = b) (by simp)]
   exact op_eq_c a b ha hb
  ·rw [show opW [33, 61] a b = yes (!decide (a = b)) by simp [opW], yes_if _ (a ≠ b) (by simp)]
   exact op_ne_c a b ha hb
  ·rw [show opW [60] a b = yes (decide (a < b)) by simp [opW], yes_if _ (a < b) (by simp)]
   exact op_lt_c a b ha hb
  ·rw [show opW [60, 61] a b = yes (decide (a ≤ b)) by simp [opW], yes_if _ (a ≤ b) (by simp)]
   exact op_le_c a b ha hb
  ·rw [show opW [62] a b = yes (decide (b < a)) by simp [opW], yes_if _ (a > b) (by simp)]
   exact op_gt_c a b ha hb
  ·rw [show opW [62, 61] a b = yes (decide (b ≤ a)) by simp [opW], yes_if _ (a ≥ b) (by simp)]
   exact op_ge_c a b ha hb
  ·rw [show opW [38, 38] a b = yes (!decide (a = 0) && !decide (b = 0)) by simp [opW], yes_if _ (a ≠ 0 ∧ b ≠ 0) (by simp)]
   exact op_both_c a b ha hb
  ·rw [show opW [124, 124] a b = yes (!decide (a = 0) || !decide (b = 0)) by simp [opW], yes_if _ (a ≠ 0 ∨ b ≠ 0) (by simp)]
   exact op_either_c a b ha hb
 ·have hne : ∀ l, l ∈ opsL → ¬ bs op = bs l := fun l hl he => hm (by rw [bsw he]; exact hl)
  have h0 : opW op a b = (0, 4) := by
   simp only [opsL, List.mem_cons, List.not_mem_nil, or_false, not_or] at hm
   simp [opW, hm]
  rw [h0]
  have n1 := hne [43] (by decide)
  have n2 := hne [45] (by decide)
  have n3 := hne [42] (by decide)
  have n4 := hne [47] (by decide)
  have n5 := hne [37] (by decide)
  have n6 := hne [60, 60] (by decide)
  have n7 := hne [62, 62] (by decide)
  have n8 := hne [38] (by decide)
  have n9 := hne [124] (by decide)
  have n10 := hne [61, 61] (by decide)
  have n11 := hne [33, 61] (by decide)
  have n12 := hne [60] (by decide)
  have n13 := hne [60, 61] (by decide)
  have n14 := hne [62] (by decide)
  have n15 := hne [62, 61] (by decide)
  have n16 := hne [38, 38] (by decide)
  have n17 := hne [124, 124] (by decide)
  clear hne hm h0
  refine fn_rule (C := ⟨Tryz.prog, layF, Tryz.f75.ntmps, Γ0, 0, [], []⟩) layF_ok mixed Tryz.func75 rfl (by kernel_rfl) rfl rfl rfl ?_
  repeat' (first | refine (ex_false n17) ?_ | refine (ex_false n16) ?_ | refine (ex_false n15) ?_ | refine (ex_false n14) ?_ | refine (ex_false n13) ?_ | refine (ex_false n12) ?_ | refine (ex_false n11) ?_ | refine (ex_false n10) ?_ | refine (ex_false n9) ?_ | refine (ex_false n8) ?_ | refine (ex_false n7) ?_ | refine (ex_false n6) ?_ | refine (ex_false n5) ?_ | refine (ex_false n4) ?_ | refine (ex_false n3) ?_ | refine (ex_false n2) ?_ | refine (ex_false n1) ?_ | refine qg1 ?_ | refine eD ?_ ?_ <;> intro)
  exact TLe.rfl
end Go.Proofs.YtoingpafcodojaaGreatDoor

namespace Go.Proofs.YtoingpafcodojaaGreatDoor
open Go.RowKit

def resO (A : EV) : Option ET → Nat × Nat
 | some t => evalT A t
 | none => (0, 2)
def nmR (p : Nat × Nat) : List D := [du p.1]
def erR (p : Nat × Nat) : List D := [di p.2]
theorem numW_zero (v : Nat) (h : (numW v).2 ≠ 0) : (numW v).1 = 0 := by
 unfold numW at h ⊢
 split at h
 ·exact absurd rfl h
 ·rename_i hn; rw [if_neg hn]
theorem ite_zero {c : Prop} [Decidable c] {x y : Nat × Nat} (hx : x.2 ≠ 0 → x.1 = 0) (hy : y.2 ≠ 0 → y.1 = 0) : (if c then x else y).2 ≠ 0 → (if c then x else y).1 = 0 := by
 by_cases h : c
 ·rw [if_pos h]; exact hx
 ·rw [if_neg h]; exact hy
theorem opW_zero (op : List UInt8) (a b : Nat) : (opW op a b).2 ≠ 0 → (opW op a b).1 = 0 := by
 have h0 : ∀ n : Nat, ((n, 0) : Nat × Nat).2 ≠ 0 → ((n, 0) : Nat × Nat).1 = 0 := fun n h => absurd rfl h
 have h1 : ∀ n : Nat, ((0, n) : Nat × Nat).2 ≠ 0 → ((0, n) : Nat × Nat).1 = 0 := fun n _ => rfl
 have hs : (subW a b).2 ≠ 0 → (subW a b).1 = 0 := ite_zero (h1 _) (h0 _)
 have hd : (divW a b).2 ≠ 0 → (divW a b).1 = 0 := ite_zero (h1 _) (h0 _)
 have hr : (remW a b).2 ≠ 0 → (remW a b).1 = 0 := ite_zero (h1 _) (h0 _)
 have hl : (shlW a b).2 ≠ 0 → (shlW a b).1 = 0 := ite_zero (h1 _) (numW_zero _)
 have hq : (shrW a b).2 ≠ 0 → (shrW a b).1 = 0 := ite_zero (h1 _) (h0 _)
 have hy : ∀ c, (yes c).2 ≠ 0 → (yes c).1 = 0 := fun c h => absurd rfl h
 unfold opW
 exact ite_zero (numW_zero _) (ite_zero hs (ite_zero (numW_zero _) (ite_zero hd (ite_zero hr (ite_zero hl (ite_zero hq (ite_zero (h0 _) (ite_zero (h0 _) (ite_zero (hy _) (ite_zero (hy _) (ite_zero (hy _) (ite_zero (hy _) (ite_zero (hy _) (ite_zero (hy _) (ite_zero (hy _) (ite_zero (hy _) (h1 _)))))))))))))))))
theorem evalT_zero (A : EV) : ∀ t : ET, (evalT A t).2 ≠ 0 → (evalT A t).1 = 0
 | .num n, h => absurd rfl h
 | .name w, h => by
  unfold evalT at h ⊢
  cases hg : getE A w with
  | none => rfl
  | some n => rw [hg] at h; exact absurd rfl h
 | .not a, h => by
  unfold evalT at h ⊢
  exact ite_zero (fun h => absurd rfl h) (evalT_zero A a) h
 | .bin op a b, h => by
  unfold evalT at h ⊢
  exact ite_zero (ite_zero (opW_zero _ _ _) (evalT_zero A b)) (evalT_zero A a) h
theorem kidE_at {ts : List (Option ET)} {a : Int} {u : ET} (h : kidE ts a = some u) : ∃ j : Nat, a = j ∧ ts[j]? = some (some u) := by
 unfold kidE at h
 split at h
 ·refine ⟨a.toNat, by omega, ?_⟩
  cases hj : ts[a.toNat]? with
  | none => rw [hj] at h; cases h
  | some o => rw [hj] at h; exact congrArg some h
 ·cases h
set_option maxHeartbeats 4000000 in
theorem rxone_c (x : EI) (ts : List (Option ET)) (t : ET) (h : treeE ts x = some t) (A : EV) (hA : A.length ≤ 1000000) (hN : ∀ u, some u ∈ ts → (evalT A u).1 < 18446744073709551616) (hl : ts.length ≤ 9223372036854775807) :
  CallsA Tryz.prog Γ0 50 [gD (eiD x), c1 (.sl 1 ((ts.map (resO A)).map nmR)), c1 (.sl 1 ((ts.map (resO A)).map erR)), c1 (.sl 2 (A.map evD))] (owT (evalT A t)) := by
 obtain ⟨R, hR⟩ : ∃ R, ts.map (resO A) = R := ⟨_, rfl⟩
 have hRl : R.length = ts.length := by rw [← hR, List.length_map]
 have hRn : (R.map nmR).length = ts.length := by rw [List.length_map, hRl]
 have hRe : (R.map erR).length = ts.length := by rw [List.length_map, hRl]
 have hat : ∀ (j : Nat) (u : ET), ts[j]? = some (some u) → R[j]? = some (evalT A u) := fun j u hj => by rw [← hR, List.getElem?_map, hj]; rfl
 have hlt : ∀ (j : Nat) (u : ET), ts[j]? = some (some u) → j < ts.length := fun j u hj => (List.getElem?_eq_some_iff.1 hj).1
 rw [hR]
 obtain ⟨k, op, n, nm, kids⟩ := x
 rcases treeE_inv h with ⟨hk, rfl⟩ | ⟨hk, rfl⟩ | ⟨a, u, hk, hkd, hu, rfl⟩ | ⟨a, b, u, v, hk, hkd, hu, hv, rfl⟩
 ·dsimp only at hk
  subst hk
  show CallsA _ _ _ [gD [di 0, ds (bs op), du n, ds (bs nm), intsD kids], _, _, _] (owT (n, 0))
  refine fn_rule (C := ⟨Tryz.prog, layF, Tryz.f50.ntmps, Γ0, 0, [], []⟩) layF_ok mixed Tryz.func50 rfl (by kernel_rfl) rfl rfl rfl ?_
  repeat' (first | refine qgs ?_ | refine eD ?_ ?_ <;> intro)
  exact TLe.rfl
 ·dsimp only at hk
  subst hk
  have hg := rget_c A nm hA
  show CallsA _ _ _ [gD [di 1, ds (bs op), du n, ds (bs nm), intsD kids], _, _, _] (owT (match getE A nm with | none => (0, 11) | some n => (n, 0)))
  cases hgn : getE A nm with
  | none =>
   rw [hgn] at hg
   refine fn_rule (C := ⟨Tryz.prog, layF, Tryz.f50.ntmps, Γ0, 0, [], []⟩) layF_ok mixed Tryz.func50 rfl (by kernel_rfl) rfl rfl rfl ?_
   repeat' (first | refine ex_call hg ?_ | refine qg1 ?_ | refine eD ?_ ?_ <;> intro)
   exact TLe.rfl
  | some m =>
   rw [hgn] at hg
   refine fn_rule (C := ⟨Tryz.prog, layF, Tryz.f50.ntmps, Γ0, 0, [], []⟩) layF_ok mixed Tryz.func50 rfl (by kernel_rfl) rfl rfl rfl ?_
   repeat' (first | refine ex_call hg ?_ | refine qg1 ?_ | refine eD ?_ ?_ <;> intro)
   exact TLe.rfl
 ·dsimp only at hk hkd
  subst hk
  subst hkd
  obtain ⟨j, rfl, hj⟩ := kidE_at hu
  have hRj := hat j u hj
  have hjl := hlt j u hj
  have hz := evalT_zero A u
  have hnl := hN u (List.mem_of_getElem? hj)
  show CallsA _ _ _ [gD [di 2, ds (bs op), du n, ds (bs nm), intsD [((j : Nat) : Int)]], _, _, _] (owT (if (evalT A u).2 = 0 then yes (decide ((evalT A u).1 = 0)) else evalT A u))
  obtain ⟨⟨v, e⟩, hve⟩ : ∃ r, evalT A u = r := ⟨_, rfl⟩
  rw [hve] at hRj hz hnl ⊢
  dsimp only at hz hnl ⊢
  by_cases he : e = 0
  ·subst he
   rw [if_pos rfl]
   by_cases h0 : v = 0
   ·have ht := truth_c true
    rw [show yes (decide (v = 0)) = (1, 0) by rw [decide_eq_true h0]; rfl]
    refine fn_rule (C := ⟨Tryz.prog, layF, Tryz.f50.ntmps, Γ0, 0, [], []⟩) layF_ok mixed Tryz.func50 rfl (by kernel_rfl) rfl rfl rfl ?_
    repeat' (first | refine ex_call ht ?_ | refine (ex_row j (v, 0) rfl hRj) ?_ | refine (ex_is _ hRe) ?_ | refine (ex_is _ hRn) ?_ | refine (ex_row (l := [((j : Nat) : Int)]) 0 ((j : Nat) : Int) rfl rfl) ?_ | refine qg1 ?_ | refine eD ?_ ?_ <;> intro)
    exact TLe.rfl
   ·have ht := truth_c false
    rw [show yes (decide (v = 0)) = (0, 0) by rw [decide_eq_false h0]; rfl]
    refine fn_rule (C := ⟨Tryz.prog, layF, Tryz.f50.ntmps, Γ0, 0, [], []⟩) layF_ok mixed Tryz.func50 rfl (by kernel_rfl) rfl rfl rfl ?_
    repeat' (first | refine ex_call ht ?_ | refine (ex_row j (v, 0) rfl hRj) ?_ | refine (ex_is _ hRe) ?_ | refine (ex_is _ hRn) ?_ | refine (ex_row (l := [((j : Nat) : Int)]) 0 ((j : Nat) : Int) rfl rfl) ?_ | refine qg1 ?_ | refine eD ?_ ?_ <;> intro)
    exact TLe.rfl
  ·rw [if_neg he]
   obtain rfl := hz he
   refine fn_rule (C := ⟨Tryz.prog, layF, Tryz.f50.ntmps, Γ0, 0, [], []⟩) layF_ok mixed Tryz.func50 rfl (by kernel_rfl) rfl rfl rfl ?_
   repeat' (first | refine (ex_row j (0, e) rfl hRj) ?_ | refine (ex_is _ hRe) ?_ | refine (ex_is _ hRn) ?_ | refine (ex_row (l := [((j : Nat) : Int)]) 0 ((j : Nat) : Int) rfl rfl) ?_ | refine qg1 ?_ | refine eD ?_ ?_ <;> intro)
   exact TLe.rfl
 ·dsimp only at hk hkd
  subst hk
  subst hkd
  obtain ⟨j, rfl, hj⟩ := kidE_at hu
  obtain ⟨i, rfl, hi⟩ := kidE_at hv
  have hRj := hat j u hj
  have hRi := hat i v hi
  have hjl := hlt j u hj
  have hil := hlt i v hi
  have hzu := evalT_zero A u
  have hzv := evalT_zero A v
  have hnu := hN u (List.mem_of_getElem? hj)
  have hnv := hN v (List.mem_of_getElem? hi)
  have hop := rOp_c op (evalT A u).1 (evalT A v).1 hnu hnv
  show CallsA _ _ _ [gD [di 3, ds (bs op), du n, ds (bs nm), intsD [((j : Nat) : Int), ((i : Nat) : Int)]], _, _, _] (owT (if (evalT A u).2 = 0 then (if (evalT A v).2 = 0 then opW op (evalT A u).1 (evalT A v).1 else evalT A v) else evalT A u))
  obtain ⟨⟨m1, e1⟩, h1⟩ : ∃ r, evalT A u = r := ⟨_, rfl⟩
  obtain ⟨⟨m2, e2⟩, h2⟩ : ∃ r, evalT A v = r := ⟨_, rfl⟩
  rw [h1] at hRj hzu hnu hop ⊢
  rw [h2] at hRi hzv hnv hop ⊢
  dsimp only at hzu hzv hnu hnv hop ⊢
  by_cases he : e1 = 0
  ·subst he
   rw [if_pos rfl]
   by_cases he2 : e2 = 0
   ·subst he2
    rw [if_pos rfl]
    generalize opW op m1 m2 = w at *
    refine fn_rule (C := ⟨Tryz.prog, layF, Tryz.f50.ntmps, Γ0, 0, [], []⟩) layF_ok mixed Tryz.func50 rfl (by kernel_rfl) rfl rfl rfl ?_
    repeat' (first | refine ex_call hop ?_ | refine (ex_row i (m2, 0) rfl hRi) ?_ | refine (ex_row j (m1, 0) rfl hRj) ?_ | refine (ex_is _ hRe) ?_ | refine (ex_is _ hRn) ?_ | refine (ex_row (l := [((j : Nat) : Int), ((i : Nat) : Int)]) 1 ((i : Nat) : Int) rfl rfl) ?_ | refine (ex_row (l := [((j : Nat) : Int), ((i : Nat) : Int)]) 0 ((j : Nat) : Int) rfl rfl) ?_ | refine qg1 ?_ | refine eD ?_ ?_ <;> intro)
    exact TLe.rfl
   ·rw [if_neg he2]
    obtain rfl := hzv he2
    refine fn_rule (C := ⟨Tryz.prog, layF, Tryz.f50.ntmps, Γ0, 0, [], []⟩) layF_ok mixed Tryz.func50 rfl (by kernel_rfl) rfl rfl rfl ?_
    repeat' (first | refine (ex_row i (0, e2) rfl hRi) ?_ | refine (ex_row j (m1, 0) rfl hRj) ?_ | refine (ex_is _ hRe) ?_ | refine (ex_is _ hRn) ?_ | refine (ex_row (l := [((j : Nat) : Int), ((i : Nat) : Int)]) 1 ((i : Nat) : Int) rfl rfl) ?_ | refine (ex_row (l := [((j : Nat) : Int), ((i : Nat) : Int)]) 0 ((j : Nat) : Int) rfl rfl) ?_ | refine qg1 ?_ | refine eD ?_ ?_ <;> intro)
    exact TLe.rfl
  ·rw [if_neg he]
   obtain rfl := hzu he
   refine fn_rule (C := ⟨Tryz.prog, layF, Tryz.f50.ntmps, Γ0, 0, [], []⟩) layF_ok mixed Tryz.func50 rfl (by kernel_rfl) rfl rfl rfl ?_
   repeat' (first | refine (ex_row j (0, e1) rfl hRj) ?_ | refine (ex_is _ hRe) ?_ | refine (ex_is _ hRn) ?_ | refine (ex_row (l := [((j : Nat) : Int), ((i : Nat) : Int)]) 1 ((i : Nat) : Int) rfl rfl) ?_ | refine (ex_row (l := [((j : Nat) : Int), ((i : Nat) : Int)]) 0 ((j : Nat) : Int) rfl rfl) ?_ | refine qg1 ?_ | refine eD ?_ ?_ <;> intro)
   exact TLe.rfl
end Go.Proofs.YtoingpafcodojaaGreatDoor

namespace Go.Proofs.YtoingpafcodojaaGreatDoor
open Go.RowKit

def ΓQ : Glob := ⟨Γ0.G, Γ0.mono, [50], Γ0.gl, Γ0.gok⟩
theorem CallsA.toQ {f : FuncId} {xs : List T1} {r : TV} (h : CallsA Tryz.prog Γ0 f xs r) : CallsA Tryz.prog ΓQ f xs r := ⟨h.1, fun S w vs hS hG hv => h.2 S w vs hS hG hv⟩
theorem CallsA.frQ {f : FuncId} {xs : List T1} {r : TV} (h : CallsA Tryz.prog ΓQ f xs r) : CallsA Tryz.prog Γ0 f xs r := ⟨h.1, fun S w vs hS hG hv => h.2 S w vs hS hG hv⟩
def resL (X : List EI) (A : EV) : List (Nat × Nat) := (treesE X).map (resO A)
theorem two0 (n : Nat) : ((n, 0) : Nat × Nat).2 ≠ 2 := by show ¬ (0 : Nat) = 2; decide
theorem ite2 {c : Prop} [Decidable c] {x y : Nat × Nat} (hx : x.2 ≠ 2) (hy : y.2 ≠ 2) : (if c then x else y).2 ≠ 2 := by
 by_cases h : c
 ·rw [if_pos h]; exact hx
 ·rw [if_neg h]; exact hy
theorem opW_ne2 (op : List UInt8) (a b : Nat) : (opW op a b).2 ≠ 2 := by
 have h5 : ((0, 5) : Nat × Nat).2 ≠ 2 := by decide
 have h6 : ((0, 6) : Nat × Nat).2 ≠ 2 := by decide
 have h4 : ((0, 4) : Nat × Nat).2 ≠ 2 := by decide
 have h1 : ∀ v, (numW v).2 ≠ 2 := fun v => ite2 (two0 v) h5
 have hy : ∀ c, (yes c).2 ≠ 2 := fun c => two0 _
 unfold opW
 exact ite2 (h1 _) (ite2 (ite2 h5 (two0 _)) (ite2 (h1 _) (ite2 (ite2 h6 (two0 _)) (ite2 (ite2 h6 (two0 _)) (ite2 (ite2 h5 (h1 _)) (ite2 (ite2 h5 (two0 _)) (ite2 (two0 _) (ite2 (two0 _) (ite2 (hy _) (ite2 (hy _) (ite2 (hy _) (ite2 (hy _) (ite2 (hy _) (ite2 (hy _) (ite2 (hy _) (ite2 (hy _) h4))))))))))))))))
theorem evalT_ne2 (A : EV) : ∀ t : ET, (evalT A t).2 ≠ 2
 | .num n => two0 n
 | .name w => by
  unfold evalT
  cases getE A w with
  | none => show ¬ (11 : Nat) = 2; decide
  | some n => exact two0 n
 | .not a => by
  unfold evalT
  exact ite2 (two0 _) (evalT_ne2 A a)
 | .bin op a b => by
  unfold evalT
  exact ite2 (ite2 (opW_ne2 _ _ _) (evalT_ne2 A b)) (evalT_ne2 A a)
theorem want_plain (ts : List (Option ET)) (x : EI) (W1 W F : Nat) (hW1 : x.k = 2 → W1 = 1) (hW1' : ¬ x.k = 2 → W1 = 0) (hW : x.k = 3 → W = 2) (hW' : ¬ x.k = 3 → W = W1)
  (hF : (x.k < 0 ∨ 3 < x.k ∨ (0 < W ∧ x.kids.length ≠ W)) → F = 2) (hF' : ¬ (x.k < 0 ∨ 3 < x.k ∨ (0 < W ∧ x.kids.length ≠ W)) → F = 0) :
  (F = 2 → treeE ts x = none) ∧ (F = 0 → (W = 0 ∨ x.kids.length = W) ∧ W ≤ 2 ∧ ((∀ y ∈ x.kids.take W, gk (ts.map Option.isSome) y = true) → ∃ t, treeE ts x = some t) ∧ ∀ y ∈ x.kids.take W, gk (ts.map Option.isSome) y = false → treeE ts x = none) ∧ (F = 0 ∨ F = 2) := by
 have hok := treeE_ok ts x
 obtain ⟨g, hg⟩ : ∃ g, ts.map Option.isSome = g := ⟨_, rfl⟩
 rw [hg] at hok ⊢
 have hn : (treeE ts x).isSome = false → treeE ts x = none := fun h => by cases ht : treeE ts x with
  | none => rfl
  | some t => rw [ht] at h; cases h
 have hs : (treeE ts x).isSome = true → ∃ t, treeE ts x = some t := fun h => by cases ht : treeE ts x with
  | none => rw [ht] at h; cases h
  | some t => exact ⟨t, rfl⟩
 by_cases hb : x.k < 0 ∨ 3 < x.k
 ·have hw : (wantV x.k).2 = false := by unfold wantV; rw [if_neg (by omega), if_neg (by omega), if_neg (by omega)]
  have e : F = 2 := hF (hb.elim .inl fun h => .inr (.inl h))
  refine ⟨fun _ => hn ?_, fun h => by omega, .inr e⟩
  rw [hok, okX, hw]; rfl
 ·have hw : wantV x.k = (W, true) := by
   unfold wantV
   by_cases h01 : x.k = 0 ∨ x.k = 1
   ·rw [if_pos h01, hW' (by omega), hW1' (by omega)]
   ·rw [if_neg h01]
    by_cases h2 : x.k = 2
    ·rw [if_pos h2, hW' (by omega), hW1 h2]
    ·rw [if_neg h2, if_pos (by omega), hW (by omega)]
  have hW2 : W ≤ 2 := by
   by_cases h3 : x.k = 3
   ·rw [hW h3]; exact Nat.le_refl _
   ·rw [hW' h3]
    by_cases h2 : x.k = 2
    ·rw [hW1 h2]; decide
    ·rw [hW1' h2]; decide
  rw [okX, hw] at hok
  dsimp only at hok
  by_cases hc : 0 < W ∧ x.kids.length ≠ W
  ·have e : F = 2 := hF (.inr (.inr hc))
   refine ⟨fun _ => hn ?_, fun h => by omega, .inr e⟩
   rw [hok, decide_eq_false (by omega : ¬ W = 0), decide_eq_false hc.2]
   rfl
  ·have e : F = 0 := hF' (fun h => by rcases h with h | h | h; exact hb (.inl h); exact hb (.inr h); exact hc h)
   have hor : W = 0 ∨ x.kids.length = W := by omega
   have hmin : x.kids.take (min W x.kids.length) = x.kids.take W := by
    rcases hor with h | h
    ·rw [h, Nat.zero_min]
    ·rw [← h, Nat.min_self]
   have hor' : (decide (W = 0) || decide (x.kids.length = W)) = true := by
    rcases hor with h | h
    ·rw [decide_eq_true h]; rfl
    ·rw [decide_eq_true h, Bool.or_true]
   rw [hor', hmin, Bool.true_and, Bool.true_and] at hok
   refine ⟨fun h => by omega, fun _ => ⟨hor, hW2, fun h => hs ?_, fun y hy h => hn ?_⟩, .inl e⟩
   ·rw [hok]; exact List.all_eq_true.2 h
   ·rw [hok]
    exact Bool.eq_false_iff.2 fun h2 => by rw [List.all_eq_true.1 h2 y hy] at h; cases h
set_option maxHeartbeats 8000000 in
theorem rall_c (X : List EI) (A : EV) (a : Nat) (ha : a < X.length) (hX : XsOk X) (hA : A.length ≤ 1000000) (hAn : EnvOk A) (hl : X.length ≤ 1000000) (hk : ∀ x ∈ X, x.kids.length ≤ 1000000) :
  CallsA Tryz.prog Γ0 32 [c1 (.sl 5 (X.map eiD)), c1 (di a), c1 (.sl 2 (A.map evD))] (.tup [c1 (.sl 1 (((resL X A).take (a + 1)).map nmR)), c1 (.sl 1 (((resL X A).take (a + 1)).map erR))]) := by
 refine CallsA.frQ ?_
 have hXm : (X.map eiD).length = X.length := List.length_map _
 have hRL : (resL X A).length = X.length := by unfold resL; rw [List.length_map, treesE_len]
 have hN : ∀ i, ∀ u, some u ∈ (treesE X).take i → (evalT A u).1 < 18446744073709551616 := fun i u hu => by
  obtain ⟨j, hj⟩ := List.mem_iff_getElem?.1 (List.mem_of_mem_take hu)
  refine evalT_lt hAn u (exprE_num hX u j ?_)
  unfold exprE kidE
  rw [if_pos (by omega), Int.toNat_natCast, hj]
  rfl
 obtain ⟨RL, hRLe⟩ : ∃ RL, resL X A = RL := ⟨_, rfl⟩
 rw [hRLe] at hRL ⊢
 refine fn_rule (C := ⟨Tryz.prog, layF, Tryz.f32.ntmps, ΓQ, 0, [], [12,14,16,21]⟩) layF_ok mixed Tryz.func32 rfl (by kernel_rfl) rfl rfl rfl ?_
 repeat' (first | refine qgs ?_ | refine eD ?_ ?_ <;> intro)
 refine ex_loop (X := Nat × List (Nat × Nat)) (fun ⟨i, R⟩ => ⟨[(0, .o (c1 (.sl 5 (X.map eiD)))), (1, Ti a), (2, .o (c1 (.sl 2 (A.map evD)))), (8, .o (.c (.row 0))), (9, .o (.c (.row 1))), (10, Ti i)], [(0, .row 1 50 (R.map nmR)), (1, .row 1 3 (R.map erR))], 2⟩) (fun x => a + 1 - x.1) (fun ⟨i, R⟩ => i ≤ a + 1 ∧ R = RL.take i) (0, []) ⟨Nat.zero_le _, rfl⟩ (SLe.trans sS (SLe.trans (SLe.own 9 1 1 3 rfl rfl rfl rfl rfl) (SLe.own 8 0 1 50 rfl rfl rfl rfl rfl))) ?_
 rintro ⟨i, R⟩ ⟨hi, hR⟩
 refine ex_dec (fun h => ?_) (fun h => ?_)
 ·have hiX : i < X.length := by omega
  have hc : X[i]? = some X[i] := at_some hiX
  have hkl := hk X[i] (List.getElem_mem hiX)
  have htr := treesE_at hc
  have hNi := hN i
  obtain ⟨ts, hts⟩ : ∃ ts, (treesE X).take i = ts := ⟨_, rfl⟩
  have htl : ts.length = i := by rw [← hts, List.length_take, treesE_len]; omega
  rw [hts] at htr hNi
  have hRt : R = ts.map (resO A) := by rw [hR, ← hRLe, ← hts, resL, List.map_take]
  have hRi : RL[i]? = some (resO A (treeE ts X[i])) := by rw [← hRLe, resL, List.getElem?_map, htr]; rfl
  have htk : RL.take (i + 1) = R ++ [resO A (treeE ts X[i])] := by rw [List.take_add_one, hRi, hR]; rfl
  have hok := treeE_ok ts X[i]
  generalize X[i] = x at *
  have hkm : (x.kids.map fun k => [di k]).length = x.kids.length := List.length_map _
  obtain ⟨W1, hW1, hW1'⟩ : ∃ W1 : Nat, (x.k = 2 → W1 = 1) ∧ (¬ x.k = 2 → W1 = 0) := ⟨if x.k = 2 then 1 else 0, fun h => if_pos h, fun h => if_neg h⟩
  obtain ⟨W, hW, hW'⟩ : ∃ W : Nat, (x.k = 3 → W = 2) ∧ (¬ x.k = 3 → W = W1) := ⟨if x.k = 3 then 2 else W1, fun h => if_pos h, fun h => if_neg h⟩
  obtain ⟨F, hF, hF'⟩ : ∃ F : Nat, ((x.k < 0 ∨ 3 < x.k ∨ (0 < W ∧ x.kids.length ≠ W)) → F = 2) ∧ (¬ (x.k < 0 ∨ 3 < x.k ∨ (0 < W ∧ x.kids.length ≠ W)) → F = 0) := ⟨if (x.k < 0 ∨ 3 < x.k ∨ (0 < W ∧ x.kids.length ≠ W)) then 2 else 0, fun h => if_pos h, fun h => if_neg h⟩
  repeat' (first | refine (ex_row i x rfl hc) ?_ | refine (ex_is _ hXm) ?_ | refine qg1 ?_ | refine eD ?_ ?_ <;> intro)
  refine ex_join (X := Unit) (fun _ => ⟨[(0, .o (c1 (.sl 5 (X.map eiD)))), (1, Ti a), (2, .o (c1 (.sl 2 (A.map evD)))), (8, .o (.c (.row 0))), (9, .o (.c (.row 1))), (10, Ti i), (11, .o (.c (.ptr 2 0))), (12, .o (c1 (du 0))), (13, .o (c1 (di 0))), (14, Ti W1)], [(0, .row 1 50 (R.map nmR)), (1, .row 1 3 (R.map erR)), (2, .obj [.d (di x.k), .d (ds (bs x.op)), .d (du x.n), .d (ds (bs x.nm)), .d (intsD x.kids)])], 3⟩) (fun _ => True) ?_ ?_
  ·by_cases hk2 : x.k = 2
   ·obtain rfl := hW1 hk2
    repeat' (first | refine qgs ?_ | refine eD ?_ ?_ <;> intro)
    exact ex_meet () trivial sS
   ·obtain rfl := hW1' hk2
    repeat' (first | refine qgs ?_ | refine eD ?_ ?_ <;> intro)
    exact ex_meet () trivial sS
  intro _ _
  refine ex_join (X := Unit) (fun _ => ⟨[(0, .o (c1 (.sl 5 (X.map eiD)))), (1, Ti a), (2, .o (c1 (.sl 2 (A.map evD)))), (8, .o (.c (.row 0))), (9, .o (.c (.row 1))), (10, Ti i), (11, .o (.c (.ptr 2 0))), (12, .o (c1 (du 0))), (13, .o (c1 (di 0))), (14, Ti W)], [(0, .row 1 50 (R.map nmR)), (1, .row 1 3 (R.map erR)), (2, .obj [.d (di x.k), .d (ds (bs x.op)), .d (du x.n), .d (ds (bs x.nm)), .d (intsD x.kids)])], 3⟩) (fun _ => True) ?_ ?_
  ·by_cases hk3 : x.k = 3
   ·obtain rfl := hW hk3
    repeat' (first | refine qgs ?_ | refine eD ?_ ?_ <;> intro)
    exact ex_meet () trivial sS
   ·obtain rfl := hW' hk3
    repeat' (first | refine qgs ?_ | refine eD ?_ ?_ <;> intro)
    exact ex_meet () trivial sS
  intro _ _
  refine ex_join (X := Unit) (fun _ => ⟨[(0, .o (c1 (.sl 5 (X.map eiD)))), (1, Ti a), (2, .o (c1 (.sl 2 (A.map evD)))), (8, .o (.c (.row 0))), (9, .o (.c (.row 1))), (10, Ti i), (11, .o (.c (.ptr 2 0))), (12, .o (c1 (du 0))), (13, Ti F), (14, Ti W)], [(0, .row 1 50 (R.map nmR)), (1, .row 1 3 (R.map erR)), (2, .obj [.d (di x.k), .d (ds (bs x.op)), .d (du x.n), .d (ds (bs x.nm)), .d (intsD x.kids)])], 3⟩) (fun _ => True) ?_ ?_
  ·by_cases hb1 : x.k < 0
   ·obtain rfl := hF (.inl hb1)
    repeat' (first | refine qgs ?_ | refine eD ?_ ?_ <;> intro)
    exact ex_meet () trivial sS
   by_cases hb2 : 3 < x.k
   ·obtain rfl := hF (.inr (.inl hb2))
    repeat' (first | refine qgs ?_ | refine eD ?_ ?_ <;> intro)
    exact ex_meet () trivial sS
   by_cases hb3 : 0 < W
   ·by_cases hb4 : x.kids.length = W
    ·obtain rfl := hF' (by omega)
     repeat' (first | refine (ex_is _ hkm) ?_ | refine qg1 ?_ | refine eD ?_ ?_ <;> intro)
     exact ex_meet () trivial sS
    ·obtain rfl := hF (by omega)
     repeat' (first | refine (ex_is _ hkm) ?_ | refine qg1 ?_ | refine eD ?_ ?_ <;> intro)
     exact ex_meet () trivial sS
   ·obtain rfl := hF' (by omega)
    repeat' (first | refine (ex_is _ hkm) ?_ | refine qg1 ?_ | refine eD ?_ ?_ <;> intro)
    exact ex_meet () trivial sS
  intro _ _
  obtain ⟨hN2, hS0, hF02⟩ := want_plain ts x W1 W F hW1 hW1' hW hW' hF hF'
  obtain ⟨g, hg⟩ : ∃ g, ts.map Option.isSome = g := ⟨_, rfl⟩
  rw [hg] at hS0
  have hgl : g.length = i := by rw [← hg, List.length_map, htl]
  clear hF hF' hW hW' hW1 hW1' hok
  refine ex_join (X := Nat) (fun f => ⟨[(0, .o (c1 (.sl 5 (X.map eiD)))), (1, Ti a), (2, .o (c1 (.sl 2 (A.map evD)))), (8, .o (.c (.row 0))), (9, .o (.c (.row 1))), (10, Ti i), (11, .o (.c (.ptr 2 0))), (12, .o (c1 (du 0))), (13, Ti f)], [(0, .row 1 50 (R.map nmR)), (1, .row 1 3 (R.map erR)), (2, .obj [.d (di x.k), .d (ds (bs x.op)), .d (du x.n), .d (ds (bs x.nm)), .d (intsD x.kids)])], 3⟩) (fun f => (f = 0 ∧ ∃ t, treeE ts x = some t) ∨ (f = 2 ∧ treeE ts x = none)) ?_ ?_
  ·repeat' (first | refine qgs ?_ | refine eD ?_ ?_ <;> intro)
   refine ex_loop (X := Nat × Nat) (fun ⟨k, f⟩ => ⟨[(0, .o (c1 (.sl 5 (X.map eiD)))), (1, Ti a), (2, .o (c1 (.sl 2 (A.map evD)))), (8, .o (.c (.row 0))), (9, .o (.c (.row 1))), (10, Ti i), (11, .o (.c (.ptr 2 0))), (12, .o (c1 (du 0))), (13, Ti f), (14, Ti W), (15, Ti k)], [(0, .row 1 50 (R.map nmR)), (1, .row 1 3 (R.map erR)), (2, .obj [.d (di x.k), .d (ds (bs x.op)), .d (du x.n), .d (ds (bs x.nm)), .d (intsD x.kids)])], 3⟩) (fun x => W - x.1) (fun ⟨k, f⟩ => k ≤ W ∧ ((f = 0 ∧ F = 0 ∧ ∀ y ∈ x.kids.take k, gk g y = true) ∨ (f = 2 ∧ treeE ts x = none))) (0, F) ⟨Nat.zero_le _, hF02.elim (fun h => .inl ⟨h, h, fun y hy => by simp at hy⟩) fun h => .inr ⟨h, hN2 h⟩⟩ sS ?_
   rintro ⟨k, f⟩ ⟨hkW, hp⟩
   rcases hp with ⟨rfl, hF0, hgood⟩ | ⟨rfl, hnone⟩
   ·obtain ⟨hor, hW2, hall, hbad⟩ := hS0 hF0
    by_cases hkw : k < W
    ·have hkk : k < x.kids.length := by omega
     have hck : x.kids[k]? = some x.kids[k] := at_some hkk
     have htkk : x.kids.take (k + 1) = x.kids.take k ++ [x.kids[k]] := by rw [List.take_add_one, hck]; rfl
     have hmem : x.kids[k] ∈ x.kids.take W := List.mem_iff_getElem?.2 ⟨k, by rw [List.getElem?_take, if_pos hkw, hck]⟩
     have hbk := hbad x.kids[k] hmem
     generalize x.kids[k] = y at *
     have hRe : (R.map erR).length = i := by rw [List.length_map, hRt, List.length_map, htl]
     by_cases hy0 : y < 0
     ·repeat' (first | refine aI ((k + 1 : Nat) : Int) ?_ | refine aU ((k + 1 : Nat) : Int) ?_ | refine aB ((k + 1 : Nat) : Int) ?_ | refine (ex_is _ hkm) ?_ | refine (ex_row k y rfl hck) ?_ | refine qg1 ?_ | refine eD ?_ ?_ <;> intro)
      exact ex_round (k + 1, 2) ⟨by omega, .inr ⟨rfl, hbk (by unfold gk; rw [decide_eq_false (by omega)]; rfl)⟩⟩ (by show _ - _ < _ - _; omega) sS
     by_cases hyi : (i : Int) ≤ y
     ·repeat' (first | refine aI ((k + 1 : Nat) : Int) ?_ | refine aU ((k + 1 : Nat) : Int) ?_ | refine aB ((k + 1 : Nat) : Int) ?_ | refine (ex_is _ hkm) ?_ | refine (ex_row k y rfl hck) ?_ | refine qg1 ?_ | refine eD ?_ ?_ <;> intro)
      exact ex_round (k + 1, 2) ⟨by omega, .inr ⟨rfl, hbk (by unfold gk; rw [hgl, decide_eq_true (by omega), decide_eq_false (by omega)]; rfl)⟩⟩ (by show _ - _ < _ - _; omega) sS
     obtain ⟨j, rfl⟩ : ∃ j : Nat, y = j := ⟨y.toNat, by omega⟩
     have hji : j < ts.length := by omega
     have htj : ts[j]? = some ts[j] := at_some hji
     have hRj : R[j]? = some (resO A ts[j]) := by rw [hRt, List.getElem?_map, htj]; rfl
     have hgj : gk g ((j : Nat) : Int) = ts[j].isSome := by
      unfold gk
      rw [decide_eq_true (by omega), decide_eq_true (by omega), ← hg, Int.toNat_natCast, List.getD_eq_getElem?_getD, List.getElem?_map, htj]
      rfl
     generalize ts[j] = o at *
     cases o with
     | none =>
      have hRj : R[j]? = some (0, 2) := hRj
      repeat' (first | refine aI ((k + 1 : Nat) : Int) ?_ | refine aU ((k + 1 : Nat) : Int) ?_ | refine aB ((k + 1 : Nat) : Int) ?_ | refine (ex_rw hRj) ?_ | refine (ex_is _ hRe) ?_ | refine (ex_is _ hkm) ?_ | refine (ex_row k ((j : Nat) : Int) rfl hck) ?_ | refine qg1 ?_ | refine eD ?_ ?_ <;> intro)
      exact ex_round (k + 1, 2) ⟨by omega, .inr ⟨rfl, hbk hgj⟩⟩ (by show _ - _ < _ - _; omega) sS
     | some u =>
      have hne := evalT_ne2 A u
      have hRj : R[j]? = some (evalT A u) := hRj
      obtain ⟨⟨v, e⟩, hve⟩ : ∃ r, evalT A u = r := ⟨_, rfl⟩
      rw [hve] at hne hRj
      dsimp only at hne
      repeat' (first | refine aI ((k + 1 : Nat) : Int) ?_ | refine aU ((k + 1 : Nat) : Int) ?_ | refine aB ((k + 1 : Nat) : Int) ?_ | refine (ex_rw hRj) ?_ | refine (ex_is _ hRe) ?_ | refine (ex_is _ hkm) ?_ | refine (ex_row k ((j : Nat) : Int) rfl hck) ?_ | refine qg1 ?_ | refine eD ?_ ?_ <;> intro)
      exact ex_round (k + 1, 0) ⟨by omega, .inl ⟨rfl, hF0, fun y hy => by
       rw [htkk] at hy
       rcases List.mem_append.1 hy with hy | hy
       ·exact hgood y hy
       ·rw [List.mem_singleton.1 hy, hgj]; rfl⟩⟩ (by show _ - _ < _ - _; omega) sS
    ·obtain rfl : k = W := by omega
     repeat' (first | refine qgs ?_ | refine eD ?_ ?_ <;> intro)
     exact ex_meet 0 (.inl ⟨rfl, hall hgood⟩) sS
   ·by_cases hkw : k < W
    ·repeat' (first | refine qgs ?_ | refine eD ?_ ?_ <;> intro)
     exact ex_meet 2 (.inr ⟨rfl, hnone⟩) sS
    ·repeat' (first | refine qgs ?_ | refine eD ?_ ?_ <;> intro)
     exact ex_meet 2 (.inr ⟨rfl, hnone⟩) sS
  ·rintro f (⟨rfl, t, ht⟩ | ⟨rfl, ht⟩)
   ·have h1 := (rxone_c x ts t ht A hA hNi (by omega)).toQ
    rw [← hRt] at h1
    have hone := h1.lend (xs' := [gD (eiD x), .c (.row 0), .c (.row 1), c1 (.sl 2 (A.map evD))]) rfl [(0, .row 1 50 (R.map nmR)), (1, .row 1 3 (R.map erR))] 3 (by
     intro p hp
     rcases List.mem_cons.1 hp with rfl | hp
     ·rfl
     ·obtain rfl := List.mem_singleton.1 hp; rfl) rfl
    rw [ht] at htk
    have htk : RL.take (i + 1) = R ++ [evalT A t] := htk
    obtain ⟨⟨v, e⟩, hve⟩ : ∃ r, evalT A t = r := ⟨_, rfl⟩
    rw [hve] at hone htk
    have hap1 : R.map nmR ++ [nmR (v, e)] = (RL.take (i + 1)).map nmR := by rw [htk, List.map_append]; rfl
    have hap2 : R.map erR ++ [erR (v, e)] = (RL.take (i + 1)).map erR := by rw [htk, List.map_append]; rfl
    have hRlen : R.length = i := by rw [hRt, List.length_map, htl]
    clear h1
    repeat' (first | refine qgs ?_ | refine eD ?_ ?_ <;> intro)
    refine ex_callM hone ?_
    repeat' (first | refine qgs ?_ | refine eD ?_ ?_ <;> intro)
    refine ex_app (i) (1) 1000 (by first | rfl | (simp; done) | (simp; omega)) (by first | rfl | (simp; done) | (simp; omega)) rfl (by omega) ?_
    refine ex_is _ hap1 ?_
    repeat' (first | refine qgs ?_ | refine eD ?_ ?_ <;> intro)
    refine ex_app (i) (1) 1000 (by first | rfl | (simp; done) | (simp; omega)) (by first | rfl | (simp; done) | (simp; omega)) rfl (by omega) ?_
    refine ex_is _ hap2 ?_
    repeat' (first | refine aI ((i + 1 : Nat) : Int) ?_ | refine aU ((i + 1 : Nat) : Int) ?_ | refine aB ((i + 1 : Nat) : Int) ?_ | refine qg1 ?_ | refine eD ?_ ?_ <;> intro)
    exact ex_round (i + 1, RL.take (i + 1)) ⟨by omega, rfl⟩ (by show _ - _ < _ - _; omega) (sR [(4, 0), (6, 1)])
   ·rw [ht] at htk
    have hap1 : R.map nmR ++ [nmR (0, 2)] = (RL.take (i + 1)).map nmR := by rw [htk, List.map_append]; rfl
    have hap2 : R.map erR ++ [erR (0, 2)] = (RL.take (i + 1)).map erR := by rw [htk, List.map_append]; rfl
    have hRlen : R.length = i := by rw [hRt, List.length_map, htl]
    repeat' (first | refine qgs ?_ | refine eD ?_ ?_ <;> intro)
    refine ex_app (i) (1) 1000 (by first | rfl | (simp; done) | (simp; omega)) (by first | rfl | (simp; done) | (simp; omega)) rfl (by omega) ?_
    refine ex_is _ hap1 ?_
    repeat' (first | refine qgs ?_ | refine eD ?_ ?_ <;> intro)
    refine ex_app (i) (1) 1000 (by first | rfl | (simp; done) | (simp; omega)) (by first | rfl | (simp; done) | (simp; omega)) rfl (by omega) ?_
    refine ex_is _ hap2 ?_
    repeat' (first | refine aI ((i + 1 : Nat) : Int) ?_ | refine aU ((i + 1 : Nat) : Int) ?_ | refine aB ((i + 1 : Nat) : Int) ?_ | refine qg1 ?_ | refine eD ?_ ?_ <;> intro)
    exact ex_round (i + 1, RL.take (i + 1)) ⟨by omega, rfl⟩ (by show _ - _ < _ - _; omega) (sR [(4, 0), (6, 1)])
 ·obtain rfl : i = a + 1 := by omega
  subst hR
  repeat' (first | refine qgs ?_ | refine eD ?_ ?_ <;> intro)
  exact TLe.rfl
end Go.Proofs.YtoingpafcodojaaGreatDoor

namespace Go.Proofs.YtoingpafcodojaaGreatDoor

def TY.subX (t : TY) : List Int := (if t.ex = -1 then [] else [t.ex]) ++ t.args
def TY.subT (t : TY) : List Int := (if t.inn = -1 then [] else [t.inn]) ++ t.cases.map (·.t)
def usesX (s : PS) : List Int := s.xs.flatMap EX.kids ++ s.ts.flatMap TY.subX
def usesT (s : PS) : List Int := s.ts.flatMap TY.subT
structure OInv (s : PS) (a b : List Int) : Prop where
 x : ∀ j : Nat, j < s.xs.length → (usesX s).count (j : Int) + a.count (j : Int) = 1
 xr : ∀ j, j ∈ usesX s ∨ j ∈ a → 0 ≤ j ∧ j < s.xs.length
 xo : ∀ (i : Nat) (x : EX), s.xs[i]? = some x → ∀ k ∈ x.kids, k < i
 t : ∀ j : Nat, j < s.ts.length → (usesT s).count (j : Int) + b.count (j : Int) = 1
 tr : ∀ j, j ∈ usesT s ∨ j ∈ b → 0 ≤ j ∧ j < s.ts.length
 tt : ∀ (i : Nat) (t : TY), s.ts[i]? = some t → ∀ k ∈ t.subT, k < i
theorem OInv.perm {s : PS} {a b a' b' : List Int} (h : OInv s a b) (ha : a.Perm a') (hb : b.Perm b') : OInv s a' b' :=
 ⟨fun j hj => by rw [← ha.count_eq]; exact h.x j hj, fun j hj => h.xr j (by rwa [ha.mem_iff]), h.xo, fun j hj => by rw [← hb.count_eq]; exact h.t j hj, fun j hj => h.tr j (by rwa [hb.mem_iff]), h.tt⟩
theorem OInv.step {s : PS} {a b : List Int} (h : OInv s a b) (i : Nat) : OInv { s with i := i } a b := ⟨h.x, h.xr, h.xo, h.t, h.tr, h.tt⟩
def Ht {α : Type} (a b : List Int) (x : PM α) (f g : α → List Int) : Prop := ∀ s p q, OInv s (a ++ p) (b ++ q) → ∀ v s', x s = .ok v s' → OInv s' (f v ++ p) (g v ++ q)
theorem Ht.and {α β : Type} {a b : List Int} {x : PM α} {f g : α → List Int} {y : α → PM β} {f' g' : β → List Int} (hx : Ht a b x f g) (hy : ∀ v, Ht (f v) (g v) (y v) f' g') : Ht a b (x >>= y) f' g' := fun s p q h v s' he => by
 have he : PM.and x y s = .ok v s' := he
 unfold PM.and at he
 cases hxs : x s with
 | err i e => rw [hxs] at he; cases he
 | ok u s1 => rw [hxs] at he; exact hy u s1 p q (hx s p q h u s1 hxs) v s' he
theorem Ht.pure {α : Type} (v : α) (f g : α → List Int) : Ht (f v) (g v) (pure v) f g := fun s p q h v' s' he => by cases he; exact h
theorem Ht.fail {α : Type} {e : Nat} {a b : List Int} {f g : α → List Int} : Ht a b (failM e : PM α) f g := fun s p q h v s' he => by cases he
theorem Ht.look {α : Type} {f : PS → PM α} {a b : List Int} {f' g' : α → List Int} (h : ∀ s, Ht a b (f s) f' g') : Ht a b (fun s => f s s) f' g' := fun s p q hs => h s s p q hs
theorem Ht.at {α : Type} {p : Nat → Bool} {x y : PM α} {a b : List Int} {f g : α → List Int} (hx : Ht a b x f g) (hy : Ht a b y f g) : Ht a b (atM p x y) f g := fun s c d h v s' he => by
 unfold atM at he
 by_cases hp : p s.i = true
 ·rw [if_pos hp] at he; exact hx s c d h v s' he
 ·rw [if_neg hp] at he; exact hy s c d h v s' he
theorem Ht.more {α : Type} {a b : List Int} {x : PM α} {f g : α → List Int} (h : Ht a b x f g) (c d : List Int) : Ht (a ++ c) (b ++ d) x (fun v => f v ++ c) (fun v => g v ++ d) := fun s p q hi v s' he => by
 have := h s (c ++ p) (d ++ q) (by rw [← List.append_assoc, ← List.append_assoc]; exact hi) v s' he
 rw [List.append_assoc, List.append_assoc]
 exact this
theorem Ht.perm {α : Type} {a b a' b' : List Int} {x : PM α} {f g f' g' : α → List Int} (h : Ht a b x f g) (ha : a'.Perm a) (hb : b'.Perm b) (hf : ∀ v, (f v).Perm (f' v)) (hg : ∀ v, (g v).Perm (g' v)) : Ht a' b' x f' g' := fun s p q hi v s' he =>
 (h s p q (hi.perm (ha.append_right p) (hb.append_right q)) v s' he).perm ((hf v).append_right p) ((hg v).append_right q)
def Moves {α : Type} (x : PM α) : Prop := ∀ s v s', x s = .ok v s' → s'.xs = s.xs ∧ s'.ts = s.ts
theorem Moves.ht {α : Type} {x : PM α} (h : Moves x) (a b : List Int) : Ht a b x (fun _ => a) (fun _ => b) := fun s p q hi v s' he => by
 obtain ⟨h1, h2⟩ := h s v s' he
 obtain ⟨i, xs, ts⟩ := s'
 obtain rfl : xs = s.xs := h1
 obtain rfl : ts = s.ts := h2
 exact hi.step i
section
variable (L : List TokP)
theorem mv_step : Moves stepM := fun s v s' h => by cases h; exact ⟨rfl, rfl⟩
theorem mv_take (t : List UInt8) : Moves (takeM L t) := fun s v s' h => by
 unfold takeM at h; split at h <;> cases h; exact ⟨rfl, rfl⟩
theorem mv_name : Moves (nameM L) := fun s v s' h => by
 unfold nameM at h; split at h <;> cases h; exact ⟨rfl, rfl⟩
theorem mv_number : Moves (numberM L) := fun s v s' h => by
 unfold numberM at h; split at h <;> cases h; exact ⟨rfl, rfl⟩
theorem mv_room (n : Nat) : Moves (roomM n) := fun s v s' h => by
 unfold roomM at h; split at h <;> cases h; exact ⟨rfl, rfl⟩
theorem mv_enter (m : Nat) (b : Bool) : Moves (enterM m b) := fun s v s' h => by
 unfold enterM at h; split at h
 ·cases h
 ·split at h <;> cases h; exact ⟨rfl, rfl⟩
theorem mv_roomIf (p : Nat → Bool) (n : Nat) : Moves (fun s => if p s.i = true then roomM n s else .ok () s) := fun s v s' h => by
 dsimp only at h
 split at h
 ·exact mv_room n s v s' h
 ·cases h; exact ⟨rfl, rfl⟩
theorem mv_enterL (m : Nat) (p : Nat → Bool) : Moves (fun s => enterM m (p s.i) s) := fun s v s' h => mv_enter m _ s v s' h
end
theorem ht_put (x : EX) : Ht x.kids [] (putM x) (fun k => [k]) (fun _ => []) := fun s p q h v s' he => by
 cases he
 have hu : usesX { s with xs := s.xs ++ [x] } = s.xs.flatMap EX.kids ++ x.kids ++ s.ts.flatMap TY.subX := by unfold usesX; simp
 have hr : ∀ j, j ∈ usesX { s with xs := s.xs ++ [x] } ∨ j ∈ p → 0 ≤ j ∧ j < s.xs.length := fun j hj => h.xr j (by
  rw [hu] at hj
  unfold usesX
  simp only [List.mem_append] at hj ⊢
  grind)
 refine ⟨fun j hj => ?_, fun j hj => ?_, fun i y hy k hk => ?_, h.t, h.tr, h.tt⟩
 ·have hj : j < s.xs.length + 1 := by simpa using hj
  rw [List.count_append, List.count_singleton]
  by_cases he : j = s.xs.length
  ·subst he
   have h1 : (usesX { s with xs := s.xs ++ [x] }).count (s.xs.length : Int) = 0 := List.count_eq_zero.2 fun hm => by have := (hr _ (.inl hm)).2; omega
   have h2 : p.count (s.xs.length : Int) = 0 := List.count_eq_zero.2 fun hm => by have := (hr _ (.inr hm)).2; omega
   rw [h1, h2]; simp
  ·have h1 := h.x j (by omega)
   unfold usesX at h1
   rw [List.count_append, List.count_append] at h1
   rw [hu, List.count_append, List.count_append, if_neg (by simp; omega)]
   omega
 ·show 0 ≤ j ∧ j < ((s.xs ++ [x]).length : Nat)
  rw [List.length_append, List.length_singleton]
  by_cases hm : j ∈ usesX { s with xs := s.xs ++ [x] } ∨ j ∈ p
  ·have := hr j hm; omega
  ·have : j = (s.xs.length : Int) := by
    rcases hj with hj | hj
    ·exact absurd (.inl hj) hm
    ·rcases List.mem_append.1 hj with hj | hj
     ·simpa using hj
     ·exact absurd (.inr hj) hm
   omega
 ·have hy : (s.xs ++ [x])[i]? = some y := hy
  by_cases hi : i < s.xs.length
  ·rw [List.getElem?_append_left hi] at hy
   exact h.xo i y hy k hk
  ·have hl : i < (s.xs ++ [x]).length := (List.getElem?_eq_some_iff.1 hy).1
   rw [List.length_append, List.length_singleton] at hl
   obtain rfl : i = s.xs.length := by omega
   rw [List.getElem?_append_right (Nat.le_refl _), Nat.sub_self] at hy
   obtain rfl := Option.some.inj hy
   exact (h.xr k (.inr (List.mem_append_left _ hk))).2
theorem ht_lay (t : TY) : Ht t.subX t.subT (layM t) (fun _ => []) (fun k => [k]) := fun s p q h v s' he => by
 cases he
 have hu : usesX { s with ts := s.ts ++ [t] } = s.xs.flatMap EX.kids ++ s.ts.flatMap TY.subX ++ t.subX := by unfold usesX; simp
 have hv : usesT { s with ts := s.ts ++ [t] } = s.ts.flatMap TY.subT ++ t.subT := by unfold usesT; simp
 have hr : ∀ j, j ∈ usesT { s with ts := s.ts ++ [t] } ∨ j ∈ q → 0 ≤ j ∧ j < s.ts.length := fun j hj => h.tr j (by
  rw [hv] at hj
  unfold usesT
  simp only [List.mem_append] at hj ⊢
  grind)
 refine ⟨fun j hj => ?_, fun j hj => h.xr j ?_, h.xo, fun j hj => ?_, fun j hj => ?_, fun i y hy k hk => ?_⟩
 ·have h1 := h.x j hj
  unfold usesX at h1
  rw [List.count_append] at h1
  rw [hu, List.count_append, List.nil_append]
  rw [List.count_append] at h1
  rw [List.count_append]
  omega
 ·rw [hu] at hj
  unfold usesX
  simp only [List.mem_append, List.nil_append] at hj ⊢
  grind
 ·have hj : j < s.ts.length + 1 := by simpa using hj
  rw [List.count_append, List.count_singleton]
  by_cases he : j = s.ts.length
  ·subst he
   have h1 : (usesT { s with ts := s.ts ++ [t] }).count (s.ts.length : Int) = 0 := List.count_eq_zero.2 fun hm => by have := (hr _ (.inl hm)).2; omega
   have h2 : q.count (s.ts.length : Int) = 0 := List.count_eq_zero.2 fun hm => by have := (hr _ (.inr hm)).2; omega
   rw [h1, h2]; simp
  ·have h1 := h.t j (by omega)
   unfold usesT at h1
   rw [List.count_append] at h1
   rw [hv, List.count_append, if_neg (by simp; omega)]
   omega
 ·show 0 ≤ j ∧ j < ((s.ts ++ [t]).length : Nat)
  rw [List.length_append, List.length_singleton]
  by_cases hm : j ∈ usesT { s with ts := s.ts ++ [t] } ∨ j ∈ q
  ·have := hr j hm; omega
  ·have : j = (s.ts.length : Int) := by
    rcases hj with hj | hj
    ·exact absurd (.inl hj) hm
    ·rcases List.mem_append.1 hj with hj | hj
     ·simpa using hj
     ·exact absurd (.inr hj) hm
   omega
 ·have hy : (s.ts ++ [t])[i]? = some y := hy
  by_cases hi : i < s.ts.length
  ·rw [List.getElem?_append_left hi] at hy
   exact h.tt i y hy k hk
  ·have hl : i < (s.ts ++ [t]).length := (List.getElem?_eq_some_iff.1 hy).1
   rw [List.length_append, List.length_singleton] at hl
   obtain rfl : i = s.ts.length := by omega
   rw [List.getElem?_append_right (Nat.le_refl _), Nat.sub_self] at hy
   obtain rfl := Option.some.inj hy
   exact (h.tr k (.inr (List.mem_append_left _ hk))).2
section
variable {L : List TokP}
abbrev one : Int → List Int := fun k => [k]
abbrev non {α : Type} : α → List Int := fun _ => []
theorem ht_un (m : Nat) {un ex : PM Int} (h1 : Ht [] [] un one non) (h2 : Ht [] [] ex one non) : Ht [] [] (unF L m un ex) one non := by
 unfold unF
 refine Ht.at ?_ (Ht.at ?_ (Ht.at ?_ ?_))
 ·exact (mv_step.ht _ _).and fun _ => ((mv_enterL m (beginsV L)).ht _ _).and fun _ => h1.and fun k => ht_put ⟨2, [], 0, [], [k]⟩
 ·exact (mv_step.ht _ _).and fun _ => ((mv_enterL m (beginsV L)).ht _ _).and fun _ => h2.and fun k => ((mv_take L _).ht [k] []).and fun _ => Ht.pure k one non
 ·exact ((mv_name L).ht _ _).and fun w => ht_put ⟨1, [], 0, w, []⟩
 ·exact ((mv_number L).ht _ _).and fun n => ht_put ⟨0, [], n, [], []⟩
theorem ht_line (lv : Nat) {x : PM Int} (hx : Ht [] [] x one non) : ∀ n left, Ht [left] [] (lineN L lv x n left) one non
 | 0, left => Ht.pure left one non
 | n + 1, left => by
  rw [lineN]
  intro s p q h v s' he
  dsimp only at he
  by_cases hp : opAt L lv s.i = true
  ·rw [if_pos hp] at he
   refine ((mv_step.ht [left] []).and fun _ => ((hx.more [left] []).perm (a' := [left]) (b' := []) (f' := fun r => [left, r]) (g' := non) (.refl _) (.refl _) (fun r => .swap _ _ _) (fun _ => .refl _)).and fun r => (ht_put ⟨3, (tk L s.i).t, 0, [], [left, r]⟩).and fun k => ht_line lv hx n k) s p q h v s' he
  ·rw [if_neg hp] at he
   cases he
   exact h
theorem ht_lineJ {un : PM Int} (hx : Ht [] [] un one non) : ∀ j, Ht [] [] (lineJ L un j) one non
 | 0 => hx
 | j + 1 => (ht_lineJ hx j).and fun left => Ht.look fun s => ht_line _ (ht_lineJ hx j) _ _
theorem ht_unM : ∀ m, Ht [] [] (unM L m) one non
 | 0 => ht_un 0 Ht.fail Ht.fail
 | m + 1 => ht_un _ (ht_unM m) (ht_lineJ (ht_unM m) 8)
theorem ht_expr (m : Nat) : Ht [] [] (exprM L m) one non := ht_lineJ (ht_unM m) 8
theorem ht_bracket (m : Nat) : Ht [] [] (bracketM L m) one non := ((mv_take L _).ht _ _).and fun _ => (ht_expr m).and fun k => ((mv_take L _).ht [k] []).and fun _ => Ht.pure k one non
theorem ht_array (m : Nat) (t : TY) : Ht t.subX t.subT (arrayM L m t) non one :=
 (ht_lay t).and fun k => Ht.at ((((ht_bracket m).more [] [k]).perm (a' := []) (b' := [k]) (f' := one) (g' := fun _ => [k]) (.refl _) (.refl _) (fun _ => .refl _) (fun _ => .refl _)).and fun x => by
  intro s p q h v s' he
  have h0 := h.xr x (.inr (by simp))
  have h1 := h.tr k (.inr (by simp))
  have e1 : TY.subX { tyP 5 with ex := x, inn := k } = [x] := by unfold TY.subX; rw [if_neg (by show ¬ x = -1; omega)]; rfl
  have e2 : TY.subT { tyP 5 with ex := x, inn := k } = [k] := by unfold TY.subT; rw [if_neg (by show ¬ k = -1; omega)]; rfl
  have := ht_lay { tyP 5 with ex := x, inn := k } s p q
  rw [e1, e2] at this
  exact this h v s' he) (Ht.pure k non one)
theorem ht_args (m : Nat) : ∀ n l, Ht l [] (argsN L m n l) (fun l => l) non
 | 0, l => Ht.pure l (fun l => l) non
 | n + 1, l => Ht.at ((mv_step.ht l []).and fun _ => ((mv_roomIf (beginsV L ·) l.length).ht l []).and fun _ => (((ht_expr m).more l []).perm (a' := l) (b' := []) (f' := fun x => l ++ [x]) (g' := non) (.refl _) (.refl _) (fun x => List.perm_append_comm) (fun _ => .refl _)).and fun x => ht_args m n _) (Ht.pure l (fun l => l) non)
theorem sub_plain {t : TY} (h1 : t.ex = -1) (h2 : t.inn = -1) (h3 : t.cases = []) : t.subX = t.args ∧ t.subT = [] := by
 unfold TY.subX TY.subT
 rw [if_pos h1, if_pos h2, h3]
 exact ⟨rfl, rfl⟩
theorem ht_ret (t : TY) (h1 : t.ex = -1) (h2 : t.inn = -1) (h3 : t.cases = []) : Ht t.args [] (pure t : PM TY) TY.subX TY.subT := by
 have := Ht.pure t TY.subX TY.subT
 rwa [(sub_plain h1 h2 h3).1, (sub_plain h1 h2 h3).2] at this
theorem ht_lay1 (t : TY) (h1 : t.ex = -1) (h2 : t.inn = -1) (h3 : t.cases = []) : Ht t.args [] (layM t) non one := by
 have := ht_lay t
 rwa [(sub_plain h1 h2 h3).1, (sub_plain h1 h2 h3).2] at this
theorem ht_ref (m : Nat) : Ht [] [] (refM L m) TY.subX TY.subT :=
 ((mv_name L).ht _ _).and fun w => Ht.at ((mv_step.ht [] []).and fun _ => (ht_expr m).and fun x => (Ht.look fun s => ht_args m (L.length - s.i + 1) [x]).and fun l => ((mv_take L _).ht l []).and fun _ => ht_ret { tyP 10 with nm := w, args := l } rfl rfl rfl) (ht_ret { tyP 10 with nm := w } rfl rfl rfl)
theorem ht_inner (m : Nat) {kd : PM Int} (h : Ht [] [] kd non one) : Ht [] [] (innerM L m kd) non one := ((mv_enterL m (startsV L)).ht _ _).and fun _ => h
abbrev tys (l : List CA) : List Int := l.map (·.t)
theorem ht_cases (m : Nat) {kd : PM Int} (h : Ht [] [] kd non one) : ∀ n l, Ht [] (tys l) (casesN L m kd n l) non tys
 | 0, l => Ht.pure l non tys
 | n + 1, l => Ht.at (((mv_room _).ht [] (tys l)).and fun _ => (mv_step.ht [] (tys l)).and fun _ => ((mv_number L).ht [] (tys l)).and fun c => ((mv_take L _).ht [] (tys l)).and fun _ =>
   (((ht_inner m h).more [] (tys l)).perm (a' := []) (b' := tys l) (f' := non) (g' := fun k => tys (l ++ [⟨c, k⟩])) (.refl _) (.refl _) (fun _ => .refl _) (fun k => by unfold tys; rw [List.map_append]; exact List.perm_append_comm)).and fun k =>
   ((mv_take L _).ht [] (tys (l ++ [⟨c, k⟩]))).and fun _ => ht_cases m h n _) (Ht.pure l non tys)
def may (k : Int) : List Int := if k = -1 then [] else [k]
theorem ht_choice (m : Nat) {kd : PM Int} (h : Ht [] [] kd non one) : Ht [] [] (choiceM L m kd) non one := by
 unfold choiceM
 refine ((mv_take L _).ht _ _).and fun _ => (ht_expr m).and fun x => ((mv_take L _).ht [x] []).and fun _ => ((mv_take L _).ht [x] []).and fun _ =>
  (((Ht.look fun s => ht_cases m h (L.length - s.i + 1) []).more [x] []).perm (a' := [x]) (b' := []) (f' := fun _ => [x]) (g' := tys) (.refl _) (.refl _) (fun _ => .refl _) (fun l => by rw [List.append_nil])).and fun cs =>
  Ht.and (f := fun _ => [x]) (g := fun k => may k ++ tys cs) (Ht.at ((mv_step.ht [x] (tys cs)).and fun _ => ((mv_take L _).ht [x] (tys cs)).and fun _ => Ht.and (f := fun _ => [x]) (g := fun k => may k ++ tys cs) ?_ fun k => ((mv_take L _).ht [x] (may k ++ tys cs)).and fun _ => Ht.pure k (fun _ => [x]) (fun k => may k ++ tys cs)) (Ht.pure (-1) (fun _ => [x]) (fun k => may k ++ tys cs))) fun k => ((mv_take L _).ht [x] (may k ++ tys cs)).and fun _ => ?_
 ·intro s p q hi v s' he
  have := (ht_inner m h).more [x] (tys cs) s p q hi v s' he
  have h1 := this.tr v (.inr (by simp))
  have e : may v = [v] := by unfold may; rw [if_neg (by omega)]
  dsimp only
  rw [e]
  exact this
 ·intro s p q hi v s' he
  have h0 := hi.xr x (.inr (by simp))
  have e1 : TY.subX { tyP 9 with ex := x, inn := k, cases := cs } = [x] := by unfold TY.subX; rw [if_neg (by show ¬ x = -1; omega)]; rfl
  have := ht_lay { tyP 9 with ex := x, inn := k, cases := cs } s p q
  rw [e1] at this
  exact this hi v s' he
theorem ht_word (m : Nat) {kd : PM Int} (h : Ht [] [] kd non one) (w : List UInt8) : Ht [] [] (wordM L m kd w) non one := by
 unfold wordM
 split
 ·rename_i k _
  refine (ht_bracket m).and fun x => Ht.and (f := fun _ => [x]) (g := may) ?_ fun i => ?_
  ·by_cases hk : k = 7 ∨ k = 8
   ·rw [if_pos hk]
    intro s p q hi v s' he
    have := (ht_inner m h).more [x] [] s p q hi v s' he
    have h1 := this.tr v (.inr (by simp))
    have e : may v = [v] := by unfold may; rw [if_neg (by omega)]
    rw [e]
    exact this
   ·rw [if_neg hk]; exact Ht.pure (-1) (fun _ => [x]) may
  ·intro s p q hi v s' he
   have h0 := hi.xr x (.inr (by simp))
   have e1 : TY.subX { tyP k with ex := x, inn := i } = [x] := by unfold TY.subX; rw [if_neg (by show ¬ x = -1; omega)]; rfl
   have e2 : TY.subT { tyP k with ex := x, inn := i } = may i := by unfold TY.subT may; simp [tyP]
   have := ht_lay { tyP k with ex := x, inn := i } s p q
   rw [e1, e2] at this
   exact this hi v s' he
 ·repeat' split
  ·refine (ht_inner m h).and fun i => ?_
   intro s p q hi v s' he
   have h1 := hi.tr i (.inr (by simp))
   have e2 : TY.subT { tyP 6 with inn := i } = [i] := by unfold TY.subT; rw [if_neg (by show ¬ i = -1; omega)]; rfl
   have := ht_lay { tyP 6 with inn := i } s p q
   rw [e2] at this
   exact this hi v s' he
  ·exact ht_lay1 (tyP 4) rfl rfl rfl
  ·exact ht_lay1 (tyP 11) rfl rfl rfl
  ·exact ht_choice m h
  ·have := ht_array (L := L) m { tyP 0 with size := ((integerV w).getD (0, false)).1, little := ((integerV w).getD (0, false)).2 }
   rwa [(sub_plain rfl rfl rfl).1, (sub_plain rfl rfl rfl).2] at this
theorem ht_kindF (m : Nat) {kd : PM Int} (h : Ht [] [] kd non one) : Ht [] [] (kindF L m kd) non one := by
 unfold kindF
 exact Ht.at ((ht_ref m).and fun t => ht_array m t) (Ht.at (Ht.look (f := fun s => stepM >>= fun _ => wordM L m kd (tk L s.i).t) fun s => (mv_step.ht _ _).and fun _ => ht_word m h _) Ht.fail)
theorem ht_kind : ∀ m, Ht [] [] (kindM L m) non one
 | 0 => ht_kindF 0 Ht.fail
 | m + 1 => ht_kindF _ (ht_kind m)
theorem mv_and {α β : Type} {x : PM α} {y : α → PM β} (hx : Moves x) (hy : ∀ v, Moves (y v)) : Moves (x >>= y) := fun s v s' he => by
 have he : PM.and x y s = .ok v s' := he
 unfold PM.and at he
 cases hxs : x s with
 | err i e => rw [hxs] at he; cases he
 | ok u s1 =>
  rw [hxs] at he
  obtain ⟨h1, h2⟩ := hx s u s1 hxs
  obtain ⟨h3, h4⟩ := hy u s1 v s' he
  exact ⟨h3.trans h1, h4.trans h2⟩
theorem mv_pure {α : Type} (v : α) : Moves (pure v : PM α) := fun s v s' he => by cases he; exact ⟨rfl, rfl⟩
theorem mv_fail {α : Type} (e : Nat) : Moves (failM e : PM α) := fun s v s' he => by cases he
theorem mv_at {α : Type} {p : Nat → Bool} {x y : PM α} (hx : Moves x) (hy : Moves y) : Moves (atM p x y) := fun s v s' he => by
 unfold atM at he
 by_cases hp : p s.i = true
 ·rw [if_pos hp] at he; exact hx s v s' he
 ·rw [if_neg hp] at he; exact hy s v s' he
theorem mv_look {α : Type} {f : PS → PM α} (h : ∀ s, Moves (f s)) : Moves (fun s => f s s) := fun s v s' he => h s s v s' he
theorem mw_derived : Moves (derivedM L) := mv_at (mv_look (f := fun s => stepM >>= fun _ => takeM L t_lpar >>= fun _ => nameM L >>= fun a =>
   (if 3 ≤ derOf (tk L s.i).t then takeM L t_dots >>= fun _ => nameM L else pure []) >>= fun b => takeM L t_rpar >>= fun _ => pure (derOf (tk L s.i).t, a, b)) fun s => mv_and mv_step fun _ => mv_and (mv_take L _) fun _ => mv_and (mv_name L) fun a => mv_and (by
   by_cases hd : 3 ≤ derOf (tk L s.i).t
   ·rw [if_pos hd]; exact mv_and (mv_take L _) fun _ => mv_name L
   ·rw [if_neg hd]; exact mv_pure _) fun b => mv_and (mv_take L _) fun _ => mv_pure _) (mv_fail 4)
theorem mv_subs : ∀ n l, Moves (subsN L n l)
 | 0, l => mv_pure _
 | n + 1, l => by
  rw [subsN]
  exact mv_and (mv_roomIf (namedV L ·) _) fun _ => mv_and (mv_name L) fun w => mv_and (mv_take L _) fun _ => mv_and (mv_number L) fun b => mv_and (mv_take L _) fun _ => mv_at (mv_subs n _) (mv_pure _)
theorem mv_pars : ∀ n l, Moves (parsN L n l)
 | 0, l => mv_pure _
 | n + 1, l => mv_at (mv_and mv_step fun _ => mv_and (mv_roomIf (namedV L ·) _) fun _ => mv_and (mv_name L) fun x => mv_pars n _) (mv_pure _)
theorem mw_const : Moves (constM L) := mv_and (mv_take L _) fun _ => mv_and (mv_name L) fun w => mv_and (mv_take L _) fun _ => mv_and (mv_number L) fun n => mv_and (mv_take L _) fun _ => mv_pure _
def itX (x : IT) : List Int := may x.wh
def itT (x : IT) : List Int := may x.ty
theorem ht_field : Ht [] [] (fieldM L) itX itT := by
 unfold fieldM
 refine ((mv_name L).ht _ _).and fun w => ((mv_take L _).ht _ _).and fun _ => (ht_kind 32).and fun t => Ht.and (f := fun _ => []) (g := fun _ => [t]) (Ht.at ((mv_step.ht _ _).and fun _ => mw_derived.ht [] [t]) ((mv_pure _).ht [] [t])) fun d =>
  Ht.and (f := may) (g := fun _ => [t]) (Ht.at ((mv_step.ht [] [t]).and fun _ => ?_) (by have := Ht.pure (-1) may (fun _ => [t]); rwa [show may (-1) = [] from if_pos rfl] at this)) fun x => ((mv_take L _).ht (may x) [t]).and fun _ => ?_
 ·intro s p q hi v s' he
  have := (ht_expr 32).more [] [t] s p q hi v s' he
  have h1 := this.xr v (.inr (by simp))
  have e : may v = [v] := by unfold may; rw [if_neg (by omega)]
  rw [e]
  exact this
 ·intro s p q hi v s' he
  have h1 := hi.tr t (.inr (by simp))
  cases he
  have e : itT ⟨w, t, d.1, d.2.1, d.2.2, x, 0, false, []⟩ = [t] := by unfold itT may; rw [if_neg (by show ¬ t = -1; omega)]
  rw [e]
  exact hi
theorem ht_pack : Ht [] [] (packM L) itX itT := by
 unfold packM
 refine ((mv_take L _).ht _ _).and fun _ => ?_
 intro s p q hi v s' he
 dsimp only at he
 split at he
 ·cases he
 ·rename_i z lt _
  have h1 : Moves (stepM >>= fun _ => takeM L t_lcur >>= fun _ => (fun s => subsN L (L.length - s.i + 1) [] s) >>= fun l => takeM L t_rcur >>= fun _ => pure (⟨[], -1, 0, [], [], -1, z, lt, l⟩ : IT)) :=
   mv_and mv_step fun _ => mv_and (mv_take L _) fun _ => mv_and (mv_look fun s => mv_subs _ _) fun l => mv_and (mv_take L _) fun _ => mv_pure _
  have h3 : v.ty = -1 ∧ v.wh = -1 := by
   have he : PM.and stepM (fun _ => takeM L t_lcur >>= fun _ => (fun s => subsN L (L.length - s.i + 1) [] s) >>= fun l => takeM L t_rcur >>= fun _ => pure (⟨[], -1, 0, [], [], -1, z, lt, l⟩ : IT)) s = .ok v s' := he
   unfold PM.and stepM at he
   dsimp only at he
   have he : PM.and (takeM L t_lcur) (fun _ => (fun s => subsN L (L.length - s.i + 1) [] s) >>= fun l => takeM L t_rcur >>= fun _ => pure (⟨[], -1, 0, [], [], -1, z, lt, l⟩ : IT)) _ = .ok v s' := he
   unfold PM.and at he
   split at he
   ·have he : PM.and (fun s => subsN L (L.length - s.i + 1) [] s) (fun l => takeM L t_rcur >>= fun _ => pure (⟨[], -1, 0, [], [], -1, z, lt, l⟩ : IT)) _ = .ok v s' := he
    unfold PM.and at he
    split at he
    ·have he : PM.and (takeM L t_rcur) (fun _ => pure (⟨[], -1, 0, [], [], -1, z, lt, _⟩ : IT)) _ = .ok v s' := he
     unfold PM.and at he
     split at he
     ·cases he; exact ⟨rfl, rfl⟩
     ·cases he
    ·cases he
   ·cases he
  have := h1.ht [] [] s p q hi v s' he
  have e1 : itX v = [] := by unfold itX may; rw [if_pos h3.2]
  have e2 : itT v = [] := by unfold itT may; rw [if_pos h3.1]
  rw [e1, e2]
  exact this
theorem ht_items : ∀ n l, Ht (l.flatMap itX) (l.flatMap itT) (itemsN L n l) (fun l => l.flatMap itX) (fun l => l.flatMap itT)
 | 0, l => Ht.pure l (fun l => l.flatMap itX) (fun l => l.flatMap itT)
 | n + 1, l => Ht.at (((mv_room _).ht _ _).and fun _ => (((Ht.at ht_pack ht_field).more (l.flatMap itX) (l.flatMap itT)).perm (a' := l.flatMap itX) (b' := l.flatMap itT) (f' := fun x => (l ++ [x]).flatMap itX) (g' := fun x => (l ++ [x]).flatMap itT) (.refl _) (.refl _)
   (fun x => by rw [List.flatMap_append, List.flatMap_singleton]; exact List.perm_append_comm) (fun x => by rw [List.flatMap_append, List.flatMap_singleton]; exact List.perm_append_comm)).and fun x => ht_items n _) (Ht.pure l (fun l => l.flatMap itX) (fun l => l.flatMap itT))
def rcX (r : RC) : List Int := r.its.flatMap itX
def rcT (r : RC) : List Int := r.its.flatMap itT
theorem ht_record : Ht [] [] (recordM L) rcX rcT := by
 unfold recordM
 exact ((mv_take L _).ht _ _).and fun _ => ((mv_name L).ht _ _).and fun w =>
  ((mv_at (mv_and mv_step fun _ => mv_and (mv_name L) fun x => mv_and (mv_look fun s => mv_pars _ _) fun l => mv_and (mv_take L _) fun _ => mv_pure _) (mv_pure _)).ht [] []).and fun ps =>
  ((mv_take L _).ht _ _).and fun _ => (Ht.look fun s => ht_items _ []).and fun is => ((mv_take L _).ht (is.flatMap itX) (is.flatMap itT)).and fun _ => Ht.pure (⟨w, ps, is⟩ : RC) rcX rcT
theorem ht_whole : ∀ n cs (rs : List RC), Ht (rs.flatMap rcX) (rs.flatMap rcT) (wholeN L n cs rs) (fun p => p.2.flatMap rcX) (fun p => p.2.flatMap rcT)
 | 0, cs, rs => Ht.pure (cs, rs) (fun p => p.2.flatMap rcX) (fun p => p.2.flatMap rcT)
 | n + 1, cs, rs => Ht.at (((mv_room _).ht _ _).and fun _ => (mw_const.ht _ _).and fun c => ht_whole n _ rs)
  (Ht.at (((mv_room _).ht _ _).and fun _ => ((ht_record.more (rs.flatMap rcX) (rs.flatMap rcT)).perm (a' := rs.flatMap rcX) (b' := rs.flatMap rcT) (f' := fun x => (rs ++ [x]).flatMap rcX) (g' := fun x => (rs ++ [x]).flatMap rcT) (.refl _) (.refl _)
   (fun x => by rw [List.flatMap_append, List.flatMap_singleton]; exact List.perm_append_comm) (fun x => by rw [List.flatMap_append, List.flatMap_singleton]; exact List.perm_append_comm)).and fun x => ht_whole n _ _)
  (Ht.at (Ht.pure (cs, rs) (fun p => p.2.flatMap rcX) (fun p => p.2.flatMap rcT)) Ht.fail))
theorem file_order {R : LR} {cs : List CO} {rs : List RC} {xs : List EX} {ts : List TY} (h : fileV R = .ok cs rs xs ts) : OInv ⟨0, xs, ts⟩ (rs.flatMap rcX) (rs.flatMap rcT) := by
 unfold fileV at h
 split at h
 ·cases h
 ·rename_i L
  split at h
  ·rename_i c r s hw
   cases h
   have h0 : OInv ⟨0, [], []⟩ [] [] := ⟨fun j h => absurd h (Nat.not_lt_zero _), fun j h => by simp [usesX] at h, fun i x h => by simp at h, fun j h => absurd h (Nat.not_lt_zero _), fun j h => by simp [usesT] at h, fun i x h => by simp at h⟩
   have := ht_whole (L := L) (L.length + 1) [] [] ⟨0, [], []⟩ [] [] h0 _ _ hw
   rw [List.append_nil, List.append_nil] at this
   exact this.step 0
  ·cases h
end
end Go.Proofs.YtoingpafcodojaaGreatDoor

namespace Go.Proofs.YtoingpafcodojaaGreatDoor

class NumC (L : List TokP) : Prop where
 h : ∀ i, (tk L i).n < 18446744073709551616
structure GoodS (B : Nat) (s : PS) : Prop where
 x : ∀ e ∈ s.xs, e.kids.length ≤ B ∧ e.n < 18446744073709551616
 t : ∀ t ∈ s.ts, t.args.length ≤ B ∧ t.cases.length ≤ B
def Szd (B : Nat) {α : Type} (x : PM α) (R : α → Prop) : Prop := ∀ s v s', GoodS B s → x s = .ok v s' → GoodS B s' ∧ R v
section
variable {B : Nat} {L : List TokP} [NumC L]
theorem Szd.and {α β : Type} {x : PM α} {f : α → PM β} {R : α → Prop} {Q : β → Prop} (hx : Szd B x R) (hf : ∀ v, R v → Szd B (f v) Q) : Szd B (x >>= f) Q := fun s v s' h he => by
 have he : PM.and x f s = .ok v s' := he
 unfold PM.and at he
 cases hxs : x s with
 | err i e => rw [hxs] at he; cases he
 | ok u s1 =>
  rw [hxs] at he
  obtain ⟨h1, h2⟩ := hx s u s1 h hxs
  exact hf u h2 s1 v s' h1 he
theorem Szd.pure {α : Type} {R : α → Prop} (v : α) (h : R v) : Szd B (pure v) R := fun s v' s' hs he => by cases he; exact ⟨hs, h⟩
theorem Szd.fail {α : Type} {R : α → Prop} (e : Nat) : Szd B (failM e : PM α) R := fun s v s' hs he => by cases he
theorem Szd.at {α : Type} {p : Nat → Bool} {x y : PM α} {R : α → Prop} (hx : Szd B x R) (hy : Szd B y R) : Szd B (atM p x y) R := fun s v s' h he => by
 unfold atM at he
 by_cases hp : p s.i = true
 ·rw [if_pos hp] at he; exact hx s v s' h he
 ·rw [if_neg hp] at he; exact hy s v s' h he
theorem Szd.look {α : Type} {f : PS → PM α} {R : α → Prop} (h : ∀ s, Szd B (f s) R) : Szd B (fun s => f s s) R := fun s v s' hs he => h s s v s' hs he
theorem Szd.moves {α : Type} {x : PM α} (h : Moves x) : Szd B x (fun _ => True) := fun s v s' hs he => by
 obtain ⟨h1, h2⟩ := h s v s' he
 exact ⟨⟨by rw [h1]; exact hs.x, by rw [h2]; exact hs.t⟩, trivial⟩
theorem Szd.put (x : EX) (h : x.kids.length ≤ B ∧ x.n < 18446744073709551616) : Szd B (putM x) (fun _ => True) := fun s v s' hs he => by
 cases he
 refine ⟨⟨fun e hm => ?_, hs.t⟩, trivial⟩
 rcases List.mem_append.1 hm with hm | hm
 ·exact hs.x e hm
 ·rw [List.mem_singleton.1 hm]; exact h
theorem Szd.lay (t : TY) (h : t.args.length ≤ B) (h2 : t.cases.length ≤ B) : Szd B (layM t) (fun _ => True) := fun s v s' hs he => by
 cases he
 refine ⟨⟨hs.x, fun e hm => ?_⟩, trivial⟩
 rcases List.mem_append.1 hm with hm | hm
 ·exact hs.t e hm
 ·rw [List.mem_singleton.1 hm]; exact ⟨h, h2⟩
abbrev tru {α : Type} : α → Prop := fun _ => True
theorem sz_number : Szd B (numberM L) (fun n => n < 18446744073709551616) := fun s v s' hs he => by
 unfold numberM at he
 split at he
 ·cases he
  exact ⟨⟨hs.x, hs.t⟩, NumC.h _⟩
 ·cases he
theorem sz_un (hB : 2 ≤ B) (m : Nat) {un ex : PM Int} (h1 : Szd B un tru) (h2 : Szd B ex tru) : Szd B (unF L m un ex) tru :=
 Szd.at ((Szd.moves (mv_step)).and fun _ _ => (Szd.moves (mv_enterL m _)).and fun _ _ => h1.and fun k _ => Szd.put _ ⟨by show 1 ≤ B; omega, by show 0 < _; omega⟩)
 (Szd.at ((Szd.moves (mv_step)).and fun _ _ => (Szd.moves (mv_enterL m _)).and fun _ _ => h2.and fun k _ => (Szd.moves (mv_take L _)).and fun _ _ => Szd.pure _ trivial)
 (Szd.at ((Szd.moves (mv_name L)).and fun w _ => Szd.put _ ⟨Nat.zero_le _, by show 0 < _; omega⟩) (sz_number.and fun w hw => Szd.put _ ⟨Nat.zero_le _, hw⟩)))
omit [NumC L] in
theorem sz_line (hB : 2 ≤ B) (lv : Nat) {x : PM Int} (hx : Szd B x tru) : ∀ n left, Szd B (lineN L lv x n left) tru
 | 0, left => Szd.pure _ trivial
 | n + 1, left => Szd.look (f := fun s => atM (opAt L lv) (stepM >>= fun _ => x >>= fun right => putM ⟨3, (tk L s.i).t, 0, [], [left, right]⟩ >>= fun k => lineN L lv x n k) (pure left)) fun s =>
  Szd.at ((Szd.moves mv_step).and fun _ _ => hx.and fun r _ => (Szd.put _ ⟨by show 2 ≤ B; omega, by show 0 < _; omega⟩).and fun k _ => sz_line hB lv hx n k) (Szd.pure _ trivial)
omit [NumC L] in
theorem sz_lineJ (hB : 2 ≤ B) {un : PM Int} (hx : Szd B un tru) : ∀ j, Szd B (lineJ L un j) tru
 | 0 => hx
 | j + 1 => (sz_lineJ hB hx j).and fun left _ => Szd.look fun s => sz_line hB _ (sz_lineJ hB hx j) _ _
theorem sz_unM (hB : 2 ≤ B) : ∀ m, Szd B (unM L m) tru
 | 0 => sz_un hB 0 (Szd.fail _) (Szd.fail _)
 | m + 1 => sz_un hB _ (sz_unM hB m) (sz_lineJ hB (sz_unM hB m) 8)
theorem sz_expr (hB : 2 ≤ B) (m : Nat) : Szd B (exprM L m) tru := sz_lineJ hB (sz_unM hB m) 8
theorem sz_bracket (hB : 2 ≤ B) (m : Nat) : Szd B (bracketM L m) tru := (Szd.moves (mv_take L _)).and fun _ _ => (sz_expr hB m).and fun k _ => (Szd.moves (mv_take L _)).and fun _ _ => Szd.pure _ trivial
def tyS (B : Nat) (t : TY) : Prop := t.args.length ≤ B ∧ t.cases.length ≤ B
theorem sz_array (hB : 2 ≤ B) (m : Nat) (t : TY) (ht : tyS B t) : Szd B (arrayM L m t) tru :=
 (Szd.lay t ht.1 ht.2).and fun k _ => Szd.at ((sz_bracket hB m).and fun x _ => Szd.lay _ (Nat.zero_le _) (Nat.zero_le _)) (Szd.pure _ trivial)
theorem sz_args (hB : 2 ≤ B) (m : Nat) : ∀ n l, l.length + n ≤ B → Szd B (argsN L m n l) (fun l => l.length ≤ B)
 | 0, l, h => Szd.pure _ (by omega)
 | n + 1, l, h => Szd.at ((Szd.moves mv_step).and fun _ _ => (Szd.moves (mv_roomIf _ _)).and fun _ _ => (sz_expr hB m).and fun x _ => sz_args hB m n (l ++ [x]) (by rw [List.length_append, List.length_singleton]; omega)) (Szd.pure _ (by omega))
theorem sz_ref (hB : L.length + 2 ≤ B) (m : Nat) : Szd B (refM L m) (tyS B) :=
 (Szd.moves (mv_name L)).and fun w _ => Szd.at ((Szd.moves mv_step).and fun _ _ => (sz_expr (by omega) m).and fun x _ => (Szd.look fun s => sz_args (by omega) m _ [x] (by show 1 + (L.length - s.i + 1) ≤ B; omega)).and fun l hl => (Szd.moves (mv_take L _)).and fun _ _ => Szd.pure _ ⟨hl, Nat.zero_le _⟩) (Szd.pure _ ⟨Nat.zero_le _, Nat.zero_le _⟩)
section
variable {kd : PM Int}
omit [NumC L] in
theorem sz_inner (m : Nat) (h : Szd B kd tru) : Szd B (innerM L m kd) tru := (Szd.moves (mv_enterL m _)).and fun _ _ => h
omit [NumC L] in
theorem sz_cases (m : Nat) (h : Szd B kd tru) : ∀ n l, l.length + n ≤ B → Szd B (casesN L m kd n l) (fun l => l.length ≤ B)
 | 0, l, hl => Szd.pure _ (by omega)
 | n + 1, l, hl => Szd.at ((Szd.moves (mv_room _)).and fun _ _ => (Szd.moves mv_step).and fun _ _ => (Szd.moves (mv_number L)).and fun c _ => (Szd.moves (mv_take L _)).and fun _ _ => (sz_inner m h).and fun k _ => (Szd.moves (mv_take L _)).and fun _ _ => sz_cases m h n (l ++ [⟨c, k⟩]) (by rw [List.length_append, List.length_singleton]; omega)) (Szd.pure _ (by omega))
theorem sz_choice (hB : L.length + 2 ≤ B) (m : Nat) (h : Szd B kd tru) : Szd B (choiceM L m kd) tru :=
 (Szd.moves (mv_take L _)).and fun _ _ => (sz_expr (by omega) m).and fun x _ => (Szd.moves (mv_take L _)).and fun _ _ => (Szd.moves (mv_take L _)).and fun _ _ => (Szd.look fun s => sz_cases m h _ [] (by show 0 + (L.length - s.i + 1) ≤ B; omega)).and fun cs hcs =>
  (Szd.at ((Szd.moves mv_step).and fun _ _ => (Szd.moves (mv_take L _)).and fun _ _ => (sz_inner m h).and fun k _ => (Szd.moves (mv_take L _)).and fun _ _ => Szd.pure _ trivial) (Szd.pure (R := tru) _ trivial)).and fun k _ => (Szd.moves (mv_take L _)).and fun _ _ => Szd.lay _ (Nat.zero_le _) hcs
theorem sz_word (hB : L.length + 2 ≤ B) (m : Nat) (h : Szd B kd tru) (w : List UInt8) : Szd B (wordM L m kd w) tru := by
 unfold wordM
 split
 ·refine (sz_bracket (by omega) m).and fun x _ => Szd.and (R := tru) ?_ fun i _ => Szd.lay _ (Nat.zero_le _) (Nat.zero_le _)
  split
  ·exact sz_inner m h
  ·exact Szd.pure _ trivial
 ·repeat' split
  ·exact (sz_inner m h).and fun i _ => Szd.lay _ (Nat.zero_le _) (Nat.zero_le _)
  ·exact Szd.lay _ (Nat.zero_le _) (Nat.zero_le _)
  ·exact Szd.lay _ (Nat.zero_le _) (Nat.zero_le _)
  ·exact sz_choice hB m h
  ·exact sz_array (by omega) m _ ⟨Nat.zero_le _, Nat.zero_le _⟩
theorem sz_kindF (hB : L.length + 2 ≤ B) (m : Nat) (h : Szd B kd tru) : Szd B (kindF L m kd) tru :=
 Szd.at ((sz_ref hB m).and fun t ht => sz_array (by omega) m t ht) (Szd.look (f := fun s => atM (startsV L ·) (stepM >>= fun _ => wordM L m kd (tk L s.i).t) (failM 4)) fun s => Szd.at ((Szd.moves mv_step).and fun _ _ => sz_word hB m h _) (Szd.fail _))
end
theorem sz_kind (hB : L.length + 2 ≤ B) : ∀ m, Szd B (kindM L m) tru
 | 0 => sz_kindF hB 0 (Szd.fail _)
 | m + 1 => sz_kindF hB _ (sz_kind hB m)
def itS (B : Nat) (x : IT) : Prop := x.subs.length ≤ B
def rcS (B : Nat) (r : RC) : Prop := r.ps.length ≤ B ∧ r.its.length ≤ B ∧ ∀ x ∈ r.its, itS B x
theorem sz_field (hB : L.length + 2 ≤ B) : Szd B (fieldM L) (itS B) :=
 (Szd.moves (mv_name L)).and fun w _ => (Szd.moves (mv_take L _)).and fun _ _ => (sz_kind hB 32).and fun t _ => (Szd.moves (mv_at (mv_and mv_step fun _ => mw_derived (L := L)) (mv_pure _))).and fun d _ =>
  (Szd.at ((Szd.moves mv_step).and fun _ _ => sz_expr (by omega) 32) (Szd.pure (R := tru) _ trivial)).and fun x _ => (Szd.moves (mv_take L _)).and fun _ _ => Szd.pure _ (Nat.zero_le _)
omit [NumC L] in
theorem sz_subs : ∀ n l, l.length + n ≤ B → Szd B (subsN L n l) (fun l => l.length ≤ B)
 | 0, l, h => Szd.pure _ (by omega)
 | n + 1, l, h => by
  rw [subsN]
  exact (Szd.moves (mv_roomIf _ _)).and fun _ _ => (Szd.moves (mv_name L)).and fun w _ => (Szd.moves (mv_take L _)).and fun _ _ => (Szd.moves (mv_number L)).and fun b _ => (Szd.moves (mv_take L _)).and fun _ _ =>
   Szd.at (sz_subs n _ (by rw [List.length_append, List.length_singleton]; omega)) (Szd.pure _ (by rw [List.length_append, List.length_singleton]; omega))
omit [NumC L] in
theorem sz_pack (hB : L.length + 2 ≤ B) : Szd B (packM L) (itS B) := by
 unfold packM
 refine (Szd.moves (mv_take L _)).and fun _ _ => fun s v s' hs he => ?_
 split at he
 ·cases he
 ·rename_i z lt _
  exact ((Szd.moves mv_step).and fun _ _ => (Szd.moves (mv_take L t_lcur)).and fun _ _ => (Szd.look fun s => sz_subs (L := L) (L.length - s.i + 1) [] (by show 0 + (L.length - s.i + 1) ≤ B; omega)).and fun l hl => (Szd.moves (mv_take L t_rcur)).and fun _ _ => Szd.pure (⟨[], -1, 0, [], [], -1, z, lt, l⟩ : IT) (R := itS B) hl) s v s' hs he
omit [NumC L] in
theorem sz_pars : ∀ n l, l.length + n ≤ B → Szd B (parsN L n l) (fun l => l.length ≤ B)
 | 0, l, h => Szd.pure _ (by omega)
 | n + 1, l, h => Szd.at ((Szd.moves mv_step).and fun _ _ => (Szd.moves (mv_roomIf _ _)).and fun _ _ => (Szd.moves (mv_name L)).and fun x _ => sz_pars n (l ++ [x]) (by rw [List.length_append, List.length_singleton]; omega)) (Szd.pure _ (by omega))
theorem sz_items (hB : L.length + 2 ≤ B) : ∀ n l, l.length + n ≤ B → (∀ x ∈ l, itS B x) → Szd B (itemsN L n l) (fun l => l.length ≤ B ∧ ∀ x ∈ l, itS B x)
 | 0, l, h, hi => Szd.pure _ ⟨by omega, hi⟩
 | n + 1, l, h, hi => Szd.at ((Szd.moves (mv_room _)).and fun _ _ => (Szd.at (sz_pack hB) (sz_field hB)).and fun x hx => sz_items hB n (l ++ [x]) (by rw [List.length_append, List.length_singleton]; omega) (fun y hy => by
   rcases List.mem_append.1 hy with hy | hy
   ·exact hi y hy
   ·rw [List.mem_singleton.1 hy]; exact hx)) (Szd.pure _ ⟨by omega, hi⟩)
theorem sz_record (hB : L.length + 2 ≤ B) : Szd B (recordM L) (rcS B) := by
 unfold recordM
 exact (Szd.moves (mv_take L _)).and fun _ _ => (Szd.moves (mv_name L)).and fun w _ =>
  (Szd.at ((Szd.moves mv_step).and fun _ _ => (Szd.moves (mv_name L)).and fun x _ => (Szd.look fun s => sz_pars (L := L) _ [x] (by show 1 + (L.length - s.i + 1) ≤ B; omega)).and fun l hl => (Szd.moves (mv_take L _)).and fun _ _ => Szd.pure l (R := fun l => l.length ≤ B) hl) (Szd.pure [] (R := fun l => l.length ≤ B) (Nat.zero_le _))).and fun ps hps =>
  (Szd.moves (mv_take L _)).and fun _ _ => (Szd.look fun s => sz_items hB _ [] (by show 0 + (L.length - s.i + 1) ≤ B; omega) (by simp)).and fun is his => (Szd.moves (mv_take L _)).and fun _ _ => Szd.pure (⟨w, ps, is⟩ : RC) (R := rcS B) ⟨hps, his.1, his.2⟩
theorem sz_whole (hB : L.length + 2 ≤ B) : ∀ n cs rs, cs.length + n ≤ B → rs.length + n ≤ B → (∀ r ∈ rs, rcS B r) → Szd B (wholeN L n cs rs) (fun p => p.1.length ≤ B ∧ p.2.length ≤ B ∧ ∀ r ∈ p.2, rcS B r)
 | 0, cs, rs, h1, h2, h3 => Szd.pure _ ⟨by show cs.length ≤ B; omega, by show rs.length ≤ B; omega, h3⟩
 | n + 1, cs, rs, h1, h2, h3 => Szd.at ((Szd.moves (mv_room _)).and fun _ _ => (Szd.moves (mw_const (L := L))).and fun c _ => sz_whole hB n _ rs (by rw [List.length_append, List.length_singleton]; omega) (by omega) h3)
  (Szd.at ((Szd.moves (mv_room _)).and fun _ _ => (sz_record hB).and fun r hr => sz_whole hB n cs _ (by omega) (by rw [List.length_append, List.length_singleton]; omega) (fun y hy => by
   rcases List.mem_append.1 hy with hy | hy
   ·exact h3 y hy
   ·rw [List.mem_singleton.1 hy]; exact hr))
  (Szd.at (Szd.pure _ ⟨by show cs.length ≤ B; omega, by show rs.length ≤ B; omega, h3⟩) (Szd.fail _)))
theorem file_sized {cs : List CO} {rs : List RC} {xs : List EX} {ts : List TY} (hB : L.length + 2 ≤ B) (h : fileV (.ok L) = .ok cs rs xs ts) : GoodS B ⟨0, xs, ts⟩ ∧ cs.length ≤ B ∧ rs.length ≤ B ∧ ∀ r ∈ rs, rcS B r := by
 unfold fileV at h
 dsimp only at h
 split at h
 ·rename_i c r s hw
  cases h
  obtain ⟨h1, h2⟩ := sz_whole hB (L.length + 1) [] [] (by show 0 + (L.length + 1) ≤ B; omega) (by show 0 + (L.length + 1) ≤ B; omega) (by simp) ⟨0, [], []⟩ _ _ ⟨by simp, by simp⟩ hw
  exact ⟨⟨h1.x, h1.t⟩, h2⟩
 ·cases h
end
end Go.Proofs.YtoingpafcodojaaGreatDoor

namespace Go.Proofs.YtoingpafcodojaaGreatDoor

structure RSt where
 i : Nat
 dep : Int
 err : Nat
 xs : List EX
 ts : List TY
def RM (α : Type) : Type := RSt → α × RSt
def RM.and {α β : Type} (x : RM α) (f : α → RM β) : RM β := fun s => f (x s).1 (x s).2
def RM.ret {α : Type} (v : α) : RM α := fun s => (v, s)
instance : Monad RM where
 pure := RM.ret
 bind := RM.and
theorem rand {α β : Type} {x : RM α} {f : α → RM β} {s s' : RSt} {v : α} (h : x s = (v, s')) : (x >>= f) s = f v s' := by show f (x s).1 (x s).2 = _; rw [h]
section
variable (L : List TokP)
def failR (e : Nat) (s : RSt) : RSt := if s.err = 0 then { s with err := e } else s
def guardR {α : Type} (v : α) (x : RM α) : RM α := fun s => if s.err = 0 then x s else (v, s)
def stepR : RM Unit := fun s => ((), { s with i := s.i + 1 })
def takeR (t : List UInt8) : RM Unit := guardR () fun s => if isV L s.i t = true then ((), { s with i := s.i + 1 }) else ((), { s with err := 4 })
def nameR : RM (List UInt8) := guardR [] fun s => if namedV L s.i = true then ((tk L s.i).t, { s with i := s.i + 1 }) else ([], { s with err := 4 })
def numberR : RM Nat := guardR 0 fun s => if (tk L s.i).k = 1 then ((tk L s.i).n, { s with i := s.i + 1 }) else (0, { s with err := 4 })
def roomR (n : Nat) : RM Unit := fun s => if 64 ≤ n then ((), failR 10 s) else ((), s)
def enterR (may : Bool) : RM Unit := guardR () fun s => if may = false then ((), { s with err := 4 }) else if 32 ≤ s.dep then ((), { s with err := 8 }) else ((), { s with dep := s.dep + 1 })
def leaveR : RM Unit := fun s => ((), { s with dep := s.dep - 1 })
def putR (x : EX) : RM Int := fun s => (s.xs.length, { s with xs := s.xs ++ [x] })
def layR (t : TY) : RM Int := fun s => (s.ts.length, { s with ts := s.ts ++ [t] })
def atR {α : Type} (p : Nat → Bool) (x y : RM α) : RM α := fun s => if p s.i = true then x s else y s
def deepR {α : Type} (p : Nat → Bool) (y : RM α) : RM α := (fun s => enterR (p s.i) s) >>= fun _ => y >>= fun k => leaveR >>= fun _ => pure k
def unR (un ex : RM Int) : RM Int := guardR 0
 (atR (isV L · t_bang) (takeR L t_bang >>= fun _ => deepR (beginsV L ·) un >>= fun k => putR ⟨2, [], 0, [], [k]⟩)
 (atR (isV L · t_lpar) (takeR L t_lpar >>= fun _ => deepR (beginsV L ·) ex >>= fun k => takeR L t_rpar >>= fun _ => pure k)
 (atR (namedV L ·) (nameR L >>= fun w => putR ⟨1, [], 0, w, []⟩) (numberR L >>= fun n => putR ⟨0, [], n, [], []⟩))))
def lineNR (lv : Nat) (x : RM Int) : Nat → Int → RM Int
 | 0, left => pure left
 | n + 1, left => guardR left fun s => atR (opAt L lv) (stepR >>= fun _ => x >>= fun right => putR ⟨3, (tk L s.i).t, 0, [], [left, right]⟩ >>= fun k => lineNR lv x n k) (pure left) s
def lineJR (un : RM Int) : Nat → RM Int
 | 0 => guardR 0 un
 | j + 1 => guardR 0 (lineJR un j >>= fun left => fun s => lineNR L (8 - j) (lineJR un j) (L.length - s.i + 1) left s)
def unRm : Nat → RM Int
 | 0 => unR L (pure 0) (pure 0)
 | m + 1 => unR L (unRm m) (lineJR L (unRm m) 8)
def exprR (m : Nat) : RM Int := lineJR L (unRm L m) 8
def bracketR (m : Nat) : RM Int := takeR L t_lsq >>= fun _ => exprR L m >>= fun k => takeR L t_rsq >>= fun _ => pure k
def arrayR (m : Nat) (t : TY) : RM Int := layR t >>= fun k => atR (isV L · t_lsq) (guardR k (bracketR L m >>= fun x => layR { tyP 5 with ex := x, inn := k })) (pure k)
def argsR (m : Nat) : Nat → List Int → RM (List Int)
 | 0, l => pure l
 | n + 1, l => guardR l (atR (isV L · t_comma) (takeR L t_comma >>= fun _ => (fun s => if beginsV L s.i = true then roomR l.length s else ((), s)) >>= fun _ => exprR L m >>= fun x => argsR m n (l ++ [x])) (pure l))
def refR (m : Nat) : RM TY := nameR L >>= fun w => atR (isV L · t_lpar)
 (takeR L t_lpar >>= fun _ => guardR [] (exprR L m >>= fun x => (fun s => argsR L m (L.length - s.i + 1) [x] s)) >>= fun l => takeR L t_rpar >>= fun _ => pure { tyP 10 with nm := w, args := l })
 (pure { tyP 10 with nm := w })
def innerR (kd : RM Int) : RM Int := deepR (startsV L ·) kd
def casesR (kd : RM Int) : Nat → List CA → RM (List CA)
 | 0, l => pure l
 | n + 1, l => guardR l (atR (isV L · w_case) (roomR l.length >>= fun _ => takeR L w_case >>= fun _ => numberR L >>= fun c => takeR L t_colon >>= fun _ => innerR L kd >>= fun k => takeR L t_semi >>= fun _ => casesR kd n (l ++ [⟨c, k⟩])) (pure l))
def choiceR (m : Nat) (kd : RM Int) : RM Int :=
 takeR L t_lpar >>= fun _ => exprR L m >>= fun x => takeR L t_rpar >>= fun _ => takeR L t_lcur >>= fun _ =>
 (fun s => casesR L kd (L.length - s.i + 1) [] s) >>= fun cs =>
 atR (isV L · w_else) (guardR (-1) (takeR L w_else >>= fun _ => takeR L t_colon >>= fun _ => innerR L kd >>= fun k => takeR L t_semi >>= fun _ => pure k)) (pure (-1)) >>= fun k =>
 takeR L t_rcur >>= fun _ => layR { tyP 9 with ex := x, inn := k, cases := cs }
def wordR (m : Nat) (kd : RM Int) (w : List UInt8) : RM Int :=
 match sizedV w with
 | some k => bracketR L m >>= fun x => (if k = 7 ∨ k = 8 then innerR L kd else pure (-1)) >>= fun i => layR { tyP k with ex := x, inn := i }
 | none =>
  if w = w_rest then innerR L kd >>= fun i => layR { tyP 6 with inn := i } else
  if w = w_tail then layR (tyP 4) else
  if w = w_none then layR (tyP 11) else
  if w = w_switch then choiceR L m kd else
  arrayR L m { tyP 0 with size := ((integerV w).getD (0, false)).1, little := ((integerV w).getD (0, false)).2 }
def kindFR (m : Nat) (kd : RM Int) : RM Int := guardR 0
 (atR (namedV L ·) (refR L m >>= fun t => arrayR L m t) (atR (startsV L ·) (fun s => (stepR >>= fun _ => wordR L m kd (tk L s.i).t) s) (fun s => (0, { s with err := 4 }))))
def kindR : Nat → RM Int
 | 0 => kindFR L 0 (pure 0)
 | m + 1 => kindFR L (m + 1) (kindR m)
def derivedR : RM (Nat × List UInt8 × List UInt8) :=
 atR (fun i => !decide (derOf (tk L i).t = 0)) (fun s => (stepR >>= fun _ => takeR L t_lpar >>= fun _ => nameR L >>= fun a =>
   (if 3 ≤ derOf (tk L s.i).t then takeR L t_dots >>= fun _ => nameR L else pure []) >>= fun b => takeR L t_rpar >>= fun _ => pure (derOf (tk L s.i).t, a, b)) s)
  (fun s => ((0, [], []), failR 4 s))
def fieldR : RM IT :=
 nameR L >>= fun w => takeR L t_colon >>= fun _ => kindR L 32 >>= fun t =>
 atR (isV L · t_eq) (guardR (0, [], []) (takeR L t_eq >>= fun _ => derivedR L)) (pure (0, [], [])) >>= fun d =>
 atR (isV L · w_where) (guardR (-1) (takeR L w_where >>= fun _ => exprR L 32)) (pure (-1)) >>= fun x =>
 takeR L t_semi >>= fun _ => pure ⟨w, t, d.1, d.2.1, d.2.2, x, 0, false, []⟩
def subsR : Nat → List SB → RM (List SB)
 | 0, l => pure l
 | n + 1, l => guardR l ((fun s => if namedV L s.i = true then roomR l.length s else ((), s)) >>= fun _ => nameR L >>= fun w => takeR L t_colon >>= fun _ => numberR L >>= fun b => takeR L t_semi >>= fun _ =>
   atR (namedV L ·) (subsR n (l ++ [⟨w, min b 1048576⟩])) (pure (l ++ [⟨w, min b 1048576⟩])))
def packR : RM IT :=
 takeR L w_pack >>= fun _ => fun s => match (if (tk L s.i).k = 0 then integerV (tk L s.i).t else none) with
  | none => ((⟨[], -1, 0, [], [], -1, 0, false, []⟩ : IT), failR 4 s)
  | some (z, lt) => (stepR >>= fun _ => takeR L t_lcur >>= fun _ => (fun s => subsR L (L.length - s.i + 1) [] s) >>= fun l => takeR L t_rcur >>= fun _ => pure (⟨[], -1, 0, [], [], -1, z, lt, l⟩ : IT)) s
def parsR : Nat → List (List UInt8) → RM (List (List UInt8))
 | 0, l => pure l
 | n + 1, l => guardR l (atR (isV L · t_comma) (takeR L t_comma >>= fun _ => (fun s => if namedV L s.i = true then roomR l.length s else ((), s)) >>= fun _ => nameR L >>= fun x => parsR n (l ++ [x])) (pure l))
def itemsR : Nat → List IT → RM (List IT)
 | 0, l => pure l
 | n + 1, l => guardR l (atR (fun i => isV L i w_pack || namedV L i) (roomR l.length >>= fun _ => atR (isV L · w_pack) (packR L) (fieldR L) >>= fun x => itemsR n (l ++ [x])) (pure l))
def recordR : RM RC :=
 takeR L w_struct >>= fun _ => nameR L >>= fun w =>
 atR (isV L · t_lpar) (guardR [] (takeR L t_lpar >>= fun _ => nameR L >>= fun x => (fun s => parsR L (L.length - s.i + 1) [x] s) >>= fun l => takeR L t_rpar >>= fun _ => pure l)) (pure []) >>= fun ps =>
 takeR L t_lcur >>= fun _ => (fun s => itemsR L (L.length - s.i + 1) [] s) >>= fun is => takeR L t_rcur >>= fun _ => pure ⟨w, ps, is⟩
def constR : RM CO := takeR L w_const >>= fun _ => nameR L >>= fun w => takeR L t_eq >>= fun _ => numberR L >>= fun n => takeR L t_semi >>= fun _ => pure ⟨w, n⟩
def wholeR : Nat → List CO → List RC → RM (List CO × List RC)
 | 0, cs, rs => pure (cs, rs)
 | n + 1, cs, rs => guardR (cs, rs) (atR (isV L · w_const) (roomR cs.length >>= fun _ => constR L >>= fun c => wholeR n (cs ++ [c]) rs)
  (atR (isV L · w_struct) (roomR rs.length >>= fun _ => recordR L >>= fun r => wholeR n cs (rs ++ [r]))
  (atR (fun i => decide ((tk L i).k = 3)) (pure (cs, rs)) (fun s => ((cs, rs), failR 4 s)))))
end
def emb (m : Nat) (s : PS) : RSt := ⟨s.i, 32 - (m : Int), 0, s.xs, s.ts⟩
structure Bad (L : List TokP) (m c i e : Nat) (st : RSt) : Prop where
 i : st.i = i
 e : st.err = e
 x : st.xs.length ≤ L.length + c
 t : st.ts.length ≤ L.length + c
 d1 : 32 - (m : Int) - c ≤ st.dep
 d2 : st.dep ≤ 32 - (m : Int)
structure Stay (d : Nat) (st st' : RSt) : Prop where
 i : st'.i = st.i
 e : st'.err = st.err
 x : st'.xs.length ≤ st.xs.length + d
 t : st'.ts.length ≤ st.ts.length + d
 d1 : st.dep - d ≤ st'.dep
 d2 : st'.dep ≤ st.dep
structure Sim (L : List TokP) (m : Nat) {α : Type} (x : PM α) (y : RM α) (a b c d : Nat) : Prop where
 up : Up L x a b
 ok : ∀ q s, SOk L (q + a) s → match x s with
  | .ok v t => y (emb m s) = (v, emb m t)
  | .err i e => Bad L m c i e (y (emb m s)).2
 bad : ∀ st, st.err ≠ 0 → Stay d st (y st).2
structure Sim0 (L : List TokP) (m : Nat) {α : Type} (x : PM α) (y : RM α) (a b c : Nat) : Prop where
 up : Up L x a b
 ok : ∀ q s, SOk L (q + a) s → match x s with
  | .ok v t => y (emb m s) = (v, emb m t)
  | .err i e => Bad L m c i e (y (emb m s)).2
section
variable {L : List TokP} {m : Nat}
theorem Sim.to0 {α : Type} {x : PM α} {y : RM α} {a b c d : Nat} (h : Sim L m x y a b c d) : Sim0 L m x y a b c := ⟨h.up, h.ok⟩
theorem Stay.rfl {st : RSt} {d : Nat} : Stay d st st := ⟨Eq.refl _, Eq.refl _, by omega, by omega, by omega, Int.le_refl _⟩
theorem Stay.trans {s1 s2 s3 : RSt} {d e f : Nat} (h : Stay d s1 s2) (h' : Stay e s2 s3) (hf : d + e ≤ f) : Stay f s1 s3 :=
 ⟨h'.i.trans h.i, h'.e.trans h.e, by have := h.x; have := h'.x; omega, by have := h.t; have := h'.t; omega, by have := h.d1; have := h'.d1; omega, by have := h.d2; have := h'.d2; omega⟩
theorem Stay.le {s1 s2 : RSt} {d e : Nat} (h : Stay d s1 s2) (hd : d ≤ e) : Stay e s1 s2 := h.trans (Stay.rfl (d := 0)) (by omega)
theorem Bad.stay {c d e i er : Nat} {st st' : RSt} (h : Bad L m c i er st) (h' : Stay d st st') (he : c + d ≤ e) : Bad L m e i er st' :=
 ⟨h'.i.trans h.i, h'.e.trans h.e, by have := h.x; have := h'.x; omega, by have := h.t; have := h'.t; omega, by have := h.d1; have := h'.d1; omega, by have := h.d2; have := h'.d2; omega⟩
theorem Sim.le {α : Type} {x : PM α} {y : RM α} {a b c d c' d' : Nat} (h : Sim L m x y a b c d) (hc : c ≤ c') (hd : d ≤ d') : Sim L m x y a b c' d' :=
 ⟨h.up, fun q s hs => by
  have := h.ok q s hs
  revert this
  cases x s with
  | ok v t => exact id
  | err i e => exact fun h => h.stay (Stay.rfl (d := 0)) (by omega), fun st hst => (h.bad st hst).le hd⟩
theorem Sim.less {α : Type} {x : PM α} {y : RM α} {a b c d : Nat} (h : Sim L m x y a b c d) {a' b' : Nat} (n : Nat) (ha : a + n ≤ a') (hb : b' ≤ b + n) : Sim L m x y a' b' c d :=
 ⟨h.up.less n ha hb, fun q s hs => h.ok (q + n) s (hs.less (by omega)), h.bad⟩
theorem Sim.and {α β : Type} {x : PM α} {y : RM α} {f : α → PM β} {g : α → RM β} {a b b' c d c' d' : Nat} (h : Sim L m x y a b c d) (hf : ∀ v, Sim L m (f v) (g v) b b' c' d') : Sim L m (x >>= f) (y >>= g) a b' (max (c + d') c') (d + d') :=
 ⟨h.up.and fun v => (hf v).up, fun q s hs => by
  have h1 := h.ok q s hs
  have hu := h.up s q hs
  show match PM.and x f s with
   | .ok v t => RM.and y g (emb m s) = (v, emb m t)
   | .err i e => Bad L m (max (c + d') c') i e (RM.and y g (emb m s)).2
  unfold PM.and RM.and
  revert h1 hu
  cases x s with
  | err i e =>
   intro h1 hu
   dsimp only at h1 hu ⊢
   exact h1.stay ((hf _).bad _ (by rw [h1.e]; omega)) (Nat.le_max_left _ _)
  | ok v t =>
   intro h1 hu
   dsimp only at h1 hu ⊢
   rw [h1]
   have h2 := (hf v).ok q t hu.1
   revert h2
   cases f v t with
   | ok w u => exact id
   | err i e => exact fun h2 => h2.stay (Stay.rfl (d := 0)) (Nat.le_max_right _ _), fun st hst => by
  show Stay _ st (g (y st).1 (y st).2).2
  have h1 := h.bad st hst
  exact h1.trans ((hf _).bad _ (by rw [h1.e]; exact hst)) (Nat.le_refl _)⟩
theorem Sim.seq {α β : Type} {x : PM α} {y : RM α} {f : α → PM β} {g : α → RM β} {a b b' c d c' d' C D : Nat} (h : Sim L m x y a b c d) (hf : ∀ v, Sim L m (f v) (g v) b b' c' d') (hC : max (c + d') c' ≤ C) (hD : d + d' ≤ D) : Sim L m (x >>= f) (y >>= g) a b' C D := (h.and hf).le hC hD
theorem Sim.pure {α : Type} (v : α) (a : Nat) : Sim L m (pure v) (pure v : RM α) a a 0 0 := ⟨Up.pure v a, fun _ _ _ => Eq.refl _, fun _ _ => Stay.rfl⟩
theorem Sim0.guard {α : Type} {x : PM α} {y : RM α} {a b c : Nat} (h : Sim0 L m x y a b c) (v : α) : Sim L m x (guardR v y) a b c 0 :=
 ⟨h.up, h.ok, fun st hst => by unfold guardR; rw [if_neg hst]; exact Stay.rfl⟩
theorem Sim.guard {α : Type} {x : PM α} {y : RM α} {a b c d : Nat} (h : Sim L m x y a b c d) (v : α) : Sim L m x (guardR v y) a b c 0 := h.to0.guard v
theorem Sim0.le {α : Type} {x : PM α} {y : RM α} {a b c c' : Nat} (h : Sim0 L m x y a b c) (hc : c ≤ c') : Sim0 L m x y a b c' :=
 ⟨h.up, fun q s hs => by
  have := h.ok q s hs
  revert this
  cases x s with
  | ok v t => exact id
  | err i e => exact fun h => h.stay (Stay.rfl (d := 0)) (by omega)⟩
theorem Sim0.look {α : Type} {f : Nat → PM α} {g : Nat → RM α} {a b c : Nat} (h : ∀ i, Sim0 L m (f i) (g i) a b c) : Sim0 L m (fun s => f s.i s) (fun s => g s.i s) a b c :=
 ⟨Up.look (f := fun s => f s.i) fun s => (h s.i).up, fun q s hs => (h s.i).ok q s hs⟩
theorem Sim0.at {α : Type} {p : Nat → Bool} {x y : PM α} {x' y' : RM α} {a b c : Nat} (hx : Sim0 L m x x' a b c) (hy : Sim0 L m y y' a b c) : Sim0 L m (atM p x y) (atR p x' y') a b c :=
 ⟨Up.at hx.up hy.up, fun q s hs => by
  unfold atM atR
  by_cases h : p s.i = true
  ·rw [if_pos h, if_pos (show p (emb m s).i = true from h)]; exact hx.ok q s hs
  ·rw [if_neg h, if_neg (show ¬ p (emb m s).i = true from h)]; exact hy.ok q s hs⟩
theorem Sim.look {α : Type} {f : Nat → PM α} {g : Nat → RM α} {a b c d : Nat} (h : ∀ i, Sim L m (f i) (g i) a b c d) : Sim L m (fun s => f s.i s) (fun s => g s.i s) a b c d :=
 ⟨Up.look (f := fun s => f s.i) fun s => (h s.i).up, fun q s hs => (h s.i).ok q s hs, fun st hst => (h st.i).bad st hst⟩
theorem Sim.at {α : Type} {p : Nat → Bool} {x y : PM α} {x' y' : RM α} {a b c d : Nat} (hx : Sim L m x x' a b c d) (hy : Sim L m y y' a b c d) : Sim L m (atM p x y) (atR p x' y') a b c d :=
 ⟨Up.at hx.up hy.up, fun q s hs => by
  unfold atM atR
  by_cases h : p s.i = true
  ·rw [if_pos h, if_pos (show p (emb m s).i = true from h)]; exact hx.ok q s hs
  ·rw [if_neg h, if_neg (show ¬ p (emb m s).i = true from h)]; exact hy.ok q s hs, fun st hst => by
  unfold atR
  by_cases h : p st.i = true
  ·rw [if_pos h]; exact hx.bad st hst
  ·rw [if_neg h]; exact hy.bad st hst⟩
theorem Sim.at2 {α : Type} {p : Nat → Bool} {x y : PM α} {x' y' : RM α} {a b c d c2 d2 C D : Nat} (hx : Sim L m x x' a b c d) (hy : Sim L m y y' a b c2 d2) (h1 : c ≤ C) (h2 : d ≤ D) (h3 : c2 ≤ C) (h4 : d2 ≤ D) : Sim L m (atM p x y) (atR p x' y') a b C D := (hx.le h1 h2).at (hy.le h3 h4)
theorem bad_here {s : PS} {q a e c : Nat} (hs : SOk L (q + a) s) : Bad L m c s.i e { emb m s with err := e } :=
 ⟨Eq.refl _, Eq.refl _, by show s.xs.length ≤ _; have := hs.x; have := hs.i; omega, by show s.ts.length ≤ _; have := hs.t; have := hs.i; omega, by show _ ≤ 32 - (m : Int); omega, Int.le_refl _⟩
theorem Sim.take (hL : TokOk L) (t : List UInt8) (a : Nat) : Sim L m (takeM L t) (takeR L t) a (a + 1) 0 0 :=
 ⟨Up.take hL t a, fun q s hs => by
  unfold takeM takeR guardR
  rw [if_pos (show (emb m s).err = 0 from rfl)]
  dsimp only
  by_cases h : isV L s.i t = true
  ·rw [if_pos h, if_pos (show isV L (emb m s).i t = true from h)]; exact rfl
  ·rw [if_neg h, if_neg (show ¬ isV L (emb m s).i t = true from h)]; exact bad_here hs, fun st hst => by unfold takeR guardR; rw [if_neg hst]; exact Stay.rfl⟩
theorem Sim.name (hL : TokOk L) (a : Nat) : Sim L m (nameM L) (nameR L) a (a + 1) 0 0 :=
 ⟨Up.name hL a, fun q s hs => by
  unfold nameM nameR guardR
  rw [if_pos (show (emb m s).err = 0 from rfl)]
  dsimp only
  by_cases h : namedV L s.i = true
  ·rw [if_pos h, if_pos (show namedV L (emb m s).i = true from h)]; exact rfl
  ·rw [if_neg h, if_neg (show ¬ namedV L (emb m s).i = true from h)]; exact bad_here hs, fun st hst => by unfold nameR guardR; rw [if_neg hst]; exact Stay.rfl⟩
theorem Sim.number (hL : TokOk L) (a : Nat) : Sim L m (numberM L) (numberR L) a (a + 1) 0 0 :=
 ⟨Up.number hL a, fun q s hs => by
  unfold numberM numberR guardR
  rw [if_pos (show (emb m s).err = 0 from rfl)]
  dsimp only
  by_cases h : (tk L s.i).k = 1
  ·rw [if_pos h, if_pos (show (tk L (emb m s).i).k = 1 from h)]; exact rfl
  ·rw [if_neg h, if_neg (show ¬ (tk L (emb m s).i).k = 1 from h)]; exact bad_here hs, fun st hst => by unfold numberR guardR; rw [if_neg hst]; exact Stay.rfl⟩
theorem failR_bad {e : Nat} {st : RSt} (h : st.err ≠ 0) : failR e st = st := if_neg h
theorem Sim.room (n a : Nat) : Sim L m (roomM n) (roomR n) a a 0 0 :=
 ⟨Up.room n a, fun q s hs => by
  unfold roomM roomR
  by_cases h : 64 ≤ n
  ·rw [if_pos h, if_pos h]; exact bad_here hs
  ·rw [if_neg h, if_neg h], fun st hst => by
  unfold roomR
  split
  ·rw [failR_bad hst]; exact Stay.rfl
  ·exact Stay.rfl⟩
theorem Sim.roomIf (p : Nat → Bool) (n a : Nat) : Sim L m (fun s => if p s.i = true then roomM n s else .ok () s) (fun s => if p s.i = true then roomR n s else ((), s)) a a 0 0 :=
 ⟨Up.roomIf p n a, fun q s hs => by
  by_cases h : p s.i = true
  ·rw [if_pos h, if_pos (show p (emb m s).i = true from h)]; exact (Sim.room n a).ok q s hs
  ·rw [if_neg h, if_neg (show ¬ p (emb m s).i = true from h)], fun st hst => by
  split
  ·exact (Sim.room (L := L) (m := m) n a).bad st hst
  ·exact Stay.rfl⟩
theorem stay_put {st : RSt} {x : EX} : Stay 1 st { st with xs := st.xs ++ [x] } := ⟨rfl, rfl, by show (st.xs ++ [x]).length ≤ _; rw [List.length_append]; exact Nat.le_refl _, by show st.ts.length ≤ _; omega, by show st.dep - _ ≤ st.dep; omega, Int.le_refl _⟩
theorem stay_lay {st : RSt} {x : TY} : Stay 1 st { st with ts := st.ts ++ [x] } := ⟨rfl, rfl, by show st.xs.length ≤ _; omega, by show (st.ts ++ [x]).length ≤ _; rw [List.length_append]; exact Nat.le_refl _, by show st.dep - _ ≤ st.dep; omega, Int.le_refl _⟩
theorem Sim.put (x : EX) (a : Nat) : Sim L m (putM x) (putR x) (a + 1) a 0 1 := ⟨Up.put x a, fun _ _ _ => rfl, fun st _ => stay_put⟩
theorem Sim.lay (x : TY) (a : Nat) : Sim L m (layM x) (layR x) (a + 1) a 0 1 := ⟨Up.lay x a, fun _ _ _ => rfl, fun st _ => stay_lay⟩
theorem Sim0.step {α : Type} (hL : TokOk L) {p : Nat → Bool} {f : Unit → PM α} {g : Unit → RM α} {y : PM α} {y' : RM α} {a b c : Nat} (hp : ∀ i, p i = true → (tk L i).k ≠ 3) (hx : Sim0 L m (f ()) (g ()) (a + 1) b c) (hy : Sim0 L m y y' a b c) :
  Sim0 L m (atM p (stepM >>= f) y) (atR p (stepR >>= g) y') a b c :=
 ⟨Up.step hL hp hx.up hy.up, fun q s hs => by
  unfold atM atR
  by_cases h : p s.i = true
  ·rw [if_pos h, if_pos (show p (emb m s).i = true from h)]
   exact hx.ok q _ (stepP_ok hL hs (hp _ h))
  ·rw [if_neg h, if_neg (show ¬ p (emb m s).i = true from h)]; exact hy.ok q s hs⟩
theorem Sim0.fail {α : Type} {e : Nat} (h0 : 0 < e) (h1 : e ≤ 10) (v : α) (a b : Nat) : Sim0 L m (failM e : PM α) (fun s => (v, failR e s)) a b 0 :=
 ⟨Up.fail h0 h1 a b, fun q s hs => bad_here hs⟩
theorem Sim0.fail4 {α : Type} (v : α) (a b : Nat) : Sim0 L m (failM 4 : PM α) (fun s => (v, { s with err := 4 })) a b 0 :=
 ⟨Up.fail (by decide) (by decide) a b, fun q s hs => bad_here hs⟩
theorem Sim0.atTake {α : Type} (hL : TokOk L) {t : List UInt8} {f : Unit → PM α} {g : Unit → RM α} {y : PM α} {y' : RM α} {a b c : Nat} (hx : Sim0 L m (f ()) (g ()) (a + 1) b c) (hy : Sim0 L m y y' a b c) :
  Sim0 L m (atM (isV L · t) (stepM >>= f) y) (atR (isV L · t) (takeR L t >>= g) y') a b c :=
 ⟨Up.step hL (fun i h => isV_k h) hx.up hy.up, fun q s hs => by
  unfold atM atR
  by_cases h : isV L s.i t = true
  ·rw [if_pos h, if_pos (show isV L (emb m s).i t = true from h)]
   have e : (takeR L t >>= g) (emb m s) = g () (emb m { s with i := s.i + 1 }) := rand (by
    unfold takeR guardR
    rw [if_pos (show (emb m s).err = 0 from rfl)]
    dsimp only
    rw [if_pos (show isV L (emb m s).i t = true from h)]
    rfl)
   rw [e]
   exact hx.ok q _ (stepP_ok hL hs (isV_k h))
  ·rw [if_neg h, if_neg (show ¬ isV L (emb m s).i t = true from h)]; exact hy.ok q s hs⟩
theorem Sim.atTake {α : Type} (hL : TokOk L) {t : List UInt8} {f : Unit → PM α} {g : Unit → RM α} {y : PM α} {y' : RM α} {a b c d : Nat} (hx : Sim L m (f ()) (g ()) (a + 1) b c d) (hy : Sim L m y y' a b c d) :
  Sim L m (atM (isV L · t) (stepM >>= f) y) (atR (isV L · t) (takeR L t >>= g) y') a b c d :=
 ⟨(hx.to0.atTake hL hy.to0).up, (hx.to0.atTake hL hy.to0).ok, fun st hst => by
  unfold atR
  split
  ·have e : (takeR L t >>= g) st = g () st := rand (by unfold takeR guardR; rw [if_neg hst])
   rw [e]
   exact hx.bad st hst
  ·exact hy.bad st hst⟩
theorem Sim.atRoom {α : Type} (hL : TokOk L) {t : List UInt8} {n : Nat} {f : Unit → PM α} {g : Unit → RM α} {y : PM α} {y' : RM α} {a b c d : Nat} (hx : Sim L m (f ()) (g ()) (a + 1) b c d) (hy : Sim L m y y' a b c d) (hd : d ≤ c) :
  Sim L m (atM (isV L · t) (roomM n >>= fun _ => stepM >>= f) y) (atR (isV L · t) (roomR n >>= fun _ => takeR L t >>= g) y') a b c d :=
 ⟨Up.roomStep hL (fun i h => isV_k h) hx.up hy.up, fun q s hs => by
  have h0 := (Sim.atTake (t := t) hL hx hy).ok q s hs
  unfold atM atR at h0 ⊢
  by_cases h : isV L s.i t = true
  ·rw [if_pos h, if_pos (show isV L (emb m s).i t = true from h)] at h0 ⊢
   by_cases h64 : 64 ≤ n
   ·rw [and_err (i := s.i) (e := 10) (by unfold roomM; rw [if_pos h64]; rfl)]
    have e : (roomR n >>= fun _ => takeR L t >>= g) (emb m s) = g () { emb m s with err := 10 } := (rand (v := ()) (s' := { emb m s with err := 10 }) (by unfold roomR; rw [if_pos h64]; rfl)).trans (rand (by unfold takeR guardR; rw [if_neg (by show ¬ (10 = 0); decide)]))
    rw [e]
    exact (bad_here (c := 0) hs).stay (hx.bad _ (by show 10 ≠ 0; decide)) (by omega)
   ·rw [and_ok (v := ()) (s' := s) (by unfold roomM; rw [if_neg h64]), rand (v := ()) (s' := emb m s) (by unfold roomR; rw [if_neg h64])]
    exact h0
  ·rw [if_neg h, if_neg (show ¬ isV L (emb m s).i t = true from h)] at h0 ⊢; exact h0, fun st hst => by
  unfold atR
  split
  ·have e : (roomR n >>= fun _ => takeR L t >>= g) st = g () st := (rand (v := ()) (s' := st) (by unfold roomR; split; rw [failR_bad hst]; rfl)).trans (rand (by unfold takeR guardR; rw [if_neg hst]))
   rw [e]
   exact hx.bad st hst
  ·exact hy.bad st hst⟩
theorem pm_assoc {α β γ : Type} (x : PM α) (g : α → PM β) (f : β → PM γ) : (x >>= fun v => g v >>= f) = ((x >>= g) >>= f) := by
 funext s
 show PM.and x (fun v => PM.and (g v) f) s = PM.and (PM.and x g) f s
 unfold PM.and
 cases x s <;> rfl
theorem emb_leave (m : Nat) (s : PS) : ({ emb m s with dep := (emb m s).dep - 1 } : RSt) = emb (m + 1) s := by
 show (⟨s.i, 32 - (m : Int) - 1, 0, s.xs, s.ts⟩ : RSt) = ⟨s.i, 32 - ((m + 1 : Nat) : Int), 0, s.xs, s.ts⟩
 rw [show 32 - (m : Int) - 1 = 32 - ((m + 1 : Nat) : Int) by omega]
theorem Sim.deep {α : Type} {p : Nat → Bool} {x : PM α} {y : RM α} {a b c : Nat} (h : ∀ m', m = m' + 1 → Sim L m' x y a b c 0) (h0 : ∀ st, st.err ≠ 0 → Stay 0 st (y st).2) (hb : m = 0 → b ≤ a) (hc : 1 ≤ c) :
  Sim L m ((fun s => enterM m (p s.i) s) >>= fun _ => x) (deepR p y) a b c 1 := by
 have bd : ∀ st, st.err ≠ 0 → Stay 1 st (deepR p y st).2 := fun st hst => by
  have e : deepR p y st = ((y st).1, { (y st).2 with dep := (y st).2.dep - 1 }) := by
   unfold deepR
   show RM.and _ _ st = _
   unfold RM.and
   have : (fun s : RSt => enterR (p s.i) s) st = ((), st) := if_neg hst
   rw [this]
   rfl
  rw [e]
  have h1 := h0 st hst
  exact ⟨h1.i, h1.e, by have := h1.x; show (y st).2.xs.length ≤ _; omega, by have := h1.t; show (y st).2.ts.length ≤ _; omega, by have := h1.d1; show _ ≤ (y st).2.dep - 1; omega, by have := h1.d2; show (y st).2.dep - 1 ≤ _; omega⟩
 have fail : ∀ (s : PS) (e q a : Nat), e ≠ 0 → SOk L (q + a) s → enterR (p s.i) (emb m s) = ((), { emb m s with err := e }) → Bad L m c s.i e (deepR p y (emb m s)).2 := fun s e q a he hs hE => by
  have e1 : deepR p y (emb m s) = ((y { emb m s with err := e }).1, { (y { emb m s with err := e }).2 with dep := (y { emb m s with err := e }).2.dep - 1 }) := by
   unfold deepR
   show RM.and _ _ _ = _
   unfold RM.and
   have : (fun s : RSt => enterR (p s.i) s) (emb m s) = ((), { emb m s with err := e }) := hE
   rw [this]
   rfl
  rw [e1]
  have h1 := h0 { emb m s with err := e } he
  have h2 : Bad L m 0 s.i e { emb m s with err := e } := bad_here hs
  have h3 := h2.stay h1 (Nat.le_refl _)
  exact ⟨h3.i, h3.e, by have := h3.x; show (y { emb m s with err := e }).2.xs.length ≤ _; omega, by have := h3.t; show (y { emb m s with err := e }).2.ts.length ≤ _; omega, by have := h3.d1; show _ ≤ (y { emb m s with err := e }).2.dep - 1; omega, by have := h3.d2; show (y { emb m s with err := e }).2.dep - 1 ≤ _; omega⟩
 cases m with
 | zero =>
  have hbad : ∀ s, ((fun s : PS => enterM 0 (p s.i) s) >>= fun _ => x) s = .err s.i (if p s.i = true then 8 else 4) := fun s => by
   refine and_err ?_
   show enterM 0 (p s.i) s = _
   unfold enterM
   cases p s.i <;> rfl
  have hb := hb rfl
  refine ⟨fun s q hs => ?_, fun q s hs => ?_, bd⟩
  ·rw [hbad]
   dsimp only
   refine ⟨Nat.le_refl _, hs.i, ?_, ?_⟩ <;> split <;> decide
  ·rw [hbad]
   dsimp only
   refine fail s _ q a (by split <;> decide) hs ?_
   unfold enterR guardR
   rw [if_pos (show (emb 0 s).err = 0 from rfl)]
   cases p s.i
   ·rfl
   ·exact if_neg (by decide) |>.trans (if_pos (show (32 : Int) ≤ 32 - ((0 : Nat) : Int) by omega))
 | succ m' =>
  have hx := h m' rfl
  refine ⟨(Up.look (f := fun s => enterM (m' + 1) (p s.i)) fun s => Up.enter _ _ _).and fun _ => hx.up, fun q s hs => ?_, bd⟩
  rcases hp : p s.i with _ | _
  ·have e1 : ((fun s : PS => enterM (m' + 1) (p s.i) s) >>= fun _ => x) s = .err s.i 4 := and_err (by show enterM (m' + 1) (p s.i) s = _; rw [hp]; rfl)
   rw [e1]
   dsimp only
   refine fail s 4 q a (by decide) hs ?_
   unfold enterR guardR
   rw [if_pos (show (emb (m' + 1) s).err = 0 from rfl), hp]
   rfl
  ·have e1 : ((fun s : PS => enterM (m' + 1) (p s.i) s) >>= fun _ => x) s = x s := and_ok (by show enterM (m' + 1) (p s.i) s = _; rw [hp]; rfl)
   rw [e1]
   have e2 : enterR (p (emb (m' + 1) s).i) (emb (m' + 1) s) = ((), emb m' s) := by
    unfold enterR guardR
    have hp' : p (emb (m' + 1) s).i = true := hp
    have hd : ¬ (32 : Int) ≤ (emb (m' + 1) s).dep := by show ¬ (32 : Int) ≤ 32 - ((m' + 1 : Nat) : Int); omega
    rw [if_pos (show (emb (m' + 1) s).err = 0 from rfl)]
    dsimp only
    rw [hp', if_neg (by decide), if_neg hd]
    show (((), (⟨s.i, 32 - ((m' + 1 : Nat) : Int) + 1, 0, s.xs, s.ts⟩ : RSt)) : Unit × RSt) = ((), ⟨s.i, 32 - (m' : Int), 0, s.xs, s.ts⟩)
    rw [show 32 - ((m' + 1 : Nat) : Int) + 1 = 32 - (m' : Int) by omega]
   have e3 : deepR p y (emb (m' + 1) s) = ((y (emb m' s)).1, { (y (emb m' s)).2 with dep := (y (emb m' s)).2.dep - 1 }) := by
    unfold deepR
    show RM.and _ _ _ = _
    unfold RM.and
    have : (fun s : RSt => enterR (p s.i) s) (emb (m' + 1) s) = ((), emb m' s) := e2
    rw [this]
    rfl
   rw [e3]
   have h1 := hx.ok q s hs
   revert h1
   cases x s with
   | ok v t =>
    intro h1
    dsimp only at h1 ⊢
    rw [h1, ← emb_leave]
   | err i e =>
    intro h1
    dsimp only at h1 ⊢
    exact ⟨h1.i, h1.e, h1.x, h1.t, by have := h1.d1; show _ ≤ (y (emb m' s)).2.dep - 1; omega, by have := h1.d2; show (y (emb m' s)).2.dep - 1 ≤ _; omega⟩
theorem Sim.deepK {α β : Type} {p : Nat → Bool} {x : PM α} {y : RM α} {f : α → PM β} {g : α → RM β} {a b b' c c' d' C D : Nat} (h : ∀ m', m = m' + 1 → Sim L m' x y a b c 0) (h0 : ∀ st, st.err ≠ 0 → Stay 0 st (y st).2) (hb : m = 0 → b ≤ a) (hc : 1 ≤ c)
  (hf : ∀ v, Sim L m (f v) (g v) b b' c' d') (hC : c + d' ≤ C) (hC2 : c' ≤ C) (hD : 1 + d' ≤ D) : Sim L m ((fun s => enterM m (p s.i) s) >>= fun _ => x >>= f) (deepR p y >>= g) a b' C D := by
 have h1 := ((Sim.deep (p := p) h h0 hb hc).and hf).le (c' := C) (d' := D) (by omega) hD
 exact (congrArg (fun z => Sim L m z (deepR p y >>= g) a b' C D) (pm_assoc (fun s => enterM m (p s.i) s : PM Unit) (fun _ => x) f)).mpr h1
end
end Go.Proofs.YtoingpafcodojaaGreatDoor

namespace Go.Proofs.YtoingpafcodojaaGreatDoor

section
variable {L : List TokP} {m : Nat}
theorem stay_guard {α : Type} {v : α} {y : RM α} (st : RSt) (h : st.err ≠ 0) : Stay 0 st (guardR v y st).2 := by unfold guardR; rw [if_neg h]; exact Stay.rfl
theorem Sim.atTakeG {α : Type} (hL : TokOk L) {t : List UInt8} {f : Unit → PM α} {g : Unit → RM α} {y : PM α} {y' : RM α} {a b c d : Nat} {v : α} (hx : Sim0 L m (f ()) (g ()) (a + 1) b c) (hy : Sim L m y y' a b c d) :
  Sim L m (atM (isV L · t) (stepM >>= f) y) (atR (isV L · t) (guardR v (takeR L t >>= g)) y') a b c d :=
 ⟨(hx.atTake (t := t) hL hy.to0).up, fun q s hs => (hx.atTake (t := t) hL hy.to0).ok q s hs, fun st hst => by
  unfold atR
  split
  ·exact (stay_guard st hst).le (Nat.zero_le _)
  ·exact hy.bad st hst⟩
theorem sim_un (hL : TokOk L) {un ex : PM Int} {un' ex' : RM Int} {c : Nat} (hc : 1 ≤ c) (h1 : ∀ m', m = m' + 1 → Sim L m' un un' 0 0 c 0) (h2 : ∀ m', m = m' + 1 → Sim L m' ex ex' 0 0 c 0)
  (b1 : ∀ st, st.err ≠ 0 → Stay 0 st (un' st).2) (b2 : ∀ st, st.err ≠ 0 → Stay 0 st (ex' st).2) : Sim L m (unF L m un ex) (unR L un' ex') 0 0 (c + 1) 0 := by
 unfold unF unR
 refine Sim.guard (d := 2) (Sim.atTake hL ?_ (Sim.atTake hL ?_ (Sim.at ?_ ?_))) 0
 ·exact Sim.deepK (a := 1) (b := 1) (c := c) (fun m' e => (h1 m' e).less 1 (by omega) (by omega)) b1 (fun _ => by omega) hc (fun k => Sim.put _ 0) (by omega) (by omega) (by omega)
 ·exact Sim.deepK (a := 1) (b := 1) (c := c) (fun m' e => (h2 m' e).less 1 (by omega) (by omega)) b2 (fun _ => by omega) hc (fun k => (Sim.take hL _ 1).seq (C := 0) (D := 0) (fun _ => (Sim.pure k 2).less (b' := 0) 0 (by omega) (by omega)) (by omega) (by omega)) (by omega) (by omega) (by omega)
 ·exact (Sim.name hL 0).seq (fun w => Sim.put _ 0) (by omega) (by omega)
 ·exact (Sim.number hL 0).seq (fun w => Sim.put _ 0) (by omega) (by omega)
theorem opAt_k {lv i : Nat} (h : opAt L lv i = true) : (tk L i).k ≠ 3 := by
 unfold opAt at h
 rw [Bool.and_eq_true] at h
 have := of_decide_eq_true h.1
 omega
theorem sim_line (hL : TokOk L) (lv : Nat) {x : PM Int} {x' : RM Int} {c : Nat} (hx : Sim L m x x' 0 0 c 0) : ∀ n left, Sim L m (lineN L lv x n left) (lineNR L lv x' n left) 0 0 (c + 1) 0
 | 0, left => (Sim.pure left 0).le (by omega) (by omega)
 | n + 1, left => by
  refine Sim0.guard (Sim0.look (f := fun i => atM (opAt L lv) (stepM >>= fun _ => x >>= fun right => putM ⟨3, (tk L i).t, 0, [], [left, right]⟩ >>= fun k => lineN L lv x n k) (pure left))
   (g := fun i => atR (opAt L lv) (stepR >>= fun _ => x' >>= fun right => putR ⟨3, (tk L i).t, 0, [], [left, right]⟩ >>= fun k => lineNR L lv x' n k) (pure left)) fun i => ?_) left
  refine Sim0.step hL (fun i h => opAt_k h) ?_ ((Sim.pure left 0).le (by omega) (Nat.le_refl _)).to0
  exact ((hx.less 1 (by omega) (Nat.le_refl _)).seq (C := c + 1) (D := 1) (fun r => (Sim.put _ 0).seq (C := c + 1) (D := 1) (fun k => sim_line hL lv hx n k) (by omega) (by omega)) (by omega) (by omega)).to0
theorem sim_lineJ (hL : TokOk L) {un : PM Int} {un' : RM Int} {c : Nat} (hx : Sim L m un un' 0 0 c 0) : ∀ j, Sim L m (lineJ L un j) (lineJR L un' j) 0 0 (c + j) 0
 | 0 => hx.guard 0
 | j + 1 => ((sim_lineJ hL hx j).seq (C := c + (j + 1)) (D := 0) (fun left => Sim.look (f := fun i => lineN L (8 - j) (lineJ L un j) (L.length - i + 1) left) (g := fun i => lineNR L (8 - j) (lineJR L un' j) (L.length - i + 1) left)
   fun i => sim_line hL (8 - j) (sim_lineJ hL hx j) (L.length - i + 1) left) (by omega) (by omega)).guard 0
theorem stay_lineJ {un' : RM Int} : ∀ j st, st.err ≠ 0 → Stay 0 st (lineJR L un' j st).2
 | 0, st, h => stay_guard st h
 | j + 1, st, h => stay_guard st h
theorem stay_un {un' ex' : RM Int} (st : RSt) (h : st.err ≠ 0) : Stay 0 st (unR L un' ex' st).2 := stay_guard st h
theorem stay_unRm : ∀ m st, st.err ≠ 0 → Stay 0 st (unRm L m st).2
 | 0, st, h => stay_guard st h
 | m + 1, st, h => stay_guard st h
theorem sim_unM (hL : TokOk L) : ∀ m, Sim L m (unM L m) (unRm L m) 0 0 (2 + 9 * m) 0
 | 0 => sim_un hL (c := 1) (Nat.le_refl _) (fun _ h => by omega) (fun _ h => by omega) (fun _ _ => Stay.rfl) (fun _ _ => Stay.rfl)
 | m + 1 => (sim_un hL (c := 10 + 9 * m) (by omega) (fun m' h => by
    obtain rfl : m = m' := by omega
    exact (sim_unM hL m).le (by omega) (Nat.le_refl _)) (fun m' h => by
    obtain rfl : m = m' := by omega
    exact (sim_lineJ hL (sim_unM hL m) 8).le (by omega) (Nat.le_refl _)) (stay_unRm m) (stay_lineJ 8)).le (by omega) (Nat.le_refl _)
theorem sim_expr (hL : TokOk L) (m a : Nat) : Sim L m (exprM L m) (exprR L m) a a (10 + 9 * m) 0 := ((sim_lineJ hL (sim_unM hL m) 8).less a (by omega) (by omega)).le (by omega) (Nat.le_refl _)
theorem sim_bracket (hL : TokOk L) (m a : Nat) : Sim L m (bracketM L m) (bracketR L m) a (a + 2) (10 + 9 * m) 0 :=
 (Sim.take hL _ a).seq (fun _ => (sim_expr hL m _).seq (C := 10 + 9 * m) (D := 0) (fun k => (Sim.take hL _ _).seq (C := 0) (D := 0) (fun _ => Sim.pure _ _) (by omega) (by omega)) (by omega) (by omega)) (by omega) (by omega)
theorem sim_array (hL : TokOk L) (m : Nat) (t : TY) : Sim L m (arrayM L m t) (arrayR L m t) 1 0 (11 + 9 * m) 1 :=
 (Sim.lay t 0).seq (fun k => Sim.at (c := 11 + 9 * m) (d := 0) (((sim_bracket hL m 0).seq (C := 11 + 9 * m) (D := 1) (fun x => (Sim.lay _ 0).less 1 (Nat.le_refl _) (by omega)) (by omega) (by omega)).guard k) ((Sim.pure k 0).le (by omega) (by omega))) (by omega) (by omega)
theorem sim_args (hL : TokOk L) (m : Nat) : ∀ n l, Sim L m (argsN L m n l) (argsR L m n l) 0 0 (10 + 9 * m) 0
 | 0, l => (Sim.pure l 0).le (by omega) (by omega)
 | n + 1, l => (Sim.atTake hL (c := 10 + 9 * m) (d := 0) ((Sim.roomIf (beginsV L ·) l.length 1).seq (C := 10 + 9 * m) (D := 0) (fun _ => (sim_expr hL m 1).seq (C := 10 + 9 * m) (D := 0) (fun x => (sim_args hL m n (l ++ [x])).less (a' := 1) (b' := 0) 0 (by omega) (Nat.le_refl _)) (by omega) (by omega)) (by omega) (by omega)) ((Sim.pure l 0).le (by omega) (by omega))).guard l
theorem sim_ref (hL : TokOk L) (m : Nat) : Sim L m (refM L m) (refR L m) 0 1 (10 + 9 * m) 0 := by
 unfold refM refR
 refine (Sim.name hL 0).seq (C := 10 + 9 * m) (D := 0) (c' := 10 + 9 * m) (d' := 0) (fun w => Sim.atTake hL ?_ ((Sim.pure _ 1).le (by omega) (by omega))) (by omega) (by omega)
 have h1 : Sim L m (exprM L m >>= fun x => (fun s => argsN L m (L.length - s.i + 1) [x] s : PM (List Int))) (guardR [] (exprR L m >>= fun x => (fun s => argsR L m (L.length - s.i + 1) [x] s : RM (List Int)))) 2 2 (10 + 9 * m) 0 :=
  ((sim_expr hL m 2).seq (C := 10 + 9 * m) (D := 0) (fun x => Sim.look (f := fun i => argsN L m (L.length - i + 1) [x]) (g := fun i => argsR L m (L.length - i + 1) [x]) fun i => (sim_args hL m _ [x]).less 2 (by omega) (by omega)) (by omega) (by omega)).guard []
 have h2 := h1.seq (C := 10 + 9 * m) (D := 0) (f := fun l => takeM L t_rpar >>= fun _ => pure { tyP 10 with nm := w, args := l }) (g := fun l => takeR L t_rpar >>= fun _ => pure { tyP 10 with nm := w, args := l })
  (fun l => (Sim.take hL t_rpar 2).seq (C := 0) (D := 0) (fun _ => (Sim.pure _ 3).less (b' := 1) 0 (Nat.le_refl _) (by omega)) (by omega) (by omega)) (by omega) (by omega)
 exact (congrArg (fun z => Sim L m z _ 2 1 (10 + 9 * m) 0) (pm_assoc (exprM L m) (fun x => (fun s => argsN L m (L.length - s.i + 1) [x] s : PM (List Int))) fun l => takeM L t_rpar >>= fun _ => pure { tyP 10 with nm := w, args := l })).mpr h2
section
variable {kd : PM Int} {kd' : RM Int} {c : Nat}
theorem sim_inner (h : ∀ m', m = m' + 1 → Sim L m' kd kd' 0 0 c 0) (h0 : ∀ st, st.err ≠ 0 → Stay 0 st (kd' st).2) (hc : 1 ≤ c) (a : Nat) : Sim L m (innerM L m kd) (innerR L kd') a a c 1 :=
 Sim.deep (fun m' e => (h m' e).less a (by omega) (by omega)) h0 (fun _ => Nat.le_refl _) hc
theorem sim_cases (hL : TokOk L) (h : ∀ m', m = m' + 1 → Sim L m' kd kd' 0 0 c 0) (h0 : ∀ st, st.err ≠ 0 → Stay 0 st (kd' st).2) (hc : 1 ≤ c) : ∀ n l, Sim L m (casesN L m kd n l) (casesR L kd' n l) 0 0 c 0
 | 0, l => (Sim.pure l 0).le (by omega) (by omega)
 | n + 1, l => (Sim.atRoom hL (c := c) (d := 1) ((Sim.number hL 1).seq (C := c) (D := 1) (fun x => (Sim.take hL t_colon _).seq (C := c) (D := 1) (fun _ => (sim_inner h h0 hc _).seq (C := c) (D := 1) (fun k => (Sim.take hL t_semi _).seq (C := c) (D := 0) (fun _ => (sim_cases hL h h0 hc n (l ++ [⟨x, k⟩])).less (b' := 0) 0 (by omega) (Nat.le_refl _)) (by omega) (by omega)) (by omega) (by omega)) (by omega) (by omega)) (by omega) (by omega)) ((Sim.pure l 0).le (by omega) (by omega)) hc).guard l
theorem sim_choice (hL : TokOk L) (h : ∀ m', m = m' + 1 → Sim L m' kd kd' 0 0 c 0) (h0 : ∀ st, st.err ≠ 0 → Stay 0 st (kd' st).2) (hc : 11 + 9 * m ≤ c + 1) (a : Nat) : Sim L m (choiceM L m kd) (choiceR L m kd') a a (c + 1) 1 := by
 unfold choiceM choiceR
 exact (Sim.take hL _ a).seq (c' := c + 1) (d' := 1) (fun _ => (sim_expr hL m _).seq (C := c + 1) (D := 1) (c' := c + 1) (d' := 1) (fun x => (Sim.take hL _ _).seq (C := c + 1) (D := 1) (c' := c + 1) (d' := 1) (fun _ => (Sim.take hL _ _).seq (C := c + 1) (D := 1) (c' := c + 1) (d' := 1) (fun _ =>
  (Sim.look (f := fun i => casesN L m kd (L.length - i + 1) []) (g := fun i => casesR L kd' (L.length - i + 1) []) fun i => (sim_cases hL h h0 (by omega) _ []).less (a' := a + 3) (b' := a + 3) (a + 3) (by omega) (by omega)).seq (C := c + 1) (D := 1) (c' := c + 1) (d' := 1) (fun cs =>
  (Sim.atTakeG hL (a := a + 3) (b := a + 3) (c := c) (d := 0) ((Sim.take hL _ _).seq (C := c) (D := 1) (fun _ => (sim_inner h h0 (by omega) _).seq (C := c) (D := 1) (fun k => (Sim.take hL _ _).seq (C := 0) (D := 0) (fun _ => (Sim.pure k _).less (b' := a + 3) 0 (Nat.le_refl _) (by omega)) (by omega) (by omega)) (by omega) (by omega)) (by omega) (by omega)).to0
   ((Sim.pure _ _).le (by omega) (by omega))).seq (C := c + 1) (D := 1) (c' := 1) (d' := 1) (fun k => (Sim.take hL _ _).seq (C := 1) (D := 1) (fun _ => (Sim.lay _ a).less 3 (by omega) (by omega)) (by omega) (by omega)) (by omega) (by omega)) (by omega) (by omega)) (by omega) (by omega)) (by omega) (by omega)) (by omega) (by omega)) (by omega) (by omega)
theorem sim_word (hL : TokOk L) (h : ∀ m', m = m' + 1 → Sim L m' kd kd' 0 0 c 0) (h0 : ∀ st, st.err ≠ 0 → Stay 0 st (kd' st).2) (hc : 1 ≤ c) (C : Nat) (hC : c + 1 ≤ C) (hC2 : 12 + 9 * m ≤ C) (w : List UInt8) : Sim L m (wordM L m kd w) (wordR L m kd' w) 1 0 C 2 := by
 unfold wordM wordR
 cases hsz : sizedV w with
 | some k =>
  dsimp only
  refine (sim_bracket hL m _).seq (C := C) (D := 2) (c' := c + 1) (d' := 2) (fun x => ?_) (by omega) (by omega)
  by_cases hk : k = 7 ∨ k = 8
  ·rw [if_pos hk, if_pos hk]; exact (sim_inner h h0 hc _).seq (fun i => (Sim.lay _ 0).less 2 (by omega) (by omega)) (by omega) (by omega)
  ·rw [if_neg hk, if_neg hk]; exact (Sim.pure _ _).seq (fun i => (Sim.lay _ 0).less 2 (by omega) (by omega)) (by omega) (by omega)
 | none =>
  dsimp only
  by_cases h1 : w = w_rest
  ·rw [if_pos h1, if_pos h1]; exact (sim_inner h h0 hc _).seq (fun i => Sim.lay _ 0) (by omega) (by omega)
  rw [if_neg h1, if_neg h1]
  by_cases h2 : w = w_tail
  ·rw [if_pos h2, if_pos h2]; exact (Sim.lay _ 0).le (by omega) (by omega)
  rw [if_neg h2, if_neg h2]
  by_cases h3 : w = w_none
  ·rw [if_pos h3, if_pos h3]; exact (Sim.lay _ 0).le (by omega) (by omega)
  rw [if_neg h3, if_neg h3]
  by_cases h4 : w = w_switch
  ·rw [if_pos h4, if_pos h4]
   obtain ⟨c1, hc1, hc2⟩ : ∃ c1, c ≤ c1 ∧ c1 + 1 = C := ⟨C - 1, by omega, by omega⟩
   exact ((sim_choice hL (c := c1) (fun m' e => (h m' e).le hc1 (Nat.le_refl _)) h0 (by omega) 0).less (a' := 1) (b' := 0) 0 (by omega) (by omega)).le (by omega) (by omega)
  rw [if_neg h4, if_neg h4]
  exact (sim_array hL m _).le (by omega) (by omega)
theorem sim_kindF (hL : TokOk L) (h : ∀ m', m = m' + 1 → Sim L m' kd kd' 0 0 c 0) (h0 : ∀ st, st.err ≠ 0 → Stay 0 st (kd' st).2) (hc : 1 ≤ c) (C : Nat) (hC : c + 1 ≤ C) (hC2 : 12 + 9 * m ≤ C) : Sim L m (kindF L m kd) (kindFR L m kd') 0 0 C 0 := by
 unfold kindF kindFR
 refine Sim0.guard (Sim0.at ((sim_ref hL m).seq (C := C) (D := 1) (fun t => sim_array hL m t) (by omega) (by omega)).to0 (Sim0.look (f := fun i => atM (startsV L ·) (stepM >>= fun _ => wordM L m kd (tk L i).t) (failM 4))
  (g := fun i => atR (startsV L ·) (stepR >>= fun _ => wordR L m kd' (tk L i).t) (fun s => (0, { s with err := 4 }))) fun i => ?_)) 0
 exact Sim0.step hL (fun i h => startsV_k h) (sim_word hL h h0 hc C hC hC2 _).to0 ((Sim0.fail4 0 0 0).le (by omega))
end
theorem stay_kind : ∀ m st, st.err ≠ 0 → Stay 0 st (kindR L m st).2
 | 0, st, h => stay_guard st h
 | m + 1, st, h => stay_guard st h
theorem sim_kind (hL : TokOk L) : ∀ m, Sim L m (kindM L m) (kindR L m) 0 0 (12 + 9 * m) 0
 | 0 => sim_kindF hL (c := 1) (fun _ h => by omega) (fun _ _ => Stay.rfl) (Nat.le_refl _) _ (by omega) (by omega)
 | m + 1 => sim_kindF hL (c := 12 + 9 * m) (fun m' h => by
   obtain rfl : m = m' := by omega
   exact sim_kind hL m) (stay_kind m) (by omega) _ (by omega) (by omega)
theorem Sim0.less {α : Type} {x : PM α} {y : RM α} {a b c : Nat} (h : Sim0 L m x y a b c) {a' b' : Nat} (n : Nat) (ha : a + n ≤ a') (hb : b' ≤ b + n) : Sim0 L m x y a' b' c :=
 ⟨h.up.less n ha hb, fun q s hs => h.ok (q + n) s (hs.less (by omega))⟩
theorem Sim0.seq {α β : Type} {x : PM α} {y : RM α} {f : α → PM β} {g : α → RM β} {a b b' c d c' d' C : Nat} (h : Sim L m x y a b c d) (hf : ∀ v, Sim L m (f v) (g v) b b' c' d') (hC : max (c + d') c' ≤ C) : Sim0 L m (x >>= f) (y >>= g) a b' C := (h.seq hf hC (Nat.le_refl _)).to0
def EndE (L : List TokP) : Prop := ∀ i, (tk L i).k = 3 → (tk L i).t = []
theorem sim_derived (hL : TokOk L) (hE : EndE L) (a : Nat) : Sim0 L m (derivedM L) (derivedR L) a a 0 := by
 unfold derivedM derivedR
 have hp : (fun i => !decide ((tk L i).k = 3) && !decide (derOf (tk L i).t = 0)) = fun i => !decide (derOf (tk L i).t = 0) := by
  funext i
  by_cases h : (tk L i).k = 3
  ·rw [hE i h]; simp [derOf]
  ·rw [decide_eq_false h]; rfl
 rw [hp]
 refine Sim0.look (f := fun i => atM (fun i => !decide (derOf (tk L i).t = 0)) (stepM >>= fun _ => takeM L t_lpar >>= fun _ => nameM L >>= fun a =>
   (if 3 ≤ derOf (tk L i).t then takeM L t_dots >>= fun _ => nameM L else pure []) >>= fun b => takeM L t_rpar >>= fun _ => pure (derOf (tk L i).t, a, b)) (failM 4))
  (g := fun i => atR (fun i => !decide (derOf (tk L i).t = 0)) (stepR >>= fun _ => takeR L t_lpar >>= fun _ => nameR L >>= fun a =>
   (if 3 ≤ derOf (tk L i).t then takeR L t_dots >>= fun _ => nameR L else pure []) >>= fun b => takeR L t_rpar >>= fun _ => pure (derOf (tk L i).t, a, b)) (fun s => ((0, [], []), failR 4 s))) fun i => ?_
 refine Sim0.step hL (fun i h => ?_) ?_ (Sim0.fail (by decide) (by decide) _ _ _)
 ·intro h3
  rw [hE i h3] at h
  simp [derOf] at h
 ·refine Sim0.seq (d' := 0) (c' := 0) (Sim.take hL _ _) (fun _ => (Sim.name hL _).seq (c' := 0) (d' := 0) (fun w => ?_) (by omega) (by omega)) (by omega)
  by_cases hd : 3 ≤ derOf (tk L i).t
  ·rw [if_pos hd, if_pos hd]
   exact ((Sim.take hL _ _).seq (C := 0) (D := 0) (fun _ => Sim.name hL _) (by omega) (by omega)).seq (fun b => (Sim.take hL _ _).seq (C := 0) (D := 0) (fun _ => (Sim.pure _ _).less (b' := a) 0 (Nat.le_refl _) (by omega)) (by omega) (by omega)) (by omega) (by omega)
  ·rw [if_neg hd, if_neg hd]
   exact (Sim.pure _ _).seq (fun b => (Sim.take hL _ _).seq (C := 0) (D := 0) (fun _ => (Sim.pure _ _).less (b' := a) 0 (Nat.le_refl _) (by omega)) (by omega) (by omega)) (by omega) (by omega)
theorem sim_field (hL : TokOk L) (hE : EndE L) : Sim L 32 (fieldM L) (fieldR L) 0 0 300 0 := by
 unfold fieldM fieldR
 exact (Sim.name hL 0).seq (c' := 300) (d' := 0) (fun w => (Sim.take hL _ _).seq (c' := 300) (d' := 0) (C := 300) (D := 0) (fun _ => ((sim_kind hL 32).less 2 (by omega) (Nat.le_refl _)).seq (c' := 298) (d' := 0) (C := 300) (D := 0) (fun t =>
  (Sim.atTakeG hL (b := 2) (c := 298) (d := 0) (((sim_derived hL hE 2).less 0 (by omega) (by omega)).le (by omega)) ((Sim.pure _ _).le (by omega) (by omega))).seq (c' := 298) (d' := 0) (C := 298) (D := 0) (fun d =>
  (Sim.atTakeG hL (b := 2) (c := 298) (d := 0) ((sim_expr hL 32 3).less (a' := 3) (b' := 2) 0 (Nat.le_refl _) (by omega)).to0 ((Sim.pure _ _).le (by omega) (by omega))).seq (c' := 298) (d' := 0) (C := 298) (D := 0) (fun x =>
  (Sim.take hL _ _).seq (c' := 298) (d' := 0) (C := 298) (D := 0) (fun _ => ((Sim.pure _ _).less (b' := 0) 0 (Nat.le_refl _) (by omega)).le (by omega) (by omega)) (by omega) (by omega)) (by omega) (by omega)) (by omega) (by omega)) (by omega) (by omega)) (by omega) (by omega)) (by omega) (by omega)
theorem sim_subs (hL : TokOk L) : ∀ n l, Sim L m (subsN L n l) (subsR L n l) 0 0 0 0
 | 0, l => Sim.pure l 0
 | n + 1, l => by
  rw [subsN, subsR]
  exact ((Sim.roomIf (namedV L ·) l.length 0).seq (c' := 0) (d' := 0) (C := 0) (D := 0) (fun _ => (Sim.name hL _).seq (c' := 0) (d' := 0) (C := 0) (D := 0) (fun w => (Sim.take hL _ _).seq (c' := 0) (d' := 0) (C := 0) (D := 0) (fun _ => (Sim.number hL _).seq (c' := 0) (d' := 0) (C := 0) (D := 0) (fun b => (Sim.take hL _ _).seq (c' := 0) (d' := 0) (C := 0) (D := 0) (fun _ =>
   Sim.at ((sim_subs hL n _).less 4 (by omega) (by omega)) ((Sim.pure _ _).less 0 (Nat.le_refl _) (by omega))) (by omega) (by omega)) (by omega) (by omega)) (by omega) (by omega)) (by omega) (by omega)) (by omega) (by omega)).guard l
theorem pack_none : integerV w_pack = none := by decide +kernel
def pk1 (L : List TokP) (i : Nat) : PM IT := match integerV (tk L i).t with
 | none => failM 4
 | some (z, lt) => atM (fun i => decide ((tk L i).k = 0)) (stepM >>= fun _ => takeM L t_lcur >>= fun _ => (fun s => subsN L (L.length - s.i + 1) [] s) >>= fun l => takeM L t_rcur >>= fun _ => pure (⟨[], -1, 0, [], [], -1, z, lt, l⟩ : IT)) (failM 4)
def pk2 (L : List TokP) (i : Nat) : RM IT := match integerV (tk L i).t with
 | none => fun s => (⟨[], -1, 0, [], [], -1, 0, false, []⟩, failR 4 s)
 | some (z, lt) => atR (fun i => decide ((tk L i).k = 0)) (stepR >>= fun _ => takeR L t_lcur >>= fun _ => (fun s => subsR L (L.length - s.i + 1) [] s) >>= fun l => takeR L t_rcur >>= fun _ => pure (⟨[], -1, 0, [], [], -1, z, lt, l⟩ : IT)) (fun s => (⟨[], -1, 0, [], [], -1, 0, false, []⟩, failR 4 s))
theorem sim_packAt (hL : TokOk L) {y : PM IT} {y' : RM IT} {c d : Nat} (hy : Sim L m y y' 0 0 c d) : Sim L m (atM (isV L · w_pack) (packM L) y) (atR (isV L · w_pack) (packR L) y') 0 0 c d := by
 have h0 : Sim0 L m (atM (isV L · w_pack) (packM L) y) (atR (isV L · w_pack) (packR L) y') 0 0 c := by
  have e : atM (isV L · w_pack) (packM L) y = atM (isV L · w_pack) (stepM >>= fun _ => fun s => match (if (tk L s.i).k = 0 then integerV (tk L s.i).t else none) with
   | none => failM 4 s
   | some (z, lt) => (stepM >>= fun _ => takeM L t_lcur >>= fun _ => (fun s => subsN L (L.length - s.i + 1) [] s) >>= fun l => takeM L t_rcur >>= fun _ => pure (⟨[], -1, 0, [], [], -1, z, lt, l⟩ : IT)) s) y := by
   funext s
   unfold atM
   by_cases h : isV L s.i w_pack = true
   ·rw [if_pos h, if_pos h]
    unfold packM
    exact and_ok (by unfold takeM; rw [if_pos h]; rfl)
   ·rw [if_neg h, if_neg h]
  rw [e]
  unfold packR
  refine Sim0.atTake hL ?_ hy.to0
  have e1 : (fun s : PS => match (if (tk L s.i).k = 0 then integerV (tk L s.i).t else none) with
   | none => (failM 4 s : PR IT)
   | some (z, lt) => (stepM >>= fun _ => takeM L t_lcur >>= fun _ => (fun s => subsN L (L.length - s.i + 1) [] s) >>= fun l => takeM L t_rcur >>= fun _ => pure (⟨[], -1, 0, [], [], -1, z, lt, l⟩ : IT)) s) =
   fun s => pk1 L s.i s := by
   funext s
   unfold pk1
   by_cases hk : (tk L s.i).k = 0
   ·rw [if_pos hk]
    cases integerV (tk L s.i).t with
    | none => rfl
    | some p => dsimp only; unfold atM; rw [if_pos (decide_eq_true hk)]
   ·rw [if_neg hk]
    cases integerV (tk L s.i).t with
    | none => rfl
    | some p => dsimp only; unfold atM; rw [if_neg (by simpa using hk)]
  have e2 : (fun s : RSt => match (if (tk L s.i).k = 0 then integerV (tk L s.i).t else none) with
   | none => ((⟨[], -1, 0, [], [], -1, 0, false, []⟩ : IT), failR 4 s)
   | some (z, lt) => (stepR >>= fun _ => takeR L t_lcur >>= fun _ => (fun s => subsR L (L.length - s.i + 1) [] s) >>= fun l => takeR L t_rcur >>= fun _ => pure (⟨[], -1, 0, [], [], -1, z, lt, l⟩ : IT)) s) =
   fun s => pk2 L s.i s := by
   funext s
   unfold pk2
   by_cases hk : (tk L s.i).k = 0
   ·rw [if_pos hk]
    cases integerV (tk L s.i).t with
    | none => rfl
    | some p => dsimp only; unfold atR; rw [if_pos (decide_eq_true hk)]
   ·rw [if_neg hk]
    cases integerV (tk L s.i).t with
    | none => rfl
    | some p => dsimp only; unfold atR; rw [if_neg (by simpa using hk)]
  have key : Sim0 L m (fun s => pk1 L s.i s) (fun s => pk2 L s.i s) 1 0 c := Sim0.look (f := pk1 L) (g := pk2 L) fun i => by
   unfold pk1 pk2
   cases integerV (tk L i).t with
   | none => exact (Sim0.fail (by decide) (by decide) _ _ _).le (Nat.zero_le _)
   | some p =>
    obtain ⟨z, lt⟩ := p
    refine Sim0.step hL (fun i h => by have := of_decide_eq_true h; omega) ?_ ((Sim0.fail (by decide) (by decide) _ _ _).le (Nat.zero_le _))
    exact ((Sim.take hL _ _).seq (c' := 0) (d' := 0) (C := c) (D := 0) (fun _ => (Sim.look (f := fun i => subsN L (L.length - i + 1) []) (g := fun i => subsR L (L.length - i + 1) []) fun i => (sim_subs hL _ []).less (b' := 3) 3 (by omega) (by omega)).seq (c' := 0) (d' := 0) (C := 0) (D := 0) (fun l => (Sim.take hL _ _).seq (c' := 0) (d' := 0) (C := 0) (D := 0) (fun _ => (Sim.pure _ _).less (b' := 0) 0 (Nat.le_refl _) (by omega)) (by omega) (by omega)) (by omega) (by omega)) (by omega) (by omega)).to0
  rw [← e1, ← e2] at key
  exact key
 refine ⟨h0.up, h0.ok, fun st hst => ?_⟩
 unfold atR
 by_cases h : isV L st.i w_pack = true
 ·rw [if_pos h]
  have ht : (tk L st.i).t = w_pack := by
   unfold isV at h
   rw [Bool.and_eq_true] at h
   exact of_decide_eq_true h.2
  have e : packR L st = (⟨[], -1, 0, [], [], -1, 0, false, []⟩, st) := by
   unfold packR
   refine (rand (v := ()) (s' := st) (by unfold takeR guardR; rw [if_neg hst])).trans ?_
   show (match (if (tk L st.i).k = 0 then integerV (tk L st.i).t else none) with
    | none => ((⟨[], -1, 0, [], [], -1, 0, false, []⟩ : IT), failR 4 st)
    | some (z, lt) => (stepR >>= fun _ => takeR L t_lcur >>= fun _ => (fun s => subsR L (L.length - s.i + 1) [] s) >>= fun l => takeR L t_rcur >>= fun _ => pure (⟨[], -1, 0, [], [], -1, z, lt, l⟩ : IT)) st) = _
   rw [show (if (tk L st.i).k = 0 then integerV (tk L st.i).t else none) = none by rw [ht, pack_none]; split <;> rfl, failR_bad hst]
  rw [e]
  exact Stay.rfl
 ·rw [if_neg h]; exact hy.bad st hst
theorem sim_pars (hL : TokOk L) : ∀ n l, Sim L m (parsN L n l) (parsR L n l) 0 0 0 0
 | 0, l => Sim.pure l 0
 | n + 1, l => (Sim.atTake hL (c := 0) (d := 0) ((Sim.roomIf (namedV L ·) l.length 1).seq (C := 0) (D := 0) (c' := 0) (d' := 0) (fun _ => (Sim.name hL 1).seq (C := 0) (D := 0) (c' := 0) (d' := 0) (fun x => (sim_pars hL n (l ++ [x])).less 2 (by omega) (by omega)) (by omega) (by omega)) (by omega) (by omega)) (Sim.pure l 0)).guard l
theorem sim_items (hL : TokOk L) (hE : EndE L) : ∀ n l, Sim L 32 (itemsN L n l) (itemsR L n l) 0 0 300 0
 | 0, l => (Sim.pure l 0).le (by omega) (by omega)
 | n + 1, l => (Sim.at (c := 300) (d := 0) ((Sim.room l.length 0).seq (C := 300) (D := 0) (c' := 300) (d' := 0) (fun _ => (sim_packAt hL (sim_field hL hE)).seq (C := 300) (D := 0) (c' := 300) (d' := 0) (fun x => sim_items hL hE n _) (by omega) (by omega)) (by omega) (by omega)) ((Sim.pure l 0).le (by omega) (by omega))).guard l
theorem sim_record (hL : TokOk L) (hE : EndE L) : Sim L 32 (recordM L) (recordR L) 0 0 300 0 := by
 unfold recordM recordR
 exact (Sim.take hL _ _).seq (c' := 300) (d' := 0) (C := 300) (D := 0) (fun _ => (Sim.name hL _).seq (c' := 300) (d' := 0) (C := 300) (D := 0) (fun w =>
  (Sim.atTakeG hL (a := 2) (b := 2) (c := 300) (d := 0) (((Sim.name hL 3).seq (c' := 0) (d' := 0) (C := 0) (D := 0) (fun x => (Sim.look (f := fun i => parsN L (L.length - i + 1) [x]) (g := fun i => parsR L (L.length - i + 1) [x]) fun i => (sim_pars hL _ _).less (b' := 4) 4 (by omega) (by omega)).seq (c' := 0) (d' := 0) (C := 0) (D := 0) (fun l => (Sim.take hL _ _).seq (c' := 0) (d' := 0) (C := 0) (D := 0) (fun _ => (Sim.pure _ _).less (b' := 2) 0 (Nat.le_refl _) (by omega)) (by omega) (by omega)) (by omega) (by omega)) (by omega) (by omega)).le (by omega) (Nat.le_refl _)).to0 ((Sim.pure _ _).le (by omega) (by omega))).seq (c' := 300) (d' := 0) (C := 300) (D := 0) (fun ps =>
  (Sim.take hL _ _).seq (c' := 300) (d' := 0) (C := 300) (D := 0) (fun _ => (Sim.look (f := fun i => itemsN L (L.length - i + 1) []) (g := fun i => itemsR L (L.length - i + 1) []) fun i => (sim_items hL hE _ []).less (b' := 3) 3 (by omega) (Nat.le_refl _)).seq (c' := 0) (d' := 0) (C := 300) (D := 0) (fun is => (Sim.take hL _ _).seq (c' := 0) (d' := 0) (C := 0) (D := 0) (fun _ => (Sim.pure _ _).less (b' := 0) 0 (Nat.le_refl _) (by omega)) (by omega) (by omega)) (by omega) (by omega)) (by omega) (by omega)) (by omega) (by omega)) (by omega) (by omega)) (by omega) (by omega)
theorem sim_const (hL : TokOk L) : Sim L m (constM L) (constR L) 0 0 0 0 := by
 unfold constM constR
 exact (Sim.take hL _ _).seq (c' := 0) (d' := 0) (fun _ => (Sim.name hL _).seq (c' := 0) (d' := 0) (C := 0) (D := 0) (fun w => (Sim.take hL _ _).seq (c' := 0) (d' := 0) (C := 0) (D := 0) (fun _ => (Sim.number hL _).seq (c' := 0) (d' := 0) (C := 0) (D := 0) (fun n => (Sim.take hL _ _).seq (c' := 0) (d' := 0) (C := 0) (D := 0) (fun _ => (Sim.pure _ _).less (b' := 0) 0 (Nat.le_refl _) (by omega)) (by omega) (by omega)) (by omega) (by omega)) (by omega) (by omega)) (by omega) (by omega)) (by omega) (by omega)
theorem sim_whole (hL : TokOk L) (hE : EndE L) : ∀ n cs rs, Sim L 32 (wholeN L n cs rs) (wholeR L n cs rs) 0 0 300 0
 | 0, cs, rs => (Sim.pure _ 0).le (by omega) (by omega)
 | n + 1, cs, rs => Sim0.guard (Sim0.at ((Sim.room cs.length 0).seq (C := 300) (D := 0) (c' := 300) (d' := 0) (fun _ => (sim_const hL).seq (C := 300) (D := 0) (c' := 300) (d' := 0) (fun c => sim_whole hL hE n _ rs) (by omega) (by omega)) (by omega) (by omega)).to0
   (Sim0.at ((Sim.room rs.length 0).seq (C := 300) (D := 0) (c' := 300) (d' := 0) (fun _ => (sim_record hL hE).seq (C := 300) (D := 0) (c' := 300) (d' := 0) (fun r => sim_whole hL hE n cs _) (by omega) (by omega)) (by omega) (by omega)).to0
    (Sim0.at ((Sim.pure (cs, rs) 0).le (c' := 300) (d' := 0) (by omega) (by omega)).to0 ((Sim0.fail (by decide) (by decide) (cs, rs) 0 0).le (by omega))))) (cs, rs)
end
end Go.Proofs.YtoingpafcodojaaGreatDoor

namespace Go.Proofs.YtoingpafcodojaaGreatDoor
open Go.RowKit

section
variable {P : Program} {Γ : Glob} {f : FuncId} {nx : Nat} {xs : List T1} {r : TV} {upd : List (Nat × Blk)} {new : List Blk} {a b c d e : Nat × Blk} {m : List (Nat × Blk)}
theorem CallsM.more2 (h : CallsM P Γ f [a, b] nx xs r upd new) : CallsM P Γ f (a :: b :: m) nx xs r upd new := h.more fun p hp => by
 simp only [List.mem_cons, List.not_mem_nil, or_false] at hp ⊢; rcases hp with hp | hp <;> simp [hp]
theorem CallsM.more3 (h : CallsM P Γ f [a, d] nx xs r upd new) : CallsM P Γ f (a :: b :: c :: d :: m) nx xs r upd new := h.more fun p hp => by
 simp only [List.mem_cons, List.not_mem_nil, or_false] at hp ⊢; rcases hp with hp | hp <;> simp [hp]
theorem CallsM.more5 (h : CallsM P Γ f [a, d, e] nx xs r upd new) : CallsM P Γ f (a :: b :: c :: d :: e :: m) nx xs r upd new := h.more fun p hp => by
 simp only [List.mem_cons, List.not_mem_nil, or_false] at hp ⊢; rcases hp with hp | hp | hp <;> simp [hp]
end
abbrev Rz (L : List TokP) (st : RSt) (a b c d : Nat) : Blk := .obj [.d (.sl 5 (L.map tokD)), .d (di st.i), .d (di st.dep), .row a, .row b, .row c, .row d, .d (di st.err)]
abbrev Xr (l : List EX) : Blk := .row 5 127 (l.map exD)
abbrev Tr (l : List TY) : Blk := .row 8 62 (l.map tyD)
def W0 (L : List TokP) (f : FuncId) (xs : List T1) {α : Type} (y : RM α) (g : α → TV) (st : RSt) : Prop := ∀ v st', y st = (v, st') → CallsM Tryz.prog ΓL f [(0, Rz L st 1 2 3 4)] 5 (P0 :: xs) (g v) [(0, Rz L st' 1 2 3 4)] []
def W1 (L : List TokP) (f : FuncId) (xs : List T1) {α : Type} (y : RM α) (g : α → TV) (st : RSt) : Prop := ∀ v st', y st = (v, st') → ∀ X, st.xs = X → CallsM Tryz.prog ΓL f [(0, Rz L st 1 2 3 4), (3, Xr X)] 5 (P0 :: xs) (g v) [(0, Rz L st' 1 2 5 4), (3, .dead)] [Xr st'.xs]
def W2 (L : List TokP) (f : FuncId) (xs : List T1) {α : Type} (y : RM α) (g : α → TV) (st : RSt) : Prop := ∀ v st', y st = (v, st') → ∀ X T, st.xs = X → st.ts = T → CallsM Tryz.prog ΓL f [(0, Rz L st 1 2 3 4), (3, Xr X), (4, Tr T)] 5 (P0 :: xs) (g v) [(0, Rz L st' 1 2 5 6), (3, .dead), (4, .dead)] [Xr st'.xs, Tr st'.ts]
structure Gd (L : List TokP) (m q b : Nat) (st : RSt) : Prop where
 i : st.i < L.length
 x : st.xs.length ≤ L.length + b
 t : st.ts.length ≤ L.length + b
 d1 : 32 - (m : Int) - b ≤ st.dep
 d2 : st.dep ≤ 32 - (m : Int)
 e : st.err ≤ 10
 dep : st.err = 0 → st.dep = 32 - (m : Int)
 ok : st.err = 0 → SOk L q ⟨st.i, st.xs, st.ts⟩
section
variable {L : List TokP} {m : Nat}
theorem Gd.emb {q b : Nat} {st : RSt} (h : Gd L m q b st) (he : st.err = 0) : st = emb m ⟨st.i, st.xs, st.ts⟩ := by
 have h1 := h.dep he
 obtain ⟨i, dep, err, xs, ts⟩ := st
 cases he
 cases h1
 rfl
theorem Gd.le {q b q' b' : Nat} {st : RSt} (h : Gd L m q b st) (hq : q' ≤ q) (hb : b ≤ b') : Gd L m q' b' st :=
 ⟨h.i, by have := h.x; omega, by have := h.t; omega, by have := h.d1; omega, h.d2, h.e, h.dep, fun he => (h.ok he).less hq⟩
theorem gd_emb {q b : Nat} {s : PS} (h : SOk L q s) : Gd L m q b (emb m s) :=
 ⟨h.i, by have := h.x; have := h.i; show s.xs.length ≤ _; omega, by have := h.t; have := h.i; show s.ts.length ≤ _; omega, by show _ ≤ 32 - (m : Int); omega, Int.le_refl _, by show 0 ≤ 10; omega, fun _ => rfl, fun _ => h⟩
theorem Sim.gd {α : Type} {x : PM α} {y : RM α} {a a' c d b : Nat} (h : Sim L m x y a a' c d) {st st' : RSt} {v : α} (hg : Gd L m a b st) (hc : c ≤ b + d) (hx : y st = (v, st')) : Gd L m a' (b + d) st' := by
 by_cases he : st.err = 0
 ·have hs := hg.ok he
  have h1 := h.ok 0 _ (by rw [Nat.zero_add]; exact hs)
  have hu := h.up _ 0 (by rw [Nat.zero_add]; exact hs)
  rw [← hg.emb he] at h1
  revert h1 hu
  cases x ⟨st.i, st.xs, st.ts⟩ with
  | ok w t =>
   intro h1 hu
   dsimp only at h1 hu
   rw [hx] at h1
   cases h1
   exact gd_emb (by have := hu.1; rwa [Nat.zero_add] at this)
  | err i e =>
   intro h1 hu
   dsimp only at h1 hu
   rw [hx] at h1
   have h1 : Bad L m c i e st' := h1
   exact ⟨by rw [h1.i]; exact hu.2.1, by have := h1.x; omega, by have := h1.t; omega, by have := h1.d1; omega, h1.d2, by rw [h1.e]; exact hu.2.2.2, fun h0 => by rw [h1.e] at h0; omega, fun h0 => by rw [h1.e] at h0; omega⟩
 ·have h1 := h.bad st he
  rw [hx] at h1
  have h1 : Stay d st st' := h1
  exact ⟨by rw [h1.i]; exact hg.i, by have := h1.x; have := hg.x; omega, by have := h1.t; have := hg.t; omega, by have := h1.d1; have := hg.d1; omega, by have := h1.d2; have := hg.d2; omega, by rw [h1.e]; exact hg.e,
   fun h0 => absurd (h1.e.symm.trans h0) he, fun h0 => absurd (h1.e.symm.trans h0) he⟩
end
section
variable {L : List TokP} {st st1 : RSt}
theorem keep_fail {e : Nat} : (failR e st).xs = st.xs ∧ (failR e st).ts = st.ts := by unfold failR; split <;> exact ⟨rfl, rfl⟩
theorem keep_take {t : List UInt8} {v : Unit} (h : takeR L t st = (v, st1)) : st1.xs = st.xs ∧ st1.ts = st.ts := by
 have h2 := congrArg Prod.snd h
 dsimp only at h2
 rw [← h2]
 unfold takeR guardR
 split
 ·dsimp only; split <;> exact ⟨rfl, rfl⟩
 ·exact ⟨rfl, rfl⟩
theorem keep_name {v : List UInt8} (h : nameR L st = (v, st1)) : st1.xs = st.xs ∧ st1.ts = st.ts := by
 have h2 := congrArg Prod.snd h
 dsimp only at h2
 rw [← h2]
 unfold nameR guardR
 split
 ·dsimp only; split <;> exact ⟨rfl, rfl⟩
 ·exact ⟨rfl, rfl⟩
theorem keep_num {v : Nat} (h : numberR L st = (v, st1)) : st1.xs = st.xs ∧ st1.ts = st.ts := by
 have h2 := congrArg Prod.snd h
 dsimp only at h2
 rw [← h2]
 unfold numberR guardR
 split
 ·dsimp only; split <;> exact ⟨rfl, rfl⟩
 ·exact ⟨rfl, rfl⟩
theorem keep_room {n : Nat} {v : Unit} (h : roomR n st = (v, st1)) : st1.xs = st.xs ∧ st1.ts = st.ts := by
 have h2 := congrArg Prod.snd h
 dsimp only at h2
 rw [← h2]
 unfold roomR
 split
 ·exact keep_fail
 ·exact ⟨rfl, rfl⟩
theorem keep_enter {b : Bool} {v : Unit} (h : enterR b st = (v, st1)) : st1.xs = st.xs ∧ st1.ts = st.ts := by
 have h2 := congrArg Prod.snd h
 dsimp only at h2
 rw [← h2]
 unfold enterR guardR
 split
 ·dsimp only
  split
  ·exact ⟨rfl, rfl⟩
  ·split <;> exact ⟨rfl, rfl⟩
 ·exact ⟨rfl, rfl⟩
end
section
variable {L : List TokP}
theorem rfail_c (st : RSt) (e : Nat) (he : e ≤ 10) : CallsM Tryz.prog ΓL 29 [(0, Rz L st 1 2 3 4)] 5 [P0, c1 (di e)] (.tup []) [(0, Rz L (failR e st) 1 2 3 4)] [] := by
 by_cases h : st.err = 0
 ·rw [show failR e st = { st with err := e } from if_pos h]
  refine fn_ruleM (C := ⟨Tryz.prog, layF, Tryz.f29.ntmps, ΓL, 5, [], []⟩) layF_ok mixed Tryz.func29 rfl (by kernel_rfl) rfl rfl rfl ?_
  repeat' (first | refine qgs ?_ | refine eD ?_ ?_ <;> intro)
  exact ⟨rfl, TLe.rfl, rfl, rfl⟩
 ·rw [show failR e st = st from if_neg h]
  refine fn_ruleM (C := ⟨Tryz.prog, layF, Tryz.f29.ntmps, ΓL, 5, [], []⟩) layF_ok mixed Tryz.func29 rfl (by kernel_rfl) rfl rfl rfl ?_
  repeat' (first | refine qgs ?_ | refine eD ?_ ?_ <;> intro)
  exact ⟨rfl, TLe.rfl, rfl, rfl⟩
theorem ris_c (st : RSt) (h : st.i < L.length) (t : List UInt8) : CallsM Tryz.prog ΓL 23 [(0, Rz L st 1 2 3 4)] 5 [P0, c1 (ds (bs t))] (Tb (isV L st.i t)) [(0, Rz L st 1 2 3 4)] [] := by
 have hk := tk_at h
 obtain ⟨R, hR⟩ : ∃ R, isV L st.i t = R := ⟨_, rfl⟩
 rw [hR]
 unfold isV at hR
 generalize tk L st.i = u at *
 by_cases hk3 : u.k = 3
 ·obtain rfl : false = R := by rw [← hR]; simp [hk3]
  refine fn_ruleM (C := ⟨Tryz.prog, layF, Tryz.f23.ntmps, ΓL, 5, [], []⟩) layF_ok mixed Tryz.func23 rfl (by kernel_rfl) rfl rfl rfl ?_
  repeat' (first | refine (ex_row st.i _ rfl hk) ?_ | refine qg1 ?_ | refine eD ?_ ?_ <;> intro)
  exact ⟨rfl, TLe.rfl, rfl, rfl⟩
 ·by_cases ht : u.t = t
  ·obtain rfl : true = R := by rw [← hR]; simp [hk3, ht]
   refine fn_ruleM (C := ⟨Tryz.prog, layF, Tryz.f23.ntmps, ΓL, 5, [], []⟩) layF_ok mixed Tryz.func23 rfl (by kernel_rfl) rfl rfl rfl ?_
   repeat' (first | refine (ex_true (by rw [ht])) ?_ | refine (ex_row st.i _ rfl hk) ?_ | refine qg1 ?_ | refine eD ?_ ?_ <;> intro)
   exact ⟨rfl, TLe.rfl, rfl, rfl⟩
  ·obtain rfl : false = R := by rw [← hR]; simp [hk3, ht]
   refine fn_ruleM (C := ⟨Tryz.prog, layF, Tryz.f23.ntmps, ΓL, 5, [], []⟩) layF_ok mixed Tryz.func23 rfl (by kernel_rfl) rfl rfl rfl ?_
   repeat' (first | refine (ex_false (fun e => ht (bsj.1 e))) ?_ | refine (ex_row st.i _ rfl hk) ?_ | refine qg1 ?_ | refine eD ?_ ?_ <;> intro)
   exact ⟨rfl, TLe.rfl, rfl, rfl⟩
theorem rtake_c (st : RSt) (h : st.i < L.length) (hn : L.length ≤ 100000) (t : List UInt8) : W0 L 25 [c1 (ds (bs t))] (takeR L t) (fun _ => .tup []) st := fun v st' hT => by
 have hi := ris_c st h t
 unfold takeR guardR at hT
 by_cases he : st.err = 0
 ·rw [if_pos he] at hT
  dsimp only at hT
  rcases hv : isV L st.i t with _ | _ <;> rw [hv] at hi hT
  ·obtain rfl : { st with err := 4 } = st' := congrArg Prod.snd hT
   have hf := rfail_c (L := L) st 4 (by omega)
   rw [show failR 4 st = { st with err := 4 } from if_pos he] at hf
   refine fn_ruleM (C := ⟨Tryz.prog, layF, Tryz.f25.ntmps, ΓL, 5, [], []⟩) layF_ok mixed Tryz.func25 rfl (by kernel_rfl) rfl rfl rfl ?_
   repeat' (first | refine qgs ?_ | refine eD ?_ ?_ <;> intro)
   refine ex_callM (CallsM.ren (hi) [0, 1, 2, 3, 4] 5 rfl rfl rfl rfl) ?_
   repeat' (first | refine qgs ?_ | refine eD ?_ ?_ <;> intro)
   refine ex_callM (CallsM.ren (hf) [0, 1, 2, 3, 4] 5 rfl rfl rfl rfl) ?_
   repeat' (first | refine qgs ?_ | refine eD ?_ ?_ <;> intro)
   exact ⟨rfl, TLe.rfl, rfl, rfl⟩
  ·obtain rfl : { st with i := st.i + 1 } = st' := congrArg Prod.snd hT
   refine fn_ruleM (C := ⟨Tryz.prog, layF, Tryz.f25.ntmps, ΓL, 5, [], []⟩) layF_ok mixed Tryz.func25 rfl (by kernel_rfl) rfl rfl rfl ?_
   repeat' (first | refine qgs ?_ | refine eD ?_ ?_ <;> intro)
   refine ex_callM (CallsM.ren (hi) [0, 1, 2, 3, 4] 5 rfl rfl rfl rfl) ?_
   repeat' (first | refine aI ((st.i + 1 : Nat) : Int) ?_ | refine aU ((st.i + 1 : Nat) : Int) ?_ | refine aB ((st.i + 1 : Nat) : Int) ?_ | refine qg1 ?_ | refine eD ?_ ?_ <;> intro)
   exact ⟨rfl, TLe.rfl, rfl, rfl⟩
 ·rw [if_neg he] at hT
  obtain rfl : st = st' := congrArg Prod.snd hT
  refine fn_ruleM (C := ⟨Tryz.prog, layF, Tryz.f25.ntmps, ΓL, 5, [], []⟩) layF_ok mixed Tryz.func25 rfl (by kernel_rfl) rfl rfl rfl ?_
  repeat' (first | refine qgs ?_ | refine eD ?_ ?_ <;> intro)
  refine ex_callM (CallsM.ren (hi) [0, 1, 2, 3, 4] 5 rfl rfl rfl rfl) ?_
  repeat' (first | refine qgs ?_ | refine eD ?_ ?_ <;> intro)
  exact ⟨rfl, TLe.rfl, rfl, rfl⟩
end
end Go.Proofs.YtoingpafcodojaaGreatDoor

namespace Go.Proofs.YtoingpafcodojaaGreatDoor
open Go.RowKit

theorem ints_at {i : Nat} {p : List UInt8 × Nat × Bool} (h : intsL[i]? = some p) : p.2.2 = (decide (0 < i) && decide (i % 2 = 0)) := by
 have hi : i < 9 := (List.getElem?_eq_some_iff.1 h).1
 rcases (show i = 0 ∨ i = 1 ∨ i = 2 ∨ i = 3 ∨ i = 4 ∨ i = 5 ∨ i = 6 ∨ i = 7 ∨ i = 8 by omega) with rfl | rfl | rfl | rfl | rfl | rfl | rfl | rfl | rfl <;> (cases h; rfl)
def rintTV : Option (Nat × Bool) → TV
 | some (n, l) => .tup [c1 (di n), c1 (db l)]
 | none => .tup [c1 (di 0), c1 (db false)]
set_option maxHeartbeats 2000000 in
theorem rinteger_c (w : List UInt8) : CallsA Tryz.prog Γ0 68 [c1 (ds (bs w))] (rintTV (integerV w)) := by
 obtain ⟨R, hR⟩ : ∃ R, integerV w = R := ⟨_, rfl⟩
 rw [hR]
 have hl9 : intsL.length = 9 := rfl
 refine fn_rule (C := ⟨Tryz.prog, layF, Tryz.f68.ntmps, Γ0, 0, [2], []⟩) layF_ok mixed Tryz.func68 rfl (by kernel_rfl) rfl rfl rfl ?_
 repeat' (first | refine qgs ?_ | refine eD ?_ ?_ <;> intro)
 refine ex_join (X := Unit) (fun _ => ⟨[(0, Tstr (bs w)), (4, .o (c1 (.sl 1 (intsL.map fun p => [ds (bs p.1)])))), (5, .o (c1 (.sl 1 (intsL.map fun p => [di p.2.1]))))], [], 2⟩) (fun _ => True) ?_ ?_
 ·exact ex_meet () trivial (SLe.trans (SLe.trans sS (SLe.still 1 1 3 (intsL.map fun p => [di p.2.1]) rfl)) (SLe.still 0 1 9 (intsL.map fun p => [ds (bs p.1)]) rfl))
 intro _ _
 repeat' (first | refine qgs ?_ | refine eD ?_ ?_ <;> intro)
 refine ex_loop (X := Nat) (fun i => ⟨[(0, Tstr (bs w)), (4, .o (c1 (.sl 1 (intsL.map fun p => [ds (bs p.1)])))), (5, .o (c1 (.sl 1 (intsL.map fun p => [di p.2.1])))), (6, Ti i)], [], 2⟩) (fun i => 9 - i) (fun i => i ≤ 9 ∧ ((intsL.drop i).find? fun p => p.1 == w).map (·.2) = R) 0 ⟨by omega, hR⟩ sS ?_
 rintro i ⟨hi, hP⟩
 refine ex_is 9 (by rw [List.length_map]; rfl) ?_
 refine ex_dec (fun h => ?_) (fun h => ?_)
 ·have h9 : i < 9 := by omega
  obtain ⟨p, hp⟩ : ∃ p, intsL[i]? = some p := ⟨_, List.getElem?_eq_getElem (by omega)⟩
  have hd : intsL.drop i = p :: intsL.drop (i + 1) := by
   rw [List.drop_eq_getElem_cons (by omega : i < intsL.length)]
   rw [(List.getElem?_eq_some_iff.1 hp).2]
  rw [hd, List.find?_cons] at hP
  have hla := ints_at hp
  by_cases hw : p.1 = w
  ·rw [show (p.1 == w) = true by simpa using hw] at hP
   dsimp only at hP
   subst hP
   rw [Option.map_some]
   obtain ⟨pn, pz, pl⟩ := p
   obtain rfl : pn = w := hw
   rcases (show i = 0 ∨ i = 1 ∨ i = 2 ∨ i = 3 ∨ i = 4 ∨ i = 5 ∨ i = 6 ∨ i = 7 ∨ i = 8 by omega) with rfl | rfl | rfl | rfl | rfl | rfl | rfl | rfl | rfl
   all_goals
    obtain rfl : pl = _ := hla
    repeat' (first | refine (ex_is (1 : Int) (by decide)) ?_ | refine (ex_is (0 : Int) (by decide)) ?_ | refine (ex_row _ _ rfl hp) ?_ | refine qg1 ?_ | refine eD ?_ ?_ <;> intro)
    exact TLe.rfl
  ·rw [show (p.1 == w) = false by simpa using hw] at hP
   repeat' (first | refine aI ((i + 1 : Nat) : Int) ?_ | refine aU ((i + 1 : Nat) : Int) ?_ | refine aB ((i + 1 : Nat) : Int) ?_ | refine (ex_false (fun e => hw (bsj.1 e))) ?_ | refine (ex_row i p rfl hp) ?_ | refine qg1 ?_ | refine eD ?_ ?_ <;> intro)
   exact ex_round (i + 1) ⟨by omega, hP⟩ (by show 9 - (i + 1) < 9 - i; omega) sS
 ·obtain rfl : i = 9 := by omega
  obtain rfl : none = R := hP
  repeat' (first | refine qgs ?_ | refine eD ?_ ?_ <;> intro)
  exact TLe.rfl
theorem int_pos {w : List UInt8} {n : Nat} {l : Bool} (h : integerV w = some (n, l)) : 0 < n := by
 unfold integerV at h
 obtain ⟨p, hp, he⟩ := Option.map_eq_some_iff.1 h
 have hm := List.mem_of_find?_eq_some hp
 have : (intsL.all fun p => decide (0 < p.2.1)) = true := by decide
 have := of_decide_eq_true (List.all_eq_true.1 this p hm)
 rw [he] at this
 exact this
theorem rkey_c (w : List UInt8) : CallsA Tryz.prog Γ0 67 [c1 (ds (bs w))] (Tb (keyV w)) := by
 obtain ⟨R, hR⟩ : ∃ R, keyV w = R := ⟨_, rfl⟩
 rw [hR]
 unfold keyV at hR
 have hl : keysL.length = 19 := rfl
 have hin := rinteger_c w
 refine fn_rule (C := ⟨Tryz.prog, layF, Tryz.f67.ntmps, Γ0, 0, [1], []⟩) layF_ok mixed Tryz.func67 rfl (by kernel_rfl) rfl rfl rfl ?_
 repeat' (first | refine qgs ?_ | refine eD ?_ ?_ <;> intro)
 refine ex_join (X := Unit) (fun _ => ⟨[(0, Tstr (bs w)), (3, .o (c1 (.sl 1 (keysL.map fun p => [ds (bs p)]))))], [], 2⟩) (fun _ => True) ?_ ?_
 ·exact ex_meet () trivial (SLe.trans sS (SLe.still 0 1 9 (keysL.map fun p => [ds (bs p)]) rfl))
 intro _ _
 repeat' (first | refine qgs ?_ | refine eD ?_ ?_ <;> intro)
 refine ex_loop (X := Nat) (fun i => ⟨[(0, Tstr (bs w)), (3, .o (c1 (.sl 1 (keysL.map fun p => [ds (bs p)])))), (4, Ti i)], [], 2⟩) (fun i => 19 - i) (fun i => i ≤ 19 ∧ ((keysL.drop i).contains w || (integerV w).isSome) = R) 0 ⟨by omega, hR⟩ sS ?_
 rintro i ⟨hi, hP⟩
 refine ex_is 19 (by rw [List.length_map]; rfl) ?_
 refine ex_dec (fun h => ?_) (fun h => ?_)
 ·obtain ⟨p, hp⟩ : ∃ p, keysL[i]? = some p := ⟨_, List.getElem?_eq_getElem (by omega)⟩
  have hd : keysL.drop i = p :: keysL.drop (i + 1) := by
   rw [List.drop_eq_getElem_cons (by omega : i < keysL.length)]
   rw [(List.getElem?_eq_some_iff.1 hp).2]
  rw [hd, List.contains_cons] at hP
  by_cases hw : p = w
  ·subst hw
   obtain rfl : true = R := by rw [← hP]; simp
   repeat' (first | refine (ex_row i p rfl hp) ?_ | refine qg1 ?_ | refine eD ?_ ?_ <;> intro)
   exact TLe.rfl
  ·rw [show (w == p) = false by simpa using fun e => hw e.symm, Bool.false_or] at hP
   repeat' (first | refine aI ((i + 1 : Nat) : Int) ?_ | refine aU ((i + 1 : Nat) : Int) ?_ | refine aB ((i + 1 : Nat) : Int) ?_ | refine (ex_false (fun e => hw (bsj.1 e))) ?_ | refine (ex_row i p rfl hp) ?_ | refine qg1 ?_ | refine eD ?_ ?_ <;> intro)
   exact ex_round (i + 1) ⟨by omega, hP⟩ (by show 19 - (i + 1) < 19 - i; omega) sS
 ·obtain rfl : i = 19 := by omega
  have hP : (integerV w).isSome = R := hP
  rcases hv : integerV w with _ | ⟨n, l⟩ <;> rw [hv] at hin hP
  ·obtain rfl : false = R := hP
   have hin : CallsA Tryz.prog Γ0 68 [c1 (ds (bs w))] (.tup [c1 (di 0), c1 (db false)]) := hin
   repeat' (first | refine ex_call hin ?_ | refine qg1 ?_ | refine eD ?_ ?_ <;> intro)
   exact TLe.rfl
  ·obtain rfl : true = R := hP
   have hin : CallsA Tryz.prog Γ0 68 [c1 (ds (bs w))] (.tup [c1 (di n), c1 (db l)]) := hin
   have hn : 0 < n := int_pos hv
   repeat' (first | refine ex_call hin ?_ | refine qg1 ?_ | refine eD ?_ ?_ <;> intro)
   exact TLe.rfl
def lvL : List (List (List UInt8)) := [[[124, 124]], [[38, 38]], [[61, 61], [33, 61], [60], [60, 61], [62], [62, 61]], [[124]], [[38]], [[60, 60], [62, 62]], [[43], [45]], [[42], [47], [37]]]
theorem lv_in : ((List.range 8).all fun i => (lvL.getD i []).all fun x : List UInt8 => decide (levelV x = i + 1)) = true := by decide +kernel
theorem lv_out {w : List UInt8} (h : ∀ (i : Nat) (l : List (List UInt8)), lvL[i]? = some l → w ∉ l) : levelV w = 0 := by
 have hm : w ∉ levelsL.map (·.1) := by
  intro hm
  simp only [levelsL, List.map_cons, List.map_nil, List.mem_cons, List.not_mem_nil, or_false] at hm
  rcases hm with rfl | rfl | rfl | rfl | rfl | rfl | rfl | rfl | rfl | rfl | rfl | rfl | rfl | rfl | rfl | rfl | rfl
  ·exact h 0 _ rfl (by simp)
  ·exact h 1 _ rfl (by simp)
  ·exact h 2 _ rfl (by simp)
  ·exact h 2 _ rfl (by simp)
  ·exact h 2 _ rfl (by simp)
  ·exact h 2 _ rfl (by simp)
  ·exact h 2 _ rfl (by simp)
  ·exact h 2 _ rfl (by simp)
  ·exact h 3 _ rfl (by simp)
  ·exact h 4 _ rfl (by simp)
  ·exact h 5 _ rfl (by simp)
  ·exact h 5 _ rfl (by simp)
  ·exact h 6 _ rfl (by simp)
  ·exact h 6 _ rfl (by simp)
  ·exact h 7 _ rfl (by simp)
  ·exact h 7 _ rfl (by simp)
  ·exact h 7 _ rfl (by simp)
 have : List.find? (fun p => p.1 == w) levelsL = none := List.find?_eq_none.2 (fun p hp he => hm (List.mem_map.2 ⟨p, hp, by simpa using he⟩))
 unfold levelV; rw [this]; rfl
theorem rlevel_c (w : List UInt8) : CallsA Tryz.prog Γ0 96 [c1 (ds (bs w))] (Ti (levelV w)) := by
 have hl : lvL.length = 8 := rfl
 refine fn_rule (C := ⟨Tryz.prog, layF, Tryz.f96.ntmps, Γ0, 0, [1], []⟩) layF_ok mixed Tryz.func96 rfl (by kernel_rfl) rfl rfl rfl ?_
 repeat' (first | refine qgs ?_ | refine eD ?_ ?_ <;> intro)
 refine ex_join (X := Unit) (fun _ => ⟨[(0, Tstr (bs w)), (3, .o (c1 (.sl 1 (lvL.map fun l => [.sl 1 (l.map fun s => [ds (bs s)])]))))], [], 9⟩) (fun _ => True) ?_ ?_
 ·exact ex_meet () trivial (SLe.trans sS (SLe.still 8 1 65 (lvL.map fun l => [.sl 1 (l.map fun s => [ds (bs s)])]) rfl))
 intro _ _
 repeat' (first | refine qgs ?_ | refine eD ?_ ?_ <;> intro)
 refine ex_loop (X := Nat) (fun i => ⟨[(0, Tstr (bs w)), (3, .o (c1 (.sl 1 (lvL.map fun l => [.sl 1 (l.map fun s => [ds (bs s)])])))), (4, Ti i)], [], 9⟩) (fun i => 8 - i) (fun i => i ≤ 8 ∧ ∀ (j : Nat) (l : List (List UInt8)), j < i → lvL[j]? = some l → w ∉ l) 0 ⟨by omega, fun j l h => absurd h (by omega)⟩ sS ?_
 rintro i ⟨hi, hP⟩
 refine ex_is 8 (by rw [List.length_map]; rfl) ?_
 refine ex_dec (fun h => ?_) (fun h => ?_)
 ·obtain ⟨l, hl9⟩ : ∃ l, lvL[i]? = some l := ⟨_, List.getElem?_eq_getElem (by omega)⟩
  have hll : l.length ≤ 6 := of_decide_eq_true (List.all_eq_true.1 (show (lvL.all fun l => decide (l.length ≤ 6)) = true by decide) l (List.mem_of_getElem? hl9))
  repeat' (first | refine qgs ?_ | refine eD ?_ ?_ <;> intro)
  refine ex_loop (X := Nat) (fun k => ⟨[(0, Tstr (bs w)), (3, .o (c1 (.sl 1 (lvL.map fun l => [.sl 1 (l.map fun s => [ds (bs s)])])))), (4, Ti i), (5, Ti k)], [], 9⟩) (fun k => l.length - k) (fun k => k ≤ l.length ∧ ∀ j : Nat, j < k → l[j]? ≠ some w) 0 ⟨Nat.zero_le _, fun j h => absurd h (by omega)⟩ sS ?_
  rintro k ⟨hk, hK⟩
  have hal := List.all_eq_true.1 lv_in i (List.mem_range.2 (by omega))
  rw [List.getD_eq_getElem?_getD, hl9, Option.getD_some] at hal
  have hal : ∀ x ∈ l, levelV x = i + 1 := fun x hx => of_decide_eq_true (List.all_eq_true.1 hal x hx)
  have hP' := hP
  clear hP
  repeat' (first | refine (ex_row i l rfl hl9) ?_ | refine qg1 ?_ | refine eD ?_ ?_ <;> intro)
  ·rename_i h2
   have hkl : k < l.length := by omega
   obtain ⟨x, hx⟩ : ∃ x, l[k]? = some x := ⟨_, List.getElem?_eq_getElem hkl⟩
   by_cases hw : x = w
   ·subst hw
    rw [hal x (List.mem_of_getElem? hx)]
    repeat' (first | refine aI ((i + 1 : Nat) : Int) ?_ | refine aU ((i + 1 : Nat) : Int) ?_ | refine aB ((i + 1 : Nat) : Int) ?_ | refine (ex_row k x rfl hx) ?_ | refine (ex_row i l rfl hl9) ?_ | refine qg1 ?_ | refine eD ?_ ?_ <;> intro)
    exact TLe.rfl
   ·repeat' (first | refine aI ((k + 1 : Nat) : Int) ?_ | refine aU ((k + 1 : Nat) : Int) ?_ | refine aB ((k + 1 : Nat) : Int) ?_ | refine (ex_false (fun e => hw (bsj.1 e))) ?_ | refine (ex_row k x rfl hx) ?_ | refine (ex_row i l rfl hl9) ?_ | refine qg1 ?_ | refine eD ?_ ?_ <;> intro)
    exact ex_round (k + 1) ⟨by omega, fun j hj => by
     by_cases e : j = k
     ·subst e; rw [hx]; exact fun h => hw (Option.some.inj h)
     ·exact hK j (by omega)⟩ (by show _ - _ < _ - _; omega) sS
  ·repeat' (first | refine aI ((i + 1 : Nat) : Int) ?_ | refine aU ((i + 1 : Nat) : Int) ?_ | refine aB ((i + 1 : Nat) : Int) ?_ | refine qg1 ?_ | refine eD ?_ ?_ <;> intro)
   exact ex_round (i + 1) ⟨by omega, fun j l' hj hl' => by
    by_cases e : j = i
    ·subst e
     rw [hl9] at hl'
     cases hl'
     intro hm
     obtain ⟨q, hq, hq2⟩ := List.getElem_of_mem hm
     exact hK q (by omega) (by rw [List.getElem?_eq_getElem hq, hq2])
    ·exact hP' j l' (by omega) hl'⟩ (by show 8 - (i + 1) < 8 - i; omega) sS
 ·obtain rfl : i = 8 := by omega
  rw [lv_out (w := w) fun j l hl9 => hP j l (by have := (List.getElem?_eq_some_iff.1 hl9).1; omega) hl9]
  repeat' (first | refine qgs ?_ | refine eD ?_ ?_ <;> intro)
  exact TLe.rfl
end Go.Proofs.YtoingpafcodojaaGreatDoor

namespace Go.Proofs.YtoingpafcodojaaGreatDoor
open Go.RowKit

section
variable {L : List TokP}
theorem rnamed_c (st : RSt) (h : st.i < L.length) : CallsM Tryz.prog ΓL 45 [(0, Rz L st 1 2 3 4)] 5 [P0] (Tb (namedV L st.i)) [(0, Rz L st 1 2 3 4)] [] := by
 have hk := tk_at h
 obtain ⟨R, hR⟩ : ∃ R, namedV L st.i = R := ⟨_, rfl⟩
 rw [hR]
 unfold namedV at hR
 generalize tk L st.i = u at *
 have hc := (rkey_c u.t).gL
 generalize keyV u.t = q at *
 by_cases h0 : u.k = 0
 ·obtain rfl : (!q) = R := by rw [← hR, decide_eq_true h0]; rfl
  cases q
  all_goals
   refine fn_ruleM (C := ⟨Tryz.prog, layF, Tryz.f45.ntmps, ΓL, 5, [], []⟩) layF_ok mixed Tryz.func45 rfl (by kernel_rfl) rfl rfl rfl ?_
   repeat' (first | refine ex_call hc ?_ | refine (ex_row st.i _ rfl hk) ?_ | refine qg1 ?_ | refine eD ?_ ?_ <;> intro)
   exact ⟨rfl, TLe.rfl, rfl, rfl⟩
 ·obtain rfl : false = R := by rw [← hR, decide_eq_false h0]; rfl
  refine fn_ruleM (C := ⟨Tryz.prog, layF, Tryz.f45.ntmps, ΓL, 5, [], []⟩) layF_ok mixed Tryz.func45 rfl (by kernel_rfl) rfl rfl rfl ?_
  repeat' (first | refine ex_call hc ?_ | refine (ex_row st.i _ rfl hk) ?_ | refine qg1 ?_ | refine eD ?_ ?_ <;> intro)
  exact ⟨rfl, TLe.rfl, rfl, rfl⟩
theorem rname_c (st : RSt) (h : st.i < L.length) (hn : L.length ≤ 100000) : W0 L 26 [] (nameR L) (fun w => Tstr (bs w)) st := fun v st' hT => by
 have hi := rnamed_c st h
 have hk := tk_at h
 unfold nameR guardR at hT
 by_cases he : st.err = 0
 ·rw [if_pos he] at hT
  dsimp only at hT
  rcases hv : namedV L st.i with _ | _ <;> rw [hv] at hi hT
  ·obtain rfl : { st with err := 4 } = st' := congrArg Prod.snd hT
   obtain rfl : [] = v := congrArg Prod.fst hT
   have hf := rfail_c (L := L) st 4 (by omega)
   rw [show failR 4 st = { st with err := 4 } from if_pos he] at hf
   refine fn_ruleM (C := ⟨Tryz.prog, layF, Tryz.f26.ntmps, ΓL, 5, [], []⟩) layF_ok mixed Tryz.func26 rfl (by kernel_rfl) rfl rfl rfl ?_
   repeat' (first | refine qgs ?_ | refine eD ?_ ?_ <;> intro)
   refine sC (CallsM.ren (hi) [0, 1, 2, 3, 4] 5 rfl rfl rfl rfl) ?_
   repeat' (first | refine qgs ?_ | refine eD ?_ ?_ <;> intro)
   refine sC (CallsM.ren (hf) [0, 1, 2, 3, 4] 5 rfl rfl rfl rfl) ?_
   repeat' (first | refine qgs ?_ | refine eD ?_ ?_ <;> intro)
   exact ⟨rfl, TLe.rfl, rfl, rfl⟩
  ·obtain rfl : { st with i := st.i + 1 } = st' := congrArg Prod.snd hT
   obtain rfl : (tk L st.i).t = v := congrArg Prod.fst hT
   refine fn_ruleM (C := ⟨Tryz.prog, layF, Tryz.f26.ntmps, ΓL, 5, [], []⟩) layF_ok mixed Tryz.func26 rfl (by kernel_rfl) rfl rfl rfl ?_
   repeat' (first | refine qgs ?_ | refine eD ?_ ?_ <;> intro)
   refine sC (CallsM.ren (hi) [0, 1, 2, 3, 4] 5 rfl rfl rfl rfl) ?_
   repeat' (first | refine aI ((st.i : Nat) : Int) ?_ | refine aU ((st.i : Nat) : Int) ?_ | refine aB ((st.i : Nat) : Int) ?_ | refine aI ((st.i + 1 : Nat) : Int) ?_ | refine aU ((st.i + 1 : Nat) : Int) ?_ | refine aB ((st.i + 1 : Nat) : Int) ?_ | refine (ex_row st.i _ rfl hk) ?_ | refine qg1 ?_ | refine eD ?_ ?_ <;> intro)
   exact ⟨rfl, TLe.rfl, rfl, rfl⟩
 ·rw [if_neg he] at hT
  obtain rfl : st = st' := congrArg Prod.snd hT
  obtain rfl : [] = v := congrArg Prod.fst hT
  refine fn_ruleM (C := ⟨Tryz.prog, layF, Tryz.f26.ntmps, ΓL, 5, [], []⟩) layF_ok mixed Tryz.func26 rfl (by kernel_rfl) rfl rfl rfl ?_
  repeat' (first | refine qgs ?_ | refine eD ?_ ?_ <;> intro)
  refine sC (CallsM.ren (hi) [0, 1, 2, 3, 4] 5 rfl rfl rfl rfl) ?_
  repeat' (first | refine qgs ?_ | refine eD ?_ ?_ <;> intro)
  exact ⟨rfl, TLe.rfl, rfl, rfl⟩
theorem rnum_c (st : RSt) (h : st.i < L.length) (hn : L.length ≤ 100000) : W0 L 27 [] (numberR L) (fun n => Tu n) st := fun v st' hT => by
 have hk := tk_at h
 unfold numberR guardR at hT
 by_cases he : st.err = 0
 ·rw [if_pos he] at hT
  dsimp only at hT
  by_cases hv : (tk L st.i).k = 1
  ·rw [if_pos hv] at hT
   obtain rfl : { st with i := st.i + 1 } = st' := congrArg Prod.snd hT
   obtain rfl : (tk L st.i).n = v := congrArg Prod.fst hT
   refine fn_ruleM (C := ⟨Tryz.prog, layF, Tryz.f27.ntmps, ΓL, 5, [], []⟩) layF_ok mixed Tryz.func27 rfl (by kernel_rfl) rfl rfl rfl ?_
   repeat' (first | refine aI ((st.i : Nat) : Int) ?_ | refine aU ((st.i : Nat) : Int) ?_ | refine aB ((st.i : Nat) : Int) ?_ | refine aI ((st.i + 1 : Nat) : Int) ?_ | refine aU ((st.i + 1 : Nat) : Int) ?_ | refine aB ((st.i + 1 : Nat) : Int) ?_ | refine (ex_row st.i _ rfl hk) ?_ | refine qg1 ?_ | refine eD ?_ ?_ <;> intro)
   exact ⟨rfl, TLe.rfl, rfl, rfl⟩
  ·rw [if_neg hv] at hT
   obtain rfl : { st with err := 4 } = st' := congrArg Prod.snd hT
   obtain rfl : 0 = v := congrArg Prod.fst hT
   have hf := rfail_c (L := L) st 4 (by omega)
   rw [show failR 4 st = { st with err := 4 } from if_pos he] at hf
   refine fn_ruleM (C := ⟨Tryz.prog, layF, Tryz.f27.ntmps, ΓL, 5, [], []⟩) layF_ok mixed Tryz.func27 rfl (by kernel_rfl) rfl rfl rfl ?_
   repeat' (first | refine (ex_row st.i _ rfl hk) ?_ | refine qg1 ?_ | refine eD ?_ ?_ <;> intro)
   refine sC (CallsM.ren (hf) [0, 1, 2, 3, 4] 5 rfl rfl rfl rfl) ?_
   repeat' (first | refine qgs ?_ | refine eD ?_ ?_ <;> intro)
   exact ⟨rfl, TLe.rfl, rfl, rfl⟩
 ·rw [if_neg he] at hT
  obtain rfl : st = st' := congrArg Prod.snd hT
  obtain rfl : 0 = v := congrArg Prod.fst hT
  refine fn_ruleM (C := ⟨Tryz.prog, layF, Tryz.f27.ntmps, ΓL, 5, [], []⟩) layF_ok mixed Tryz.func27 rfl (by kernel_rfl) rfl rfl rfl ?_
  repeat' (first | refine qgs ?_ | refine eD ?_ ?_ <;> intro)
  exact ⟨rfl, TLe.rfl, rfl, rfl⟩
theorem renter_c (st : RSt) (h1 : -10000 ≤ st.dep) (h2 : st.dep ≤ 10000) (may : Bool) : W0 L 126 [c1 (db may)] (enterR may) (fun _ => .tup []) st := fun v st' hT => by
 unfold enterR guardR at hT
 by_cases he : st.err = 0
 ·rw [if_pos he] at hT
  dsimp only at hT
  cases may
  ·obtain rfl : { st with err := 4 } = st' := congrArg Prod.snd hT
   have hf := rfail_c (L := L) st 4 (by omega)
   rw [show failR 4 st = { st with err := 4 } from if_pos he] at hf
   refine fn_ruleM (C := ⟨Tryz.prog, layF, Tryz.f126.ntmps, ΓL, 5, [], []⟩) layF_ok mixed Tryz.func126 rfl (by kernel_rfl) rfl rfl rfl ?_
   repeat' (first | refine qgs ?_ | refine eD ?_ ?_ <;> intro)
   refine sC (CallsM.ren (hf) [0, 1, 2, 3, 4] 5 rfl rfl rfl rfl) ?_
   repeat' (first | refine qgs ?_ | refine eD ?_ ?_ <;> intro)
   exact ⟨rfl, TLe.rfl, rfl, rfl⟩
  ·rw [if_neg (by decide)] at hT
   by_cases hd : 32 ≤ st.dep
   ·rw [if_pos hd] at hT
    obtain rfl : { st with err := 8 } = st' := congrArg Prod.snd hT
    have hf := rfail_c (L := L) st 8 (by omega)
    rw [show failR 8 st = { st with err := 8 } from if_pos he] at hf
    refine fn_ruleM (C := ⟨Tryz.prog, layF, Tryz.f126.ntmps, ΓL, 5, [], []⟩) layF_ok mixed Tryz.func126 rfl (by kernel_rfl) rfl rfl rfl ?_
    repeat' (first | refine qgs ?_ | refine eD ?_ ?_ <;> intro)
    refine sC (CallsM.ren (hf) [0, 1, 2, 3, 4] 5 rfl rfl rfl rfl) ?_
    repeat' (first | refine qgs ?_ | refine eD ?_ ?_ <;> intro)
    exact ⟨rfl, TLe.rfl, rfl, rfl⟩
   ·rw [if_neg hd] at hT
    obtain rfl : { st with dep := st.dep + 1 } = st' := congrArg Prod.snd hT
    refine fn_ruleM (C := ⟨Tryz.prog, layF, Tryz.f126.ntmps, ΓL, 5, [], []⟩) layF_ok mixed Tryz.func126 rfl (by kernel_rfl) rfl rfl rfl ?_
    repeat' (first | refine qgs ?_ | refine eD ?_ ?_ <;> intro)
    exact ⟨rfl, TLe.rfl, rfl, rfl⟩
 ·rw [if_neg he] at hT
  obtain rfl : st = st' := congrArg Prod.snd hT
  refine fn_ruleM (C := ⟨Tryz.prog, layF, Tryz.f126.ntmps, ΓL, 5, [], []⟩) layF_ok mixed Tryz.func126 rfl (by kernel_rfl) rfl rfl rfl ?_
  repeat' (first | refine qgs ?_ | refine eD ?_ ?_ <;> intro)
  exact ⟨rfl, TLe.rfl, rfl, rfl⟩
theorem rroom_c (st : RSt) (n : Nat) (hn : n ≤ 1000000) : W0 L 24 [c1 (di n), c1 (di 64)] (roomR n) (fun _ => .tup []) st := fun v st' hT => by
 unfold roomR at hT
 by_cases h : 64 ≤ n
 ·rw [if_pos h] at hT
  obtain rfl : failR 10 st = st' := congrArg Prod.snd hT
  refine fn_ruleM (C := ⟨Tryz.prog, layF, Tryz.f24.ntmps, ΓL, 5, [], []⟩) layF_ok mixed Tryz.func24 rfl (by kernel_rfl) rfl rfl rfl ?_
  repeat' (first | refine qgs ?_ | refine eD ?_ ?_ <;> intro)
  refine sC (CallsM.ren ((rfail_c (L := L) st 10 (by omega))) [0, 1, 2, 3, 4] 5 rfl rfl rfl rfl) ?_
  repeat' (first | refine qgs ?_ | refine eD ?_ ?_ <;> intro)
  exact ⟨rfl, TLe.rfl, rfl, rfl⟩
 ·rw [if_neg h] at hT
  obtain rfl : st = st' := congrArg Prod.snd hT
  refine fn_ruleM (C := ⟨Tryz.prog, layF, Tryz.f24.ntmps, ΓL, 5, [], []⟩) layF_ok mixed Tryz.func24 rfl (by kernel_rfl) rfl rfl rfl ?_
  repeat' (first | refine qgs ?_ | refine eD ?_ ?_ <;> intro)
  exact ⟨rfl, TLe.rfl, rfl, rfl⟩
theorem rput_c (st : RSt) (x : EX) (hx : st.xs.length ≤ 1000000) : W1 L 97 [gD (exD x)] (putR x) (fun k => Ti k) st := fun v st' hT X hX => by
 subst hX
 obtain rfl : { st with xs := st.xs ++ [x] } = st' := congrArg Prod.snd hT
 obtain rfl : (st.xs.length : Int) = v := congrArg Prod.fst hT
 refine fn_ruleM (C := ⟨Tryz.prog, layF, Tryz.f97.ntmps, ΓL, 5, [], []⟩) layF_ok mixed Tryz.func97 rfl (by kernel_rfl) rfl rfl rfl ?_
 repeat' (first | refine qgs ?_ | refine eD ?_ ?_ <;> intro)
 refine ex_app (st.xs.length) (1) 1000 (by first | rfl | (simp; done) | (simp; omega)) (by first | rfl | (simp; done) | (simp; omega)) rfl (by omega) ?_
 refine ex_is (List.map exD (st.xs ++ [x])) (by rw [List.map_append]; rfl) ?_
 repeat' (first | refine aI ((st.xs.length : Nat) : Int) ?_ | refine aU ((st.xs.length : Nat) : Int) ?_ | refine aB ((st.xs.length : Nat) : Int) ?_ | refine (ex_is (st.xs.length + 1) (by simp)) ?_ | refine qg1 ?_ | refine eD ?_ ?_ <;> intro)
 exact ⟨rfl, TLe.rfl, rfl, rfl⟩
theorem rlay_c (st : RSt) (x : TY) (hx : st.ts.length ≤ 1000000) (T : List TY) (hT : st.ts = T) : CallsM Tryz.prog ΓL 93 [(0, Rz L st 1 2 3 4), (4, Tr T)] 5 [P0, gD (tyD x)] (Ti st.ts.length) [(0, Rz L st 1 2 3 5), (4, .dead)] [Tr (st.ts ++ [x])] := by
 subst hT
 refine fn_ruleM (C := ⟨Tryz.prog, layF, Tryz.f93.ntmps, ΓL, 5, [], []⟩) layF_ok mixed Tryz.func93 rfl (by kernel_rfl) rfl rfl rfl ?_
 repeat' (first | refine qgs ?_ | refine eD ?_ ?_ <;> intro)
 refine ex_app (st.ts.length) (1) 1000 (by first | rfl | (simp; done) | (simp; omega)) (by first | rfl | (simp; done) | (simp; omega)) rfl (by omega) ?_
 refine ex_is (List.map tyD (st.ts ++ [x])) (by rw [List.map_append]; rfl) ?_
 repeat' (first | refine aI ((st.ts.length : Nat) : Int) ?_ | refine aU ((st.ts.length : Nat) : Int) ?_ | refine aB ((st.ts.length : Nat) : Int) ?_ | refine (ex_is (st.ts.length + 1) (by simp)) ?_ | refine qg1 ?_ | refine eD ?_ ?_ <;> intro)
 exact ⟨rfl, TLe.rfl, rfl, rfl⟩
theorem rput0_c (st : RSt) (k n : Nat) (w : List UInt8) (hx : st.xs.length ≤ 1000000) (v : Int) (st' : RSt) (hT : putR ⟨k, [], n, w, []⟩ st = (v, st')) (X : List EX) (hX : st.xs = X) :
  CallsM Tryz.prog ΓL 97 [(0, Rz L st 1 2 3 4), (3, Xr X)] 5 [P0, gD [di k, ds ⟨#[]⟩, du n, ds (bs w), dnil]] (Ti v) [(0, Rz L st' 1 2 5 4), (3, .dead)] [Xr st'.xs] :=
 ((rput_c (L := L) st ⟨k, [], n, w, []⟩ hx) v st' hT X hX).argsLe (.cons T1Le.rfl (.cons (T1Le.g (.cons DLe.rfl (.cons DLe.rfl (.cons DLe.rfl (.cons DLe.rfl (.cons DLe.nil .nil)))))) .nil))
end
end Go.Proofs.YtoingpafcodojaaGreatDoor

namespace Go.Proofs.YtoingpafcodojaaGreatDoor
open Go.RowKit

section
variable {L : List TokP}
set_option maxHeartbeats 4000000 in
theorem roperand_c (st : RSt) (h : st.i < L.length) : CallsM Tryz.prog ΓL 125 [(0, Rz L st 1 2 3 4)] 5 [P0] (Tb (beginsV L st.i)) [(0, Rz L st 1 2 3 4)] [] := by
 have hk := tk_at h
 have h1 := ris_c st h t_bang
 have h2 := ris_c st h t_lpar
 have h3 := rnamed_c st h
 unfold beginsV
 generalize isV L st.i t_bang = a at *
 generalize isV L st.i t_lpar = b at *
 generalize namedV L st.i = c at *
 generalize tk L st.i = u at *
 by_cases h5 : a = false ∧ b = false ∧ c = false
 ·obtain ⟨rfl, rfl, rfl⟩ := h5
  by_cases h4 : u.k = 1
  ·rw [decide_eq_true h4]
   refine fn_ruleM (C := ⟨Tryz.prog, layF, Tryz.f125.ntmps, ΓL, 5, [], []⟩) layF_ok mixed Tryz.func125 rfl (by kernel_rfl) rfl rfl rfl ?_
   repeat' (first | refine qgs ?_ | refine eD ?_ ?_ <;> intro)
   refine sC (CallsM.ren (h3) [0, 1, 2, 3, 4] 5 rfl rfl rfl rfl) ?_
   repeat' (first | refine qgs ?_ | refine eD ?_ ?_ <;> intro)
   refine sC (CallsM.ren (h1) [0, 1, 2, 3, 4] 5 rfl rfl rfl rfl) ?_
   repeat' (first | refine qgs ?_ | refine eD ?_ ?_ <;> intro)
   refine sC (CallsM.ren (h2) [0, 1, 2, 3, 4] 5 rfl rfl rfl rfl) ?_
   repeat' (first | refine (ex_row st.i _ rfl hk) ?_ | refine qg1 ?_ | refine eD ?_ ?_ <;> intro)
   exact ⟨rfl, TLe.rfl, rfl, rfl⟩
  ·rw [decide_eq_false h4]
   refine fn_ruleM (C := ⟨Tryz.prog, layF, Tryz.f125.ntmps, ΓL, 5, [], []⟩) layF_ok mixed Tryz.func125 rfl (by kernel_rfl) rfl rfl rfl ?_
   repeat' (first | refine qgs ?_ | refine eD ?_ ?_ <;> intro)
   refine sC (CallsM.ren (h3) [0, 1, 2, 3, 4] 5 rfl rfl rfl rfl) ?_
   repeat' (first | refine qgs ?_ | refine eD ?_ ?_ <;> intro)
   refine sC (CallsM.ren (h1) [0, 1, 2, 3, 4] 5 rfl rfl rfl rfl) ?_
   repeat' (first | refine qgs ?_ | refine eD ?_ ?_ <;> intro)
   refine sC (CallsM.ren (h2) [0, 1, 2, 3, 4] 5 rfl rfl rfl rfl) ?_
   repeat' (first | refine (ex_row st.i _ rfl hk) ?_ | refine qg1 ?_ | refine eD ?_ ?_ <;> intro)
   exact ⟨rfl, TLe.rfl, rfl, rfl⟩
 ·generalize decide (u.k = 1) = d
  cases a <;> cases b <;> cases c
  ·exact absurd ⟨rfl, rfl, rfl⟩ h5
  all_goals
   refine fn_ruleM (C := ⟨Tryz.prog, layF, Tryz.f125.ntmps, ΓL, 5, [], []⟩) layF_ok mixed Tryz.func125 rfl (by kernel_rfl) rfl rfl rfl ?_
   repeat' (first | refine qgs ?_ | refine eD ?_ ?_ <;> intro)
   refine sC (CallsM.ren (h3) [0, 1, 2, 3, 4] 5 rfl rfl rfl rfl) ?_
   repeat' (first | refine qgs ?_ | refine eD ?_ ?_ <;> intro)
   refine sC (CallsM.ren (h1) [0, 1, 2, 3, 4] 5 rfl rfl rfl rfl) ?_
   repeat' (first | refine qgs ?_ | refine eD ?_ ?_ <;> intro)
   refine sC (CallsM.ren (h2) [0, 1, 2, 3, 4] 5 rfl rfl rfl rfl) ?_
   repeat' (first | refine (ex_row st.i _ rfl hk) ?_ | refine qg1 ?_ | refine eD ?_ ?_ <;> intro)
   exact ⟨rfl, TLe.rfl, rfl, rfl⟩
end
end Go.Proofs.YtoingpafcodojaaGreatDoor

namespace Go.Proofs.YtoingpafcodojaaGreatDoor
open Go.RowKit

theorem ex_rowE {α : Type} {f : α → List D} {l : List α} {n : Int} (i : Nat) (x : α) (r : List D) (hn : n = i) (hx : l[i]? = some x) (hr : f x = r) {K : List D → Prop} (h : K r) : ∃ r, 0 ≤ n ∧ (l.map f)[n.toNat]? = some r ∧ K r := by
 subst hr
 exact ex_row i x hn hx h
section
variable {L : List TokP}
set_option maxHeartbeats 4000000 in
theorem rtyped_c (st : RSt) (h : st.i < L.length) : CallsM Tryz.prog ΓL 90 [(0, Rz L st 1 2 3 4)] 5 [P0] (Tb (startsV L st.i)) [(0, Rz L st 1 2 3 4)] [] := by
 have hk := tk_at h
 have h3 := rnamed_c st h
 unfold startsV
 generalize namedV L st.i = c at *
 generalize tk L st.i = u at *
 cases c
 ·rw [Bool.false_or]
  by_cases h4 : u.k = 0
  ·rw [decide_eq_true h4, Bool.true_and]
   obtain ⟨uk, w, un, ul, uc⟩ := u
   obtain rfl : uk = 0 := h4
   show CallsM Tryz.prog ΓL 90 [(0, Rz L st 1 2 3 4)] 5 [P0] (Tb (typesL.contains w || (integerV w).isSome)) [(0, Rz L st 1 2 3 4)] []
   have hc := (rinteger_c w).gL
   by_cases hm : w ∈ typesL
   ·rw [List.contains_iff_mem.2 hm, Bool.true_or]
    have hz : integerV w = none := by
     have : (typesL.all fun w => (integerV w).isNone) = true := by decide +kernel
     simpa using List.all_eq_true.1 this w hm
    rw [hz] at hc
    have hc : CallsA Tryz.prog ΓL 68 [c1 (ds (bs w))] (.tup [c1 (di 0), c1 (db false)]) := hc
    have hrow : ∀ {K : List D → Prop} , K [di 0, ds (bs w), du un, di ul, di uc] → ∃ r, 0 ≤ (st.i : Int) ∧ (L.map tokD)[(st.i : Int).toNat]? = some r ∧ K r := fun h => ex_rowE st.i _ _ rfl hk rfl h
    simp only [typesL, List.mem_cons, List.not_mem_nil, or_false] at hm
    rcases hm with rfl | rfl | rfl | rfl | rfl | rfl | rfl | rfl | rfl
    all_goals
     refine fn_ruleM (C := ⟨Tryz.prog, layF, Tryz.f90.ntmps, ΓL, 5, [], []⟩) layF_ok mixed Tryz.func90 rfl (by kernel_rfl) rfl rfl rfl ?_
     repeat' (first | refine qgs ?_ | refine eD ?_ ?_ <;> intro)
     refine sC (CallsM.ren (h3) [0, 1, 2, 3, 4] 5 rfl rfl rfl rfl) ?_
     repeat' (first | refine ex_call hc ?_ | refine (hrow) ?_ | refine qg1 ?_ | refine eD ?_ ?_ <;> intro)
     exact ⟨rfl, TLe.rfl, rfl, rfl⟩
   ·have hne : ∀ l, l ∈ typesL → ¬ bs w = bs l := fun l hl he => hm (by rw [bsj.1 he]; exact hl)
    rw [show typesL.contains w = false by simpa using hm, Bool.false_or]
    rcases hv : integerV w with _ | ⟨n, l⟩ <;> rw [hv] at hc
    ·have hc : CallsA Tryz.prog ΓL 68 [c1 (ds (bs w))] (.tup [c1 (di 0), c1 (db false)]) := hc
     refine fn_ruleM (C := ⟨Tryz.prog, layF, Tryz.f90.ntmps, ΓL, 5, [], []⟩) layF_ok mixed Tryz.func90 rfl (by kernel_rfl) rfl rfl rfl ?_
     repeat' (first | refine qgs ?_ | refine eD ?_ ?_ <;> intro)
     refine sC (CallsM.ren (h3) [0, 1, 2, 3, 4] 5 rfl rfl rfl rfl) ?_
     repeat' (first | refine ex_call hc ?_ | refine ex_false (hne _ (by decide)) ?_ | refine (ex_rowE st.i _ [di 0, ds (bs w), du un, di ul, di uc] rfl hk rfl) ?_ | refine qg1 ?_ | refine eD ?_ ?_ <;> intro)
     exact ⟨rfl, TLe.rfl, rfl, rfl⟩
    ·have hc : CallsA Tryz.prog ΓL 68 [c1 (ds (bs w))] (.tup [c1 (di n), c1 (db l)]) := hc
     have hn := int_pos hv
     refine fn_ruleM (C := ⟨Tryz.prog, layF, Tryz.f90.ntmps, ΓL, 5, [], []⟩) layF_ok mixed Tryz.func90 rfl (by kernel_rfl) rfl rfl rfl ?_
     repeat' (first | refine qgs ?_ | refine eD ?_ ?_ <;> intro)
     refine sC (CallsM.ren (h3) [0, 1, 2, 3, 4] 5 rfl rfl rfl rfl) ?_
     repeat' (first | refine ex_call hc ?_ | refine ex_false (hne _ (by decide)) ?_ | refine (ex_rowE st.i _ [di 0, ds (bs w), du un, di ul, di uc] rfl hk rfl) ?_ | refine qg1 ?_ | refine eD ?_ ?_ <;> intro)
     exact ⟨rfl, TLe.rfl, rfl, rfl⟩
  ·rw [decide_eq_false h4, Bool.false_and]
   refine fn_ruleM (C := ⟨Tryz.prog, layF, Tryz.f90.ntmps, ΓL, 5, [], []⟩) layF_ok mixed Tryz.func90 rfl (by kernel_rfl) rfl rfl rfl ?_
   repeat' (first | refine qgs ?_ | refine eD ?_ ?_ <;> intro)
   refine sC (CallsM.ren (h3) [0, 1, 2, 3, 4] 5 rfl rfl rfl rfl) ?_
   repeat' (first | refine (ex_row st.i _ rfl hk) ?_ | refine qg1 ?_ | refine eD ?_ ?_ <;> intro)
   exact ⟨rfl, TLe.rfl, rfl, rfl⟩
 ·rw [Bool.true_or]
  refine fn_ruleM (C := ⟨Tryz.prog, layF, Tryz.f90.ntmps, ΓL, 5, [], []⟩) layF_ok mixed Tryz.func90 rfl (by kernel_rfl) rfl rfl rfl ?_
  repeat' (first | refine qgs ?_ | refine eD ?_ ?_ <;> intro)
  refine sC (CallsM.ren (h3) [0, 1, 2, 3, 4] 5 rfl rfl rfl rfl) ?_
  repeat' (first | refine qgs ?_ | refine eD ?_ ?_ <;> intro)
  exact ⟨rfl, TLe.rfl, rfl, rfl⟩
end
end Go.Proofs.YtoingpafcodojaaGreatDoor

namespace Go.Proofs.YtoingpafcodojaaGreatDoor
open Go.RowKit

section
variable {L : List TokP} {m : Nat}
section
variable {α β : Type} {p : Nat → Bool} {x y : RM α} {f : α → RM β} {st st1 st2 : RSt}
theorem atRy {T : α × RSt} (hT : atR p x y st = T) (h : p st.i = true) : x st = T := (if_pos h).symm.trans hT
theorem atRn {T : α × RSt} (hT : atR p x y st = T) (h : p st.i = false) : y st = T := (if_neg (by rw [h]; decide)).symm.trans hT
theorem atRyB {T : β × RSt} (hT : (atR p x y >>= f) st = T) (h : p st.i = true) : (x >>= f) st = T := by
 rw [← hT]
 show RM.and _ _ _ = RM.and _ _ _
 unfold RM.and atR
 rw [if_pos h]
theorem atRnB {T : β × RSt} (hT : (atR p x y >>= f) st = T) (h : p st.i = false) : (y >>= f) st = T := by
 rw [← hT]
 show RM.and _ _ _ = RM.and _ _ _
 unfold RM.and atR
 rw [if_neg (by rw [h]; decide)]
theorem gdRy {v : α} {T : α × RSt} (hT : guardR v x st = T) (h : st.err = 0) : x st = T := (if_pos h).symm.trans hT
theorem gdRn {v : α} {T : α × RSt} (hT : guardR v x st = T) (h : st.err ≠ 0) : (v, st) = T := (if_neg h).symm.trans hT
theorem gdRyB {v : α} {T : β × RSt} (hT : (guardR v x >>= f) st = T) (h : st.err = 0) : (x >>= f) st = T := by
 rw [← hT]
 show RM.and _ _ _ = RM.and _ _ _
 unfold RM.and guardR
 rw [if_pos h]
theorem gdRnB {v : α} {T : β × RSt} (hT : (guardR v x >>= f) st = T) (h : st.err ≠ 0) : f v st = T := by
 rw [← hT]
 show _ = RM.and _ _ _
 unfold RM.and guardR
 rw [if_neg h]
theorem deep_eq {u : Unit} {k : α} (h1 : enterR (p st.i) st = (u, st1)) (h2 : x st1 = (k, st2)) : deepR p x st = (k, { st2 with dep := st2.dep - 1 }) := by
 unfold deepR
 show ((x (enterR (p st.i) st).2).1, { (x (enterR (p st.i) st).2).2 with dep := (x (enterR (p st.i) st).2).2.dep - 1 }) = _
 rw [h1]
 dsimp only
 rw [h2]
end
theorem Gd.fresh {q b : Nat} {st : RSt} (h : Gd L m q b st) (he : st.err = 0) (b' : Nat) : Gd L m q b' st := by
 have h1 := gd_emb (m := m) (b := b') (h.ok he)
 rwa [← h.emb he] at h1
theorem Gd.enter {q b : Nat} {st st1 : RSt} {u : Unit} {may : Bool} (h : Gd L m q b st) (hx : enterR may st = (u, st1)) : (∃ m', m = m' + 1 ∧ Gd L m' q (b + 1) st1) ∨ (st1.err ≠ 0 ∧ st1.i = st.i ∧ st1.xs = st.xs ∧ st1.ts = st.ts ∧ st1.dep = st.dep ∧ st1.err ≤ 10) := by
 unfold enterR guardR at hx
 by_cases he : st.err = 0
 ·rw [if_pos he] at hx
  dsimp only at hx
  by_cases hm : may = false
  ·rw [if_pos hm] at hx
   obtain rfl := congrArg Prod.snd hx
   exact .inr ⟨by show (4 : Nat) ≠ 0; decide, rfl, rfl, rfl, rfl, by show 4 ≤ 10; decide⟩
  ·rw [if_neg hm] at hx
   by_cases hd : 32 ≤ st.dep
   ·rw [if_pos hd] at hx
    obtain rfl := congrArg Prod.snd hx
    exact .inr ⟨by show (8 : Nat) ≠ 0; decide, rfl, rfl, rfl, rfl, by show 8 ≤ 10; decide⟩
   ·rw [if_neg hd] at hx
    obtain rfl := congrArg Prod.snd hx
    have h1 := h.dep he
    refine .inl ⟨m - 1, by omega, ?_⟩
    exact ⟨h.i, by have := h.x; show st.xs.length ≤ _; omega, by have := h.t; show st.ts.length ≤ _; omega, by have := h.d1; show _ ≤ st.dep + 1; omega, by show st.dep + 1 ≤ _; omega, h.e, fun _ => by show st.dep + 1 = _; omega, fun _ => h.ok he⟩
 ·rw [if_neg he] at hx
  obtain rfl : st = st1 := congrArg Prod.snd hx
  exact .inr ⟨he, rfl, rfl, rfl, rfl, h.e⟩
theorem startR1 {st : RSt} : SLe 5 ⟨argTm 0 [P0], [(3, .dead), (0, Rz L st 1 2 5 4), (5, Xr st.xs)], 6⟩ ⟨argTm 0 [P0], [(0, Rz L st 1 2 3 4), (3, Xr st.xs)], 5⟩ :=
 SLe.kill (nx := 6) 3 (sR [(0, 0), (1, 1), (2, 2), (3, 5), (4, 4)])
theorem startR1i {st : RSt} {n : Int} : SLe 5 ⟨argTm 0 [P0, c1 (di n)], [(3, .dead), (0, Rz L st 1 2 5 4), (5, Xr st.xs)], 6⟩ ⟨argTm 0 [P0, c1 (di n)], [(0, Rz L st 1 2 3 4), (3, Xr st.xs)], 5⟩ :=
 SLe.kill (nx := 6) 3 (sR [(0, 0), (1, 1), (2, 2), (3, 5), (4, 4)])
theorem runary_err {y : RM Int} {st : RSt} (he : st.err ≠ 0) (h10 : st.err ≤ 10) (hy : y st = (0, st)) : W1 L 95 [] y (fun k => Ti k) st := fun v st' hT X hX => by
 subst hX
 rw [hy] at hT
 obtain rfl : (0 : Int) = v := congrArg Prod.fst hT
 obtain rfl : st = st' := congrArg Prod.snd hT
 refine fn_ruleP (C := ⟨Tryz.prog, layF, Tryz.f95.ntmps, ΓL, 5, [], []⟩) layF_ok mixed Tryz.func95 rfl (by kernel_rfl) rfl rfl rfl startR1 ?_
 repeat' (first | refine qgs ?_ | refine eD ?_ ?_ <;> intro)
 exact ⟨rfl, TLe.rfl, rfl, rfl⟩
theorem rexpr_err {y : RM Int} {st : RSt} {n : Int} (he : st.err ≠ 0) (h10 : st.err ≤ 10) (hy : y st = (0, st)) : W1 L 71 [c1 (di n)] y (fun k => Ti k) st := fun v st' hT X hX => by
 subst hX
 rw [hy] at hT
 obtain rfl : (0 : Int) = v := congrArg Prod.fst hT
 obtain rfl : st = st' := congrArg Prod.snd hT
 refine fn_ruleP (C := ⟨Tryz.prog, layF, Tryz.f71.ntmps, ΓL, 5, [], []⟩) layF_ok mixed Tryz.func71 rfl (by kernel_rfl) rfl rfl rfl startR1i ?_
 repeat' (first | refine qgs ?_ | refine eD ?_ ?_ <;> intro)
 exact ⟨rfl, TLe.rfl, rfl, rfl⟩
set_option maxHeartbeats 4000000 in
theorem runary_step (hL : TokOk L) (hn : L.length ≤ 100000) (hm : m ≤ 32) {un ex : RM Int} {un0 ex0 : PM Int} (s1 : ∀ m', m = m' + 1 → Sim L m' un0 un 0 0 400 0) (s2 : ∀ m', m = m' + 1 → Sim L m' ex0 ex 0 0 400 0)
  (b1 : ∀ st, st.err ≠ 0 → un st = (0, st)) (b2 : ∀ st, st.err ≠ 0 → ex st = (0, st))
  (h1 : ∀ m', m = m' + 1 → ∀ st, Gd L m' 0 1000 st → W1 L 95 [] un (fun k => Ti k) st)
  (h2 : ∀ m', m = m' + 1 → ∀ st, Gd L m' 0 1000 st → W1 L 71 [c1 (di 1)] ex (fun k => Ti k) st) (st : RSt) (hg : Gd L m 0 1000 st) : W1 L 95 [] (unR L un ex) (fun k => Ti k) st := fun v st' hT X hX => by
 subst hX
 have kx_st : st.xs = st.xs := rfl
 have kt_st : st.ts = st.ts := rfl
 have hi := hg.i
 have hxb := hg.x
 have h10 := hg.e
 by_cases he : st.err = 0
 ·replace hT := gdRy hT he
  have hg0 := hg.fresh he 400
  have i1 := ris_c st hi t_bang
  rcases hv : isV L st.i t_bang with _ | _ <;> rw [hv] at i1
  ·replace hT := atRn hT hv
   have i2 := ris_c st hi t_lpar
   rcases hv2 : isV L st.i t_lpar with _ | _ <;> rw [hv2] at i2
   ·replace hT := atRn hT hv2
    have i3 := rnamed_c st hi
    rcases hv3 : namedV L st.i with _ | _ <;> rw [hv3] at i3
    ·replace hT := atRn hT hv3
     refine fn_ruleP (C := ⟨Tryz.prog, layF, Tryz.f95.ntmps, ΓL, 5, [], []⟩) layF_ok mixed Tryz.func95 rfl (by kernel_rfl) rfl rfl rfl startR1 ?_
     repeat' (first | refine qgs ?_ | refine eD ?_ ?_ <;> intro)
     refine sC (CallsM.ren (i1) [0, 1, 2, 5, 4] 6 rfl rfl rfl rfl) ?_
     repeat' (first | refine qgs ?_ | refine eD ?_ ?_ <;> intro)
     refine sC (CallsM.ren (i2) [0, 1, 2, 5, 4] 6 rfl rfl rfl rfl) ?_
     repeat' (first | refine qgs ?_ | refine eD ?_ ?_ <;> intro)
     refine sC (CallsM.ren (i3) [0, 1, 2, 5, 4] 6 rfl rfl rfl rfl) ?_
     repeat' (first | refine qgs ?_ | refine eD ?_ ?_ <;> intro)
     rcases hx : (numberR L) (st) with ⟨n, st1⟩
     replace hT := (rand hx).symm.trans hT
     refine sC (CallsM.ren ((rnum_c st hi hn) _ _ hx) [0, 1, 2, 5, 4] 6 rfl rfl rfl rfl) ?_
     have kx_st1 := (keep_num hx).1.trans kx_st
     have kt_st1 := (keep_num hx).2.trans kt_st
     have hg1 := (Sim.number (m := m) hL 0).gd hg0 (by omega) hx
     have hx1 := hg1.x
     repeat' (first | refine qgs ?_ | refine eD ?_ ?_ <;> intro)
     refine sC (CallsM.ren ((rput0_c st1 0 n [] (by omega) _ _ hT _ kx_st1)) [0, 1, 2, 5, 4] 6 rfl rfl rfl rfl) ?_
     repeat' (first | refine qgs ?_ | refine eD ?_ ?_ <;> intro)
     exact ⟨rfl, TLe.rfl, rfl, rfl⟩
    ·replace hT := atRy hT hv3
     refine fn_ruleP (C := ⟨Tryz.prog, layF, Tryz.f95.ntmps, ΓL, 5, [], []⟩) layF_ok mixed Tryz.func95 rfl (by kernel_rfl) rfl rfl rfl startR1 ?_
     repeat' (first | refine qgs ?_ | refine eD ?_ ?_ <;> intro)
     refine sC (CallsM.ren (i1) [0, 1, 2, 5, 4] 6 rfl rfl rfl rfl) ?_
     repeat' (first | refine qgs ?_ | refine eD ?_ ?_ <;> intro)
     refine sC (CallsM.ren (i2) [0, 1, 2, 5, 4] 6 rfl rfl rfl rfl) ?_
     repeat' (first | refine qgs ?_ | refine eD ?_ ?_ <;> intro)
     refine sC (CallsM.ren (i3) [0, 1, 2, 5, 4] 6 rfl rfl rfl rfl) ?_
     repeat' (first | refine qgs ?_ | refine eD ?_ ?_ <;> intro)
     rcases hx : (nameR L) (st) with ⟨w, st1⟩
     replace hT := (rand hx).symm.trans hT
     refine sC (CallsM.ren ((rname_c st hi hn) _ _ hx) [0, 1, 2, 5, 4] 6 rfl rfl rfl rfl) ?_
     have kx_st1 := (keep_name hx).1.trans kx_st
     have kt_st1 := (keep_name hx).2.trans kt_st
     have hg1 := (Sim.name (m := m) hL 0).gd hg0 (by omega) hx
     have hx1 := hg1.x
     repeat' (first | refine qgs ?_ | refine eD ?_ ?_ <;> intro)
     refine sC (CallsM.ren ((rput0_c st1 1 0 w (by omega) _ _ hT _ kx_st1)) [0, 1, 2, 5, 4] 6 rfl rfl rfl rfl) ?_
     repeat' (first | refine qgs ?_ | refine eD ?_ ?_ <;> intro)
     exact ⟨rfl, TLe.rfl, rfl, rfl⟩
   ·replace hT := atRy hT hv2
    refine fn_ruleP (C := ⟨Tryz.prog, layF, Tryz.f95.ntmps, ΓL, 5, [], []⟩) layF_ok mixed Tryz.func95 rfl (by kernel_rfl) rfl rfl rfl startR1 ?_
    repeat' (first | refine qgs ?_ | refine eD ?_ ?_ <;> intro)
    refine sC (CallsM.ren (i1) [0, 1, 2, 5, 4] 6 rfl rfl rfl rfl) ?_
    repeat' (first | refine qgs ?_ | refine eD ?_ ?_ <;> intro)
    refine sC (CallsM.ren (i2) [0, 1, 2, 5, 4] 6 rfl rfl rfl rfl) ?_
    repeat' (first | refine qgs ?_ | refine eD ?_ ?_ <;> intro)
    rcases hx : (takeR L t_lpar) (st) with ⟨_, st1⟩
    replace hT := (rand hx).symm.trans hT
    refine sC (CallsM.ren ((rtake_c st hi hn t_lpar) _ _ hx) [0, 1, 2, 5, 4] 6 rfl rfl rfl rfl) ?_
    have kx_st1 := (keep_take hx).1.trans kx_st
    have kt_st1 := (keep_take hx).2.trans kt_st
    have hg1 := (Sim.take (m := m) hL t_lpar 0).gd hg0 (by omega) hx
    rcases hent : enterR (beginsV L st1.i) st1 with ⟨u, st2⟩
    rcases hun : ex st2 with ⟨k, st3⟩
    have hde := deep_eq (p := (beginsV L ·)) hent hun
    have hg4 := (Sim.deep (m := m) (p := (beginsV L ·)) (x := ex0) (y := ex) (a := 1) (b := 1) (c := 400) (fun m' e => (s2 m' e).less 1 (by omega) (by omega)) (fun s hs => by rw [b2 s hs]; exact Stay.rfl) (fun _ => Nat.le_refl _) (by omega)).gd hg1 (by omega) hde
    have hin : W1 L 71 [c1 (di 1)] ex (fun k => Ti k) st2 := by
     rcases hg1.enter hent with ⟨m', e, hg2⟩ | ⟨e1, e2, e3, e4, e5, e6⟩
     ·exact h2 m' e st2 (hg2.le (by omega) (by omega))
     ·exact rexpr_err e1 e6 (b2 st2 e1)
    replace hT := (rand hde).symm.trans hT
    have hd1 := hg1.d1
    have hd2 := hg1.d2
    have hd4 := hg4.d1
    have hd5 := hg4.d2
    have hd4 : 32 - (m : Int) - ((401 : Nat) : Int) ≤ st3.dep - 1 := hd4
    have hd5 : st3.dep - 1 ≤ 32 - (m : Int) := hd5
    repeat' (first | refine qgs ?_ | refine eD ?_ ?_ <;> intro)
    refine sC (CallsM.ren ((roperand_c st1 hg1.i)) [0, 1, 2, 5, 4] 6 rfl rfl rfl rfl) ?_
    repeat' (first | refine qgs ?_ | refine eD ?_ ?_ <;> intro)
    refine sC (CallsM.ren ((renter_c (L := L) st1 (by omega) (by omega) _ _ _ hent)) [0, 1, 2, 5, 4] 6 rfl rfl rfl rfl) ?_
    repeat' (first | refine qgs ?_ | refine eD ?_ ?_ <;> intro)
    refine sC (CallsM.ren ((hin _ _ hun _ ((keep_enter hent).1.trans kx_st1))) [0, 1, 2, 5, 4] 6 rfl rfl rfl rfl) ?_
    repeat' (first | refine qgs ?_ | refine eD ?_ ?_ <;> intro)
    rcases hx4 : (takeR L t_rpar) ({ st3 with dep := st3.dep - 1 }) with ⟨_, st5⟩
    replace hT := (rand hx4).symm.trans hT
    refine sC (CallsM.ren ((rtake_c { st3 with dep := st3.dep - 1 } hg4.i hn t_rpar) _ _ hx4) [0, 1, 2, 6, 4] 7 rfl rfl rfl rfl) ?_
    have kx_st5 := (keep_take hx4).1.trans rfl
    have kt_st5 := (keep_take hx4).2.trans rfl
    obtain rfl : st5 = st' := congrArg Prod.snd hT
    obtain rfl : k = v := congrArg Prod.fst hT
    repeat' (first | refine qgs ?_ | refine eD ?_ ?_ <;> intro)
    rw [kx_st5]
    exact ⟨rfl, TLe.rfl, rfl, rfl⟩
  ·replace hT := atRy hT hv
   refine fn_ruleP (C := ⟨Tryz.prog, layF, Tryz.f95.ntmps, ΓL, 5, [], []⟩) layF_ok mixed Tryz.func95 rfl (by kernel_rfl) rfl rfl rfl startR1 ?_
   repeat' (first | refine qgs ?_ | refine eD ?_ ?_ <;> intro)
   refine sC (CallsM.ren (i1) [0, 1, 2, 5, 4] 6 rfl rfl rfl rfl) ?_
   repeat' (first | refine qgs ?_ | refine eD ?_ ?_ <;> intro)
   rcases hx : (takeR L t_bang) (st) with ⟨_, st1⟩
   replace hT := (rand hx).symm.trans hT
   refine sC (CallsM.ren ((rtake_c st hi hn t_bang) _ _ hx) [0, 1, 2, 5, 4] 6 rfl rfl rfl rfl) ?_
   have kx_st1 := (keep_take hx).1.trans kx_st
   have kt_st1 := (keep_take hx).2.trans kt_st
   have hg1 := (Sim.take (m := m) hL t_bang 0).gd hg0 (by omega) hx
   rcases hent : enterR (beginsV L st1.i) st1 with ⟨u, st2⟩
   rcases hun : un st2 with ⟨k, st3⟩
   have hde := deep_eq (p := (beginsV L ·)) hent hun
   have hg4 := (Sim.deep (m := m) (p := (beginsV L ·)) (x := un0) (y := un) (a := 1) (b := 1) (c := 400) (fun m' e => (s1 m' e).less 1 (by omega) (by omega)) (fun s hs => by rw [b1 s hs]; exact Stay.rfl) (fun _ => Nat.le_refl _) (by omega)).gd hg1 (by omega) hde
   have hin : W1 L 95 [] un (fun k => Ti k) st2 := by
    rcases hg1.enter hent with ⟨m', e, hg2⟩ | ⟨e1, e2, e3, e4, e5, e6⟩
    ·exact h1 m' e st2 (hg2.le (by omega) (by omega))
    ·exact runary_err e1 e6 (b1 st2 e1)
   replace hT := (rand hde).symm.trans hT
   have hd1 := hg1.d1
   have hd2 := hg1.d2
   have hd4 := hg4.d1
   have hd5 := hg4.d2
   have hd4 : 32 - (m : Int) - ((401 : Nat) : Int) ≤ st3.dep - 1 := hd4
   have hd5 : st3.dep - 1 ≤ 32 - (m : Int) := hd5
   have hx4 := hg4.x
   repeat' (first | refine qgs ?_ | refine eD ?_ ?_ <;> intro)
   refine sC (CallsM.ren ((roperand_c st1 hg1.i)) [0, 1, 2, 5, 4] 6 rfl rfl rfl rfl) ?_
   repeat' (first | refine qgs ?_ | refine eD ?_ ?_ <;> intro)
   refine sC (CallsM.ren ((renter_c (L := L) st1 (by omega) (by omega) _ _ _ hent)) [0, 1, 2, 5, 4] 6 rfl rfl rfl rfl) ?_
   repeat' (first | refine qgs ?_ | refine eD ?_ ?_ <;> intro)
   refine sC (CallsM.ren ((hin _ _ hun _ ((keep_enter hent).1.trans kx_st1))) [0, 1, 2, 5, 4] 6 rfl rfl rfl rfl) ?_
   repeat' (first | refine qgs ?_ | refine eD ?_ ?_ <;> intro)
   refine sC (CallsM.ren (((rput_c (L := L) { st3 with dep := st3.dep - 1 } ⟨2, [], 0, [], [k]⟩ (by omega)) _ _ hT _ rfl)) [0, 1, 2, 6, 4] 8 rfl rfl rfl rfl) ?_
   repeat' (first | refine qgs ?_ | refine eD ?_ ?_ <;> intro)
   exact ⟨rfl, TLe.rfl, rfl, rfl⟩
 ·exact runary_err he h10 ((if_neg he)) v st' hT _ rfl
end
end Go.Proofs.YtoingpafcodojaaGreatDoor

namespace Go.Proofs.YtoingpafcodojaaGreatDoor
open Go.RowKit

section
variable {L : List TokP} {m : Nat}
theorem Gd.step (hL : TokOk L) {q b : Nat} {st : RSt} (h : Gd L m q b st) (he : st.err = 0) (hk : (tk L st.i).k ≠ 3) (b' : Nat) : Gd L m (q + 1) b' { st with i := st.i + 1 } := by
 have h1 := gd_emb (m := m) (b := b') (stepP_ok hL (h.ok he) hk)
 have h2 := h.emb he
 obtain ⟨i, dep, err, xs, ts⟩ := st
 obtain rfl : err = 0 := he
 have h3 := h.dep rfl
 obtain rfl : dep = 32 - (m : Int) := h3
 exact h1
theorem Sim.grow {α : Type} {x : PM α} {y : RM α} {a a' c d b : Nat} (h : Sim L m x y a a' c d) {st st' : RSt} {v : α} (hg : Gd L m a b st) (hx : y st = (v, st')) (he : st'.err = 0) : st.err = 0 ∧ st.i ≤ st'.i := by
 by_cases h0 : st.err = 0
 ·have hs := hg.ok h0
  have h1 := h.ok 0 _ (by rw [Nat.zero_add]; exact hs)
  have hu := h.up _ 0 (by rw [Nat.zero_add]; exact hs)
  rw [← hg.emb h0] at h1
  revert h1 hu
  cases x ⟨st.i, st.xs, st.ts⟩ with
  | ok w t =>
   intro h1 hu
   dsimp only at h1 hu
   rw [hx] at h1
   cases h1
   exact ⟨h0, hu.2⟩
  | err i e =>
   intro h1 hu
   dsimp only at h1 hu
   rw [hx] at h1
   have h1 : Bad L m c i e st' := h1
   rw [h1.e] at he
   omega
 ·have h1 := h.bad st h0
  rw [hx] at h1
  have h1 : Stay d st st' := h1
  exact absurd (h1.e.symm.trans he) h0
theorem lineNR_err {lv : Nat} {x : RM Int} {s : RSt} (h : s.err ≠ 0) (n : Nat) (left : Int) : lineNR L lv x n left s = (left, s) := by
 cases n with
 | zero => rfl
 | succ n => exact if_neg h
set_option maxHeartbeats 4000000 in
theorem rline_step (hL : TokOk L) (hn : L.length ≤ 100000) (hm : m ≤ 32) (j : Nat) (hj : j ≤ 7) {x : RM Int} {x0 : PM Int} (sx : Sim L m x0 x 0 0 400 0) (hc : ∀ st, Gd L m 0 1000 st → W1 L 71 [c1 (di (9 - (j : Int)))] x (fun k => Ti k) st)
  (st : RSt) (hg : Gd L m 0 1000 st) : W1 L 71 [c1 (di (9 - ((j + 1 : Nat) : Int)))] (guardR 0 (x >>= fun left => fun s => lineNR L (8 - j) x (L.length - s.i + 1) left s)) (fun k => Ti k) st := fun v st' hT X hX => by
 subst hX
 have kx_st : st.xs = st.xs := rfl
 have kt_st : st.ts = st.ts := rfl
 have h10 := hg.e
 by_cases he : st.err = 0
 ·replace hT := gdRy hT he
  refine fn_ruleP (C := ⟨Tryz.prog, layF, Tryz.f71.ntmps, ΓL, 5, [], []⟩) layF_ok mixed Tryz.func71 rfl (by kernel_rfl) rfl rfl rfl startR1i ?_
  repeat' (first | refine aI (9 - (j : Int)) ?_ | refine aU (9 - (j : Int)) ?_ | refine aB (9 - (j : Int)) ?_ | refine qg1 ?_ | refine eD ?_ ?_ <;> intro)
  rcases hx1 : (x) (st) with ⟨left, st1⟩
  replace hT := (rand hx1).symm.trans hT
  refine sC (CallsM.ren ((hc st hg) _ _ hx1 _ kx_st) [0, 1, 2, 5, 4] 6 rfl rfl rfl rfl) ?_
  have kx_st1 : st1.xs = st1.xs := rfl
  skip
  have hg1 := sx.gd (hg.fresh he 400) (by omega) hx1
  have hi1 := hg1.i
  repeat' (first | refine qgs ?_ | refine eD ?_ ?_ <;> intro)
  refine ex_loop (X := RSt × Int × Nat) (fun ⟨s, left, _⟩ => ⟨[(0, .o P0), (1, Ti (9 - ((j + 1 : Nat) : Int))), (5, Ti left)], [(0, Rz L s 1 2 6 4), (3, .dead), (5, .dead), (6, Xr s.xs)], 7⟩) (fun y => y.2.2)
   (fun ⟨s, left, n⟩ => Gd L m 0 500 s ∧ (s.err = 0 → L.length < s.i + n) ∧ lineNR L (8 - j) x n left s = (v, st')) (st1, left, L.length - st1.i + 1) ⟨hg1.le (by omega) (by omega), fun _ => by omega, hT⟩ sS ?_
  clear hT hx1 hg1 hi1 kx_st1
  rintro ⟨s, left, n⟩ ⟨hs, hf, hT⟩
  have hi := hs.i
  have hse10 := hs.e
  by_cases hse : s.err = 0
  ·have hf := hf hse
   cases n with
   | zero => omega
   | succ n =>
    replace hT := gdRy hT hse
    have hk := tk_at hi
    by_cases h2 : (tk L s.i).k = 2
    ·have hlv := (rlevel_c (tk L s.i).t).gL
     by_cases h3 : levelV (tk L s.i).t = 8 - j
     ·have ho : opAt L (8 - j) s.i = true := by unfold opAt; rw [decide_eq_true h2, decide_eq_true h3]; rfl
      have hgs := hs.step hL hse (by omega) 400
      replace hT := atRy hT ho
      replace hT : (x >>= fun right => putR ⟨3, (tk L s.i).t, 0, [], [left, right]⟩ >>= fun k => lineNR L (8 - j) x n k) { s with i := s.i + 1 } = (v, st') := hT
      generalize tk L s.i = u at *
      repeat' (first | refine ex_call hlv ?_ | refine aI (9 - (j : Int)) ?_ | refine aU (9 - (j : Int)) ?_ | refine aB (9 - (j : Int)) ?_ | refine aI ((s.i + 1 : Nat) : Int) ?_ | refine aU ((s.i + 1 : Nat) : Int) ?_ | refine aB ((s.i + 1 : Nat) : Int) ?_ | refine (ex_row s.i u rfl hk) ?_ | refine qg1 ?_ | refine eD ?_ ?_ <;> intro)
      rcases hx2 : (x) ({ s with i := s.i + 1 }) with ⟨right, s2⟩
      replace hT := (rand hx2).symm.trans hT
      refine sC (CallsM.ren ((hc { s with i := s.i + 1 } (hgs.le (by omega) (by omega))) _ _ hx2 _ rfl) [0, 1, 2, 6, 4] 7 rfl rfl rfl rfl) ?_
      have kx_s2 : s2.xs = s2.xs := rfl
      skip
      have hg2 := (sx.less (a' := 1) (b' := 1) 1 (by omega) (by omega)).gd hgs (by omega) hx2
      have hx2l := hg2.x
      have hgr := (sx.less (a' := 1) (b' := 1) 1 (by omega) (by omega)).grow hgs hx2
      repeat' (first | refine qgs ?_ | refine eD ?_ ?_ <;> intro)
      replace hT : lineNR L (8 - j) x n s2.xs.length { s2 with xs := s2.xs ++ [⟨3, u.t, 0, [], [left, right]⟩] } = (v, st') := hT
      refine sC (CallsM.ren (((rput_c (L := L) s2 ⟨3, u.t, 0, [], [left, right]⟩ (by omega)) _ _ rfl _ kx_s2)) [0, 1, 2, 7, 4] 9 rfl rfl rfl rfl) ?_
      repeat' (first | refine qgs ?_ | refine eD ?_ ?_ <;> intro)
      have hg3 := (Sim.put (L := L) (m := m) ⟨3, u.t, 0, [], [left, right]⟩ 0).gd hg2 (by omega) rfl
      exact ex_round ({ s2 with xs := s2.xs ++ [⟨3, u.t, 0, [], [left, right]⟩] }, (s2.xs.length : Int), n) ⟨hg3.le (by omega) (by omega), fun h0 => by
       have h9 : s.i + 1 ≤ s2.i := (hgr h0).2
       show L.length < s2.i + n
       omega, hT⟩ (by show n < n + 1; omega) (sR [(0, 0), (1, 1), (2, 2), (3, 3), (4, 4), (5, 5), (9, 6)])
     ·have ho : opAt L (8 - j) s.i = false := by unfold opAt; rw [decide_eq_false h3]; simp
      replace hT := atRn hT ho
      obtain rfl : left = v := congrArg Prod.fst hT
      obtain rfl : s = st' := congrArg Prod.snd hT
      generalize tk L s.i = u at *
      repeat' (first | refine ex_call hlv ?_ | refine (ex_row s.i u rfl hk) ?_ | refine qg1 ?_ | refine eD ?_ ?_ <;> intro)
      exact ⟨rfl, TLe.rfl, rfl, rfl⟩
    ·have hlv := (rlevel_c (tk L s.i).t).gL
     have ho : opAt L (8 - j) s.i = false := by unfold opAt; rw [decide_eq_false h2]; rfl
     replace hT := atRn hT ho
     obtain rfl : left = v := congrArg Prod.fst hT
     obtain rfl : s = st' := congrArg Prod.snd hT
     generalize tk L s.i = u at *
     repeat' (first | refine ex_call hlv ?_ | refine (ex_row s.i u rfl hk) ?_ | refine qg1 ?_ | refine eD ?_ ?_ <;> intro)
     exact ⟨rfl, TLe.rfl, rfl, rfl⟩
  ·rw [lineNR_err hse] at hT
   obtain rfl : left = v := congrArg Prod.fst hT
   obtain rfl : s = st' := congrArg Prod.snd hT
   repeat' (first | refine qgs ?_ | refine eD ?_ ?_ <;> intro)
   exact ⟨rfl, TLe.rfl, rfl, rfl⟩
 ·exact rexpr_err he h10 (if_neg he) v st' hT _ rfl
theorem rline0_c {un : RM Int} (st : RSt) (hg : Gd L m 0 1000 st) (hc : W1 L 95 [] un (fun k => Ti k) st) : W1 L 71 [c1 (di (9 - ((0 : Nat) : Int)))] (guardR 0 un) (fun k => Ti k) st := fun v st' hT X hX => by
 subst hX
 have kx_st : st.xs = st.xs := rfl
 by_cases he : st.err = 0
 ·replace hT := gdRy hT he
  refine fn_ruleP (C := ⟨Tryz.prog, layF, Tryz.f71.ntmps, ΓL, 5, [], []⟩) layF_ok mixed Tryz.func71 rfl (by kernel_rfl) rfl rfl rfl startR1i ?_
  repeat' (first | refine qgs ?_ | refine eD ?_ ?_ <;> intro)
  refine sC (CallsM.ren ((hc) _ _ hT _ kx_st) [0, 1, 2, 5, 4] 6 rfl rfl rfl rfl) ?_
  repeat' (first | refine qgs ?_ | refine eD ?_ ?_ <;> intro)
  exact ⟨rfl, TLe.rfl, rfl, rfl⟩
 ·exact rexpr_err he hg.e (if_neg he) v st' hT _ rfl
theorem rline_c (hL : TokOk L) (hn : L.length ≤ 100000) (hm : m ≤ 32) {un : RM Int} {un0 : PM Int} {c : Nat} (su : Sim L m un0 un 0 0 c 0) (hcc : c + 8 ≤ 400) (hc : ∀ st, Gd L m 0 1000 st → W1 L 95 [] un (fun k => Ti k) st) :
  ∀ j : Nat, j ≤ 8 → ∀ st, Gd L m 0 1000 st → W1 L 71 [c1 (di (9 - (j : Int)))] (lineJR L un j) (fun k => Ti k) st
 | 0, _, st, hg => rline0_c st hg (hc st hg)
 | j + 1, hj, st, hg => rline_step hL hn hm j (by omega) ((sim_lineJ hL su j).le (by omega) (by omega)) (rline_c hL hn hm su hcc hc j (by omega)) st hg
theorem unRm_err : ∀ m (st : RSt), st.err ≠ 0 → unRm L m st = (0, st)
 | 0, st, h => if_neg h
 | m + 1, st, h => if_neg h
theorem lineJR_err {un : RM Int} : ∀ j (st : RSt), st.err ≠ 0 → lineJR L un j st = (0, st)
 | 0, st, h => if_neg h
 | j + 1, st, h => if_neg h
theorem runary_c (hL : TokOk L) (hn : L.length ≤ 100000) : ∀ m, m ≤ 32 → ∀ st, Gd L m 0 1000 st → W1 L 95 [] (unRm L m) (fun k => Ti k) st
 | 0, hm, st, hg => runary_step hL hn hm (un0 := pure 0) (ex0 := pure 0) (fun _ h => by omega) (fun _ h => by omega) (fun _ _ => rfl) (fun _ _ => rfl) (fun _ h => by omega) (fun _ h => by omega) st hg
 | m + 1, hm, st, hg => runary_step hL hn hm (un0 := unM L m) (ex0 := lineJ L (unM L m) 8) (fun m' h => by
    obtain rfl : m = m' := by omega
    exact (sim_unM hL m).le (by omega) (Nat.le_refl _)) (fun m' h => by
    obtain rfl : m = m' := by omega
    exact (sim_lineJ hL (sim_unM hL m) 8).le (by omega) (Nat.le_refl _)) (unRm_err m) (lineJR_err 8) (fun m' h st hg => by
    obtain rfl : m = m' := by omega
    exact runary_c hL hn m (by omega) st hg) (fun m' h st hg => by
    obtain rfl : m = m' := by omega
    exact rline_c hL hn (by omega) (sim_unM hL m) (by omega) (runary_c hL hn m (by omega)) 8 (Nat.le_refl _) st hg) st hg
theorem rexpr_c (hL : TokOk L) (hn : L.length ≤ 100000) (hm : m ≤ 32) (st : RSt) (hg : Gd L m 0 1000 st) : W1 L 71 [c1 (di 1)] (exprR L m) (fun k => Ti k) st :=
 rline_c hL hn hm (sim_unM hL m) (by omega) (runary_c hL hn m hm) 8 (Nat.le_refl _) st hg
end
end Go.Proofs.YtoingpafcodojaaGreatDoor

namespace Go.Proofs.YtoingpafcodojaaGreatDoor
open Go.RowKit

section
variable {L : List TokP} {m : Nat}
def KeepT {α : Type} (y : RM α) : Prop := ∀ st, (y st).2.ts = st.ts
section
variable {α β : Type} {x y : RM α} {f : α → RM β} {p : Nat → Bool}
theorem KeepT.eq (h : KeepT y) {st st1 : RSt} {v : α} (hx : y st = (v, st1)) : st1.ts = st.ts := by have := h st; rw [hx] at this; exact this
theorem KeepT.and (hx : KeepT x) (hf : ∀ v, KeepT (f v)) : KeepT (x >>= f) := fun st => (hf _ _).trans (hx st)
theorem KeepT.pure (v : α) : KeepT (pure v : RM α) := fun _ => rfl
theorem KeepT.guard (h : KeepT y) (v : α) : KeepT (guardR v y) := fun st => by
 unfold guardR
 by_cases he : st.err = 0
 ·rw [if_pos he]; exact h st
 ·rw [if_neg he]
theorem KeepT.at (hx : KeepT x) (hy : KeepT y) : KeepT (atR p x y) := fun st => by
 unfold atR
 by_cases he : p st.i = true
 ·rw [if_pos he]; exact hx st
 ·rw [if_neg he]; exact hy st
theorem KeepT.look {f : RSt → RM α} (h : ∀ s, KeepT (f s)) : KeepT (fun s => f s s) := fun st => h st st
theorem KeepT.deep (h : KeepT y) : KeepT (deepR p y) := KeepT.and (x := fun s => enterR (p s.i) s) (fun st => (keep_enter (v := (enterR (p st.i) st).1) rfl).2) fun _ => h.and fun _ => KeepT.and (x := leaveR) (fun _ => rfl) fun _ => KeepT.pure _
end
theorem KeepT.take (t : List UInt8) : KeepT (takeR L t) := fun st => (keep_take (v := (takeR L t st).1) rfl).2
theorem KeepT.name : KeepT (nameR L) := fun st => (keep_name (v := (nameR L st).1) rfl).2
theorem KeepT.num : KeepT (numberR L) := fun st => (keep_num (v := (numberR L st).1) rfl).2
theorem KeepT.room (n : Nat) : KeepT (roomR n) := fun st => (keep_room (v := (roomR n st).1) rfl).2
theorem KeepT.roomIf (n : Nat) (p : Nat → Bool) : KeepT (fun s => if p s.i = true then roomR n s else ((), s)) := fun st => by
 dsimp only
 split
 ·exact KeepT.room n st
 ·rfl
theorem KeepT.put (x : EX) : KeepT (putR x) := fun _ => rfl
theorem KeepT.step : KeepT stepR := fun _ => rfl
theorem keepT_un {un ex : RM Int} (h1 : KeepT un) (h2 : KeepT ex) : KeepT (unR L un ex) :=
 ((KeepT.take _).and fun _ => h1.deep.and fun _ => KeepT.put _).at (((KeepT.take _).and fun _ => h2.deep.and fun _ => (KeepT.take _).and fun _ => KeepT.pure _).at ((KeepT.name.and fun _ => KeepT.put _).at (KeepT.num.and fun _ => KeepT.put _))) |>.guard 0
theorem keepT_line (lv : Nat) {x : RM Int} (hx : KeepT x) : ∀ n left, KeepT (lineNR L lv x n left)
 | 0, left => KeepT.pure _
 | n + 1, left => (KeepT.look (f := fun s => atR (opAt L lv) (stepR >>= fun _ => x >>= fun right => putR ⟨3, (tk L s.i).t, 0, [], [left, right]⟩ >>= fun k => lineNR L lv x n k) (pure left)) fun s =>
   (KeepT.step.and fun _ => hx.and fun _ => (KeepT.put _).and fun _ => keepT_line lv hx n _).at (KeepT.pure _)).guard left
theorem keepT_lineJ {un : RM Int} (hx : KeepT un) : ∀ j, KeepT (lineJR L un j)
 | 0 => hx.guard 0
 | j + 1 => ((keepT_lineJ hx j).and fun left => KeepT.look (f := fun s => lineNR L (8 - j) (lineJR L un j) (L.length - s.i + 1) left) fun s => keepT_line _ (keepT_lineJ hx j) _ _).guard 0
theorem keepT_unRm : ∀ m, KeepT (unRm L m)
 | 0 => keepT_un (KeepT.pure _) (KeepT.pure _)
 | m + 1 => keepT_un (keepT_unRm m) (keepT_lineJ (keepT_unRm m) 8)
theorem keepT_expr (m : Nat) : KeepT (exprR L m) := keepT_lineJ (keepT_unRm m) 8
theorem keepT_bracket (m : Nat) : KeepT (bracketR L m) := (KeepT.take _).and fun _ => (keepT_expr m).and fun _ => (KeepT.take _).and fun _ => KeepT.pure _
theorem keepT_args (m : Nat) : ∀ n l, KeepT (argsR L m n l)
 | 0, l => KeepT.pure _
 | n + 1, l => (((KeepT.take _).and fun _ => (KeepT.roomIf _ _).and fun _ => (keepT_expr m).and fun _ => keepT_args m n _).at (KeepT.pure _)).guard l
theorem keepT_ref (m : Nat) : KeepT (refR L m) := KeepT.name.and fun w => ((KeepT.take _).and fun _ => (((keepT_expr m).and fun x => KeepT.look (f := fun s => argsR L m (L.length - s.i + 1) [x]) fun s => keepT_args m _ _).guard []).and fun l => (KeepT.take _).and fun _ => KeepT.pure _).at (KeepT.pure _)
theorem startR2 {st : RSt} {X : List EX} {T : List TY} : SLe 5 ⟨argTm 0 [P0], [(3, .dead), (4, .dead), (0, Rz L st 1 2 5 6), (5, Xr X), (6, Tr T)], 7⟩ ⟨argTm 0 [P0], [(0, Rz L st 1 2 3 4), (3, Xr X), (4, Tr T)], 5⟩ :=
 SLe.kill (nx := 7) 3 (SLe.kill (nx := 7) 4 (sR [(0, 0), (1, 1), (2, 2), (3, 5), (4, 6)]))
theorem startR2t {st : RSt} {X : List EX} {T : List TY} {t : TY} : SLe 5 ⟨argTm 0 [P0, gD (tyD t)], [(3, .dead), (4, .dead), (0, Rz L st 1 2 5 6), (5, Xr X), (6, Tr T)], 7⟩ ⟨argTm 0 [P0, gD (tyD t)], [(0, Rz L st 1 2 3 4), (3, Xr X), (4, Tr T)], 5⟩ :=
 SLe.kill (nx := 7) 3 (SLe.kill (nx := 7) 4 (sR [(0, 0), (1, 1), (2, 2), (3, 5), (4, 6)]))
theorem rbracket_c (hL : TokOk L) (hn : L.length ≤ 100000) (hm : m ≤ 32) (st : RSt) (hg : Gd L m 0 1000 st) : W1 L 91 [] (bracketR L m) (fun k => Ti k) st := fun v st' hT X hX => by
 subst hX
 have kx_st : st.xs = st.xs := rfl
 have kt_st : st.ts = st.ts := rfl
 unfold bracketR at hT
 refine fn_ruleP (C := ⟨Tryz.prog, layF, Tryz.f91.ntmps, ΓL, 5, [], []⟩) layF_ok mixed Tryz.func91 rfl (by kernel_rfl) rfl rfl rfl startR1 ?_
 repeat' (first | refine qgs ?_ | refine eD ?_ ?_ <;> intro)
 rcases h1 : (takeR L t_lsq) (st) with ⟨_, st1⟩
 replace hT := (rand h1).symm.trans hT
 refine sC (CallsM.ren ((rtake_c st hg.i hn t_lsq) _ _ h1) [0, 1, 2, 5, 4] 6 rfl rfl rfl rfl) ?_
 have kx_st1 := (keep_take h1).1.trans kx_st
 have kt_st1 := (keep_take h1).2.trans kt_st
 have hg1 := (Sim.take (m := m) hL t_lsq 0).gd hg (by omega) h1
 repeat' (first | refine qgs ?_ | refine eD ?_ ?_ <;> intro)
 rcases h2 : (exprR L m) (st1) with ⟨k, st2⟩
 replace hT := (rand h2).symm.trans hT
 refine sC (CallsM.ren ((rexpr_c hL hn hm st1 (hg1.le (by omega) (by omega))) _ _ h2 _ kx_st1) [0, 1, 2, 5, 4] 6 rfl rfl rfl rfl) ?_
 have kx_st2 : st2.xs = st2.xs := rfl
 have kt_st2 := ((keepT_expr m).eq h2).trans kt_st1
 have hg2 := (sim_expr hL m 1).gd hg1 (by omega) h2
 repeat' (first | refine qgs ?_ | refine eD ?_ ?_ <;> intro)
 rcases h3 : (takeR L t_rsq) (st2) with ⟨_, st3⟩
 replace hT := (rand h3).symm.trans hT
 refine sC (CallsM.ren ((rtake_c st2 hg2.i hn t_rsq) _ _ h3) [0, 1, 2, 6, 4] 7 rfl rfl rfl rfl) ?_
 have kx_st3 := (keep_take h3).1.trans kx_st2
 have kt_st3 := (keep_take h3).2.trans kt_st2
 obtain rfl : k = v := congrArg Prod.fst hT
 obtain rfl : st3 = st' := congrArg Prod.snd hT
 repeat' (first | refine qgs ?_ | refine eD ?_ ?_ <;> intro)
 rw [kx_st3]
 exact ⟨rfl, TLe.rfl, rfl, rfl⟩
section
variable {kd : PM Int} {kd' : RM Int} {c : Nat}
theorem rinner_c (hn : L.length ≤ 100000) (hm : m ≤ 32) (hs : ∀ m', m = m' + 1 → Sim L m' kd kd' 0 0 c 0) (hc : 1 ≤ c) (hc2 : c ≤ 900) (b1 : ∀ st, st.err ≠ 0 → kd' st = (0, st))
  (hk : ∀ m', m = m' + 1 → ∀ st, Gd L m' 0 1000 st → W2 L 69 [] kd' (fun k => Ti k) st) (he : ∀ st, st.err ≠ 0 → st.err ≤ 10 → W2 L 69 [] kd' (fun k => Ti k) st)
  (st : RSt) (hg : Gd L m 0 990 st) : W2 L 92 [] (innerR L kd') (fun k => Ti k) st := fun v st' hT X T hX hTt => by
 subst hX
 subst hTt
 have kx_st : st.xs = st.xs := rfl
 have kt_st : st.ts = st.ts := rfl
 have hty := rtyped_c st hg.i
 rcases hent : enterR (startsV L st.i) st with ⟨u, st1⟩
 rcases hun : kd' st1 with ⟨k, st2⟩
 have hde := deep_eq (p := (startsV L ·)) hent hun
 have hg3 := (sim_inner (m := m) hs (fun s h => by rw [b1 s h]; exact Stay.rfl) hc 0).gd hg (by omega) hde
 have hin : W2 L 69 [] kd' (fun k => Ti k) st1 := by
  rcases hg.enter hent with ⟨m', e, hg2⟩ | ⟨e1, e2, e3, e4, e5, e6⟩
  ·exact hk m' e st1 (hg2.le (by omega) (by omega))
  ·exact he st1 e1 e6
 replace hT : ((k, { st2 with dep := st2.dep - 1 }) : Int × RSt) = (v, st') := hde.symm.trans hT
 obtain rfl : k = v := congrArg Prod.fst hT
 obtain rfl : { st2 with dep := st2.dep - 1 } = st' := congrArg Prod.snd hT
 have hd1 := hg.d1
 have hd2 := hg.d2
 have hd4 : 32 - (m : Int) - ((991 : Nat) : Int) ≤ st2.dep - 1 := hg3.d1
 have hd5 : st2.dep - 1 ≤ 32 - (m : Int) := hg3.d2
 have ke := keep_enter hent
 refine fn_ruleP (C := ⟨Tryz.prog, layF, Tryz.f92.ntmps, ΓL, 5, [], []⟩) layF_ok mixed Tryz.func92 rfl (by kernel_rfl) rfl rfl rfl startR2 ?_
 repeat' (first | refine qgs ?_ | refine eD ?_ ?_ <;> intro)
 refine sC (CallsM.ren (hty) [0, 1, 2, 5, 6] 7 rfl rfl rfl rfl) ?_
 repeat' (first | refine qgs ?_ | refine eD ?_ ?_ <;> intro)
 refine sC (CallsM.ren ((renter_c (L := L) st (by omega) (by omega) _ _ _ hent)) [0, 1, 2, 5, 6] 7 rfl rfl rfl rfl) ?_
 repeat' (first | refine qgs ?_ | refine eD ?_ ?_ <;> intro)
 refine sC (CallsM.ren ((hin _ _ hun _ _ ke.1 ke.2)) [0, 1, 2, 5, 6] 7 rfl rfl rfl rfl) ?_
 repeat' (first | refine qgs ?_ | refine eD ?_ ?_ <;> intro)
 exact ⟨rfl, TLe.rfl, rfl, rfl⟩
end
theorem rlay2_c (st : RSt) (x : TY) (hx : st.ts.length ≤ 1000000) (X : List EX) (T : List TY) (hT : st.ts = T) : CallsM Tryz.prog ΓL 93 [(0, Rz L st 1 2 3 4), (3, Xr X), (4, Tr T)] 5 [P0, gD (tyD x)] (Ti st.ts.length) [(0, Rz L st 1 2 3 5), (4, .dead)] [Tr (st.ts ++ [x])] :=
 (rlay_c (L := L) st x hx T hT).more fun p hp => by
  simp only [List.mem_cons, List.not_mem_nil, or_false] at hp ⊢; rcases hp with hp | hp <;> simp [hp]
theorem rlayn_c (st : RSt) (k size : Nat) (little : Bool) (w : List UInt8) (x n : Int) (hx : st.ts.length ≤ 1000000) (X : List EX) (T : List TY) (hT : st.ts = T) : CallsM Tryz.prog ΓL 93 [(0, Rz L st 1 2 3 4), (3, Xr X), (4, Tr T)] 5 [P0, gD [di k, di size, db little, ds (bs w), dnil, di x, di n, dnil]] (Ti st.ts.length) [(0, Rz L st 1 2 3 5), (4, .dead)] [Tr (st.ts ++ [⟨k, size, little, w, [], x, n, []⟩])] :=
 (rlay2_c (L := L) st ⟨k, size, little, w, [], x, n, []⟩ hx X T hT).argsLe (.cons T1Le.rfl (.cons (T1Le.g (.cons DLe.rfl (.cons DLe.rfl (.cons DLe.rfl (.cons DLe.rfl (.cons DLe.nil (.cons DLe.rfl (.cons DLe.rfl (.cons DLe.nil .nil))))))))) .nil))
set_option maxHeartbeats 4000000 in
theorem rarray_c (hL : TokOk L) (hn : L.length ≤ 100000) (hm : m ≤ 32) (t : TY) (st : RSt) (hg : Gd L m 1 900 st) : W2 L 89 [gD (tyD t)] (arrayR L m t) (fun k => Ti k) st := fun v st' hT X T hX hTt => by
 subst hX
 subst hTt
 have ht := hg.t
 unfold arrayR at hT
 replace hT : atR (isV L · t_lsq) (guardR (st.ts.length : Int) (bracketR L m >>= fun x => layR { tyP 5 with ex := x, inn := st.ts.length })) (pure (st.ts.length : Int)) { st with ts := st.ts ++ [t] } = (v, st') := hT
 have hi := ris_c { st with ts := st.ts ++ [t] } hg.i t_lsq
 have hl := rlay2_c (L := L) st t (by omega) st.xs st.ts rfl
 have h10 := hg.e
 refine fn_ruleP (C := ⟨Tryz.prog, layF, Tryz.f89.ntmps, ΓL, 5, [], []⟩) layF_ok mixed Tryz.func89 rfl (by kernel_rfl) rfl rfl rfl startR2t ?_
 repeat' (first | refine qgs ?_ | refine eD ?_ ?_ <;> intro)
 refine sC (CallsM.ren (hl) [0, 1, 2, 5, 6] 8 rfl rfl rfl rfl) ?_
 repeat' (first | refine qgs ?_ | refine eD ?_ ?_ <;> intro)
 rcases hv : isV L st.i t_lsq with _ | _
 ·replace hT := atRn hT hv
  obtain rfl : (st.ts.length : Int) = v := congrArg Prod.fst hT
  obtain rfl : { st with ts := st.ts ++ [t] } = st' := congrArg Prod.snd hT
  have hi : CallsM Tryz.prog ΓL 23 [(0, Rz L st 1 2 3 4)] 5 [P0, c1 (ds (bs t_lsq))] (Tb false) [(0, Rz L st 1 2 3 4)] [] := by rw [← hv]; exact hi
  refine sC (CallsM.ren (hi) [0, 1, 2, 5, 8] 9 rfl rfl rfl rfl) ?_
  repeat' (first | refine qgs ?_ | refine eD ?_ ?_ <;> intro)
  exact ⟨rfl, TLe.rfl, rfl, rfl⟩
 ·replace hT := atRy hT hv
  have hi : CallsM Tryz.prog ΓL 23 [(0, Rz L st 1 2 3 4)] 5 [P0, c1 (ds (bs t_lsq))] (Tb true) [(0, Rz L st 1 2 3 4)] [] := by rw [← hv]; exact hi
  by_cases he : st.err = 0
  ·replace hT := gdRy hT he
   have hg1 := (Sim.lay (m := m) t 0).gd (hg.fresh he 400) (by omega) (show layR t st = (_, { st with ts := st.ts ++ [t] }) from rfl)
   refine sC (CallsM.ren (hi) [0, 1, 2, 5, 8] 9 rfl rfl rfl rfl) ?_
   repeat' (first | refine qgs ?_ | refine eD ?_ ?_ <;> intro)
   rcases h2 : (bracketR L m) ({ st with ts := st.ts ++ [t] }) with ⟨x, st2⟩
   replace hT := (rand h2).symm.trans hT
   refine sC (CallsM.ren ((rbracket_c hL hn hm { st with ts := st.ts ++ [t] } (hg1.le (by omega) (by omega))) _ _ h2 _ rfl) [0, 1, 2, 5, 8] 9 rfl rfl rfl rfl) ?_
   have kx_st2 : st2.xs = st2.xs := rfl
   have kt_st2 := ((keepT_bracket m).eq h2).trans rfl
   have hg2 := (sim_bracket hL m 0).gd hg1 (by omega) h2
   have ht2 := hg2.t
   obtain rfl : (st2.ts.length : Int) = v := congrArg Prod.fst hT
   obtain rfl : { st2 with ts := st2.ts ++ [{ tyP 5 with ex := x, inn := st.ts.length }] } = st' := congrArg Prod.snd hT
   repeat' (first | refine qgs ?_ | refine eD ?_ ?_ <;> intro)
   refine sC (CallsM.ren ((rlayn_c (L := L) st2 5 0 false [] x st.ts.length (by omega) st2.xs _ kt_st2)) [0, 1, 2, 9, 8] 10 rfl rfl rfl rfl) ?_
   repeat' (first | refine qgs ?_ | refine eD ?_ ?_ <;> intro)
   exact ⟨rfl, TLe.rfl, rfl, rfl⟩
  ·replace hT := gdRn hT he
   obtain rfl : (st.ts.length : Int) = v := congrArg Prod.fst hT
   obtain rfl : { st with ts := st.ts ++ [t] } = st' := congrArg Prod.snd hT
   refine sC (CallsM.ren (hi) [0, 1, 2, 5, 8] 9 rfl rfl rfl rfl) ?_
   repeat' (first | refine qgs ?_ | refine eD ?_ ?_ <;> intro)
   exact ⟨rfl, TLe.rfl, rfl, rfl⟩
end
end Go.Proofs.YtoingpafcodojaaGreatDoor

namespace Go.Proofs.YtoingpafcodojaaGreatDoor
open Go.RowKit

section
variable {L : List TokP} {m : Nat}
theorem SLe.thru {nx0 : Nat} {s t u : St} (h' : SLe nx0 t u) (h : SLe nx0 s t) : SLe nx0 s u := h.trans h'
theorem argsR_err {s : RSt} (h : s.err ≠ 0) (n : Nat) (l : List Int) : argsR L m n l s = (l, s) := by
 cases n with
 | zero => rfl
 | succ n => exact if_neg h
theorem take_yes {s : RSt} {t : List UInt8} (he : s.err = 0) (hv : isV L s.i t = true) : takeR L t s = ((), { s with i := s.i + 1 }) := by
 unfold takeR guardR
 rw [if_pos he]
 dsimp only
 rw [if_pos hv]
theorem take_err {s : RSt} {t : List UInt8} (he : s.err ≠ 0) : takeR L t s = ((), s) := by
 unfold takeR guardR
 rw [if_neg he]
theorem roomIf_no {s : RSt} {p : Nat → Bool} {n : Nat} (h : p s.i = false) : (fun s : RSt => if p s.i = true then roomR n s else ((), s)) s = ((), s) := by
 dsimp only
 rw [if_neg (by rw [h]; decide)]
theorem roomIf_yes {s s1 : RSt} {p : Nat → Bool} {n : Nat} {u : Unit} (h : p s.i = true) (hr : roomR n s = (u, s1)) : (fun s : RSt => if p s.i = true then roomR n s else ((), s)) s = (u, s1) := by
 dsimp only
 rw [if_pos h, hr]
theorem roomIf_nil {s : RSt} {p : Nat → Bool} : (fun s : RSt => if p s.i = true then roomR 0 s else ((), s)) s = ((), s) := by
 dsimp only
 split
 ·exact if_neg (by decide)
 ·rfl
theorem room_i {n : Nat} {s s1 : RSt} {u : Unit} (h : roomR n s = (u, s1)) : s1.i = s.i := by
 have h2 := congrArg Prod.snd h
 dsimp only at h2
 rw [← h2]
 unfold roomR failR
 split
 ·dsimp only; split <;> rfl
 ·rfl
theorem args_out {K : List Int → RM TY} {s2 : RSt} {n : Nat} {l : List Int} {T : TY × RSt} (hcv : isV L s2.i t_comma = false) (hF : s2.err = 0 → L.length < s2.i + n) (hi : s2.i < L.length) (hT : (argsR L m n l >>= K) s2 = T) : K l s2 = T := by
 by_cases he : s2.err = 0
 ·have := hF he
  cases n with
  | zero => omega
  | succ n =>
   rw [argsR] at hT
   have h1 := gdRyB hT he
   have h2 := atRnB h1 hcv
   exact h2
 ·exact (rand (argsR_err he n l)).symm.trans hT
theorem args_in {K : List Int → RM TY} {s2 s3 : RSt} {n : Nat} {l : List Int} {T : TY × RSt} {u : Unit} (hcv : isV L s2.i t_comma = true) (hi : s2.i < L.length) (hF : s2.err = 0 → L.length < s2.i + n) (hT : (argsR L m n l >>= K) s2 = T) (ht : takeR L t_comma s2 = (u, s3)) :
  (true = true ∧ s3.err = 0 ∧ (∀ s' : RSt, s3.i ≤ s'.i → s'.err = 0 → L.length < s'.i + (n - 1)) ∧ ((fun s => if beginsV L s.i = true then roomR l.length s else ((), s)) >>= fun _ => exprR L m >>= fun x => (fun s => argsR L m (n - 1) (l ++ [x]) s : RM (List Int)) >>= K) s3 = T) ∨ (¬ (true = true ∧ s3.err = 0) ∧ K l s3 = T) := by
 by_cases he : s2.err = 0
 ·have := hF he
  cases n with
  | zero => omega
  | succ n =>
   rw [argsR] at hT
   have h1 := gdRyB hT he
   have h2 := atRyB h1 hcv
   rw [take_yes he hcv] at ht
   obtain rfl := congrArg Prod.snd ht
   refine .inl ⟨rfl, he, fun s' h1 h2 => by have h1 : s2.i + 1 ≤ s'.i := h1; show _ < _ + n; omega, ?_⟩
   have h3 : RM.and _ _ s2 = T := h2
   unfold RM.and at h3
   rw [rand (take_yes he hcv)] at h3
   exact h3
 ·rw [take_err he] at ht
  obtain rfl : s2 = s3 := congrArg Prod.snd ht
  exact .inr ⟨fun h => he h.2, (rand (argsR_err he n l)).symm.trans hT⟩
set_option maxHeartbeats 4000000 in
theorem rref_c (hL : TokOk L) (hn : L.length ≤ 100000) (hm : m ≤ 32) (st : RSt) (hg : Gd L m 0 900 st) : W1 L 88 [] (refR L m) (fun t => .o (gD (tyD t))) st := fun v st' hT X hX => by
 subst hX
 have kx_st : st.xs = st.xs := rfl
 have kt_st : st.ts = st.ts := rfl
 unfold refR at hT
 refine fn_ruleP (C := ⟨Tryz.prog, layF, Tryz.f88.ntmps, ΓL, 5, [], []⟩) layF_ok mixed Tryz.func88 rfl (by kernel_rfl) rfl rfl rfl startR1 ?_
 repeat' (first | refine qgs ?_ | refine eD ?_ ?_ <;> intro)
 rcases h1 : (nameR L) (st) with ⟨w, st1⟩
 replace hT := (rand h1).symm.trans hT
 refine sC (CallsM.ren ((rname_c st hg.i hn) _ _ h1) [0, 1, 2, 5, 4] 7 rfl rfl rfl rfl) ?_
 have kx_st1 := (keep_name h1).1.trans kx_st
 have kt_st1 := (keep_name h1).2.trans kt_st
 have hg1 := (Sim.name (m := m) hL 0).gd hg (by omega) h1
 have hi1 := ris_c st1 hg1.i t_lpar
 repeat' (first | refine qgs ?_ | refine eD ?_ ?_ <;> intro)
 rcases hv : isV L st1.i t_lpar with _ | _ <;> rw [hv] at hi1
 ·replace hT := atRn hT hv
  obtain rfl : ({ tyP 10 with nm := w } : TY) = v := congrArg Prod.fst hT
  obtain rfl : st1 = st' := congrArg Prod.snd hT
  refine sC (CallsM.ren (hi1) [0, 1, 2, 5, 4] 8 rfl rfl rfl rfl) ?_
  repeat' (first | refine qgs ?_ | refine eD ?_ ?_ <;> intro)
  rw [kx_st1]
  exact ⟨rfl, tyLe, rfl, rfl⟩
 ·replace hT := atRy hT hv
  refine sC (CallsM.ren (hi1) [0, 1, 2, 5, 4] 8 rfl rfl rfl rfl) ?_
  repeat' (first | refine qgs ?_ | refine eD ?_ ?_ <;> intro)
  rcases h2 : (takeR L t_lpar) (st1) with ⟨_, st2⟩
  replace hT := (rand h2).symm.trans hT
  refine sC (CallsM.ren ((rtake_c st1 hg1.i hn t_lpar) _ _ h2) [0, 1, 2, 5, 4] 8 rfl rfl rfl rfl) ?_
  have kx_st2 := (keep_take h2).1.trans kx_st1
  have kt_st2 := (keep_take h2).2.trans kt_st1
  have hg2 := (Sim.take (m := m) hL t_lpar 1).gd hg1 (by omega) h2
  repeat' (first | refine qgs ?_ | refine eD ?_ ?_ <;> intro)
  refine ex_loop (X := RSt × List EX × Bool × List Int × (RSt → Nat)) (fun ⟨s, xl, more, l, _⟩ => ⟨[(0, .o P0), (2, .o (.c (.ptr 6 0))), (4, .o (.c (.ptr 7 0))), (5, Tb more)], [(0, Rz L s 1 2 9 4), (3, .dead), (6, .obj [.d (di 0), .d (di 0), .d (db false), .d (ds ⟨#[]⟩), .d dnil, .d (di 0), .d (di 0), .d dnil]), (7, .obj [.d (di 10), .d (di 0), .d (db false), .d (ds (bs w)), .row 8, .d (di (-1)), .d (di (-1)), .d dnil]), (8, .row 1 3 (l.map fun k => [di k])), (9, Xr xl)], 10⟩)
   (fun y => if y.2.2.1 = true ∧ y.1.err = 0 then L.length - y.1.i + 1 else 0)
   (fun ⟨s, xl, more, l, F⟩ => Gd L m 2 920 s ∧ s.xs = xl ∧ (more = true → s.err = 0 → l.length ≤ s.i) ∧ l.length ≤ L.length + 1 ∧
    ((more = true ∧ s.err = 0 ∧ (∀ s' : RSt, s.i ≤ s'.i → s'.err = 0 → L.length < s'.i + F s') ∧ ((fun s => if beginsV L s.i = true then roomR l.length s else ((), s)) >>= fun _ => exprR L m >>= fun x => (fun s => argsR L m (F s) (l ++ [x]) s : RM (List Int)) >>= fun l => takeR L t_rpar >>= fun _ => pure ({ tyP 10 with nm := w, args := l } : TY)) s = (v, st')) ∨
     (¬ (more = true ∧ s.err = 0) ∧ (takeR L t_rpar >>= fun _ => pure ({ tyP 10 with nm := w, args := l } : TY)) s = (v, st')))) (st2, st.xs, true, [], fun s => L.length - s.i + 1) ⟨hg2.le (by omega) (by omega), kx_st2, fun _ _ => Nat.zero_le _, Nat.zero_le _, ?_⟩ ?_ ?_
  ·by_cases he : st2.err = 0
   ·have h9 := gdRyB hT he
    exact .inl ⟨rfl, he, fun s' h1 h2 => by show L.length < s'.i + (L.length - s'.i + 1); omega, (rand roomIf_nil).trans h9⟩
   ·have h9 := gdRnB hT he
    exact .inr ⟨fun h => he h.2, h9⟩
  ·exact SLe.thru (SLe.ownCell 7 4 8 1 3 rfl rfl rfl rfl rfl rfl) (sR [(0, 0), (1, 1), (2, 2), (3, 3), (4, 4), (6, 6), (7, 7), (8, 8), (5, 9)])
  clear hT kx_st1 kt_st1 kx_st2 kt_st2 kx_st kt_st hg2 h2 h1 hg hg1 hi1 hv
  rintro ⟨s, xl, more, l, F⟩ ⟨hs, kx_s, hl1, hl2, hC⟩
  have kt_s : s.ts = s.ts := rfl
  have hsi := hs.i
  have h10 := hs.e
  rcases hC with ⟨rfl, hse, hF, hT⟩ | ⟨hno, hT⟩
  ·have hl1 := hl1 rfl hse
   have hop := roperand_c s hsi
   rcases hb : beginsV L s.i with _ | _ <;> rw [hb] at hop
   ·replace hT := (rand (roomIf_no hb)).symm.trans hT
    have hF2 : ∀ s2 : RSt, s.i ≤ s2.i → s2.err = 0 → L.length < s2.i + F s2 := hF
    repeat' (first | refine qgs ?_ | refine eD ?_ ?_ <;> intro)
    refine sC (CallsM.ren (hop) [0, 1, 2, 9, 4] 10 rfl rfl rfl rfl) ?_
    repeat' (first | refine qgs ?_ | refine eD ?_ ?_ <;> intro)
    rcases hx : (exprR L m) (s) with ⟨x, s2⟩
    replace hT := (rand hx).symm.trans hT
    refine sC (CallsM.ren ((rexpr_c hL hn hm s (hs.le (by omega) (by omega))) _ _ hx _ kx_s) [0, 1, 2, 9, 4] 10 rfl rfl rfl rfl) ?_
    have kx_s2 : s2.xs = s2.xs := rfl
    have kt_s2 := ((keepT_expr m).eq hx).trans kt_s
    have hg2 := (sim_expr hL m 2).gd hs (by omega) hx
    have hgr := fun h => ((sim_expr hL m 2).grow hs hx h).2
    have hsi2 := hg2.i
    replace hT : (argsR L m (F s2) (l ++ [x]) >>= fun l => takeR L t_rpar >>= fun _ => pure ({ tyP 10 with nm := w, args := l } : TY)) s2 = (v, st') := hT
    have hlx : (l ++ [x]).length = l.length + 1 := by simp
    have hle : s2.err = 0 → l.length ≤ s2.i := fun h => by
     have := hgr h
     skip
     omega
    repeat' (first | refine qgs ?_ | refine eD ?_ ?_ <;> intro)
    refine ex_app (l.length) (1) 1000 (by first | rfl | (simp; done) | (simp; omega)) (by first | rfl | (simp; done) | (simp; omega)) rfl (by omega) ?_
    refine ex_is (List.map (fun k : Int => [di k]) (l ++ [x])) (by rw [List.map_append]; rfl) ?_
    repeat' (first | refine qgs ?_ | refine eD ?_ ?_ <;> intro)
    have hi2 := ris_c s2 hsi2 t_comma
    rcases hcv : isV L s2.i t_comma with _ | _ <;> rw [hcv] at hi2
    ·
     refine sC (CallsM.ren (hi2) [0, 1, 2, 10, 4] 13 rfl rfl rfl rfl) ?_
     repeat' (first | refine qgs ?_ | refine eD ?_ ?_ <;> intro)
     exact ex_round (s2, s2.xs, false, l ++ [x], F) ⟨hg2.le (by omega) (by omega), rfl, fun h => (by cases h), by rw [hlx]; omega, .inr ⟨fun h => (by cases h.1), args_out hcv (fun h => hF2 s2 (hgr h) h) hsi2 hT⟩⟩ (by show (if false = true ∧ s2.err = 0 then L.length - s2.i + 1 else 0) < (if true = true ∧ s.err = 0 then L.length - s.i + 1 else 0); rw [if_neg (by simp), if_pos ⟨rfl, hse⟩]; omega) (sR [(0, 0), (1, 1), (2, 2), (3, 3), (4, 4), (6, 6), (7, 7), (10, 9), (12, 8)])
    ·
     refine sC (CallsM.ren (hi2) [0, 1, 2, 10, 4] 13 rfl rfl rfl rfl) ?_
     repeat' (first | refine qgs ?_ | refine eD ?_ ?_ <;> intro)
     rcases htk : takeR L t_comma s2 with ⟨u3, s3⟩
     have ht3 := rtake_c s2 hsi2 hn t_comma
     refine sC (CallsM.ren ((ht3 _ _ htk)) [0, 1, 2, 10, 4] 13 rfl rfl rfl rfl) ?_
     repeat' (first | refine qgs ?_ | refine eD ?_ ?_ <;> intro)
     have kk := keep_take htk
     have hg3 := (Sim.take (m := m) hL t_comma 2).gd hg2 (by omega) htk
     refine ex_round (s3, s2.xs, true, l ++ [x], fun _ => F s2 - 1) ⟨hg3.le (by omega) (by omega), kk.1, ?_, by rw [hlx]; omega, ?_⟩ ?_ (SLe.ren [(0, 0), (1, 1), (2, 2), (3, 3), (4, 4), (6, 6), (7, 7), (10, 9), (12, 8)] ⟨⟨rfl, rfl⟩, ⟨rfl, rfl⟩, ⟨rfl, rfl⟩, ⟨rfl, rfl⟩, trivial⟩ ⟨⟨rfl, rfl⟩, ⟨rfl, rfl⟩, ⟨rfl, rfl⟩, ⟨rfl, rfl⟩, ⟨rfl, rfl⟩, ⟨rfl, rfl⟩, trivial⟩ rfl)
     ·intro _ h
      rw [hlx]
      by_cases he2 : s2.err = 0
      ·have := hle he2
       rw [take_yes he2 hcv] at htk
       obtain rfl := congrArg Prod.snd htk
       show _ ≤ s2.i + 1
       omega
      ·rw [take_err he2] at htk
       obtain rfl : s2 = s3 := congrArg Prod.snd htk
       exact absurd h he2
     ·exact args_in hcv hsi2 (fun h => hF2 s2 (hgr h) h) hT htk
     ·by_cases he2 : s2.err = 0
      ·have := hgr he2
       rw [take_yes he2 hcv] at htk
       obtain rfl := congrArg Prod.snd htk
       show (if true = true ∧ s2.err = 0 then L.length - (s2.i + 1) + 1 else 0) < (if true = true ∧ s.err = 0 then L.length - s.i + 1 else 0)
       rw [if_pos ⟨rfl, he2⟩, if_pos ⟨rfl, hse⟩]
       omega
      ·rw [take_err he2] at htk
       obtain rfl : s2 = s3 := congrArg Prod.snd htk
       show (if true = true ∧ s2.err = 0 then L.length - s2.i + 1 else 0) < (if true = true ∧ s.err = 0 then L.length - s.i + 1 else 0)
       rw [if_neg (fun h => he2 h.2), if_pos ⟨rfl, hse⟩]
       omega
   ·have hs0 := hs
    rcases hr : roomR l.length s with ⟨u1, s1⟩
    replace hT := (rand (roomIf_yes hb hr)).symm.trans hT
    have kr := keep_room hr
    have hg1 := (Sim.room (L := L) (m := m) l.length 2).gd hs (by omega) hr
    have kx_s1 := kr.1.trans kx_s
    have kt_s1 := kr.2.trans kt_s
    have hri : s1.i = s.i := room_i hr
    repeat' (first | refine qgs ?_ | refine eD ?_ ?_ <;> intro)
    refine sC (CallsM.ren (hop) [0, 1, 2, 9, 4] 10 rfl rfl rfl rfl) ?_
    repeat' (first | refine ex_is l.length (by simp) ?_ | refine qg1 ?_ | refine eD ?_ ?_ <;> intro)
    refine sC (CallsM.ren (((rroom_c s l.length (by omega)) _ _ hr)) [0, 1, 2, 9, 4] 10 rfl rfl rfl rfl) ?_
    repeat' (first | refine qgs ?_ | refine eD ?_ ?_ <;> intro)
    rcases hx : (exprR L m) (s1) with ⟨x, s2⟩
    replace hT := (rand hx).symm.trans hT
    refine sC (CallsM.ren ((rexpr_c hL hn hm s1 (hg1.le (by omega) (by omega))) _ _ hx _ kx_s1) [0, 1, 2, 9, 4] 10 rfl rfl rfl rfl) ?_
    have kx_s2 : s2.xs = s2.xs := rfl
    have kt_s2 := ((keepT_expr m).eq hx).trans kt_s1
    have hg2 := (sim_expr hL m 2).gd hg1 (by omega) hx
    have hgr := fun h => ((sim_expr hL m 2).grow hg1 hx h).2
    have hsi2 := hg2.i
    replace hT : (argsR L m (F s2) (l ++ [x]) >>= fun l => takeR L t_rpar >>= fun _ => pure ({ tyP 10 with nm := w, args := l } : TY)) s2 = (v, st') := hT
    have hlx : (l ++ [x]).length = l.length + 1 := by simp
    have hle : s2.err = 0 → l.length ≤ s2.i := fun h => by
     have := hgr h
     have := hri
     omega
    repeat' (first | refine qgs ?_ | refine eD ?_ ?_ <;> intro)
    refine ex_app (l.length) (1) 1000 (by first | rfl | (simp; done) | (simp; omega)) (by first | rfl | (simp; done) | (simp; omega)) rfl (by omega) ?_
    refine ex_is (List.map (fun k : Int => [di k]) (l ++ [x])) (by rw [List.map_append]; rfl) ?_
    repeat' (first | refine qgs ?_ | refine eD ?_ ?_ <;> intro)
    have hi2 := ris_c s2 hsi2 t_comma
    rcases hcv : isV L s2.i t_comma with _ | _ <;> rw [hcv] at hi2
    ·
     refine sC (CallsM.ren (hi2) [0, 1, 2, 10, 4] 13 rfl rfl rfl rfl) ?_
     repeat' (first | refine qgs ?_ | refine eD ?_ ?_ <;> intro)
     exact ex_round (s2, s2.xs, false, l ++ [x], F) ⟨hg2.le (by omega) (by omega), rfl, fun h => (by cases h), by rw [hlx]; omega, .inr ⟨fun h => (by cases h.1), args_out hcv (fun h => hF s2 (by have := hgr h; omega) h) hsi2 hT⟩⟩ (by show (if false = true ∧ s2.err = 0 then L.length - s2.i + 1 else 0) < (if true = true ∧ s.err = 0 then L.length - s.i + 1 else 0); rw [if_neg (by simp), if_pos ⟨rfl, hse⟩]; omega) (sR [(0, 0), (1, 1), (2, 2), (3, 3), (4, 4), (6, 6), (7, 7), (10, 9), (12, 8)])
    ·
     refine sC (CallsM.ren (hi2) [0, 1, 2, 10, 4] 13 rfl rfl rfl rfl) ?_
     repeat' (first | refine qgs ?_ | refine eD ?_ ?_ <;> intro)
     rcases htk : takeR L t_comma s2 with ⟨u3, s3⟩
     have ht3 := rtake_c s2 hsi2 hn t_comma
     refine sC (CallsM.ren ((ht3 _ _ htk)) [0, 1, 2, 10, 4] 13 rfl rfl rfl rfl) ?_
     repeat' (first | refine qgs ?_ | refine eD ?_ ?_ <;> intro)
     have kk := keep_take htk
     have hg3 := (Sim.take (m := m) hL t_comma 2).gd hg2 (by omega) htk
     refine ex_round (s3, s2.xs, true, l ++ [x], fun _ => F s2 - 1) ⟨hg3.le (by omega) (by omega), kk.1, ?_, by rw [hlx]; omega, ?_⟩ ?_ (SLe.ren [(0, 0), (1, 1), (2, 2), (3, 3), (4, 4), (6, 6), (7, 7), (10, 9), (12, 8)] ⟨⟨rfl, rfl⟩, ⟨rfl, rfl⟩, ⟨rfl, rfl⟩, ⟨rfl, rfl⟩, trivial⟩ ⟨⟨rfl, rfl⟩, ⟨rfl, rfl⟩, ⟨rfl, rfl⟩, ⟨rfl, rfl⟩, ⟨rfl, rfl⟩, ⟨rfl, rfl⟩, trivial⟩ rfl)
     ·intro _ h
      rw [hlx]
      by_cases he2 : s2.err = 0
      ·have := hle he2
       rw [take_yes he2 hcv] at htk
       obtain rfl := congrArg Prod.snd htk
       show _ ≤ s2.i + 1
       omega
      ·rw [take_err he2] at htk
       obtain rfl : s2 = s3 := congrArg Prod.snd htk
       exact absurd h he2
     ·exact args_in hcv hsi2 (fun h => hF s2 (by have := hgr h; omega) h) hT htk
     ·by_cases he2 : s2.err = 0
      ·have := hgr he2
       rw [take_yes he2 hcv] at htk
       obtain rfl := congrArg Prod.snd htk
       show (if true = true ∧ s2.err = 0 then L.length - (s2.i + 1) + 1 else 0) < (if true = true ∧ s.err = 0 then L.length - s.i + 1 else 0)
       rw [if_pos ⟨rfl, he2⟩, if_pos ⟨rfl, hse⟩]
       omega
      ·rw [take_err he2] at htk
       obtain rfl : s2 = s3 := congrArg Prod.snd htk
       show (if true = true ∧ s2.err = 0 then L.length - s2.i + 1 else 0) < (if true = true ∧ s.err = 0 then L.length - s.i + 1 else 0)
       rw [if_neg (fun h => he2 h.2), if_pos ⟨rfl, hse⟩]
       omega
  ·have hend : ∀ (s : RSt) (xl : List EX) (hs : Gd L m 2 920 s) (kx : s.xs = xl), True := fun _ _ _ _ => trivial
   rcases h4 : takeR L t_rpar s with ⟨u4, s4⟩
   replace hT := (rand h4).symm.trans hT
   obtain rfl : ({ tyP 10 with nm := w, args := l } : TY) = v := congrArg Prod.fst hT
   obtain rfl : s4 = st' := congrArg Prod.snd hT
   have kk := (keep_take h4).1.trans kx_s
   have hcon := (rtake_c s hsi hn t_rpar) _ _ h4
   cases more
   ·repeat' (first | refine qgs ?_ | refine eD ?_ ?_ <;> intro)
    refine sC (CallsM.ren (hcon) [0, 1, 2, 9, 4] 10 rfl rfl rfl rfl) ?_
    repeat' (first | refine qgs ?_ | refine eD ?_ ?_ <;> intro)
    rw [kk]
    exact ⟨rfl, tyLe1, rfl, rfl⟩
   ·have hse : s.err ≠ 0 := fun h => hno ⟨rfl, h⟩
    repeat' (first | refine qgs ?_ | refine eD ?_ ?_ <;> intro)
    refine sC (CallsM.ren (hcon) [0, 1, 2, 9, 4] 10 rfl rfl rfl rfl) ?_
    repeat' (first | refine qgs ?_ | refine eD ?_ ?_ <;> intro)
    rw [kk]
    exact ⟨rfl, tyLe1, rfl, rfl⟩
end
end Go.Proofs.YtoingpafcodojaaGreatDoor

namespace Go.Proofs.YtoingpafcodojaaGreatDoor
open Go.RowKit

section
variable {L : List TokP} {m : Nat}
theorem casesR_err {kd : RM Int} {s : RSt} (h : s.err ≠ 0) (n : Nat) (l : List CA) : casesR L kd n l s = (l, s) := by
 cases n with
 | zero => rfl
 | succ n => exact if_neg h
theorem rlayc_c (st : RSt) (x n : Int) (cs : List CA) (hx : st.ts.length ≤ 1000000) (X : List EX) (T : List TY) (hT : st.ts = T) : CallsM Tryz.prog ΓL 93 [(0, Rz L st 1 2 3 4), (3, Xr X), (4, Tr T)] 5 [P0, gD [di 9, di 0, db false, ds ⟨#[]⟩, dnil, di x, di n, .sl 2 (cs.map caD)]] (Ti st.ts.length) [(0, Rz L st 1 2 3 5), (4, .dead)] [Tr (st.ts ++ [⟨9, 0, false, [], [], x, n, cs⟩])] :=
 (rlay2_c (L := L) st ⟨9, 0, false, [], [], x, n, cs⟩ hx X T hT).argsLe (.cons T1Le.rfl (.cons (T1Le.g (.cons DLe.rfl (.cons DLe.rfl (.cons DLe.rfl (.cons DLe.rfl (.cons DLe.nil (.cons DLe.rfl (.cons DLe.rfl (.cons DLe.rfl .nil))))))))) .nil))
set_option maxHeartbeats 8000000 in
theorem rchoice_c (hL : TokOk L) (hn : L.length ≤ 100000) (hm : m ≤ 32) {kd : PM Int} {kd' : RM Int} {c : Nat} (hsm : ∀ m', m = m' + 1 → Sim L m' kd kd' 0 0 c 0) (hc : 1 ≤ c) (hc2 : c ≤ 400) (b1 : ∀ st, st.err ≠ 0 → kd' st = (0, st))
  (hkd : ∀ m', m = m' + 1 → ∀ st, Gd L m' 0 1000 st → W2 L 69 [] kd' (fun k => Ti k) st) (hke : ∀ st, st.err ≠ 0 → st.err ≤ 10 → W2 L 69 [] kd' (fun k => Ti k) st)
  (st : RSt) (hg : Gd L m 0 900 st) : W2 L 94 [] (choiceR L m kd') (fun k => Ti k) st := fun v st' hT X T hX hTt => by
 subst hX
 subst hTt
 have kx_st : st.xs = st.xs := rfl
 have kt_st : st.ts = st.ts := rfl
 have hin : ∀ st, Gd L m 0 990 st → W2 L 92 [] (innerR L kd') (fun k => Ti k) st := fun st hg => rinner_c hn hm hsm hc (by omega) b1 hkd hke st hg
 have hsi := fun a => sim_inner (m := m) hsm (fun s h => by rw [b1 s h]; exact Stay.rfl) hc a
 unfold choiceR at hT
 refine fn_ruleP (C := ⟨Tryz.prog, layF, Tryz.f94.ntmps, ΓL, 5, [], [16]⟩) layF_ok mixed Tryz.func94 rfl (by kernel_rfl) rfl rfl rfl startR2 ?_
 repeat' (first | refine qgs ?_ | refine eD ?_ ?_ <;> intro)
 rcases h1 : (takeR L t_lpar) (st) with ⟨_, st1⟩
 replace hT := (rand h1).symm.trans hT
 refine sC (CallsM.ren ((rtake_c st hg.i hn t_lpar) _ _ h1) [0, 1, 2, 5, 6] 8 rfl rfl rfl rfl) ?_
 have kx_st1 := (keep_take h1).1.trans kx_st
 have kt_st1 := (keep_take h1).2.trans kt_st
 have hg1 := (Sim.take (m := m) hL t_lpar 0).gd hg (by omega) h1
 repeat' (first | refine qgs ?_ | refine eD ?_ ?_ <;> intro)
 rcases h2 : (exprR L m) (st1) with ⟨x, st2⟩
 replace hT := (rand h2).symm.trans hT
 refine sC (CallsM.ren ((rexpr_c hL hn hm st1 (hg1.le (by omega) (by omega))) _ _ h2 _ kx_st1) [0, 1, 2, 5, 6] 8 rfl rfl rfl rfl) ?_
 have kx_st2 : st2.xs = st2.xs := rfl
 have kt_st2 := ((keepT_expr m).eq h2).trans kt_st1
 have hg2 := (sim_expr hL m 1).gd hg1 (by omega) h2
 repeat' (first | refine qgs ?_ | refine eD ?_ ?_ <;> intro)
 rcases h3 : (takeR L t_rpar) (st2) with ⟨_, st3⟩
 replace hT := (rand h3).symm.trans hT
 refine sC (CallsM.ren ((rtake_c st2 hg2.i hn t_rpar) _ _ h3) [0, 1, 2, 8, 6] 9 rfl rfl rfl rfl) ?_
 have kx_st3 := (keep_take h3).1.trans kx_st2
 have kt_st3 := (keep_take h3).2.trans kt_st2
 have hg3 := (Sim.take (m := m) hL t_rpar 1).gd hg2 (by omega) h3
 repeat' (first | refine qgs ?_ | refine eD ?_ ?_ <;> intro)
 rcases h4 : (takeR L t_lcur) (st3) with ⟨_, st4⟩
 replace hT := (rand h4).symm.trans hT
 refine sC (CallsM.ren ((rtake_c st3 hg3.i hn t_lcur) _ _ h4) [0, 1, 2, 8, 6] 9 rfl rfl rfl rfl) ?_
 have kx_st4 := (keep_take h4).1.trans kx_st3
 have kt_st4 := (keep_take h4).2.trans kt_st3
 have hg4 := (Sim.take (m := m) hL t_lcur 2).gd hg3 (by omega) h4
 repeat' (first | refine qgs ?_ | refine eD ?_ ?_ <;> intro)
 obtain ⟨K, hK⟩ : ∃ K : List CA → RM Int, (fun cs : List CA => atR (isV L · w_else) (guardR (-1) (takeR L w_else >>= fun _ => takeR L t_colon >>= fun _ => innerR L kd' >>= fun k => takeR L t_semi >>= fun _ => pure k)) (pure (-1)) >>= fun k => takeR L t_rcur >>= fun _ => layR ({ tyP 9 with ex := x, inn := k, cases := cs } : TY)) = K := ⟨_, rfl⟩
 replace hT : (casesR L kd' (L.length - st4.i + 1) [] >>= K) st4 = (v, st') := by rw [← hK]; exact hT
 refine ex_join (X := RSt × List EX × List TY × List CA) (fun ⟨s, xl, tl, cs⟩ => ⟨[(0, .o P0), (3, .o (.c (.ptr 7 0)))], [(0, Rz L s 1 2 9 10), (3, .dead), (4, .dead), (7, .obj [.d (di 9), .d (di 0), .d (db false), .d (ds ⟨#[]⟩), .d dnil, .d (di x), .d (di (-1)), .row 11]), (9, Xr xl), (10, Tr tl), (11, .row 2 233 (cs.map caD))], 12⟩) (fun ⟨s, xl, tl, cs⟩ => Gd L m 3 920 s ∧ s.xs = xl ∧ s.ts = tl ∧ cs.length ≤ L.length + 1 ∧ K cs s = (v, st')) ?_ ?_
 ·refine ex_loop (X := RSt × List EX × List TY × List CA × Nat) (fun ⟨s, xl, tl, cs, _⟩ => ⟨[(0, .o P0), (3, .o (.c (.ptr 7 0)))], [(0, Rz L s 1 2 9 10), (3, .dead), (4, .dead), (7, .obj [.d (di 9), .d (di 0), .d (db false), .d (ds ⟨#[]⟩), .d dnil, .d (di x), .d (di (-1)), .row 11]), (9, Xr xl), (10, Tr tl), (11, .row 2 233 (cs.map caD))], 12⟩) (fun y => y.2.2.2.2)
   (fun ⟨s, xl, tl, cs, n⟩ => Gd L m 3 920 s ∧ s.xs = xl ∧ s.ts = tl ∧ (s.err = 0 → L.length < s.i + n ∧ cs.length ≤ s.i) ∧ cs.length ≤ L.length + 1 ∧ (casesR L kd' n cs >>= K) s = (v, st')) (st4, st2.xs, st.ts, [], L.length - st4.i + 1) ⟨hg4.le (by omega) (by omega), kx_st4, kt_st4, fun _ => ⟨by have := hg4.i; omega, Nat.zero_le _⟩, Nat.zero_le _, hT⟩ ?_ ?_
  ·exact SLe.thru (SLe.ownCell 7 7 9 2 233 rfl rfl rfl rfl rfl rfl) (sR [(0, 0), (1, 1), (2, 2), (3, 3), (4, 4), (7, 7), (8, 9), (6, 10), (9, 11)])
  clear hT kx_st1 kt_st1 kx_st2 kt_st2 kx_st3 kt_st3 kx_st4 kt_st4 kx_st kt_st hg4 hg3 hg2 hg1 h1 h2 h3 h4 hg
  rintro ⟨s, xl, tl, cs, n⟩ ⟨hs, kx_s, kt_s, hf, hcl, hT⟩
  have hsi9 := hs.i
  have h10 := hs.e
  by_cases he : s.err = 0
  ·obtain ⟨hf, hll⟩ := hf he
   cases n with
   | zero => omega
   | succ n =>
    rw [casesR] at hT
    replace hT := gdRyB hT he
    have his := ris_c s hsi9 w_case
    rcases hv : isV L s.i w_case with _ | _ <;> rw [hv] at his
    ·replace hT := atRnB hT hv
     replace hT : K cs s = (v, st') := hT
     repeat' (first | refine qgs ?_ | refine eD ?_ ?_ <;> intro)
     refine sC (CallsM.ren (his) [0, 1, 2, 9, 10] 12 rfl rfl rfl rfl) ?_
     repeat' (first | refine qgs ?_ | refine eD ?_ ?_ <;> intro)
     exact ex_meet (s, xl, tl, cs) ⟨hs, kx_s, kt_s, hcl, hT⟩ sS
    ·replace hT := atRyB hT hv
     have hs0 := hs.fresh he 400
     replace hT : (roomR cs.length >>= fun _ => takeR L w_case >>= fun _ => numberR L >>= fun c => takeR L t_colon >>= fun _ => innerR L kd' >>= fun k => takeR L t_semi >>= fun _ => casesR L kd' n (cs ++ [⟨c, k⟩]) >>= K) s = (v, st') := hT
     repeat' (first | refine qgs ?_ | refine eD ?_ ?_ <;> intro)
     refine sC (CallsM.ren (his) [0, 1, 2, 9, 10] 12 rfl rfl rfl rfl) ?_
     repeat' (first | refine ex_is cs.length (by simp) ?_ | refine qg1 ?_ | refine eD ?_ ?_ <;> intro)
     rcases q1 : (roomR cs.length) (s) with ⟨_, s1⟩
     replace hT := (rand q1).symm.trans hT
     refine sC (CallsM.ren ((rroom_c s cs.length (by omega)) _ _ q1) [0, 1, 2, 9, 10] 12 rfl rfl rfl rfl) ?_
     have kx_s1 := (keep_room q1).1.trans kx_s
     have kt_s1 := (keep_room q1).2.trans kt_s
     have g1 := (Sim.room (L := L) (m := m) cs.length 3).gd hs0 (by omega) q1
     have i1 := room_i q1
     repeat' (first | refine qgs ?_ | refine eD ?_ ?_ <;> intro)
     rcases q2 : (takeR L w_case) (s1) with ⟨_, s2⟩
     replace hT := (rand q2).symm.trans hT
     refine sC (CallsM.ren ((rtake_c s1 g1.i hn w_case) _ _ q2) [0, 1, 2, 9, 10] 12 rfl rfl rfl rfl) ?_
     have kx_s2 := (keep_take q2).1.trans kx_s1
     have kt_s2 := (keep_take q2).2.trans kt_s1
     have g2 := (Sim.take (m := m) hL w_case 3).gd g1 (by omega) q2
     repeat' (first | refine qgs ?_ | refine eD ?_ ?_ <;> intro)
     rcases q3 : (numberR L) (s2) with ⟨u, s3⟩
     replace hT := (rand q3).symm.trans hT
     refine sC (CallsM.ren ((rnum_c s2 g2.i hn) _ _ q3) [0, 1, 2, 9, 10] 12 rfl rfl rfl rfl) ?_
     have kx_s3 := (keep_num q3).1.trans kx_s2
     have kt_s3 := (keep_num q3).2.trans kt_s2
     have g3 := (Sim.number (m := m) hL 4).gd g2 (by omega) q3
     repeat' (first | refine qgs ?_ | refine eD ?_ ?_ <;> intro)
     rcases q4 : (takeR L t_colon) (s3) with ⟨_, s4⟩
     replace hT := (rand q4).symm.trans hT
     refine sC (CallsM.ren ((rtake_c s3 g3.i hn t_colon) _ _ q4) [0, 1, 2, 9, 10] 12 rfl rfl rfl rfl) ?_
     have kx_s4 := (keep_take q4).1.trans kx_s3
     have kt_s4 := (keep_take q4).2.trans kt_s3
     have g4 := (Sim.take (m := m) hL t_colon 5).gd g3 (by omega) q4
     repeat' (first | refine qgs ?_ | refine eD ?_ ?_ <;> intro)
     rcases q5 : (innerR L kd') (s4) with ⟨k, s5⟩
     replace hT := (rand q5).symm.trans hT
     refine sC (CallsM.ren ((hin s4 (g4.le (by omega) (by omega))) _ _ q5 _ _ kx_s4 kt_s4) [0, 1, 2, 9, 10] 12 rfl rfl rfl rfl) ?_
     have kx_s5 : s5.xs = s5.xs := rfl
     have kt_s5 : s5.ts = s5.ts := rfl
     have g5 := (hsi 6).gd g4 (by omega) q5
     repeat' (first | refine qgs ?_ | refine eD ?_ ?_ <;> intro)
     rcases q6 : (takeR L t_semi) (s5) with ⟨_, s6⟩
     replace hT := (rand q6).symm.trans hT
     refine sC (CallsM.ren ((rtake_c s5 g5.i hn t_semi) _ _ q6) [0, 1, 2, 12, 13] 14 rfl rfl rfl rfl) ?_
     have kx_s6 := (keep_take q6).1.trans kx_s5
     have kt_s6 := (keep_take q6).2.trans kt_s5
     have g6 := (Sim.take (m := m) hL t_semi 6).gd g5 (by omega) q6
     have hgrow : s6.err = 0 → s.i + 1 ≤ s6.i := fun h6 => by
      have a6 := (Sim.take (m := m) hL t_semi 6).grow g5 q6 h6
      have a5 := (hsi 6).grow g4 q5 a6.1
      have a4 := (Sim.take (m := m) hL t_colon 5).grow g3 q4 a5.1
      have a3 := (Sim.number (m := m) hL 4).grow g2 q3 a4.1
      have a2 := (Sim.take (m := m) hL w_case 3).grow g1 q2 a3.1
      rw [take_yes a2.1 (by rw [i1]; exact hv)] at q2
      obtain rfl := congrArg Prod.snd q2
      have a3' : s1.i + 1 ≤ s3.i := a3.2
      omega
     have hlc : (cs ++ [(⟨u, k⟩ : CA)]).length = cs.length + 1 := by simp
     repeat' (first | refine qgs ?_ | refine eD ?_ ?_ <;> intro)
     refine ex_app (cs.length) (1) 1000 (by first | rfl | (simp; done) | (simp; omega)) (by first | rfl | (simp; done) | (simp; omega)) rfl (by omega) ?_
     refine ex_is (List.map caD (cs ++ [⟨u, k⟩])) (by rw [List.map_append]; rfl) ?_
     repeat' (first | refine qgs ?_ | refine eD ?_ ?_ <;> intro)
     exact ex_round (s6, s5.xs, s5.ts, cs ++ [⟨u, k⟩], n) ⟨g6.le (by omega) (by omega), kx_s6, kt_s6, fun h => ⟨by have := hgrow h; omega, by rw [hlc]; have := hgrow h; omega⟩, by rw [hlc]; omega, hT⟩ (by show n < n + 1; omega) (sR [(0, 0), (1, 1), (2, 2), (3, 3), (4, 4), (7, 7), (12, 9), (13, 10), (15, 11)])
  ·replace hT := (rand (casesR_err he n cs)).symm.trans hT
   repeat' (first | refine qgs ?_ | refine eD ?_ ?_ <;> intro)
   exact ex_meet (s, xl, tl, cs) ⟨hs, kx_s, kt_s, hcl, hT⟩ sS
 ·clear hT kx_st1 kt_st1 kx_st2 kt_st2 kx_st3 kt_st3 kx_st4 kt_st4 kx_st kt_st hg4 hg3 hg2 hg1 h1 h2 h3 h4 hg
  rintro ⟨s, xl, tl, cs⟩ ⟨hs, kx_s, kt_s, hcl, hT⟩
  rw [← hK] at hT
  clear hK
  have hsi9 := hs.i
  have h10 := hs.e
  have his := ris_c s hsi9 w_else
  rcases hv : isV L s.i w_else with _ | _ <;> rw [hv] at his
  ·replace hT := atRnB hT hv
   replace hT : (takeR L t_rcur >>= fun _ => layR ({ tyP 9 with ex := x, inn := -1, cases := cs } : TY)) s = (v, st') := hT
   repeat' (first | refine qgs ?_ | refine eD ?_ ?_ <;> intro)
   refine sC (CallsM.ren (his) [0, 1, 2, 9, 10] 12 rfl rfl rfl rfl) ?_
   repeat' (first | refine qgs ?_ | refine eD ?_ ?_ <;> intro)
   rcases q1 : (takeR L t_rcur) (s) with ⟨_, s1⟩
   replace hT := (rand q1).symm.trans hT
   refine sC (CallsM.ren ((rtake_c s hsi9 hn t_rcur) _ _ q1) [0, 1, 2, 9, 10] 12 rfl rfl rfl rfl) ?_
   have kx_s1 := (keep_take q1).1.trans kx_s
   have kt_s1 := (keep_take q1).2.trans kt_s
   have g1 := (Sim.take (m := m) hL t_rcur 3).gd hs (by omega) q1
   have ht1 := g1.t
   obtain rfl : (s1.ts.length : Int) = v := congrArg Prod.fst hT
   obtain rfl : { s1 with ts := s1.ts ++ [({ tyP 9 with ex := x, inn := -1, cases := cs } : TY)] } = st' := congrArg Prod.snd hT
   repeat' (first | refine qgs ?_ | refine eD ?_ ?_ <;> intro)
   refine sC (CallsM.ren ((rlayc_c (L := L) s1 x (-1) cs (by omega) xl _ kt_s1)) [0, 1, 2, 9, 10] 12 rfl rfl rfl rfl) ?_
   repeat' (first | refine qgs ?_ | refine eD ?_ ?_ <;> intro)
   subst kx_s1
   exact ⟨rfl, TLe.rfl, rfl, rfl⟩
  ·replace hT := atRyB hT hv
   by_cases he : s.err = 0
   ·replace hT := gdRyB hT he
    replace hT : (takeR L w_else >>= fun _ => takeR L t_colon >>= fun _ => innerR L kd' >>= fun k => takeR L t_semi >>= fun _ => takeR L t_rcur >>= fun _ => layR ({ tyP 9 with ex := x, inn := k, cases := cs } : TY)) s = (v, st') := hT
    have hs0 := hs.fresh he 400
    repeat' (first | refine qgs ?_ | refine eD ?_ ?_ <;> intro)
    refine sC (CallsM.ren (his) [0, 1, 2, 9, 10] 12 rfl rfl rfl rfl) ?_
    repeat' (first | refine qgs ?_ | refine eD ?_ ?_ <;> intro)
    rcases q1 : (takeR L w_else) (s) with ⟨_, s1⟩
    replace hT := (rand q1).symm.trans hT
    refine sC (CallsM.ren ((rtake_c s hsi9 hn w_else) _ _ q1) [0, 1, 2, 9, 10] 12 rfl rfl rfl rfl) ?_
    have kx_s1 := (keep_take q1).1.trans kx_s
    have kt_s1 := (keep_take q1).2.trans kt_s
    have g1 := (Sim.take (m := m) hL w_else 3).gd hs0 (by omega) q1
    repeat' (first | refine qgs ?_ | refine eD ?_ ?_ <;> intro)
    rcases q2 : (takeR L t_colon) (s1) with ⟨_, s2⟩
    replace hT := (rand q2).symm.trans hT
    refine sC (CallsM.ren ((rtake_c s1 g1.i hn t_colon) _ _ q2) [0, 1, 2, 9, 10] 12 rfl rfl rfl rfl) ?_
    have kx_s2 := (keep_take q2).1.trans kx_s1
    have kt_s2 := (keep_take q2).2.trans kt_s1
    have g2 := (Sim.take (m := m) hL t_colon 4).gd g1 (by omega) q2
    repeat' (first | refine qgs ?_ | refine eD ?_ ?_ <;> intro)
    rcases q3 : (innerR L kd') (s2) with ⟨k, s3⟩
    replace hT := (rand q3).symm.trans hT
    refine sC (CallsM.ren ((hin s2 (g2.le (by omega) (by omega))) _ _ q3 _ _ kx_s2 kt_s2) [0, 1, 2, 9, 10] 12 rfl rfl rfl rfl) ?_
    have kx_s3 : s3.xs = s3.xs := rfl
    have kt_s3 : s3.ts = s3.ts := rfl
    have g3 := (hsi 5).gd g2 (by omega) q3
    repeat' (first | refine qgs ?_ | refine eD ?_ ?_ <;> intro)
    rcases q4 : (takeR L t_semi) (s3) with ⟨_, s4⟩
    replace hT := (rand q4).symm.trans hT
    refine sC (CallsM.ren ((rtake_c s3 g3.i hn t_semi) _ _ q4) [0, 1, 2, 12, 13] 14 rfl rfl rfl rfl) ?_
    have kx_s4 := (keep_take q4).1.trans kx_s3
    have kt_s4 := (keep_take q4).2.trans kt_s3
    have g4 := (Sim.take (m := m) hL t_semi 5).gd g3 (by omega) q4
    repeat' (first | refine qgs ?_ | refine eD ?_ ?_ <;> intro)
    rcases q5 : (takeR L t_rcur) (s4) with ⟨_, s5⟩
    replace hT := (rand q5).symm.trans hT
    refine sC (CallsM.ren ((rtake_c s4 g4.i hn t_rcur) _ _ q5) [0, 1, 2, 12, 13] 14 rfl rfl rfl rfl) ?_
    have kx_s5 := (keep_take q5).1.trans kx_s4
    have kt_s5 := (keep_take q5).2.trans kt_s4
    have g5 := (Sim.take (m := m) hL t_rcur 6).gd g4 (by omega) q5
    have ht1 := g5.t
    obtain rfl : (s5.ts.length : Int) = v := congrArg Prod.fst hT
    obtain rfl : { s5 with ts := s5.ts ++ [({ tyP 9 with ex := x, inn := k, cases := cs } : TY)] } = st' := congrArg Prod.snd hT
    repeat' (first | refine qgs ?_ | refine eD ?_ ?_ <;> intro)
    refine sC (CallsM.ren ((rlayc_c (L := L) s5 x k cs (by omega) s3.xs _ kt_s5)) [0, 1, 2, 12, 13] 14 rfl rfl rfl rfl) ?_
    repeat' (first | refine qgs ?_ | refine eD ?_ ?_ <;> intro)
    rw [← kx_s5]
    exact ⟨rfl, TLe.rfl, rfl, rfl⟩
   ·replace hT := gdRnB hT he
    replace hT : (takeR L t_rcur >>= fun _ => layR ({ tyP 9 with ex := x, inn := -1, cases := cs } : TY)) s = (v, st') := hT
    repeat' (first | refine qgs ?_ | refine eD ?_ ?_ <;> intro)
    refine sC (CallsM.ren (his) [0, 1, 2, 9, 10] 12 rfl rfl rfl rfl) ?_
    repeat' (first | refine qgs ?_ | refine eD ?_ ?_ <;> intro)
    rcases q1 : (takeR L t_rcur) (s) with ⟨_, s1⟩
    replace hT := (rand q1).symm.trans hT
    refine sC (CallsM.ren ((rtake_c s hsi9 hn t_rcur) _ _ q1) [0, 1, 2, 9, 10] 12 rfl rfl rfl rfl) ?_
    have kx_s1 := (keep_take q1).1.trans kx_s
    have kt_s1 := (keep_take q1).2.trans kt_s
    have g1 := (Sim.take (m := m) hL t_rcur 3).gd hs (by omega) q1
    have ht1 := g1.t
    obtain rfl : (s1.ts.length : Int) = v := congrArg Prod.fst hT
    obtain rfl : { s1 with ts := s1.ts ++ [({ tyP 9 with ex := x, inn := -1, cases := cs } : TY)] } = st' := congrArg Prod.snd hT
    repeat' (first | refine qgs ?_ | refine eD ?_ ?_ <;> intro)
    refine sC (CallsM.ren ((rlayc_c (L := L) s1 x (-1) cs (by omega) xl _ kt_s1)) [0, 1, 2, 9, 10] 12 rfl rfl rfl rfl) ?_
    repeat' (first | refine qgs ?_ | refine eD ?_ ?_ <;> intro)
    subst kx_s1
    exact ⟨rfl, TLe.rfl, rfl, rfl⟩
end
end Go.Proofs.YtoingpafcodojaaGreatDoor
