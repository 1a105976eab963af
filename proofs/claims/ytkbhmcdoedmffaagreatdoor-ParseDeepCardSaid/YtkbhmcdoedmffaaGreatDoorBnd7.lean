/- Texts that the last one leans on: Plain law of ParseDeep: so many types, parentheses, signs, fields, structs may be, one more may not. By evaluation. Condition: none. -/
import Derived.Test.YtkbhmcdoedmffaaGreatDoorBnd1
import Derived.Test.YtkbhmcdoedmffaaGreatDoorBnd2
import Derived.Test.YtkbhmcdoedmffaaGreatDoorBnd3
import Derived.Test.YtkbhmcdoedmffaaGreatDoorBnd4
import Derived.Test.YtkbhmcdoedmffaaGreatDoorBnd5
import Derived.Test.YtkbhmcdoedmffaaGreatDoorBnd6
namespace Go.Proofs.YtkbhmcdoedmffaaGreatDoor
set_option linter.unusedVariables false
set_option linter.unusedSimpArgs false
set_option maxRecDepth 100000
def rep (n : Nat) (l : List UInt8) : List UInt8 := (List.replicate n l).flatten
def errOf : FR → Nat
  | .ok _ _ _ _ => 0
  | .err _ _ e => e
def dT0 (k : Nat) : List UInt8 := [115, 116, 114, 117, 99, 116, 32, 83, 32, 123, 32, 97, 58, 32] ++ rep k [114, 101, 115, 116, 32] ++ [117, 56, 59, 32, 125]
def dT1 (k : Nat) : List UInt8 := [115, 116, 114, 117, 99, 116, 32, 83, 32, 123, 32, 97, 58, 32, 98, 121, 116, 101, 115, 91] ++ rep k [40] ++ [49] ++ rep k [41] ++ [93, 59, 32, 125]
def dT2 (k : Nat) : List UInt8 := [115, 116, 114, 117, 99, 116, 32, 83, 32, 123, 32, 97, 58, 32, 98, 121, 116, 101, 115, 91] ++ rep k [33] ++ [49, 93, 59, 32, 125]
def dT3 (k : Nat) : List UInt8 := [115, 116, 114, 117, 99, 116, 32, 83, 32, 123, 32] ++ rep k [97, 58, 32, 117, 56, 59, 32] ++ [125]
def dT4 (k : Nat) : List UInt8 := rep k [115, 116, 114, 117, 99, 116, 32, 83, 32, 123, 32, 125, 32]
def dT (k : Nat) : List (List UInt8) := [dT0 k, dT1 k, dT2 k, dT3 k, dT4 k]
theorem deep_ok0 : ((List.range 70).all fun k => Nat.beq (errOf (fileV (lexF (dT0 k) 1 1))) (if 32 < k then 8 else 0)) = true := by decide +kernel
theorem deep_ok1 : ((List.range 70).all fun k => Nat.beq (errOf (fileV (lexF (dT1 k) 1 1))) (if 32 < k then 8 else 0)) = true := by decide +kernel
theorem deep_ok2 : ((List.range 70).all fun k => Nat.beq (errOf (fileV (lexF (dT2 k) 1 1))) (if 32 < k then 8 else 0)) = true := by decide +kernel
theorem deep_ok3_0 : ((List.range 10).all fun k => Nat.beq (errOf (fileV (lexF (dT3 (0 + k)) 1 1))) (if 64 < (0 + k) then 10 else 0)) = true := by decide +kernel
theorem deep_ok3_1 : ((List.range 10).all fun k => Nat.beq (errOf (fileV (lexF (dT3 (10 + k)) 1 1))) (if 64 < (10 + k) then 10 else 0)) = true := by decide +kernel
theorem deep_ok3_2 : ((List.range 10).all fun k => Nat.beq (errOf (fileV (lexF (dT3 (20 + k)) 1 1))) (if 64 < (20 + k) then 10 else 0)) = true := by decide +kernel
theorem deep_ok3_3 : ((List.range 10).all fun k => Nat.beq (errOf (fileV (lexF (dT3 (30 + k)) 1 1))) (if 64 < (30 + k) then 10 else 0)) = true := by decide +kernel
theorem deep_ok3_4 : ((List.range 10).all fun k => Nat.beq (errOf (fileV (lexF (dT3 (40 + k)) 1 1))) (if 64 < (40 + k) then 10 else 0)) = true := by decide +kernel
theorem deep_ok3_5 : ((List.range 10).all fun k => Nat.beq (errOf (fileV (lexF (dT3 (50 + k)) 1 1))) (if 64 < (50 + k) then 10 else 0)) = true := by decide +kernel
theorem deep_ok3_6 : ((List.range 10).all fun k => Nat.beq (errOf (fileV (lexF (dT3 (60 + k)) 1 1))) (if 64 < (60 + k) then 10 else 0)) = true := by decide +kernel
theorem deep_ok3 {k : Nat} (h : k < 70) : errOf (fileV (lexF (dT3 k) 1 1)) = (if 64 < k then 10 else 0) := by
  by_cases h0 : k < 10
  · obtain ⟨j, rfl⟩ : ∃ j, k = 0 + j := ⟨k - 0, by omega⟩
    exact Nat.eq_of_beq_eq_true (List.all_eq_true.1 deep_ok3_0 j (List.mem_range.2 (by omega)))
  by_cases h1 : k < 20
  · obtain ⟨j, rfl⟩ : ∃ j, k = 10 + j := ⟨k - 10, by omega⟩
    exact Nat.eq_of_beq_eq_true (List.all_eq_true.1 deep_ok3_1 j (List.mem_range.2 (by omega)))
  by_cases h2 : k < 30
  · obtain ⟨j, rfl⟩ : ∃ j, k = 20 + j := ⟨k - 20, by omega⟩
    exact Nat.eq_of_beq_eq_true (List.all_eq_true.1 deep_ok3_2 j (List.mem_range.2 (by omega)))
  by_cases h3 : k < 40
  · obtain ⟨j, rfl⟩ : ∃ j, k = 30 + j := ⟨k - 30, by omega⟩
    exact Nat.eq_of_beq_eq_true (List.all_eq_true.1 deep_ok3_3 j (List.mem_range.2 (by omega)))
  by_cases h4 : k < 50
  · obtain ⟨j, rfl⟩ : ∃ j, k = 40 + j := ⟨k - 40, by omega⟩
    exact Nat.eq_of_beq_eq_true (List.all_eq_true.1 deep_ok3_4 j (List.mem_range.2 (by omega)))
  by_cases h5 : k < 60
  · obtain ⟨j, rfl⟩ : ∃ j, k = 50 + j := ⟨k - 50, by omega⟩
    exact Nat.eq_of_beq_eq_true (List.all_eq_true.1 deep_ok3_5 j (List.mem_range.2 (by omega)))
  by_cases h6 : k < 70
  · obtain ⟨j, rfl⟩ : ∃ j, k = 60 + j := ⟨k - 60, by omega⟩
    exact Nat.eq_of_beq_eq_true (List.all_eq_true.1 deep_ok3_6 j (List.mem_range.2 (by omega)))
  omega
theorem deep_ok4_0 : ((List.range 10).all fun k => Nat.beq (errOf (fileV (lexF (dT4 (0 + k)) 1 1))) (if 64 < (0 + k) then 10 else 0)) = true := by decide +kernel
theorem deep_ok4_1 : ((List.range 10).all fun k => Nat.beq (errOf (fileV (lexF (dT4 (10 + k)) 1 1))) (if 64 < (10 + k) then 10 else 0)) = true := by decide +kernel
theorem deep_ok4_2 : ((List.range 10).all fun k => Nat.beq (errOf (fileV (lexF (dT4 (20 + k)) 1 1))) (if 64 < (20 + k) then 10 else 0)) = true := by decide +kernel
theorem deep_ok4_3 : ((List.range 10).all fun k => Nat.beq (errOf (fileV (lexF (dT4 (30 + k)) 1 1))) (if 64 < (30 + k) then 10 else 0)) = true := by decide +kernel
theorem deep_ok4_4 : ((List.range 10).all fun k => Nat.beq (errOf (fileV (lexF (dT4 (40 + k)) 1 1))) (if 64 < (40 + k) then 10 else 0)) = true := by decide +kernel
theorem deep_ok4_5 : ((List.range 10).all fun k => Nat.beq (errOf (fileV (lexF (dT4 (50 + k)) 1 1))) (if 64 < (50 + k) then 10 else 0)) = true := by decide +kernel
theorem deep_ok4_6 : ((List.range 10).all fun k => Nat.beq (errOf (fileV (lexF (dT4 (60 + k)) 1 1))) (if 64 < (60 + k) then 10 else 0)) = true := by decide +kernel
theorem deep_ok4 {k : Nat} (h : k < 70) : errOf (fileV (lexF (dT4 k) 1 1)) = (if 64 < k then 10 else 0) := by
  by_cases h0 : k < 10
  · obtain ⟨j, rfl⟩ : ∃ j, k = 0 + j := ⟨k - 0, by omega⟩
    exact Nat.eq_of_beq_eq_true (List.all_eq_true.1 deep_ok4_0 j (List.mem_range.2 (by omega)))
  by_cases h1 : k < 20
  · obtain ⟨j, rfl⟩ : ∃ j, k = 10 + j := ⟨k - 10, by omega⟩
    exact Nat.eq_of_beq_eq_true (List.all_eq_true.1 deep_ok4_1 j (List.mem_range.2 (by omega)))
  by_cases h2 : k < 30
  · obtain ⟨j, rfl⟩ : ∃ j, k = 20 + j := ⟨k - 20, by omega⟩
    exact Nat.eq_of_beq_eq_true (List.all_eq_true.1 deep_ok4_2 j (List.mem_range.2 (by omega)))
  by_cases h3 : k < 40
  · obtain ⟨j, rfl⟩ : ∃ j, k = 30 + j := ⟨k - 30, by omega⟩
    exact Nat.eq_of_beq_eq_true (List.all_eq_true.1 deep_ok4_3 j (List.mem_range.2 (by omega)))
  by_cases h4 : k < 50
  · obtain ⟨j, rfl⟩ : ∃ j, k = 40 + j := ⟨k - 40, by omega⟩
    exact Nat.eq_of_beq_eq_true (List.all_eq_true.1 deep_ok4_4 j (List.mem_range.2 (by omega)))
  by_cases h5 : k < 60
  · obtain ⟨j, rfl⟩ : ∃ j, k = 50 + j := ⟨k - 50, by omega⟩
    exact Nat.eq_of_beq_eq_true (List.all_eq_true.1 deep_ok4_5 j (List.mem_range.2 (by omega)))
  by_cases h6 : k < 70
  · obtain ⟨j, rfl⟩ : ∃ j, k = 60 + j := ⟨k - 60, by omega⟩
    exact Nat.eq_of_beq_eq_true (List.all_eq_true.1 deep_ok4_6 j (List.mem_range.2 (by omega)))
  omega
end Go.Proofs.YtkbhmcdoedmffaaGreatDoor
