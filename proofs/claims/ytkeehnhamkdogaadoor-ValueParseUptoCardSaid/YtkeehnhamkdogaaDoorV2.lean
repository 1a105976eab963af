/- Values: same, Equal, lean, count, Good. Condition: a value is made of at most 2^62 ones. -/
import Derived.Test.YtkeehnhamkdogaaDoorV1
namespace Go.Proofs.YtkeehnhamkdogaaDoor
set_option linter.unusedVariables false
set_option linter.unusedSimpArgs false
open Go.RowKit
set_option maxRecDepth 100000

mutual
/-- Of how many values it is made. -/
def PV.num : PV → Nat
  | .mk _ _ _ l => 1 + numL l
def numL : List PV → Nat
  | [] => 0
  | t :: ts => t.num + numL ts
end
theorem num_pos : ∀ t : PV, 1 ≤ t.num
  | .mk _ _ _ l => by rw [PV.num]; omega
theorem numL_len : ∀ l : List PV, l.length ≤ numL l
  | [] => by simp [numL]
  | t :: ts => by
    have := num_pos t
    have := numL_len ts
    rw [numL, List.length_cons]; omega
theorem numL_at : ∀ {l : List PV} {i : Nat} (h : i < l.length), l[i].num ≤ numL l
  | t :: ts, 0, _ => by rw [numL, List.getElem_cons_zero]; omega
  | t :: ts, i + 1, h => by
    have := numL_at (l := ts) (i := i) (by simpa using h)
    rw [numL, List.getElem_cons_succ]; omega
mutual
def sameP : PV → PV → Bool
  | .mk k n b l, .mk k' n' b' l' => decide (k = k') && decide (n = n') && decide (b = b') && sameL l l'
def sameL : List PV → List PV → Bool
  | [], [] => true
  | x :: xs, y :: ys => sameP x y && sameL xs ys
  | _, _ => false
end
theorem sameL_len : ∀ {l l' : List PV}, l.length ≠ l'.length → sameL l l' = false
  | [], [], h => absurd rfl h
  | [], _ :: _, _ => by simp [sameL]
  | _ :: _, [], _ => by simp [sameL]
  | x :: xs, y :: ys, h => by
    simp only [sameL]
    rw [sameL_len (by simpa using h), Bool.and_false]
mutual
theorem sameP_rfl : ∀ t : PV, sameP t t = true
  | .mk k n b l => by simp [sameP, sameL_rfl l]
theorem sameL_rfl : ∀ l : List PV, sameL l l = true
  | [] => by simp [sameL]
  | t :: ts => by simp [sameL, sameP_rfl t, sameL_rfl ts]
end
theorem vsame_c : ∀ (a b : PV), a.num ≤ 4611686018427387904 → CallsA Tryd.prog Γ0 41 [gD (drow a), gD (drow b)] (.o (c1 (db (sameP a b))))
  | .mk k n b l, .mk k' n' b' l', ha => by
    rw [PV.num] at ha
    have hll := numL_len l
    obtain ⟨R, hR⟩ : ∃ R, sameL l l' = R := ⟨_, rfl⟩
    have hs : sameP (.mk k n b l) (.mk k' n' b' l') = (decide (k = k') && decide (n = n') && decide (b = b') && R) := by rw [sameP, hR]
    have ih : ∀ i (h : i < l.length) (h' : i < l'.length), CallsA Tryd.prog Γ0 41 [gD (drow l[i]), gD (drow l'[i])] (.o (c1 (db (sameP l[i] l'[i])))) := fun i h h' => vsame_c l[i] l'[i] (by have := numL_at h; omega)
    obtain ⟨T, hT⟩ : ∃ T, sameP (.mk k n b l) (.mk k' n' b' l') = T := ⟨_, rfl⟩
    rw [hT, drow_mk, drow_mk]
    rw [hs] at hT
    refine fn_rule (C := ⟨Tryd.prog, layF, Tryd.f41.ntmps, Γ0, 0, [], []⟩) layF_ok mixed Tryd.func41 rfl (by kernel_rfl) rfl rfl rfl ?_
    refine ex_dec (fun h1 => ?_) (fun h1 => ?_)
    · exact TLe.eq (by rw [← hT, decide_eq_false h1]; rfl)
    obtain rfl : k = k' := by simpa using h1
    refine ex_dec (fun h2 => ?_) (fun h2 => ?_)
    · exact TLe.eq (by rw [← hT, decide_eq_false (show ¬ n = n' by omega), Bool.and_false]; rfl)
    obtain rfl : n = n' := by omega
    refine ex_dec (fun h3 => ?_) (fun h3 => ?_)
    · exact TLe.eq (by rw [← hT, decide_eq_false h3, Bool.and_false]; rfl)
    obtain rfl : b = b' := by simpa using h3
    refine ex_is (l.length) (by simp) ?_
    refine ex_is (l'.length) (by simp) ?_
    refine ex_dec (fun h4 => ?_) (fun h4 => ?_)
    · rw [sameL_len (by omega)] at hR
      exact TLe.eq (by rw [← hT, ← hR, Bool.and_false]; rfl)
    have hl : l.length = l'.length := by omega
    simp only [decide_true, Bool.true_and] at hT
    subst hT
    refine ex_is (l.length) (by simp) ?_
    refine ex_loop (X := Nat) (fun q => ⟨[(2, .o (.c (.ptr 0 0))), (3, .o (.c (.ptr 1 0))), (36, Ti l.length), (37, Ti q)], [(0, .obj [.d (di k), .d (du n), .d (ds b), .d (.sl 4 (l.map drow))]), (1, .obj [.d (di k), .d (du n), .d (ds b), .d (.sl 4 (l'.map drow))])], 2⟩) (fun q => l.length - q)
      (fun q => q ≤ l.length ∧ sameL (l.drop q) (l'.drop q) = R) 0 ⟨by omega, by simpa using hR⟩ (SLe.of ⟨⟨rfl, rfl, rfl, rfl, trivial⟩, ⟨rfl, rfl, trivial⟩⟩) ?_
    rintro q ⟨hq, hg⟩
    refine ex_dec (fun h5 => ?_) (fun h5 => ?_)
    · have hql : q < l.length := by omega
      have hql' : q < l'.length := by omega
      rw [List.drop_eq_getElem_cons hql, List.drop_eq_getElem_cons hql', sameL] at hg
      refine ex_row (q) _ (by first | rfl | omega | simp) (at_some (hql)) ?_
      refine ex_row (q) _ (by first | rfl | omega | simp) (at_some (hql')) ?_
      refine ex_call (ih q hql hql') ?_
      cases hsm : sameP l[q] l'[q]
      ·
        refine ⟨by kernel_rfl, ?_⟩
        rw [hsm] at hg
        exact TLe.eq (by rw [← hg]; rfl)
      ·
        refine ⟨by kernel_rfl, ?_⟩
        rw [hsm, Bool.true_and] at hg
        refine ex_i64 (((q + 1 : Nat) : Int)) (by first | rfl | omega | simp) (by omega) (by omega) ?_
        exact ex_round (q + 1) ⟨by omega, hg⟩ (by show _ - _ < _ - _; omega) (SLe.of ⟨⟨rfl, rfl, rfl, rfl, trivial⟩, ⟨rfl, rfl, trivial⟩⟩)
    · obtain rfl : q = l.length := by omega
      rw [List.drop_length, hl, List.drop_length, sameL] at hg
      exact TLe.eq (by rw [← hg]; rfl)
termination_by a => SizeOf.sizeOf a
decreasing_by
  have := List.sizeOf_lt_of_mem (List.getElem_mem h)
  simp only [PV.mk.sizeOf_spec]
  omega
def leanB (k : Int) (n : Nat) (b : ByteArray) (len : Nat) : Bool := decide (0 ≤ k ∧ k < 5) && (decide (k = 1) || decide (n = 0)) && (decide (k = 2) || decide (b = ⟨#[]⟩)) && (decide (3 ≤ k) || decide (len = 0))
theorem lean_c (k : Int) (n : Nat) (b : ByteArray) (l : List PV) : CallsA Tryd.prog Γ0 48 [gD (drow (.mk k n b l))] (.o (c1 (db (leanB k n b l.length)))) := by
  rw [drow_mk]
  obtain ⟨R, hR⟩ : ∃ R, leanB k n b l.length = R := ⟨_, rfl⟩
  rw [hR]
  have fin : ∀ b', leanB k n b l.length = b' → TLe (retT [c1 (db b')]) (.o (c1 (db R))) := fun b' h => TLe.eq (by rw [← hR, h]; rfl)
  have key : leanB k n b l.length = decide ((0 ≤ k ∧ k < 5) ∧ (k = 1 ∨ n = 0) ∧ (k = 2 ∨ b = ⟨#[]⟩) ∧ (3 ≤ k ∨ l.length = 0)) := by simp only [leanB, Bool.decide_and, Bool.decide_or, Bool.and_assoc]
  refine fn_rule (C := ⟨Tryd.prog, layF, Tryd.f48.ntmps, Γ0, 0, [], []⟩) layF_ok mixed Tryd.func48 rfl (by kernel_rfl) rfl rfl rfl ?_
  repeat' first
    | refine ex_is l.length (by simp) ?_
    | refine ex_dec (fun _ => ?_) (fun _ => ?_)
  all_goals first
    | exact fin _ (by rw [key]; exact decide_eq_true ⟨by omega, by omega, (by first | exact .inl (by omega) | exact .inr (by assumption)), by omega⟩)
    | exact fin _ (by rw [key]; exact decide_eq_false (by rintro ⟨h1, h2, h3 | h3, h4⟩ <;> first | omega | contradiction))
mutual
/-- Of how many values a good one is made; 0: it isn't good, with so many in one another. -/
def countP : PV → Nat → Nat
  | .mk k n b l, m => if leanB k n b l.length = false ∨ m = 0 then 0 else countL l (m - 1) 1
def countL : List PV → Nat → Nat → Nat
  | [], _, acc => acc
  | x :: xs, m, acc => if countP x m = 0 then 0 else countL xs m (acc + countP x m)
end
mutual
theorem countP_le : ∀ (t : PV) (m : Nat), countP t m ≤ t.num
  | .mk k n b l, m => by
    rw [countP, PV.num]
    split
    · omega
    · exact countL_le l (m - 1) 1
theorem countL_le : ∀ (l : List PV) (m acc : Nat), countL l m acc ≤ acc + numL l
  | [], m, acc => by rw [countL, numL]; omega
  | x :: xs, m, acc => by
    have h1 := countP_le x m
    have h2 := countL_le xs m (acc + countP x m)
    rw [countL, numL]
    split <;> omega
end
theorem count_c : ∀ (t : PV) (m : Nat), t.num ≤ 4611686018427387904 → m ≤ 100000 → CallsA Tryd.prog Γ0 30 [gD (drow t), c1 (di m)] (.o (c1 (di (countP t m))))
  | .mk k n b l, m, ht, hm => by
    rw [PV.num] at ht
    have hll := numL_len l
    have ih : ∀ i (h : i < l.length), CallsA Tryd.prog Γ0 30 [gD (drow l[i]), c1 (di (m - 1 : Nat))] (.o (c1 (di (countP l[i] (m - 1))))) := fun i h => count_c l[i] (m - 1) (by have := numL_at h; omega) (by omega)
    rw [countP]
    by_cases h0 : leanB k n b l.length = false ∨ m = 0
    · rw [if_pos h0]
      refine fn_rule (C := ⟨Tryd.prog, layF, Tryd.f30.ntmps, Γ0, 0, [], []⟩) layF_ok mixed Tryd.func30 rfl (by kernel_rfl) rfl rfl rfl ?_
      refine ex_call (lean_c k n b l) ?_
      cases hb : leanB k n b l.length
      · exact TLe.eq rfl
      ·
        refine ex_true (by rcases h0 with h0 | h0; rw [hb] at h0; cases h0; omega) ?_
        exact TLe.eq rfl
    · rw [if_neg h0]
      have hb : leanB k n b l.length = true := by cases h : leanB k n b l.length with | true => rfl | false => exact absurd (.inl h) h0
      have hm0 : m ≠ 0 := fun h => h0 (.inr h)
      obtain ⟨R, hR⟩ : ∃ R, countL l (m - 1) 1 = R := ⟨_, rfl⟩
      have hlean := lean_c k n b l
      rw [hR]
      rw [hb] at hlean
      rw [drow_mk] at hlean ⊢
      refine fn_rule (C := ⟨Tryd.prog, layF, Tryd.f30.ntmps, Γ0, 0, [], []⟩) layF_ok mixed Tryd.func30 rfl (by kernel_rfl) rfl rfl rfl ?_
      refine ex_call (hlean) ?_
      refine ex_false (by omega) ?_
      refine ex_is (l.length) (by simp) ?_
      refine ex_loop (X := Nat × Nat) (fun ⟨q, acc⟩ => ⟨[(1, Ti m), (2, .o (.c (.ptr 0 0))), (5, Ti acc), (17, .o (c1 (.sl 4 (l.map drow)))), (18, Ti l.length), (19, Ti q)], [(0, .obj [.d (di k), .d (du n), .d (ds b), .d (.sl 4 (l.map drow))])], 1⟩) (fun q => l.length - q.1)
        (fun ⟨q, acc⟩ => q ≤ l.length ∧ acc + numL (l.drop q) ≤ 4611686018427387904 ∧ countL (l.drop q) (m - 1) acc = R) (0, 1) ⟨by omega, by simpa using ht, by simpa using hR⟩ (SLe.of ⟨⟨rfl, rfl, rfl, rfl, rfl, rfl, trivial⟩, ⟨rfl, trivial⟩⟩) ?_
      rintro ⟨q, acc⟩ ⟨hq, ha, hg⟩
      refine ex_dec (fun h5 => ?_) (fun h5 => ?_)
      · have hql : q < l.length := by omega
        rw [List.drop_eq_getElem_cons hql] at ha hg
        rw [countL] at hg
        rw [numL] at ha
        have hle := countP_le l[q] (m - 1)
        refine ex_row (q) _ (by first | rfl | omega | simp) (at_some (hql)) ?_
        refine ex_i64 (((m - 1 : Nat) : Int)) (by first | rfl | omega | simp) (by omega) (by omega) ?_
        refine ex_call (ih q hql) ?_
        generalize countP l[q] (m - 1) = c at *
        refine ex_dec (fun h6 => ?_) (fun h6 => ?_)
        · rw [if_pos (by omega)] at hg
          exact TLe.eq (by rw [← hg]; rfl)
        · rw [if_neg (by omega)] at hg
          refine ex_i64 (((acc + c : Nat) : Int)) (by first | rfl | omega | simp) (by omega) (by omega) ?_
          refine ex_i64 (((q + 1 : Nat) : Int)) (by first | rfl | omega | simp) (by omega) (by omega) ?_
          exact ex_round (q + 1, acc + c) ⟨by omega, by omega, hg⟩ (by show _ - _ < _ - _; simp only; omega) (SLe.of ⟨⟨rfl, rfl, rfl, rfl, rfl, rfl, trivial⟩, ⟨rfl, trivial⟩⟩)
      · obtain rfl : q = l.length := by omega
        rw [List.drop_length, countL] at hg
        exact TLe.eq (by rw [← hg]; rfl)
termination_by t => SizeOf.sizeOf t
decreasing_by
  have := List.sizeOf_lt_of_mem (List.getElem_mem h)
  simp only [PV.mk.sizeOf_spec]
  omega
def goodP (t : PV) : Bool := decide (0 < countP t 1200)
theorem Count_c (t : PV) (ht : t.num ≤ 4611686018427387904) : CallsA Tryd.prog Γ0 13 [gD (drow t)] (.o (c1 (di (countP t 1200)))) := by
  refine fn_rule (C := ⟨Tryd.prog, layF, Tryd.f13.ntmps, Γ0, 0, [], []⟩) layF_ok mixed Tryd.func13 rfl (by kernel_rfl) rfl rfl rfl ?_
  refine ex_call (count_c t 1200 ht (by omega)) ?_
  exact TLe.rfl
theorem Good_c (t : PV) (ht : t.num ≤ 4611686018427387904) : CallsA Tryd.prog Γ0 12 [gD (drow t)] (.o (c1 (db (goodP t)))) := by
  refine fn_rule (C := ⟨Tryd.prog, layF, Tryd.f12.ntmps, Γ0, 0, [], []⟩) layF_ok mixed Tryd.func12 rfl (by kernel_rfl) rfl rfl rfl ?_
  refine ex_call (Count_c t ht) ?_
  refine ex_eq ?_
  exact TLe.eq (by simp [retT, goodP])
theorem Equal_c (a b : PV) (ha : a.num ≤ 4611686018427387904) (hb : b.num ≤ 4611686018427387904) : CallsA Tryd.prog Γ0 20 [gD (drow a), gD (drow b)] (.o (c1 (db (goodP a && goodP b && sameP a b)))) := by
  refine fn_rule (C := ⟨Tryd.prog, layF, Tryd.f20.ntmps, Γ0, 0, [], []⟩) layF_ok mixed Tryd.func20 rfl (by kernel_rfl) rfl rfl rfl ?_
  refine ex_call (Good_c a ha) ?_
  cases h1 : goodP a
  · exact TLe.eq rfl
  refine ex_call (Good_c b hb) ?_
  cases h2 : goodP b
  · exact TLe.eq rfl
  refine ex_call (vsame_c a b ha) ?_
  exact TLe.eq rfl
end Go.Proofs.YtkeehnhamkdogaaDoor
