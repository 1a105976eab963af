/- The law's same. Condition: a value is made of at most 2^62 ones. -/
import Derived.Test.YtkeehnhamkdogaaDoorV2
namespace Go.Proofs.YtkeehnhamkdogaaDoor
set_option linter.unusedVariables false
set_option linter.unusedSimpArgs false
open Go.RowKit
set_option maxRecDepth 100000

theorem lsame_c : ∀ (a b : PV), a.num ≤ 4611686018427387904 → CallsA Tryd.prog Γ0 19 [gD (drow a), gD (drow b)] (.o (c1 (db (sameP a b))))
  | .mk k n b l, .mk k' n' b' l', ha => by
    rw [PV.num] at ha
    have hll := numL_len l
    obtain ⟨R, hR⟩ : ∃ R, sameL l l' = R := ⟨_, rfl⟩
    have hs : sameP (.mk k n b l) (.mk k' n' b' l') = (decide (k = k') && decide (n = n') && decide (b = b') && R) := by rw [sameP, hR]
    have ih : ∀ i (h : i < l.length) (h' : i < l'.length), CallsA Tryd.prog Γ0 19 [gD (drow l[i]), gD (drow l'[i])] (.o (c1 (db (sameP l[i] l'[i])))) := fun i h h' => lsame_c l[i] l'[i] (by have := numL_at h; omega)
    obtain ⟨T, hT⟩ : ∃ T, sameP (.mk k n b l) (.mk k' n' b' l') = T := ⟨_, rfl⟩
    rw [hT, drow_mk, drow_mk]
    rw [hs] at hT
    refine fn_rule (C := ⟨Tryd.prog, layF, Tryd.f19.ntmps, Γ0, 0, [], []⟩) layF_ok mixed Tryd.func19 rfl (by kernel_rfl) rfl rfl rfl ?_
    refine ex_dec (fun h1 => ?_) (fun h1 => ?_)
    · exact TLe.eq (by rw [← hT, decide_eq_false h1]; rfl)
    obtain rfl : k = k' := by simpa using h1
    refine ex_dec (fun h2 => ?_) (fun h2 => ?_)
    · exact TLe.eq (by rw [← hT, decide_eq_false (show ¬ n = n' by omega), Bool.and_false]; rfl)
    obtain rfl : n = n' := by omega
    refine ex_dec (fun h3 => ?_) (fun h3 => ?_)
    · exact TLe.eq (by rw [← hT, decide_eq_false h3, Bool.and_false]; rfl)
    obtain rfl : b = b' := by simpa using h3
    refine ex_is (l.length) (by simp) ?_
    refine ex_is (l'.length) (by simp) ?_
    refine ex_dec (fun h4 => ?_) (fun h4 => ?_)
    · rw [sameL_len (by omega)] at hR
      exact TLe.eq (by rw [← hT, ← hR, Bool.and_false]; rfl)
    have hl : l.length = l'.length := by omega
    simp only [decide_true, Bool.true_and] at hT
    subst hT
    refine ex_is (l.length) (by simp) ?_
    refine ex_loop (X := Nat) (fun q => ⟨[(2, .o (.c (.ptr 0 0))), (3, .o (.c (.ptr 1 0))), (36, Ti l.length), (37, Ti q)], [(0, .obj [.d (di k), .d (du n), .d (ds b), .d (.sl 4 (l.map drow))]), (1, .obj [.d (di k), .d (du n), .d (ds b), .d (.sl 4 (l'.map drow))])], 2⟩) (fun q => l.length - q)
      (fun q => q ≤ l.length ∧ sameL (l.drop q) (l'.drop q) = R) 0 ⟨by omega, by simpa using hR⟩ (SLe.of ⟨⟨rfl, rfl, rfl, rfl, trivial⟩, ⟨rfl, rfl, trivial⟩⟩) ?_
    rintro q ⟨hq, hg⟩
    refine ex_dec (fun h5 => ?_) (fun h5 => ?_)
    · have hql : q < l.length := by omega
      have hql' : q < l'.length := by omega
      rw [List.drop_eq_getElem_cons hql, List.drop_eq_getElem_cons hql', sameL] at hg
      refine ex_row (q) _ (by first | rfl | omega | simp) (at_some (hql)) ?_
      refine ex_row (q) _ (by first | rfl | omega | simp) (at_some (hql')) ?_
      refine ex_call (ih q hql hql') ?_
      cases hsm : sameP l[q] l'[q]
      ·
        refine ⟨by kernel_rfl, ?_⟩
        rw [hsm] at hg
        exact TLe.eq (by rw [← hg]; rfl)
      ·
        refine ⟨by kernel_rfl, ?_⟩
        rw [hsm, Bool.true_and] at hg
        refine ex_i64 (((q + 1 : Nat) : Int)) (by first | rfl | omega | simp) (by omega) (by omega) ?_
        exact ex_round (q + 1) ⟨by omega, hg⟩ (by show _ - _ < _ - _; omega) (SLe.of ⟨⟨rfl, rfl, rfl, rfl, trivial⟩, ⟨rfl, rfl, trivial⟩⟩)
    · obtain rfl : q = l.length := by omega
      rw [List.drop_length, hl, List.drop_length, sameL] at hg
      exact TLe.eq (by rw [← hg]; rfl)
termination_by a => SizeOf.sizeOf a
decreasing_by
  have := List.sizeOf_lt_of_mem (List.getElem_mem h)
  simp only [PV.mk.sizeOf_spec]
  omega
end Go.Proofs.YtkeehnhamkdogaaDoor
