/- The reference's parents and Good, over data. Conditions: bounds on the lists, int's in views. -/
import Derived.Test.YtaponjjdfcmbeaaDoorU2
namespace Go.Proofs.YtaponjjdfcmbeaaDoor
set_option linter.unusedVariables false
set_option linter.unusedSimpArgs false
open Go.RowKit
set_option maxRecDepth 100000

theorem bump_at (n : Nat) (ns : List Nat) (j : Int) (t : Nat) : (bump n ns j).getD t 0 ≤ ns.getD t 0 + 1 := by
  unfold bump
  split
  · simp only [List.getD, List.getElem?_set]
    split
    · rename_i h
      split
      · subst h; simp
      · simp
    · omega
  · omega
theorem parents_c (l : List GV) (hl : l.length ≤ 100000) (hkk : ∀ x ∈ l, x.kids.length ≤ 100000) :
    CallsA Tryd.prog Γ0 23 [c1 (dviews l)] (.o (c1 (.sl 1 ((parentsV l).map nrow)))) := by
  obtain ⟨R, hR⟩ : ∃ R, parL l.length l (List.replicate l.length 0) = R := ⟨_, rfl⟩
  rw [parentsV, hR]
  obtain ⟨B, hB, hBB⟩ : ∃ B, B = 100000 ∧ ∀ i, i ≤ 100000 → i * B ≤ 10000000000 := ⟨100000, rfl, fun i hi => by omega⟩
  refine fn_rule (C := ⟨Tryd.prog, layF, Tryd.f23.ntmps, Γ0, 0, [], []⟩) layF_ok mixed Tryd.func23 rfl (by kernel_rfl) rfl rfl rfl ?_
  refine ex_is (l.length) (by simp) ?_
  refine ⟨rfl, by omega, by simp only [Int.toNat_natCast]; omega, ?_⟩
  refine ex_is ((List.replicate l.length 0).map nrow) (rep_n _) ?_
  refine ex_loop (X := Nat × List Nat) (fun ⟨i, ns⟩ => ⟨[(0, .o (c1 (dviews l))), (3, .o (.c (.row 0))), (4, Ti i)], [(0, .row 1 3 (ns.map nrow))], 1⟩) (fun x => l.length - x.1)
    (fun ⟨i, ns⟩ => i ≤ l.length ∧ ns.length = l.length ∧ (∀ t, ns.getD t 0 ≤ i * B) ∧ parL l.length (l.drop i) ns = R) (0, List.replicate l.length 0) ⟨by omega, by simp, fun t => by simp [List.getD, List.getElem?_replicate]; split <;> simp, by simpa using hR⟩ (SLe.of ⟨⟨rfl, rfl, rfl, trivial⟩, ⟨rfl, trivial⟩⟩) ?_
  rintro ⟨i, ns⟩ ⟨hi, hns, hb, hg⟩
  refine ex_is (l.length) (by simp) ?_
  refine ex_dec (fun h1 => ?_) (fun h1 => ?_)
  · have hil : i < l.length := by omega
    rw [List.drop_eq_getElem_cons hil, parL] at hg
    have hxkk := hkk l[i] (List.getElem_mem hil)
    have hix : l[i]? = some l[i] := at_some hil
    generalize l[i] = x at *
    refine ex_loop (X := Nat × List Nat) (fun ⟨q, ns⟩ => ⟨[(0, .o (c1 (dviews l))), (3, .o (.c (.row 0))), (4, Ti i), (5, Ti q)], [(0, .row 1 3 (ns.map nrow))], 1⟩) (fun y => x.kids.length - y.1)
      (fun ⟨q, ns2⟩ => q ≤ x.kids.length ∧ ns2.length = l.length ∧ (∀ t, ns2.getD t 0 ≤ i * B + q) ∧ parK l.length (x.kids.drop q) ns2 = parK l.length x.kids ns) (0, ns) ⟨by omega, hns, fun t => by have := hb t; omega, by simp⟩ (SLe.of ⟨⟨rfl, rfl, rfl, rfl, trivial⟩, ⟨rfl, trivial⟩⟩) ?_
    rintro ⟨q, ns2⟩ ⟨hq, hl2, hb2, hkl⟩
    refine ex_row i x rfl hix ?_
    refine ex_is (x.kids.length) (by simp) ?_
    refine ex_dec (fun h2 => ?_) (fun h2 => ?_)
    · have hqk : q < x.kids.length := by omega
      rw [List.drop_eq_getElem_cons hqk, parK] at hkl
      refine ex_row i x rfl hix ?_
      refine ex_row (q) _ (by first | rfl | omega | simp) (at_some (hqk)) ?_
      generalize x.kids[q] = k at *
      have hbu : ∀ t, (bump l.length ns2 k).getD t 0 ≤ i * B + (q + 1) := fun t => by have := hb2 t; have := bump_at l.length ns2 k t; omega
      refine ex_dec (fun h3 => ?_) (fun h3 => ?_)
      ·
        refine ex_is (l.length) (by simp) ?_
        refine ex_dec (fun h4 => ?_) (fun h4 => ?_)
        · have e : bump l.length ns2 k = ns2.set k.toNat (ns2.getD k.toNat 0 + 1) := by rw [bump, if_pos ⟨by omega, by omega⟩]
          rw [e] at hkl hbu
          obtain ⟨k, rfl⟩ := Int.eq_ofNat_of_zero_le (show 0 ≤ k by omega)
          simp only [Int.toNat_natCast] at hkl hbu
          have hkn : k < ns2.length := by omega
          refine ⟨by omega, by simp; omega, ?_⟩
          refine ex_at k _ (at_n hkn) ?_
          have := hb2 k
          have := hBB i (by omega)
          refine ex_i64 (((ns2.getD k 0 + 1 : Nat) : Int)) (by first | rfl | omega | simp) (by omega) (by omega) ?_
          refine ⟨by omega, by simp; omega, ?_⟩
          refine ex_at k _ (at_n hkn) ?_
          refine ex_is ((ns2.set k (ns2.getD k 0 + 1)).map nrow) (set_n _ _ _) ?_
          refine ex_i64 (((q + 1 : Nat) : Int)) (by first | rfl | omega | simp) (by omega) (by omega) ?_
          exact ex_round (q + 1, ns2.set k (ns2.getD k 0 + 1)) ⟨by omega, by simp [hl2], hbu, hkl⟩ (by simp only; omega) (SLe.of ⟨⟨rfl, rfl, rfl, rfl, trivial⟩, ⟨rfl, trivial⟩⟩)
        · have e : bump l.length ns2 k = ns2 := by rw [bump, if_neg (by omega)]
          rw [e] at hkl hbu
          refine ex_i64 (((q + 1 : Nat) : Int)) (by first | rfl | omega | simp) (by omega) (by omega) ?_
          exact ex_round (q + 1, ns2) ⟨by omega, hl2, hbu, hkl⟩ (by simp only; omega) (SLe.of ⟨⟨rfl, rfl, rfl, rfl, trivial⟩, ⟨rfl, trivial⟩⟩)
      · have e : bump l.length ns2 k = ns2 := by rw [bump, if_neg (by omega)]
        rw [e] at hkl hbu
        refine ex_i64 (((q + 1 : Nat) : Int)) (by first | rfl | omega | simp) (by omega) (by omega) ?_
        exact ex_round (q + 1, ns2) ⟨by omega, hl2, hbu, hkl⟩ (by simp only; omega) (SLe.of ⟨⟨rfl, rfl, rfl, rfl, trivial⟩, ⟨rfl, trivial⟩⟩)
    · obtain rfl : q = x.kids.length := by omega
      rw [List.drop_length, parK] at hkl
      rw [← hkl] at hg
      refine ex_i64 (((i + 1 : Nat) : Int)) (by first | rfl | omega | simp) (by omega) (by omega) ?_
      exact ex_round (i + 1, ns2) ⟨by omega, hl2, fun t => by have := hb2 t; rw [Nat.add_mul, Nat.one_mul]; omega, hg⟩ (by simp only; omega) (SLe.of ⟨⟨rfl, rfl, rfl, trivial⟩, ⟨rfl, trivial⟩⟩)
  · obtain rfl : i = l.length := by omega
    rw [List.drop_length, parL] at hg
    subst hg
    exact TLe.eq rfl
theorem rkidsL_len (n d : Nat) : ∀ (ks : List Int) (last : Int) (ns ns' : List Nat), rkidsL n d last ks ns = some ns' → ns'.length = ns.length
  | [], _, ns, ns', h => by simp only [rkidsL, Option.some.injEq] at h; rw [h]
  | k :: ks, last, ns, ns', h => by
    simp only [rkidsL] at h
    split at h
    · cases h
    · rw [rkidsL_len n d ks k _ ns' h]; simp
def rbad (s : ByteArray) (i : Nat) (x : GV) (p : Nat) (ns : List Nat) : Prop := soundB x.kind x.at_ x.len x.beh x.wid s.size = false ∨ p ≠ (if i = 0 then 0 else 1) ∨ (x.kids ≠ [] ∧ x.kind < 4) ∨ 1200 ≤ ns.getD i 0
theorem rgoodS_bad {s : ByteArray} {n i : Nat} {x : GV} {p : Nat} {ns : List Nat} (h : rbad s i x p ns) : rgoodS s n i x p ns = none := if_pos h
theorem rgoodS_ok {s : ByteArray} {n i : Nat} {x : GV} {p : Nat} {ns : List Nat} (h : ¬ rbad s i x p ns) : rgoodS s n i x p ns = rkidsL n (ns.getD i 0) i x.kids ns := if_neg h
def lastK (i : Nat) (ks : List Int) : Nat → Int
  | 0 => i
  | q + 1 => ks.getD q 0
set_option maxHeartbeats 800000 in
theorem rgood_c (l : List GV) (s : ByteArray) (hl : l.length ≤ 100000) (hk : ∀ x ∈ l, x.ok) (hkk : ∀ x ∈ l, x.kids.length ≤ 100000) (hs : s.size ≤ 281474976706560) :
    CallsA Tryd.prog Γ0 12 [c1 (dviews l), c1 (ds s)] (.o (c1 (db (rgoodV l s)))) := by
  obtain ⟨p, hp⟩ : ∃ p, parentsV l = p := ⟨_, rfl⟩
  have hpl : p.length = l.length := by rw [← hp, parentsV_len]
  obtain ⟨R, hR⟩ : ∃ R, rgoodL s l.length p 0 l (List.replicate l.length 0) = R := ⟨_, rfl⟩
  have hgv : rgoodV l s = (R && decide (0 < l.length)) := by rw [rgoodV, hp, hR]
  have hpar := parents_c l hl hkk
  rw [hp] at hpar
  rw [hgv]
  refine fn_rule (C := ⟨Tryd.prog, layF, Tryd.f12.ntmps, Γ0, 0, [8], []⟩) layF_ok mixed Tryd.func12 rfl (by kernel_rfl) rfl rfl rfl ?_
  refine ex_call (hpar) ?_
  refine ex_is (l.length) (by simp) ?_
  refine ⟨rfl, by omega, by simp only [Int.toNat_natCast]; omega, ?_⟩
  refine ex_is ((List.replicate l.length 0).map nrow) (rep_n _) ?_
  refine ex_loop (X := Nat × List Nat) (fun ⟨i, ns⟩ => ⟨[(0, .o (c1 (dviews l))), (1, .o (c1 (ds s))), (5, .o (c1 (.sl 1 (p.map nrow)))), (6, .o (.c (.row 0))), (7, Ti i)], [(0, .row 1 3 (ns.map nrow))], 1⟩) (fun x => l.length - x.1)
    (fun ⟨i, ns⟩ => i ≤ l.length ∧ ns.length = l.length ∧ rgoodL s l.length p i (l.drop i) ns = R) (0, List.replicate l.length 0) ⟨by omega, by simp, by simpa using hR⟩ (SLe.of ⟨⟨rfl, rfl, rfl, rfl, rfl, trivial⟩, ⟨rfl, trivial⟩⟩) ?_
  rintro ⟨i, ns⟩ ⟨hi, hns, hg⟩
  refine ex_is (l.length) (by simp) ?_
  refine ex_dec (fun h1 => ?_) (fun h1 => ?_)
  · have hil : i < l.length := by omega
    rw [List.drop_eq_getElem_cons hil, rgoodL] at hg
    have hxk := hk l[i] (List.getElem_mem hil)
    have hxkk := hkk l[i] (List.getElem_mem hil)
    have hix : l[i]? = some l[i] := at_some hil
    generalize l[i] = x at *
    have hpi : p[i]? = some (p.getD i 0) := at_n (by omega)
    have hni : ns[i]? = some (ns.getD i 0) := at_n (by omega)
    generalize p.getD i 0 = pi at *
    refine ex_row i x rfl hix ?_
    refine ex_call (rsound_c x s hs hxk) ?_
    refine ex_join (X := Bool) (fun b => ⟨[(0, .o (c1 (dviews l))), (1, .o (c1 (ds s))), (5, .o (c1 (.sl 1 (p.map nrow)))), (6, .o (.c (.row 0))), (7, Ti i), (8, .o (.c (.ptr 1 0))), (71, Tb b)], [(1, .obj ((vrow x).map .d)), (0, .row 1 3 (ns.map nrow))], 2⟩) (fun b => b = true ↔ rbad s i x pi ns) ?_ ?_
    · cases hsd : soundB x.kind x.at_ x.len x.beh x.wid s.size
      · exact ex_meet true (by simp [rbad, hsd]) (SLe.of ⟨⟨rfl, rfl, rfl, rfl, rfl, rfl, rfl, trivial⟩, ⟨rfl, rfl, trivial⟩⟩)
      refine ex_dec (fun h2 => ?_) (fun h2 => ?_)
      all_goals first
        | (refine ex_row i pi rfl hpi ?_
           refine ex_dec (fun h3 => ?_) (fun h3 => ?_)
           · exact ex_meet true ⟨fun _ => .inr (.inl (by rw [if_neg (by omega)]; omega)), fun _ => rfl⟩ (SLe.of ⟨⟨rfl, rfl, rfl, rfl, rfl, rfl, rfl, trivial⟩, ⟨rfl, rfl, trivial⟩⟩)
           refine ex_false (by omega) ?_)
        | (refine ex_true (by omega) ?_
           refine ex_row i pi rfl hpi ?_
           refine ex_dec (fun h3 => ?_) (fun h3 => ?_)
           · exact ex_meet true ⟨fun _ => .inr (.inl (by rw [if_pos (by omega)]; omega)), fun _ => rfl⟩ (SLe.of ⟨⟨rfl, rfl, rfl, rfl, rfl, rfl, rfl, trivial⟩, ⟨rfl, rfl, trivial⟩⟩))
      all_goals
        refine ex_is (x.kids.length) (by simp) ?_
        refine ex_dec (fun h4 => ?_) (fun h4 => ?_)
        all_goals first
          | (refine ex_dec (fun h5 => ?_) (fun h5 => ?_)
             · exact ex_meet true ⟨fun _ => .inr (.inr (.inl ⟨by intro e; rw [e] at h4; simp at h4, h5⟩)), fun _ => rfl⟩ (SLe.of ⟨⟨rfl, rfl, rfl, rfl, rfl, rfl, rfl, trivial⟩, ⟨rfl, rfl, trivial⟩⟩))
          | skip
        all_goals
          refine ⟨by omega, by simp; omega, ?_⟩
          refine ex_at i _ hni ?_
          refine ex_dec (fun h6 => ?_) (fun h6 => ?_)
          · exact ex_meet true ⟨fun _ => .inr (.inr (.inr (by omega))), fun _ => rfl⟩ (SLe.of ⟨⟨rfl, rfl, rfl, rfl, rfl, rfl, rfl, trivial⟩, ⟨rfl, rfl, trivial⟩⟩)
          · refine ex_meet false ⟨(fun h => by cases h), fun h => ?_⟩ (SLe.of ⟨⟨rfl, rfl, rfl, rfl, rfl, rfl, rfl, trivial⟩, ⟨rfl, rfl, trivial⟩⟩)
            rcases h with h | h | ⟨h, h'⟩ | h
            · rw [hsd] at h; cases h
            · split at h <;> omega
            · first | exact absurd h' h5 | exact absurd (List.eq_nil_of_length_eq_zero (by omega)) h
            · omega
    · intro b hb
      cases b
      · have hb' : ¬ rbad s i x pi ns := by rw [← hb]; simp
        rw [rgoodS_ok hb'] at hg
        have hn12 : ns.getD i 0 < 1200 := by
          rcases Nat.lt_or_ge (ns.getD i 0) 1200 with h | h
          · exact h
          · exact absurd (.inr (.inr (.inr h))) hb'
        refine ex_loop (X := Nat × List Nat) (fun ⟨q, ns2⟩ => ⟨[(0, .o (c1 (dviews l))), (1, .o (c1 (ds s))), (5, .o (c1 (.sl 1 (p.map nrow)))), (6, .o (.c (.row 0))), (7, Ti i), (8, .o (.c (.ptr 1 0))), (10, Ti q)], [(1, .obj ((vrow x).map .d)), (0, .row 1 3 (ns2.map nrow))], 2⟩) (fun y => x.kids.length - y.1)
          (fun ⟨q, ns2⟩ => q ≤ x.kids.length ∧ ns2.length = l.length ∧ ns2.getD i 0 = ns.getD i 0 ∧ (i : Int) ≤ lastK i x.kids q ∧ rkidsL l.length (ns.getD i 0) (lastK i x.kids q) (x.kids.drop q) ns2 = rkidsL l.length (ns.getD i 0) i x.kids ns) (0, ns) ⟨by omega, hns, rfl, by simp [lastK], by simp [lastK]⟩ (SLe.of ⟨⟨rfl, rfl, rfl, rfl, rfl, rfl, rfl, trivial⟩, ⟨rfl, rfl, trivial⟩⟩) ?_
        rintro ⟨q, ns2⟩ ⟨hq, hl2, hd2, hla, hkl⟩
        refine ex_is (x.kids.length) (by simp) ?_
        refine ex_dec (fun h6 => ?_) (fun h6 => ?_)
        · have hqk : q < x.kids.length := by omega
          have hlk : lastK i x.kids (q + 1) = x.kids[q] := by simp [lastK, List.getD, hqk]
          rw [List.drop_eq_getElem_cons hqk, rkidsL] at hkl
          refine ex_row (q) _ (by first | rfl | omega | simp) (at_some (hqk)) ?_
          refine ex_dec (fun h7 => ?_) (fun h7 => ?_)
          · rw [if_pos (.inl (by omega))] at hkl
            rw [← hkl] at hg
            exact TLe.eq (by rw [← hg]; rfl)
          refine ex_is (l.length) (by simp) ?_
          refine ex_dec (fun h8 => ?_) (fun h8 => ?_)
          · rw [if_pos (.inr h8)] at hkl
            rw [← hkl] at hg
            exact TLe.eq (by rw [← hg]; rfl)
          have hlast : q = 0 → lastK i x.kids q = i := fun h => by subst h; rfl
          refine ex_dec (fun h9 => ?_) (fun h9 => ?_)
          all_goals first
            | (skip
               refine ex_i64 (((q - 1 : Nat) : Int)) (by first | rfl | omega | simp) (by omega) (by omega) ?_
               have hq1 : q - 1 < x.kids.length := by omega
               have hlk1 : lastK i x.kids q = x.kids[q - 1] := by
                 obtain ⟨q, rfl⟩ : ∃ q', q = q' + 1 := ⟨q - 1, by omega⟩
                 simp [lastK, List.getD, show q < x.kids.length by omega]
               refine ex_row (q - 1) _ rfl (at_some hq1) ?_
               refine ex_dec (fun h10 => ?_) (fun h10 => ?_)
               · rw [if_pos (.inl (by omega))] at hkl
                 rw [← hkl] at hg
                 exact TLe.eq (by rw [← hg]; rfl)
               rw [if_neg (by omega)] at hkl)
            | rw [if_neg (by have := hlast (by omega); omega)] at hkl
          all_goals
            obtain ⟨k, hk0⟩ := Int.eq_ofNat_of_zero_le (show 0 ≤ x.kids[q] by omega)
            rw [hk0] at hkl hlk h7 h8 ⊢
            simp only [Int.toNat_natCast] at hkl
            have hkn : k < ns2.length := by omega
            refine ⟨by omega, by simp; omega, ?_⟩
            refine ex_at i _ (at_n (by omega)) ?_
            rw [hd2]
            refine ex_i64 (((ns.getD i 0 + 1 : Nat) : Int)) (by first | rfl | omega | simp) (by omega) (by omega) ?_
            refine ⟨by omega, by simp; omega, ?_⟩
            refine ex_at k _ (at_n hkn) ?_
            refine ex_is ((ns2.set k (ns.getD i 0 + 1)).map nrow) (set_n _ _ _) ?_
            refine ex_i64 (((q + 1 : Nat) : Int)) (by first | rfl | omega | simp) (by omega) (by omega) ?_
            refine ex_round (q + 1, ns2.set k (ns.getD i 0 + 1)) ⟨by omega, by simp [hl2], ?_, by rw [hlk]; omega, by rw [hlk]; exact hkl⟩ (by simp only; omega) (SLe.of ⟨⟨rfl, rfl, rfl, rfl, rfl, rfl, rfl, trivial⟩, ⟨rfl, rfl, trivial⟩⟩)
            rw [← hd2]
            simp only [List.getD, List.getElem?_set]
            rw [if_neg (by omega)]
        · obtain rfl : q = x.kids.length := by omega
          rw [List.drop_length, rkidsL] at hkl
          rw [← hkl] at hg
          refine ex_i64 (((i + 1 : Nat) : Int)) (by first | rfl | omega | simp) (by omega) (by omega) ?_
          exact ex_round (i + 1, ns2) ⟨by omega, hl2, by simpa using hg⟩ (by simp only; omega) (SLe.of ⟨⟨rfl, rfl, rfl, rfl, rfl, trivial⟩, ⟨rfl, trivial⟩⟩)
      · rw [rgoodS_bad (hb.1 rfl)] at hg
        exact TLe.eq (by rw [← hg]; rfl)
  · obtain rfl : i = l.length := by omega
    rw [List.drop_length, rgoodL] at hg
    subst hg
    refine ex_is (l.length) (by simp) ?_
    refine ex_eq ?_
    exact TLe.eq (by simp [retT])
end Go.Proofs.YtaponjjdfcmbeaaDoor
