/- Find, Good: the program's and the reference's, over data. Conditions: bounds on the lists, int's in views and ways. -/
import Derived.Test.YtaponjjdfcmbeaaDoorU1
namespace Go.Proofs.YtaponjjdfcmbeaaDoor
set_option linter.unusedVariables false
set_option linter.unusedSimpArgs false
open Go.RowKit

theorem find_c (l : List GV) (way : List Int) (hl : l.length ≤ 100000) (hw : way.length ≤ 9223372036854775807) :
    CallsA Tryd.prog Γ0 17 [c1 (dviews l), c1 (dints way)] (.tup [c1 (di (findV l way).1), c1 (di (findV l way).2)]) := by
  refine fn_rule (C := ⟨Tryd.prog, layF, Tryd.f17.ntmps, Γ0, 0, [], []⟩) layF_ok mixed Tryd.func17 rfl (by kernel_rfl) rfl rfl rfl ?_
  refine ex_is (l.length) (by simp) ?_
  refine ex_dec (fun h0 => ?_) (fun h0 => ?_)
  · have h0' : l.length = 0 := by omega
    exact TLe.eq (by simp [retT, findV, h0'])
  ·
    refine ex_is (way.length) (by simp) ?_
    refine ex_loop (X := Nat × Nat) (fun x => ⟨[(0, .o (c1 (dviews l))), (6, Ti x.2), (13, .o (c1 (dints way))), (14, Ti way.length), (15, Ti x.1)], [], 0⟩) (fun x => way.length - x.1)
      (fun x => x.1 ≤ way.length ∧ x.2 < l.length ∧ findP l x.2 (way.drop x.1) = findV l way) (0, 0) ⟨by simp, by omega, by rw [findV, if_neg (by omega)]; rfl⟩ (SLe.of ⟨⟨rfl, rfl, rfl, rfl, rfl, trivial⟩, trivial⟩) ?_
    rintro ⟨k, A⟩ ⟨hk, hA, hf⟩
    simp only at hk hA hf
    refine ex_dec (fun h1 => ?_) (fun h1 => ?_)
    · have hlt : k < way.length := by omega
      rw [List.drop_eq_getElem_cons hlt, findP, kidsOf_at hA] at hf
      refine ex_row (k) _ (by first | rfl | omega | simp) (at_some (hlt)) ?_
      refine ex_row (A) _ (by first | rfl | omega | simp) (at_some (hA)) ?_
      generalize way[k] = y at *
      refine ex_dec (fun h2 => ?_) (fun h2 => ?_)
      · rw [if_pos (.inl h2)] at hf
        exact TLe.eq (by rw [← hf]; rfl)
      refine ex_is (l[A].kids.length) (by simp) ?_
      refine ex_dec (fun h3 => ?_) (fun h3 => ?_)
      · rw [if_pos (.inr h3)] at hf
        exact TLe.eq (by rw [← hf]; rfl)
      rw [if_neg (by omega)] at hf
      obtain ⟨y, rfl⟩ := Int.eq_ofNat_of_zero_le (show 0 ≤ y by omega)
      have hy : y < l[A].kids.length := by omega
      refine ex_row (y) _ (by first | rfl | omega | simp) (at_some (hy)) ?_
      have hg : l[A].kids.getD ((y : Nat) : Int).toNat 0 = l[A].kids[y] := by simp [List.getD, hy]
      rw [hg] at hf
      refine ex_dec (fun h4 => ?_) (fun h4 => ?_)
      · rw [if_pos (.inl h4)] at hf
        exact TLe.eq (by rw [← hf]; rfl)
      refine ex_row (y) _ (by first | rfl | omega | simp) (at_some (hy)) ?_
      refine ex_is (l.length) (by simp) ?_
      refine ex_dec (fun h5 => ?_) (fun h5 => ?_)
      · rw [if_pos (.inr h5)] at hf
        exact TLe.eq (by rw [← hf]; rfl)
      rw [if_neg (by omega)] at hf
      refine ex_row (y) _ (by first | rfl | omega | simp) (at_some (hy)) ?_
      obtain ⟨z, hz⟩ := Int.eq_ofNat_of_zero_le (show 0 ≤ l[A].kids[y] by omega)
      rw [hz] at hf h4 h5 ⊢
      refine ex_i64 (((k + 1 : Nat) : Int)) (by first | rfl | omega | simp) (by omega) (by omega) ?_
      exact ex_round (k + 1, z) ⟨by omega, by simp only; omega, by simpa using hf⟩ (by simp only; omega) (SLe.of ⟨⟨rfl, rfl, rfl, rfl, rfl, trivial⟩, trivial⟩)
    · obtain rfl : k = way.length := by omega
      rw [List.drop_length, findP] at hf
      exact TLe.eq (by rw [← hf]; rfl)
theorem rfind_c (l : List GV) (way : List Int) (hl : l.length ≤ 100000) (hw : way.length ≤ 9223372036854775807) :
    CallsA Tryd.prog Γ0 18 [c1 (dviews l), c1 (dints way)] (.tup [c1 (di (findV l way).1), c1 (di (findV l way).2)]) := by
  refine fn_rule (C := ⟨Tryd.prog, layF, Tryd.f18.ntmps, Γ0, 0, [], []⟩) layF_ok mixed Tryd.func18 rfl (by kernel_rfl) rfl rfl rfl ?_
  refine ex_is (l.length) (by simp) ?_
  refine ex_dec (fun h0 => ?_) (fun h0 => ?_)
  · have h0' : l.length = 0 := by omega
    exact TLe.eq (by simp [retT, findV, h0'])
  · refine ex_loop (X := Nat × Nat) (fun x => ⟨[(0, .o (c1 (dviews l))), (1, .o (c1 (dints way))), (6, Ti x.2), (7, Ti x.1)], [], 0⟩) (fun x => way.length - x.1)
      (fun x => x.1 ≤ way.length ∧ x.2 < l.length ∧ findP l x.2 (way.drop x.1) = findV l way) (0, 0) ⟨by simp, by omega, by rw [findV, if_neg (by omega)]; rfl⟩ (SLe.of ⟨⟨rfl, rfl, rfl, rfl, trivial⟩, trivial⟩) ?_
    rintro ⟨k, A⟩ ⟨hk, hA, hf⟩
    simp only at hk hA hf
    refine ex_is (way.length) (by simp) ?_
    refine ex_dec (fun h1 => ?_) (fun h1 => ?_)
    · have hlt : k < way.length := by omega
      rw [List.drop_eq_getElem_cons hlt, findP, kidsOf_at hA] at hf
      refine ex_row (k) _ (by first | rfl | omega | simp) (at_some (hlt)) ?_
      refine ex_dec (fun h2 => ?_) (fun h2 => ?_)
      · rw [if_pos (.inl h2)] at hf
        refine ⟨by kernel_rfl, ?_⟩
        exact TLe.eq (by rw [← hf]; rfl)
      refine ex_row (k) _ (by first | rfl | omega | simp) (at_some (hlt)) ?_
      refine ex_row (A) _ (by first | rfl | omega | simp) (at_some (hA)) ?_
      refine ex_is (l[A].kids.length) (by simp) ?_
      refine ex_dec (fun h3 => ?_) (fun h3 => ?_)
      · rw [if_pos (.inr h3)] at hf
        refine ⟨by kernel_rfl, ?_⟩
        exact TLe.eq (by rw [← hf]; rfl)
      rw [if_neg (by omega)] at hf
      obtain ⟨y, hy0⟩ := Int.eq_ofNat_of_zero_le (show 0 ≤ way[k] by omega)
      rw [hy0] at hf h2 h3
      have hy : y < l[A].kids.length := by omega
      have hwk : way[k]? = some (y : Int) := by rw [at_some hlt, hy0]
      have hg : l[A].kids.getD ((y : Nat) : Int).toNat 0 = l[A].kids[y] := by simp [List.getD, hy]
      rw [hg] at hf
      refine ⟨by kernel_rfl, ?_⟩
      refine ex_row (A) _ (by first | rfl | omega | simp) (at_some (hA)) ?_
      refine ex_row k _ rfl hwk ?_
      refine ex_row (y) _ (by first | rfl | omega | simp) (at_some (hy)) ?_
      refine ⟨by kernel_rfl, ?_⟩
      refine ex_dec (fun h4 => ?_) (fun h4 => ?_)
      · rw [if_pos (.inl h4)] at hf
        exact TLe.eq (by rw [← hf]; rfl)
      refine ex_is (l.length) (by simp) ?_
      refine ex_dec (fun h5 => ?_) (fun h5 => ?_)
      · rw [if_pos (.inr h5)] at hf
        exact TLe.eq (by rw [← hf]; rfl)
      rw [if_neg (by omega)] at hf
      obtain ⟨z, hz⟩ := Int.eq_ofNat_of_zero_le (show 0 ≤ l[A].kids[y] by omega)
      rw [hz] at hf h4 h5 ⊢
      refine ex_i64 (((k + 1 : Nat) : Int)) (by first | rfl | omega | simp) (by omega) (by omega) ?_
      exact ex_round (k + 1, z) ⟨by omega, by simp only; omega, by simpa using hf⟩ (by simp only; omega) (SLe.of ⟨⟨rfl, rfl, rfl, rfl, trivial⟩, trivial⟩)
    · obtain rfl : k = way.length := by omega
      rw [List.drop_length, findP] at hf
      exact TLe.eq (by rw [← hf]; rfl)

abbrev nrow (n : Nat) : List D := [di n]
theorem rep_n (n : Nat) : List.replicate n [di 0] = (List.replicate n 0).map nrow := by simp [List.map_replicate]
theorem set_n (ns : List Nat) (i : Nat) (v : Nat) : (ns.map nrow).set i [di v] = (ns.set i v).map nrow := by rw [List.map_set]
theorem at_n {ns : List Nat} {i : Nat} (h : i < ns.length) : ns[i]? = some (ns.getD i 0) := by simp [List.getD, h]
theorem kidsL_len (n d : Nat) : ∀ (ks : List Int) (last : Int) (ns ns' : List Nat), kidsL n d last ks ns = some ns' → ns'.length = ns.length
  | [], _, ns, ns', h => by simp only [kidsL, Option.some.injEq] at h; rw [h]
  | k :: ks, last, ns, ns', h => by
    simp only [kidsL] at h
    split at h
    · cases h
    · rw [kidsL_len n d ks k _ ns' h]; simp
set_option maxHeartbeats 800000 in
theorem good_c (l : List GV) (s : ByteArray) (hl : l.length ≤ 100000) (hk : ∀ x ∈ l, x.ok) (hkk : ∀ x ∈ l, x.kids.length ≤ 100000) (hs : s.size ≤ 281474976706560) :
    CallsA Tryd.prog Γ0 11 [c1 (dviews l), c1 (ds s)] (.o (c1 (db (goodV l s)))) := by
  obtain ⟨R, hR⟩ : ∃ R, goodL s l.length 0 l (List.replicate l.length 0) = R := ⟨_, rfl⟩
  have hgv : goodV l s = (R && decide (0 < l.length)) := by rw [goodV, hR]
  rw [hgv]
  refine fn_rule (C := ⟨Tryd.prog, layF, Tryd.f11.ntmps, Γ0, 0, [], []⟩) layF_ok mixed Tryd.func11 rfl (by kernel_rfl) rfl rfl rfl ?_
  refine ex_is (l.length) (by simp) ?_
  refine ⟨rfl, by omega, by simp only [Int.toNat_natCast]; omega, ?_⟩
  refine ex_is ((List.replicate l.length 0).map nrow) (rep_n _) ?_
  refine ex_is (l.length) (by simp) ?_
  refine ex_loop (X := Nat × List Nat) (fun x => ⟨[(0, .o (c1 (dviews l))), (1, .o (c1 (ds s))), (5, .o (.c (.row 0))), (14, .o (c1 (dviews l))), (15, Ti l.length), (16, Ti x.1)], [(0, .row 1 3 (x.2.map nrow))], 1⟩) (fun x => l.length - x.1)
    (fun x => x.1 ≤ l.length ∧ x.2.length = l.length ∧ goodL s l.length x.1 (l.drop x.1) x.2 = R) (0, List.replicate l.length 0) ⟨by omega, by simp, by simpa using hR⟩ (SLe.of ⟨⟨rfl, rfl, rfl, rfl, rfl, rfl, trivial⟩, ⟨rfl, trivial⟩⟩) ?_
  rintro ⟨i, ns⟩ ⟨hi, hns, hg⟩
  simp only at hi hns hg
  refine ex_dec (fun h1 => ?_) (fun h1 => ?_)
  · have hil : i < l.length := by omega
    rw [List.drop_eq_getElem_cons hil, goodL] at hg
    have hxk := hk l[i] (List.getElem_mem hil)
    have hxkk := hkk l[i] (List.getElem_mem hil)
    refine ex_row (i) _ (by first | rfl | omega | simp) (at_some (hil)) ?_
    generalize l[i] = x at *
    obtain ⟨ns1, hns1⟩ : ∃ ns1, nestAt i ns = ns1 := ⟨_, rfl⟩
    have hl1 : ns1.length = l.length := by rw [← hns1, nestAt_len, hns]
    rw [hns1] at hg
    have hstore : i = 0 → ns.set 0 1 = ns1 := fun h => by rw [← hns1, nestAt, if_pos h]
    have hkeep : i ≠ 0 → ns1 = ns := fun h => by rw [← hns1, nestAt, if_neg h]
    refine ex_dec (fun h0 => ?_) (fun h0 => ?_)
    all_goals first
      | (have h0' : i = 0 := by simpa using h0
         refine ⟨by omega, by simp; omega, ?_⟩
         refine ex_at 0 (ns.getD 0 0) (at_n (by omega)) ?_
         refine ex_is (ns1.map nrow) (by rw [← hstore h0']; exact set_n ns 0 1) ?_)
      | (obtain rfl := hkeep (by simpa using h0))
    all_goals
      have hi1 : i < ns1.length := by omega
      refine ex_call (sound_c x s hs hxk) ?_
      cases hsd : soundB x.kind x.at_ x.len x.beh x.wid s.size
      · have : goodS s l.length i x ns1 = none := by rw [goodS, if_pos (.inl hsd)]
        rw [this] at hg
        exact TLe.eq (by rw [← hg]; rfl)
      · refine ⟨by omega, by simp; omega, ?_⟩
        refine ex_at i _ (at_n hi1) ?_
        refine ex_dec (fun h2 => ?_) (fun h2 => ?_)
        · have : goodS s l.length i x ns1 = none := by rw [goodS, if_pos (.inr (.inl (by simpa using h2)))]
          rw [this] at hg
          exact TLe.eq (by rw [← hg]; rfl)
        refine ⟨by omega, by simp; omega, ?_⟩
        refine ex_at i _ (at_n hi1) ?_
        refine ex_dec (fun h3 => ?_) (fun h3 => ?_)
        · have : goodS s l.length i x ns1 = none := by rw [goodS, if_pos (.inr (.inr (.inl (by omega))))]
          rw [this] at hg
          exact TLe.eq (by rw [← hg]; rfl)
        have hcond : (x.kids ≠ [] ∧ x.kind < 4) → goodS s l.length i x ns1 = none := fun h => by rw [goodS, if_pos (.inr (.inr (.inr h)))]
        have hcond' : ¬ (x.kids ≠ [] ∧ x.kind < 4) → goodS s l.length i x ns1 = kidsL l.length (ns1.getD i 0) i x.kids ns1 := fun h => by
          rw [goodS, if_neg]
          rintro (h' | h' | h' | h')
          · rw [hsd] at h'; cases h'
          · omega
          · omega
          · exact h h'
        refine ex_is (x.kids.length) (by simp) ?_
        refine ex_dec (fun h4 => ?_) (fun h4 => ?_)
        all_goals first
          | (refine ex_dec (fun h5 => ?_) (fun h5 => ?_)
             · rw [hcond ⟨by intro e; rw [e] at h4; simp at h4, h5⟩] at hg
               exact TLe.eq (by rw [← hg]; rfl))
          | skip
        all_goals
          rw [hcond' (by rintro ⟨e1, e2⟩; first | exact h5 e2 | (apply e1; apply List.eq_nil_of_length_eq_zero; omega))] at hg
          refine ex_is (x.kids.length) (by simp) ?_
          refine ex_loop (X := Nat × Int × List Nat) (fun ⟨q, last, ns2⟩ => ⟨[(0, .o (c1 (dviews l))), (1, .o (c1 (ds s))), (5, .o (.c (.row 0))), (14, .o (c1 (dviews l))), (15, Ti l.length), (16, Ti i), (6, Ti i), (8, Ti last), (56, .o (c1 (dints x.kids))), (57, Ti x.kids.length), (58, Ti q)], [(0, .row 1 3 (ns2.map nrow))], 2⟩) (fun y => x.kids.length - y.1)
            (fun y => y.1 ≤ x.kids.length ∧ y.2.2.length = l.length ∧ y.2.2.getD i 0 = ns1.getD i 0 ∧ (i : Int) ≤ y.2.1 ∧ kidsL l.length (ns1.getD i 0) y.2.1 (x.kids.drop y.1) y.2.2 = kidsL l.length (ns1.getD i 0) i x.kids ns1) (0, (i : Int), ns1) ⟨by omega, hl1, rfl, by simp, by simp⟩ (SLe.of ⟨⟨rfl, rfl, rfl, rfl, rfl, rfl, rfl, rfl, rfl, rfl, rfl, trivial⟩, ⟨rfl, trivial⟩⟩) ?_
          rintro ⟨q, last, ns2⟩ ⟨hq, hl2, hd2, hla, hkl⟩
          simp only at hq hl2 hd2 hla hkl
          refine ex_dec (fun h6 => ?_) (fun h6 => ?_)
          · have hqk : q < x.kids.length := by omega
            rw [List.drop_eq_getElem_cons hqk, kidsL] at hkl
            refine ex_row (q) _ (by first | rfl | omega | simp) (at_some (hqk)) ?_
            generalize x.kids[q] = k at *
            refine ex_dec (fun h7 => ?_) (fun h7 => ?_)
            · rw [if_pos (.inl h7)] at hkl
              rw [← hkl] at hg
              exact TLe.eq (by rw [← hg]; rfl)
            refine ex_is (l.length) (by simp) ?_
            refine ex_dec (fun h8 => ?_) (fun h8 => ?_)
            · rw [if_pos (.inr (.inl h8))] at hkl
              rw [← hkl] at hg
              exact TLe.eq (by rw [← hg]; rfl)
            obtain ⟨k, rfl⟩ := Int.eq_ofNat_of_zero_le (show 0 ≤ k by omega)
            have hkn : k < ns2.length := by omega
            refine ⟨by omega, by simp; omega, ?_⟩
            refine ex_at k _ (at_n hkn) ?_
            refine ex_dec (fun h9 => ?_) (fun h9 => ?_)
            · rw [if_pos (.inr (.inr (by simpa using h9)))] at hkl
              rw [← hkl] at hg
              exact TLe.eq (by rw [← hg]; rfl)
            have h9' : ns2.getD k 0 = 0 := by omega
            rw [if_neg (by rintro (h | h | h); exact h7 h; exact h8 h; exact h h9')] at hkl
            refine ⟨by omega, by simp; omega, ?_⟩
            refine ex_at i _ (at_n (by omega)) ?_
            rw [hd2]
            refine ex_i64 (((ns1.getD i 0 + 1 : Nat) : Int)) (by first | rfl | omega | simp) (by omega) (by omega) ?_
            refine ⟨by omega, by simp; omega, ?_⟩
            refine ex_at k _ (at_n hkn) ?_
            refine ex_is ((ns2.set k (ns1.getD i 0 + 1)).map nrow) (set_n _ _ _) ?_
            refine ex_i64 (((q + 1 : Nat) : Int)) (by first | rfl | omega | simp) (by omega) (by omega) ?_
            refine ex_round (q + 1, (k : Int), ns2.set k (ns1.getD i 0 + 1)) ⟨by simp only; omega, by simp [hl2], ?_, by simp only; omega, by simpa using hkl⟩ (by simp only; omega) (SLe.of ⟨⟨rfl, rfl, rfl, rfl, rfl, rfl, rfl, rfl, rfl, rfl, rfl, trivial⟩, ⟨rfl, trivial⟩⟩)
            simp only
            rw [← hd2]
            simp only [List.getD, List.getElem?_set]
            rw [if_neg (by omega)]
          · obtain rfl : q = x.kids.length := by omega
            rw [List.drop_length, kidsL] at hkl
            rw [← hkl] at hg
            refine ex_i64 (((i + 1 : Nat) : Int)) (by first | rfl | omega | simp) (by omega) (by omega) ?_
            exact ex_round (i + 1, ns2) ⟨by simp only; omega, hl2, by simpa using hg⟩ (by simp only; omega) (SLe.of ⟨⟨rfl, rfl, rfl, rfl, rfl, rfl, trivial⟩, ⟨rfl, trivial⟩⟩)
  · obtain rfl : i = l.length := by omega
    rw [List.drop_length, goodL] at hg
    subst hg
    refine ex_is (l.length) (by simp) ?_
    refine ex_eq ?_
    exact TLe.eq (by simp [retT])
end Go.Proofs.YtaponjjdfcmbeaaDoor
