/- Good's two answers are one. No condition. -/
import Derived.Test.YtaponjjdfcmbeaaDoorU1
namespace Go.Proofs.YtaponjjdfcmbeaaDoor
set_option linter.unusedVariables false
set_option linter.unusedSimpArgs false

def ascK (n : Nat) : Int → List Int → Prop
  | _, [] => True
  | last, k :: ks => last < k ∧ k < (n : Int) ∧ ascK n k ks
theorem asc_mem {n : Nat} : ∀ {ks : List Int} {last : Int}, ascK n last ks → ∀ k ∈ ks, last < k ∧ k < (n : Int)
  | [], _, _, k, h => by cases h
  | a :: ks, last, h, k, hk => by
    obtain ⟨h1, h2, h3⟩ := h
    rcases List.mem_cons.1 hk with rfl | hk
    · exact ⟨h1, h2⟩
    · have := asc_mem h3 k hk; exact ⟨by omega, this.2⟩
theorem asc_count {n : Nat} : ∀ {ks : List Int} {last : Int}, ascK n last ks → ∀ k, ks.count k ≤ 1
  | [], _, _, k => by simp
  | a :: ks, last, h, k => by
    obtain ⟨h1, h2, h3⟩ := h
    rw [List.count_cons]
    split
    · rename_i e
      have e : a = k := by simpa using e
      subst e
      have : a ∉ ks := fun hm => by have := asc_mem h3 a hm; omega
      rw [List.count_eq_zero_of_not_mem this]
      omega
    · have := asc_count h3 k; omega
theorem asc_out {n : Nat} {ks : List Int} {i : Nat} (h : ascK n i ks) {j : Nat} (hj : j ≤ i) : ks.count (j : Int) = 0 :=
  List.count_eq_zero_of_not_mem fun hm => by have := asc_mem h _ hm; omega
theorem set_getD (ns : List Nat) (k v j : Nat) : (ns.set k v).getD j 0 = if k = j ∧ j < ns.length then v else ns.getD j 0 := by
  simp only [List.getD, List.getElem?_set]
  by_cases h : k = j
  · subst h
    by_cases h2 : k < ns.length
    · simp [h2]
    · simp [h2]
  · simp [h]
theorem rkidsL_spec {n d : Nat} : ∀ {ks : List Int} {last : Int} {ns ns1 : List Nat}, 0 ≤ last → ns.length = n → rkidsL n d last ks ns = some ns1 → ascK n last ks ∧ ns1.length = n ∧ ∀ j : Nat, ns1.getD j 0 = if (j : Int) ∈ ks then d + 1 else ns.getD j 0
  | [], _, ns, ns1, _, hn, h => by
    simp only [rkidsL, Option.some.injEq] at h
    subst h
    exact ⟨trivial, hn, fun j => by simp⟩
  | k :: ks, last, ns, ns1, hl, hn, h => by
    simp only [rkidsL] at h
    split at h
    · cases h
    · rename_i hc
      obtain ⟨h1, h2, h3⟩ := rkidsL_spec (last := k) (by omega) (by simpa using hn) h
      refine ⟨⟨by omega, by omega, h1⟩, h2, fun j => ?_⟩
      rw [h3 j, set_getD]
      by_cases hj : (j : Int) ∈ ks
      · simp [hj]
      · by_cases hjk : (j : Int) = k
        · rw [if_neg hj, if_pos ⟨by omega, by omega⟩, if_pos (by simp [hjk])]
        · rw [if_neg hj, if_neg (by omega), if_neg (by simp [hj, hjk])]
theorem rkidsL_go {n d : Nat} : ∀ {ks : List Int} {last : Int} {ns : List Nat}, ascK n last ks → ∃ ns1, rkidsL n d last ks ns = some ns1
  | [], _, ns, _ => ⟨ns, rfl⟩
  | k :: ks, last, ns, h => by
    obtain ⟨h1, h2, h3⟩ := h
    simp only [rkidsL]
    rw [if_neg (by omega)]
    exact rkidsL_go h3
theorem kidsL_r {n d : Nat} : ∀ {ks : List Int} {last : Int} {ns ns1 : List Nat}, kidsL n d last ks ns = some ns1 → rkidsL n d last ks ns = some ns1
  | [], _, ns, ns1, h => h
  | k :: ks, last, ns, ns1, h => by
    simp only [kidsL] at h
    split at h
    · cases h
    · rename_i hc
      simp only [rkidsL]
      rw [if_neg (fun hh => hc (by rcases hh with hh | hh; exact .inl hh; exact .inr (.inl hh)))]
      exact kidsL_r h
theorem kidsL_z {n d : Nat} : ∀ {ks : List Int} {last : Int} {ns ns1 : List Nat}, 0 ≤ last → kidsL n d last ks ns = some ns1 → ∀ j : Nat, (j : Int) ∈ ks → ns.getD j 0 = 0
  | [], _, ns, ns1, _, h, j, hj => by cases hj
  | k :: ks, last, ns, ns1, hl, h, j, hj => by
    simp only [kidsL] at h
    split at h
    · cases h
    · rename_i hc
      rcases List.mem_cons.1 hj with e | hj
      · rw [← e] at hc
        simp only [Int.toNat_natCast] at hc
        omega
      · have h1 := kidsL_z (last := k) (by omega) h j hj
        rw [set_getD] at h1
        split at h1
        · omega
        · exact h1
theorem kidsL_go {n d : Nat} : ∀ {ks : List Int} {last : Int} {ns : List Nat}, 0 ≤ last → ascK n last ks → (∀ j : Nat, (j : Int) ∈ ks → ns.getD j 0 = 0) → ∃ ns1, kidsL n d last ks ns = some ns1
  | [], _, ns, _, _, _ => ⟨ns, rfl⟩
  | k :: ks, last, ns, hl, h, hz => by
    obtain ⟨h1, h2, h3⟩ := h
    obtain ⟨k, rfl⟩ := Int.eq_ofNat_of_zero_le (show 0 ≤ k by omega)
    have := hz k (by simp)
    simp only [kidsL, Int.toNat_natCast]
    rw [if_neg (by omega)]
    refine kidsL_go (by omega) h3 fun j hj => ?_
    have hgt := asc_mem h3 _ hj
    rw [set_getD, if_neg (by omega)]
    exact hz j (by simp [hj])

def kcount (xs : List GV) (j : Nat) : Nat := (xs.flatMap GV.kids).count (j : Int)
theorem kcount_cons (x : GV) (xs : List GV) (j : Nat) : kcount (x :: xs) j = x.kids.count (j : Int) + kcount xs j := by simp [kcount, List.count_append]
section
variable {s : ByteArray} {n : Nat} {p : List Nat}
theorem goodL_open {i : Nat} {x : GV} {xs : List GV} {ns : List Nat} (h : goodL s n i (x :: xs) ns = true) : ∃ ns1, soundB x.kind x.at_ x.len x.beh x.wid s.size = true ∧ (nestAt i ns).getD i 0 ≠ 0 ∧ (nestAt i ns).getD i 0 ≤ 1200 ∧ ¬ (x.kids ≠ [] ∧ x.kind < 4) ∧ kidsL n ((nestAt i ns).getD i 0) i x.kids (nestAt i ns) = some ns1 ∧ goodL s n (i + 1) xs ns1 = true := by
  simp only [goodL] at h
  split at h
  · cases h
  · rename_i ns1 hg
    unfold goodS at hg
    split at hg
    · cases hg
    · rename_i hc
      simp only [not_or] at hc
      exact ⟨ns1, by simpa using hc.1, hc.2.1, by omega, hc.2.2.2, hg, h⟩
theorem rgoodL_open {i : Nat} {x : GV} {xs : List GV} {ns : List Nat} (h : rgoodL s n p i (x :: xs) ns = true) : ∃ ns1, soundB x.kind x.at_ x.len x.beh x.wid s.size = true ∧ p.getD i 0 = (if i = 0 then 0 else 1) ∧ ns.getD i 0 < 1200 ∧ ¬ (x.kids ≠ [] ∧ x.kind < 4) ∧ rkidsL n (ns.getD i 0) i x.kids ns = some ns1 ∧ rgoodL s n p (i + 1) xs ns1 = true := by
  simp only [rgoodL] at h
  split at h
  · cases h
  · rename_i ns1 hg
    by_cases hc : soundB x.kind x.at_ x.len x.beh x.wid s.size = false ∨ p.getD i 0 ≠ (if i = 0 then 0 else 1) ∨ (x.kids ≠ [] ∧ x.kind < 4) ∨ 1200 ≤ ns.getD i 0
    · rw [rgoodS, if_pos hc] at hg; cases hg
    · rw [rgoodS, if_neg hc] at hg
      simp only [not_or] at hc
      exact ⟨ns1, by simpa using hc.1, by have := hc.2.1; simpa using this, by omega, hc.2.2.1, hg, h⟩
theorem goodL_mk {i : Nat} {x : GV} {xs : List GV} {ns ns1 : List Nat} (h1 : soundB x.kind x.at_ x.len x.beh x.wid s.size = true) (h2 : (nestAt i ns).getD i 0 ≠ 0) (h3 : (nestAt i ns).getD i 0 ≤ 1200) (h4 : ¬ (x.kids ≠ [] ∧ x.kind < 4)) (h5 : kidsL n ((nestAt i ns).getD i 0) i x.kids (nestAt i ns) = some ns1) : goodL s n i (x :: xs) ns = goodL s n (i + 1) xs ns1 := by
  have : goodS s n i x (nestAt i ns) = some ns1 := by
    rw [goodS, if_neg, h5]
    rintro (h | h | h | h)
    · rw [h1] at h; cases h
    · exact h2 h
    · omega
    · exact h4 h
  simp only [goodL, this]
theorem rgoodL_mk {i : Nat} {x : GV} {xs : List GV} {ns ns1 : List Nat} (h1 : soundB x.kind x.at_ x.len x.beh x.wid s.size = true) (h2 : p.getD i 0 = (if i = 0 then 0 else 1)) (h3 : ns.getD i 0 < 1200) (h4 : ¬ (x.kids ≠ [] ∧ x.kind < 4)) (h5 : rkidsL n (ns.getD i 0) i x.kids ns = some ns1) : rgoodL s n p i (x :: xs) ns = rgoodL s n p (i + 1) xs ns1 := by
  have : rgoodS s n i x (p.getD i 0) ns = some ns1 := by
    rw [rgoodS, if_neg, h5]
    rintro (h | h | h | h)
    · rw [h1] at h; cases h
    · exact h h2
    · exact h4 h
    · omega
  simp only [rgoodL, this]
theorem goodL_out : ∀ (xs : List GV) (i : Nat) (ns : List Nat), ns.length = n → goodL s n i xs ns = true → ∀ j, j ≤ i → kcount xs j = 0
  | [], _, _, _, _, j, _ => by simp [kcount]
  | x :: xs, i, ns, hn, h, j, hj => by
    obtain ⟨ns1, _, _, _, _, h5, h6⟩ := goodL_open h
    obtain ⟨h7, h8, _⟩ := rkidsL_spec (by omega) (by rw [nestAt_len, hn]) (kidsL_r h5)
    rw [kcount_cons, asc_out h7 hj, goodL_out xs (i + 1) ns1 h8 h6 j (by omega)]
theorem rgoodL_out : ∀ (xs : List GV) (i : Nat) (ns : List Nat), ns.length = n → rgoodL s n p i xs ns = true → ∀ j, j ≤ i → kcount xs j = 0
  | [], _, _, _, _, j, _ => by simp [kcount]
  | x :: xs, i, ns, hn, h, j, hj => by
    obtain ⟨ns1, _, _, _, _, h5, h6⟩ := rgoodL_open h
    obtain ⟨h7, h8, _⟩ := rkidsL_spec (by omega) hn h5
    rw [kcount_cons, asc_out h7 hj, rgoodL_out xs (i + 1) ns1 h8 h6 j (by omega)]
theorem rgoodL_par : ∀ (xs : List GV) (i : Nat) (ns : List Nat), i + xs.length = n → rgoodL s n p i xs ns = true → ∀ j, i ≤ j → j < n → p.getD j 0 = if j = 0 then 0 else 1
  | [], i, _, hi, _, j, h1, h2 => by simp at hi; omega
  | x :: xs, i, ns, hi, h, j, h1, h2 => by
    obtain ⟨ns1, _, h3, _, _, _, h6⟩ := rgoodL_open h
    by_cases e : j = i
    · subst e; exact h3
    · exact rgoodL_par xs (i + 1) ns1 (by simp at hi; omega) h6 j (by omega) h2
/-- What the two lists of depths have in common. -/
def NInv (i : Nat) (ns ns' : List Nat) (c : Nat → Nat) : Prop :=
  c 0 = 0 ∧ (i = 0 → ns'.getD 0 0 = 0) ∧ ∀ j, 0 < j → c j ≤ 1 ∧ (ns.getD j 0 = 0 ↔ c j = 0) ∧ (c j ≠ 0 → ns.getD j 0 = ns'.getD j 0 + 1)
theorem nestAt_pos (i : Nat) (ns : List Nat) {j : Nat} (hj : 0 < j) : (nestAt i ns).getD j 0 = ns.getD j 0 := by
  unfold nestAt
  split
  · rw [set_getD, if_neg (by omega)]
  · rfl
theorem nestAt_zero (ns : List Nat) (h : 0 < ns.length) : (nestAt 0 ns).getD 0 0 = 1 := by
  unfold nestAt
  rw [if_pos rfl, set_getD, if_pos ⟨rfl, h⟩]
theorem NInv.step {i d d' : Nat} {x : GV} {ns ns' ns1 ns1' : List Nat} {c : Nat → Nat} (I : NInv i ns ns' c) (ha : ascK n i x.kids) (hz : ∀ j : Nat, (j : Int) ∈ x.kids → c j = 0) (hd : d = d' + 1)
    (h1 : ∀ j : Nat, ns1.getD j 0 = if (j : Int) ∈ x.kids then d + 1 else (nestAt i ns).getD j 0) (h2 : ∀ j : Nat, ns1'.getD j 0 = if (j : Int) ∈ x.kids then d' + 1 else ns'.getD j 0) : NInv (i + 1) ns1 ns1' (fun j => c j + x.kids.count (j : Int)) := by
  refine ⟨by show c 0 + _ = 0; rw [I.1, asc_out ha (Nat.zero_le i)], (by omega), fun j hj => ?_⟩
  obtain ⟨a1, a2, a3⟩ := I.2.2 j hj
  rw [h1, h2]
  by_cases hm : (j : Int) ∈ x.kids
  · have e := hz j hm
    have hc : x.kids.count (j : Int) = 1 := by
      have := asc_count ha (j : Int)
      have := List.count_pos_iff.2 hm
      omega
    rw [if_pos hm, if_pos hm]
    simp only [hc, e]
    omega
  · rw [if_neg hm, if_neg hm, nestAt_pos i ns hj]
    simp only [List.count_eq_zero_of_not_mem hm, Nat.add_zero]
    exact ⟨a1, a2, a3⟩
theorem good_main : ∀ (xs : List GV) (i : Nat) (ns ns' : List Nat) (c : Nat → Nat), i + xs.length = n → ns.length = n → ns'.length = n → (∀ j, j < n → p.getD j 0 = c j + kcount xs j) → NInv i ns ns' c → (goodL s n i xs ns = true ↔ rgoodL s n p i xs ns' = true)
  | [], i, ns, ns', c, _, _, _, _, _ => by simp [goodL, rgoodL]
  | x :: xs, i, ns, ns', c, hi, hn, hn', hp, I => by
    simp only [List.length_cons] at hi
    have hnl : (nestAt i ns).length = n := by rw [nestAt_len, hn]
    have hcount : ∀ j, kcount (x :: xs) j = x.kids.count (j : Int) + kcount xs j := kcount_cons x xs
    have hdd : (i = 0 ∨ c i ≠ 0) → (nestAt i ns).getD i 0 = ns'.getD i 0 + 1 := fun h => by
      by_cases h0 : i = 0
      · subst h0
        rw [nestAt_zero ns (by omega), I.2.1 rfl]
      · rw [nestAt_pos i ns (by omega)]
        exact (I.2.2 i (by omega)).2.2 (by omega)
    have hrest : ∀ ns1 ns1', ns1.length = n → ns1'.length = n → NInv (i + 1) ns1 ns1' (fun j => c j + x.kids.count (j : Int)) → (goodL s n (i + 1) xs ns1 = true ↔ rgoodL s n p (i + 1) xs ns1' = true) := fun ns1 ns1' q1 q2 q3 =>
      good_main xs (i + 1) ns1 ns1' _ (by omega) q1 q2 (fun j hj => by rw [hp j hj, hcount]; omega) q3
    constructor
    · intro h
      obtain ⟨ns1, e1, e2, e3, e4, e5, e6⟩ := goodL_open h
      have hout := goodL_out _ _ _ hn h i (Nat.le_refl _)
      have hci := hp i (by omega)
      rw [hout, Nat.add_zero] at hci
      obtain ⟨f1, f2, f3⟩ := rkidsL_spec (by omega) hnl (kidsL_r e5)
      have hc1 : i ≠ 0 → c i = 1 := fun h0 => by
        have := I.2.2 i (by omega)
        rw [nestAt_pos i ns (by omega)] at e2
        omega
      have hd := hdd (by by_cases h0 : i = 0; exact .inl h0; exact .inr (by rw [hc1 h0]; omega))
      obtain ⟨ns1', g⟩ := rkidsL_go (d := ns'.getD i 0) (ns := ns') f1
      obtain ⟨_, g2, g3⟩ := rkidsL_spec (by omega) hn' g
      rw [rgoodL_mk e1 (by
        rw [hci]
        by_cases h0 : i = 0
        · subst h0; rw [I.1]; rfl
        · rw [if_neg h0, hc1 h0]) (by omega) e4 g]
      refine (hrest ns1 ns1' f2 g2 (I.step f1 (fun j hj => ?_) hd f3 g3)).1 e6
      have hz := kidsL_z (by omega) e5 j hj
      have hgt := asc_mem f1 _ hj
      rw [nestAt_pos i ns (by omega)] at hz
      exact (I.2.2 j (by omega)).2.1.1 hz
    · intro h
      obtain ⟨ns1', e1, e2, e3, e4, e5, e6⟩ := rgoodL_open h
      have hout := rgoodL_out _ _ _ hn' h i (Nat.le_refl _)
      have hci := hp i (by omega)
      rw [hout, Nat.add_zero, e2] at hci
      obtain ⟨f1, f2, f3⟩ := rkidsL_spec (by omega) hn' e5
      have hc1 : i ≠ 0 → c i = 1 := fun h0 => by rw [if_neg h0] at hci; omega
      have hd := hdd (by by_cases h0 : i = 0; exact .inl h0; exact .inr (by rw [hc1 h0]; omega))
      have hz : ∀ j : Nat, (j : Int) ∈ x.kids → c j = 0 := fun j hj => by
        have hgt := asc_mem f1 _ hj
        have h1 := rgoodL_par _ _ _ (by simp; omega) h j (by omega) (by omega)
        rw [if_neg (by omega), hp j (by omega), hcount] at h1
        have := List.count_pos_iff.2 hj
        omega
      obtain ⟨ns1, g⟩ := kidsL_go (d := (nestAt i ns).getD i 0) (ns := nestAt i ns) (by omega) f1 (fun j hj => by
        have hgt := asc_mem f1 _ hj
        rw [nestAt_pos i ns (by omega)]
        exact (I.2.2 j (by omega)).2.1.2 (hz j hj))
      obtain ⟨_, g2, g3⟩ := rkidsL_spec (by omega) hnl (kidsL_r g)
      rw [goodL_mk e1 (by omega) (by omega) e4 g]
      exact (hrest ns1 ns1' g2 f2 (I.step f1 hz hd g3 f3)).2 e6
end
theorem bump_getD {n : Nat} {ns : List Nat} (hn : ns.length = n) (k : Int) {j : Nat} (hj : j < n) : (bump n ns k).getD j 0 = ns.getD j 0 + (if k = (j : Int) then 1 else 0) := by
  unfold bump
  split
  · rename_i h
    rw [set_getD]
    by_cases e : k = (j : Int)
    · subst e
      simp [hn, hj]
    · rw [if_neg e, if_neg (by omega), Nat.add_zero]
  · rename_i h
    rw [if_neg (by omega), Nat.add_zero]
theorem parK_getD {n : Nat} : ∀ (ks : List Int) {ns : List Nat} (_ : ns.length = n) {j : Nat} (_ : j < n), (parK n ks ns).getD j 0 = ns.getD j 0 + ks.count (j : Int)
  | [], ns, hn, j, hj => by simp [parK]
  | k :: ks, ns, hn, j, hj => by
    rw [parK, parK_getD ks (by rw [bump_len, hn]) hj, bump_getD hn k hj, List.count_cons]
    by_cases e : k = (j : Int)
    · simp [e]; omega
    · simp [e]
theorem parL_getD {n : Nat} : ∀ (xs : List GV) {ns : List Nat} (_ : ns.length = n) {j : Nat} (_ : j < n), (parL n xs ns).getD j 0 = ns.getD j 0 + kcount xs j
  | [], ns, hn, j, hj => by simp [parL, kcount]
  | x :: xs, ns, hn, j, hj => by
    rw [parL, parL_getD xs (by rw [parK_len, hn]) hj, parK_getD x.kids hn hj, kcount_cons, Nat.add_assoc]
theorem good_same (l : List GV) (s : ByteArray) : rgoodV l s = goodV l s := by
  have hr : ∀ j, (List.replicate l.length 0).getD j 0 = 0 := fun j => by simp [List.getD, List.getElem?_replicate]; split <;> simp
  have h := good_main (s := s) (n := l.length) (p := parentsV l) l 0 (List.replicate l.length 0) (List.replicate l.length 0) (fun _ => 0) (by simp) (by simp) (by simp) (fun j hj => by rw [parentsV, parL_getD l (by simp) hj, hr]) ⟨rfl, fun _ => hr 0, fun j _ => ⟨Nat.zero_le _, ⟨fun _ => rfl, fun _ => hr j⟩, fun h => absurd rfl h⟩⟩
  unfold rgoodV goodV
  congr 1
  rw [Bool.eq_iff_iff]
  exact h.symm
end Go.Proofs.YtaponjjdfcmbeaaDoor
