/- Views moved by so many bytes show the same; what a good list shows is good. No condition. -/
import Derived.Test.YtaponjjdfcmbeaaDoorU6
namespace Go.Proofs.YtaponjjdfcmbeaaDoor
set_option linter.unusedVariables false
set_option linter.unusedSimpArgs false
open Go.RowKit

def shiftG (t : Nat) (x : GV) : GV := { x with at_ := x.at_ + t }
theorem goodB_shift {a l n : Int} (t : Nat) (h : Sp.goodB a l n = true) : Sp.goodB (a + t) l (n + t) = true := by
  rw [Sp.goodB_iff] at h ⊢
  omega
theorem sound_shift {k a l b m n : Int} (t : Nat) (h : soundB k a l b m n = true) : soundB k (a + t) l b m (n + t) = true := by
  have hg := sound_span h
  unfold soundB at h ⊢
  rw [goodB_shift t hg]
  rw [hg] at h
  exact h
theorem size_app (p s : ByteArray) : ((p ++ s).size : Int) = (s.size : Int) + (p.size : Nat) := by
  rw [ByteArray.size_append]; omega
theorem goodL_shift {p s : ByteArray} {n : Nat} : ∀ (xs : List GV) (i : Nat) (ns : List Nat), goodL s n i xs ns = true → goodL (p ++ s) n i (xs.map (shiftG p.size)) ns = true
  | [], _, _, _ => rfl
  | x :: xs, i, ns, h => by
    obtain ⟨ns1, h1, h2, h3, h4, h5, h6⟩ := goodL_open h
    have h1' := sound_shift p.size h1
    rw [← size_app] at h1'
    exact (goodL_mk (x := shiftG p.size x) h1' h2 h3 h4 h5).trans (goodL_shift xs _ _ h6)
theorem goodV_shift {p s : ByteArray} {l : List GV} (h : goodV l s = true) : goodV (l.map (shiftG p.size)) (p ++ s) = true := by
  unfold goodV at h ⊢
  simp only [Bool.and_eq_true] at h ⊢
  rw [List.length_map]
  exact ⟨goodL_shift l 0 _ h.1, h.2⟩
theorem ext_shift (p s : ByteArray) (a b : Nat) : (p ++ s).extract (a + p.size) (b + p.size) = s.extract a b := by
  apply ByteArray.ext
  simp only [ByteArray.data_extract, ByteArray.data_append, Array.extract_append]
  have e : p.data.size = p.size := rfl
  rw [e, Array.extract_eq_empty_of_le (by omega), show a + p.size - p.size = a by omega, show b + p.size - p.size = b by omega, Array.empty_append]
theorem drop_shift (p s : ByteArray) (a : Nat) : (p ++ s).data.toList.drop (a + p.size) = s.data.toList.drop a := by
  rw [ByteArray.data_append, Array.toList_append, List.drop_append, List.drop_of_length_le (by simp), List.nil_append]
  congr 1
  simp
theorem text_shift {p s : ByteArray} {a l : Int} (h : Sp.goodB a l s.size = true) : Sp.textV (a + p.size) l (p ++ s) = Sp.textV a l s := by
  have h2 := goodB_shift p.size h
  rw [← size_app] at h2
  unfold Sp.textV
  rw [if_pos h2, if_pos h]
  rw [Sp.goodB_iff] at h
  rw [show (a + (p.size : Nat)).toNat = a.toNat + p.size by omega, show (a + (p.size : Nat) + l).toNat = (a + l).toNat + p.size by omega]
  exact ext_shift p s _ _
theorem num_shift {p s : ByteArray} {x : GV} (h : soundB x.kind x.at_ x.len x.beh x.wid s.size = true) : numX (shiftG p.size x) (p ++ s) = numX x s := by
  have h2 := sound_shift p.size h
  rw [← size_app] at h2
  have hg := sound_span h
  rw [Sp.goodB_iff] at hg
  have hget : (En.getV (p ++ s) (x.at_ + p.size) x.len x.little).1 = (En.getV s x.at_ x.len x.little).1 := by
    unfold En.getV
    split
    · rfl
    · rw [if_neg (by rw [size_app]; omega), if_neg (by omega)]
      show En.beVal _ = En.beVal _
      unfold En.getL
      rw [show (x.at_ + (p.size : Nat)).toNat = x.at_.toNat + p.size by omega, drop_shift]
  unfold numX numV
  show (if ¬ (x.kind = 0 ∨ x.kind = 1) then (0, 24) else if soundB x.kind (x.at_ + p.size) x.len x.beh x.wid (p ++ s).size = false then (0, 3) else (if x.kind = 1 then Bi.partV (En.getV (p ++ s) (x.at_ + p.size) x.len x.little).1 x.beh x.wid else (En.getV (p ++ s) (x.at_ + p.size) x.len x.little).1, 0)) = _
  rw [hget, h2, h]
theorem decF_shift {l : List GV} {p s : ByteArray} (hN : Nice l s) : ∀ (f i : Nat), i < l.length → decF (l.map (shiftG p.size)) (p ++ s) f i = decF l s f i
  | 0, _, _ => rfl
  | f + 1, i, hi => by
    obtain ⟨hs, _, hk⟩ := hN i hi
    rw [decF_at (x := l[i]) (at_some hi), decF_at (x := shiftG p.size l[i]) (by rw [List.getElem?_map, at_some hi]; rfl)]
    have hkids : (l[i].kids.map fun k => decF (l.map (shiftG p.size)) (p ++ s) f k.toNat) = l[i].kids.map fun k => decF l s f k.toNat := by
      apply List.map_congr_left
      intro k hk'
      have := hk k hk'
      exact decF_shift hN f k.toNat (by omega)
    show decX (shiftG p.size l[i]) (p ++ s) (l[i].kids.map _) = _
    rw [hkids]
    unfold decX
    rw [num_shift hs]
    show (if l[i].kind = 3 then _ else if l[i].kind = 2 then PV.mk 2 0 (Sp.textV (l[i].at_ + p.size) l[i].len (p ++ s)) [] else _) = _
    rw [text_shift (sound_span hs)]
    rfl
theorem nest_final {s : ByteArray} {n : Nat} : ∀ (xs : List GV) (i : Nat) (ns : List Nat), i + xs.length = n → ns.length = n → goodL s n i xs ns = true →
    ∃ F : Nat → Nat, (∀ j, (nestAt i ns).getD j 0 ≠ 0 → F j = (nestAt i ns).getD j 0) ∧ ∀ j (h : j < xs.length), 1 ≤ F (i + j) ∧ F (i + j) ≤ 1200 ∧ ¬ (xs[j].kids ≠ [] ∧ xs[j].kind < 4) ∧ ∀ k ∈ xs[j].kids, F k.toNat = F (i + j) + 1
  | [], i, ns, _, _, _ => ⟨fun j => (nestAt i ns).getD j 0, fun _ _ => rfl, fun j h => by simp at h⟩
  | x :: xs, i, ns, hi, hn, h => by
    obtain ⟨ns1, h1, h2, h3, h4, h5, h6⟩ := goodL_open h
    obtain ⟨e1, e2, e3⟩ := rkidsL_spec (by omega) (by rw [nestAt_len, hn]) (kidsL_r h5)
    have e4 := kidsL_z (by omega) h5
    obtain ⟨F, f1, f2⟩ := nest_final xs (i + 1) ns1 (by simp at hi; omega) e2 h6
    rw [nestAt, if_neg (by omega)] at f1
    have hF : ∀ j, (nestAt i ns).getD j 0 ≠ 0 → F j = (nestAt i ns).getD j 0 := fun j hj => by
      have hnk : ¬ (j : Int) ∈ x.kids := fun hm => hj (e4 j hm)
      have : ns1.getD j 0 = (nestAt i ns).getD j 0 := by rw [e3, if_neg hnk]
      rw [f1 j (by omega), this]
    refine ⟨F, hF, fun j hj => ?_⟩
    cases j with
    | zero =>
      have := hF i h2
      refine ⟨by simp only [Nat.add_zero]; omega, by simp only [Nat.add_zero]; omega, h4, fun k hk => ?_⟩
      have hgt := asc_mem e1 k hk
      have hkn : ((k.toNat : Nat) : Int) ∈ x.kids := by rw [Int.toNat_of_nonneg (by omega)]; exact hk
      have := e3 k.toNat
      rw [if_pos hkn] at this
      rw [f1 _ (by omega)]
      simp only [Nat.add_zero]
      omega
    | succ j =>
      have := f2 j (by simpa using hj)
      rw [show i + (j + 1) = i + 1 + j by omega]
      simpa using this
theorem countL_pos {m : Nat} : ∀ (ts : List PV) (acc : Nat), (∀ t ∈ ts, 0 < countP t m) → 0 < acc → 0 < countL ts m acc
  | [], acc, _, h => by rw [countL]; exact h
  | t :: ts, acc, ht, h => by
    have h1 := ht t (by simp)
    rw [countL, if_neg (by omega)]
    exact countL_pos ts _ (fun u hu => ht u (by simp [hu])) (by omega)
theorem dec_pos' {l : List GV} {s : ByteArray} {F : Nat → Nat} (hN : Nice l s) (hF : ∀ j (h : j < l.length), 1 ≤ F j ∧ F j ≤ 1200 ∧ ¬ (l[j].kids ≠ [] ∧ l[j].kind < 4) ∧ ∀ k ∈ l[j].kids, F k.toNat = F j + 1) :
    ∀ (m i : Nat), i < l.length → l.length ≤ i + m → ∀ c, 1201 ≤ c + F i → 0 < countP (decF l s m i) c
  | 0, i, h1, h2, _, _ => by omega
  | m + 1, i, hi, hm, c, hc => by
    obtain ⟨hs, _, hk⟩ := hN i hi
    obtain ⟨f1, f2, f3, f4⟩ := hF i hi
    rw [decF_at (x := l[i]) (at_some hi)]
    have hkids : ∀ t ∈ (l[i].kids.map fun k => decF l s m k.toNat), 0 < countP t (c - 1) := fun t ht => by
      obtain ⟨k, hk', rfl⟩ := List.mem_map.1 ht
      have := hk k hk'
      have := f4 k hk'
      exact dec_pos' hN hF m k.toNat (by omega) (by omega) (c - 1) (by omega)
    have hkind := sound_kind hs
    unfold decX
    split
    · rw [countP, if_neg (by simp [leanB]; omega), countL]; omega
    split
    · rw [countP, if_neg (by simp [leanB]; omega), countL]; omega
    split
    · rw [countP, if_neg (by simp [leanB]; omega), countL]; omega
    · rw [countP, if_neg]
      · exact countL_pos _ _ hkids (by omega)
      · rintro (h | h)
        · revert h
          split <;> simp [leanB]
        · omega
theorem decV_good {l : List GV} {s : ByteArray} (h : goodV l s = true) (hk : ∀ x ∈ l, x.kids.length ≤ 100000) : goodP (decV l s) = true := by
  have hN := goodV_Nice h hk
  have hpos := (goodV_nice h).1
  have h0 := h
  unfold goodV at h
  simp only [Bool.and_eq_true] at h
  obtain ⟨F, f1, f2⟩ := nest_final l 0 _ (by simp) (by simp) h.1
  have hz := f1 0 (by rw [nestAt_zero _ (by simpa using hpos)]; omega)
  rw [nestAt_zero _ (by simpa using hpos)] at hz
  have := dec_pos' hN (fun j hj => by have := f2 j hj; rwa [Nat.zero_add] at this) l.length 0 hpos (by omega) 1200 (by omega)
  rw [goodP, decV, if_pos h0]
  exact decide_eq_true this
theorem decV_shift {l : List GV} {p s : ByteArray} (h : goodV l s = true) (hk : ∀ x ∈ l, x.kids.length ≤ 100000) : decV (l.map (shiftG p.size)) (p ++ s) = decV l s ∧ decE (l.map (shiftG p.size)) (p ++ s) = 0 := by
  have h2 := goodV_shift (p := p) h
  rw [decV, decV, decE, if_pos h2, if_pos h, if_pos h2, List.length_map]
  exact ⟨decF_shift (goodV_Nice h hk) _ _ (goodV_nice h).1, rfl⟩
end Go.Proofs.YtaponjjdfcmbeaaDoor
