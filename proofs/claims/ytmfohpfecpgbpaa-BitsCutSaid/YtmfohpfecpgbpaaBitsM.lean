/- Plain laws of a width that is cut in two. No condition. -/
import Derived.Test.YtmfohpfecpgbpaaBitsL
namespace Go.Proofs.Ytmfohpfecpgbpaa

def cutL (gs : List Int) (k : Nat) (x low : Int) : List Int := gs.take k ++ [x - low, low] ++ gs.drop (k + 1)
theorem part_hi {n : Nat} {B X l : Nat} (hB : B + X ≤ 64) (h0 : 1 ≤ l) (h1 : l < X) : partV n ((B : Int) + l) ((X : Int) - l) = partV n B X / 2 ^ l := by
  rw [partV, if_neg (by omega), partV, if_neg (by omega)]
  rw [show ((B : Int) + (l : Int)).toNat = B + l by omega, show ((X : Int) - (l : Int)).toNat = X - l by omega, Int.toNat_natCast, Int.toNat_natCast]
  obtain ⟨r, rfl⟩ : ∃ r, X = l + r := ⟨X - l, by omega⟩
  rw [show l + r - l = r by omega, Nat.pow_add 2 l r, Nat.mod_mul_right_div_self, Nat.div_div_eq_div_mul, ← Nat.pow_add]
theorem part_lo {n : Nat} {B X l : Nat} (hB : B + X ≤ 64) (h0 : 1 ≤ l) (h1 : l < X) : partV n B l = partV n B X % 2 ^ l := by
  rw [partV, if_neg (by omega), partV, if_neg (by omega)]
  simp only [Int.toNat_natCast]
  rw [Nat.mod_mod_of_dvd _ (Nat.pow_dvd_pow 2 (Nat.le_of_lt h1))]
theorem cut_goes : ∀ (gs : List Int) (T : Int) (k : Nat) (x low : Int), goesL T gs = true → gs[k]? = some x → 1 ≤ low → low < x → goesL T (cutL gs k x low) = true
  | [], T, k, x, low, _, h, _, _ => by simp at h
  | y :: gs, T, 0, x, low, hg, h, h1, h2 => by
    obtain ⟨a, b, c⟩ := goesL_cons hg
    simp only [List.getElem?_cons_zero, Option.some.injEq] at h
    subst h
    simp only [cutL, List.take_zero, List.nil_append, List.drop_succ_cons, List.drop_zero, List.cons_append, goesL]
    rw [if_neg (by omega), if_neg (by omega), show T - (y - low) - low = T - y by omega]
    exact c
  | y :: gs, T, k + 1, x, low, hg, h, h1, h2 => by
    obtain ⟨a, b, c⟩ := goesL_cons hg
    have ih := cut_goes gs (T - y) k x low c (by simpa using h) h1 h2
    simp only [cutL, List.take_succ_cons, List.drop_succ_cons, List.cons_append, goesL] at ih ⊢
    rw [if_neg (by omega)]
    exact ih
theorem cut_parts (n : Nat) : ∀ (gs : List Int) (T : Nat) (k X l p : Nat), T ≤ 64 → goesL T gs = true → gs[k]? = some (X : Int) → 1 ≤ l → l < X → (partsL n (layL T gs))[k]? = some p →
    partsL n (layL T (cutL gs k X l)) = (partsL n (layL T gs)).take k ++ [p / 2 ^ l, p % 2 ^ l] ++ (partsL n (layL T gs)).drop (k + 1)
  | [], T, k, X, l, p, _, _, h, _, _, _ => by simp at h
  | y :: gs, T, 0, X, l, p, hT, hg, h, h1, h2, hp => by
    obtain ⟨a, b, c⟩ := goesL_cons hg
    simp only [List.getElem?_cons_zero, Option.some.injEq] at h
    subst h
    obtain ⟨B, hB⟩ : ∃ B : Nat, (T : Int) - X = B := ⟨T - X, by omega⟩
    simp only [layL, partsL, List.map_cons, List.getElem?_cons_zero, Option.some.injEq, hB] at hp
    simp only [cutL, List.take_zero, List.nil_append, List.drop_succ_cons, List.drop_zero, List.cons_append, layL, partsL, List.map_cons]
    rw [show (T : Int) - ((X : Int) - l) - l = T - X by omega, hB, show (T : Int) - ((X : Int) - l) = (B : Int) + l by omega]
    rw [part_hi (by omega) h1 h2, part_lo (X := X) (by omega) h1 h2, hp]
  | y :: gs, T, k + 1, X, l, p, hT, hg, h, h1, h2, hp => by
    obtain ⟨a, b, c⟩ := goesL_cons hg
    obtain ⟨B, hB⟩ : ∃ B : Nat, (T : Int) - y = B := ⟨((T : Int) - y).toNat, by omega⟩
    rw [hB] at c
    have ih := cut_parts n gs B k X l p (by omega) c (by simpa using h) h1 h2 (by simpa [layL, partsL, hB] using hp)
    simp only [cutL, List.take_succ_cons, List.drop_succ_cons, List.cons_append, layL, partsL, List.map_cons, hB] at ih ⊢
    rw [ih]
theorem or_join {h o l p : Nat} (hp : h * 2 ^ l + o = p) (ho : o < 2 ^ l) (hp64 : p < 18446744073709551616) : bits .or .u64 (IntKind.u64.wrap ((h : Int) * 2 ^ l)) (o : Int) = (p : Int) := by
  rw [u64_shl _ _ (by omega)]
  show IntKind.u64.wrap ((BitVec.ofInt 64 ((h * 2 ^ l : Nat) : Int) ||| BitVec.ofInt 64 (o : Int)).toNat : Int) = _
  rw [BitVec.toNat_or, bv64 _ (by omega), bv64 _ (by omega), u64_or_shl _ _ _ (Nat.mul_mod_left _ _) ho (by omega), hp]
  exact wrap_u64_nat _ hp64
theorem cut_len (gs : List Int) (k : Nat) (x low : Int) (h : k < gs.length) : (cutL gs k x low).length = gs.length + 1 := by simp [cutL]; omega
theorem join_two (p l : Nat) : p / 2 ^ l * 2 ^ l + p % 2 ^ l = p := by rw [Nat.mul_comm]; exact Nat.div_add_mod _ _
/-- The parts of the cut, the two made one again. -/
theorem cut_back {ps : List Nat} {k p h l : Nat} (hp : ps[k]? = some p) : ((ps.take k ++ [h, l] ++ ps.drop (k + 1)).take k ++ [p]) ++ (ps.take k ++ [h, l] ++ ps.drop (k + 1)).drop (k + 2) = ps := by
  obtain ⟨hk, rfl⟩ := List.getElem?_eq_some_iff.1 hp
  have hl : (ps.take k).length = k := by rw [List.length_take]; omega
  have e1 : (ps.take k ++ [h, l] ++ ps.drop (k + 1)).take k = ps.take k := by
    rw [List.append_assoc, List.take_append_of_le_length (by omega)]
    rw [List.take_of_length_le (by omega)]
  have e2 : (ps.take k ++ [h, l] ++ ps.drop (k + 1)).drop (k + 2) = ps.drop (k + 1) := by
    rw [List.drop_append, List.drop_eq_nil_of_le (by simp; omega)]
    simp [hl]
  rw [e1, e2]
  conv => rhs; rw [← List.take_append_drop k ps, List.drop_eq_getElem_cons hk]
  simp
end Go.Proofs.Ytmfohpfecpgbpaa
