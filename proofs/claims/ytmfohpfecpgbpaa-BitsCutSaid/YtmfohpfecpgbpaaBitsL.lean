/- Plain laws of fields, parts and their number. No condition. -/
import Derived.Test.YtmfohpfecpgbpaaBits15
namespace Go.Proofs.Ytmfohpfecpgbpaa

theorem joinT_split (n : Nat) : ∀ (xs : List Int) (T : Nat), T ≤ 64 → goesL T xs = true → joinT (n / 2 ^ T) (partsL n (layL T xs)) xs = (n, 0)
  | [], T, _, h => by
    have h0 : T = 0 := by simpa [goesL] using h
    subst h0
    simp [layL, partsL, joinT]
  | x :: xs, T, hT, h => by
    obtain ⟨h1, h2, h3⟩ := goesL_cons h
    obtain ⟨X, rfl⟩ := Int.eq_ofNat_of_zero_le (show 0 ≤ x by omega)
    obtain ⟨B, hB, hTB⟩ : ∃ B : Nat, (T : Int) - X = B ∧ T = B + X := ⟨T - X, by omega, by omega⟩
    rw [hB] at h3
    have hp : partV n B X = n / 2 ^ B % 2 ^ X := by rw [partV, if_neg (by omega)]; simp
    have ih := joinT_split n xs B (by omega) h3
    simp only [layL, partsL, List.map_cons, joinT, hB, hp, Int.toNat_natCast]
    rw [if_pos (Nat.mod_lt _ (Nat.pow_pos (by omega)))]
    have e : n / 2 ^ T * 2 ^ X + n / 2 ^ B % 2 ^ X = n / 2 ^ B := by
      rw [hTB, Nat.pow_add, ← Nat.div_div_eq_div_mul]
      exact Nat.div_add_mod' _ _
    rw [e]
    exact ih
theorem joinV_split {n : Nat} {T : Nat} {xs : List Int} (hg : goesV T xs = true) (hn : n < 2 ^ T) : joinV (partsL n (layL T xs)) T xs = (n, 0) := by
  obtain ⟨_, h1, h2⟩ := goesV_split hg
  have := joinT_split n xs T (by omega) h2
  rw [Nat.div_eq_of_lt hn] at this
  rw [joinV, if_neg (by simp [hg, partsL_len]), this]
theorem splitV_ok {n : Nat} {T : Nat} {xs : List Int} (hg : goesV T xs = true) (hn : n < 2 ^ T) : splitV n T xs = (partsL n (layL T xs), 0) := by
  simp [splitV, hg, hn]
theorem partsL_u64 {n : Nat} (hn : n < 18446744073709551616) (l : List (Int × Int)) : ∀ p ∈ partsL n l, p < 18446744073709551616 := by
  intro p hp
  obtain ⟨q, _, rfl⟩ := List.mem_map.1 hp
  unfold partV
  split
  · omega
  · exact Nat.lt_of_le_of_lt (Nat.le_trans (Nat.mod_le _ _) (Nat.div_le_self _ _)) hn
theorem totalAt_goes {q : Nat} {xs : List Int} : goesV (totalAt q) (wholeL (totalAt q) xs) = true := by
  have h1 : hasB totalAt (totalAt q) = true := by
    rw [total_iff]
    match q with
    | 0 => exact Or.inl rfl
    | 1 => exact Or.inr (Or.inl rfl)
    | 2 => exact Or.inr (Or.inr (Or.inl rfl))
    | 3 => exact Or.inr (Or.inr (Or.inr (Or.inl rfl)))
    | q + 4 => exact Or.inr (Or.inr (Or.inr (Or.inr rfl)))
  have h2 := totalAt_in q
  have h3 := goesL_whole xs (totalAt q) (by omega)
  simp [goesV, h1, h3]
/-! ### One part changed -/
theorem lay_disj : ∀ (xs : List Int) (T : Int), goesL T xs = true → List.Pairwise (fun p q : Int × Int => q.1 + q.2 ≤ p.1) (layL T xs)
  | [], _, _ => List.Pairwise.nil
  | x :: xs, T, h => by
    obtain ⟨_, _, h3⟩ := goesL_cons h
    refine List.Pairwise.cons (fun q hq => ?_) (lay_disj xs _ h3)
    have := (lay_in xs _ h3 q hq).2.2
    show q.1 + q.2 ≤ T - x
    omega
theorem div_xor (a b k : Nat) : (a ^^^ b) / 2 ^ k = a / 2 ^ k ^^^ b / 2 ^ k := by
  have := @Nat.shiftRight_xor_distrib k a b
  simpa [Nat.shiftRight_eq_div_pow] using this
theorem mod_xor (a b k : Nat) : (a ^^^ b) % 2 ^ k = a % 2 ^ k ^^^ b % 2 ^ k := by
  apply Nat.eq_of_testBit_eq
  intro i
  simp only [Nat.testBit_xor, Nat.testBit_mod_two_pow]
  cases decide (i < k) <;> simp
theorem part_xor (n q : Nat) (b w : Int) : partV (n ^^^ q) b w = partV n b w ^^^ partV q b w := by
  unfold partV
  split
  · rfl
  · rw [div_xor, mod_xor]
theorem part_here {z B W : Nat} (hz : z < 2 ^ W) (hB : B ≤ 63) (hW : 1 ≤ W ∧ W ≤ 64) : partV (z * 2 ^ B) B W = z := by
  rw [partV, if_neg (by omega)]
  simp only [Int.toNat_natCast]
  rw [Nat.mul_div_cancel _ (Nat.pow_pos (by omega)), Nat.mod_eq_of_lt hz]
theorem part_above {z B W : Nat} (hz : z < 2 ^ W) {b w : Int} (h : (B : Int) + W ≤ b) : partV (z * 2 ^ B) b w = 0 := by
  unfold partV
  split
  · rfl
  · have h1 : z * 2 ^ B < 2 ^ b.toNat := by
      refine Nat.lt_of_lt_of_le (Nat.mul_lt_mul_of_pos_right hz (Nat.pow_pos (by omega))) ?_
      rw [← Nat.pow_add]
      exact Nat.pow_le_pow_right (by omega) (by omega)
    rw [Nat.div_eq_of_lt h1, Nat.zero_mod]
theorem part_below {z B : Nat} {b w : Int} (h : b + w ≤ B) : partV (z * 2 ^ B) b w = 0 := by
  unfold partV
  split
  · rfl
  · obtain ⟨c, hc⟩ : ∃ c, B = b.toNat + (w.toNat + c) := ⟨B - b.toNat - w.toNat, by omega⟩
    rw [hc, Nat.pow_add, Nat.mul_left_comm, Nat.mul_div_cancel_left _ (Nat.pow_pos (by omega)), Nat.pow_add, Nat.mul_left_comm]
    exact Nat.mul_mod_right _ _
/-- A number whose i-th part is changed. -/
theorem parts_set {n z T i B W : Nat} {xs : List Int} (hg : goesL T xs = true) (hT : T ≤ 64) (hi : i < (layL T xs).length) (hBW : (layL T xs)[i] = ((B : Int), (W : Int))) (hz : z < 2 ^ W) :
    partsL (n ^^^ z * 2 ^ B) (layL T xs) = (partsL n (layL T xs)).set i (partV n B W ^^^ z) := by
  have hin := lay_in xs T hg _ (List.getElem_mem hi)
  rw [hBW] at hin
  simp only at hin
  apply List.ext_getElem
  · simp [partsL]
  · intro k h1 h2
    have hk : k < (layL T xs).length := by simpa [partsL] using h1
    rw [List.getElem_set]
    simp only [partsL, List.getElem_map]
    rw [part_xor]
    split
    · rename_i h
      subst h
      rw [hBW]
      simp only
      rw [part_here hz (by omega) (by omega)]
    · rename_i h
      have hp := List.pairwise_iff_getElem.1 (lay_disj xs T hg)
      have : partV (z * 2 ^ B) (layL T xs)[k].1 (layL T xs)[k].2 = 0 := by
        rcases Nat.lt_or_gt_of_ne h with h | h
        · have := hp i k hi hk h
          rw [hBW] at this
          exact part_below this
        · have := hp k i hk hi h
          rw [hBW] at this
          exact part_above hz this
      rw [this, Nat.xor_zero]
theorem part_other {n z T i k B W : Nat} {xs : List Int} (hg : goesL T xs = true) (hT : T ≤ 64) (hi : i < (layL T xs).length) (hBW : (layL T xs)[i] = ((B : Int), (W : Int))) (hz : z < 2 ^ W) (hk : k < (layL T xs).length) (hne : k ≠ i) :
    partV (n ^^^ z * 2 ^ B) (layL T xs)[k].1 (layL T xs)[k].2 = partV n (layL T xs)[k].1 (layL T xs)[k].2 := by
  have h := parts_set (n := n) hg hT hi hBW hz
  have h2 := congrArg (fun l => l[k]?) h
  simp only [partsL] at h2
  rw [List.getElem?_set_ne (by omega)] at h2
  simpa [hk] using h2
theorem xor_lt {n z T B W : Nat} (hn : n < 2 ^ T) (hz : z < 2 ^ W) (h : B + W ≤ T) : n ^^^ z * 2 ^ B < 2 ^ T := by
  refine Nat.xor_lt_two_pow hn (Nat.lt_of_lt_of_le (Nat.mul_lt_mul_of_pos_right hz (Nat.pow_pos (by omega))) ?_)
  rw [← Nat.pow_add]
  exact Nat.pow_le_pow_right (by omega) (by omega)
theorem u64_xor (a b : Nat) (ha : a < 18446744073709551616) (hb : b < 18446744073709551616) : bits .xor .u64 (a : Int) (b : Int) = ((a ^^^ b : Nat) : Int) := by
  show IntKind.u64.wrap ((BitVec.ofInt 64 (a : Int) ^^^ BitVec.ofInt 64 (b : Int)).toNat : Int) = _
  rw [BitVec.toNat_xor, bv64 _ ha, bv64 _ hb]
  refine wrap_u64_nat _ ?_
  have e : 18446744073709551616 = 2 ^ 64 := by decide
  rw [e] at ha hb ⊢
  exact Nat.xor_lt_two_pow ha hb
theorem xor_back (n q : Nat) : (n ^^^ q) ^^^ n = q := by rw [Nat.xor_comm n q, Nat.xor_assoc, Nat.xor_self, Nat.xor_zero]
end Go.Proofs.Ytmfohpfecpgbpaa
