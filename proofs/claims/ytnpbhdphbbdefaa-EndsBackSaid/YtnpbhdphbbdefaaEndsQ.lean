/- Plain facts: the bytes of a number and the number of bytes are each other's way back. No condition. -/
import Derived.Test.YtnpbhdphbbdefaaEndsL
namespace Go.Proofs.Ytnpbhdphbbdefaa
theorem leBytes_cons (n k : Nat) : leBytes n (k + 1) = UInt8.ofNat n :: leBytes (n / 256) k := by
  simp only [leBytes, List.range_succ_eq_map, List.map_cons, List.map_map, Nat.pow_zero, Nat.div_one]
  congr 1
  apply List.map_congr_left
  intro i _
  simp only [Function.comp]
  rw [Nat.div_div_eq_div_mul, Nat.pow_succ, Nat.mul_comm]
theorem beVal_leBytes : ∀ (k n : Nat), beVal (leBytes n k).reverse = n % 256 ^ k
  | 0, n => by simp [leBytes, beVal, Nat.mod_one]
  | k + 1, n => by
    rw [leBytes_cons, List.reverse_cons]
    have ih := beVal_leBytes k (n / 256)
    have h : beVal ((leBytes (n / 256) k).reverse ++ [UInt8.ofNat n]) = beVal (leBytes (n / 256) k).reverse * 256 + (UInt8.ofNat n).toNat := by simp [beVal]
    have h2 : (UInt8.ofNat n).toNat = n % 256 := by simp
    rw [h, ih, h2, Nat.pow_succ, Nat.mul_comm (256 ^ k) 256, Nat.mod_mul]
    omega
theorem leBytes_beVal : ∀ (l : List UInt8), leBytes (beVal l.reverse) l.length = l
  | [] => rfl
  | b :: l => by
    have ih := leBytes_beVal l
    have h : beVal (l.reverse ++ [b]) = beVal l.reverse * 256 + b.toNat := by simp [beVal]
    have hb := b.toNat_lt
    rw [List.length_cons, leBytes_cons, List.reverse_cons, h]
    have h1 : (beVal l.reverse * 256 + b.toNat) / 256 = beVal l.reverse := by omega
    have h2 : UInt8.ofNat (beVal l.reverse * 256 + b.toNat) = b := by
      apply UInt8.toNat_inj.1
      have : (UInt8.ofNat (beVal l.reverse * 256 + b.toNat)).toNat = (beVal l.reverse * 256 + b.toNat) % 256 := by simp
      rw [this]
      omega
    rw [h1, h2, ih]

/-- What was put is got again, wherever it stands. -/
theorem put_get (n : Nat) (z : Int) (b : Bool) (A : ByteArray) (X Y : ByteArray) (h : putV n z b = (A, 0)) : getV (X ++ A ++ Y) X.size z b = (n, 0) := by
  unfold putV at h
  split at h
  · simp at h
  · rename_i hg
    have hg2 : goodB z = true := by simpa using hg
    obtain ⟨m, rfl, h1, h8⟩ := good_nat hg2
    split at h
    · rename_i hn
      simp only [Int.toNat_natCast] at hn h
      simp only [Prod.mk.injEq, and_true] at h
      have hAl : A.data.toList = if b then leBytes n m else (leBytes n m).reverse := by rw [← h]
      have hAm : A.data.toList.length = m := by rw [hAl]; split <;> simp [leBytes_len]
      have hAs : A.size = m := by rw [← hAm]; simp
      have hL : getL (X ++ A ++ Y) X.size m b = (leBytes n m).reverse := by
        have e : ((X ++ A ++ Y).data.toList.drop X.size).take m = A.data.toList := by
          have e1 : (X ++ A ++ Y).data.toList = X.data.toList ++ (A.data.toList ++ Y.data.toList) := by simp
          rw [e1, List.drop_append_of_le_length (by simp), show X.data.toList.drop X.size = [] by simp, List.nil_append, List.take_append_of_le_length (by omega), List.take_of_length_le (by omega)]
        unfold getL
        rw [e, hAl]
        cases b <;> simp
      unfold getV
      rw [if_neg (by simp [hg2]), if_neg (by rw [ByteArray.size_append, ByteArray.size_append]; omega)]
      simp only [Int.toNat_natCast]
      rw [hL, beVal_leBytes, Nat.mod_eq_of_lt hn]
    · simp at h
/-- The bytes of what was got are those that it was got of. -/
theorem get_put (X : ByteArray) (z : Int) (b : Bool) (M : Nat) (h : getV X 0 z b = (M, 0)) : ∃ m : Nat, z = m ∧ m ≤ X.size ∧ M < 18446744073709551616 ∧ putV M z b = (X.extract 0 m, 0) := by
  unfold getV at h
  split at h
  · simp at h
  · rename_i hg
    have hg2 : goodB z = true := by simpa using hg
    obtain ⟨m, rfl, h1, h8⟩ := good_nat hg2
    split at h
    · simp at h
    · rename_i hc
      have hm : m ≤ X.size := by omega
      simp only [Int.toNat_natCast, Int.toNat_zero, Prod.mk.injEq, and_true] at h
      have hlen : (getL X 0 m b).length = m := by unfold getL; split <;> simp <;> omega
      have hlt : M < 256 ^ m := by rw [← h]; exact beVal_lt m _ hlen
      have h64 : M < 18446744073709551616 := by rw [← h]; exact beVal_64 _ (by omega)
      refine ⟨m, rfl, hm, h64, ?_⟩
      unfold putV
      rw [if_neg (by simp [hg2])]
      simp only [Int.toNat_natCast]
      rw [if_pos hlt]
      have hle : leBytes M m = (getL X 0 m b).reverse := by
        have := leBytes_beVal (getL X 0 m b).reverse
        rw [List.reverse_reverse, List.length_reverse, hlen, h] at this
        exact this
      have hx : (X.extract 0 m).data.toList = X.data.toList.take m := by rw [extractL]; simp
      rw [hle]
      have : (⟨(if b then (getL X 0 m b).reverse else (getL X 0 m b).reverse.reverse).toArray⟩ : ByteArray) = X.extract 0 m := by
        apply ByteArray.ext
        apply Array.ext'
        rw [hx]
        unfold getL
        cases b <;> simp
      rw [this]
end Go.Proofs.Ytnpbhdphbbdefaa
