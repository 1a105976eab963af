/- The plain law of SumsTurn: a byte turned turns the CRC-32 by a number that hangs on its place and the turn alone, and that is not 0. No condition. -/
import Derived.Test.YtnpikkghgflefaaCrc
namespace Go.Proofs.Ytnpikkghgflefaa

theorem cstep_inj0 {c : Nat} (h : c < 2 ^ 32) (h0 : cstep c = 0) : c = 0 := by
  unfold cstep at h0
  split at h0
  · have e : c / 2 = poly := by
      have := congrArg (· ^^^ poly) h0
      simpa [Nat.xor_assoc] using this
    have : poly = 3988292384 := rfl
    omega
  · omega
theorem cstepN_inj0 {c : Nat} (h : c < 2 ^ 32) : ∀ n, cstepN n c = 0 → c = 0
  | 0, h0 => h0
  | n + 1, h0 => cstepN_inj0 h n (cstep_inj0 (cstepN_lt h n) h0)
def steps : Nat → Nat → Nat
  | 0, c => c
  | n + 1, c => steps n (cstepN 8 c)
theorem steps_inj0 : ∀ n c, c < 2 ^ 32 → steps n c = 0 → c = 0
  | 0, _, _, h0 => h0
  | n + 1, _, h, h0 => cstepN_inj0 h 8 (steps_inj0 n _ (cstepN_lt h 8) h0)
theorem xor_cancel (a b c : Nat) : (a ^^^ b) ^^^ (a ^^^ c) = b ^^^ c := by
  rw [Nat.xor_comm a b, Nat.xor_assoc, ← Nat.xor_assoc a a, Nat.xor_self, Nat.zero_xor]
theorem xor_cancel' (a b c : Nat) : (a ^^^ c) ^^^ (b ^^^ c) = a ^^^ b := by
  rw [Nat.xor_comm a c, Nat.xor_comm b c, xor_cancel]
theorem crcReg_xor : ∀ (q : List UInt8) (r r' : Nat), crcReg r q ^^^ crcReg r' q = steps q.length (r ^^^ r')
  | [], _, _ => rfl
  | b :: q, r, r' => by
    show crcReg (refByte r b.toNat) q ^^^ crcReg (refByte r' b.toNat) q = steps q.length (cstepN 8 (r ^^^ r'))
    rw [crcReg_xor q]
    unfold refByte
    rw [← cstepN_xor, xor_cancel']
theorem not_xor (a b : Nat) (ha : a < 2 ^ 32) (hb : b < 2 ^ 32) : (4294967295 - a) ^^^ (4294967295 - b) = a ^^^ b := by
  have key : ∀ c : Nat, c < 2 ^ 32 → 4294967295 - c = 4294967295 ^^^ c := fun c hc => by
    have e : (BitVec.allOnes 32 ^^^ BitVec.ofNat 32 c).toNat = 4294967295 ^^^ c := by
      rw [BitVec.toNat_xor, BitVec.toNat_ofNat, Nat.mod_eq_of_lt hc]; rfl
    rw [← e, BitVec.allOnes_xor, BitVec.toNat_not, BitVec.toNat_ofNat, Nat.mod_eq_of_lt hc]
  rw [key a ha, key b hb, xor_cancel]

/-- What a byte turned by v, with so many bytes behind it, does to the sum. -/
def turned (k v : Nat) : Nat := steps k (cstepN 8 v)
theorem turned_ne (k v : Nat) (hv : v < 256) (h : v ≠ 0) : turned k v ≠ 0 := fun h0 =>
  h (cstepN_inj0 (by omega) 8 (steps_inj0 k _ (cstepN_lt (by omega) 8) h0))
theorem turned_lt (k v : Nat) (hv : v < 256) : turned k v < 2 ^ 32 := by
  have key : ∀ k c, c < 2 ^ 32 → steps k c < 2 ^ 32 := by
    intro k
    induction k with
    | zero => exact fun c h => h
    | succ k ih => exact fun c h => ih _ (cstepN_lt h 8)
  exact key k _ (cstepN_lt (by omega) 8)
theorem crc_turn (p q : List UInt8) (x y : UInt8) (v : Nat) (hy : y.toNat = x.toNat ^^^ v) :
    crc32 (p ++ x :: q) ^^^ crc32 (p ++ y :: q) = turned q.length v := by
  unfold crc32
  have h1 := crcReg_lt (p ++ x :: q) 4294967295 (by omega)
  have h2 := crcReg_lt (p ++ y :: q) 4294967295 (by omega)
  rw [not_xor _ _ h1 h2, crcReg_append, crcReg_append]
  show crcReg (refByte (crcReg 4294967295 p) x.toNat) q ^^^ crcReg (refByte (crcReg 4294967295 p) y.toNat) q = _
  rw [crcReg_xor, hy]
  unfold refByte turned
  rw [← cstepN_xor, xor_cancel, ← Nat.xor_assoc x.toNat, Nat.xor_self, Nat.zero_xor]
/-- The list with its byte i turned by v. -/
def turnAt (l : List UInt8) (i v : Nat) : List UInt8 := l.set i (UInt8.ofNat ((l.getD i 0).toNat ^^^ v))
theorem crc_turnAt (l : List UInt8) (i v : Nat) (hi : i < l.length) (hv : v < 256) : crc32 l ^^^ crc32 (turnAt l i v) = turned (l.length - (i + 1)) v := by
  have hy : (UInt8.ofNat ((l.getD i 0).toNat ^^^ v)).toNat = (l.getD i 0).toNat ^^^ v := by
    have : (l.getD i 0).toNat ^^^ v < 2 ^ 8 := Nat.xor_lt_two_pow (l.getD i 0).toNat_lt hv
    exact UInt8.toNat_ofNat_of_lt this
  have h := crc_turn (l.take i) (l.drop (i + 1)) (l.getD i 0) _ v hy
  rw [List.length_drop] at h
  rw [← h]
  congr 2
  · have e : l.getD i 0 = l[i] := by simp [hi]
    rw [e]
    simp
  · unfold turnAt
    rw [List.set_eq_take_append_cons_drop, if_pos hi]
end Go.Proofs.Ytnpikkghgflefaa
