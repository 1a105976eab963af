/- Plain facts on CRC-32 and Adler-32, no program in sight: the table's way and the bit by bit way agree; the machine's words on numbers of 32 bits. No condition. -/
import Derived.Test.YtnpikkghgflefaaBase
namespace Go.Proofs.Ytnpikkghgflefaa

def poly : Nat := 3988292384
def cstep (c : Nat) : Nat := if c % 2 = 1 then (c / 2) ^^^ poly else c / 2
def cstepN : Nat → Nat → Nat
  | 0, c => c
  | n + 1, c => cstep (cstepN n c)
def entry (i : Nat) : Nat := cstepN 8 i
def refByte (r b : Nat) : Nat := cstepN 8 (r ^^^ b)
def crcByte (r b : Nat) : Nat := entry ((r % 256) ^^^ b) ^^^ (r / 256)

theorem xor_div2 (x y : Nat) : (x ^^^ y) / 2 = (x / 2) ^^^ (y / 2) := by
  have := @Nat.shiftRight_xor_distrib 1 x y
  simpa [Nat.shiftRight_eq_div_pow] using this
theorem xor_mod2 (x y : Nat) : (x ^^^ y) % 2 = (x % 2 + y % 2) % 2 := by
  have h := Nat.testBit_xor x y 0
  rw [Nat.testBit_zero, Nat.testBit_zero, Nat.testBit_zero] at h
  rcases Nat.mod_two_eq_zero_or_one x with hx | hx <;> rcases Nat.mod_two_eq_zero_or_one y with hy | hy <;> rw [hx, hy] at h ⊢ <;> rcases Nat.mod_two_eq_zero_or_one (x ^^^ y) with hz | hz <;> rw [hz] at h ⊢ <;> revert h <;> decide

theorem cstep_xor (x y : Nat) : cstep (x ^^^ y) = cstep x ^^^ cstep y := by
  unfold cstep
  rw [xor_div2, xor_mod2]
  rcases Nat.mod_two_eq_zero_or_one x with hx | hx <;> rcases Nat.mod_two_eq_zero_or_one y with hy | hy <;> simp only [hx, hy, Nat.reduceAdd, Nat.reduceMod, Nat.zero_mod, Nat.zero_ne_one, if_false, if_true]
  · rw [Nat.xor_assoc]
  · rw [Nat.xor_assoc, Nat.xor_assoc, Nat.xor_comm poly]
  · rw [Nat.xor_assoc, ← Nat.xor_assoc poly, Nat.xor_comm poly (y / 2), Nat.xor_assoc (y / 2), Nat.xor_self, Nat.xor_zero]
theorem cstepN_xor : ∀ n x y, cstepN n (x ^^^ y) = cstepN n x ^^^ cstepN n y
  | 0, _, _ => rfl
  | n + 1, x, y => by simp only [cstepN, cstepN_xor n, cstep_xor]
theorem cstep_even (m : Nat) : cstep (2 * m) = m := by
  unfold cstep
  rw [if_neg (by omega)]
  omega
theorem cstepN_succ : ∀ n c, cstepN (n + 1) c = cstepN n (cstep c)
  | 0, _ => rfl
  | n + 1, c => by
    show cstep (cstepN (n + 1) c) = cstep (cstepN n (cstep c))
    rw [cstepN_succ n c]
theorem cstep8 (q : Nat) : cstepN 8 (256 * q) = q := by
  simp only [cstepN]
  rw [show 256 * q = 2 * (128 * q) by omega, cstep_even, show 128 * q = 2 * (64 * q) by omega, cstep_even, show 64 * q = 2 * (32 * q) by omega, cstep_even, show 32 * q = 2 * (16 * q) by omega, cstep_even,
    show 16 * q = 2 * (8 * q) by omega, cstep_even, show 8 * q = 2 * (4 * q) by omega, cstep_even, show 4 * q = 2 * (2 * q) by omega, cstep_even, cstep_even]
theorem split256 (r : Nat) : r = (r % 256) ^^^ (256 * (r / 256)) := by
  apply Nat.eq_of_testBit_eq
  intro i
  rw [Nat.testBit_xor, show (256 : Nat) = 2 ^ 8 from rfl, Nat.testBit_mod_two_pow, Nat.testBit_two_pow_mul, Nat.testBit_div_two_pow]
  by_cases h : i < 8
  · simp [h, show ¬ 8 ≤ i by omega]
  · simp [h, show 8 ≤ i by omega]
theorem crcByte_eq (r b : Nat) : crcByte r b = refByte r b := by
  unfold crcByte refByte entry
  have h : r ^^^ b = ((r % 256) ^^^ b) ^^^ (256 * (r / 256)) := by
    conv => lhs; rw [split256 r]
    rw [Nat.xor_assoc, Nat.xor_comm (256 * (r / 256)) b, ← Nat.xor_assoc]
  rw [h, cstepN_xor _ ((r % 256) ^^^ b), cstep8]

theorem poly_lt : poly < 2 ^ 32 := by decide
theorem cstep_lt {c : Nat} (h : c < 2 ^ 32) : cstep c < 2 ^ 32 := by
  unfold cstep
  split
  · exact Nat.xor_lt_two_pow (by omega) poly_lt
  · omega
theorem cstepN_lt {c : Nat} (h : c < 2 ^ 32) : ∀ n, cstepN n c < 2 ^ 32
  | 0 => h
  | n + 1 => cstep_lt (cstepN_lt h n)
theorem entry_lt {i : Nat} (h : i < 256) : entry i < 2 ^ 32 := cstepN_lt (by omega) 8
theorem refByte_lt {r b : Nat} (hr : r < 2 ^ 32) (hb : b < 256) : refByte r b < 2 ^ 32 := cstepN_lt (Nat.xor_lt_two_pow hr (by omega)) 8

/-- The register behind some bytes. -/
def crcReg (r : Nat) (l : List UInt8) : Nat := l.foldl (fun r b => refByte r b.toNat) r
theorem crcReg_lt : ∀ (l : List UInt8) (r : Nat), r < 2 ^ 32 → crcReg r l < 2 ^ 32
  | [], _, h => h
  | b :: l, _, h => crcReg_lt l _ (refByte_lt h b.toNat_lt)
theorem crcReg_append (r : Nat) (l m : List UInt8) : crcReg r (l ++ m) = crcReg (crcReg r l) m := by simp [crcReg]
theorem crcReg_snoc (r : Nat) (l : List UInt8) (b : UInt8) : crcReg r (l ++ [b]) = refByte (crcReg r l) b.toNat := by simp [crcReg]
def crc32 (l : List UInt8) : Nat := 4294967295 - crcReg 4294967295 l
theorem crc32_lt (l : List UInt8) : crc32 l < 2 ^ 32 := by unfold crc32; omega

/-! ### The machine's words at 32 bits -/
theorem wrap_u32_nat (a : Nat) (h : a < 2 ^ 32) : IntKind.u32.wrap (a : Int) = a := by rw [IntKind.wrap_u32]; omega
theorem wrap_u8_nat (a : Nat) (h : a < 2 ^ 8) : IntKind.u8.wrap (a : Int) = a := by rw [IntKind.wrap_u8]; omega
theorem bv32 (a : Nat) (h : a < 2 ^ 32) : (BitVec.ofInt 32 (a : Int)).toNat = a := by rw [BitVec.ofInt_natCast, BitVec.toNat_ofNat]; exact Nat.mod_eq_of_lt h
theorem bv8 (a : Nat) (h : a < 2 ^ 8) : (BitVec.ofInt 8 (a : Int)).toNat = a := by rw [BitVec.ofInt_natCast, BitVec.toNat_ofNat]; exact Nat.mod_eq_of_lt h
theorem u32_xor (a b : Nat) (ha : a < 2 ^ 32) (hb : b < 2 ^ 32) : bits .xor .u32 (a : Int) (b : Int) = ((a ^^^ b : Nat) : Int) := by
  show IntKind.u32.wrap ((BitVec.ofInt 32 (a : Int) ^^^ BitVec.ofInt 32 (b : Int)).toNat : Int) = _
  rw [BitVec.toNat_xor, bv32 a ha, bv32 b hb, wrap_u32_nat _ (Nat.xor_lt_two_pow ha hb)]
theorem u8_xor (a b : Nat) (ha : a < 2 ^ 8) (hb : b < 2 ^ 8) : bits .xor .u8 (a : Int) (b : Int) = ((a ^^^ b : Nat) : Int) := by
  show IntKind.u8.wrap ((BitVec.ofInt 8 (a : Int) ^^^ BitVec.ofInt 8 (b : Int)).toNat : Int) = _
  rw [BitVec.toNat_xor, bv8 a ha, bv8 b hb, wrap_u8_nat _ (Nat.xor_lt_two_pow ha hb)]
theorem u32_and (a b : Nat) (ha : a < 2 ^ 32) (hb : b < 2 ^ 32) : bits .and .u32 (a : Int) (b : Int) = ((a &&& b : Nat) : Int) := by
  show IntKind.u32.wrap ((BitVec.ofInt 32 (a : Int) &&& BitVec.ofInt 32 (b : Int)).toNat : Int) = _
  rw [BitVec.toNat_and, bv32 a ha, bv32 b hb, wrap_u32_nat _ (Nat.and_lt_two_pow _ hb)]
theorem u32_and1 (a : Nat) (ha : a < 2 ^ 32) : bits .and .u32 (a : Int) 1 = ((a % 2 : Nat) : Int) := by
  have := u32_and a 1 ha (by decide)
  rw [Nat.and_one_is_mod] at this
  exact this
theorem u32_and255 (a : Nat) (ha : a < 2 ^ 32) : bits .and .u32 (a : Int) 255 = ((a % 256 : Nat) : Int) := by
  have := u32_and a 255 ha (by decide)
  rw [show (255 : Nat) = 2 ^ 8 - 1 from rfl, Nat.and_two_pow_sub_one_eq_mod] at this
  exact this
theorem u32_xorp (a : Nat) (ha : a < 2 ^ 32) : bits .xor .u32 (a : Int) 3988292384 = ((a ^^^ poly : Nat) : Int) := u32_xor a poly ha poly_lt
theorem u32_or_high (a b : Nat) (ha : a < 2 ^ 16) (hb : b < 2 ^ 16) : bits .or .u32 ((a * 65536 : Nat) : Int) (b : Int) = ((a * 65536 + b : Nat) : Int) := by
  show IntKind.u32.wrap ((BitVec.ofInt 32 ((a * 65536 : Nat) : Int) ||| BitVec.ofInt 32 (b : Int)).toNat : Int) = _
  rw [BitVec.toNat_or, bv32 _ (by omega), bv32 b (by omega), show a * 65536 = 2 ^ 16 * a by omega, ← Nat.two_pow_add_eq_or_of_lt hb, wrap_u32_nat _ (by omega)]

/-! ### Adler-32 -/
def adA (l : List UInt8) : Nat := l.foldl (fun a x => (a + x.toNat) % 65521) 1
def adB : List UInt8 → Nat × Nat := fun l => l.foldl (fun p x => ((p.1 + x.toNat) % 65521, (p.2 + (p.1 + x.toNat) % 65521) % 65521)) (1, 0)
theorem adB_snoc (l : List UInt8) (x : UInt8) : adB (l ++ [x]) = (((adB l).1 + x.toNat) % 65521, ((adB l).2 + ((adB l).1 + x.toNat) % 65521) % 65521) := by simp [adB]
theorem adB_lt (l : List UInt8) : (adB l).1 < 65521 ∧ (adB l).2 < 65521 := by
  have key : ∀ (l : List UInt8) (p : Nat × Nat), p.1 < 65521 → p.2 < 65521 → (l.foldl (fun p x => ((p.1 + x.toNat) % 65521, (p.2 + (p.1 + x.toNat) % 65521) % 65521)) p).1 < 65521 ∧ (l.foldl (fun p x => ((p.1 + x.toNat) % 65521, (p.2 + (p.1 + x.toNat) % 65521) % 65521)) p).2 < 65521 := by
    intro l
    induction l with
    | nil => exact fun p h1 h2 => ⟨h1, h2⟩
    | cons x l ih => exact fun p _ _ => ih _ (Nat.mod_lt _ (by omega)) (Nat.mod_lt _ (by omega))
  exact key l (1, 0) (by omega) (by omega)
def adler (l : List UInt8) : Nat := (adB l).2 * 65536 + (adB l).1
theorem adler_lt (l : List UInt8) : adler l < 2 ^ 32 := by
  have := adB_lt l
  unfold adler; omega
end Go.Proofs.Ytnpikkghgflefaa
