/- The contract of sums.Join: with sums of texts it gives the sum of both together. Condition: the texts take at most 2^48 bytes. -/
import Derived.Test.YtnpikkghgflefaaSumsA
namespace Go.Proofs.Ytnpikkghgflefaa
open Go.RowKit
attribute [local go_sem] cellI frozenI cellOf_is frozenOf_is cellA frozenA setCellA

theorem adB_append (s : List UInt8) : ∀ (n : Nat) (t : List UInt8), t.length = n →
    (adB (s ++ t)).1 = ((adB s).1 + (adB t).1 + 65520) % 65521 ∧ (adB (s ++ t)).2 = ((adB s).2 + (adB t).2 + t.length * ((adB s).1 + 65520)) % 65521 := by
  intro n
  induction n with
  | zero =>
    intro t ht
    obtain rfl : t = [] := by simpa using ht
    have := adB_lt s
    have e : adB [] = (1, 0) := rfl
    rw [List.append_nil, e]
    simp only [List.length_nil, Nat.zero_mul]
    omega
  | succ n ih =>
    intro t ht
    rcases List.eq_nil_or_concat t with rfl | ⟨l, x, rfl⟩
    · simp at ht
    · rw [List.concat_eq_append] at *
      have hl : l.length = n := by simpa using ht
      obtain ⟨h1, h2⟩ := ih l hl
      rw [← List.append_assoc, adB_snoc, adB_snoc, List.length_append, List.length_singleton, Nat.succ_mul]
      have := adB_lt s
      have := adB_lt l
      generalize l.length * ((adB s).1 + 65520) = M at *
      generalize adB (s ++ l) = p at *
      generalize adB s = q at *
      generalize adB l = r at *
      dsimp only
      rw [h1, h2]
      omega

theorem adler_join (s t : List UInt8) : adler (s ++ t) = ((adB s).2 + (adB t).2 + (t.length % 65521) * ((adB s).1 + 65520)) % 65521 * 65536 + ((adB s).1 + (adB t).1 + 65520) % 65521 := by
  obtain ⟨h1, h2⟩ := adB_append s _ t rfl
  unfold adler
  rw [h1, h2]
  have key : ∀ L n K : Nat, (L + n * K) % 65521 = (L + n % 65521 * K) % 65521 := fun L n K => by
    rw [Nat.add_mod L, Nat.add_mod L (n % 65521 * K), Nat.mod_mul_mod]
  rw [key]

theorem u32_and65535 (a : Nat) (ha : a < 2 ^ 32) : bits .and .u32 (a : Int) 65535 = ((a % 65536 : Nat) : Int) := by
  have := u32_and a 65535 ha (by decide)
  rw [show (65535 : Nat) = 2 ^ 16 - 1 from rfl, Nat.and_two_pow_sub_one_eq_mod] at this
  exact this
theorem max4_run (x y z u : Nat) : ∃ M : Nat, (∀ (P : Program) (w : World) (ts : Array TypeId) (t : TypeId), (Builtin.max_ ts t #[.int .u64 x, .int .u64 y, .int .u64 z, .int .u64 u]).run P w = .ok (.int .u64 M) w) ∧ (x < 65521 → y < 65521 → z < 65521 → u < 65521 → M < 65521) ∧ (65521 ≤ x ∨ 65521 ≤ u → 65521 ≤ M) := by
  refine ⟨max (max (max x y) z) u, fun P w ts t => ?_, by omega, by omega⟩
  simp [Builtin.max_, Builtin.max2]
  omega
theorem join_word (a1 b1 a2 b2 N n : Nat) (l1 : a1 < 65521) (l2 : b1 < 65521) (l3 : a2 < 65521) (l4 : b2 < 65521) (hN : N = n % 65521) :
    bits .or .u32 ((IntKind.u64.wrap ((b1 : Int) + b2 + IntKind.u64.wrap ((N : Int) * ((a1 : Int) + 65521 - 1)))).tmod 65521 % 4294967296 * 65536 % 4294967296) (((a1 : Int) + a2 + 65521 - 1) % 65521)
      = (((b1 + b2 + (n % 65521) * (a1 + 65520)) % 65521 * 65536 + (a1 + a2 + 65520) % 65521 : Nat) : Int) := by
  rw [← hN]
  have hP : (N : Int) * ((a1 : Int) + 65521 - 1) = ((N * (a1 + 65520) : Nat) : Int) := by
    rw [show (a1 : Int) + 65521 - 1 = ((a1 + 65520 : Nat) : Int) by omega, ← Int.natCast_mul]
  have hPl : N * (a1 + 65520) ≤ 65521 * 131041 := Nat.mul_le_mul (by omega) (by omega)
  rw [hP]
  obtain ⟨P, hPe⟩ : ∃ P, N * (a1 + 65520) = P := ⟨_, rfl⟩
  rw [hPe] at hPl ⊢
  clear hP hPe
  rw [IntKind.wrap_u64, IntKind.wrap_u64, Int.tmod_eq_emod_of_nonneg (by omega)]
  obtain ⟨X, hX⟩ : ∃ X : Nat, X = (b1 + b2 + P) % 65521 := ⟨_, rfl⟩
  obtain ⟨q, hq⟩ : ∃ q : Nat, a1 + a2 + 65520 = q := ⟨_, rfl⟩
  have hq2 : (a1 : Int) + a2 + 65521 - 1 = (q : Int) := by omega
  rw [hq, hq2]
  clear hq hq2
  obtain ⟨Y, hY⟩ : ∃ Y : Nat, Y = q % 65521 := ⟨_, rfl⟩
  have e1 : ((b1 : Int) + b2 + (P : Int) % 18446744073709551616) % 18446744073709551616 % 65521 % 4294967296 * 65536 % 4294967296 = ((X * 65536 : Nat) : Int) := by omega
  have e2 : (q : Int) % 65521 = (Y : Int) := by omega
  have e3 := u32_or_high X Y (by omega) (by omega)
  rw [e1, e2, e3, hX, hY]
set_option maxRecDepth 100000 in
theorem join_ok (a b a1 b1 a2 b2 n : Nat) (w : World) (ha : a = b1 * 65536 + a1) (hb : b = b2 * 65536 + a2) (l1 : a1 < 65521) (l2 : b1 < 65521) (l3 : a2 < 65521) (l4 : b2 < 65521) (hn : n ≤ 281474976710656) :
    Calls Try.prog 15 #[.int .u32 a, .int .u32 b, .int .i64 n] w fun e w' => e = .returned (.int .u32 ((b1 + b2 + (n % 65521) * (a1 + 65520)) % 65521 * 65536 + (a1 + a2 + 65520) % 65521 : Nat)) ∧ Below w.heap.size w w' := by
  have hv := join_word a1 b1 a2 b2 _ n l1 l2 l3 l4 rfl
  obtain ⟨V, hV⟩ : ∃ V : Nat, (b1 + b2 + (n % 65521) * (a1 + 65520)) % 65521 * 65536 + (a1 + a2 + 65520) % 65521 = V := ⟨_, rfl⟩
  rw [hV] at hv ⊢
  clear hV
  have h1 : bits .and .u32 (a : Int) 65535 = (a1 : Int) := by rw [u32_and65535 a (by omega)]; omega
  have h2 : bits .and .u32 (b : Int) 65535 = (a2 : Int) := by rw [u32_and65535 b (by omega)]; omega
  have h3 : (a : Int) / 65536 = b1 := by omega
  have h4 : (b : Int) / 65536 = b2 := by omega
  have h5 : decide ((n : Int) < 0) = false := decide_eq_false (by omega)
  obtain ⟨M, hmx, hM, -⟩ := max4_run a1 b1 a2 b2
  replace hM := hM l1 l2 l3 l4
  have h7 : decide ((65521 : Int) ≤ (M : Int)) = false := decide_eq_false (by omega)
  obtain ⟨N, hN, h6⟩ : ∃ N : Nat, N = n % 65521 ∧ (n : Int) % 65521 = N := ⟨_, rfl, by omega⟩
  have lN : N < 65521 := by omega
  rw [← hN] at hv
  replace hv := Lib.hid hv
  replace ha := Lib.hid ha
  replace hb := Lib.hid hb
  replace hN := Lib.hid hN
  go_enter Try.func15, Try.ntmps15
  go_wp2
  replace hv := hv.out
  exact bodyPost_ret (v := (.int .u32 V)) (by simp (maxDischargeDepth := 6) [results, Try.results15, go_sem, hv]) rfl ⟨rfl, by (repeat' (first | (with_reducible exact Below.refl _ _) | (with_reducible refine Below.alloc ?_ ?_ _) | (with_reducible refine Below.setCell ?_ ?_ _) | (with_reducible refine Below.drew ?_) | (with_reducible refine below_step ?_ (by assumption) ?_) | (with_reducible exact leC) | go_size))⟩
set_option maxRecDepth 100000 in
theorem join_top (a b n : Nat) (w : World) (ha : a < 2 ^ 32) (hb : b < 2 ^ 32) (h : 65521 ≤ a % 65536 ∨ 65521 ≤ b / 65536) (hn : n ≤ 281474976710656) :
    Calls Try.prog 15 #[.int .u32 a, .int .u32 b, .int .i64 n] w fun e w' => e = .returned (.int .u32 0) ∧ Below w.heap.size w w' := by
  obtain ⟨a1, la1, h1⟩ : ∃ a1 : Nat, a1 = a % 65536 ∧ bits .and .u32 (a : Int) 65535 = (a1 : Int) := ⟨_, rfl, u32_and65535 a ha⟩
  obtain ⟨a2, la2, h2⟩ : ∃ a2 : Nat, a2 = b % 65536 ∧ bits .and .u32 (b : Int) 65535 = (a2 : Int) := ⟨_, rfl, u32_and65535 b hb⟩
  obtain ⟨b1, lb1, h3⟩ : ∃ b1 : Nat, b1 = a / 65536 ∧ (a : Int) / 65536 = b1 := ⟨_, rfl, by omega⟩
  obtain ⟨b2, lb2, h4⟩ : ∃ b2 : Nat, b2 = b / 65536 ∧ (b : Int) / 65536 = b2 := ⟨_, rfl, by omega⟩
  have h5 : decide ((n : Int) < 0) = false := decide_eq_false (by omega)
  obtain ⟨M, hmx, -, hM⟩ := max4_run a1 b1 a2 b2
  replace hM := hM (by omega)
  have h7 : decide ((65521 : Int) ≤ (M : Int)) = true := decide_eq_true (by omega)
  have k1 : a1 < 65536 := by omega
  have k2 : a2 < 65536 := by omega
  have k3 : b1 < 65536 := by omega
  have k4 : b2 < 65536 := by omega
  replace la1 := Lib.hid la1
  replace la2 := Lib.hid la2
  replace lb1 := Lib.hid lb1
  replace lb2 := Lib.hid lb2
  clear h
  go_enter Try.func15, Try.ntmps15
  go_wp2
  exact bodyPost_ret (v := (.int .u32 0)) (by simp (maxDischargeDepth := 6) [results, Try.results15, go_sem]) rfl ⟨rfl, by (repeat' (first | (with_reducible exact Below.refl _ _) | (with_reducible refine Below.alloc ?_ ?_ _) | (with_reducible refine Below.setCell ?_ ?_ _) | (with_reducible refine Below.drew ?_) | (with_reducible refine below_step ?_ (by assumption) ?_) | (with_reducible exact leC) | go_size))⟩
set_option maxRecDepth 100000 in
theorem join_neg (a b : Nat) (n : Int) (w : World) (ha : a < 2 ^ 32) (hb : b < 2 ^ 32) (hn : n < 0) :
    Calls Try.prog 15 #[.int .u32 a, .int .u32 b, .int .i64 n] w fun e w' => e = .returned (.int .u32 0) ∧ Below w.heap.size w w' := by
  obtain ⟨a1, la1, h1⟩ : ∃ a1 : Nat, a1 < 65536 ∧ bits .and .u32 (a : Int) 65535 = (a1 : Int) := ⟨_, by omega, u32_and65535 a ha⟩
  obtain ⟨a2, la2, h2⟩ : ∃ a2 : Nat, a2 < 65536 ∧ bits .and .u32 (b : Int) 65535 = (a2 : Int) := ⟨_, by omega, u32_and65535 b hb⟩
  have h5 : decide (n < 0) = true := decide_eq_true hn
  go_enter Try.func15, Try.ntmps15
  go_wp2
  exact bodyPost_ret (v := (.int .u32 0)) (by simp (maxDischargeDepth := 6) [results, Try.results15, go_sem]) rfl ⟨rfl, by (repeat' (first | (with_reducible exact Below.refl _ _) | (with_reducible refine Below.alloc ?_ ?_ _) | (with_reducible refine Below.setCell ?_ ?_ _) | (with_reducible refine Below.drew ?_) | (with_reducible refine below_step ?_ (by assumption) ?_) | (with_reducible exact leC) | go_size))⟩
end Go.Proofs.Ytnpikkghgflefaa
