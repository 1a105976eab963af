/- The contract of the reference's Put. No condition. -/
import Derived.Test.YtnpbhdphbbdefaaEndsV
namespace Go.Proofs.Ytnpbhdphbbdefaa
open Go.RowKit
attribute [local go_sem] cellI frozenI cellOf_is frozenOf_is cellA frozenA setCellA

theorem leBytes_succ (n k : Nat) : leBytes n (k + 1) = leBytes n k ++ [UInt8.ofNat (n / 256 ^ k)] := by simp [leBytes, List.range_succ]
theorem turnB_list (l : List UInt8) : turnB ⟨l.toArray⟩ = ⟨l.reverse.toArray⟩ := rfl

set_option maxHeartbeats 1600000 in
theorem rput_any (n : Nat) (k : Int) (little : Bool) (w : World) (hn : n < 18446744073709551616) :
    Calls Try.prog 9 #[.int .u64 n, .int .i64 k, .bool little] w fun e w' => e = .returned (.tuple #[.string (putV n k little).1, .int .i64 (putV n k little).2]) ∧ Below w.heap.size w w' := by
  cases hg : goodB k
  · have hv : putV n k little = (⟨#[]⟩, 2) := by simp [putV, hg]
    rw [hv]
    go_enter Try.func9, Try.ntmps9
    go_wp2_with (go_at_call 11; fail)
    refine (rgood_any k w).mono ?_
    rintro e w1 ⟨rfl, hb1⟩
    haveI hx1 := ExtC.mk hb1
    rw [hg]
    go_wp2
    exact bodyPost_ret (v := (.tuple #[.string ⟨#[]⟩, .int .i64 2])) (by simp (maxDischargeDepth := 6) [results, Try.results9, go_sem]) rfl ⟨rfl, by (repeat' (first | (with_reducible exact Below.refl _ _) | (with_reducible refine Below.alloc ?_ ?_ _) | (with_reducible refine Below.setCell ?_ ?_ _) | (with_reducible refine Below.drew ?_) | (with_reducible refine below_step ?_ (by assumption) ?_) | (with_reducible exact leC) | go_size))⟩
  obtain ⟨m, rfl, hm1, hm8⟩ := good_nat hg
  obtain ⟨i0, hi, hz0, hz1, hz2⟩ := infoU8
  have hv : putV n m little = if n / 256 ^ m = 0 then (⟨(if little then leBytes n m else (leBytes n m).reverse).toArray⟩, 0) else (⟨#[]⟩, 5) := by
    have : n / 256 ^ m = 0 ↔ n < 256 ^ m := Nat.div_eq_zero_iff_lt (Nat.pow_pos (by omega))
    simp [putV, hg, this]
  obtain ⟨S, E, hSE⟩ : ∃ S E, putV n m little = (S, E) := ⟨_, _, rfl⟩
  rw [hSE] at hv ⊢
  replace hv := Lib.hid hv
  clear hSE
  go_enter Try.func9, Try.ntmps9
  go_wp2_with (go_at_call 11; fail)
  refine (rgood_any m w).mono ?_
  rintro e w1 ⟨rfl, hb1⟩
  haveI hx1 := ExtC.mk hb1
  rw [hg]
  have hs1 := hb1.size
  go_wp2
  go_loopw [0, 9, 10] (fun nv b i wr => ∃ q N : Nat, q ≤ m ∧ Hid (n / 256 ^ q = N) ∧ N < 18446744073709551616 ∧ nv = .int .u64 N ∧ i = .int .i64 q ∧ wr.ownsRow w.heap.size 5 1 b q (bcells (leBytes n q)) ∧ Below w.heap.size w wr) (fun _ _ i _ => m - (intOf i).toNat)
  case atStart => exact ⟨0, n, by omega, by show n / 256 ^ 0 = n; simp, hn, rfl, rfl, World.ownsRow_nil _ _ _ _, hb1⟩
  case round =>
    obtain ⟨q, N, hq, hN, hNl, rfl, rfl, hown, hb2⟩ := hrel
    have hs2 := hb2.size
    by_cases hlt : q < m
    · have hdq : decide ((q : Int) < (m : Int)) = true := decide_eq_true (by omega)
      go_wp2_with (at_builtin; refine wpList_append1 rfl _ _ 43 rfl w.heap.size 5 i0 (.int .u8 0) 1 1 Try.underlying43 hi hz0 hz1 hz2 rfl (by decide) _ q _ rfl hown [.int .u8 ((N : Int) % 256)] rfl rfl (by simp [Value.oneCell']) (by unfold maxLen; omega) (by omega) hs2 ?_; intro v' w3 hown3 hg3 hb3)
      go_roundw
      case rel =>
        refine ⟨q + 1, N / 256, by omega, ?_, by omega, rfl, by go_num, ?_, hb2.trans (hb3.mono (by omega))⟩
        · show n / 256 ^ (q + 1) = N / 256
          rw [Nat.pow_succ, ← Nat.div_div_eq_div_mul, hN.out]
        · rw [leBytes_succ, hN.out]
          have e : ((UInt8.ofNat N).toNat : Int) = (N : Int) % 256 := by simp
          simpa [bcells, e] using hown3
      case measure => simp [intOf]; omega
    · obtain rfl : q = m := by omega
      have hcv := run_string_own (P := Try.prog) hown Try.underlying43 Try.underlying5 Try.underlying9
      by_cases h0 : N = 0
      · have hv2 := hv.out
        rw [hN.out, if_pos h0, Prod.mk.injEq] at hv2
        obtain ⟨hS, hE⟩ := hv2
        replace hS := Lib.hid hS
        replace hE := Lib.hid hE
        clear hv
        subst h0
        cases little
        · go_wp2_with (go_at_call 13; fail)
          haveI hx2 := ExtC.mk hb2
          have hlen : (ByteArray.mk (leBytes n q).toArray).size ≤ 140737488351232 := by
            show (leBytes n q).toArray.size ≤ _
            simp [leBytes_len]; omega
          refine (rturn_any _ wr hlen).mono ?_
          rintro e w5 ⟨rfl, hb5⟩
          haveI hx5 := ExtC.mk hb5
          go_wp2
          exact bodyPost_ret (v := (.tuple #[.string S, .int .i64 E])) (by simp (maxDischargeDepth := 6) [results, Try.results9, go_sem, turnB_list, hS.out, hE.out]) rfl ⟨rfl, by (repeat' (first | (with_reducible exact Below.refl _ _) | (with_reducible refine Below.alloc ?_ ?_ _) | (with_reducible refine Below.setCell ?_ ?_ _) | (with_reducible refine Below.drew ?_) | (with_reducible refine below_step ?_ (by assumption) ?_) | (with_reducible exact leC) | go_size))⟩
        · go_wp2
          exact bodyPost_ret (v := (.tuple #[.string S, .int .i64 E])) (by simp (maxDischargeDepth := 6) [results, Try.results9, go_sem, hS.out, hE.out]) rfl ⟨rfl, by (repeat' (first | (with_reducible exact Below.refl _ _) | (with_reducible refine Below.alloc ?_ ?_ _) | (with_reducible refine Below.setCell ?_ ?_ _) | (with_reducible refine Below.drew ?_) | (with_reducible refine below_step ?_ (by assumption) ?_) | (with_reducible exact leC) | go_size))⟩
      · have hv2 := hv.out
        rw [hN.out, if_neg h0, Prod.mk.injEq] at hv2
        obtain ⟨hS, hE⟩ := hv2
        replace hS := Lib.hid hS
        replace hE := Lib.hid hE
        clear hv
        have hd0 : decide ((N : Int) = 0) = false := decide_eq_false (by omega)
        have hd1 : ((N : Int) == 0) = false := by simpa using h0
        go_wp2
        exact bodyPost_ret (v := (.tuple #[.string S, .int .i64 E])) (by simp (maxDischargeDepth := 6) [results, Try.results9, go_sem, hS.out, hE.out]) rfl ⟨rfl, by (repeat' (first | (with_reducible exact Below.refl _ _) | (with_reducible refine Below.alloc ?_ ?_ _) | (with_reducible refine Below.setCell ?_ ?_ _) | (with_reducible refine Below.drew ?_) | (with_reducible refine below_step ?_ (by assumption) ?_) | (with_reducible exact leC) | go_size))⟩
end Go.Proofs.Ytnpbhdphbbdefaa
