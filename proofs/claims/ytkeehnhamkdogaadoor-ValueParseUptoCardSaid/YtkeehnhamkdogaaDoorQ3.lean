/- The reference's number. Conditions: at most 2^24 bytes. -/
import Derived.Test.YtkeehnhamkdogaaDoorQ2
namespace Go.Proofs.YtkeehnhamkdogaaDoor
set_option linter.unusedVariables false
set_option linter.unusedSimpArgs false
open Go.RowKit
set_option maxRecDepth 100000

def numQ (s : ByteArray) (a : Nat) : Q :=
  if s.data.toList[a]? = some 48 ∧ 1 < (digsV s a).length then .err (a + 1) 4 zeroV (a + 1) else match Lib.parseUintB 64 (digsV s a) with
    | .ok u => .ok (.mk 1 u ⟨#[]⟩ []) (a + (digsV s a).length)
    | _ => .err a 5 zeroV (a + (digsV s a).length)
theorem numQ_r (s : ByteArray) (a : Nat) : (numQ s a).r = numV s a := by
  unfold numQ numV
  split
  · rfl
  · cases Lib.parseUintB 64 (digsV s a) <;> rfl
theorem dig_in (c : UInt8) : digL.contains c = true ↔ 48 ≤ c.toNat ∧ c.toNat ≤ 57 := by
  have h : ∀ n : Fin 256, digL.contains (UInt8.ofNat n.val) = true ↔ 48 ≤ n.val ∧ n.val ≤ 57 := by decide +kernel
  have := h ⟨c.toNat, c.toNat_lt⟩
  rwa [show UInt8.ofNat (⟨c.toNat, c.toNat_lt⟩ : Fin 256).val = c by simp] at this
theorem any_next (s : ByteArray) (a : Nat) : anyV s a digL = true ↔ 48 ≤ (nextV s a).toNat ∧ (nextV s a).toNat ≤ 57 := by
  unfold anyV nextV
  cases s.data.toList[a]? with
  | none => simp
  | some c => exact dig_in c
theorem digs_at {s : ByteArray} {a i : Nat} (h : i < (digsV s a).length) : (digsV s a)[i]? = some (nextV s (a + i)) ∧ (digsV s a).drop i = nextV s (a + i) :: (digsV s a).drop (i + 1) := by
  have e : (digsV s a)[i] = nextV s (a + i) := by
    have h1 : (digsV s a)[i]? = s.data.toList[a + i]? := by
      unfold digsV at h ⊢
      rw [← List.getElem?_drop]
      obtain ⟨t, ht⟩ : List.takeWhile digL.contains (s.data.toList.drop a) <+: s.data.toList.drop a := List.takeWhile_prefix _
      conv => rhs; rw [← ht]
      rw [List.getElem?_append_left h]
    rw [List.getElem?_eq_getElem h] at h1
    unfold nextV
    rw [← h1]; rfl
  exact ⟨by rw [List.getElem?_eq_getElem h, e], by rw [List.drop_eq_getElem_cons h, e]⟩
theorem rnumber_c (s : ByteArray) (a : Nat) (ha : a ≤ s.size) (hs : s.size ≤ 16777216) (hd : anyV s a digL = true) :
    CallsM Tryd.prog ΓS 60 [(0, Sta0 s a)] 1 [.c (.ptr 0 0)] (.o (gD (drow (numQ s a).v))) [(0, (numQ s a).st s)] [] := by
  have hm := digs_le s ha
  obtain ⟨P, hP⟩ : ∃ P, Lib.parseUintB 64 (digsV s a) = P := ⟨_, rfl⟩
  have hdg : ∀ i, i < (digsV s a).length → (digsV s a).drop i = nextV s (a + i) :: (digsV s a).drop (i + 1) := fun i hi => (digs_at hi).2
  obtain ⟨m, hmv⟩ : ∃ m, (digsV s a).length = m := ⟨_, rfl⟩
  have hany : ∀ i, i ≤ m → anyV s (a + i) digL = decide (i < m) := fun i hi => by rw [any_dig s a i (by omega), hmv]
  have h0 := hany 0 (by omega)
  rw [Nat.add_zero, hd] at h0
  have h0 : 0 < m := of_decide_eq_true h0.symm
  have hP0 : Lib.parseUintM 18446744073709551615 0 (digsV s a) = P := by
    rw [← hP]; unfold Lib.parseUintB
    rw [if_neg (by intro h; rw [h] at hmv; simp at hmv; omega)]
  rw [hmv] at hm hdg
  obtain ⟨c, hc⟩ : ∃ c, s.data.toList[a]? = some c := ⟨_, s_at (by omega)⟩
  obtain ⟨T, hT⟩ : ∃ T, numQ s a = T := ⟨_, rfl⟩
  rw [hT]
  unfold numQ at hT
  rw [hP, hmv] at hT
  refine fn_ruleM (C := ⟨Tryd.prog, layF, Tryd.f60.ntmps, ΓS, 1, [], []⟩) layF_ok mixed Tryd.func60 rfl (by kernel_rfl) rfl rfl rfl ?_
  refine ex_loop (X := Nat × Bool × Int) (fun x => ⟨[(0, .o (.c (.ptr 0 0))), (2, .o (.c (.ptr 1 0))), (3, Ti a), (4, Tu x.2.2), (5, Tb x.2.1)], [(0, Sta0 s (a + x.1)), (1, .obj [.d (di 0), .d (du 0), .d (ds ⟨#[]⟩), .d dnil])], 2⟩) (fun x => m - x.1)
      (fun x => x.1 ≤ m ∧ (c = 48 → x.1 ≤ 1) ∧ 0 ≤ x.2.2 ∧ x.2.2 < 18446744073709551616 ∧ ((x.2.1 = false ∧ Lib.parseUintM 18446744073709551615 x.2.2.toNat ((digsV s a).drop x.1) = P) ∨ (x.2.1 = true ∧ P = .range))) (0, false, 0) ⟨by show 0 ≤ _; omega, fun _ => by show 0 ≤ 1; omega, by decide, by decide, .inl ⟨rfl, hP0⟩⟩ (SLe.of ⟨⟨rfl, rfl, rfl, rfl, rfl, trivial⟩, ⟨rfl, rfl, trivial⟩⟩) ?_
  rintro ⟨i, big, n⟩ ⟨hi, hz, hn0, hn1, hg⟩
  simp only at hi hz hn0 hn1 hg
  obtain ⟨n, rfl⟩ := Int.eq_ofNat_of_zero_le hn0
  rw [Int.toNat_natCast] at hg
  have hrw := rraw_c s (a + i) 0 0 hs
  have han := any_next s (a + i)
  rw [hany i hi, decide_eq_true_iff] at han
  refine ex_callM (CallsM.ren (hrw) [0] 2 rfl rfl rfl rfl) ?_
  refine ex_dec (fun h1 => ?_) (fun h1 => ?_)
  ·
    refine ex_callM (CallsM.ren (hrw) [0] 2 rfl rfl rfl rfl) ?_
    refine ex_dec (fun h2 => ?_) (fun h2 => ?_)
    · have him : i < m := han.2 (by omega)
      refine ex_i64 (((a + 1 : Nat) : Int)) (by first | rfl | omega | simp) (by omega) (by omega) ?_
      refine ex_dec (fun h3 => ?_) (fun h3 => ?_)
      · refine ex_chr a c rfl hc ?_
        refine ex_dec (fun h4 => ?_) (fun h4 => ?_)
        · have hc48 : c = 48 := u8_eq.1 h4
          obtain rfl : i = 1 := by omega
          rw [if_pos ⟨by rw [hc, hc48], him⟩] at hT
          subst hT
          refine ex_callM (CallsM.ren ((rfail_c s (a + 1) 0 (a + 1) 4)) [0] 2 rfl rfl rfl rfl) ?_
          exact ⟨rfl, by show TLe _ (.o (gD (drow (.mk _ _ _ _)))); rw [drow_mk]; exact TLe.nil4, rfl, rfl⟩
        · have him := him
          have hch : s.data.toList[a + i]? = some (nextV s (a + i)) := by unfold nextV; rw [s_at (by omega)]; rfl
          refine ex_chr (a + i) _ rfl hch ?_
          have h12 : 48 ≤ (nextV s (a + i)).toNat ∧ (nextV s (a + i)).toNat ≤ 57 := han.1 him
          have hdr := hdg i him
          rw [hdr] at hg
          generalize nextV s (a + i) = ch at *
          obtain ⟨d, hd1, hd2⟩ : ∃ d, ch.toNat = d + 48 ∧ d ≤ 9 := ⟨ch.toNat - 48, by omega, by omega⟩
          refine ex_u8 ((d : Nat) : Int) (by omega) (by omega) (by omega) ?_
          refine ex_u64 ((d : Nat) : Int) rfl (by omega) (by omega) ?_
          refine ⟨by kernel_rfl, ?_⟩
          refine ex_u64 ((18446744073709551615 - d : Nat) : Int) (by omega) (by omega) (by omega) ?_
          refine ⟨by decide, ?_⟩
          refine ex_u64 (((18446744073709551615 - d) / 10 : Nat) : Int) (Int.ofNat_tdiv _ _).symm (by omega) (by omega) ?_
          refine ex_dec (fun h5 => ?_) (fun h5 => ?_)
          · have h5 : (((18446744073709551615 - d) / 10 : Nat) : Int) < (n : Int) := h5
            obtain ⟨z1, hz1⟩ : ∃ z1, IntKind.u64.wrap (10 * (n : Int)) = z1 := ⟨_, rfl⟩
            refine ex_is z1 hz1 ?_
            obtain ⟨z2, hz2⟩ : ∃ z2, IntKind.u64.wrap (z1 + (d : Nat)) = z2 := ⟨_, rfl⟩
            refine ex_is z2 hz2 ?_
            refine ex_i64 (((a + (i + 1) : Nat) : Int)) (by first | rfl | omega | simp) (by omega) (by omega) ?_
            rw [IntKind.wrap_u64] at hz2
            refine ex_round (i + 1, true, z2) ⟨by show i + 1 ≤ m; omega, fun h => by show i + 1 ≤ 1; exact absurd (by rw [h]; rfl) h4, by show 0 ≤ z2; omega, by show z2 < _; omega, .inr ⟨rfl, ?_⟩⟩ (by show m - (i + 1) < m - i; omega) (SLe.of ⟨⟨rfl, rfl, rfl, rfl, rfl, trivial⟩, ⟨rfl, rfl, trivial⟩⟩)
            rcases hg with ⟨-, hg⟩ | ⟨-, hg⟩
            · rw [Lib.parseUintM, if_pos h12] at hg
              by_cases h6 : 1844674407370955162 ≤ n
              · rw [if_pos h6] at hg; exact hg.symm
              · rw [if_neg h6, if_pos (by omega)] at hg; exact hg.symm
            · exact hg
          · have h5 : ¬ (((18446744073709551615 - d) / 10 : Nat) : Int) < (n : Int) := h5
            refine ex_u64 ((10 * n : Nat) : Int) (by show 10 * (n : Int) = _; omega) (by omega) (by omega) ?_
            refine ex_u64 ((10 * n + d : Nat) : Int) (by omega) (by omega) (by omega) ?_
            refine ex_i64 (((a + (i + 1) : Nat) : Int)) (by first | rfl | omega | simp) (by omega) (by omega) ?_
            refine ex_round (i + 1, big, ((10 * n + d : Nat) : Int)) ⟨by show i + 1 ≤ m; omega, fun h => by show i + 1 ≤ 1; exact absurd (by rw [h]; rfl) h4, by show 0 ≤ ((10 * n + d : Nat) : Int); omega, by show ((10 * n + d : Nat) : Int) < _; omega, ?_⟩ (by show m - (i + 1) < m - i; omega) (SLe.of ⟨⟨rfl, rfl, rfl, rfl, rfl, trivial⟩, ⟨rfl, rfl, trivial⟩⟩)
            rcases hg with ⟨rfl, hg⟩ | ⟨rfl, hg⟩
            · rw [Lib.parseUintM, if_pos h12, if_neg (by omega), if_neg (by omega)] at hg
              refine .inl ⟨rfl, ?_⟩
              show Lib.parseUintM _ ((10 * n + d : Nat) : Int).toNat _ = P
              rw [Int.toNat_natCast, show 10 * n + d = n * 10 + (ch.toNat - 48) by omega]
              exact hg
            · exact .inr ⟨rfl, hg⟩
      · have him := him
        have hch : s.data.toList[a + i]? = some (nextV s (a + i)) := by unfold nextV; rw [s_at (by omega)]; rfl
        refine ex_chr (a + i) _ rfl hch ?_
        have h12 : 48 ≤ (nextV s (a + i)).toNat ∧ (nextV s (a + i)).toNat ≤ 57 := han.1 him
        have hdr := hdg i him
        rw [hdr] at hg
        generalize nextV s (a + i) = ch at *
        obtain ⟨d, hd1, hd2⟩ : ∃ d, ch.toNat = d + 48 ∧ d ≤ 9 := ⟨ch.toNat - 48, by omega, by omega⟩
        refine ex_u8 ((d : Nat) : Int) (by omega) (by omega) (by omega) ?_
        refine ex_u64 ((d : Nat) : Int) rfl (by omega) (by omega) ?_
        refine ⟨by kernel_rfl, ?_⟩
        refine ex_u64 ((18446744073709551615 - d : Nat) : Int) (by omega) (by omega) (by omega) ?_
        refine ⟨by decide, ?_⟩
        refine ex_u64 (((18446744073709551615 - d) / 10 : Nat) : Int) (Int.ofNat_tdiv _ _).symm (by omega) (by omega) ?_
        refine ex_dec (fun h5 => ?_) (fun h5 => ?_)
        · have h5 : (((18446744073709551615 - d) / 10 : Nat) : Int) < (n : Int) := h5
          obtain ⟨z1, hz1⟩ : ∃ z1, IntKind.u64.wrap (10 * (n : Int)) = z1 := ⟨_, rfl⟩
          refine ex_is z1 hz1 ?_
          obtain ⟨z2, hz2⟩ : ∃ z2, IntKind.u64.wrap (z1 + (d : Nat)) = z2 := ⟨_, rfl⟩
          refine ex_is z2 hz2 ?_
          refine ex_i64 (((a + (i + 1) : Nat) : Int)) (by first | rfl | omega | simp) (by omega) (by omega) ?_
          rw [IntKind.wrap_u64] at hz2
          refine ex_round (i + 1, true, z2) ⟨by show i + 1 ≤ m; omega, fun h => by show i + 1 ≤ 1; have := hz h; omega, by show 0 ≤ z2; omega, by show z2 < _; omega, .inr ⟨rfl, ?_⟩⟩ (by show m - (i + 1) < m - i; omega) (SLe.of ⟨⟨rfl, rfl, rfl, rfl, rfl, trivial⟩, ⟨rfl, rfl, trivial⟩⟩)
          rcases hg with ⟨-, hg⟩ | ⟨-, hg⟩
          · rw [Lib.parseUintM, if_pos h12] at hg
            by_cases h6 : 1844674407370955162 ≤ n
            · rw [if_pos h6] at hg; exact hg.symm
            · rw [if_neg h6, if_pos (by omega)] at hg; exact hg.symm
          · exact hg
        · have h5 : ¬ (((18446744073709551615 - d) / 10 : Nat) : Int) < (n : Int) := h5
          refine ex_u64 ((10 * n : Nat) : Int) (by show 10 * (n : Int) = _; omega) (by omega) (by omega) ?_
          refine ex_u64 ((10 * n + d : Nat) : Int) (by omega) (by omega) (by omega) ?_
          refine ex_i64 (((a + (i + 1) : Nat) : Int)) (by first | rfl | omega | simp) (by omega) (by omega) ?_
          refine ex_round (i + 1, big, ((10 * n + d : Nat) : Int)) ⟨by show i + 1 ≤ m; omega, fun h => by show i + 1 ≤ 1; have := hz h; omega, by show 0 ≤ ((10 * n + d : Nat) : Int); omega, by show ((10 * n + d : Nat) : Int) < _; omega, ?_⟩ (by show m - (i + 1) < m - i; omega) (SLe.of ⟨⟨rfl, rfl, rfl, rfl, rfl, trivial⟩, ⟨rfl, rfl, trivial⟩⟩)
          rcases hg with ⟨rfl, hg⟩ | ⟨rfl, hg⟩
          · rw [Lib.parseUintM, if_pos h12, if_neg (by omega), if_neg (by omega)] at hg
            refine .inl ⟨rfl, ?_⟩
            show Lib.parseUintM _ ((10 * n + d : Nat) : Int).toNat _ = P
            rw [Int.toNat_natCast, show 10 * n + d = n * 10 + (ch.toNat - 48) by omega]
            exact hg
          · exact .inr ⟨rfl, hg⟩
    · have him := 0
      have hmi : ¬ i < m := fun h => by have := han.1 h; omega
      obtain rfl : i = m := by omega
      rw [if_neg (by rintro ⟨h5, h6⟩; have := hz (by rw [hc] at h5; exact Option.some.inj h5); omega)] at hT
      rcases hg with ⟨rfl, hg⟩ | ⟨rfl, rfl⟩
      · rw [List.drop_eq_nil_of_le (by omega)] at hg
        have hg : P = .ok n := hg.symm
        rw [hg] at hT
        simp only at hT
        subst hT
        exact ⟨rfl, by show TLe _ (.o (gD (drow (.mk _ _ _ _)))); rw [drow_mk]; exact TLe.nil4, rfl, rfl⟩
      · simp only at hT
        subst hT
        refine ex_callM (CallsM.ren ((rfail_c s (a + i) 0 a 5)) [0] 2 rfl rfl rfl rfl) ?_
        exact ⟨rfl, by show TLe _ (.o (gD (drow (.mk _ _ _ _)))); rw [drow_mk]; exact TLe.nil4, rfl, rfl⟩
  · have him := 0
    have hmi : ¬ i < m := fun h => by have := han.1 h; omega
    obtain rfl : i = m := by omega
    rw [if_neg (by rintro ⟨h5, h6⟩; have := hz (by rw [hc] at h5; exact Option.some.inj h5); omega)] at hT
    rcases hg with ⟨rfl, hg⟩ | ⟨rfl, rfl⟩
    · rw [List.drop_eq_nil_of_le (by omega)] at hg
      have hg : P = .ok n := hg.symm
      rw [hg] at hT
      simp only at hT
      subst hT
      exact ⟨rfl, by show TLe _ (.o (gD (drow (.mk _ _ _ _)))); rw [drow_mk]; exact TLe.nil4, rfl, rfl⟩
    · simp only at hT
      subst hT
      refine ex_callM (CallsM.ren ((rfail_c s (a + i) 0 a 5)) [0] 2 rfl rfl rfl rfl) ?_
      exact ⟨rfl, by show TLe _ (.o (gD (drow (.mk _ _ _ _)))); rw [drow_mk]; exact TLe.nil4, rfl, rfl⟩
end Go.Proofs.YtkeehnhamkdogaaDoor
