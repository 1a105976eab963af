/- CodeTable: the word of every Op, what it has, takes and puts, and the operators are the document's. Condition: the listed package variables hold what the program's text lays. -/
import Derived.ProofKit
import Derived.SizedLaws
import Derived.OpenShut
import Derived.Test.YtblobabhdmigiaaDoorRows
import Derived.MakeChecks
import Derived.Lib.LaidTab
import Derived.Test.YtblobabhdmigiaaDoorCards
import Derived.Test.YtblobabhdmigiaaDoorTie
import Derived.Lay
import Derived.SevenTiedAt
import Derived.Deep.DeepHandedRow
import Derived.Test.YtblobabhdmigiaaDoorZ1
import Derived.Test.YtblobabhdmigiaaDoorZ2
import Derived.Test.YtblobabhdmigiaaDoorZ3
namespace Go.Proofs.YtblobabhdmigiaaDoor
set_option linter.unusedVariables false
set_option linter.unusedSimpArgs false
open Go.RowKit
set_option maxRecDepth 100000

theorem ext_drop (r : List UInt8) (n : Nat) (h : n ≤ r.length) : (bs r).extract (n : Int).toNat ((bs r).size : Int).toNat = bs (r.drop n) := by
  apply ByteArray.ext
  rw [ByteArray.data_extract, Int.toNat_natCast, Int.toNat_natCast, bs_size]
  apply Array.ext'
  simp only [List.extract_toArray, List.extract_eq_take_drop]
  exact List.take_of_length_le (by simp)
theorem ext_take (r : List UInt8) (n : Nat) : (bs r).extract (0 : Int).toNat (n : Int).toNat = bs (r.take n) := by
  apply ByteArray.ext
  rw [ByteArray.data_extract, Int.toNat_natCast]
  apply Array.ext'
  simp [List.extract_eq_take_drop]
def numT (s : List UInt8) : TV := match decR (signR s).2 (signR s).1 with
  | some n => .tup [c1 (du n), c1 (db (signR s).1), c1 (db true)]
  | none => .tup [c1 (du 0), c1 (db false), c1 (db false)]
theorem digR_lt : ∀ (l : List UInt8) (a n : Nat), a < 18446744073709551616 → digR a l = some n → n < 18446744073709551616
  | [], a, n, h1, h => by rw [digR] at h; injection h with h; omega
  | c :: r, a, n, h1, h => by
    rw [digR] at h
    split at h
    · split at h
      · cases h
      · exact digR_lt r _ n (by omega) h
    · cases h
theorem u8_cmp {c : UInt8} {k : Nat} (hk : k < 256) : ((c.toNat : Int) = (k : Int)) ↔ c = UInt8.ofNat k := ⟨fun h => UInt8.toNat_inj.1 (by rw [UInt8.toNat_ofNat']; show c.toNat = k % 256; omega), fun h => by rw [h, UInt8.toNat_ofNat']; show ((k % 256 : Nat) : Int) = k; omega⟩
theorem rnumber_c (s : List UInt8) (hs : s.length ≤ 1048576) : CallsA Tryd.prog Γ0 51 [c1 (ds (bs s))] (numT s) := by
  have hsz := bs_size s
  unfold numT
  have hdl : (signR s).2.length ≤ s.length := by
    by_cases hm : ∃ r, s = 45 :: r
    · obtain ⟨r, rfl⟩ := hm
      rw [signR_minus]; simp
    · rw [signR_other (s := s) (fun r e => hm ⟨r, e⟩)]; exact Nat.le_refl _
  obtain ⟨neg, d, hsg⟩ : ∃ neg d, signR s = (neg, d) := ⟨_, _, rfl⟩
  rw [hsg] at hdl ⊢
  dsimp only at hdl ⊢
  refine fn_rule (C := ⟨Tryd.prog, layF, Tryd.f51.ntmps, Γ0, 0, [], [2,5,7]⟩) layF_ok mixed Tryd.func51 rfl (by kernel_rfl) rfl rfl rfl ?_
  repeat' (first | refine ex_true (by first | decide | omega | assumption | (with_reducible exact rfl)) ?_ | refine ex_false (by first | decide | omega | assumption | exact (fun h => h rfl)) ?_ | refine ex_dec (fun _ => ?_) (fun _ => ?_) | refine ex_u8 _ rfl (by omega) (by omega) ?_ | refine ex_i64 _ rfl (by omega) (by omega) ?_ | refine ex_u64 _ rfl (by omega) (by omega) ?_ | refine and_mk (by first | omega | (with_reducible rfl) | (show drawOk _ _ _ = true; kernel_rfl)) ?_ | refine and_mk ⟨_, rfl⟩ ?_ | refine ex_is _ (List.length_map _) ?_ | refine ex_is _ List.length_nil ?_ | fail "no step")
  refine ex_join (X := Unit) (fun _ => ⟨[(0, Tstr (bs s)), (5, Tb neg)], [], 0⟩) (fun _ => True) ?_ ?_
  · rcases s with _ | ⟨c, r⟩
    · rw [show signR [] = (false, []) from rfl] at hsg
      cases hsg
      repeat' (first | refine ex_true (by first | decide | omega | assumption | (with_reducible exact rfl)) ?_ | refine ex_false (by first | decide | omega | assumption | exact (fun h => h rfl)) ?_ | refine ex_dec (fun _ => ?_) (fun _ => ?_) | refine ex_u8 _ rfl (by omega) (by omega) ?_ | refine ex_i64 _ rfl (by omega) (by omega) ?_ | refine ex_u64 _ rfl (by omega) (by omega) ?_ | refine and_mk (by first | omega | (with_reducible rfl) | (show drawOk _ _ _ = true; kernel_rfl)) ?_ | refine and_mk ⟨_, rfl⟩ ?_ | refine ex_is _ (List.length_map _) ?_ | refine ex_is _ List.length_nil ?_ | fail "no step")
      exact ex_meet () trivial (SLe.of ⟨⟨rfl, rfl, trivial⟩, trivial⟩)
    · have hc0 : (bs (c :: r)).data.toList[0]? = some c := rfl
      have hcl : (c :: r).length = r.length + 1 := List.length_cons
      by_cases h45 : c = 45
      · subst h45
        rw [signR_minus] at hsg
        cases hsg
        repeat' (first | refine (ex_true (show ((45 : UInt8).toNat : Int) = 45 by decide)) ?_ | refine (ex_chr 0 45 rfl hc0) ?_ | refine ex_true (by first | decide | omega | assumption | (with_reducible exact rfl)) ?_ | refine ex_false (by first | decide | omega | assumption | exact (fun h => h rfl)) ?_ | refine ex_dec (fun _ => ?_) (fun _ => ?_) | refine ex_u8 _ rfl (by omega) (by omega) ?_ | refine ex_i64 _ rfl (by omega) (by omega) ?_ | refine ex_u64 _ rfl (by omega) (by omega) ?_ | refine and_mk (by first | omega | (with_reducible rfl) | (show drawOk _ _ _ = true; kernel_rfl)) ?_ | refine and_mk ⟨_, rfl⟩ ?_ | refine ex_is _ (List.length_map _) ?_ | refine ex_is _ List.length_nil ?_ | fail "no step")
        exact ex_meet () trivial (SLe.of ⟨⟨rfl, rfl, trivial⟩, trivial⟩)
      · have hne : ¬ ((c.toNat : Int) = 45) := fun e => h45 ((u8_cmp (k := 45) (by decide)).1 e)
        have hsr := signR_other (s := c :: r) (fun r' e => by injection e with e _; exact h45 e)
        rw [hsr] at hsg
        cases hsg
        repeat' (first | refine (ex_chr 0 c rfl hc0) ?_ | refine ex_true (by first | decide | omega | assumption | (with_reducible exact rfl)) ?_ | refine ex_false (by first | decide | omega | assumption | exact (fun h => h rfl)) ?_ | refine ex_dec (fun _ => ?_) (fun _ => ?_) | refine ex_u8 _ rfl (by omega) (by omega) ?_ | refine ex_i64 _ rfl (by omega) (by omega) ?_ | refine ex_u64 _ rfl (by omega) (by omega) ?_ | refine and_mk (by first | omega | (with_reducible rfl) | (show drawOk _ _ _ = true; kernel_rfl)) ?_ | refine and_mk ⟨_, rfl⟩ ?_ | refine ex_is _ (List.length_map _) ?_ | refine ex_is _ List.length_nil ?_ | fail "no step")
        exact ex_meet () trivial (SLe.of ⟨⟨rfl, rfl, trivial⟩, trivial⟩)
  rintro - -
  repeat' (first | refine ex_true (by first | decide | omega | assumption | (with_reducible exact rfl)) ?_ | refine ex_false (by first | decide | omega | assumption | exact (fun h => h rfl)) ?_ | refine ex_dec (fun _ => ?_) (fun _ => ?_) | refine ex_u8 _ rfl (by omega) (by omega) ?_ | refine ex_i64 _ rfl (by omega) (by omega) ?_ | refine ex_u64 _ rfl (by omega) (by omega) ?_ | refine and_mk (by first | omega | (with_reducible rfl) | (show drawOk _ _ _ = true; kernel_rfl)) ?_ | refine and_mk ⟨_, rfl⟩ ?_ | refine ex_is _ (List.length_map _) ?_ | refine ex_is _ List.length_nil ?_ | fail "no step")
  refine ex_join (X := Unit) (fun _ => ⟨[(5, Tb neg), (6, Tstr (bs d))], [], 0⟩) (fun _ => True) ?_ ?_
  · by_cases hm : ∃ r, s = 45 :: r
    · obtain ⟨r, rfl⟩ := hm
      have hx : (bs (45 :: r)).extract (1 : Int).toNat (((bs (45 :: r)).size : Nat) : Int).toNat = bs r := ext_drop (45 :: r) 1 (by simp)
      rw [List.length_cons] at hsz
      rw [signR_minus] at hsg
      cases hsg
      repeat' (first | refine ex_true (by first | decide | omega | assumption | (with_reducible exact rfl)) ?_ | refine ex_false (by first | decide | omega | assumption | exact (fun h => h rfl)) ?_ | refine ex_dec (fun _ => ?_) (fun _ => ?_) | refine ex_u8 _ rfl (by omega) (by omega) ?_ | refine ex_i64 _ rfl (by omega) (by omega) ?_ | refine ex_u64 _ rfl (by omega) (by omega) ?_ | refine and_mk (by first | omega | (with_reducible rfl) | (show drawOk _ _ _ = true; kernel_rfl)) ?_ | refine and_mk ⟨_, rfl⟩ ?_ | refine ex_is _ (List.length_map _) ?_ | refine ex_is _ List.length_nil ?_ | fail "no step")
      rw [hx]
      repeat' (first | refine ex_true (by first | decide | omega | assumption | (with_reducible exact rfl)) ?_ | refine ex_false (by first | decide | omega | assumption | exact (fun h => h rfl)) ?_ | refine ex_dec (fun _ => ?_) (fun _ => ?_) | refine ex_u8 _ rfl (by omega) (by omega) ?_ | refine ex_i64 _ rfl (by omega) (by omega) ?_ | refine ex_u64 _ rfl (by omega) (by omega) ?_ | refine and_mk (by first | omega | (with_reducible rfl) | (show drawOk _ _ _ = true; kernel_rfl)) ?_ | refine and_mk ⟨_, rfl⟩ ?_ | refine ex_is _ (List.length_map _) ?_ | refine ex_is _ List.length_nil ?_ | fail "no step")
      exact ex_meet () trivial (SLe.of ⟨⟨rfl, rfl, trivial⟩, trivial⟩)
    · rw [signR_other (s := s) (fun r e => hm ⟨r, e⟩)] at hsg
      cases hsg
      repeat' (first | refine ex_true (by first | decide | omega | assumption | (with_reducible exact rfl)) ?_ | refine ex_false (by first | decide | omega | assumption | exact (fun h => h rfl)) ?_ | refine ex_dec (fun _ => ?_) (fun _ => ?_) | refine ex_u8 _ rfl (by omega) (by omega) ?_ | refine ex_i64 _ rfl (by omega) (by omega) ?_ | refine ex_u64 _ rfl (by omega) (by omega) ?_ | refine and_mk (by first | omega | (with_reducible rfl) | (show drawOk _ _ _ = true; kernel_rfl)) ?_ | refine and_mk ⟨_, rfl⟩ ?_ | refine ex_is _ (List.length_map _) ?_ | refine ex_is _ List.length_nil ?_ | fail "no step")
      exact ex_meet () trivial (SLe.of ⟨⟨rfl, rfl, trivial⟩, trivial⟩)
  · rintro - -
    have hdz := bs_size d
    repeat' (first | refine ex_true (by first | decide | omega | assumption | (with_reducible exact rfl)) ?_ | refine ex_false (by first | decide | omega | assumption | exact (fun h => h rfl)) ?_ | refine ex_dec (fun _ => ?_) (fun _ => ?_) | refine ex_u8 _ rfl (by omega) (by omega) ?_ | refine ex_i64 _ rfl (by omega) (by omega) ?_ | refine ex_u64 _ rfl (by omega) (by omega) ?_ | refine and_mk (by first | omega | (with_reducible rfl) | (show drawOk _ _ _ = true; kernel_rfl)) ?_ | refine and_mk ⟨_, rfl⟩ ?_ | refine ex_is _ (List.length_map _) ?_ | refine ex_is _ List.length_nil ?_ | fail "no step")
    refine ex_join (X := Unit) (fun _ => ⟨[(5, Tb neg), (6, Tstr (bs d))], [], 0⟩) (fun _ => decR d neg = digR 0 d) ?_ ?_
    · rcases d with _ | ⟨c, r⟩
      · repeat' (first | refine ex_true (by first | decide | omega | assumption | (with_reducible exact rfl)) ?_ | refine ex_false (by first | decide | omega | assumption | exact (fun h => h rfl)) ?_ | refine ex_dec (fun _ => ?_) (fun _ => ?_) | refine ex_u8 _ rfl (by omega) (by omega) ?_ | refine ex_i64 _ rfl (by omega) (by omega) ?_ | refine ex_u64 _ rfl (by omega) (by omega) ?_ | refine and_mk (by first | omega | (with_reducible rfl) | (show drawOk _ _ _ = true; kernel_rfl)) ?_ | refine and_mk ⟨_, rfl⟩ ?_ | refine ex_is _ (List.length_map _) ?_ | refine ex_is _ List.length_nil ?_ | fail "no step")
        exact TLe.rfl
      · have hc0 : (bs (c :: r)).data.toList[0]? = some c := rfl
        have hcl : (c :: r).length = r.length + 1 := List.length_cons
        have hdec : decR (c :: r) neg = if c = 48 ∧ (r ≠ [] ∨ neg = true) then none else digR 0 (c :: r) := rfl
        have hrl : r ≠ [] ↔ 0 < r.length := List.length_pos_iff.symm
        rw [hdec]
        by_cases h48 : c = 48
        · subst h48
          rcases hneg : neg with _ | _
          · by_cases hr : r = []
            · subst hr
              rw [if_neg (by simp)]
              repeat' (first | refine (ex_true (show ((48 : UInt8).toNat : Int) = 48 by decide)) ?_ | refine (ex_chr 0 48 rfl hc0) ?_ | refine ex_true (by first | decide | omega | assumption | (with_reducible exact rfl)) ?_ | refine ex_false (by first | decide | omega | assumption | exact (fun h => h rfl)) ?_ | refine ex_dec (fun _ => ?_) (fun _ => ?_) | refine ex_u8 _ rfl (by omega) (by omega) ?_ | refine ex_i64 _ rfl (by omega) (by omega) ?_ | refine ex_u64 _ rfl (by omega) (by omega) ?_ | refine and_mk (by first | omega | (with_reducible rfl) | (show drawOk _ _ _ = true; kernel_rfl)) ?_ | refine and_mk ⟨_, rfl⟩ ?_ | refine ex_is _ (List.length_map _) ?_ | refine ex_is _ List.length_nil ?_ | fail "no step")
              exact ex_meet () rfl (SLe.of ⟨⟨rfl, rfl, trivial⟩, trivial⟩)
            · have := hrl.1 hr
              rw [if_pos ⟨rfl, .inl hr⟩]
              repeat' (first | refine (ex_true (show ((48 : UInt8).toNat : Int) = 48 by decide)) ?_ | refine (ex_chr 0 48 rfl hc0) ?_ | refine ex_true (by first | decide | omega | assumption | (with_reducible exact rfl)) ?_ | refine ex_false (by first | decide | omega | assumption | exact (fun h => h rfl)) ?_ | refine ex_dec (fun _ => ?_) (fun _ => ?_) | refine ex_u8 _ rfl (by omega) (by omega) ?_ | refine ex_i64 _ rfl (by omega) (by omega) ?_ | refine ex_u64 _ rfl (by omega) (by omega) ?_ | refine and_mk (by first | omega | (with_reducible rfl) | (show drawOk _ _ _ = true; kernel_rfl)) ?_ | refine and_mk ⟨_, rfl⟩ ?_ | refine ex_is _ (List.length_map _) ?_ | refine ex_is _ List.length_nil ?_ | fail "no step")
              exact TLe.rfl
          · rw [if_pos ⟨rfl, .inr rfl⟩]
            repeat' (first | refine (ex_true (show ((48 : UInt8).toNat : Int) = 48 by decide)) ?_ | refine (ex_chr 0 48 rfl hc0) ?_ | refine ex_true (by first | decide | omega | assumption | (with_reducible exact rfl)) ?_ | refine ex_false (by first | decide | omega | assumption | exact (fun h => h rfl)) ?_ | refine ex_dec (fun _ => ?_) (fun _ => ?_) | refine ex_u8 _ rfl (by omega) (by omega) ?_ | refine ex_i64 _ rfl (by omega) (by omega) ?_ | refine ex_u64 _ rfl (by omega) (by omega) ?_ | refine and_mk (by first | omega | (with_reducible rfl) | (show drawOk _ _ _ = true; kernel_rfl)) ?_ | refine and_mk ⟨_, rfl⟩ ?_ | refine ex_is _ (List.length_map _) ?_ | refine ex_is _ List.length_nil ?_ | fail "no step")
            all_goals exact TLe.rfl
        · have hne : ¬ ((c.toNat : Int) = 48) := fun e => h48 ((u8_cmp (k := 48) (by decide)).1 e)
          rw [if_neg (fun h => h48 h.1)]
          repeat' (first | refine (ex_chr 0 c rfl hc0) ?_ | refine ex_true (by first | decide | omega | assumption | (with_reducible exact rfl)) ?_ | refine ex_false (by first | decide | omega | assumption | exact (fun h => h rfl)) ?_ | refine ex_dec (fun _ => ?_) (fun _ => ?_) | refine ex_u8 _ rfl (by omega) (by omega) ?_ | refine ex_i64 _ rfl (by omega) (by omega) ?_ | refine ex_u64 _ rfl (by omega) (by omega) ?_ | refine and_mk (by first | omega | (with_reducible rfl) | (show drawOk _ _ _ = true; kernel_rfl)) ?_ | refine and_mk ⟨_, rfl⟩ ?_ | refine ex_is _ (List.length_map _) ?_ | refine ex_is _ List.length_nil ?_ | fail "no step")
          exact ex_meet () rfl (SLe.of ⟨⟨rfl, rfl, trivial⟩, trivial⟩)
    · rintro - hD
      rw [hD]
      obtain ⟨R, hR⟩ : ∃ R, digR 0 d = R := ⟨_, rfl⟩
      rw [hR]
      repeat' (first | refine ex_true (by first | decide | omega | assumption | (with_reducible exact rfl)) ?_ | refine ex_false (by first | decide | omega | assumption | exact (fun h => h rfl)) ?_ | refine ex_dec (fun _ => ?_) (fun _ => ?_) | refine ex_u8 _ rfl (by omega) (by omega) ?_ | refine ex_i64 _ rfl (by omega) (by omega) ?_ | refine ex_u64 _ rfl (by omega) (by omega) ?_ | refine and_mk (by first | omega | (with_reducible rfl) | (show drawOk _ _ _ = true; kernel_rfl)) ?_ | refine and_mk ⟨_, rfl⟩ ?_ | refine ex_is _ (List.length_map _) ?_ | refine ex_is _ List.length_nil ?_ | fail "no step")
      refine ex_loop (X := Nat × Nat) (fun ⟨i, a⟩ => ⟨[(5, Tb neg), (6, Tstr (bs d)), (7, Tu a), (8, Ti i)], [], 0⟩) (fun x => d.length - x.1) (fun ⟨i, a⟩ => i ≤ d.length ∧ a < 18446744073709551616 ∧ digR a (d.drop i) = R) (0, 0) ⟨Nat.zero_le _, by decide, hR⟩ (SLe.of ⟨⟨rfl, rfl, rfl, rfl, trivial⟩, trivial⟩) ?_
      rintro ⟨i, a⟩ ⟨hi, ha, hs2⟩
      refine ex_dec (fun h => ?_) (fun h => ?_)
      · have hil : i < d.length := by omega
        have hc : d[i]? = some d[i] := at_some hil
        rw [List.drop_eq_getElem_cons hil, digR] at hs2
        generalize d[i] = c at *
        have hcl := c.toNat_lt
        by_cases hg : 48 ≤ c.toNat ∧ c.toNat ≤ 57
        · rw [if_pos hg] at hs2
          obtain ⟨k, hk⟩ : ∃ k, c.toNat - 48 = k := ⟨_, rfl⟩
          rw [hk] at hs2
          have hk9 : k ≤ 9 := by omega
          repeat' (first | refine ex_i64 ((k : Nat) : Int) (by omega) (by omega) (by omega) ?_ | refine ex_u64 ((k : Nat) : Int) (by omega) (by omega) (by omega) ?_ | refine ex_u8 ((k : Nat) : Int) (by omega) (by omega) (by omega) ?_ | refine (ex_chr i c rfl hc) ?_ | refine ex_true (by first | decide | omega | assumption | (with_reducible exact rfl)) ?_ | refine ex_false (by first | decide | omega | assumption | exact (fun h => h rfl)) ?_ | refine ex_dec (fun _ => ?_) (fun _ => ?_) | refine ex_u8 _ rfl (by omega) (by omega) ?_ | refine ex_i64 _ rfl (by omega) (by omega) ?_ | refine ex_u64 _ rfl (by omega) (by omega) ?_ | refine and_mk (by first | omega | (with_reducible rfl) | (show drawOk _ _ _ = true; kernel_rfl)) ?_ | refine and_mk ⟨_, rfl⟩ ?_ | refine ex_is _ (List.length_map _) ?_ | refine ex_is _ List.length_nil ?_ | fail "no step")
          refine ex_u64 (((18446744073709551615 - k) / 10 : Nat) : Int) (by rw [Int.tdiv_eq_ediv_of_nonneg (by omega)]; omega) (by omega) (by omega) ?_
          by_cases hov : (18446744073709551615 - k) / 10 < a
          · rw [if_pos hov] at hs2
            subst hs2
            repeat' (first | refine ex_true (by first | decide | omega | assumption | (with_reducible exact rfl)) ?_ | refine ex_false (by first | decide | omega | assumption | exact (fun h => h rfl)) ?_ | refine ex_dec (fun _ => ?_) (fun _ => ?_) | refine ex_u8 _ rfl (by omega) (by omega) ?_ | refine ex_i64 _ rfl (by omega) (by omega) ?_ | refine ex_u64 _ rfl (by omega) (by omega) ?_ | refine and_mk (by first | omega | (with_reducible rfl) | (show drawOk _ _ _ = true; kernel_rfl)) ?_ | refine and_mk ⟨_, rfl⟩ ?_ | refine ex_is _ (List.length_map _) ?_ | refine ex_is _ List.length_nil ?_ | fail "no step")
            exact TLe.rfl
          · rw [if_neg hov] at hs2
            repeat' (first | refine ex_i64 ((i + 1 : Nat) : Int) (by omega) (by omega) (by omega) ?_ | refine ex_u64 ((i + 1 : Nat) : Int) (by omega) (by omega) (by omega) ?_ | refine ex_u8 ((i + 1 : Nat) : Int) (by omega) (by omega) (by omega) ?_ | refine ex_i64 ((10 * a : Nat) : Int) (by omega) (by omega) (by omega) ?_ | refine ex_u64 ((10 * a : Nat) : Int) (by omega) (by omega) (by omega) ?_ | refine ex_u8 ((10 * a : Nat) : Int) (by omega) (by omega) (by omega) ?_ | refine ex_i64 ((10 * a + k : Nat) : Int) (by omega) (by omega) (by omega) ?_ | refine ex_u64 ((10 * a + k : Nat) : Int) (by omega) (by omega) (by omega) ?_ | refine ex_u8 ((10 * a + k : Nat) : Int) (by omega) (by omega) (by omega) ?_ | refine ex_true (by first | decide | omega | assumption | (with_reducible exact rfl)) ?_ | refine ex_false (by first | decide | omega | assumption | exact (fun h => h rfl)) ?_ | refine ex_dec (fun _ => ?_) (fun _ => ?_) | refine ex_u8 _ rfl (by omega) (by omega) ?_ | refine ex_i64 _ rfl (by omega) (by omega) ?_ | refine ex_u64 _ rfl (by omega) (by omega) ?_ | refine and_mk (by first | omega | (with_reducible rfl) | (show drawOk _ _ _ = true; kernel_rfl)) ?_ | refine and_mk ⟨_, rfl⟩ ?_ | refine ex_is _ (List.length_map _) ?_ | refine ex_is _ List.length_nil ?_ | fail "no step")
            exact ex_round (i + 1, 10 * a + k) ⟨by omega, by omega, hs2⟩ (by show _ - _ < _ - _; omega) (SLe.of ⟨⟨rfl, rfl, rfl, rfl, trivial⟩, trivial⟩)
        · rw [if_neg hg] at hs2
          subst hs2
          repeat' (first | refine (ex_chr i c rfl hc) ?_ | refine ex_true (by first | decide | omega | assumption | (with_reducible exact rfl)) ?_ | refine ex_false (by first | decide | omega | assumption | exact (fun h => h rfl)) ?_ | refine ex_dec (fun _ => ?_) (fun _ => ?_) | refine ex_u8 _ rfl (by omega) (by omega) ?_ | refine ex_i64 _ rfl (by omega) (by omega) ?_ | refine ex_u64 _ rfl (by omega) (by omega) ?_ | refine and_mk (by first | omega | (with_reducible rfl) | (show drawOk _ _ _ = true; kernel_rfl)) ?_ | refine and_mk ⟨_, rfl⟩ ?_ | refine ex_is _ (List.length_map _) ?_ | refine ex_is _ List.length_nil ?_ | fail "no step")
          all_goals exact TLe.rfl
      · have hq9 : i = d.length := by omega
        subst hq9
        rw [List.drop_length, digR] at hs2
        subst hs2
        repeat' (first | refine ex_true (by first | decide | omega | assumption | (with_reducible exact rfl)) ?_ | refine ex_false (by first | decide | omega | assumption | exact (fun h => h rfl)) ?_ | refine ex_dec (fun _ => ?_) (fun _ => ?_) | refine ex_u8 _ rfl (by omega) (by omega) ?_ | refine ex_i64 _ rfl (by omega) (by omega) ?_ | refine ex_u64 _ rfl (by omega) (by omega) ?_ | refine and_mk (by first | omega | (with_reducible rfl) | (show drawOk _ _ _ = true; kernel_rfl)) ?_ | refine and_mk ⟨_, rfl⟩ ?_ | refine ex_is _ (List.length_map _) ?_ | refine ex_is _ List.length_nil ?_ | fail "no step")
        exact TLe.rfl
theorem rwhole_c (s : List UInt8) (hs : s.length ≤ 1048576) : CallsA Tryd.prog Γ0 39 [c1 (ds (bs s))] (.tup [c1 (di ((wholeR s).getD 0)), c1 (db (wholeR s).isSome)]) := by
  have hn := rnumber_c s hs
  unfold numT at hn
  unfold wholeR
  obtain ⟨neg, d, hsg⟩ : ∃ neg d, signR s = (neg, d) := ⟨_, _, rfl⟩
  rw [hsg] at hn ⊢
  dsimp only at hn ⊢
  cases hd : decR d neg with
  | none =>
    rw [hd] at hn
    dsimp only at hn ⊢
    refine fn_rule (C := ⟨Tryd.prog, layF, Tryd.f39.ntmps, Γ0, 0, [], []⟩) layF_ok mixed Tryd.func39 rfl (by kernel_rfl) rfl rfl rfl ?_
    repeat' (first | refine ex_call hn ?_ | refine ex_true (by first | decide | omega | assumption | (with_reducible exact rfl)) ?_ | refine ex_false (by first | decide | omega | assumption | exact (fun h => h rfl)) ?_ | refine ex_dec (fun _ => ?_) (fun _ => ?_) | refine ex_u8 _ rfl (by omega) (by omega) ?_ | refine ex_i64 _ rfl (by omega) (by omega) ?_ | refine ex_u64 _ rfl (by omega) (by omega) ?_ | refine and_mk (by first | omega | (with_reducible rfl) | (show drawOk _ _ _ = true; kernel_rfl)) ?_ | refine and_mk ⟨_, rfl⟩ ?_ | refine ex_is _ (List.length_map _) ?_ | refine ex_is _ List.length_nil ?_ | fail "no step")
    exact TLe.rfl
  | some n =>
    rw [hd] at hn
    obtain ⟨h1, -, h3⟩ := decR_iff.1 hd
    dsimp only at hn ⊢
    cases hneg : neg with
    | true =>
      rw [hneg] at hn h3
      have hn0 : n ≠ 0 := fun e => h3 ⟨rfl, e⟩
      by_cases hb : 9223372036854775808 < n
      · rw [if_pos (.inr ⟨rfl, hb⟩)]
        refine fn_rule (C := ⟨Tryd.prog, layF, Tryd.f39.ntmps, Γ0, 0, [], []⟩) layF_ok mixed Tryd.func39 rfl (by kernel_rfl) rfl rfl rfl ?_
        repeat' (first | refine ex_call hn ?_ | refine ex_true (by first | decide | omega | assumption | (with_reducible exact rfl)) ?_ | refine ex_false (by first | decide | omega | assumption | exact (fun h => h rfl)) ?_ | refine ex_dec (fun _ => ?_) (fun _ => ?_) | refine ex_u8 _ rfl (by omega) (by omega) ?_ | refine ex_i64 _ rfl (by omega) (by omega) ?_ | refine ex_u64 _ rfl (by omega) (by omega) ?_ | refine and_mk (by first | omega | (with_reducible rfl) | (show drawOk _ _ _ = true; kernel_rfl)) ?_ | refine and_mk ⟨_, rfl⟩ ?_ | refine ex_is _ (List.length_map _) ?_ | refine ex_is _ List.length_nil ?_ | fail "no step")
        exact TLe.rfl
      · rw [if_neg (by rintro (⟨h, -⟩ | ⟨-, h⟩); cases h; exact hb h)]
        refine fn_rule (C := ⟨Tryd.prog, layF, Tryd.f39.ntmps, Γ0, 0, [], []⟩) layF_ok mixed Tryd.func39 rfl (by kernel_rfl) rfl rfl rfl ?_
        repeat' (first | refine ex_call hn ?_ | refine ex_i64 (-(n : Int)) (by omega) (by omega) (by omega) ?_ | refine ex_u64 (-(n : Int)) (by omega) (by omega) (by omega) ?_ | refine ex_u8 (-(n : Int)) (by omega) (by omega) (by omega) ?_ | refine ex_i64 (-((n - 1 : Nat) : Int)) (by omega) (by omega) (by omega) ?_ | refine ex_u64 (-((n - 1 : Nat) : Int)) (by omega) (by omega) (by omega) ?_ | refine ex_u8 (-((n - 1 : Nat) : Int)) (by omega) (by omega) (by omega) ?_ | refine ex_i64 ((n - 1 : Nat) : Int) (by omega) (by omega) (by omega) ?_ | refine ex_u64 ((n - 1 : Nat) : Int) (by omega) (by omega) (by omega) ?_ | refine ex_u8 ((n - 1 : Nat) : Int) (by omega) (by omega) (by omega) ?_ | refine ex_true (by first | decide | omega | assumption | (with_reducible exact rfl)) ?_ | refine ex_false (by first | decide | omega | assumption | exact (fun h => h rfl)) ?_ | refine ex_dec (fun _ => ?_) (fun _ => ?_) | refine ex_u8 _ rfl (by omega) (by omega) ?_ | refine ex_i64 _ rfl (by omega) (by omega) ?_ | refine ex_u64 _ rfl (by omega) (by omega) ?_ | refine and_mk (by first | omega | (with_reducible rfl) | (show drawOk _ _ _ = true; kernel_rfl)) ?_ | refine and_mk ⟨_, rfl⟩ ?_ | refine ex_is _ (List.length_map _) ?_ | refine ex_is _ List.length_nil ?_ | fail "no step")
        exact TLe.rfl
    | false =>
      rw [hneg] at hn
      by_cases hb : 9223372036854775807 < n
      · rw [if_pos (.inl ⟨rfl, hb⟩)]
        refine fn_rule (C := ⟨Tryd.prog, layF, Tryd.f39.ntmps, Γ0, 0, [], []⟩) layF_ok mixed Tryd.func39 rfl (by kernel_rfl) rfl rfl rfl ?_
        repeat' (first | refine ex_call hn ?_ | refine ex_true (by first | decide | omega | assumption | (with_reducible exact rfl)) ?_ | refine ex_false (by first | decide | omega | assumption | exact (fun h => h rfl)) ?_ | refine ex_dec (fun _ => ?_) (fun _ => ?_) | refine ex_u8 _ rfl (by omega) (by omega) ?_ | refine ex_i64 _ rfl (by omega) (by omega) ?_ | refine ex_u64 _ rfl (by omega) (by omega) ?_ | refine and_mk (by first | omega | (with_reducible rfl) | (show drawOk _ _ _ = true; kernel_rfl)) ?_ | refine and_mk ⟨_, rfl⟩ ?_ | refine ex_is _ (List.length_map _) ?_ | refine ex_is _ List.length_nil ?_ | fail "no step")
        exact TLe.rfl
      · rw [if_neg (by rintro (⟨-, h⟩ | ⟨h, -⟩); exact hb h; cases h)]
        refine fn_rule (C := ⟨Tryd.prog, layF, Tryd.f39.ntmps, Γ0, 0, [], []⟩) layF_ok mixed Tryd.func39 rfl (by kernel_rfl) rfl rfl rfl ?_
        repeat' (first | refine ex_call hn ?_ | refine ex_i64 (n : Int) (by omega) (by omega) (by omega) ?_ | refine ex_u64 (n : Int) (by omega) (by omega) (by omega) ?_ | refine ex_u8 (n : Int) (by omega) (by omega) (by omega) ?_ | refine ex_true (by first | decide | omega | assumption | (with_reducible exact rfl)) ?_ | refine ex_false (by first | decide | omega | assumption | exact (fun h => h rfl)) ?_ | refine ex_dec (fun _ => ?_) (fun _ => ?_) | refine ex_u8 _ rfl (by omega) (by omega) ?_ | refine ex_i64 _ rfl (by omega) (by omega) ?_ | refine ex_u64 _ rfl (by omega) (by omega) ?_ | refine and_mk (by first | omega | (with_reducible rfl) | (show drawOk _ _ _ = true; kernel_rfl)) ?_ | refine and_mk ⟨_, rfl⟩ ?_ | refine ex_is _ (List.length_map _) ?_ | refine ex_is _ List.length_nil ?_ | fail "no step")
        exact TLe.rfl
theorem cut_onHead {c : UInt8} {p : List UInt8} : ∀ {r : List UInt8}, onHead p (cutL c r) ≠ [] := fun {r} h => by cases hc : cutL c r <;> rw [hc] at h <;> cases h
theorem rfields_c (s : List UInt8) (hs : s.length ≤ 1048576) : CallsA Tryd.prog Γ0 37 [c1 (ds (bs s))] (.o (c1 (dss (cutL 32 s)))) := by
  have hsz := bs_size s
  refine fn_rule (C := ⟨Tryd.prog, layF, Tryd.f37.ntmps, Γ0, 0, [], []⟩) layF_ok mixed Tryd.func37 rfl (by kernel_rfl) rfl rfl rfl ?_
  repeat' (first | refine ex_true (by first | decide | omega | assumption | (with_reducible exact rfl)) ?_ | refine ex_false (by first | decide | omega | assumption | exact (fun h => h rfl)) ?_ | refine ex_dec (fun _ => ?_) (fun _ => ?_) | refine ex_u8 _ rfl (by omega) (by omega) ?_ | refine ex_i64 _ rfl (by omega) (by omega) ?_ | refine ex_u64 _ rfl (by omega) (by omega) ?_ | refine and_mk (by first | omega | (with_reducible rfl) | (show drawOk _ _ _ = true; kernel_rfl)) ?_ | refine and_mk ⟨_, rfl⟩ ?_ | refine ex_is _ (List.length_map _) ?_ | refine ex_is _ List.length_nil ?_ | fail "no step")
  refine ex_loop (X := Nat × Nat × List (List UInt8)) (fun ⟨i, f, o⟩ => ⟨[(0, Tstr (bs s)), (3, .o (.c (.row 0))), (4, Ti f), (5, Ti i)], [(0, .row 1 9 (o.map fun x => [ds (bs x)]))], 1⟩) (fun x => s.length + 1 - x.1)
    (fun ⟨i, f, o⟩ => o.length ≤ i ∧ f ≤ s.length + 1 ∧ ((i ≤ s.length ∧ f ≤ i ∧ o ++ onHead ((s.take i).drop f) (cutL 32 (s.drop i)) = cutL 32 s) ∨ (i = s.length + 1 ∧ o = cutL 32 s))) (0, 0, []) ⟨Nat.zero_le _, Nat.zero_le _, .inl ⟨Nat.zero_le _, Nat.le_refl _, by
      cases hc : cutL 32 s with
      | nil => exact absurd hc (cutL_ne 32 s)
      | cons a t => simp [onHead, hc]⟩⟩ (SLe.trans (SLe.of ⟨⟨rfl, rfl, rfl, rfl, trivial⟩, ⟨rfl, trivial⟩⟩) (SLe.own 3 0 1 9 rfl rfl rfl rfl rfl)) ?_
  rintro ⟨i, f, o⟩ ⟨ho, hf1, hs2⟩
  rcases hs2 with ⟨hi, hf, hs2⟩ | ⟨hi, hs2⟩
  · have hx : (bs s).extract (f : Int).toNat (i : Int).toNat = bs ((s.take i).drop f) := by
      apply ByteArray.ext
      rw [ByteArray.data_extract, Int.toNat_natCast, Int.toNat_natCast]
      apply Array.ext'
      simp [List.extract_eq_take_drop, List.drop_take]
    have happ : ∀ P : List UInt8, (o ++ [P]).map (fun x => [ds (bs x)]) = o.map (fun x => [ds (bs x)]) ++ [[ds (bs P)]] := fun P => by rw [List.map_append]; rfl
    have nilHead : ∀ r : List UInt8, onHead [] (cutL 32 r) = cutL 32 r := fun r => by
      cases hc : cutL 32 r with
      | nil => exact absurd hc (cutL_ne 32 r)
      | cons a t => rfl
    by_cases hil : i < s.length
    · have hc : s[i]? = some s[i] := at_some hil
      have htk : s.take (i + 1) = s.take i ++ [s[i]] := by rw [List.take_add_one, hc]; rfl
      rw [List.drop_eq_getElem_cons hil, cutL] at hs2
      generalize s[i] = c at *
      by_cases h32 : c = 32
      · subst h32
        rw [if_pos rfl] at hs2
        have hs3 : o ++ [(s.take i).drop f] ++ cutL 32 (s.drop (i + 1)) = cutL 32 s := by rw [← hs2, List.append_assoc]; simp [onHead]
        repeat' (first | refine (ex_true (show ((32 : UInt8).toNat : Int) = 32 by decide)) ?_ | refine (ex_chr i 32 rfl hc) ?_ | refine ex_true (by first | decide | omega | assumption | (with_reducible exact rfl)) ?_ | refine ex_false (by first | decide | omega | assumption | exact (fun h => h rfl)) ?_ | refine ex_dec (fun _ => ?_) (fun _ => ?_) | refine ex_u8 _ rfl (by omega) (by omega) ?_ | refine ex_i64 _ rfl (by omega) (by omega) ?_ | refine ex_u64 _ rfl (by omega) (by omega) ?_ | refine and_mk (by first | omega | (with_reducible rfl) | (show drawOk _ _ _ = true; kernel_rfl)) ?_ | refine and_mk ⟨_, rfl⟩ ?_ | refine ex_is _ (List.length_map _) ?_ | refine ex_is _ List.length_nil ?_ | fail "no step")
        rw [hx]
        refine ex_app (o.length) (1) 1000 (by first | rfl | (simp; done) | (simp; omega)) (by first | rfl | (simp; done) | (simp; omega)) rfl (by omega) ?_
        refine ex_is _ (happ _).symm ?_
        repeat' (first | refine ex_i64 ((i + 1 : Nat) : Int) (by omega) (by omega) (by omega) ?_ | refine ex_u64 ((i + 1 : Nat) : Int) (by omega) (by omega) (by omega) ?_ | refine ex_u8 ((i + 1 : Nat) : Int) (by omega) (by omega) (by omega) ?_ | refine ex_true (by first | decide | omega | assumption | (with_reducible exact rfl)) ?_ | refine ex_false (by first | decide | omega | assumption | exact (fun h => h rfl)) ?_ | refine ex_dec (fun _ => ?_) (fun _ => ?_) | refine ex_u8 _ rfl (by omega) (by omega) ?_ | refine ex_i64 _ rfl (by omega) (by omega) ?_ | refine ex_u64 _ rfl (by omega) (by omega) ?_ | refine and_mk (by first | omega | (with_reducible rfl) | (show drawOk _ _ _ = true; kernel_rfl)) ?_ | refine and_mk ⟨_, rfl⟩ ?_ | refine ex_is _ (List.length_map _) ?_ | refine ex_is _ List.length_nil ?_ | fail "no step")
        exact ex_round (i + 1, i + 1, o ++ [(s.take i).drop f]) ⟨by simp; omega, by omega, .inl ⟨by omega, Nat.le_refl _, by rw [show (s.take (i + 1)).drop (i + 1) = [] from List.drop_of_length_le (by rw [List.length_take]; omega), nilHead]; exact hs3⟩⟩ (by show _ - _ < _ - _; omega) (SLe.ren [(2, 0)] ⟨⟨rfl, rfl⟩, ⟨rfl, rfl⟩, ⟨rfl, rfl⟩, ⟨rfl, rfl⟩, trivial⟩ ⟨⟨rfl, rfl⟩, trivial⟩ rfl)
      · have hne : ¬ ((c.toNat : Int) = 32) := fun e => h32 ((u8_cmp (k := 32) (by decide)).1 e)
        rw [if_neg h32] at hs2
        repeat' (first | refine ex_i64 ((i + 1 : Nat) : Int) (by omega) (by omega) (by omega) ?_ | refine ex_u64 ((i + 1 : Nat) : Int) (by omega) (by omega) (by omega) ?_ | refine ex_u8 ((i + 1 : Nat) : Int) (by omega) (by omega) (by omega) ?_ | refine (ex_chr i c rfl hc) ?_ | refine ex_true (by first | decide | omega | assumption | (with_reducible exact rfl)) ?_ | refine ex_false (by first | decide | omega | assumption | exact (fun h => h rfl)) ?_ | refine ex_dec (fun _ => ?_) (fun _ => ?_) | refine ex_u8 _ rfl (by omega) (by omega) ?_ | refine ex_i64 _ rfl (by omega) (by omega) ?_ | refine ex_u64 _ rfl (by omega) (by omega) ?_ | refine and_mk (by first | omega | (with_reducible rfl) | (show drawOk _ _ _ = true; kernel_rfl)) ?_ | refine and_mk ⟨_, rfl⟩ ?_ | refine ex_is _ (List.length_map _) ?_ | refine ex_is _ List.length_nil ?_ | fail "no step")
        exact ex_round (i + 1, f, o) ⟨by omega, by omega, .inl ⟨by omega, by omega, by
          rw [← hs2, htk, List.drop_append_of_le_length (by rw [List.length_take]; omega)]
          congr 1
          cases hcc : cutL 32 (s.drop (i + 1)) with
          | nil => exact absurd hcc (cutL_ne 32 _)
          | cons a t => simp [onHead]⟩⟩ (by show _ - _ < _ - _; omega) (SLe.of ⟨⟨rfl, rfl, rfl, rfl, trivial⟩, ⟨rfl, trivial⟩⟩)
    · have hie : i = s.length := by omega
      subst hie
      have hs3 : o ++ [(s.take s.length).drop f] = cutL 32 s := by rw [← hs2, List.drop_length, cutL]; simp [onHead]
      repeat' (first | refine ex_true (by first | decide | omega | assumption | (with_reducible exact rfl)) ?_ | refine ex_false (by first | decide | omega | assumption | exact (fun h => h rfl)) ?_ | refine ex_dec (fun _ => ?_) (fun _ => ?_) | refine ex_u8 _ rfl (by omega) (by omega) ?_ | refine ex_i64 _ rfl (by omega) (by omega) ?_ | refine ex_u64 _ rfl (by omega) (by omega) ?_ | refine and_mk (by first | omega | (with_reducible rfl) | (show drawOk _ _ _ = true; kernel_rfl)) ?_ | refine and_mk ⟨_, rfl⟩ ?_ | refine ex_is _ (List.length_map _) ?_ | refine ex_is _ List.length_nil ?_ | fail "no step")
      rw [hx]
      refine ex_app (o.length) (1) 1000 (by first | rfl | (simp; done) | (simp; omega)) (by first | rfl | (simp; done) | (simp; omega)) rfl (by omega) ?_
      refine ex_is _ (happ _).symm ?_
      repeat' (first | refine ex_i64 ((s.length + 1 : Nat) : Int) (by omega) (by omega) (by omega) ?_ | refine ex_u64 ((s.length + 1 : Nat) : Int) (by omega) (by omega) (by omega) ?_ | refine ex_u8 ((s.length + 1 : Nat) : Int) (by omega) (by omega) (by omega) ?_ | refine ex_true (by first | decide | omega | assumption | (with_reducible exact rfl)) ?_ | refine ex_false (by first | decide | omega | assumption | exact (fun h => h rfl)) ?_ | refine ex_dec (fun _ => ?_) (fun _ => ?_) | refine ex_u8 _ rfl (by omega) (by omega) ?_ | refine ex_i64 _ rfl (by omega) (by omega) ?_ | refine ex_u64 _ rfl (by omega) (by omega) ?_ | refine and_mk (by first | omega | (with_reducible rfl) | (show drawOk _ _ _ = true; kernel_rfl)) ?_ | refine and_mk ⟨_, rfl⟩ ?_ | refine ex_is _ (List.length_map _) ?_ | refine ex_is _ List.length_nil ?_ | fail "no step")
      exact ex_round (s.length + 1, s.length + 1, o ++ [(s.take s.length).drop f]) ⟨by simp; omega, by omega, .inr ⟨rfl, hs3⟩⟩ (by show _ - _ < _ - _; omega) (SLe.ren [(2, 0)] ⟨⟨rfl, rfl⟩, ⟨rfl, rfl⟩, ⟨rfl, rfl⟩, ⟨rfl, rfl⟩, trivial⟩ ⟨⟨rfl, rfl⟩, trivial⟩ rfl)
  · subst hs2
    repeat' (first | refine ex_true (by first | decide | omega | assumption | (with_reducible exact rfl)) ?_ | refine ex_false (by first | decide | omega | assumption | exact (fun h => h rfl)) ?_ | refine ex_dec (fun _ => ?_) (fun _ => ?_) | refine ex_u8 _ rfl (by omega) (by omega) ?_ | refine ex_i64 _ rfl (by omega) (by omega) ?_ | refine ex_u64 _ rfl (by omega) (by omega) ?_ | refine and_mk (by first | omega | (with_reducible rfl) | (show drawOk _ _ _ = true; kernel_rfl)) ?_ | refine and_mk ⟨_, rfl⟩ ?_ | refine ex_is _ (List.length_map _) ?_ | refine ex_is _ List.length_nil ?_ | fail "no step")
    exact TLe.rfl
end Go.Proofs.YtblobabhdmigiaaDoor

namespace Go.Proofs.YtblobabhdmigiaaDoor
set_option linter.unusedVariables false
set_option linter.unusedSimpArgs false
open Go.RowKit
set_option maxRecDepth 100000

/-- What reads as the one reads as the other. -/
def DLe (d d' : D) : Prop := ∀ (S : Nat → Prop) (w : World) (u : Value), Imm S w d u → Imm S w d' u
theorem DLe.rfl {d : D} : DLe d d := fun _ _ _ h => h
theorem DLe.nil {s : Nat} : DLe dnil (.sl s []) := fun _ _ _ h => by cases h; exact Imm.nil
theorem All2.flat {α β : Type} {R : α → β → Prop} : ∀ {l : List (List α)} {m : List (List β)}, All2 (All2 R) l m → All2 R l.flatten m.flatten
  | [], m, h => by obtain rfl := h.nil_left; exact .nil
  | a :: l, m, h => by
    obtain ⟨b, m', rfl, h1, h2⟩ := h.cons_left
    exact h1.append h2.flat
theorem DLe.sl {s : Nat} {rows rows' : List (List D)} (h : All2 (All2 DLe) rows rows') : DLe (.sl s rows) (.sl s rows') := fun S w u hu => by
  have hf := h.flat
  cases hu with
  | nil => obtain rfl := h.nil_left; exact Imm.nil
  | sl0 => obtain rfl := h.nil_left; exact Imm.sl0
  | sl us hs hc hr h1 h2 =>
    rw [h.len] at hc ⊢
    refine Imm.sl us hs hc (fun r hr' => ?_) (fun j d hj => ?_) (fun j d hj => ?_)
    · obtain ⟨i, hi⟩ := List.getElem?_of_mem hr'
      obtain ⟨r0, e0, e1⟩ := h.at_right hi
      rw [← e1.len]
      exact hr r0 (List.mem_of_getElem? e0)
    · obtain ⟨d0, e0, e1⟩ := hf.at_right hj
      exact h1 j d0 e0
    · obtain ⟨d0, e0, e1⟩ := hf.at_right hj
      exact e1 _ _ _ (h2 j d0 e0)
/-- A contract, met with arguments that read as its own. -/
theorem CallsA.args {P : Program} {Γ : Glob} {f : FuncId} {xs ys : List T1} {r : TV} (h : CallsA P Γ f ys r) (hx : ∀ (S : Nat → Prop) (w : World) (vs : List Value), All2 (V1 ι0 S w) xs vs → All2 (V1 ι0 S w) ys vs) : CallsA P Γ f xs r :=
  ⟨h.1, fun S w vs hS hG hv => h.2 S w vs hS hG (hx S w vs hv)⟩
theorem CallsA.arg1 {P : Program} {Γ : Glob} {f : FuncId} {d d' : D} {xs : List T1} {r : TV} (h : CallsA P Γ f (c1 d' :: xs) r) (hd : DLe d d') : CallsA P Γ f (c1 d :: xs) r :=
  h.args fun S w vs hv => by
    obtain ⟨u, vs, rfl, h1, h2⟩ := hv.cons_left
    exact .cons (hd _ _ _ h1) h2
end Go.Proofs.YtblobabhdmigiaaDoor

namespace Go.Proofs.YtblobabhdmigiaaDoor
set_option linter.unusedVariables false
set_option linter.unusedSimpArgs false
open Go.RowKit
set_option maxRecDepth 100000

abbrev TF3 : TypeId := 23
abbrev TRi : TypeId := 73
abbrev prD (fs : List FN) (l : List IN) : T1 := gD [.sl 3 (fs.map fnD), .sl 4 (l.map inD)]
set_option maxHeartbeats 4000000 in
theorem programs_c (fs : List FN) (l : List IN) (hf : fs.length ≤ 9223372036854775807) (hl : l.length ≤ 9223372036854775807) :
    CallsA Tryd.prog Γ0 13 [c1 (.sl 3 (fs.map fnD)), c1 (.sl 4 (l.map inD))] (.tup [prD (fs.take 10) (l.take 60), prD (fs.take 10) (l.take 60)]) := by
  have hcut : ∀ (α : Type) (k : Nat) (l : List α) (f : α → List D), ((l.map f).take ((min k l.length : Nat) : Int).toNat).drop (0 : Int).toNat = (l.take k).map f := fun α k l f => by
    rw [Int.toNat_natCast, show (0 : Int).toNat = 0 from rfl, List.drop_zero, ← List.map_take, ← List.take_eq_take_min]
  have hF := hcut FN 10 fs fnD
  have hL := hcut IN 60 l inD
  have hfm : (fs.map fnD).length = fs.length := List.length_map _
  have hlm : (l.map inD).length = l.length := List.length_map _
  have hF10 : (fs.take 10).length ≤ 10 := by rw [List.length_take]; omega
  have hL60 : (l.take 60).length ≤ 60 := by rw [List.length_take]; omega
  have hFm : ((fs.take 10).map fnD).length = (fs.take 10).length := List.length_map _
  have hLm : ((l.take 60).map inD).length = (l.take 60).length := List.length_map _
  refine fn_rule (C := ⟨Tryd.prog, layF, Tryd.f13.ntmps, Γ0, 0, [], []⟩) layF_ok mixed Tryd.func13 rfl (by kernel_rfl) rfl rfl rfl ?_
  repeat' (first | refine ex_true (by first | decide | omega | assumption | (with_reducible exact rfl)) ?_ | refine ex_false (by first | decide | omega | assumption | exact (fun h => h rfl)) ?_ | refine ex_dec (fun _ => ?_) (fun _ => ?_) | refine ex_u8 _ rfl (by omega) (by omega) ?_ | refine ex_i64 _ rfl (by omega) (by omega) ?_ | refine ex_u64 _ rfl (by omega) (by omega) ?_ | refine and_mk (by first | omega | (with_reducible rfl) | (show drawOk _ _ _ = true; kernel_rfl)) ?_ | refine and_mk ⟨_, rfl⟩ ?_ | refine ex_is _ (List.length_map _) ?_ | refine ex_is _ List.length_nil ?_ | fail "no step")
  refine ex_is ((min 10 fs.length : Nat) : Int) (by split <;> omega) ?_
  repeat' (first | refine ex_true (by first | decide | omega | assumption | (with_reducible exact rfl)) ?_ | refine ex_false (by first | decide | omega | assumption | exact (fun h => h rfl)) ?_ | refine ex_dec (fun _ => ?_) (fun _ => ?_) | refine ex_u8 _ rfl (by omega) (by omega) ?_ | refine ex_i64 _ rfl (by omega) (by omega) ?_ | refine ex_u64 _ rfl (by omega) (by omega) ?_ | refine and_mk (by first | omega | (with_reducible rfl) | (show drawOk _ _ _ = true; kernel_rfl)) ?_ | refine and_mk ⟨_, rfl⟩ ?_ | refine ex_is _ (List.length_map _) ?_ | refine ex_is _ List.length_nil ?_ | fail "no step")
  refine ex_is _ hF ?_
  generalize fs.take 10 = F at *
  repeat' (first | refine (ex_is _ hFm) ?_ | refine ex_true (by first | decide | omega | assumption | (with_reducible exact rfl)) ?_ | refine ex_false (by first | decide | omega | assumption | exact (fun h => h rfl)) ?_ | refine ex_dec (fun _ => ?_) (fun _ => ?_) | refine ex_u8 _ rfl (by omega) (by omega) ?_ | refine ex_i64 _ rfl (by omega) (by omega) ?_ | refine ex_u64 _ rfl (by omega) (by omega) ?_ | refine and_mk (by first | omega | (with_reducible rfl) | (show drawOk _ _ _ = true; kernel_rfl)) ?_ | refine and_mk ⟨_, rfl⟩ ?_ | refine ex_is _ (List.length_map _) ?_ | refine ex_is _ List.length_nil ?_ | fail "no step")
  refine ex_loop (X := Nat × List FN) (fun ⟨q, A⟩ => ⟨[(1, .o (c1 (.sl 4 (l.map inD)))), (4, .o (.c (.ptr 0 0))), (5, .o (.c (.ptr 1 0))), (6, .o (.c (.ptr 2 0))), (7, .o (.c (.ptr 3 0))), (16, .o (c1 (.sl 3 (F.map fnD)))), (17, Ti F.length), (18, Ti q)], [(0, .obj [.d dnil, .d dnil]), (1, .obj [.d dnil, .d dnil]), (2, .obj [.row 4, .d dnil]), (3, .obj [.row 5, .d dnil]), (4, .row 3 TFn (A.map fnD)), (5, .row 3 TF3 (A.map fnD))], 6⟩) (fun x => F.length - x.1) (fun ⟨q, A⟩ => q ≤ F.length ∧ A = F.take q) (0, []) ⟨Nat.zero_le _, rfl⟩ (SLe.trans (SLe.of ⟨⟨rfl, rfl, rfl, rfl, rfl, rfl, rfl, rfl, trivial⟩, ⟨rfl, rfl, rfl, rfl, rfl, rfl, trivial⟩⟩) (SLe.trans (SLe.ownCell 3 0 5 3 TF3 rfl rfl rfl rfl rfl rfl) (SLe.ownCell 2 0 4 3 TFn rfl rfl rfl rfl rfl rfl))) ?_
  rintro ⟨q, A⟩ ⟨hq, hA⟩
  refine ex_dec (fun h => ?_) (fun h => ?_)
  · have hql : q < F.length := by omega
    have hc : F[q]? = some F[q] := at_some hql
    have htk : F.take (q + 1) = F.take q ++ [F[q]] := by rw [List.take_add_one, hc]; rfl
    have htl : A.length = q := by rw [hA, List.length_take]; omega
    have hap : A.map fnD ++ [fnD F[q]] = (F.take (q + 1)).map fnD := by rw [htk, List.map_append, hA]; rfl
    generalize F[q] = f at *
    repeat' (first | refine (ex_row q f rfl hc) ?_ | refine ex_true (by first | decide | omega | assumption | (with_reducible exact rfl)) ?_ | refine ex_false (by first | decide | omega | assumption | exact (fun h => h rfl)) ?_ | refine ex_dec (fun _ => ?_) (fun _ => ?_) | refine ex_u8 _ rfl (by omega) (by omega) ?_ | refine ex_i64 _ rfl (by omega) (by omega) ?_ | refine ex_u64 _ rfl (by omega) (by omega) ?_ | refine and_mk (by first | omega | (with_reducible rfl) | (show drawOk _ _ _ = true; kernel_rfl)) ?_ | refine and_mk ⟨_, rfl⟩ ?_ | refine ex_is _ (List.length_map _) ?_ | refine ex_is _ List.length_nil ?_ | fail "no step")
    refine ex_app (q) (1) 1000 (by first | rfl | (simp; done) | (simp; omega)) (by first | rfl | (simp; done) | (simp; omega)) rfl (by omega) ?_
    refine ex_is _ hap ?_
    repeat' (first | refine ex_true (by first | decide | omega | assumption | (with_reducible exact rfl)) ?_ | refine ex_false (by first | decide | omega | assumption | exact (fun h => h rfl)) ?_ | refine ex_dec (fun _ => ?_) (fun _ => ?_) | refine ex_u8 _ rfl (by omega) (by omega) ?_ | refine ex_i64 _ rfl (by omega) (by omega) ?_ | refine ex_u64 _ rfl (by omega) (by omega) ?_ | refine and_mk (by first | omega | (with_reducible rfl) | (show drawOk _ _ _ = true; kernel_rfl)) ?_ | refine and_mk ⟨_, rfl⟩ ?_ | refine ex_is _ (List.length_map _) ?_ | refine ex_is _ List.length_nil ?_ | fail "no step")
    refine ex_app (q) (1) 1000 (by first | rfl | (simp; done) | (simp; omega)) (by first | rfl | (simp; done) | (simp; omega)) rfl (by omega) ?_
    refine ex_is _ hap ?_
    repeat' (first | refine ex_i64 ((q + 1 : Nat) : Int) (by omega) (by omega) (by omega) ?_ | refine ex_u64 ((q + 1 : Nat) : Int) (by omega) (by omega) (by omega) ?_ | refine ex_u8 ((q + 1 : Nat) : Int) (by omega) (by omega) (by omega) ?_ | refine ex_true (by first | decide | omega | assumption | (with_reducible exact rfl)) ?_ | refine ex_false (by first | decide | omega | assumption | exact (fun h => h rfl)) ?_ | refine ex_dec (fun _ => ?_) (fun _ => ?_) | refine ex_u8 _ rfl (by omega) (by omega) ?_ | refine ex_i64 _ rfl (by omega) (by omega) ?_ | refine ex_u64 _ rfl (by omega) (by omega) ?_ | refine and_mk (by first | omega | (with_reducible rfl) | (show drawOk _ _ _ = true; kernel_rfl)) ?_ | refine and_mk ⟨_, rfl⟩ ?_ | refine ex_is _ (List.length_map _) ?_ | refine ex_is _ List.length_nil ?_ | fail "no step")
    exact ex_round (q + 1, F.take (q + 1)) ⟨by omega, rfl⟩ (by show _ - _ < _ - _; omega) (SLe.ren [(0, 0), (1, 1), (2, 2), (3, 3), (8, 4), (10, 5)] ⟨⟨rfl, rfl⟩, ⟨rfl, rfl⟩, ⟨rfl, rfl⟩, ⟨rfl, rfl⟩, ⟨rfl, rfl⟩, ⟨rfl, rfl⟩, ⟨rfl, rfl⟩, ⟨rfl, rfl⟩, trivial⟩ ⟨⟨rfl, rfl⟩, ⟨rfl, rfl⟩, ⟨rfl, rfl⟩, ⟨rfl, rfl⟩, ⟨rfl, rfl⟩, ⟨rfl, rfl⟩, trivial⟩ rfl)
  · have hq9 : q = F.length := by omega
    subst hq9
    rw [List.take_length] at hA
    subst hA
    repeat' (first | refine ex_true (by first | decide | omega | assumption | (with_reducible exact rfl)) ?_ | refine ex_false (by first | decide | omega | assumption | exact (fun h => h rfl)) ?_ | refine ex_dec (fun _ => ?_) (fun _ => ?_) | refine ex_u8 _ rfl (by omega) (by omega) ?_ | refine ex_i64 _ rfl (by omega) (by omega) ?_ | refine ex_u64 _ rfl (by omega) (by omega) ?_ | refine and_mk (by first | omega | (with_reducible rfl) | (show drawOk _ _ _ = true; kernel_rfl)) ?_ | refine and_mk ⟨_, rfl⟩ ?_ | refine ex_is _ (List.length_map _) ?_ | refine ex_is _ List.length_nil ?_ | fail "no step")
    refine ex_is ((min 60 l.length : Nat) : Int) (by split <;> omega) ?_
    repeat' (first | refine ex_true (by first | decide | omega | assumption | (with_reducible exact rfl)) ?_ | refine ex_false (by first | decide | omega | assumption | exact (fun h => h rfl)) ?_ | refine ex_dec (fun _ => ?_) (fun _ => ?_) | refine ex_u8 _ rfl (by omega) (by omega) ?_ | refine ex_i64 _ rfl (by omega) (by omega) ?_ | refine ex_u64 _ rfl (by omega) (by omega) ?_ | refine and_mk (by first | omega | (with_reducible rfl) | (show drawOk _ _ _ = true; kernel_rfl)) ?_ | refine and_mk ⟨_, rfl⟩ ?_ | refine ex_is _ (List.length_map _) ?_ | refine ex_is _ List.length_nil ?_ | fail "no step")
    refine ex_is _ hL ?_
    generalize l.take 60 = G at *
    repeat' (first | refine (ex_is _ hLm) ?_ | refine ex_true (by first | decide | omega | assumption | (with_reducible exact rfl)) ?_ | refine ex_false (by first | decide | omega | assumption | exact (fun h => h rfl)) ?_ | refine ex_dec (fun _ => ?_) (fun _ => ?_) | refine ex_u8 _ rfl (by omega) (by omega) ?_ | refine ex_i64 _ rfl (by omega) (by omega) ?_ | refine ex_u64 _ rfl (by omega) (by omega) ?_ | refine and_mk (by first | omega | (with_reducible rfl) | (show drawOk _ _ _ = true; kernel_rfl)) ?_ | refine and_mk ⟨_, rfl⟩ ?_ | refine ex_is _ (List.length_map _) ?_ | refine ex_is _ List.length_nil ?_ | fail "no step")
    refine ex_loop (X := Nat × List IN) (fun ⟨q, B⟩ => ⟨[(4, .o (.c (.ptr 0 0))), (5, .o (.c (.ptr 1 0))), (6, .o (.c (.ptr 2 0))), (7, .o (.c (.ptr 3 0))), (45, .o (c1 (.sl 4 (G.map inD)))), (46, Ti G.length), (47, Ti q)], [(0, .obj [.d dnil, .d dnil]), (1, .obj [.d dnil, .d dnil]), (2, .obj [.row 4, .row 6]), (3, .obj [.row 5, .row 7]), (4, .row 3 TFn (A.map fnD)), (5, .row 3 TF3 (A.map fnD)), (6, .row 4 TIn (B.map inD)), (7, .row 4 TRi (B.map inD))], 8⟩) (fun x => G.length - x.1) (fun ⟨q, B⟩ => q ≤ G.length ∧ B = G.take q) (0, []) ⟨Nat.zero_le _, rfl⟩ (SLe.trans (SLe.of ⟨⟨rfl, rfl, rfl, rfl, rfl, rfl, rfl, trivial⟩, ⟨rfl, rfl, rfl, rfl, rfl, rfl, rfl, rfl, trivial⟩⟩) (SLe.trans (SLe.ownCell 3 1 7 4 TRi rfl rfl rfl rfl rfl rfl) (SLe.ownCell 2 1 6 4 TIn rfl rfl rfl rfl rfl rfl))) ?_
    rintro ⟨q, B⟩ ⟨hq, hB⟩
    refine ex_dec (fun h => ?_) (fun h => ?_)
    · have hql : q < G.length := by omega
      have hc : G[q]? = some G[q] := at_some hql
      have htk : G.take (q + 1) = G.take q ++ [G[q]] := by rw [List.take_add_one, hc]; rfl
      have htl : B.length = q := by rw [hB, List.length_take]; omega
      have hap : B.map inD ++ [inD G[q]] = (G.take (q + 1)).map inD := by rw [htk, List.map_append, hB]; rfl
      generalize G[q] = x at *
      repeat' (first | refine (ex_row q x rfl hc) ?_ | refine ex_true (by first | decide | omega | assumption | (with_reducible exact rfl)) ?_ | refine ex_false (by first | decide | omega | assumption | exact (fun h => h rfl)) ?_ | refine ex_dec (fun _ => ?_) (fun _ => ?_) | refine ex_u8 _ rfl (by omega) (by omega) ?_ | refine ex_i64 _ rfl (by omega) (by omega) ?_ | refine ex_u64 _ rfl (by omega) (by omega) ?_ | refine and_mk (by first | omega | (with_reducible rfl) | (show drawOk _ _ _ = true; kernel_rfl)) ?_ | refine and_mk ⟨_, rfl⟩ ?_ | refine ex_is _ (List.length_map _) ?_ | refine ex_is _ List.length_nil ?_ | fail "no step")
      refine ex_app (q) (1) 1000 (by first | rfl | (simp; done) | (simp; omega)) (by first | rfl | (simp; done) | (simp; omega)) rfl (by omega) ?_
      refine ex_is _ hap ?_
      repeat' (first | refine ex_true (by first | decide | omega | assumption | (with_reducible exact rfl)) ?_ | refine ex_false (by first | decide | omega | assumption | exact (fun h => h rfl)) ?_ | refine ex_dec (fun _ => ?_) (fun _ => ?_) | refine ex_u8 _ rfl (by omega) (by omega) ?_ | refine ex_i64 _ rfl (by omega) (by omega) ?_ | refine ex_u64 _ rfl (by omega) (by omega) ?_ | refine and_mk (by first | omega | (with_reducible rfl) | (show drawOk _ _ _ = true; kernel_rfl)) ?_ | refine and_mk ⟨_, rfl⟩ ?_ | refine ex_is _ (List.length_map _) ?_ | refine ex_is _ List.length_nil ?_ | fail "no step")
      refine ex_app (q) (1) 1000 (by first | rfl | (simp; done) | (simp; omega)) (by first | rfl | (simp; done) | (simp; omega)) rfl (by omega) ?_
      refine ex_is _ hap ?_
      repeat' (first | refine ex_i64 ((q + 1 : Nat) : Int) (by omega) (by omega) (by omega) ?_ | refine ex_u64 ((q + 1 : Nat) : Int) (by omega) (by omega) (by omega) ?_ | refine ex_u8 ((q + 1 : Nat) : Int) (by omega) (by omega) (by omega) ?_ | refine ex_true (by first | decide | omega | assumption | (with_reducible exact rfl)) ?_ | refine ex_false (by first | decide | omega | assumption | exact (fun h => h rfl)) ?_ | refine ex_dec (fun _ => ?_) (fun _ => ?_) | refine ex_u8 _ rfl (by omega) (by omega) ?_ | refine ex_i64 _ rfl (by omega) (by omega) ?_ | refine ex_u64 _ rfl (by omega) (by omega) ?_ | refine and_mk (by first | omega | (with_reducible rfl) | (show drawOk _ _ _ = true; kernel_rfl)) ?_ | refine and_mk ⟨_, rfl⟩ ?_ | refine ex_is _ (List.length_map _) ?_ | refine ex_is _ List.length_nil ?_ | fail "no step")
      exact ex_round (q + 1, G.take (q + 1)) ⟨by omega, rfl⟩ (by show _ - _ < _ - _; omega) (SLe.ren [(0, 0), (1, 1), (2, 2), (3, 3), (4, 4), (5, 5), (10, 6), (12, 7)] ⟨⟨rfl, rfl⟩, ⟨rfl, rfl⟩, ⟨rfl, rfl⟩, ⟨rfl, rfl⟩, ⟨rfl, rfl⟩, ⟨rfl, rfl⟩, ⟨rfl, rfl⟩, trivial⟩ ⟨⟨rfl, rfl⟩, ⟨rfl, rfl⟩, ⟨rfl, rfl⟩, ⟨rfl, rfl⟩, ⟨rfl, rfl⟩, ⟨rfl, rfl⟩, ⟨rfl, rfl⟩, ⟨rfl, rfl⟩, trivial⟩ rfl)
    · have hq9 : q = G.length := by omega
      subst hq9
      rw [List.take_length] at hB
      subst hB
      repeat' (first | refine ex_true (by first | decide | omega | assumption | (with_reducible exact rfl)) ?_ | refine ex_false (by first | decide | omega | assumption | exact (fun h => h rfl)) ?_ | refine ex_dec (fun _ => ?_) (fun _ => ?_) | refine ex_u8 _ rfl (by omega) (by omega) ?_ | refine ex_i64 _ rfl (by omega) (by omega) ?_ | refine ex_u64 _ rfl (by omega) (by omega) ?_ | refine and_mk (by first | omega | (with_reducible rfl) | (show drawOk _ _ _ = true; kernel_rfl)) ?_ | refine and_mk ⟨_, rfl⟩ ?_ | refine ex_is _ (List.length_map _) ?_ | refine ex_is _ List.length_nil ?_ | fail "no step")
      exact TLe.rfl
def wakeS : List UInt8 := [102, 117, 110, 99, 32, 48, 32, 50, 32, 49, 10, 112, 117, 115, 104, 32, 55, 10, 97, 108, 117, 32, 48, 10, 114, 101, 116, 10]
def wakeF : List FN := [⟨0, 2, 1⟩]
def wakeI : List IN := [⟨0, 0, 0, 7⟩, ⟨4, 0, 0, 0⟩, ⟨29, 0, 0, 0⟩]
theorem int1 (d : Nat) (h : d < 10) : Lib.itoa (d : Int) = [UInt8.ofNat (48 + d)] := by
  unfold Lib.itoa
  rw [if_neg (by omega), Int.toNat_natCast, Lib.decDigits_one h]
theorem intF1 (d : Nat) (h : d < 10) : intF [UInt8.ofNat (48 + d)] = some (d : Int) := intF_iff.2 ⟨⟨by omega, by omega⟩, int1 d h⟩
theorem natF7 : natF [55] = some 7 := natF_iff.2 ⟨by decide, Lib.decDigits_one (by decide)⟩
theorem wake_parse : parseV wakeS = .ok (wakeF, wakeI) := by
  have i0 : intF [48] = some 0 := intF1 0 (by decide)
  have i1 : intF [49] = some 1 := intF1 1 (by decide)
  have i2 : intF [50] = some 2 := intF1 2 (by decide)
  have L : linesF wakeS = [[102, 117, 110, 99, 32, 48, 32, 50, 32, 49], [112, 117, 115, 104, 32, 55], [97, 108, 117, 32, 48], [114, 101, 116]] := by decide
  have q1 : putL ([], []) (cutL 32 [102, 117, 110, 99, 32, 48, 32, 50, 32, 49]) = some (wakeF, []) := by
    rw [show cutL 32 [102, 117, 110, 99, 32, 48, 32, 50, 32, 49] = funcS :: [[48], [50], [49]] from by decide, putL_func, show intsF [[48], [50], [49]] = some [0, 2, 1] by simp [intsF, i0, i1, i2]]
    rfl
  have r1 : instrF (cutL 32 [112, 117, 115, 104, 32, 55]) = some ⟨0, 0, 0, 7⟩ := by
    rw [show cutL 32 [112, 117, 115, 104, 32, 55] = [[112, 117, 115, 104], [55]] from by decide]
    unfold instrF
    rw [show findO (([[112, 117, 115, 104], [55]] : List (List UInt8)).headD []) = some 0 from by decide]
    dsimp only
    rw [if_pos (by decide), if_pos rfl, show ([[112, 117, 115, 104], [55]] : List (List UInt8)).getD 1 [] = [55] from rfl, natF7]
    rfl
  have r2 : instrF (cutL 32 [97, 108, 117, 32, 48]) = some ⟨4, 0, 0, 0⟩ := by
    rw [show cutL 32 [97, 108, 117, 32, 48] = [[97, 108, 117], [48]] from by decide]
    unfold instrF
    rw [show findO (([[97, 108, 117], [48]] : List (List UInt8)).headD []) = some 4 from by decide]
    dsimp only
    rw [if_pos (by decide), if_neg (by decide), show ([[97, 108, 117], [48]] : List (List UInt8)).tail = [[48]] from rfl, show intsF [[48]] = some [0] by simp [intsF, i0]]
    rfl
  have r3 : instrF (cutL 32 [114, 101, 116]) = some ⟨29, 0, 0, 0⟩ := by
    rw [show cutL 32 [114, 101, 116] = [[114, 101, 116]] from by decide]
    unfold instrF
    rw [show findO (([[114, 101, 116]] : List (List UInt8)).headD []) = some 29 from by decide]
    dsimp only
    rw [if_pos (by decide), if_neg (by decide)]
    rfl
  unfold parseV
  rw [L, if_pos (by decide), parseL, q1]
  dsimp only
  rw [parseL, putL_code (by decide), r1, Option.map_some]
  dsimp only
  rw [parseL, putL_code (by decide), r2, Option.map_some]
  dsimp only
  rw [parseL, putL_code (by decide), r3, Option.map_some]
  rfl
theorem wake_text : textF wakeF wakeI = wakeS := by
  have e0 : Lib.itoa 0 = [48] := int1 0 (by decide)
  have e1 : Lib.itoa 1 = [49] := int1 1 (by decide)
  have e2 : Lib.itoa 2 = [50] := int1 2 (by decide)
  have e7 : Lib.decDigits 7 = [55] := Lib.decDigits_one (by decide)
  have a : fnF ⟨0, 2, 1⟩ = [102, 117, 110, 99, 32, 48, 32, 50, 32, 49] := by simp [fnF, arg, e0, e1, e2, funcS]
  have b : lineF ⟨0, 0, 0, 7⟩ = [112, 117, 115, 104, 32, 55] := by rw [lineF_named (by decide), if_pos rfl, e7]; decide
  have c : lineF ⟨4, 0, 0, 0⟩ = [97, 108, 117, 32, 48] := by
    rw [lineF_named (by decide), if_neg (by decide), show ([(0 : Int), 0].take (opF 4).2.1) = [0] from by decide, show [(0 : Int)].flatMap arg = 32 :: Lib.itoa 0 by simp [arg], e0]; decide
  have d : lineF ⟨29, 0, 0, 0⟩ = [114, 101, 116] := by
    rw [lineF_named (by decide), if_neg (by decide), show ([(0 : Int), 0].take (opF 29).2.1) = [] from by decide]; decide
  show fnF _ ++ [10] ++ [] ++ (lineF _ ++ [10] ++ (lineF _ ++ [10] ++ (lineF _ ++ [10] ++ []))) = wakeS
  rw [a, b, c, d]
  decide
theorem wakes_c : CallsA Tryd.prog ΓC 12 [] (Tb true) := by
  have hp := Parse_c wakeS (by decide)
  rw [wake_parse] at hp
  have ht := Text_c wakeF wakeI (by decide) (by decide) (by intro f hf; simp [wakeF] at hf; subst hf; exact ⟨⟨by decide, by decide⟩, ⟨by decide, by decide⟩, ⟨by decide, by decide⟩⟩) (by intro f hf; simp [wakeI] at hf; rcases hf with rfl | rfl | rfl <;> exact ⟨⟨by decide, by decide⟩, ⟨by decide, by decide⟩, by decide⟩)
  rw [wake_text] at ht
  have h4 : CallsA Tryd.prog ΓC 8 [c1 (di 4)] (.tup [c1 (di 1), c1 (di 2), c1 (di 1)]) := takes_c 4
  have h21 : CallsA Tryd.prog ΓC 9 [c1 (di 21)] (Tstr (bs [106, 117, 109, 112, 122])) := name_c 21
  have hal := alus_c
  refine fn_rule (C := ⟨Tryd.prog, layF, Tryd.f12.ntmps, ΓC, 0, [], []⟩) layF_ok mixed Tryd.func12 rfl (by kernel_rfl) rfl rfl rfl ?_
  repeat' (first | refine ex_call hal ?_ | refine ex_call h21 ?_ | refine ex_call h4 ?_ | refine ex_call ht ?_ | refine ex_call hp ?_ | refine (ex_row 0 (⟨0, 0, 0, 7⟩ : IN) rfl rfl) ?_ | refine ex_true (by first | decide | omega | assumption | (with_reducible exact rfl)) ?_ | refine ex_false (by first | decide | omega | assumption | exact (fun h => h rfl)) ?_ | refine ex_dec (fun _ => ?_) (fun _ => ?_) | refine ex_u8 _ rfl (by omega) (by omega) ?_ | refine ex_i64 _ rfl (by omega) (by omega) ?_ | refine ex_u64 _ rfl (by omega) (by omega) ?_ | refine and_mk (by first | omega | (with_reducible rfl) | (show drawOk _ _ _ = true; kernel_rfl)) ?_ | refine and_mk ⟨_, rfl⟩ ?_ | refine ex_is _ (List.length_map _) ?_ | refine ex_is _ List.length_nil ?_ | fail "no step")
  exact TLe.rfl
end Go.Proofs.YtblobabhdmigiaaDoor

namespace Go.Proofs.YtblobabhdmigiaaDoor
set_option linter.unusedVariables false
set_option linter.unusedSimpArgs false
open Go.RowKit
set_option maxRecDepth 100000

def retOkK (L : Nat → Option Lay) (rs : List ResultVar) (ns : List Nat) (nx : Nat) (r : TV) (upd : List (Nat × Blk)) (new : List Blk) (st : St) : Prop :=
  match rs.map (resC L st) with
  | some (.o (.c (.row k))) :: l => match eatT (findL st.mem) l, subMem (findL st.mem) ns, subMem (findL st.mem) [k] with
    | some (y :: ys, ks), some u, some n => (nodupB [k] && disj ks [k] && (ks.all fun k => Nat.ble nx k) && ([k].all fun k => Nat.ble nx k) && closB nx [k] u && closB nx [k] n) = true ∧ TLe (.tup (.c (.row nx) :: y :: ys)) r ∧ renM (expN nx [k]) u = upd ∧ (n.map fun p => p.2.ren (expN nx [k])) = new
    | _, _, _ => False
  | _ => False
def fnQK (L : Nat → Option Lay) (rs : List ResultVar) (ns : List Nat) (nx : Nat) (r : TV) (upd : List (Nat × Blk)) (new : List Blk) : Exit → St → Prop
  | .normal, st | .ret, st => retOkK L rs ns nx r upd new st
  | _, _ => False
theorem results_okK {P : Program} {L : Nat → Option Lay} (hL : LOk P L) {E : Env} {ι : Nat → Value} {S : Nat → Prop} {st : St} {a : Act} {w : World} (I : Inv E ι S (findL st.tm) (findL st.mem) a w) {fn : Func} {k0 : Nat} {l : List (Option TV)} {y : T1} {ys : List T1} {ks : List Nat}
    (hl : fn.results.toList.map (resC L st) = some (.o (.c (.row k0))) :: l) (hy : eatT (findL st.mem) l = some (y :: ys, ks)) : ∃ v, (results fn a.tmps).run P w = .ok v w ∧ (∀ k ∈ ks, ∃ size e rows, findL st.mem k = some (.row size e rows) ∧ BlkOk ι S w k (.row size e rows)) ∧ ∀ (ι' : Nat → Value) (k1 : Nat), ι' k1 = ι k0 → V ι' (giveUp ι S ks) w (.tup (.c (.row k1) :: y :: ys)) v := by
  have hone : ∀ rv tv, resC L st rv = some tv → ∃ v, (resF a.tmps rv).run P w = .ok v w ∧ V ι S w tv v := fun rv tv hrv => by
    cases rv with
    | tmp t => exact ⟨_, rfl, I.tms t tv hrv⟩
    | cell b t =>
      simp only [resC] at hrv
      split at hrv
      · rename_i l k off hl hb
        split at hrv
        · rename_i cells tg hk
          split at hrv
          · rename_i hle
            obtain ⟨bk, hb1, hb2⟩ := I.tms b _ hb
            obtain ⟨b', arr, ty, h3, h4, h5, _⟩ := I.blk k _ hk
            obtain rfl : bk = b' := by rw [hb1] at h3; cases h3; rfl
            have hlen := h5.len
            have hle' := Nat.le_of_ble_eq_true hle
            have hr := run_load_range (P := P) (layOf_ok (hL _ _ hl)) (w := w) (g := bk) (f := off) (us := (arr.toList.drop off).take l.size) (by simp at hlen ⊢; omega) (fun j u hj => by
              obtain ⟨hj1, _⟩ := drop_take_get hj
              rw [cell_of_row w bk (off + j) arr ty.1 (0, 0) h4]
              simpa using hj1)
            rcases V_ofCells hrv ((h5.drop off).take l.size) with ⟨ha, hV⟩ | ⟨ha, u, hu, hV⟩
            · exact ⟨_, by simp only [resF, hb2]; simp [asAddr, hr.1 ha], hV⟩
            · exact ⟨_, by simp only [resF, hb2]; simp [asAddr, hr.2 ha u hu], hV⟩
          · cases hrv
        · cases hrv
      · cases hrv
  have hvals : ∀ (l : List ResultVar) (ys : List T1) (ks : List Nat), eatT (findL st.mem) (l.map (resC L st)) = some (ys, ks) → ∃ vs, All2 (fun rv v => (resF a.tmps rv).run P w = .ok v w) l vs ∧ All2 (fun (a : Option TV) u => ∀ tv, a = some tv → V ι S w tv u) (l.map (resC L st)) vs := fun l => by
    induction l with
    | nil => intro ys ks _; exact ⟨[], .nil, .nil⟩
    | cons rv l ih =>
      intro ys ks h
      simp only [List.map_cons] at h
      cases hrv : resC L st rv with
      | none => rw [hrv] at h; simp [eatT] at h
      | some tv =>
        rw [hrv] at h
        cases tv with
        | no => simp [eatT] at h
        | und => simp [eatT] at h
        | tup l => simp [eatT] at h
        | pan v => simp [eatT] at h
        | o x =>
          simp only [eatT] at h
          split at h
          · rename_i y k1 ys' k2 h1 h2
            obtain ⟨vs, g1, g2⟩ := ih ys' k2 h2
            obtain ⟨v, e1, e2⟩ := hone rv _ hrv
            refine ⟨v :: vs, .cons e1 g1, ?_⟩
            simp only [List.map_cons]
            refine .cons (fun tv htv => ?_) g2
            rw [hrv] at htv; cases htv
            exact e2
          · cases h
  obtain ⟨rv0, rvs, hrs, hr0, hrl⟩ : ∃ rv0 rvs, fn.results.toList = rv0 :: rvs ∧ resC L st rv0 = some (.o (.c (.row k0))) ∧ rvs.map (resC L st) = l := by
    cases hq : fn.results.toList with
    | nil => rw [hq] at hl; cases hl
    | cons rv0 rvs => rw [hq, List.map_cons] at hl; injection hl with h1 h2; exact ⟨rv0, rvs, rfl, h1, h2⟩
  obtain ⟨u0, e0, hu0⟩ := hone rv0 _ hr0
  obtain ⟨vs, g1, g2⟩ := hvals rvs (y :: ys) ks (by rw [hrl]; exact hy)
  have hrows : ∀ k ∈ ks, ∃ size e rows, findL st.mem k = some (.row size e rows) ∧ BlkOk ι S w k (.row size e rows) := fun k hk => by
    obtain ⟨size, e, rows, hm⟩ := eatT_rows hy k hk
    exact ⟨size, e, rows, hm, I.blk k _ hm⟩
  have hres : (results fn a.tmps).run P w = .ok (if h : (u0 :: vs).toArray.size = 1 then (u0 :: vs).toArray[0] else .tuple (u0 :: vs).toArray) w := by
    have h1 := mapM_run _ _ _ (All2.cons e0 g1)
    rw [results_F, Sem.run_bind, Array.mapM_eq_mapM_toList, run_map, hrs, h1]
    rfl
  refine ⟨_, hres, hrows, fun ι' k1 hk1 => ?_⟩
  rw [hrl] at g2
  have hall := eatT_ok (ι' := ι') (S' := giveUp ι S ks) (fun b hb => .inl hb) hy g2 (fun k hk b hb => I.blk k b hb) (fun k hk g hg => .inr ⟨k, hk, hg⟩)
  have hlen : ¬ (u0 :: vs).toArray.size = 1 := by have := hall.len; simp at this ⊢; intro e; rw [e] at this; simp at this
  rw [dif_neg hlen]
  have hu0' : u0 = ι k0 ∧ ∃ o n c, u0 = .slice o n c := hu0
  exact ⟨u0 :: vs, rfl, .cons ⟨hu0'.1.trans hk1.symm, hu0'.2⟩ hall⟩
theorem core_afterK {C : Ctx} {m : List (Nat × Blk)} {upd : List (Nat × Blk)} {new : List Blk} {ι : Nat → Value} {S : Nat → Prop} {w w' : World} {st : St} {a : Act} {dd : List Deferred} {en : Nat} (hmlt : ∀ p ∈ m, p.1 < C.nx0) : ∀ (ι1 : Nat → Value) (S1 : Nat → Prop) (tv : TV) (x : Value) (ks : List Nat) (u n : List (Nat × Blk)) (src : List Nat), Inv ⟨w, fun g => ∃ p ∈ m, p.2.live = true ∧ blkOf (ι p.1) = some g, S, en, C.Γ, ι, C.nx0, dd⟩ ι1 S1 (findL st.tm) (findL st.mem) a w' →
      (subMem (findL st.mem) (m.map (·.1)) = some u ∧ subMem (findL st.mem) src = some n) → (nodupB src && disj ks src && (ks.all fun k => Nat.ble C.nx0 k) && (src.all fun k => Nat.ble C.nx0 k) && closB C.nx0 src u && closB C.nx0 src n) = true → renM (expN C.nx0 src) u = upd → (n.map fun p => p.2.ren (expN C.nx0 src)) = new →
      (∀ k ∈ ks, ∃ size e rows, findL st.mem k = some (.row size e rows) ∧ BlkOk ι1 S1 w' k (.row size e rows)) → (∀ ι' : Nat → Value, (∀ k, (k < C.nx0 ∨ k ∈ src) → ι' (expN C.nx0 src k) = ι1 k) → V ι' (giveUp ι1 S1 ks) w' tv x) → ∃ ι' S', After ι S w C.nx0 ⟨tv, m.map (·.1), upd, new⟩ x ι' S' w' := fun ι1 S1 tv x ks u n src I hex hchk hu hnw hrows hval => by
      simp only [Bool.and_eq_true] at hchk
      obtain ⟨⟨⟨⟨⟨c1, c2⟩, c3⟩, c4⟩, c5⟩, c6⟩ := hchk
      obtain ⟨hu0, hn0⟩ := hex
      obtain ⟨u1, u2⟩ := subMem_ok hu0
      obtain ⟨n1, n2⟩ := subMem_ok hn0
      have hks : ∀ k ∈ ks, C.nx0 ≤ k := fun k hk => Nat.le_of_ble_eq_true (List.all_eq_true.1 c3 k hk)
      have hsrc : ∀ k ∈ src, C.nx0 ≤ k := fun k hk => Nat.le_of_ble_eq_true (List.all_eq_true.1 c4 k hk)
      have hult : ∀ p ∈ u, p.1 < C.nx0 := fun p hp => by
        have : p.1 ∈ m.map (·.1) := by rw [← u1]; exact List.mem_map.2 ⟨p, hp, rfl⟩
        obtain ⟨q, hq, he⟩ := List.mem_map.1 this
        rw [← he]; exact hmlt q hq
      have hexp : ∀ k, k < C.nx0 → expN C.nx0 src k = k := fun k hk => by
        unfold expN
        have : Nat.blt k C.nx0 = true := by simpa [Nat.blt_eq] using hk
        rw [this]
      have hexs : ∀ k, C.nx0 ≤ k → expN C.nx0 src k = C.nx0 + idxN src k := fun k hk => by
        unfold expN
        have : Nat.blt k C.nx0 = false := by
          cases hb : Nat.blt k C.nx0 with
          | false => rfl
          | true => rw [Nat.blt_eq] at hb; omega
        rw [this]
      have hnl : new.length = src.length := by rw [← hnw, List.length_map, ← n1, List.length_map]
      obtain ⟨ι', hι'⟩ : ∃ ι' : Nat → Value, ∀ k, ι' k = if C.nx0 ≤ k ∧ k < C.nx0 + new.length then ι1 (src.getD (k - C.nx0) 0) else ι k := ⟨_, fun _ => rfl⟩
      have hlow : ∀ k, k < C.nx0 → ι' k = ι1 k := fun k hk => by rw [hι', if_neg (by omega), I.ik k hk]
      have hρ : ∀ k, (k < C.nx0 ∨ k ∈ src) → ι' (expN C.nx0 src k) = ι1 k := fun k hk => by
        by_cases hlt : k < C.nx0
        · rw [hexp k hlt]; exact hlow k hlt
        · have hks : k ∈ src := by rcases hk with h | h; exact absurd h hlt; exact h
          obtain ⟨i1, i2⟩ := idxN_at hks
          rw [hexs k (by omega), hι', if_pos (by omega), show C.nx0 + idxN src k - C.nx0 = idxN src k by omega]
          simp [List.getD, i1]
      have hclos : ∀ {l : List (Nat × Blk)}, closB C.nx0 src l = true → ∀ p ∈ l, ∀ k, p.2.men k = true → k < C.nx0 ∨ k ∈ src := fun {l} hl p hp k hk => by
        have := List.all_eq_true.1 (List.all_eq_true.1 hl p hp) k (men_refs hk)
        rcases (by simpa only [Bool.or_eq_true] using this : _ ∨ _) with h | h
        · left; rw [Nat.blt_eq] at h; exact h
        · right
          obtain ⟨k', hk', e⟩ := List.any_eq_true.1 h
          rw [Nat.eq_of_beq_eq_true e]; exact hk'
      have hI := I
      -- a block of what the caller handed in belongs to a name that has been given up, if it isn't that name's own any more
      have hM : ∀ g, (∃ p ∈ m, p.2.live = true ∧ blkOf (ι p.1) = some g) → (∃ k, (k, Blk.dead) ∈ upd ∧ blkOf (ι k) = some g) ∨ ∃ p ∈ u, p.2.live = true ∧ blkOf (ι1 p.1) = some g := fun g ⟨p, hp, hl, hg⟩ => by
        obtain ⟨q, hq, he⟩ : ∃ q ∈ u, q.1 = p.1 := by
          have : p.1 ∈ u.map (·.1) := by rw [u1]; exact List.mem_map.2 ⟨p, hp, rfl⟩
          obtain ⟨q, hq, he⟩ := List.mem_map.1 this
          exact ⟨q, hq, he⟩
        cases hql : q.2.live with
        | true => exact .inr ⟨q, hq, hql, by rw [I.ik q.1 (hult q hq), he]; exact hg⟩
        | false =>
          refine .inl ⟨q.1, ?_, by rw [he]; exact hg⟩
          rw [← hu]
          refine List.mem_map.2 ⟨q, hq, ?_⟩
          rw [hexp q.1 (hult q hq)]
          have : q.2 = .dead := by cases hb : q.2 <;> simp_all [Blk.live]
          rw [this]; rfl
      have hnoS : ∀ p : Nat × Blk, findL st.mem p.1 = some p.2 → p.2.live = true → (p.1 < C.nx0 ∨ p.1 ∈ src) → ∀ g, blkOf (ι1 p.1) = some g → ¬ giveUp ι1 S1 ks g := fun p hp hl hpk g hg hgu => by
        rcases hgu with h | ⟨k, hk, h⟩
        · exact ((I.blk p.1 p.2 hp).own hl hg).1 h
        · obtain ⟨size, e, rows, hmk, _⟩ := hrows k hk
          have := I.dst p.1 k p.2 _ g hp hmk hl rfl hg h
          rcases hpk with hpk | hpk
          · have := hks k hk; omega
          · rw [this] at hpk
            exact disj_spec c2 hk hpk
      have hok : ∀ {l : List (Nat × Blk)}, (∀ p ∈ l, findL st.mem p.1 = some p.2) → closB C.nx0 src l = true → (∀ p ∈ l, p.1 < C.nx0 ∨ p.1 ∈ src) → ∀ p ∈ l, BlkOk ι' (giveUp ι1 S1 ks) w' (expN C.nx0 src p.1) (p.2.ren (expN C.nx0 src)) := fun {l} h1 h2 h3 p hp => by
        refine BlkOk_to (ι := ι1) (fun _ => hρ _ (h3 p hp)) (fun k hk => hρ k (hclos h2 p hp k hk)) ?_
        exact BlkOk.mono (fun _ _ => rfl) (fun b hb => .inl hb) (fun _ => rfl) (fun _ _ => rfl) (fun hl g hg => ⟨rfl, hnoS p (h1 p hp) hl (h3 p hp) g hg⟩) (I.blk p.1 p.2 (h1 p hp))
      have hsn : ∀ p ∈ n, p.1 ∈ src := fun p hp => by rw [← n1]; exact List.mem_map.2 ⟨p, hp, rfl⟩
      have hnew : ∀ i b, new[i]? = some b → ∃ p, n[i]? = some p ∧ p ∈ n ∧ src[i]? = some p.1 ∧ b = p.2.ren (expN C.nx0 src) ∧ ι' (C.nx0 + i) = ι1 p.1 := fun i b hb => by
        rw [← hnw, List.getElem?_map] at hb
        obtain ⟨p, hp, rfl⟩ := Option.map_eq_some_iff.1 hb
        have hsi : src[i]? = some p.1 := by rw [← n1, List.getElem?_map, hp]; rfl
        have hlt := (List.getElem?_eq_some_iff.1 hsi).1
        refine ⟨p, hp, List.mem_of_getElem? hp, hsi, rfl, ?_⟩
        rw [hι', if_pos (by omega), show C.nx0 + i - C.nx0 = i by omega]
        simp [List.getD, hsi]
      have hMg : ∀ (g : Nat) (p : Nat × Blk), findL st.mem p.1 = some p.2 → p.2.live = true → p.1 ∈ src → blkOf (ι1 p.1) = some g → (∃ q ∈ m, q.2.live = true ∧ blkOf (ι q.1) = some g) → ∃ k, (k, Blk.dead) ∈ upd ∧ blkOf (ι k) = some g := fun g p hp hl hps hg hMM => by
        rcases hM g hMM with h | ⟨q, hq, hql, hqg⟩
        · exact h
        · have := I.dst p.1 q.1 p.2 q.2 g hp (u2 q hq) hl hql hg hqg
          have h1 := hsrc _ hps
          have h2 := hult q hq
          omega
      refine ⟨ι', giveUp ι1 S1 ks, hval ι' hρ, fun k hk => (hι' k).trans (if_neg (by simp only at hk; omega)), fun b hb => .inl (I.s0 b hb), fun b hb => ?_, fun b hb => ?_, I.os, I.tape, I.output, I.size, fun b hb hne => I.old b hb fun ⟨p, hp, _, hg⟩ => ?_, fun k b hk => ?_, fun i b hb => ?_, fun i b hb hl g hg => ?_, fun i j b b' g hb hb' hl hl' hg hg' => ?_⟩
      · have fin : (∃ p ∈ m, p.2.live = true ∧ blkOf (ι p.1) = some b) → (∀ p ∈ u, p.2.live = true → blkOf (ι1 p.1) = some b → False) → S b ∨ w.heap.size ≤ b ∨ ∃ k, (k, Blk.dead) ∈ upd ∧ blkOf (ι k) = some b := fun hMM hno => by
          rcases hM b hMM with h | ⟨p, hp, hl, hg⟩
          · exact .inr (.inr h)
          · exact (hno p hp hl hg).elim
        rcases hb with hb | ⟨k, hk, hb⟩
        · rcases I.sg b hb with h | h | h
          · exact .inl h
          · exact .inr (.inl h)
          · exact fin h fun p hp hl hg => ((I.blk p.1 p.2 (u2 p hp)).own hl hg).1 hb
        · obtain ⟨size, e, rows, hmk, _⟩ := hrows k hk
          rcases I.mutb k _ hmk rfl b hb with h | h
          · exact fin h fun p hp hl hg => by
              have h1 := I.dst p.1 k p.2 _ b (u2 p hp) hmk hl rfl hg hb
              have h2 := hks k hk
              have h3 := hult p hp
              omega
          · exact .inr (.inl h)
      · rcases hb with hb | ⟨k, hk, hb⟩
        · exact I.slt b hb
        · obtain ⟨size, e, rows, _, hr⟩ := hrows k hk
          exact (row_lt hr b hb).1
      · refine hne p.1 ?_ hg
        rw [← hu]
        have : p.1 ∈ u.map (·.1) := by rw [u1]; exact List.mem_map.2 ⟨p, hp, rfl⟩
        obtain ⟨q, hq, he⟩ := List.mem_map.1 this
        refine List.mem_map.2 ⟨_, List.mem_map.2 ⟨q, hq, rfl⟩, ?_⟩
        simp only
        rw [hexp q.1 (hult q hq)]
        exact he
      · rw [← hu] at hk
        obtain ⟨p, hp, he⟩ := List.mem_map.1 hk
        cases he
        exact hok u2 c5 (fun p hp => .inl (hult p hp)) p hp
      · obtain ⟨p, h1, h2, h3, rfl, h5⟩ := hnew i b hb
        have := hok n2 c6 (fun p hp => .inr (hsn p hp)) p h2
        have hidx : expN C.nx0 src p.1 = C.nx0 + i := by
          rw [hexs _ (hsrc _ (hsn p h2))]
          obtain ⟨i1, i2⟩ := idxN_at (hsn p h2)
          rw [nodupB_at c1 _ _ _ i1 h3]
        rwa [hidx] at this
      · obtain ⟨p, h1, h2, h3, rfl, h5⟩ := hnew i b hb
        rw [Blk.live_ren] at hl
        rw [h5] at hg
        have hp := n2 p h2
        refine ⟨fun hS => ((I.blk p.1 p.2 hp).own hl hg).1 (I.s0 g hS), ?_⟩
        rcases I.mutb p.1 p.2 hp hl g hg with h | h
        · exact .inr (hMg g p hp hl (hsn p h2) hg h)
        · exact .inl h
      · obtain ⟨p, h1, h2, h3, rfl, h5⟩ := hnew i b hb
        obtain ⟨q, q1, q2, q3, rfl, q5⟩ := hnew j b' hb'
        rw [Blk.live_ren] at hl hl'
        rw [h5] at hg
        rw [q5] at hg'
        have := I.dst p.1 q.1 p.2 q.2 g (n2 p h2) (n2 q q2) hl hl' hg hg'
        rw [← this] at q3
        exact nodupB_at c1 _ _ _ h3 q3
theorem fn_ruleK {C : Ctx} {f : FuncId} {fn : Func} {c : Code} (hL : LOk C.P C.L) (hm : C.P.follows .mixedOrders = true) (hf : C.P.funcs[f]? = some fn) (hb : fn.body = some c) (hname : (fn.name == "runtime.NumGoroutine") = false)
    (hn : fn.ntmps = C.n) {xs : List T1} (hx : Nat.ble xs.length C.n = true) {m : List (Nat × Blk)} (hml : (m.all fun p => Nat.blt p.1 C.nx0) = true) {r : TV} {upd : List (Nat × Blk)} {new : List Blk}
    (h : vc C c ⟨argTm 0 xs, m, C.nx0⟩ (fnQK C.L fn.results.toList (m.map (·.1)) C.nx0 r upd new)) : CallsM C.P C.Γ f m C.nx0 xs r upd new := by
  refine ⟨⟨fn, hf, hname, by rw [hb]; rfl⟩, fun ι S w vs hS hG hblk hdst hvs => ?_⟩
  have hxl := Nat.le_of_ble_eq_true hx
  have hlen := hvs.len
  have hmlt : ∀ p ∈ m, p.1 < C.nx0 := fun p hp => Nat.lt_of_succ_le (Nat.le_of_ble_eq_true (List.all_eq_true.1 hml p hp))
  refine calls_of_wp hf hb ?_
  have hR : RS ⟨w, fun g => ∃ p ∈ m, p.2.live = true ∧ blkOf (ι p.1) = some g, S, C.n, C.Γ, ι, C.nx0, []⟩ ⟨argTm 0 xs, m, C.nx0⟩ { tmps := vs.toArray ++ Array.replicate (fn.ntmps - vs.toArray.size) undef, defers := [] } w := by
    refine ⟨ι, S, rfl, rfl, rfl, Nat.le_refl _, fun _ _ _ => rfl, hS, fun _ h => h, fun _ h => .inl h, fun t tv ht => ?_, fun k b hk => hblk _ (findL_mem hk), fun k b hk hl g hg => .inl ⟨(k, b), findL_mem hk, hl, hg⟩, fun k k' b b' g hk hk' hl hl' hg hg' => hdst _ (findL_mem hk) _ (findL_mem hk') g hl hl' hg hg', rfl, ?_, hG, fun _ _ => rfl⟩
    · obtain ⟨x, rfl, _, hx⟩ := argTm_find xs 0 t tv ht
      rw [Nat.sub_zero] at hx
      obtain ⟨u, hu, hv⟩ := hvs.at_left hx
      have hlt := (List.getElem?_eq_some_iff.1 hu).1
      have : (vs.toArray ++ Array.replicate (fn.ntmps - vs.toArray.size) undef).getD t undef = u := by
        simp [Array.getElem?_append, hlt, hu]
        have h2 := (List.getElem?_eq_some_iff.1 hu).2
        exact h2
      show V ι S w (.o x) _
      dsimp only
      rw [this]
      exact hv
    · simp; omega
  refine Code.wp_mono (fun e a w' hq => ?_) (vc_ok hL ⟨rfl, rfl, rfl⟩ hm c _ _ _ w h hR)
  obtain ⟨st, hR', hq⟩ := hq
  have core := core_afterK (C := C) (m := m) (upd := upd) (new := new) (ι := ι) (S := S) (w := w) (w' := w') (st := st) (a := a) (dd := []) (en := C.n) hmlt
  have key : retOkK C.L fn.results.toList (m.map (·.1)) C.nx0 r upd new st → a.defers = [] ∧ ∃ v, (results fn a.tmps).run C.P w' = .ok v w' ∧ ((∃ x ι' S', Ending.returned v = .returned x ∧ After ι S w C.nx0 ⟨r, m.map (·.1), upd, new⟩ x ι' S' w') ∨ ∃ v0 ι' S', r = .pan v0 ∧ Ending.returned v = .panicked (panE v0) ∧ After ι S w C.nx0 ⟨.und, m.map (·.1), upd, new⟩ undef ι' S' w') := fun hret => by
    obtain ⟨ι1, S1, I⟩ := hR'
    unfold retOkK at hret
    split at hret
    · rename_i k0 l hl
      split at hret
      · rename_i y ys ks u n hy hu0 hn0
        obtain ⟨hchk, hr, hu, hnw⟩ := hret
        obtain ⟨v, hres, hrows, hval⟩ := results_okK hL I hl hy
        have hx0 : expN C.nx0 [k0] k0 = C.nx0 := by
          have h4 : ([k0].all fun k => Nat.ble C.nx0 k) = true := by
            simp only [Bool.and_eq_true] at hchk
            exact hchk.1.1.2
          have h5 := Nat.le_of_ble_eq_true (List.all_eq_true.1 h4 k0 (by simp))
          unfold expN
          have : Nat.blt k0 C.nx0 = false := by
            cases hb : Nat.blt k0 C.nx0 with
            | false => rfl
            | true => rw [Nat.blt_eq] at hb; omega
          rw [this]
          simp [idxN]
        obtain ⟨ι', S', A⟩ := core ι1 S1 r v ks u n [k0] I ⟨hu0, hn0⟩ hchk hu hnw hrows (fun ι' hι => hr _ _ _ _ (hval ι' C.nx0 (by rw [← hx0]; exact hι k0 (.inr (by simp)))))
        exact ⟨I.dn, v, hres, .inl ⟨v, ι', S', rfl, A⟩⟩
      · exact hret.elim
    · exact hret.elim
  cases e with
  | normal => exact key hq
  | ret => exact key hq
  | _ => exact hq.elim
/-- A function of data, where rows among arguments stay rows. -/
theorem CallsA.toM {P : Program} {Γ : Glob} {f : FuncId} {xs : List T1} {r : TV} (h : CallsA P Γ f xs r) (hx : xs.all T1.pure = true) (hr : r.pure = true) (nx : Nat) : CallsM P Γ f [] nx xs r [] [] :=
  ⟨h.1, fun ι S w vs hs hG _ _ hv => (h.2 S w vs hs hG (hv.mono_mem fun a u ha hau => V1.mono (fun _ _ => rfl) (fun _ h => h) (fun k hk => by rw [T1.pure_men (List.all_eq_true.1 hx a ha) k] at hk; cases hk) hau)).mono fun e w' ⟨x, S', he, hb, hm, hg, hlt, hv⟩ =>
    .inl ⟨x, ι, S', he, ⟨V.mono (fun _ _ => rfl) (fun _ h => h) (fun k hk => by rw [TV.pure_men hr k] at hk; cases hk) hv, fun _ _ => rfl, hm, fun b hb => (hg b hb).elim .inl (fun h => .inr (.inl h)), hlt, hb.os, hb.tape, hb.output, hb.size, fun b hb' _ => hb.block b hb', (fun _ _ h => by simp at h), (fun _ _ h => by simp at h), (fun _ _ h => by simp at h), (fun _ _ _ _ _ h => by simp at h)⟩⟩⟩
end Go.Proofs.YtblobabhdmigiaaDoor

namespace Go.Proofs.YtblobabhdmigiaaDoor
set_option linter.unusedVariables false
set_option linter.unusedSimpArgs false
open Go.RowKit
set_option maxRecDepth 100000

def refsC1 : CV → List Nat
  | .ptr k _ | .row k | .rptr k _ _ _ | .mp k | .rsl k _ _ _ => [k]
  | _ => []
def refsT : List T1 → List Nat
  | [] => []
  | .c x :: l => refsC1 x ++ refsT l
  | .g x :: l => x.flatMap refsC1 ++ refsT l
  | .f _ _ x :: l => x.flatMap refsC1 ++ refsT l
theorem men_refsC {x : CV} {k : Nat} (h : x.men k = true) : k ∈ refsC1 x := by
  cases x <;> simp_all [CV.men, refsC1]
theorem men_refs1 {x : T1} {l : List T1} {k : Nat} (hx : x ∈ l) (h : x.men k = true) : k ∈ refsT l := by
  induction l with
  | nil => cases hx
  | cons y l ih =>
    rcases List.mem_cons.1 hx with rfl | hx2
    · cases x with
      | c x => exact List.mem_append_left _ (men_refsC h)
      | g x =>
        obtain ⟨c, hc, hk⟩ := List.any_eq_true.1 h
        exact List.mem_append_left _ (List.mem_flatMap.2 ⟨c, hc, men_refsC hk⟩)
      | f g a x =>
        obtain ⟨c, hc, hk⟩ := List.any_eq_true.1 h
        exact List.mem_append_left _ (List.mem_flatMap.2 ⟨c, hc, men_refsC hk⟩)
    · cases y <;> exact List.mem_append_right _ (ih hx2)
theorem men_refsT {ys : List T1} {k : Nat} (h : (retT ys).men k = true) : k ∈ refsT ys := by
  match ys, h with
  | [y], h => exact men_refs1 (x := y) (by simp) h
  | [], h => cases h
  | y :: z :: ys, h =>
    obtain ⟨x, hx, hk⟩ := List.any_eq_true.1 h
    exact men_refs1 hx hk
def retOkR (L : Nat → Option Lay) (rs : List ResultVar) (ns : List Nat) (nx : Nat) (r : TV) (upd : List (Nat × Blk)) (new : List Blk) (st : St) : Prop :=
  match plainT (rs.map (resC L st)) with
  | some ys => forceNs ((reach (findL st.mem) 60 (ns ++ refsT ys) []).filter fun k => Nat.ble nx k) fun src => match subMem (findL st.mem) ns, subMem (findL st.mem) src with
    | some u, some n => (nodupB src && disj [] src && (([] : List Nat).all fun k => Nat.ble nx k) && (src.all fun k => Nat.ble nx k) && closB nx src u && closB nx src n) = true ∧ ((refsT ys).all fun k => Nat.blt k nx || src.any (Nat.beq k)) = true ∧ TLe ((retT ys).ren (expN nx src)) r ∧ renM (expN nx src) u = upd ∧ (n.map fun p => p.2.ren (expN nx src)) = new
    | _, _ => False
  | none => False
def fnQR (L : Nat → Option Lay) (rs : List ResultVar) (ns : List Nat) (nx : Nat) (r : TV) (upd : List (Nat × Blk)) (new : List Blk) : Exit → St → Prop
  | .normal, st | .ret, st => retOkR L rs ns nx r upd new st
  | .panic ch, st => panIs r ch ∧ retOkP ns nx upd new st
  | _, _ => False
theorem results_okR {P : Program} {L : Nat → Option Lay} (hL : LOk P L) {E : Env} {ι : Nat → Value} {S : Nat → Prop} {st : St} {a : Act} {w : World} (I : Inv E ι S (findL st.tm) (findL st.mem) a w) {fn : Func} {ys : List T1}
    (hy : plainT (fn.results.toList.map (resC L st)) = some ys) : ∃ v, (results fn a.tmps).run P w = .ok v w ∧ V ι S w (retT ys) v := by
  have hone : ∀ rv tv, resC L st rv = some tv → ∃ v, (resF a.tmps rv).run P w = .ok v w ∧ V ι S w tv v := fun rv tv hrv => by
    cases rv with
    | tmp t => exact ⟨_, rfl, I.tms t tv hrv⟩
    | cell b t =>
      simp only [resC] at hrv
      split at hrv
      · rename_i l k off hl hb
        split at hrv
        · rename_i cells tg hk
          split at hrv
          · rename_i hle
            obtain ⟨bk, hb1, hb2⟩ := I.tms b _ hb
            obtain ⟨b', arr, ty, h3, h4, h5, _⟩ := I.blk k _ hk
            obtain rfl : bk = b' := by rw [hb1] at h3; cases h3; rfl
            have hlen := h5.len
            have hle' := Nat.le_of_ble_eq_true hle
            have hr := run_load_range (P := P) (layOf_ok (hL _ _ hl)) (w := w) (g := bk) (f := off) (us := (arr.toList.drop off).take l.size) (by simp at hlen ⊢; omega) (fun j u hj => by
              obtain ⟨hj1, _⟩ := drop_take_get hj
              rw [cell_of_row w bk (off + j) arr ty.1 (0, 0) h4]
              simpa using hj1)
            rcases V_ofCells hrv ((h5.drop off).take l.size) with ⟨ha, hV⟩ | ⟨ha, u, hu, hV⟩
            · exact ⟨_, by simp only [resF, hb2]; simp [asAddr, hr.1 ha], hV⟩
            · exact ⟨_, by simp only [resF, hb2]; simp [asAddr, hr.2 ha u hu], hV⟩
          · cases hrv
        · cases hrv
      · cases hrv
  have hvals : ∀ (l : List ResultVar) (ys : List T1), plainT (l.map (resC L st)) = some ys → ∃ vs, All2 (fun rv v => (resF a.tmps rv).run P w = .ok v w) l vs ∧ All2 (fun (a : Option TV) u => ∀ tv, a = some tv → V ι S w tv u) (l.map (resC L st)) vs := fun l => by
    induction l with
    | nil => intro ys _; exact ⟨[], .nil, .nil⟩
    | cons rv l ih =>
      intro ys h
      simp only [List.map_cons] at h
      cases hrv : resC L st rv with
      | none => rw [hrv] at h; simp [plainT] at h
      | some tv =>
        rw [hrv] at h
        cases tv with
        | no => simp [plainT] at h
        | und => simp [plainT] at h
        | tup l => simp [plainT] at h
        | pan v => simp [plainT] at h
        | o x =>
          simp only [plainT] at h
          obtain ⟨ys', h2, -⟩ := Option.map_eq_some_iff.1 h
          obtain ⟨vs, g1, g2⟩ := ih ys' h2
          obtain ⟨v, e1, e2⟩ := hone rv _ hrv
          refine ⟨v :: vs, .cons e1 g1, ?_⟩
          simp only [List.map_cons]
          refine .cons (fun tv htv => ?_) g2
          rw [hrv] at htv; cases htv
          exact e2
  obtain ⟨vs, g1, g2⟩ := hvals _ ys hy
  have hres : (results fn a.tmps).run P w = .ok (if h : vs.toArray.size = 1 then vs.toArray[0] else .tuple vs.toArray) w := by
    have h1 := mapM_run _ _ _ g1
    rw [results_F, Sem.run_bind, Array.mapM_eq_mapM_toList, run_map, h1]
    rfl
  refine ⟨_, hres, ?_⟩
  have hall := plainT_ok (S' := S) (fun b hb => hb) hy g2
  match ys, vs, hall with
  | [y], vs, hall =>
    obtain ⟨v, rfl, hv⟩ := hall.one_left
    exact hv
  | [], vs, hall =>
    obtain rfl := hall.nil_left
    exact ⟨[], rfl, .nil⟩
  | y :: z :: ys, vs, hall =>
    have : ¬ vs.toArray.size = 1 := by have := hall.len; simp at this ⊢; omega
    rw [dif_neg this]
    exact ⟨vs, rfl, hall⟩
theorem fn_ruleR {C : Ctx} {f : FuncId} {fn : Func} {c : Code} (hL : LOk C.P C.L) (hm : C.P.follows .mixedOrders = true) (hf : C.P.funcs[f]? = some fn) (hb : fn.body = some c) (hname : (fn.name == "runtime.NumGoroutine") = false)
    (hn : fn.ntmps = C.n) {xs : List T1} (hx : Nat.ble xs.length C.n = true) {m : List (Nat × Blk)} (hml : (m.all fun p => Nat.blt p.1 C.nx0) = true) {r : TV} {upd : List (Nat × Blk)} {new : List Blk}
    (h : vc C c ⟨argTm 0 xs, m, C.nx0⟩ (fnQR C.L fn.results.toList (m.map (·.1)) C.nx0 r upd new)) : CallsM C.P C.Γ f m C.nx0 xs r upd new := by
  refine ⟨⟨fn, hf, hname, by rw [hb]; rfl⟩, fun ι S w vs hS hG hblk hdst hvs => ?_⟩
  have hxl := Nat.le_of_ble_eq_true hx
  have hlen := hvs.len
  have hmlt : ∀ p ∈ m, p.1 < C.nx0 := fun p hp => Nat.lt_of_succ_le (Nat.le_of_ble_eq_true (List.all_eq_true.1 hml p hp))
  refine calls_of_wp hf hb ?_
  have hR : RS ⟨w, fun g => ∃ p ∈ m, p.2.live = true ∧ blkOf (ι p.1) = some g, S, C.n, C.Γ, ι, C.nx0, []⟩ ⟨argTm 0 xs, m, C.nx0⟩ { tmps := vs.toArray ++ Array.replicate (fn.ntmps - vs.toArray.size) undef, defers := [] } w := by
    refine ⟨ι, S, rfl, rfl, rfl, Nat.le_refl _, fun _ _ _ => rfl, hS, fun _ h => h, fun _ h => .inl h, fun t tv ht => ?_, fun k b hk => hblk _ (findL_mem hk), fun k b hk hl g hg => .inl ⟨(k, b), findL_mem hk, hl, hg⟩, fun k k' b b' g hk hk' hl hl' hg hg' => hdst _ (findL_mem hk) _ (findL_mem hk') g hl hl' hg hg', rfl, ?_, hG, fun _ _ => rfl⟩
    · obtain ⟨x, rfl, _, hx⟩ := argTm_find xs 0 t tv ht
      rw [Nat.sub_zero] at hx
      obtain ⟨u, hu, hv⟩ := hvs.at_left hx
      have hlt := (List.getElem?_eq_some_iff.1 hu).1
      have : (vs.toArray ++ Array.replicate (fn.ntmps - vs.toArray.size) undef).getD t undef = u := by
        simp [Array.getElem?_append, hlt, hu]
        have h2 := (List.getElem?_eq_some_iff.1 hu).2
        exact h2
      show V ι S w (.o x) _
      dsimp only
      rw [this]
      exact hv
    · simp; omega
  refine Code.wp_mono (fun e a w' hq => ?_) (vc_ok hL ⟨rfl, rfl, rfl⟩ hm c _ _ _ w h hR)
  obtain ⟨st, hR', hq⟩ := hq
  have core := core_after (C := C) (m := m) (upd := upd) (new := new) (ι := ι) (S := S) (w := w) (w' := w') (st := st) (a := a) (dd := []) (en := C.n) hmlt
  have coreK := core_afterK (C := C) (m := m) (upd := upd) (new := new) (ι := ι) (S := S) (w := w) (w' := w') (st := st) (a := a) (dd := []) (en := C.n) hmlt
  have key : retOkR C.L fn.results.toList (m.map (·.1)) C.nx0 r upd new st → a.defers = [] ∧ ∃ v, (results fn a.tmps).run C.P w' = .ok v w' ∧ ((∃ x ι' S', Ending.returned v = .returned x ∧ After ι S w C.nx0 ⟨r, m.map (·.1), upd, new⟩ x ι' S' w') ∨ ∃ v0 ι' S', r = .pan v0 ∧ Ending.returned v = .panicked (panE v0) ∧ After ι S w C.nx0 ⟨.und, m.map (·.1), upd, new⟩ undef ι' S' w') := fun hret => by
    obtain ⟨ι1, S1, I⟩ := hR'
    unfold retOkR at hret
    split at hret
    · rename_i ys hy
      rw [forceNs_eq] at hret
      split at hret
      · rename_i u n hu0 hn0
        obtain ⟨hchk, hnm, hr, hu, hnw⟩ := hret
        obtain ⟨v, hres, hval⟩ := results_okR hL I hy
        obtain ⟨ι', S', A⟩ := coreK ι1 S1 r v [] u n _ I ⟨hu0, hn0⟩ hchk hu hnw (by simp) (fun ι' hι => by
          rw [giveUp_nil]
          refine hr _ _ _ _ ?_
          have h2 : V (fun k => ι' (expN C.nx0 ((reach (findL st.mem) 60 (m.map (·.1) ++ refsT ys) []).filter fun k => Nat.ble C.nx0 k) k)) S1 w' (retT ys) v := V.mono (fun _ _ => rfl) (fun _ h => h) (fun k hk => hι k (by
            have := List.all_eq_true.1 hnm k (men_refsT hk)
            rcases (by simpa only [Bool.or_eq_true] using this : _ ∨ _) with h | h
            · left; rw [Nat.blt_eq] at h; exact h
            · right
              obtain ⟨k', hk', e⟩ := List.any_eq_true.1 h
              rw [Nat.eq_of_beq_eq_true e]; exact hk')) hval
          exact (V_ren (ι := fun k => ι' (expN C.nx0 ((reach (findL st.mem) 60 (m.map (·.1) ++ refsT ys) []).filter fun k => Nat.ble C.nx0 k) k)) (ι' := ι') (fun k => rfl)).2 h2)
        exact ⟨I.dn, v, hres, .inl ⟨v, ι', S', rfl, A⟩⟩
      · exact hret.elim
    · exact hret.elim
  cases e with
  | normal => exact key hq
  | ret => exact key hq
  | panic ch =>
    obtain ⟨⟨v0, hr0, rfl⟩, hret⟩ := hq
    obtain ⟨ι1, S1, I⟩ := hR'
    unfold retOkP at hret
    split at hret
    · rename_i u n src hex
      obtain ⟨hchk, hu, hnw⟩ := hret
      obtain ⟨ι', S', A⟩ := core ι1 S1 .und undef [] u n src I hex hchk hu hnw (by simp) (fun _ => rfl)
      exact ⟨I.dn, .inr ⟨v0, ι', S', hr0, rfl, A⟩⟩
    · exact hret.elim
  | _ => exact hq.elim
end Go.Proofs.YtblobabhdmigiaaDoor

namespace Go.Proofs.YtblobabhdmigiaaDoor
set_option linter.unusedVariables false
set_option linter.unusedSimpArgs false
open Go.RowKit
set_option maxRecDepth 100000

def flatTV : TV → Bool
  | .o (.c (.d (.v _))) => true
  | .tup l => l.all fun x => match x with
    | .c (.d (.v _)) => true
    | _ => false
  | _ => false
theorem flatTV_mono {ι ι' : Nat → Value} {S S' : Nat → Prop} {w : World} {r : TV} {x : Value} (h : flatTV r = true) (hv : V ι S w r x) : V ι' S' w r x := by
  unfold flatTV at h
  split at h
  · rename_i y
    have e := V_v hv
    subst e
    have h' : Imm S w (.v x) x := hv
    cases h' with
    | v h1 => exact V_mk h1
  · rename_i l
    obtain ⟨us, rfl, hall⟩ := hv
    refine ⟨us, rfl, hall.mono_mem fun a u ha hau => ?_⟩
    have h1 := List.all_eq_true.1 h a ha
    split at h1
    · rename_i y
      have h' : Imm S w (.v y) u := hau
      cases h' with
      | v h2 => exact Imm.v h2
    · cases h1
  · cases h
theorem CallsA.lend {P : Program} {Γ : Glob} {f : FuncId} {xs xs' : List T1} {r : TV} {ks : List Nat} (h : CallsA P Γ f xs r) (hr : flatTV r = true) (m : List (Nat × Blk)) (nx : Nat) (hm : ∀ p ∈ m, findL m p.1 = some p.2)
    (he : eatT (findL m) (xs'.map fun x => some (.o x)) = some (xs, ks)) : CallsM P Γ f m nx xs' r m [] :=
  ⟨h.1, fun ι S w vs hs hG hb hd hv => by
    have hrow : ∀ k ∈ ks, ∃ size e rows, BlkOk ι S w k (.row size e rows) := fun k hk => by
      obtain ⟨size, e, rows, hf⟩ := eatT_rows he k hk
      exact ⟨size, e, rows, hb _ (findL_mem hf)⟩
    have hS1 : ∀ b, giveUp ι S ks b → b < w.heap.size := fun b hb => by
      rcases hb with hb | ⟨k, hk, hb⟩
      · exact hs b hb
      · obtain ⟨size, e, rows, hr⟩ := hrow k hk
        exact (row_lt hr b hb).1
    have hargs : All2 (fun (a : Option TV) u => ∀ tv, a = some tv → V ι S w tv u) (xs'.map fun x => some (.o x)) vs := All2.map_left (hv.mono fun a u hau tv htv => by cases htv; exact hau)
    have hall := eatT_ok (ι' := ι0) (S' := giveUp ι S ks) (fun b hb => .inl hb) he hargs (fun k hk b hf => hb _ (findL_mem hf)) (fun k hk g hg => .inr ⟨k, hk, hg⟩)
    refine (h.2 (giveUp ι S ks) w vs hS1 (Γ.mono (fun _ _ => rfl) (fun b hb => .inl hb) hG) hall).mono fun e w' ⟨x, S', he, hbel, hsm, hg, hlt, hv⟩ => .inl ⟨x, ι, S, he, ?_⟩
    refine ⟨flatTV_mono hr hv, fun _ _ => rfl, fun _ h => h, fun _ h => .inl h, fun b hb => Nat.lt_of_lt_of_le (hs b hb) hbel.size, hbel.os, hbel.tape, hbel.output, hbel.size, fun b hb' _ => hbel.block b hb', fun k b hk => ?_, (fun _ _ h => by simp at h), (fun _ _ h => by simp at h), (fun _ _ _ _ _ h => by simp at h)⟩
    refine BlkOk.mono (fun b hb => hbel.block b (hs b hb)) (fun _ h => h) (fun _ => rfl) (fun _ _ => rfl) (fun hl g hg => ?_) (hb _ hk)
    have hB := hb _ hk
    obtain ⟨h1, h2⟩ := hB.sep hl hg
    exact ⟨hbel.block g h1, h2⟩⟩
/-- A contract with objects, met with a first argument that reads as its own. -/
theorem CallsM.args {P : Program} {Γ : Glob} {f : FuncId} {m : List (Nat × Blk)} {nx : Nat} {xs ys : List T1} {r : TV} {upd : List (Nat × Blk)} {new : List Blk} (h : CallsM P Γ f m nx ys r upd new)
    (hx : ∀ (ι : Nat → Value) (S : Nat → Prop) (w : World) (vs : List Value), All2 (V1 ι S w) xs vs → All2 (V1 ι S w) ys vs) : CallsM P Γ f m nx xs r upd new :=
  ⟨h.1, fun ι S w vs hs hG hb hd hv => h.2 ι S w vs hs hG hb hd (hx ι S w vs hv)⟩
theorem CallsM.arg1 {P : Program} {Γ : Glob} {f : FuncId} {m : List (Nat × Blk)} {nx : Nat} {d d' : D} {xs : List T1} {r : TV} {upd : List (Nat × Blk)} {new : List Blk} (h : CallsM P Γ f m nx (c1 d' :: xs) r upd new) (hd : DLe d d') : CallsM P Γ f m nx (c1 d :: xs) r upd new :=
  h.args fun ι S w vs hv => by
    obtain ⟨u, vs, rfl, h1, h2⟩ := hv.cons_left
    exact .cons (hd _ _ _ h1) h2
/-- A struct whose first cell is a nil slice reads as one with a slice without rows. -/
theorem g_nil {ι : Nat → Value} {S : Nat → Prop} {w : World} {s : Nat} {l : List CV} {xs : List T1} {vs : List Value} (h : All2 (V1 ι S w) (.g (.d dnil :: l) :: xs) vs) : All2 (V1 ι S w) (.g (.d (.sl s []) :: l) :: xs) vs := by
  obtain ⟨u, vs, rfl, h1, h2⟩ := h.cons_left
  obtain ⟨us, rfl, h3⟩ := h1
  obtain ⟨a, us, rfl, h4, h5⟩ := h3.cons_left
  exact .cons ⟨a :: us, rfl, .cons (CLe_nil (ι := ι) h4) h5⟩ h2
end Go.Proofs.YtblobabhdmigiaaDoor

namespace Go.Proofs.YtblobabhdmigiaaDoor
set_option linter.unusedVariables false
set_option linter.unusedSimpArgs false
open Go.RowKit
set_option maxRecDepth 100000

theorem codeText_c (fs : List FN) (l : List IN) (hf : fs.length ≤ 9223372036854775807) (hl : l.length ≤ 9223372036854775807) (hfb : ∀ f ∈ fs, FnB f) (hcb : ∀ x ∈ l, InB x) :
    CallsA Tryd.prog ΓC 4 [c1 (.sl 3 (fs.map fnD)), c1 (.sl 4 (l.map inD))] (Tb true) := by
  have hp := (programs_c fs l hf hl).of0 (Γ := ΓC)
  have hw := wakes_c
  have h1 : (fs.take 10).length ≤ 200 := by rw [List.length_take]; omega
  have h2 : (l.take 60).length ≤ 200 := by rw [List.length_take]; omega
  have ht := Text_c (fs.take 10) (l.take 60) h1 h2 (fun f hf => hfb f (List.mem_of_mem_take hf)) (fun x hx => hcb x (List.mem_of_mem_take hx))
  have hr := (rText_c (fs.take 10) (l.take 60) h1 h2 (fun f hf => hfb f (List.mem_of_mem_take hf)) (fun x hx => hcb x (List.mem_of_mem_take hx))).of0 (Γ := ΓC)
  refine fn_rule (C := ⟨Tryd.prog, layF, Tryd.f4.ntmps, ΓC, 0, [], []⟩) layF_ok mixed Tryd.func4 rfl (by kernel_rfl) rfl rfl rfl ?_
  repeat' (first | refine ex_call hr ?_ | refine ex_call ht ?_ | refine ex_call hw ?_ | refine ex_call hp ?_ | refine ex_true (by first | decide | omega | assumption | (with_reducible exact rfl)) ?_ | refine ex_false (by first | decide | omega | assumption | exact (fun h => h rfl)) ?_ | refine ex_dec (fun _ => ?_) (fun _ => ?_) | refine ex_u8 _ rfl (by omega) (by omega) ?_ | refine ex_i64 _ rfl (by omega) (by omega) ?_ | refine ex_u64 _ rfl (by omega) (by omega) ?_ | refine and_mk (by first | omega | (with_reducible rfl) | (show drawOk _ _ _ = true; kernel_rfl)) ?_ | refine and_mk ⟨_, rfl⟩ ?_ | refine ex_is _ (List.length_map _) ?_ | refine ex_is _ List.length_nil ?_ | fail "no step")
  exact TLe.rfl
end Go.Proofs.YtblobabhdmigiaaDoor

namespace Go.Proofs.YtblobabhdmigiaaDoor
set_option linter.unusedVariables false
set_option linter.unusedSimpArgs false
open Go.RowKit
set_option maxRecDepth 100000

def bitsN : Nat → Nat → List Nat
  | 0, _ => []
  | k + 1, a => a % 2 :: bitsN k (a / 2)
def valL : List Nat → Nat
  | [] => 0
  | x :: l => x + 2 * valL l
def BitL (l : List Nat) : Prop := ∀ x ∈ l, x ≤ 1
def plusF : Nat → List Nat → List Nat → List Nat
  | c, [], [] => [c]
  | c, x :: a, [] => (c + x) % 2 :: plusF ((c + x) / 2) a []
  | c, [], y :: b => (c + y) % 2 :: plusF ((c + y) / 2) [] b
  | c, x :: a, y :: b => (c + x + y) % 2 :: plusF ((c + x + y) / 2) a b
theorem bits_len : ∀ k a, (bitsN k a).length = k
  | 0, _ => rfl
  | k + 1, a => by rw [bitsN, List.length_cons, bits_len k]
theorem bits_val : ∀ k a, a < 2 ^ k → valL (bitsN k a) = a
  | 0, a, h => by simp at h; subst h; rfl
  | k + 1, a, h => by
    rw [bitsN, valL, bits_val k (a / 2) (by rw [Nat.pow_succ] at h; omega)]
    omega
theorem bits_bit : ∀ k a, BitL (bitsN k a)
  | 0, _ => fun x h => by simp [bitsN] at h
  | k + 1, a => fun x h => by
    rw [bitsN] at h
    rcases List.mem_cons.1 h with h | h
    · omega
    · exact bits_bit k _ x h
theorem plus_val (c : Nat) (a b : List Nat) : valL (plusF c a b) = c + valL a + valL b := by
  induction c, a, b using plusF.induct with
  | case1 c => simp [plusF, valL]
  | case2 c x a ih => simp only [plusF, valL, ih]; omega
  | case3 c y b ih => simp only [plusF, valL, ih]; omega
  | case4 c x a y b ih => simp only [plusF, valL, ih]; omega
theorem plus_len (c : Nat) (a b : List Nat) : (plusF c a b).length = (if a.length < b.length then b.length else a.length) + 1 := by
  induction c, a, b using plusF.induct with
  | case1 c => simp [plusF]
  | case2 c x a ih => rw [plusF, List.length_cons, ih]; simp
  | case3 c y b ih =>
    rw [plusF, List.length_cons, ih]
    simp only [List.length_nil, List.length_cons]
    rw [if_pos (Nat.succ_pos _)]
    by_cases h : 0 < b.length
    · rw [if_pos h]
    · rw [if_neg h]; omega
  | case4 c x a y b ih => rw [plusF, List.length_cons, ih]; simp only [List.length_cons]; split <;> split <;> omega
theorem BitL.cons {x : Nat} {l : List Nat} (h : BitL (x :: l)) : x ≤ 1 ∧ BitL l := ⟨h x List.mem_cons_self, fun y hy => h y (List.mem_cons_of_mem _ hy)⟩
theorem BitL.mk {x : Nat} {l : List Nat} (h : x ≤ 1) (h2 : BitL l) : BitL (x :: l) := fun y hy => by
  rcases List.mem_cons.1 hy with rfl | hy
  · exact h
  · exact h2 y hy
theorem plus_bit (c : Nat) (a b : List Nat) (hc : c ≤ 1) (ha : BitL a) (hb : BitL b) : BitL (plusF c a b) := by
  induction c, a, b using plusF.induct with
  | case1 c => rw [plusF]; exact BitL.mk hc (fun x h => by cases h)
  | case2 c x a ih => have := ha.cons; rw [plusF]; exact BitL.mk (by omega) (ih (by omega) this.2 hb)
  | case3 c y b ih => have := hb.cons; rw [plusF]; exact BitL.mk (by omega) (ih (by omega) ha this.2)
  | case4 c x a y b ih => have := ha.cons; have h2 := hb.cons; rw [plusF]; exact BitL.mk (by omega) (ih (by omega) this.2 h2.2)
theorem set_mid {α : Type} (l : List α) (x y : α) (r : List α) : (l ++ x :: r).set l.length y = l ++ y :: r := by
  rw [List.set_append_right _ _ (Nat.le_refl _), Nat.sub_self]; rfl
theorem valL_drop {l : List Nat} {j : Nat} {x : Nat} (h : l[j]? = some x) : valL (l.drop j) = x + 2 * valL (l.drop (j + 1)) := by
  obtain ⟨hj, rfl⟩ := List.getElem?_eq_some_iff.1 h
  rw [List.drop_eq_getElem_cons hj, valL]
theorem valL_le (l : List Nat) (j : Nat) : valL (l.drop j) * 2 ^ j ≤ valL l := by
  induction j generalizing l with
  | zero => simp
  | succ j ih =>
    cases l with
    | nil => simp [valL]
    | cons x l =>
      rw [List.drop_succ_cons, valL, Nat.pow_succ, ← Nat.mul_assoc]
      have := ih l
      omega
theorem valL_app : ∀ (a b : List Nat), valL (a ++ b) = valL a + 2 ^ a.length * valL b
  | [], b => by simp [valL]
  | x :: a, b => by
    rw [List.cons_append, valL, valL_app a b, valL, List.length_cons, Nat.pow_succ]
    rw [Nat.mul_add, ← Nat.mul_assoc, Nat.mul_comm 2 (2 ^ a.length), Nat.add_assoc]
theorem valL_lt : ∀ (l : List Nat), BitL l → valL l < 2 ^ l.length
  | [], _ => by simp [valL]
  | x :: l, h => by
    have := valL_lt l h.cons.2
    have := h.cons.1
    rw [valL, List.length_cons, Nat.pow_succ]
    omega

abbrev rN (l : List Nat) : List (List D) := l.map fun (b : Nat) => [di b]
abbrev dN (l : List Nat) : D := .sl 1 (rN l)
theorem rN_len (l : List Nat) : (rN l).length = l.length := List.length_map _
set_option maxHeartbeats 2000000 in
theorem bits_c (a : Nat) (ha : a < 18446744073709551616) : CallsA Tryd.prog Γ0 40 [c1 (du a)] (.o (c1 (dN (bitsN 64 a)))) := by
  obtain ⟨R, hR⟩ : ∃ R, bitsN 64 a = R := ⟨_, rfl⟩
  rw [hR]
  refine fn_rule (C := ⟨Tryd.prog, layF, Tryd.f40.ntmps, Γ0, 0, [], []⟩) layF_ok mixed Tryd.func40 rfl (by kernel_rfl) rfl rfl rfl ?_
  repeat' (first | refine ex_true (by first | decide | omega | assumption | (with_reducible exact rfl)) ?_ | refine ex_false (by first | decide | omega | assumption | exact (fun h => h rfl)) ?_ | refine ex_dec (fun _ => ?_) (fun _ => ?_) | refine ex_u8 _ rfl (by omega) (by omega) ?_ | refine ex_i64 _ rfl (by omega) (by omega) ?_ | refine ex_u64 _ rfl (by omega) (by omega) ?_ | refine and_mk (by first | omega | (with_reducible rfl) | (show drawOk _ _ _ = true; kernel_rfl)) ?_ | refine and_mk ⟨_, rfl⟩ ?_ | refine ex_is _ (List.length_map _) ?_ | refine ex_is _ List.length_nil ?_ | fail "no step")
  refine ⟨by decide, ?_⟩
  refine ex_is (rN (List.replicate 64 0)) (by rfl) ?_
  repeat' (first | refine ex_true (by first | decide | omega | assumption | (with_reducible exact rfl)) ?_ | refine ex_false (by first | decide | omega | assumption | exact (fun h => h rfl)) ?_ | refine ex_dec (fun _ => ?_) (fun _ => ?_) | refine ex_u8 _ rfl (by omega) (by omega) ?_ | refine ex_i64 _ rfl (by omega) (by omega) ?_ | refine ex_u64 _ rfl (by omega) (by omega) ?_ | refine and_mk (by first | omega | (with_reducible rfl) | (show drawOk _ _ _ = true; kernel_rfl)) ?_ | refine and_mk ⟨_, rfl⟩ ?_ | refine ex_is _ (List.length_map _) ?_ | refine ex_is _ List.length_nil ?_ | fail "no step")
  refine ex_loop (X := Nat × Nat × List Nat) (fun ⟨i, b, l⟩ => ⟨[(0, Tu b), (3, .o (.c (.row 0))), (4, Ti i)], [(0, .row 1 3 (rN (l ++ List.replicate (64 - i) 0)))], 1⟩) (fun x => 64 - x.1) (fun ⟨i, b, l⟩ => i ≤ 64 ∧ l.length = i ∧ b < 18446744073709551616 ∧ l ++ bitsN (64 - i) b = R) (0, a, []) ⟨Nat.zero_le _, rfl, ha, hR⟩ (SLe.of ⟨⟨rfl, rfl, rfl, trivial⟩, ⟨rfl, trivial⟩⟩) ?_
  rintro ⟨i, b, l⟩ ⟨hi, hl, hb, he⟩
  refine ex_dec (fun h => ?_) (fun h => ?_)
  · have hi4 : i < 64 := by omega
    obtain ⟨m, hm⟩ : ∃ m, 64 - i = m + 1 := ⟨63 - i, by omega⟩
    rw [hm, bitsN] at he
    rw [hm, List.replicate_succ]
    repeat' (first | refine ex_i64 ((i + 1 : Nat) : Int) (by omega) (by omega) (by omega) ?_ | refine ex_u64 ((i + 1 : Nat) : Int) (by omega) (by omega) (by omega) ?_ | refine ex_u8 ((i + 1 : Nat) : Int) (by omega) (by omega) (by omega) ?_ | refine (ex_is ((b % 2 : Nat) : Int) rfl) ?_ | refine ex_true (by first | decide | omega | assumption | (with_reducible exact rfl)) ?_ | refine ex_false (by first | decide | omega | assumption | exact (fun h => h rfl)) ?_ | refine ex_dec (fun _ => ?_) (fun _ => ?_) | refine ex_u8 _ rfl (by omega) (by omega) ?_ | refine ex_i64 _ rfl (by omega) (by omega) ?_ | refine ex_u64 _ rfl (by omega) (by omega) ?_ | refine and_mk (by first | omega | (with_reducible rfl) | (show drawOk _ _ _ = true; kernel_rfl)) ?_ | refine and_mk ⟨_, rfl⟩ ?_ | refine ex_is _ (List.length_map _) ?_ | refine ex_is _ List.length_nil ?_ | fail "no step")
    refine ⟨by rw [rN_len, List.length_append, List.length_cons]; omega, ?_⟩
    repeat' (first | refine ex_true (by first | decide | omega | assumption | (with_reducible exact rfl)) ?_ | refine ex_false (by first | decide | omega | assumption | exact (fun h => h rfl)) ?_ | refine ex_dec (fun _ => ?_) (fun _ => ?_) | refine ex_u8 _ rfl (by omega) (by omega) ?_ | refine ex_i64 _ rfl (by omega) (by omega) ?_ | refine ex_u64 _ rfl (by omega) (by omega) ?_ | refine and_mk (by first | omega | (with_reducible rfl) | (show drawOk _ _ _ = true; kernel_rfl)) ?_ | refine and_mk ⟨_, rfl⟩ ?_ | refine ex_is _ (List.length_map _) ?_ | refine ex_is _ List.length_nil ?_ | fail "no step")
    refine ⟨[di (0 : Nat)], by rw [Int.toNat_natCast, ← hl]; simp [rN], ?_⟩
    refine ex_is (rN ((l ++ [b % 2]) ++ List.replicate (64 - (i + 1)) 0)) (by rw [show 64 - (i + 1) = m by omega, List.append_assoc, List.singleton_append, ← set_mid l 0 (b % 2), hl]; rw [rN, rN, List.map_set]; rfl) ?_
    repeat' (first | refine ex_i64 ((i + 1 : Nat) : Int) (by omega) (by omega) (by omega) ?_ | refine ex_u64 ((i + 1 : Nat) : Int) (by omega) (by omega) (by omega) ?_ | refine ex_u8 ((i + 1 : Nat) : Int) (by omega) (by omega) (by omega) ?_ | refine (ex_u64 ((b / 2 : Nat) : Int) rfl (by omega) (by omega)) ?_ | refine ex_true (by first | decide | omega | assumption | (with_reducible exact rfl)) ?_ | refine ex_false (by first | decide | omega | assumption | exact (fun h => h rfl)) ?_ | refine ex_dec (fun _ => ?_) (fun _ => ?_) | refine ex_u8 _ rfl (by omega) (by omega) ?_ | refine ex_i64 _ rfl (by omega) (by omega) ?_ | refine ex_u64 _ rfl (by omega) (by omega) ?_ | refine and_mk (by first | omega | (with_reducible rfl) | (show drawOk _ _ _ = true; kernel_rfl)) ?_ | refine and_mk ⟨_, rfl⟩ ?_ | refine ex_is _ (List.length_map _) ?_ | refine ex_is _ List.length_nil ?_ | fail "no step")
    exact ex_round (i + 1, b / 2, l ++ [b % 2]) ⟨by omega, by simp [hl], by omega, by rw [show 64 - (i + 1) = m by omega, List.append_assoc]; exact he⟩ (by show _ - _ < _ - _; omega) (SLe.of ⟨⟨rfl, rfl, rfl, trivial⟩, ⟨rfl, trivial⟩⟩)
  · have hi4 : i = 64 := by omega
    subst hi4
    rw [Nat.sub_self, bitsN, List.append_nil] at he
    subst he
    rw [show l ++ List.replicate (64 - 64) 0 = l from List.append_nil l]
    repeat' (first | refine ex_true (by first | decide | omega | assumption | (with_reducible exact rfl)) ?_ | refine ex_false (by first | decide | omega | assumption | exact (fun h => h rfl)) ?_ | refine ex_dec (fun _ => ?_) (fun _ => ?_) | refine ex_u8 _ rfl (by omega) (by omega) ?_ | refine ex_i64 _ rfl (by omega) (by omega) ?_ | refine ex_u64 _ rfl (by omega) (by omega) ?_ | refine and_mk (by first | omega | (with_reducible rfl) | (show drawOk _ _ _ = true; kernel_rfl)) ?_ | refine and_mk ⟨_, rfl⟩ ?_ | refine ex_is _ (List.length_map _) ?_ | refine ex_is _ List.length_nil ?_ | fail "no step")
    exact TLe.rfl
set_option maxHeartbeats 4000000 in
theorem plus_c (a b : List Nat) (ha : a.length ≤ 1000) (hb : b.length ≤ 1000) (hA : BitL a) (hB : BitL b) : CallsA Tryd.prog Γ0 41 [c1 (dN a), c1 (dN b)] (.o (c1 (dN (plusF 0 a b)))) := by
  have hla := rN_len a
  have hlb := rN_len b
  obtain ⟨n, hn⟩ : ∃ n, (if a.length < b.length then b.length else a.length) = n := ⟨_, rfl⟩
  obtain ⟨R, hR⟩ : ∃ R, plusF 0 a b = R := ⟨_, rfl⟩
  rw [hR]
  have hnn : a.length ≤ n ∧ b.length ≤ n ∧ n ≤ 1000 := by rw [← hn]; split <;> omega
  refine fn_rule (C := ⟨Tryd.prog, layF, Tryd.f41.ntmps, Γ0, 0, [], [4]⟩) layF_ok mixed Tryd.func41 rfl (by kernel_rfl) rfl rfl rfl ?_
  repeat' (first | refine (ex_is _ hlb) ?_ | refine (ex_is _ hla) ?_ | refine ex_true (by first | decide | omega | assumption | (with_reducible exact rfl)) ?_ | refine ex_false (by first | decide | omega | assumption | exact (fun h => h rfl)) ?_ | refine ex_dec (fun _ => ?_) (fun _ => ?_) | refine ex_u8 _ rfl (by omega) (by omega) ?_ | refine ex_i64 _ rfl (by omega) (by omega) ?_ | refine ex_u64 _ rfl (by omega) (by omega) ?_ | refine and_mk (by first | omega | (with_reducible rfl) | (show drawOk _ _ _ = true; kernel_rfl)) ?_ | refine and_mk ⟨_, rfl⟩ ?_ | refine ex_is _ (List.length_map _) ?_ | refine ex_is _ List.length_nil ?_ | fail "no step")
  refine ex_join (X := Unit) (fun _ => ⟨[(0, .o (c1 (dN a))), (1, .o (c1 (dN b))), (5, Ti n)], [], 0⟩) (fun _ => True) ?_ ?_
  · by_cases h : a.length < b.length
    · rw [if_pos h] at hn
      subst hn
      repeat' (first | refine (ex_is _ hlb) ?_ | refine (ex_is _ hla) ?_ | refine ex_true (by first | decide | omega | assumption | (with_reducible exact rfl)) ?_ | refine ex_false (by first | decide | omega | assumption | exact (fun h => h rfl)) ?_ | refine ex_dec (fun _ => ?_) (fun _ => ?_) | refine ex_u8 _ rfl (by omega) (by omega) ?_ | refine ex_i64 _ rfl (by omega) (by omega) ?_ | refine ex_u64 _ rfl (by omega) (by omega) ?_ | refine and_mk (by first | omega | (with_reducible rfl) | (show drawOk _ _ _ = true; kernel_rfl)) ?_ | refine and_mk ⟨_, rfl⟩ ?_ | refine ex_is _ (List.length_map _) ?_ | refine ex_is _ List.length_nil ?_ | fail "no step")
      exact ex_meet () trivial (SLe.of ⟨⟨rfl, rfl, rfl, trivial⟩, trivial⟩)
    · rw [if_neg h] at hn
      subst hn
      repeat' (first | refine (ex_is _ hlb) ?_ | refine (ex_is _ hla) ?_ | refine ex_true (by first | decide | omega | assumption | (with_reducible exact rfl)) ?_ | refine ex_false (by first | decide | omega | assumption | exact (fun h => h rfl)) ?_ | refine ex_dec (fun _ => ?_) (fun _ => ?_) | refine ex_u8 _ rfl (by omega) (by omega) ?_ | refine ex_i64 _ rfl (by omega) (by omega) ?_ | refine ex_u64 _ rfl (by omega) (by omega) ?_ | refine and_mk (by first | omega | (with_reducible rfl) | (show drawOk _ _ _ = true; kernel_rfl)) ?_ | refine and_mk ⟨_, rfl⟩ ?_ | refine ex_is _ (List.length_map _) ?_ | refine ex_is _ List.length_nil ?_ | fail "no step")
      exact ex_meet () trivial (SLe.of ⟨⟨rfl, rfl, rfl, trivial⟩, trivial⟩)
  rintro - -
  repeat' (first | refine ex_i64 ((n + 1 : Nat) : Int) (by omega) (by omega) (by omega) ?_ | refine ex_u64 ((n + 1 : Nat) : Int) (by omega) (by omega) (by omega) ?_ | refine ex_u8 ((n + 1 : Nat) : Int) (by omega) (by omega) (by omega) ?_ | refine ex_true (by first | decide | omega | assumption | (with_reducible exact rfl)) ?_ | refine ex_false (by first | decide | omega | assumption | exact (fun h => h rfl)) ?_ | refine ex_dec (fun _ => ?_) (fun _ => ?_) | refine ex_u8 _ rfl (by omega) (by omega) ?_ | refine ex_i64 _ rfl (by omega) (by omega) ?_ | refine ex_u64 _ rfl (by omega) (by omega) ?_ | refine and_mk (by first | omega | (with_reducible rfl) | (show drawOk _ _ _ = true; kernel_rfl)) ?_ | refine and_mk ⟨_, rfl⟩ ?_ | refine ex_is _ (List.length_map _) ?_ | refine ex_is _ List.length_nil ?_ | fail "no step")
  refine ⟨by show ((n + 1 : Nat) : Int).toNat * (8 + 1) ≤ 140737488355328; omega, ?_⟩
  refine ex_is (rN (0 :: List.replicate n 0)) (by simp [rN]; rfl) ?_
  repeat' (first | refine ex_true (by first | decide | omega | assumption | (with_reducible exact rfl)) ?_ | refine ex_false (by first | decide | omega | assumption | exact (fun h => h rfl)) ?_ | refine ex_dec (fun _ => ?_) (fun _ => ?_) | refine ex_u8 _ rfl (by omega) (by omega) ?_ | refine ex_i64 _ rfl (by omega) (by omega) ?_ | refine ex_u64 _ rfl (by omega) (by omega) ?_ | refine and_mk (by first | omega | (with_reducible rfl) | (show drawOk _ _ _ = true; kernel_rfl)) ?_ | refine and_mk ⟨_, rfl⟩ ?_ | refine ex_is _ (List.length_map _) ?_ | refine ex_is _ List.length_nil ?_ | fail "no step")
  refine ex_loop (X := Nat × Nat × List Nat) (fun ⟨i, c, l⟩ => ⟨[(0, .o (c1 (dN a))), (1, .o (c1 (dN b))), (5, Ti n), (6, .o (.c (.row 0))), (7, Ti i)], [(0, .row 1 3 (rN (l ++ c :: List.replicate (n - i) 0)))], 1⟩) (fun x => n - x.1) (fun ⟨i, c, l⟩ => i ≤ n ∧ l.length = i ∧ c ≤ 1 ∧ l ++ plusF c (a.drop i) (b.drop i) = R) (0, 0, []) ⟨Nat.zero_le _, rfl, Nat.zero_le _, hR⟩ (SLe.of ⟨⟨rfl, rfl, rfl, rfl, rfl, trivial⟩, ⟨rfl, trivial⟩⟩) ?_
  rintro ⟨i, c, l⟩ ⟨hi, hl, hc, he⟩
  refine ex_dec (fun h => ?_) (fun h => ?_)
  · have hin : i < n := by omega
    have hm : n - i = (n - (i + 1)) + 1 := by omega
    have hget : (rN (l ++ c :: List.replicate (n - i) 0))[(i : Int).toNat]? = some [di c] := by rw [Int.toNat_natCast, ← hl]; simp [rN]
    have hlen : ∀ s r, (rN (l ++ s :: r)).length = i + 1 + r.length := fun s r => by rw [rN_len, List.length_append, List.length_cons, hl]; omega
    have hset : ∀ s x r, (rN (l ++ x :: r)).set (i : Int).toNat [di (s : Nat)] = rN (l ++ s :: r) := fun s x r => by rw [Int.toNat_natCast, ← hl, ← set_mid l x s r]; simp [rN]
    have hset2 : ∀ (s t x : Nat) r, (rN (l ++ s :: x :: r)).set ((i + 1 : Nat) : Int).toNat [di (t : Nat)] = rN ((l ++ [s]) ++ t :: r) := fun s t x r => by
      have h3 := set_mid (l ++ [s]) x t r
      rw [List.length_append, List.length_singleton, hl, List.append_assoc, List.singleton_append] at h3
      rw [Int.toNat_natCast, ← h3]; simp [rN]
    have hget2 : ∀ s : Nat, (rN (l ++ s :: 0 :: List.replicate (n - (i + 1)) 0))[((i + 1 : Nat) : Int).toNat]? = some [di (0 : Nat)] := fun s => by
      rw [Int.toNat_natCast, ← hl]; simp [rN]
    have hget1 : (rN (l ++ c :: 0 :: List.replicate (n - (i + 1)) 0))[(i : Int).toNat]? = some [di c] := by rw [Int.toNat_natCast, ← hl]; simp [rN]
    rw [hm, List.replicate_succ] at hget ⊢
    repeat' (first | refine ex_true (by first | decide | omega | assumption | (with_reducible exact rfl)) ?_ | refine ex_false (by first | decide | omega | assumption | exact (fun h => h rfl)) ?_ | refine ex_dec (fun _ => ?_) (fun _ => ?_) | refine ex_u8 _ rfl (by omega) (by omega) ?_ | refine ex_i64 _ rfl (by omega) (by omega) ?_ | refine ex_u64 _ rfl (by omega) (by omega) ?_ | refine and_mk (by first | omega | (with_reducible rfl) | (show drawOk _ _ _ = true; kernel_rfl)) ?_ | refine and_mk ⟨_, rfl⟩ ?_ | refine ex_is _ (List.length_map _) ?_ | refine ex_is _ List.length_nil ?_ | fail "no step")
    refine ⟨by rw [hlen]; omega, ?_⟩
    repeat' (first | refine ex_true (by first | decide | omega | assumption | (with_reducible exact rfl)) ?_ | refine ex_false (by first | decide | omega | assumption | exact (fun h => h rfl)) ?_ | refine ex_dec (fun _ => ?_) (fun _ => ?_) | refine ex_u8 _ rfl (by omega) (by omega) ?_ | refine ex_i64 _ rfl (by omega) (by omega) ?_ | refine ex_u64 _ rfl (by omega) (by omega) ?_ | refine and_mk (by first | omega | (with_reducible rfl) | (show drawOk _ _ _ = true; kernel_rfl)) ?_ | refine and_mk ⟨_, rfl⟩ ?_ | refine ex_is _ (List.length_map _) ?_ | refine ex_is _ List.length_nil ?_ | fail "no step")
    refine ⟨[di c], hget, ?_⟩
    by_cases h1 : i < a.length
    · have hx : a[i]? = some a[i] := at_some h1
      have hx1 := hA a[i] (List.getElem_mem _)
      rw [List.drop_eq_getElem_cons h1] at he
      generalize a[i] = x at *
      by_cases h2 : i < b.length
      · have hy : b[i]? = some b[i] := at_some h2
        have hy1 := hB b[i] (List.getElem_mem _)
        rw [List.drop_eq_getElem_cons h2] at he
        generalize b[i] = y at *
        rw [plusF] at he
        repeat' (first | refine ex_i64 ((i + 1 : Nat) : Int) (by omega) (by omega) (by omega) ?_ | refine ex_u64 ((i + 1 : Nat) : Int) (by omega) (by omega) (by omega) ?_ | refine ex_u8 ((i + 1 : Nat) : Int) (by omega) (by omega) (by omega) ?_ | refine ex_i64 ((c + x + y : Nat) : Int) (by omega) (by omega) (by omega) ?_ | refine ex_u64 ((c + x + y : Nat) : Int) (by omega) (by omega) (by omega) ?_ | refine ex_u8 ((c + x + y : Nat) : Int) (by omega) (by omega) (by omega) ?_ | refine ex_i64 ((c + x : Nat) : Int) (by omega) (by omega) (by omega) ?_ | refine ex_u64 ((c + x : Nat) : Int) (by omega) (by omega) (by omega) ?_ | refine ex_u8 ((c + x : Nat) : Int) (by omega) (by omega) (by omega) ?_ | refine (ex_is (((c + x + y) % 2 : Nat) : Int) rfl) ?_ | refine (ex_row i y rfl hy) ?_ | refine (ex_row i x rfl hx) ?_ | refine (ex_is _ hlb) ?_ | refine (ex_is _ hla) ?_ | refine ex_true (by first | decide | omega | assumption | (with_reducible exact rfl)) ?_ | refine ex_false (by first | decide | omega | assumption | exact (fun h => h rfl)) ?_ | refine ex_dec (fun _ => ?_) (fun _ => ?_) | refine ex_u8 _ rfl (by omega) (by omega) ?_ | refine ex_i64 _ rfl (by omega) (by omega) ?_ | refine ex_u64 _ rfl (by omega) (by omega) ?_ | refine and_mk (by first | omega | (with_reducible rfl) | (show drawOk _ _ _ = true; kernel_rfl)) ?_ | refine and_mk ⟨_, rfl⟩ ?_ | refine ex_is _ (List.length_map _) ?_ | refine ex_is _ List.length_nil ?_ | fail "no step")
        refine ⟨by rw [hlen, List.length_cons]; omega, ?_⟩
        repeat' (first | refine ex_true (by first | decide | omega | assumption | (with_reducible exact rfl)) ?_ | refine ex_false (by first | decide | omega | assumption | exact (fun h => h rfl)) ?_ | refine ex_dec (fun _ => ?_) (fun _ => ?_) | refine ex_u8 _ rfl (by omega) (by omega) ?_ | refine ex_i64 _ rfl (by omega) (by omega) ?_ | refine ex_u64 _ rfl (by omega) (by omega) ?_ | refine and_mk (by first | omega | (with_reducible rfl) | (show drawOk _ _ _ = true; kernel_rfl)) ?_ | refine and_mk ⟨_, rfl⟩ ?_ | refine ex_is _ (List.length_map _) ?_ | refine ex_is _ List.length_nil ?_ | fail "no step")
        refine ⟨[di c], hget1, ?_⟩
        refine ex_is (rN (l ++ (c + x + y) % 2 :: 0 :: List.replicate (n - (i + 1)) 0)) (hset ((c + x + y) % 2) c _) ?_
        repeat' (first | refine ex_i64 ((i + 1 : Nat) : Int) (by omega) (by omega) (by omega) ?_ | refine ex_u64 ((i + 1 : Nat) : Int) (by omega) (by omega) (by omega) ?_ | refine ex_u8 ((i + 1 : Nat) : Int) (by omega) (by omega) (by omega) ?_ | refine (ex_i64 (((c + x + y) / 2 : Nat) : Int) rfl (by omega) (by omega)) ?_ | refine ex_true (by first | decide | omega | assumption | (with_reducible exact rfl)) ?_ | refine ex_false (by first | decide | omega | assumption | exact (fun h => h rfl)) ?_ | refine ex_dec (fun _ => ?_) (fun _ => ?_) | refine ex_u8 _ rfl (by omega) (by omega) ?_ | refine ex_i64 _ rfl (by omega) (by omega) ?_ | refine ex_u64 _ rfl (by omega) (by omega) ?_ | refine and_mk (by first | omega | (with_reducible rfl) | (show drawOk _ _ _ = true; kernel_rfl)) ?_ | refine and_mk ⟨_, rfl⟩ ?_ | refine ex_is _ (List.length_map _) ?_ | refine ex_is _ List.length_nil ?_ | fail "no step")
        refine ⟨by rw [hlen, List.length_cons]; omega, ?_⟩
        repeat' (first | refine ex_true (by first | decide | omega | assumption | (with_reducible exact rfl)) ?_ | refine ex_false (by first | decide | omega | assumption | exact (fun h => h rfl)) ?_ | refine ex_dec (fun _ => ?_) (fun _ => ?_) | refine ex_u8 _ rfl (by omega) (by omega) ?_ | refine ex_i64 _ rfl (by omega) (by omega) ?_ | refine ex_u64 _ rfl (by omega) (by omega) ?_ | refine and_mk (by first | omega | (with_reducible rfl) | (show drawOk _ _ _ = true; kernel_rfl)) ?_ | refine and_mk ⟨_, rfl⟩ ?_ | refine ex_is _ (List.length_map _) ?_ | refine ex_is _ List.length_nil ?_ | fail "no step")
        refine ⟨[di (0 : Nat)], hget2 _, ?_⟩
        refine ex_is (rN ((l ++ [(c + x + y) % 2]) ++ (c + x + y) / 2 :: List.replicate (n - (i + 1)) 0)) (hset2 ((c + x + y) % 2) ((c + x + y) / 2) 0 _) ?_
        repeat' (first | refine ex_i64 ((i + 1 : Nat) : Int) (by omega) (by omega) (by omega) ?_ | refine ex_u64 ((i + 1 : Nat) : Int) (by omega) (by omega) (by omega) ?_ | refine ex_u8 ((i + 1 : Nat) : Int) (by omega) (by omega) (by omega) ?_ | refine ex_true (by first | decide | omega | assumption | (with_reducible exact rfl)) ?_ | refine ex_false (by first | decide | omega | assumption | exact (fun h => h rfl)) ?_ | refine ex_dec (fun _ => ?_) (fun _ => ?_) | refine ex_u8 _ rfl (by omega) (by omega) ?_ | refine ex_i64 _ rfl (by omega) (by omega) ?_ | refine ex_u64 _ rfl (by omega) (by omega) ?_ | refine and_mk (by first | omega | (with_reducible rfl) | (show drawOk _ _ _ = true; kernel_rfl)) ?_ | refine and_mk ⟨_, rfl⟩ ?_ | refine ex_is _ (List.length_map _) ?_ | refine ex_is _ List.length_nil ?_ | fail "no step")
        exact ex_round (i + 1, (c + x + y) / 2, l ++ [(c + x + y) % 2]) ⟨by omega, by simp [hl], by omega, by rw [List.append_assoc]; exact he⟩ (by show _ - _ < _ - _; omega) (SLe.of ⟨⟨rfl, rfl, rfl, rfl, rfl, trivial⟩, ⟨rfl, trivial⟩⟩)
      · rw [List.drop_eq_nil_of_le (show b.length ≤ i by omega), plusF] at he
        repeat' (first | refine ex_i64 ((i + 1 : Nat) : Int) (by omega) (by omega) (by omega) ?_ | refine ex_u64 ((i + 1 : Nat) : Int) (by omega) (by omega) (by omega) ?_ | refine ex_u8 ((i + 1 : Nat) : Int) (by omega) (by omega) (by omega) ?_ | refine ex_i64 ((c + x : Nat) : Int) (by omega) (by omega) (by omega) ?_ | refine ex_u64 ((c + x : Nat) : Int) (by omega) (by omega) (by omega) ?_ | refine ex_u8 ((c + x : Nat) : Int) (by omega) (by omega) (by omega) ?_ | refine (ex_is (((c + x) % 2 : Nat) : Int) rfl) ?_ | refine (ex_row i x rfl hx) ?_ | refine (ex_is _ hlb) ?_ | refine (ex_is _ hla) ?_ | refine ex_true (by first | decide | omega | assumption | (with_reducible exact rfl)) ?_ | refine ex_false (by first | decide | omega | assumption | exact (fun h => h rfl)) ?_ | refine ex_dec (fun _ => ?_) (fun _ => ?_) | refine ex_u8 _ rfl (by omega) (by omega) ?_ | refine ex_i64 _ rfl (by omega) (by omega) ?_ | refine ex_u64 _ rfl (by omega) (by omega) ?_ | refine and_mk (by first | omega | (with_reducible rfl) | (show drawOk _ _ _ = true; kernel_rfl)) ?_ | refine and_mk ⟨_, rfl⟩ ?_ | refine ex_is _ (List.length_map _) ?_ | refine ex_is _ List.length_nil ?_ | fail "no step")
        refine ⟨by rw [hlen, List.length_cons]; omega, ?_⟩
        repeat' (first | refine ex_true (by first | decide | omega | assumption | (with_reducible exact rfl)) ?_ | refine ex_false (by first | decide | omega | assumption | exact (fun h => h rfl)) ?_ | refine ex_dec (fun _ => ?_) (fun _ => ?_) | refine ex_u8 _ rfl (by omega) (by omega) ?_ | refine ex_i64 _ rfl (by omega) (by omega) ?_ | refine ex_u64 _ rfl (by omega) (by omega) ?_ | refine and_mk (by first | omega | (with_reducible rfl) | (show drawOk _ _ _ = true; kernel_rfl)) ?_ | refine and_mk ⟨_, rfl⟩ ?_ | refine ex_is _ (List.length_map _) ?_ | refine ex_is _ List.length_nil ?_ | fail "no step")
        refine ⟨[di c], hget1, ?_⟩
        refine ex_is (rN (l ++ (c + x) % 2 :: 0 :: List.replicate (n - (i + 1)) 0)) (hset ((c + x) % 2) c _) ?_
        repeat' (first | refine ex_i64 ((i + 1 : Nat) : Int) (by omega) (by omega) (by omega) ?_ | refine ex_u64 ((i + 1 : Nat) : Int) (by omega) (by omega) (by omega) ?_ | refine ex_u8 ((i + 1 : Nat) : Int) (by omega) (by omega) (by omega) ?_ | refine (ex_i64 (((c + x) / 2 : Nat) : Int) rfl (by omega) (by omega)) ?_ | refine ex_true (by first | decide | omega | assumption | (with_reducible exact rfl)) ?_ | refine ex_false (by first | decide | omega | assumption | exact (fun h => h rfl)) ?_ | refine ex_dec (fun _ => ?_) (fun _ => ?_) | refine ex_u8 _ rfl (by omega) (by omega) ?_ | refine ex_i64 _ rfl (by omega) (by omega) ?_ | refine ex_u64 _ rfl (by omega) (by omega) ?_ | refine and_mk (by first | omega | (with_reducible rfl) | (show drawOk _ _ _ = true; kernel_rfl)) ?_ | refine and_mk ⟨_, rfl⟩ ?_ | refine ex_is _ (List.length_map _) ?_ | refine ex_is _ List.length_nil ?_ | fail "no step")
        refine ⟨by rw [hlen, List.length_cons]; omega, ?_⟩
        repeat' (first | refine ex_true (by first | decide | omega | assumption | (with_reducible exact rfl)) ?_ | refine ex_false (by first | decide | omega | assumption | exact (fun h => h rfl)) ?_ | refine ex_dec (fun _ => ?_) (fun _ => ?_) | refine ex_u8 _ rfl (by omega) (by omega) ?_ | refine ex_i64 _ rfl (by omega) (by omega) ?_ | refine ex_u64 _ rfl (by omega) (by omega) ?_ | refine and_mk (by first | omega | (with_reducible rfl) | (show drawOk _ _ _ = true; kernel_rfl)) ?_ | refine and_mk ⟨_, rfl⟩ ?_ | refine ex_is _ (List.length_map _) ?_ | refine ex_is _ List.length_nil ?_ | fail "no step")
        refine ⟨[di (0 : Nat)], hget2 _, ?_⟩
        refine ex_is (rN ((l ++ [(c + x) % 2]) ++ (c + x) / 2 :: List.replicate (n - (i + 1)) 0)) (hset2 ((c + x) % 2) ((c + x) / 2) 0 _) ?_
        repeat' (first | refine ex_i64 ((i + 1 : Nat) : Int) (by omega) (by omega) (by omega) ?_ | refine ex_u64 ((i + 1 : Nat) : Int) (by omega) (by omega) (by omega) ?_ | refine ex_u8 ((i + 1 : Nat) : Int) (by omega) (by omega) (by omega) ?_ | refine ex_true (by first | decide | omega | assumption | (with_reducible exact rfl)) ?_ | refine ex_false (by first | decide | omega | assumption | exact (fun h => h rfl)) ?_ | refine ex_dec (fun _ => ?_) (fun _ => ?_) | refine ex_u8 _ rfl (by omega) (by omega) ?_ | refine ex_i64 _ rfl (by omega) (by omega) ?_ | refine ex_u64 _ rfl (by omega) (by omega) ?_ | refine and_mk (by first | omega | (with_reducible rfl) | (show drawOk _ _ _ = true; kernel_rfl)) ?_ | refine and_mk ⟨_, rfl⟩ ?_ | refine ex_is _ (List.length_map _) ?_ | refine ex_is _ List.length_nil ?_ | fail "no step")
        exact ex_round (i + 1, (c + x) / 2, l ++ [(c + x) % 2]) ⟨by omega, by simp [hl], by omega, by rw [List.append_assoc, List.drop_eq_nil_of_le (show b.length ≤ i + 1 by omega)]; exact he⟩ (by show _ - _ < _ - _; omega) (SLe.of ⟨⟨rfl, rfl, rfl, rfl, rfl, trivial⟩, ⟨rfl, trivial⟩⟩)
    · have h2 : i < b.length := by rw [← hn] at hin; split at hin <;> omega
      have hy : b[i]? = some b[i] := at_some h2
      have hy1 := hB b[i] (List.getElem_mem _)
      rw [List.drop_eq_nil_of_le (show a.length ≤ i by omega), List.drop_eq_getElem_cons h2] at he
      generalize b[i] = y at *
      rw [plusF] at he
      repeat' (first | refine ex_i64 ((i + 1 : Nat) : Int) (by omega) (by omega) (by omega) ?_ | refine ex_u64 ((i + 1 : Nat) : Int) (by omega) (by omega) (by omega) ?_ | refine ex_u8 ((i + 1 : Nat) : Int) (by omega) (by omega) (by omega) ?_ | refine ex_i64 ((c + y : Nat) : Int) (by omega) (by omega) (by omega) ?_ | refine ex_u64 ((c + y : Nat) : Int) (by omega) (by omega) (by omega) ?_ | refine ex_u8 ((c + y : Nat) : Int) (by omega) (by omega) (by omega) ?_ | refine (ex_is (((c + y) % 2 : Nat) : Int) rfl) ?_ | refine (ex_row i y rfl hy) ?_ | refine (ex_is _ hlb) ?_ | refine (ex_is _ hla) ?_ | refine ex_true (by first | decide | omega | assumption | (with_reducible exact rfl)) ?_ | refine ex_false (by first | decide | omega | assumption | exact (fun h => h rfl)) ?_ | refine ex_dec (fun _ => ?_) (fun _ => ?_) | refine ex_u8 _ rfl (by omega) (by omega) ?_ | refine ex_i64 _ rfl (by omega) (by omega) ?_ | refine ex_u64 _ rfl (by omega) (by omega) ?_ | refine and_mk (by first | omega | (with_reducible rfl) | (show drawOk _ _ _ = true; kernel_rfl)) ?_ | refine and_mk ⟨_, rfl⟩ ?_ | refine ex_is _ (List.length_map _) ?_ | refine ex_is _ List.length_nil ?_ | fail "no step")
      refine ⟨by rw [hlen, List.length_cons]; omega, ?_⟩
      repeat' (first | refine ex_true (by first | decide | omega | assumption | (with_reducible exact rfl)) ?_ | refine ex_false (by first | decide | omega | assumption | exact (fun h => h rfl)) ?_ | refine ex_dec (fun _ => ?_) (fun _ => ?_) | refine ex_u8 _ rfl (by omega) (by omega) ?_ | refine ex_i64 _ rfl (by omega) (by omega) ?_ | refine ex_u64 _ rfl (by omega) (by omega) ?_ | refine and_mk (by first | omega | (with_reducible rfl) | (show drawOk _ _ _ = true; kernel_rfl)) ?_ | refine and_mk ⟨_, rfl⟩ ?_ | refine ex_is _ (List.length_map _) ?_ | refine ex_is _ List.length_nil ?_ | fail "no step")
      refine ⟨[di c], hget1, ?_⟩
      refine ex_is (rN (l ++ (c + y) % 2 :: 0 :: List.replicate (n - (i + 1)) 0)) (hset ((c + y) % 2) c _) ?_
      repeat' (first | refine ex_i64 ((i + 1 : Nat) : Int) (by omega) (by omega) (by omega) ?_ | refine ex_u64 ((i + 1 : Nat) : Int) (by omega) (by omega) (by omega) ?_ | refine ex_u8 ((i + 1 : Nat) : Int) (by omega) (by omega) (by omega) ?_ | refine (ex_i64 (((c + y) / 2 : Nat) : Int) rfl (by omega) (by omega)) ?_ | refine ex_true (by first | decide | omega | assumption | (with_reducible exact rfl)) ?_ | refine ex_false (by first | decide | omega | assumption | exact (fun h => h rfl)) ?_ | refine ex_dec (fun _ => ?_) (fun _ => ?_) | refine ex_u8 _ rfl (by omega) (by omega) ?_ | refine ex_i64 _ rfl (by omega) (by omega) ?_ | refine ex_u64 _ rfl (by omega) (by omega) ?_ | refine and_mk (by first | omega | (with_reducible rfl) | (show drawOk _ _ _ = true; kernel_rfl)) ?_ | refine and_mk ⟨_, rfl⟩ ?_ | refine ex_is _ (List.length_map _) ?_ | refine ex_is _ List.length_nil ?_ | fail "no step")
      refine ⟨by rw [hlen, List.length_cons]; omega, ?_⟩
      repeat' (first | refine ex_true (by first | decide | omega | assumption | (with_reducible exact rfl)) ?_ | refine ex_false (by first | decide | omega | assumption | exact (fun h => h rfl)) ?_ | refine ex_dec (fun _ => ?_) (fun _ => ?_) | refine ex_u8 _ rfl (by omega) (by omega) ?_ | refine ex_i64 _ rfl (by omega) (by omega) ?_ | refine ex_u64 _ rfl (by omega) (by omega) ?_ | refine and_mk (by first | omega | (with_reducible rfl) | (show drawOk _ _ _ = true; kernel_rfl)) ?_ | refine and_mk ⟨_, rfl⟩ ?_ | refine ex_is _ (List.length_map _) ?_ | refine ex_is _ List.length_nil ?_ | fail "no step")
      refine ⟨[di (0 : Nat)], hget2 _, ?_⟩
      refine ex_is (rN ((l ++ [(c + y) % 2]) ++ (c + y) / 2 :: List.replicate (n - (i + 1)) 0)) (hset2 ((c + y) % 2) ((c + y) / 2) 0 _) ?_
      repeat' (first | refine ex_i64 ((i + 1 : Nat) : Int) (by omega) (by omega) (by omega) ?_ | refine ex_u64 ((i + 1 : Nat) : Int) (by omega) (by omega) (by omega) ?_ | refine ex_u8 ((i + 1 : Nat) : Int) (by omega) (by omega) (by omega) ?_ | refine ex_true (by first | decide | omega | assumption | (with_reducible exact rfl)) ?_ | refine ex_false (by first | decide | omega | assumption | exact (fun h => h rfl)) ?_ | refine ex_dec (fun _ => ?_) (fun _ => ?_) | refine ex_u8 _ rfl (by omega) (by omega) ?_ | refine ex_i64 _ rfl (by omega) (by omega) ?_ | refine ex_u64 _ rfl (by omega) (by omega) ?_ | refine and_mk (by first | omega | (with_reducible rfl) | (show drawOk _ _ _ = true; kernel_rfl)) ?_ | refine and_mk ⟨_, rfl⟩ ?_ | refine ex_is _ (List.length_map _) ?_ | refine ex_is _ List.length_nil ?_ | fail "no step")
      exact ex_round (i + 1, (c + y) / 2, l ++ [(c + y) % 2]) ⟨by omega, by simp [hl], by omega, by rw [List.append_assoc, List.drop_eq_nil_of_le (show a.length ≤ i + 1 by omega)]; exact he⟩ (by show _ - _ < _ - _; omega) (SLe.of ⟨⟨rfl, rfl, rfl, rfl, rfl, trivial⟩, ⟨rfl, trivial⟩⟩)
  · have hin : i = n := by omega
    subst hin
    rw [List.drop_eq_nil_of_le hnn.1, List.drop_eq_nil_of_le hnn.2.1, plusF] at he
    subst he
    rw [Nat.sub_self]
    repeat' (first | refine ex_true (by first | decide | omega | assumption | (with_reducible exact rfl)) ?_ | refine ex_false (by first | decide | omega | assumption | exact (fun h => h rfl)) ?_ | refine ex_dec (fun _ => ?_) (fun _ => ?_) | refine ex_u8 _ rfl (by omega) (by omega) ?_ | refine ex_i64 _ rfl (by omega) (by omega) ?_ | refine ex_u64 _ rfl (by omega) (by omega) ?_ | refine and_mk (by first | omega | (with_reducible rfl) | (show drawOk _ _ _ = true; kernel_rfl)) ?_ | refine and_mk ⟨_, rfl⟩ ?_ | refine ex_is _ (List.length_map _) ?_ | refine ex_is _ List.length_nil ?_ | fail "no step")
    exact TLe.rfl
theorem num_step {n j x : Nat} (hj : j ≤ 63) (hx : x ≤ 1) (h : n * 2 ^ (j + 1) < 18446744073709551616) : (n + n + x) * 2 ^ j < 18446744073709551616 := by
  have e0 : (18446744073709551616 : Nat) = 2 ^ 64 := by decide
  have e : (2 : Nat) ^ 64 = 2 ^ (63 - j) * 2 ^ (j + 1) := by rw [← Nat.pow_add, show 63 - j + (j + 1) = 64 by omega]
  rw [e0, e] at h
  have h2 : n < 2 ^ (63 - j) := Nat.lt_of_mul_lt_mul_right h
  have e2 : (2 : Nat) ^ 64 = (2 ^ (63 - j) * 2) * 2 ^ j := by rw [e, Nat.pow_succ, Nat.mul_assoc, Nat.mul_comm 2]
  rw [e0, e2]
  exact Nat.mul_lt_mul_of_pos_right (by omega) (Nat.two_pow_pos j)
theorem num_zero {n j : Nat} (hj : 63 < j) (h : n * 2 ^ (j + 1) < 18446744073709551616) : n = 0 := by
  rcases n with _ | n
  · rfl
  · exfalso
    have h1 : (2 : Nat) ^ 64 ≤ 2 ^ (j + 1) := Nat.pow_le_pow_right (by omega) (by omega)
    have h2 : 2 ^ (j + 1) ≤ (n + 1) * 2 ^ (j + 1) := Nat.le_mul_of_pos_left _ (by omega)
    have e0 : (18446744073709551616 : Nat) = 2 ^ 64 := by decide
    omega
def numF (l : List Nat) : Nat × Nat := if valL l < 18446744073709551616 then (valL l, 0) else (0, 5)
set_option maxHeartbeats 4000000 in
theorem rnum_c (l : List Nat) (hl : l.length ≤ 100000) (hB : BitL l) : CallsA Tryd.prog Γ0 42 [c1 (dN l)] (.tup [c1 (du (numF l).1), c1 (di (numF l).2)]) := by
  have hll := rN_len l
  refine fn_rule (C := ⟨Tryd.prog, layF, Tryd.f42.ntmps, Γ0, 0, [], []⟩) layF_ok mixed Tryd.func42 rfl (by kernel_rfl) rfl rfl rfl ?_
  repeat' (first | refine (ex_is _ hll) ?_ | refine ex_true (by first | decide | omega | assumption | (with_reducible exact rfl)) ?_ | refine ex_false (by first | decide | omega | assumption | exact (fun h => h rfl)) ?_ | refine ex_dec (fun _ => ?_) (fun _ => ?_) | refine ex_u8 _ rfl (by omega) (by omega) ?_ | refine ex_i64 _ rfl (by omega) (by omega) ?_ | refine ex_u64 _ rfl (by omega) (by omega) ?_ | refine and_mk (by first | omega | (with_reducible rfl) | (show drawOk _ _ _ = true; kernel_rfl)) ?_ | refine and_mk ⟨_, rfl⟩ ?_ | refine ex_is _ (List.length_map _) ?_ | refine ex_is _ List.length_nil ?_ | fail "no step")
  refine ex_loop (X := Nat × Nat × Int) (fun ⟨k, n, z⟩ => ⟨[(0, .o (c1 (dN l))), (4, Tu n), (5, Ti z)], [], 0⟩) (fun x => x.1) (fun ⟨k, n, z⟩ => z = (k : Int) - 1 ∧ k ≤ l.length ∧ n = valL (l.drop k) ∧ n * 2 ^ k < 18446744073709551616) (l.length, 0, (l.length : Int) - 1) ⟨rfl, Nat.le_refl _, by rw [List.drop_length]; rfl, by omega⟩ (SLe.of ⟨⟨rfl, rfl, rfl, trivial⟩, trivial⟩) ?_
  rintro ⟨k, n, z⟩ ⟨hz, hk, hn, hnb⟩
  rcases k with _ | j
  · have hF : numF l = (n, 0) := by
      unfold numF
      rw [List.drop_zero] at hn
      rw [← hn, if_pos (by omega)]
    rw [hF]
    repeat' (first | refine ex_true (by first | decide | omega | assumption | (with_reducible exact rfl)) ?_ | refine ex_false (by first | decide | omega | assumption | exact (fun h => h rfl)) ?_ | refine ex_dec (fun _ => ?_) (fun _ => ?_) | refine ex_u8 _ rfl (by omega) (by omega) ?_ | refine ex_i64 _ rfl (by omega) (by omega) ?_ | refine ex_u64 _ rfl (by omega) (by omega) ?_ | refine and_mk (by first | omega | (with_reducible rfl) | (show drawOk _ _ _ = true; kernel_rfl)) ?_ | refine and_mk ⟨_, rfl⟩ ?_ | refine ex_is _ (List.length_map _) ?_ | refine ex_is _ List.length_nil ?_ | fail "no step")
    exact TLe.rfl
  · obtain rfl : z = (j : Int) := by omega
    have hj : j < l.length := by omega
    have hx : l[j]? = some l[j] := at_some hj
    have hx1 := hB l[j] (List.getElem_mem _)
    have hd := valL_drop hx
    generalize l[j] = x at *
    rw [← hn] at hd
    by_cases h63 : 63 < j
    · obtain rfl := num_zero h63 hnb
      have hx2 : x = 1 ∨ x = 0 := by omega
      rcases hx2 with rfl | rfl
      · have hF : numF l = (0, 5) := by
          unfold numF
          have h1 := valL_le l j
          have h2 : (2 : Nat) ^ 64 ≤ 2 ^ j := Nat.pow_le_pow_right (by omega) (by omega)
          have e0 : (18446744073709551616 : Nat) = 2 ^ 64 := by decide
          rw [hd] at h1
          rw [if_neg (by omega)]
        rw [hF]
        repeat' (first | refine (ex_row j 1 rfl hx) ?_ | refine ex_true (by first | decide | omega | assumption | (with_reducible exact rfl)) ?_ | refine ex_false (by first | decide | omega | assumption | exact (fun h => h rfl)) ?_ | refine ex_dec (fun _ => ?_) (fun _ => ?_) | refine ex_u8 _ rfl (by omega) (by omega) ?_ | refine ex_i64 _ rfl (by omega) (by omega) ?_ | refine ex_u64 _ rfl (by omega) (by omega) ?_ | refine and_mk (by first | omega | (with_reducible rfl) | (show drawOk _ _ _ = true; kernel_rfl)) ?_ | refine and_mk ⟨_, rfl⟩ ?_ | refine ex_is _ (List.length_map _) ?_ | refine ex_is _ List.length_nil ?_ | fail "no step")
        exact TLe.rfl
      · repeat' (first | refine ex_i64 ((j : Int) - 1) (by omega) (by omega) (by omega) ?_ | refine ex_u64 ((j : Int) - 1) (by omega) (by omega) (by omega) ?_ | refine ex_u8 ((j : Int) - 1) (by omega) (by omega) (by omega) ?_ | refine (ex_row j 0 rfl hx) ?_ | refine ex_true (by first | decide | omega | assumption | (with_reducible exact rfl)) ?_ | refine ex_false (by first | decide | omega | assumption | exact (fun h => h rfl)) ?_ | refine ex_dec (fun _ => ?_) (fun _ => ?_) | refine ex_u8 _ rfl (by omega) (by omega) ?_ | refine ex_i64 _ rfl (by omega) (by omega) ?_ | refine ex_u64 _ rfl (by omega) (by omega) ?_ | refine and_mk (by first | omega | (with_reducible rfl) | (show drawOk _ _ _ = true; kernel_rfl)) ?_ | refine and_mk ⟨_, rfl⟩ ?_ | refine ex_is _ (List.length_map _) ?_ | refine ex_is _ List.length_nil ?_ | fail "no step")
        exact ex_round (j, 0, (j : Int) - 1) ⟨rfl, by omega, by omega, by omega⟩ (by show j < j + 1; omega) (SLe.of ⟨⟨rfl, rfl, rfl, trivial⟩, trivial⟩)
    · have hs := num_step (by omega) hx1 hnb
      have hs2 : n + n + x < 18446744073709551616 := Nat.lt_of_le_of_lt (Nat.le_mul_of_pos_right _ (Nat.two_pow_pos j)) hs
      repeat' (first | refine ex_i64 ((n + n + x : Nat) : Int) (by omega) (by omega) (by omega) ?_ | refine ex_u64 ((n + n + x : Nat) : Int) (by omega) (by omega) (by omega) ?_ | refine ex_u8 ((n + n + x : Nat) : Int) (by omega) (by omega) (by omega) ?_ | refine ex_i64 ((x : Nat) : Int) (by omega) (by omega) (by omega) ?_ | refine ex_u64 ((x : Nat) : Int) (by omega) (by omega) (by omega) ?_ | refine ex_u8 ((x : Nat) : Int) (by omega) (by omega) (by omega) ?_ | refine ex_i64 ((n + n : Nat) : Int) (by omega) (by omega) (by omega) ?_ | refine ex_u64 ((n + n : Nat) : Int) (by omega) (by omega) (by omega) ?_ | refine ex_u8 ((n + n : Nat) : Int) (by omega) (by omega) (by omega) ?_ | refine ex_i64 ((j : Int) - 1) (by omega) (by omega) (by omega) ?_ | refine ex_u64 ((j : Int) - 1) (by omega) (by omega) (by omega) ?_ | refine ex_u8 ((j : Int) - 1) (by omega) (by omega) (by omega) ?_ | refine (ex_row j x rfl hx) ?_ | refine ex_true (by first | decide | omega | assumption | (with_reducible exact rfl)) ?_ | refine ex_false (by first | decide | omega | assumption | exact (fun h => h rfl)) ?_ | refine ex_dec (fun _ => ?_) (fun _ => ?_) | refine ex_u8 _ rfl (by omega) (by omega) ?_ | refine ex_i64 _ rfl (by omega) (by omega) ?_ | refine ex_u64 _ rfl (by omega) (by omega) ?_ | refine and_mk (by first | omega | (with_reducible rfl) | (show drawOk _ _ _ = true; kernel_rfl)) ?_ | refine and_mk ⟨_, rfl⟩ ?_ | refine ex_is _ (List.length_map _) ?_ | refine ex_is _ List.length_nil ?_ | fail "no step")
      exact ex_round (j, n + n + x, (j : Int) - 1) ⟨rfl, by omega, by omega, hs⟩ (by show j < j + 1; omega) (SLe.of ⟨⟨rfl, rfl, rfl, trivial⟩, trivial⟩)
end Go.Proofs.YtblobabhdmigiaaDoor

namespace Go.Proofs.YtblobabhdmigiaaDoor
set_option linter.unusedVariables false
set_option linter.unusedSimpArgs false
open Go.RowKit
set_option maxRecDepth 100000

abbrev N64 : Nat := 18446744073709551616
def numV (v : Nat) : Nat × Nat := if v < 18446744073709551616 then (v, 0) else (0, 5)
theorem numF_val (l : List Nat) : numF l = numV (valL l) := rfl
abbrev opT (p : Nat × Nat) : TV := .tup [c1 (du p.1), c1 (di p.2)]
theorem pow64 : (18446744073709551616 : Nat) = 2 ^ 64 := by decide
theorem radd_c (a b : Nat) (ha : a < 18446744073709551616) (hb : b < 18446744073709551616) : CallsA Tryd.prog Γ0 20 [c1 (du a), c1 (du b)] (opT (numV (a + b))) := by
  have h1 := bits_c a ha
  have h2 := bits_c b hb
  have h3 := plus_c (bitsN 64 a) (bitsN 64 b) (by rw [bits_len]; omega) (by rw [bits_len]; omega) (bits_bit _ _) (bits_bit _ _)
  have h4 := rnum_c (plusF 0 (bitsN 64 a) (bitsN 64 b)) (by rw [plus_len, bits_len, bits_len, if_neg (by omega)]; omega) (plus_bit _ _ _ (by omega) (bits_bit _ _) (bits_bit _ _))
  rw [numF_val, plus_val, bits_val 64 a (by rw [← pow64]; exact ha), bits_val 64 b (by rw [← pow64]; exact hb), Nat.zero_add] at h4
  refine fn_rule (C := ⟨Tryd.prog, layF, Tryd.f20.ntmps, Γ0, 0, [], []⟩) layF_ok mixed Tryd.func20 rfl (by kernel_rfl) rfl rfl rfl ?_
  repeat' (first | refine ex_call h4 ?_ | refine ex_call h3 ?_ | refine ex_call h2 ?_ | refine ex_call h1 ?_ | refine ex_true (by first | decide | omega | assumption | (with_reducible exact rfl)) ?_ | refine ex_false (by first | decide | omega | assumption | exact (fun h => h rfl)) ?_ | refine ex_dec (fun _ => ?_) (fun _ => ?_) | refine ex_u8 _ rfl (by omega) (by omega) ?_ | refine ex_i64 _ rfl (by omega) (by omega) ?_ | refine ex_u64 _ rfl (by omega) (by omega) ?_ | refine and_mk (by first | omega | (with_reducible rfl) | (show drawOk _ _ _ = true; kernel_rfl)) ?_ | refine and_mk ⟨_, rfl⟩ ?_ | refine ex_is _ (List.length_map _) ?_ | refine ex_is _ List.length_nil ?_ | fail "no step")
  exact TLe.rfl
def subV (a b : Nat) : Nat × Nat := if a < b then (0, 5) else (a - b, 0)
theorem rsub_c (a b : Nat) (ha : a < 18446744073709551616) (hb : b < 18446744073709551616) : CallsA Tryd.prog Γ0 21 [c1 (du a), c1 (du b)] (opT (subV a b)) := by
  refine fn_rule (C := ⟨Tryd.prog, layF, Tryd.f21.ntmps, Γ0, 0, [], []⟩) layF_ok mixed Tryd.func21 rfl (by kernel_rfl) rfl rfl rfl ?_
  unfold subV
  by_cases h : a < b
  · rw [if_pos h]
    repeat' (first | refine ex_true (by first | decide | omega | assumption | (with_reducible exact rfl)) ?_ | refine ex_false (by first | decide | omega | assumption | exact (fun h => h rfl)) ?_ | refine ex_dec (fun _ => ?_) (fun _ => ?_) | refine ex_u8 _ rfl (by omega) (by omega) ?_ | refine ex_i64 _ rfl (by omega) (by omega) ?_ | refine ex_u64 _ rfl (by omega) (by omega) ?_ | refine and_mk (by first | omega | (with_reducible rfl) | (show drawOk _ _ _ = true; kernel_rfl)) ?_ | refine and_mk ⟨_, rfl⟩ ?_ | refine ex_is _ (List.length_map _) ?_ | refine ex_is _ List.length_nil ?_ | fail "no step")
    exact TLe.rfl
  · rw [if_neg h]
    repeat' (first | refine ex_i64 ((a - b : Nat) : Int) (by omega) (by omega) (by omega) ?_ | refine ex_u64 ((a - b : Nat) : Int) (by omega) (by omega) (by omega) ?_ | refine ex_u8 ((a - b : Nat) : Int) (by omega) (by omega) (by omega) ?_ | refine ex_true (by first | decide | omega | assumption | (with_reducible exact rfl)) ?_ | refine ex_false (by first | decide | omega | assumption | exact (fun h => h rfl)) ?_ | refine ex_dec (fun _ => ?_) (fun _ => ?_) | refine ex_u8 _ rfl (by omega) (by omega) ?_ | refine ex_i64 _ rfl (by omega) (by omega) ?_ | refine ex_u64 _ rfl (by omega) (by omega) ?_ | refine and_mk (by first | omega | (with_reducible rfl) | (show drawOk _ _ _ = true; kernel_rfl)) ?_ | refine and_mk ⟨_, rfl⟩ ?_ | refine ex_is _ (List.length_map _) ?_ | refine ex_is _ List.length_nil ?_ | fail "no step")
    exact TLe.rfl
theorem rdiv_c (a b : Nat) (ha : a < 18446744073709551616) (hb : b < 18446744073709551616) : CallsA Tryd.prog Γ0 23 [c1 (du a), c1 (du b)] (.tup [c1 (du (a / b : Nat)), c1 (du (if b = 0 then 0 else a % b : Nat)), c1 (di (if b = 0 then 6 else 0))]) := by
  refine fn_rule (C := ⟨Tryd.prog, layF, Tryd.f23.ntmps, Γ0, 0, [], []⟩) layF_ok mixed Tryd.func23 rfl (by kernel_rfl) rfl rfl rfl ?_
  by_cases h : b = 0
  · subst h
    rw [if_pos rfl, if_pos rfl, Nat.div_zero]
    repeat' (first | refine ex_true (by first | decide | omega | assumption | (with_reducible exact rfl)) ?_ | refine ex_false (by first | decide | omega | assumption | exact (fun h => h rfl)) ?_ | refine ex_dec (fun _ => ?_) (fun _ => ?_) | refine ex_u8 _ rfl (by omega) (by omega) ?_ | refine ex_i64 _ rfl (by omega) (by omega) ?_ | refine ex_u64 _ rfl (by omega) (by omega) ?_ | refine and_mk (by first | omega | (with_reducible rfl) | (show drawOk _ _ _ = true; kernel_rfl)) ?_ | refine and_mk ⟨_, rfl⟩ ?_ | refine ex_is _ (List.length_map _) ?_ | refine ex_is _ List.length_nil ?_ | fail "no step")
    exact TLe.rfl
  · rw [if_neg h, if_neg h]
    have h1 := Nat.div_add_mod' a b
    have h2 := Nat.div_le_self a b
    have h4 : (a : Int).tdiv (b : Int) = ((a / b : Nat) : Int) := rfl
    generalize a % b = r at *
    generalize a / b = q at *
    generalize hp : q * b = p at *
    have hp2 : (q : Int) * (b : Int) = (p : Int) := by rw [← hp, Int.natCast_mul]
    repeat' (first | refine ex_i64 ((r : Nat) : Int) (by omega) (by omega) (by omega) ?_ | refine ex_u64 ((r : Nat) : Int) (by omega) (by omega) (by omega) ?_ | refine ex_u8 ((r : Nat) : Int) (by omega) (by omega) (by omega) ?_ | refine (ex_u64 ((p : Nat) : Int) hp2 (by omega) (by omega)) ?_ | refine (ex_u64 ((q : Nat) : Int) h4 (by omega) (by omega)) ?_ | refine ex_true (by first | decide | omega | assumption | (with_reducible exact rfl)) ?_ | refine ex_false (by first | decide | omega | assumption | exact (fun h => h rfl)) ?_ | refine ex_dec (fun _ => ?_) (fun _ => ?_) | refine ex_u8 _ rfl (by omega) (by omega) ?_ | refine ex_i64 _ rfl (by omega) (by omega) ?_ | refine ex_u64 _ rfl (by omega) (by omega) ?_ | refine and_mk (by first | omega | (with_reducible rfl) | (show drawOk _ _ _ = true; kernel_rfl)) ?_ | refine and_mk ⟨_, rfl⟩ ?_ | refine ex_is _ (List.length_map _) ?_ | refine ex_is _ List.length_nil ?_ | fail "no step")
    exact TLe.rfl
def shrV (a n : Nat) : Nat × Nat := if 63 < n then (0, 5) else (a / 2 ^ n, 0)
theorem rshr_c (a n : Nat) (ha : a < 18446744073709551616) (hn : n < 18446744073709551616) : CallsA Tryd.prog Γ0 25 [c1 (du a), c1 (du n)] (opT (shrV a n)) := by
  refine fn_rule (C := ⟨Tryd.prog, layF, Tryd.f25.ntmps, Γ0, 0, [], []⟩) layF_ok mixed Tryd.func25 rfl (by kernel_rfl) rfl rfl rfl ?_
  unfold shrV
  by_cases h : 63 < n
  · rw [if_pos h]
    repeat' (first | refine ex_true (by first | decide | omega | assumption | (with_reducible exact rfl)) ?_ | refine ex_false (by first | decide | omega | assumption | exact (fun h => h rfl)) ?_ | refine ex_dec (fun _ => ?_) (fun _ => ?_) | refine ex_u8 _ rfl (by omega) (by omega) ?_ | refine ex_i64 _ rfl (by omega) (by omega) ?_ | refine ex_u64 _ rfl (by omega) (by omega) ?_ | refine and_mk (by first | omega | (with_reducible rfl) | (show drawOk _ _ _ = true; kernel_rfl)) ?_ | refine and_mk ⟨_, rfl⟩ ?_ | refine ex_is _ (List.length_map _) ?_ | refine ex_is _ List.length_nil ?_ | fail "no step")
    exact TLe.rfl
  · rw [if_neg h]
    repeat' (first | refine ex_true (by first | decide | omega | assumption | (with_reducible exact rfl)) ?_ | refine ex_false (by first | decide | omega | assumption | exact (fun h => h rfl)) ?_ | refine ex_dec (fun _ => ?_) (fun _ => ?_) | refine ex_u8 _ rfl (by omega) (by omega) ?_ | refine ex_i64 _ rfl (by omega) (by omega) ?_ | refine ex_u64 _ rfl (by omega) (by omega) ?_ | refine and_mk (by first | omega | (with_reducible rfl) | (show drawOk _ _ _ = true; kernel_rfl)) ?_ | refine and_mk ⟨_, rfl⟩ ?_ | refine ex_is _ (List.length_map _) ?_ | refine ex_is _ List.length_nil ?_ | fail "no step")
    refine ex_loop (X := Nat × Nat) (fun ⟨i, c⟩ => ⟨[(0, Tu c), (1, Tu n), (6, Tu i)], [], 0⟩) (fun x => n - x.1) (fun ⟨i, c⟩ => i ≤ n ∧ c < 18446744073709551616 ∧ c = a / 2 ^ i) (0, a) ⟨Nat.zero_le _, ha, by simp⟩ (SLe.of ⟨⟨rfl, rfl, rfl, trivial⟩, trivial⟩) ?_
    rintro ⟨i, c⟩ ⟨hi, hc, he⟩
    refine ex_dec (fun h2 => ?_) (fun h2 => ?_)
    · have hin : i < n := by omega
      repeat' (first | refine ex_i64 ((i + 1 : Nat) : Int) (by omega) (by omega) (by omega) ?_ | refine ex_u64 ((i + 1 : Nat) : Int) (by omega) (by omega) (by omega) ?_ | refine ex_u8 ((i + 1 : Nat) : Int) (by omega) (by omega) (by omega) ?_ | refine (ex_u64 ((c / 2 : Nat) : Int) rfl (by omega) (by omega)) ?_ | refine ex_true (by first | decide | omega | assumption | (with_reducible exact rfl)) ?_ | refine ex_false (by first | decide | omega | assumption | exact (fun h => h rfl)) ?_ | refine ex_dec (fun _ => ?_) (fun _ => ?_) | refine ex_u8 _ rfl (by omega) (by omega) ?_ | refine ex_i64 _ rfl (by omega) (by omega) ?_ | refine ex_u64 _ rfl (by omega) (by omega) ?_ | refine and_mk (by first | omega | (with_reducible rfl) | (show drawOk _ _ _ = true; kernel_rfl)) ?_ | refine and_mk ⟨_, rfl⟩ ?_ | refine ex_is _ (List.length_map _) ?_ | refine ex_is _ List.length_nil ?_ | fail "no step")
      exact ex_round (i + 1, c / 2) ⟨by omega, by omega, by rw [he, Nat.div_div_eq_div_mul, Nat.pow_succ]⟩ (by show _ - _ < _ - _; omega) (SLe.of ⟨⟨rfl, rfl, rfl, trivial⟩, trivial⟩)
    · have hin : i = n := by omega
      subst hin
      subst he
      repeat' (first | refine ex_true (by first | decide | omega | assumption | (with_reducible exact rfl)) ?_ | refine ex_false (by first | decide | omega | assumption | exact (fun h => h rfl)) ?_ | refine ex_dec (fun _ => ?_) (fun _ => ?_) | refine ex_u8 _ rfl (by omega) (by omega) ?_ | refine ex_i64 _ rfl (by omega) (by omega) ?_ | refine ex_u64 _ rfl (by omega) (by omega) ?_ | refine and_mk (by first | omega | (with_reducible rfl) | (show drawOk _ _ _ = true; kernel_rfl)) ?_ | refine and_mk ⟨_, rfl⟩ ?_ | refine ex_is _ (List.length_map _) ?_ | refine ex_is _ List.length_nil ?_ | fail "no step")
      exact TLe.rfl
def shlV (a n : Nat) : Nat × Nat := if 63 < n then (0, 5) else numV (a * 2 ^ n)
theorem rshl_c (a n : Nat) (ha : a < 18446744073709551616) (hn : n < 18446744073709551616) : CallsA Tryd.prog Γ0 24 [c1 (du a), c1 (du n)] (opT (shlV a n)) := by
  refine fn_rule (C := ⟨Tryd.prog, layF, Tryd.f24.ntmps, Γ0, 0, [], []⟩) layF_ok mixed Tryd.func24 rfl (by kernel_rfl) rfl rfl rfl ?_
  unfold shlV
  by_cases h : 63 < n
  · rw [if_pos h]
    repeat' (first | refine ex_true (by first | decide | omega | assumption | (with_reducible exact rfl)) ?_ | refine ex_false (by first | decide | omega | assumption | exact (fun h => h rfl)) ?_ | refine ex_dec (fun _ => ?_) (fun _ => ?_) | refine ex_u8 _ rfl (by omega) (by omega) ?_ | refine ex_i64 _ rfl (by omega) (by omega) ?_ | refine ex_u64 _ rfl (by omega) (by omega) ?_ | refine and_mk (by first | omega | (with_reducible rfl) | (show drawOk _ _ _ = true; kernel_rfl)) ?_ | refine and_mk ⟨_, rfl⟩ ?_ | refine ex_is _ (List.length_map _) ?_ | refine ex_is _ List.length_nil ?_ | fail "no step")
    exact TLe.rfl
  · rw [if_neg h]
    repeat' (first | refine ex_true (by first | decide | omega | assumption | (with_reducible exact rfl)) ?_ | refine ex_false (by first | decide | omega | assumption | exact (fun h => h rfl)) ?_ | refine ex_dec (fun _ => ?_) (fun _ => ?_) | refine ex_u8 _ rfl (by omega) (by omega) ?_ | refine ex_i64 _ rfl (by omega) (by omega) ?_ | refine ex_u64 _ rfl (by omega) (by omega) ?_ | refine and_mk (by first | omega | (with_reducible rfl) | (show drawOk _ _ _ = true; kernel_rfl)) ?_ | refine and_mk ⟨_, rfl⟩ ?_ | refine ex_is _ (List.length_map _) ?_ | refine ex_is _ List.length_nil ?_ | fail "no step")
    refine ex_loop (X := Nat × Nat) (fun ⟨i, c⟩ => ⟨[(0, Tu c), (1, Tu n), (6, Tu i)], [], 0⟩) (fun x => n - x.1) (fun ⟨i, c⟩ => i ≤ n ∧ c < 18446744073709551616 ∧ c = a * 2 ^ i) (0, a) ⟨Nat.zero_le _, ha, by simp⟩ (SLe.of ⟨⟨rfl, rfl, rfl, trivial⟩, trivial⟩) ?_
    rintro ⟨i, c⟩ ⟨hi, hc, he⟩
    refine ex_dec (fun h2 => ?_) (fun h2 => ?_)
    · have hin : i < n := by omega
      by_cases hbig : 9223372036854775807 < c
      · have hV : numV (a * 2 ^ n) = (0, 5) := by
          unfold numV
          have h3 : 2 ^ (i + 1) ≤ 2 ^ n := Nat.pow_le_pow_right (by omega) (by omega)
          have h4 := Nat.mul_le_mul_left a h3
          rw [Nat.pow_succ, ← Nat.mul_assoc, ← he] at h4
          rw [if_neg (by omega)]
        rw [hV]
        repeat' (first | refine ex_true (by first | decide | omega | assumption | (with_reducible exact rfl)) ?_ | refine ex_false (by first | decide | omega | assumption | exact (fun h => h rfl)) ?_ | refine ex_dec (fun _ => ?_) (fun _ => ?_) | refine ex_u8 _ rfl (by omega) (by omega) ?_ | refine ex_i64 _ rfl (by omega) (by omega) ?_ | refine ex_u64 _ rfl (by omega) (by omega) ?_ | refine and_mk (by first | omega | (with_reducible rfl) | (show drawOk _ _ _ = true; kernel_rfl)) ?_ | refine and_mk ⟨_, rfl⟩ ?_ | refine ex_is _ (List.length_map _) ?_ | refine ex_is _ List.length_nil ?_ | fail "no step")
        exact TLe.rfl
      · repeat' (first | refine ex_i64 ((i + 1 : Nat) : Int) (by omega) (by omega) (by omega) ?_ | refine ex_u64 ((i + 1 : Nat) : Int) (by omega) (by omega) (by omega) ?_ | refine ex_u8 ((i + 1 : Nat) : Int) (by omega) (by omega) (by omega) ?_ | refine ex_i64 ((c + c : Nat) : Int) (by omega) (by omega) (by omega) ?_ | refine ex_u64 ((c + c : Nat) : Int) (by omega) (by omega) (by omega) ?_ | refine ex_u8 ((c + c : Nat) : Int) (by omega) (by omega) (by omega) ?_ | refine ex_true (by first | decide | omega | assumption | (with_reducible exact rfl)) ?_ | refine ex_false (by first | decide | omega | assumption | exact (fun h => h rfl)) ?_ | refine ex_dec (fun _ => ?_) (fun _ => ?_) | refine ex_u8 _ rfl (by omega) (by omega) ?_ | refine ex_i64 _ rfl (by omega) (by omega) ?_ | refine ex_u64 _ rfl (by omega) (by omega) ?_ | refine and_mk (by first | omega | (with_reducible rfl) | (show drawOk _ _ _ = true; kernel_rfl)) ?_ | refine and_mk ⟨_, rfl⟩ ?_ | refine ex_is _ (List.length_map _) ?_ | refine ex_is _ List.length_nil ?_ | fail "no step")
        exact ex_round (i + 1, c + c) ⟨by omega, by omega, by rw [Nat.pow_succ, ← Nat.mul_assoc, ← he]; omega⟩ (by show _ - _ < _ - _; omega) (SLe.of ⟨⟨rfl, rfl, rfl, trivial⟩, trivial⟩)
    · have hin : i = n := by omega
      subst hin
      have hV : numV (a * 2 ^ i) = (c, 0) := by
        unfold numV
        rw [← he, if_pos hc]
      rw [hV]
      repeat' (first | refine ex_true (by first | decide | omega | assumption | (with_reducible exact rfl)) ?_ | refine ex_false (by first | decide | omega | assumption | exact (fun h => h rfl)) ?_ | refine ex_dec (fun _ => ?_) (fun _ => ?_) | refine ex_u8 _ rfl (by omega) (by omega) ?_ | refine ex_i64 _ rfl (by omega) (by omega) ?_ | refine ex_u64 _ rfl (by omega) (by omega) ?_ | refine and_mk (by first | omega | (with_reducible rfl) | (show drawOk _ _ _ = true; kernel_rfl)) ?_ | refine and_mk ⟨_, rfl⟩ ?_ | refine ex_is _ (List.length_map _) ?_ | refine ex_is _ List.length_nil ?_ | fail "no step")
      exact TLe.rfl
theorem truth_c (b : Bool) : CallsA Tryd.prog Γ0 27 [c1 (db b)] (.o (c1 (du (if b then 1 else 0)))) := by
  refine fn_rule (C := ⟨Tryd.prog, layF, Tryd.f27.ntmps, Γ0, 0, [], []⟩) layF_ok mixed Tryd.func27 rfl (by kernel_rfl) rfl rfl rfl ?_
  cases b
  · repeat' (first | refine ex_true (by first | decide | omega | assumption | (with_reducible exact rfl)) ?_ | refine ex_false (by first | decide | omega | assumption | exact (fun h => h rfl)) ?_ | refine ex_dec (fun _ => ?_) (fun _ => ?_) | refine ex_u8 _ rfl (by omega) (by omega) ?_ | refine ex_i64 _ rfl (by omega) (by omega) ?_ | refine ex_u64 _ rfl (by omega) (by omega) ?_ | refine and_mk (by first | omega | (with_reducible rfl) | (show drawOk _ _ _ = true; kernel_rfl)) ?_ | refine and_mk ⟨_, rfl⟩ ?_ | refine ex_is _ (List.length_map _) ?_ | refine ex_is _ List.length_nil ?_ | fail "no step")
    exact TLe.rfl
  · repeat' (first | refine ex_true (by first | decide | omega | assumption | (with_reducible exact rfl)) ?_ | refine ex_false (by first | decide | omega | assumption | exact (fun h => h rfl)) ?_ | refine ex_dec (fun _ => ?_) (fun _ => ?_) | refine ex_u8 _ rfl (by omega) (by omega) ?_ | refine ex_i64 _ rfl (by omega) (by omega) ?_ | refine ex_u64 _ rfl (by omega) (by omega) ?_ | refine and_mk (by first | omega | (with_reducible rfl) | (show drawOk _ _ _ = true; kernel_rfl)) ?_ | refine and_mk ⟨_, rfl⟩ ?_ | refine ex_is _ (List.length_map _) ?_ | refine ex_is _ List.length_nil ?_ | fail "no step")
    exact TLe.rfl
end Go.Proofs.YtblobabhdmigiaaDoor

namespace Go.Proofs.YtblobabhdmigiaaDoor
set_option linter.unusedVariables false
set_option linter.unusedSimpArgs false
open Go.RowKit
set_option maxRecDepth 100000

def boB (e : Bool) (s : Nat) : Nat := if s = 2 ∨ (e = true ∧ s = 1) then 1 else 0
def boV (e : Bool) : List Nat → List Nat → Nat
  | x :: a, y :: b => boB e (x + y) + 2 * boV e a b
  | _, _ => 0
theorem boV_drop {e : Bool} {a b : List Nat} {j x y : Nat} (h1 : a[j]? = some x) (h2 : b[j]? = some y) : boV e (a.drop j) (b.drop j) = boB e (x + y) + 2 * boV e (a.drop (j + 1)) (b.drop (j + 1)) := by
  obtain ⟨hj, rfl⟩ := List.getElem?_eq_some_iff.1 h1
  obtain ⟨hk, rfl⟩ := List.getElem?_eq_some_iff.1 h2
  rw [List.drop_eq_getElem_cons hj, List.drop_eq_getElem_cons hk, boV]
theorem boB_le (e : Bool) (s : Nat) : boB e s ≤ 1 := by unfold boB; split <;> omega
set_option maxHeartbeats 4000000 in
theorem both_c (a b : Nat) (e : Bool) (ha : a < 18446744073709551616) (hb : b < 18446744073709551616) : CallsA Tryd.prog Γ0 26 [c1 (du a), c1 (du b), c1 (db e)] (.o (c1 (du (boV e (bitsN 64 a) (bitsN 64 b))))) := by
  have h1 := bits_c a ha
  have h2 := bits_c b hb
  have hA := bits_bit 64 a
  have hB := bits_bit 64 b
  have hAl := bits_len 64 a
  have hBl := bits_len 64 b
  generalize bitsN 64 a = A at *
  generalize bitsN 64 b = B at *
  refine fn_rule (C := ⟨Tryd.prog, layF, Tryd.f26.ntmps, Γ0, 0, [], []⟩) layF_ok mixed Tryd.func26 rfl (by kernel_rfl) rfl rfl rfl ?_
  repeat' (first | refine ex_call h2 ?_ | refine ex_call h1 ?_ | refine ex_true (by first | decide | omega | assumption | (with_reducible exact rfl)) ?_ | refine ex_false (by first | decide | omega | assumption | exact (fun h => h rfl)) ?_ | refine ex_dec (fun _ => ?_) (fun _ => ?_) | refine ex_u8 _ rfl (by omega) (by omega) ?_ | refine ex_i64 _ rfl (by omega) (by omega) ?_ | refine ex_u64 _ rfl (by omega) (by omega) ?_ | refine and_mk (by first | omega | (with_reducible rfl) | (show drawOk _ _ _ = true; kernel_rfl)) ?_ | refine and_mk ⟨_, rfl⟩ ?_ | refine ex_is _ (List.length_map _) ?_ | refine ex_is _ List.length_nil ?_ | fail "no step")
  refine ex_loop (X := Nat × Nat × Int) (fun ⟨k, n, z⟩ => ⟨[(2, Tb e), (7, .o (c1 (dN A))), (8, .o (c1 (dN B))), (9, Tu n), (10, Ti z)], [], 0⟩) (fun x => x.1) (fun ⟨k, n, z⟩ => z = (k : Int) - 1 ∧ k ≤ 64 ∧ n = boV e (A.drop k) (B.drop k) ∧ n * 2 ^ k < 18446744073709551616) (64, 0, 63) ⟨rfl, Nat.le_refl _, by rw [List.drop_eq_nil_of_le (by omega)]; rfl, by rw [Nat.zero_mul]; decide⟩ (SLe.of ⟨⟨rfl, rfl, rfl, rfl, rfl, trivial⟩, trivial⟩) ?_
  rintro ⟨k, n, z⟩ ⟨hz, hk, hn, hnb⟩
  rcases k with _ | j
  · rw [List.drop_zero, List.drop_zero] at hn
    subst hn
    repeat' (first | refine ex_true (by first | decide | omega | assumption | (with_reducible exact rfl)) ?_ | refine ex_false (by first | decide | omega | assumption | exact (fun h => h rfl)) ?_ | refine ex_dec (fun _ => ?_) (fun _ => ?_) | refine ex_u8 _ rfl (by omega) (by omega) ?_ | refine ex_i64 _ rfl (by omega) (by omega) ?_ | refine ex_u64 _ rfl (by omega) (by omega) ?_ | refine and_mk (by first | omega | (with_reducible rfl) | (show drawOk _ _ _ = true; kernel_rfl)) ?_ | refine and_mk ⟨_, rfl⟩ ?_ | refine ex_is _ (List.length_map _) ?_ | refine ex_is _ List.length_nil ?_ | fail "no step")
    exact TLe.rfl
  · obtain rfl : z = (j : Int) := by omega
    have hx : A[j]? = some A[j] := at_some (by omega)
    have hy : B[j]? = some B[j] := at_some (by omega)
    have hx1 := hA A[j] (List.getElem_mem _)
    have hy1 := hB B[j] (List.getElem_mem _)
    have hd := boV_drop (e := e) hx hy
    generalize A[j] = x at *
    generalize B[j] = y at *
    rw [← hn] at hd
    have hbl := boB_le e (x + y)
    have hs := num_step (by omega) hbl hnb
    have hs2 : n + n + boB e (x + y) < 18446744073709551616 := Nat.lt_of_le_of_lt (Nat.le_mul_of_pos_right _ (Nat.two_pow_pos j)) hs
    have hxy : x + y = 0 ∨ x + y = 1 ∨ x + y = 2 := by omega
    have hn1 : boV e (A.drop j) (B.drop j) = n + n + boB e (x + y) := by omega
    rcases hxy with h0 | h0 | h0 <;> rw [h0] at hs hs2 hn1 <;> cases e
    · rw [show boB false 0 = 0 from rfl] at hs hs2 hn1
      repeat' (first | refine ex_i64 ((n + n : Nat) : Int) (by omega) (by omega) (by omega) ?_ | refine ex_u64 ((n + n : Nat) : Int) (by omega) (by omega) (by omega) ?_ | refine ex_u8 ((n + n : Nat) : Int) (by omega) (by omega) (by omega) ?_ | refine ex_i64 (0 : Int) (by omega) (by omega) (by omega) ?_ | refine ex_u64 (0 : Int) (by omega) (by omega) (by omega) ?_ | refine ex_u8 (0 : Int) (by omega) (by omega) (by omega) ?_ | refine ex_i64 ((j : Int) - 1) (by omega) (by omega) (by omega) ?_ | refine ex_u64 ((j : Int) - 1) (by omega) (by omega) (by omega) ?_ | refine ex_u8 ((j : Int) - 1) (by omega) (by omega) (by omega) ?_ | refine (ex_row j y rfl hy) ?_ | refine (ex_row j x rfl hx) ?_ | refine ex_true (by first | decide | omega | assumption | (with_reducible exact rfl)) ?_ | refine ex_false (by first | decide | omega | assumption | exact (fun h => h rfl)) ?_ | refine ex_dec (fun _ => ?_) (fun _ => ?_) | refine ex_u8 _ rfl (by omega) (by omega) ?_ | refine ex_i64 _ rfl (by omega) (by omega) ?_ | refine ex_u64 _ rfl (by omega) (by omega) ?_ | refine and_mk (by first | omega | (with_reducible rfl) | (show drawOk _ _ _ = true; kernel_rfl)) ?_ | refine and_mk ⟨_, rfl⟩ ?_ | refine ex_is _ (List.length_map _) ?_ | refine ex_is _ List.length_nil ?_ | fail "no step")
      exact ex_round (j, n + n, (j : Int) - 1) ⟨rfl, by omega, hn1.symm, hs⟩ (by show j < j + 1; omega) (SLe.of ⟨⟨rfl, rfl, rfl, rfl, rfl, trivial⟩, trivial⟩)
    · rw [show boB true 0 = 0 from rfl] at hs hs2 hn1
      repeat' (first | refine ex_i64 ((n + n : Nat) : Int) (by omega) (by omega) (by omega) ?_ | refine ex_u64 ((n + n : Nat) : Int) (by omega) (by omega) (by omega) ?_ | refine ex_u8 ((n + n : Nat) : Int) (by omega) (by omega) (by omega) ?_ | refine ex_i64 (0 : Int) (by omega) (by omega) (by omega) ?_ | refine ex_u64 (0 : Int) (by omega) (by omega) (by omega) ?_ | refine ex_u8 (0 : Int) (by omega) (by omega) (by omega) ?_ | refine ex_i64 ((j : Int) - 1) (by omega) (by omega) (by omega) ?_ | refine ex_u64 ((j : Int) - 1) (by omega) (by omega) (by omega) ?_ | refine ex_u8 ((j : Int) - 1) (by omega) (by omega) (by omega) ?_ | refine (ex_row j y rfl hy) ?_ | refine (ex_row j x rfl hx) ?_ | refine ex_true (by first | decide | omega | assumption | (with_reducible exact rfl)) ?_ | refine ex_false (by first | decide | omega | assumption | exact (fun h => h rfl)) ?_ | refine ex_dec (fun _ => ?_) (fun _ => ?_) | refine ex_u8 _ rfl (by omega) (by omega) ?_ | refine ex_i64 _ rfl (by omega) (by omega) ?_ | refine ex_u64 _ rfl (by omega) (by omega) ?_ | refine and_mk (by first | omega | (with_reducible rfl) | (show drawOk _ _ _ = true; kernel_rfl)) ?_ | refine and_mk ⟨_, rfl⟩ ?_ | refine ex_is _ (List.length_map _) ?_ | refine ex_is _ List.length_nil ?_ | fail "no step")
      exact ex_round (j, n + n, (j : Int) - 1) ⟨rfl, by omega, hn1.symm, hs⟩ (by show j < j + 1; omega) (SLe.of ⟨⟨rfl, rfl, rfl, rfl, rfl, trivial⟩, trivial⟩)
    · rw [show boB false 1 = 0 from rfl] at hs hs2 hn1
      repeat' (first | refine ex_i64 ((n + n : Nat) : Int) (by omega) (by omega) (by omega) ?_ | refine ex_u64 ((n + n : Nat) : Int) (by omega) (by omega) (by omega) ?_ | refine ex_u8 ((n + n : Nat) : Int) (by omega) (by omega) (by omega) ?_ | refine ex_i64 (1 : Int) (by omega) (by omega) (by omega) ?_ | refine ex_u64 (1 : Int) (by omega) (by omega) (by omega) ?_ | refine ex_u8 (1 : Int) (by omega) (by omega) (by omega) ?_ | refine ex_i64 ((j : Int) - 1) (by omega) (by omega) (by omega) ?_ | refine ex_u64 ((j : Int) - 1) (by omega) (by omega) (by omega) ?_ | refine ex_u8 ((j : Int) - 1) (by omega) (by omega) (by omega) ?_ | refine (ex_row j y rfl hy) ?_ | refine (ex_row j x rfl hx) ?_ | refine ex_true (by first | decide | omega | assumption | (with_reducible exact rfl)) ?_ | refine ex_false (by first | decide | omega | assumption | exact (fun h => h rfl)) ?_ | refine ex_dec (fun _ => ?_) (fun _ => ?_) | refine ex_u8 _ rfl (by omega) (by omega) ?_ | refine ex_i64 _ rfl (by omega) (by omega) ?_ | refine ex_u64 _ rfl (by omega) (by omega) ?_ | refine and_mk (by first | omega | (with_reducible rfl) | (show drawOk _ _ _ = true; kernel_rfl)) ?_ | refine and_mk ⟨_, rfl⟩ ?_ | refine ex_is _ (List.length_map _) ?_ | refine ex_is _ List.length_nil ?_ | fail "no step")
      exact ex_round (j, n + n, (j : Int) - 1) ⟨rfl, by omega, hn1.symm, hs⟩ (by show j < j + 1; omega) (SLe.of ⟨⟨rfl, rfl, rfl, rfl, rfl, trivial⟩, trivial⟩)
    · rw [show boB true 1 = 1 from rfl] at hs hs2 hn1
      repeat' (first | refine ex_i64 ((n + n + 1 : Nat) : Int) (by omega) (by omega) (by omega) ?_ | refine ex_u64 ((n + n + 1 : Nat) : Int) (by omega) (by omega) (by omega) ?_ | refine ex_u8 ((n + n + 1 : Nat) : Int) (by omega) (by omega) (by omega) ?_ | refine ex_i64 ((n + n : Nat) : Int) (by omega) (by omega) (by omega) ?_ | refine ex_u64 ((n + n : Nat) : Int) (by omega) (by omega) (by omega) ?_ | refine ex_u8 ((n + n : Nat) : Int) (by omega) (by omega) (by omega) ?_ | refine ex_i64 (1 : Int) (by omega) (by omega) (by omega) ?_ | refine ex_u64 (1 : Int) (by omega) (by omega) (by omega) ?_ | refine ex_u8 (1 : Int) (by omega) (by omega) (by omega) ?_ | refine ex_i64 ((j : Int) - 1) (by omega) (by omega) (by omega) ?_ | refine ex_u64 ((j : Int) - 1) (by omega) (by omega) (by omega) ?_ | refine ex_u8 ((j : Int) - 1) (by omega) (by omega) (by omega) ?_ | refine (ex_row j y rfl hy) ?_ | refine (ex_row j x rfl hx) ?_ | refine ex_true (by first | decide | omega | assumption | (with_reducible exact rfl)) ?_ | refine ex_false (by first | decide | omega | assumption | exact (fun h => h rfl)) ?_ | refine ex_dec (fun _ => ?_) (fun _ => ?_) | refine ex_u8 _ rfl (by omega) (by omega) ?_ | refine ex_i64 _ rfl (by omega) (by omega) ?_ | refine ex_u64 _ rfl (by omega) (by omega) ?_ | refine and_mk (by first | omega | (with_reducible rfl) | (show drawOk _ _ _ = true; kernel_rfl)) ?_ | refine and_mk ⟨_, rfl⟩ ?_ | refine ex_is _ (List.length_map _) ?_ | refine ex_is _ List.length_nil ?_ | fail "no step")
      exact ex_round (j, n + n + 1, (j : Int) - 1) ⟨rfl, by omega, hn1.symm, hs⟩ (by show j < j + 1; omega) (SLe.of ⟨⟨rfl, rfl, rfl, rfl, rfl, trivial⟩, trivial⟩)
    · rw [show boB false 2 = 1 from rfl] at hs hs2 hn1
      repeat' (first | refine ex_i64 ((n + n + 1 : Nat) : Int) (by omega) (by omega) (by omega) ?_ | refine ex_u64 ((n + n + 1 : Nat) : Int) (by omega) (by omega) (by omega) ?_ | refine ex_u8 ((n + n + 1 : Nat) : Int) (by omega) (by omega) (by omega) ?_ | refine ex_i64 ((n + n : Nat) : Int) (by omega) (by omega) (by omega) ?_ | refine ex_u64 ((n + n : Nat) : Int) (by omega) (by omega) (by omega) ?_ | refine ex_u8 ((n + n : Nat) : Int) (by omega) (by omega) (by omega) ?_ | refine ex_i64 (2 : Int) (by omega) (by omega) (by omega) ?_ | refine ex_u64 (2 : Int) (by omega) (by omega) (by omega) ?_ | refine ex_u8 (2 : Int) (by omega) (by omega) (by omega) ?_ | refine ex_i64 ((j : Int) - 1) (by omega) (by omega) (by omega) ?_ | refine ex_u64 ((j : Int) - 1) (by omega) (by omega) (by omega) ?_ | refine ex_u8 ((j : Int) - 1) (by omega) (by omega) (by omega) ?_ | refine (ex_row j y rfl hy) ?_ | refine (ex_row j x rfl hx) ?_ | refine ex_true (by first | decide | omega | assumption | (with_reducible exact rfl)) ?_ | refine ex_false (by first | decide | omega | assumption | exact (fun h => h rfl)) ?_ | refine ex_dec (fun _ => ?_) (fun _ => ?_) | refine ex_u8 _ rfl (by omega) (by omega) ?_ | refine ex_i64 _ rfl (by omega) (by omega) ?_ | refine ex_u64 _ rfl (by omega) (by omega) ?_ | refine and_mk (by first | omega | (with_reducible rfl) | (show drawOk _ _ _ = true; kernel_rfl)) ?_ | refine and_mk ⟨_, rfl⟩ ?_ | refine ex_is _ (List.length_map _) ?_ | refine ex_is _ List.length_nil ?_ | fail "no step")
      exact ex_round (j, n + n + 1, (j : Int) - 1) ⟨rfl, by omega, hn1.symm, hs⟩ (by show j < j + 1; omega) (SLe.of ⟨⟨rfl, rfl, rfl, rfl, rfl, trivial⟩, trivial⟩)
    · rw [show boB true 2 = 1 from rfl] at hs hs2 hn1
      repeat' (first | refine ex_i64 ((n + n + 1 : Nat) : Int) (by omega) (by omega) (by omega) ?_ | refine ex_u64 ((n + n + 1 : Nat) : Int) (by omega) (by omega) (by omega) ?_ | refine ex_u8 ((n + n + 1 : Nat) : Int) (by omega) (by omega) (by omega) ?_ | refine ex_i64 ((n + n : Nat) : Int) (by omega) (by omega) (by omega) ?_ | refine ex_u64 ((n + n : Nat) : Int) (by omega) (by omega) (by omega) ?_ | refine ex_u8 ((n + n : Nat) : Int) (by omega) (by omega) (by omega) ?_ | refine ex_i64 (2 : Int) (by omega) (by omega) (by omega) ?_ | refine ex_u64 (2 : Int) (by omega) (by omega) (by omega) ?_ | refine ex_u8 (2 : Int) (by omega) (by omega) (by omega) ?_ | refine ex_i64 ((j : Int) - 1) (by omega) (by omega) (by omega) ?_ | refine ex_u64 ((j : Int) - 1) (by omega) (by omega) (by omega) ?_ | refine ex_u8 ((j : Int) - 1) (by omega) (by omega) (by omega) ?_ | refine (ex_row j y rfl hy) ?_ | refine (ex_row j x rfl hx) ?_ | refine ex_true (by first | decide | omega | assumption | (with_reducible exact rfl)) ?_ | refine ex_false (by first | decide | omega | assumption | exact (fun h => h rfl)) ?_ | refine ex_dec (fun _ => ?_) (fun _ => ?_) | refine ex_u8 _ rfl (by omega) (by omega) ?_ | refine ex_i64 _ rfl (by omega) (by omega) ?_ | refine ex_u64 _ rfl (by omega) (by omega) ?_ | refine and_mk (by first | omega | (with_reducible rfl) | (show drawOk _ _ _ = true; kernel_rfl)) ?_ | refine and_mk ⟨_, rfl⟩ ?_ | refine ex_is _ (List.length_map _) ?_ | refine ex_is _ List.length_nil ?_ | fail "no step")
      exact ex_round (j, n + n + 1, (j : Int) - 1) ⟨rfl, by omega, hn1.symm, hs⟩ (by show j < j + 1; omega) (SLe.of ⟨⟨rfl, rfl, rfl, rfl, rfl, trivial⟩, trivial⟩)
end Go.Proofs.YtblobabhdmigiaaDoor

namespace Go.Proofs.YtblobabhdmigiaaDoor
set_option linter.unusedVariables false
set_option linter.unusedSimpArgs false
open Go.RowKit
set_option maxRecDepth 100000

theorem valL_zero (l : List Nat) : valL (0 :: l) = 2 * valL l := by rw [valL, Nat.zero_add]
set_option maxHeartbeats 4000000 in
theorem rmul_c (a b : Nat) (ha : a < 18446744073709551616) (hb : b < 18446744073709551616) : CallsA Tryd.prog Γ0 22 [c1 (du a), c1 (du b)] (opT (numV (a * b))) := by
  have h1 := bits_c a ha
  have h2 := bits_c b hb
  have hB := bits_bit 64 b
  have hBl := bits_len 64 b
  have hBv := bits_val 64 b (by rw [← pow64]; exact hb)
  have hA := bits_bit 64 a
  have hAl := bits_len 64 a
  have hAv := bits_val 64 a (by rw [← pow64]; exact ha)
  generalize bitsN 64 a = A at *
  generalize bitsN 64 b = B at *
  refine fn_rule (C := ⟨Tryd.prog, layF, Tryd.f22.ntmps, Γ0, 0, [], [9]⟩) layF_ok mixed Tryd.func22 rfl (by kernel_rfl) rfl rfl rfl ?_
  repeat' (first | refine ex_call h2 ?_ | refine ex_call h1 ?_ | refine ex_true (by first | decide | omega | assumption | (with_reducible exact rfl)) ?_ | refine ex_false (by first | decide | omega | assumption | exact (fun h => h rfl)) ?_ | refine ex_dec (fun _ => ?_) (fun _ => ?_) | refine ex_u8 _ rfl (by omega) (by omega) ?_ | refine ex_i64 _ rfl (by omega) (by omega) ?_ | refine ex_u64 _ rfl (by omega) (by omega) ?_ | refine and_mk (by first | omega | (with_reducible rfl) | (show drawOk _ _ _ = true; kernel_rfl)) ?_ | refine and_mk ⟨_, rfl⟩ ?_ | refine ex_is _ (List.length_map _) ?_ | refine ex_is _ List.length_nil ?_ | fail "no step")
  refine ex_loop (X := Nat × List Nat × List Nat) (fun ⟨i, x, s⟩ => ⟨[(6, .o (c1 (dN x))), (7, .o (c1 (dN B))), (8, .o (c1 (dN s))), (9, Ti i)], [], 1⟩) (fun y => 64 - y.1)
    (fun ⟨i, x, s⟩ => i ≤ 64 ∧ x.length = 64 + i ∧ BitL x ∧ BitL s ∧ s.length ≤ 65 + i ∧ valL s + valL x * valL (B.drop i) = a * b) (0, A, []) ⟨Nat.zero_le _, by omega, hA, (fun x h => by cases h), by simp, by rw [List.drop_zero, hAv, hBv]; simp [valL]⟩ (SLe.trans (SLe.of ⟨⟨rfl, rfl, rfl, rfl, trivial⟩, trivial⟩) (SLe.still 0 1 3 [] rfl)) ?_
  rintro ⟨i, x, s⟩ ⟨hi, hxl, hX, hS, hsl, hv⟩
  refine ex_dec (fun h => ?_) (fun h => ?_)
  · have hi6 : i < 64 := by omega
    have hy : B[i]? = some B[i] := at_some (by omega)
    have hy1 := hB B[i] (List.getElem_mem _)
    have hd := valL_drop hy
    generalize B[i] = y at *
    have hp := plus_c s x (by omega) (by omega) hS hX
    have hxm := rN_len x
    repeat' (first | refine ex_true (by first | decide | omega | assumption | (with_reducible exact rfl)) ?_ | refine ex_false (by first | decide | omega | assumption | exact (fun h => h rfl)) ?_ | refine ex_dec (fun _ => ?_) (fun _ => ?_) | refine ex_u8 _ rfl (by omega) (by omega) ?_ | refine ex_i64 _ rfl (by omega) (by omega) ?_ | refine ex_u64 _ rfl (by omega) (by omega) ?_ | refine and_mk (by first | omega | (with_reducible rfl) | (show drawOk _ _ _ = true; kernel_rfl)) ?_ | refine and_mk ⟨_, rfl⟩ ?_ | refine ex_is _ (List.length_map _) ?_ | refine ex_is _ List.length_nil ?_ | fail "no step")
    refine ex_join (X := List Nat) (fun s' => ⟨[(6, .o (c1 (dN x))), (7, .o (c1 (dN B))), (8, .o (c1 (dN s'))), (9, Ti i)], [], 1⟩) (fun s' => BitL s' ∧ s'.length ≤ 65 + (i + 1) ∧ valL s' = valL s + y * valL x) ?_ ?_
    · have hy2 : y = 0 ∨ y = 1 := by omega
      rcases hy2 with rfl | rfl
      · repeat' (first | refine (ex_row i 0 rfl hy) ?_ | refine ex_true (by first | decide | omega | assumption | (with_reducible exact rfl)) ?_ | refine ex_false (by first | decide | omega | assumption | exact (fun h => h rfl)) ?_ | refine ex_dec (fun _ => ?_) (fun _ => ?_) | refine ex_u8 _ rfl (by omega) (by omega) ?_ | refine ex_i64 _ rfl (by omega) (by omega) ?_ | refine ex_u64 _ rfl (by omega) (by omega) ?_ | refine and_mk (by first | omega | (with_reducible rfl) | (show drawOk _ _ _ = true; kernel_rfl)) ?_ | refine and_mk ⟨_, rfl⟩ ?_ | refine ex_is _ (List.length_map _) ?_ | refine ex_is _ List.length_nil ?_ | fail "no step")
        exact ex_meet s ⟨hS, by omega, by omega⟩ (SLe.of ⟨⟨rfl, rfl, rfl, rfl, trivial⟩, trivial⟩)
      · repeat' (first | refine ex_call hp ?_ | refine (ex_row i 1 rfl hy) ?_ | refine ex_true (by first | decide | omega | assumption | (with_reducible exact rfl)) ?_ | refine ex_false (by first | decide | omega | assumption | exact (fun h => h rfl)) ?_ | refine ex_dec (fun _ => ?_) (fun _ => ?_) | refine ex_u8 _ rfl (by omega) (by omega) ?_ | refine ex_i64 _ rfl (by omega) (by omega) ?_ | refine ex_u64 _ rfl (by omega) (by omega) ?_ | refine and_mk (by first | omega | (with_reducible rfl) | (show drawOk _ _ _ = true; kernel_rfl)) ?_ | refine and_mk ⟨_, rfl⟩ ?_ | refine ex_is _ (List.length_map _) ?_ | refine ex_is _ List.length_nil ?_ | fail "no step")
        exact ex_meet (plusF 0 s x) ⟨plus_bit _ _ _ (by omega) hS hX, by rw [plus_len]; split <;> omega, by rw [plus_val]; omega⟩ (SLe.of ⟨⟨rfl, rfl, rfl, rfl, trivial⟩, trivial⟩)
    · rintro s' ⟨hS', hsl', hsv⟩
      repeat' (first | refine ex_true (by first | decide | omega | assumption | (with_reducible exact rfl)) ?_ | refine ex_false (by first | decide | omega | assumption | exact (fun h => h rfl)) ?_ | refine ex_dec (fun _ => ?_) (fun _ => ?_) | refine ex_u8 _ rfl (by omega) (by omega) ?_ | refine ex_i64 _ rfl (by omega) (by omega) ?_ | refine ex_u64 _ rfl (by omega) (by omega) ?_ | refine and_mk (by first | omega | (with_reducible rfl) | (show drawOk _ _ _ = true; kernel_rfl)) ?_ | refine and_mk ⟨_, rfl⟩ ?_ | refine ex_is _ (List.length_map _) ?_ | refine ex_is _ List.length_nil ?_ | fail "no step")
      refine ex_loop (X := Nat) (fun q => ⟨[(6, .o (c1 (dN x))), (7, .o (c1 (dN B))), (8, .o (c1 (dN s'))), (9, Ti i), (10, .o (.c (.row 1))), (11, Ti q)], [(1, .row 1 3 (rN (0 :: x.take q)))], 2⟩) (fun q => x.length - q) (fun q => q ≤ x.length) 0 (Nat.zero_le _) (SLe.of ⟨⟨rfl, rfl, rfl, rfl, rfl, rfl, trivial⟩, ⟨rfl, trivial⟩⟩) ?_
      intro q hq
      by_cases hql : q < x.length
      · have hz : x[q]? = some x[q] := at_some hql
        have htk : x.take (q + 1) = x.take q ++ [x[q]] := by rw [List.take_add_one, hz]; rfl
        generalize x[q] = z at hz htk
        have htl : (0 :: x.take q).length = q + 1 := by rw [List.length_cons, List.length_take]; omega
        repeat' (first | refine (ex_row q z rfl hz) ?_ | refine (ex_is _ hxm) ?_ | refine ex_true (by first | decide | omega | assumption | (with_reducible exact rfl)) ?_ | refine ex_false (by first | decide | omega | assumption | exact (fun h => h rfl)) ?_ | refine ex_dec (fun _ => ?_) (fun _ => ?_) | refine ex_u8 _ rfl (by omega) (by omega) ?_ | refine ex_i64 _ rfl (by omega) (by omega) ?_ | refine ex_u64 _ rfl (by omega) (by omega) ?_ | refine and_mk (by first | omega | (with_reducible rfl) | (show drawOk _ _ _ = true; kernel_rfl)) ?_ | refine and_mk ⟨_, rfl⟩ ?_ | refine ex_is _ (List.length_map _) ?_ | refine ex_is _ List.length_nil ?_ | fail "no step")
        refine ⟨by rw [rN_len, htl]; show (q + 1 + 1) * (8 + 1) ≤ 140737488355328; omega, ?_⟩
        refine ex_is (rN (0 :: x.take (q + 1))) (by rw [htk]; simp [rN]; rfl) ?_
        repeat' (first | refine ex_i64 ((q + 1 : Nat) : Int) (by omega) (by omega) (by omega) ?_ | refine ex_u64 ((q + 1 : Nat) : Int) (by omega) (by omega) (by omega) ?_ | refine ex_u8 ((q + 1 : Nat) : Int) (by omega) (by omega) (by omega) ?_ | refine ex_true (by first | decide | omega | assumption | (with_reducible exact rfl)) ?_ | refine ex_false (by first | decide | omega | assumption | exact (fun h => h rfl)) ?_ | refine ex_dec (fun _ => ?_) (fun _ => ?_) | refine ex_u8 _ rfl (by omega) (by omega) ?_ | refine ex_i64 _ rfl (by omega) (by omega) ?_ | refine ex_u64 _ rfl (by omega) (by omega) ?_ | refine and_mk (by first | omega | (with_reducible rfl) | (show drawOk _ _ _ = true; kernel_rfl)) ?_ | refine and_mk ⟨_, rfl⟩ ?_ | refine ex_is _ (List.length_map _) ?_ | refine ex_is _ List.length_nil ?_ | fail "no step")
        exact ex_round (q + 1) (by show q + 1 ≤ x.length; omega) (by show _ - _ < _ - _; omega) (SLe.ren [(3, 1)] ⟨⟨rfl, rfl⟩, ⟨rfl, rfl⟩, ⟨rfl, rfl⟩, ⟨rfl, rfl⟩, ⟨rfl, rfl⟩, ⟨rfl, rfl⟩, trivial⟩ ⟨⟨rfl, rfl⟩, trivial⟩ rfl)
      · have hqe : q = x.length := by omega
        have htk : x.take q = x := List.take_of_length_le (by omega)
        repeat' (first | refine ex_i64 ((i + 1 : Nat) : Int) (by omega) (by omega) (by omega) ?_ | refine ex_u64 ((i + 1 : Nat) : Int) (by omega) (by omega) (by omega) ?_ | refine ex_u8 ((i + 1 : Nat) : Int) (by omega) (by omega) (by omega) ?_ | refine (ex_is _ hxm) ?_ | refine ex_true (by first | decide | omega | assumption | (with_reducible exact rfl)) ?_ | refine ex_false (by first | decide | omega | assumption | exact (fun h => h rfl)) ?_ | refine ex_dec (fun _ => ?_) (fun _ => ?_) | refine ex_u8 _ rfl (by omega) (by omega) ?_ | refine ex_i64 _ rfl (by omega) (by omega) ?_ | refine ex_u64 _ rfl (by omega) (by omega) ?_ | refine and_mk (by first | omega | (with_reducible rfl) | (show drawOk _ _ _ = true; kernel_rfl)) ?_ | refine and_mk ⟨_, rfl⟩ ?_ | refine ex_is _ (List.length_map _) ?_ | refine ex_is _ List.length_nil ?_ | fail "no step")
        exact ex_round (i + 1, 0 :: x.take q, s') ⟨by omega, by rw [htk, List.length_cons]; omega, by rw [htk]; exact BitL.mk (by omega) hX, hS', hsl', by
          rw [htk, hsv, valL_zero, Nat.mul_comm y, Nat.mul_comm 2 (valL x), Nat.mul_assoc, Nat.add_assoc]
          rw [hd, Nat.mul_add] at hv
          exact hv⟩ (by show _ - _ < _ - _; omega) (SLe.trans (SLe.of ⟨⟨rfl, rfl, rfl, rfl, trivial⟩, trivial⟩) (SLe.still 1 1 3 _ rfl))
  · have hi6 : i = 64 := by omega
    subst hi6
    rw [List.drop_eq_nil_of_le (by omega), show valL [] = 0 from rfl, Nat.mul_zero, Nat.add_zero] at hv
    have hn := rnum_c s (by omega) hS
    rw [numF_val, hv] at hn
    repeat' (first | refine ex_call hn ?_ | refine ex_true (by first | decide | omega | assumption | (with_reducible exact rfl)) ?_ | refine ex_false (by first | decide | omega | assumption | exact (fun h => h rfl)) ?_ | refine ex_dec (fun _ => ?_) (fun _ => ?_) | refine ex_u8 _ rfl (by omega) (by omega) ?_ | refine ex_i64 _ rfl (by omega) (by omega) ?_ | refine ex_u64 _ rfl (by omega) (by omega) ?_ | refine and_mk (by first | omega | (with_reducible rfl) | (show drawOk _ _ _ = true; kernel_rfl)) ?_ | refine and_mk ⟨_, rfl⟩ ?_ | refine ex_is _ (List.length_map _) ?_ | refine ex_is _ List.length_nil ?_ | fail "no step")
    exact TLe.rfl
end Go.Proofs.YtblobabhdmigiaaDoor

namespace Go.Proofs.YtblobabhdmigiaaDoor
set_option linter.unusedVariables false
set_option linter.unusedSimpArgs false
open Go.RowKit
set_option maxRecDepth 100000

theorem op_add_c (a b : Nat) (ha : a < 18446744073709551616) (hb : b < 18446744073709551616) : CallsA Tryd.prog Γ0 11 [c1 (ds (⟨#[43]⟩ : ByteArray)), c1 (du a), c1 (du b)] (opT (numV (a + b))) := by
  have h := radd_c a b ha hb
  refine fn_rule (C := ⟨Tryd.prog, layF, Tryd.f11.ntmps, Γ0, 0, [], []⟩) layF_ok mixed Tryd.func11 rfl (by kernel_rfl) rfl rfl rfl ?_
  repeat' (first | refine ex_call h ?_ | refine ex_true (by first | decide | omega | assumption | (with_reducible exact rfl)) ?_ | refine ex_false (by first | decide | omega | assumption | exact (fun h => h rfl)) ?_ | refine ex_dec (fun _ => ?_) (fun _ => ?_) | refine ex_u8 _ rfl (by omega) (by omega) ?_ | refine ex_i64 _ rfl (by omega) (by omega) ?_ | refine ex_u64 _ rfl (by omega) (by omega) ?_ | refine and_mk (by first | omega | (with_reducible rfl) | (show drawOk _ _ _ = true; kernel_rfl)) ?_ | refine and_mk ⟨_, rfl⟩ ?_ | refine ex_is _ (List.length_map _) ?_ | refine ex_is _ List.length_nil ?_ | fail "no step")
  exact TLe.rfl
theorem op_sub_c (a b : Nat) (ha : a < 18446744073709551616) (hb : b < 18446744073709551616) : CallsA Tryd.prog Γ0 11 [c1 (ds (⟨#[45]⟩ : ByteArray)), c1 (du a), c1 (du b)] (opT (subV a b)) := by
  have h := rsub_c a b ha hb
  refine fn_rule (C := ⟨Tryd.prog, layF, Tryd.f11.ntmps, Γ0, 0, [], []⟩) layF_ok mixed Tryd.func11 rfl (by kernel_rfl) rfl rfl rfl ?_
  repeat' (first | refine ex_call h ?_ | refine ex_true (by first | decide | omega | assumption | (with_reducible exact rfl)) ?_ | refine ex_false (by first | decide | omega | assumption | exact (fun h => h rfl)) ?_ | refine ex_dec (fun _ => ?_) (fun _ => ?_) | refine ex_u8 _ rfl (by omega) (by omega) ?_ | refine ex_i64 _ rfl (by omega) (by omega) ?_ | refine ex_u64 _ rfl (by omega) (by omega) ?_ | refine and_mk (by first | omega | (with_reducible rfl) | (show drawOk _ _ _ = true; kernel_rfl)) ?_ | refine and_mk ⟨_, rfl⟩ ?_ | refine ex_is _ (List.length_map _) ?_ | refine ex_is _ List.length_nil ?_ | fail "no step")
  exact TLe.rfl
theorem op_mul_c (a b : Nat) (ha : a < 18446744073709551616) (hb : b < 18446744073709551616) : CallsA Tryd.prog Γ0 11 [c1 (ds (⟨#[42]⟩ : ByteArray)), c1 (du a), c1 (du b)] (opT (numV (a * b))) := by
  have h := rmul_c a b ha hb
  refine fn_rule (C := ⟨Tryd.prog, layF, Tryd.f11.ntmps, Γ0, 0, [], []⟩) layF_ok mixed Tryd.func11 rfl (by kernel_rfl) rfl rfl rfl ?_
  repeat' (first | refine ex_call h ?_ | refine ex_true (by first | decide | omega | assumption | (with_reducible exact rfl)) ?_ | refine ex_false (by first | decide | omega | assumption | exact (fun h => h rfl)) ?_ | refine ex_dec (fun _ => ?_) (fun _ => ?_) | refine ex_u8 _ rfl (by omega) (by omega) ?_ | refine ex_i64 _ rfl (by omega) (by omega) ?_ | refine ex_u64 _ rfl (by omega) (by omega) ?_ | refine and_mk (by first | omega | (with_reducible rfl) | (show drawOk _ _ _ = true; kernel_rfl)) ?_ | refine and_mk ⟨_, rfl⟩ ?_ | refine ex_is _ (List.length_map _) ?_ | refine ex_is _ List.length_nil ?_ | fail "no step")
  exact TLe.rfl
theorem op_shl_c (a b : Nat) (ha : a < 18446744073709551616) (hb : b < 18446744073709551616) : CallsA Tryd.prog Γ0 11 [c1 (ds (⟨#[60, 60]⟩ : ByteArray)), c1 (du a), c1 (du b)] (opT (shlV a b)) := by
  have h := rshl_c a b ha hb
  refine fn_rule (C := ⟨Tryd.prog, layF, Tryd.f11.ntmps, Γ0, 0, [], []⟩) layF_ok mixed Tryd.func11 rfl (by kernel_rfl) rfl rfl rfl ?_
  repeat' (first | refine ex_call h ?_ | refine ex_true (by first | decide | omega | assumption | (with_reducible exact rfl)) ?_ | refine ex_false (by first | decide | omega | assumption | exact (fun h => h rfl)) ?_ | refine ex_dec (fun _ => ?_) (fun _ => ?_) | refine ex_u8 _ rfl (by omega) (by omega) ?_ | refine ex_i64 _ rfl (by omega) (by omega) ?_ | refine ex_u64 _ rfl (by omega) (by omega) ?_ | refine and_mk (by first | omega | (with_reducible rfl) | (show drawOk _ _ _ = true; kernel_rfl)) ?_ | refine and_mk ⟨_, rfl⟩ ?_ | refine ex_is _ (List.length_map _) ?_ | refine ex_is _ List.length_nil ?_ | fail "no step")
  exact TLe.rfl
theorem op_shr_c (a b : Nat) (ha : a < 18446744073709551616) (hb : b < 18446744073709551616) : CallsA Tryd.prog Γ0 11 [c1 (ds (⟨#[62, 62]⟩ : ByteArray)), c1 (du a), c1 (du b)] (opT (shrV a b)) := by
  have h := rshr_c a b ha hb
  refine fn_rule (C := ⟨Tryd.prog, layF, Tryd.f11.ntmps, Γ0, 0, [], []⟩) layF_ok mixed Tryd.func11 rfl (by kernel_rfl) rfl rfl rfl ?_
  repeat' (first | refine ex_call h ?_ | refine ex_true (by first | decide | omega | assumption | (with_reducible exact rfl)) ?_ | refine ex_false (by first | decide | omega | assumption | exact (fun h => h rfl)) ?_ | refine ex_dec (fun _ => ?_) (fun _ => ?_) | refine ex_u8 _ rfl (by omega) (by omega) ?_ | refine ex_i64 _ rfl (by omega) (by omega) ?_ | refine ex_u64 _ rfl (by omega) (by omega) ?_ | refine and_mk (by first | omega | (with_reducible rfl) | (show drawOk _ _ _ = true; kernel_rfl)) ?_ | refine and_mk ⟨_, rfl⟩ ?_ | refine ex_is _ (List.length_map _) ?_ | refine ex_is _ List.length_nil ?_ | fail "no step")
  exact TLe.rfl
def divV (a b : Nat) : Nat × Nat := if b = 0 then (0, 6) else (a / b, 0)
def remV (a b : Nat) : Nat × Nat := if b = 0 then (0, 6) else (a % b, 0)
theorem op_div_c (a b : Nat) (ha : a < 18446744073709551616) (hb : b < 18446744073709551616) : CallsA Tryd.prog Γ0 11 [c1 (ds (⟨#[47]⟩ : ByteArray)), c1 (du a), c1 (du b)] (opT (divV a b)) := by
  have h := rdiv_c a b ha hb
  unfold divV
  by_cases hz : b = 0
  · rw [if_pos hz] at h ⊢
    rw [if_pos hz, hz, Nat.div_zero] at h
    rw [hz]
    refine fn_rule (C := ⟨Tryd.prog, layF, Tryd.f11.ntmps, Γ0, 0, [], []⟩) layF_ok mixed Tryd.func11 rfl (by kernel_rfl) rfl rfl rfl ?_
    repeat' (first | refine ex_call h ?_ | refine ex_true (by first | decide | omega | assumption | (with_reducible exact rfl)) ?_ | refine ex_false (by first | decide | omega | assumption | exact (fun h => h rfl)) ?_ | refine ex_dec (fun _ => ?_) (fun _ => ?_) | refine ex_u8 _ rfl (by omega) (by omega) ?_ | refine ex_i64 _ rfl (by omega) (by omega) ?_ | refine ex_u64 _ rfl (by omega) (by omega) ?_ | refine and_mk (by first | omega | (with_reducible rfl) | (show drawOk _ _ _ = true; kernel_rfl)) ?_ | refine and_mk ⟨_, rfl⟩ ?_ | refine ex_is _ (List.length_map _) ?_ | refine ex_is _ List.length_nil ?_ | fail "no step")
    exact TLe.rfl
  · rw [if_neg hz] at h ⊢
    rw [if_neg hz] at h
    refine fn_rule (C := ⟨Tryd.prog, layF, Tryd.f11.ntmps, Γ0, 0, [], []⟩) layF_ok mixed Tryd.func11 rfl (by kernel_rfl) rfl rfl rfl ?_
    repeat' (first | refine ex_call h ?_ | refine ex_true (by first | decide | omega | assumption | (with_reducible exact rfl)) ?_ | refine ex_false (by first | decide | omega | assumption | exact (fun h => h rfl)) ?_ | refine ex_dec (fun _ => ?_) (fun _ => ?_) | refine ex_u8 _ rfl (by omega) (by omega) ?_ | refine ex_i64 _ rfl (by omega) (by omega) ?_ | refine ex_u64 _ rfl (by omega) (by omega) ?_ | refine and_mk (by first | omega | (with_reducible rfl) | (show drawOk _ _ _ = true; kernel_rfl)) ?_ | refine and_mk ⟨_, rfl⟩ ?_ | refine ex_is _ (List.length_map _) ?_ | refine ex_is _ List.length_nil ?_ | fail "no step")
    exact TLe.rfl
theorem op_rem_c (a b : Nat) (ha : a < 18446744073709551616) (hb : b < 18446744073709551616) : CallsA Tryd.prog Γ0 11 [c1 (ds (⟨#[37]⟩ : ByteArray)), c1 (du a), c1 (du b)] (opT (remV a b)) := by
  have h := rdiv_c a b ha hb
  unfold remV
  by_cases hz : b = 0
  · rw [if_pos hz] at h ⊢
    rw [if_pos hz, hz, Nat.div_zero] at h
    rw [hz]
    refine fn_rule (C := ⟨Tryd.prog, layF, Tryd.f11.ntmps, Γ0, 0, [], []⟩) layF_ok mixed Tryd.func11 rfl (by kernel_rfl) rfl rfl rfl ?_
    repeat' (first | refine ex_call h ?_ | refine ex_true (by first | decide | omega | assumption | (with_reducible exact rfl)) ?_ | refine ex_false (by first | decide | omega | assumption | exact (fun h => h rfl)) ?_ | refine ex_dec (fun _ => ?_) (fun _ => ?_) | refine ex_u8 _ rfl (by omega) (by omega) ?_ | refine ex_i64 _ rfl (by omega) (by omega) ?_ | refine ex_u64 _ rfl (by omega) (by omega) ?_ | refine and_mk (by first | omega | (with_reducible rfl) | (show drawOk _ _ _ = true; kernel_rfl)) ?_ | refine and_mk ⟨_, rfl⟩ ?_ | refine ex_is _ (List.length_map _) ?_ | refine ex_is _ List.length_nil ?_ | fail "no step")
    exact TLe.rfl
  · rw [if_neg hz] at h ⊢
    rw [if_neg hz] at h
    refine fn_rule (C := ⟨Tryd.prog, layF, Tryd.f11.ntmps, Γ0, 0, [], []⟩) layF_ok mixed Tryd.func11 rfl (by kernel_rfl) rfl rfl rfl ?_
    repeat' (first | refine ex_call h ?_ | refine ex_true (by first | decide | omega | assumption | (with_reducible exact rfl)) ?_ | refine ex_false (by first | decide | omega | assumption | exact (fun h => h rfl)) ?_ | refine ex_dec (fun _ => ?_) (fun _ => ?_) | refine ex_u8 _ rfl (by omega) (by omega) ?_ | refine ex_i64 _ rfl (by omega) (by omega) ?_ | refine ex_u64 _ rfl (by omega) (by omega) ?_ | refine and_mk (by first | omega | (with_reducible rfl) | (show drawOk _ _ _ = true; kernel_rfl)) ?_ | refine and_mk ⟨_, rfl⟩ ?_ | refine ex_is _ (List.length_map _) ?_ | refine ex_is _ List.length_nil ?_ | fail "no step")
    exact TLe.rfl
theorem op_and_c (a b : Nat) (ha : a < 18446744073709551616) (hb : b < 18446744073709551616) : CallsA Tryd.prog Γ0 11 [c1 (ds (⟨#[38]⟩ : ByteArray)), c1 (du a), c1 (du b)] (opT (boV false (bitsN 64 a) (bitsN 64 b), 0)) := by
  have h := both_c a b false ha hb
  refine fn_rule (C := ⟨Tryd.prog, layF, Tryd.f11.ntmps, Γ0, 0, [], []⟩) layF_ok mixed Tryd.func11 rfl (by kernel_rfl) rfl rfl rfl ?_
  repeat' (first | refine ex_call h ?_ | refine ex_true (by first | decide | omega | assumption | (with_reducible exact rfl)) ?_ | refine ex_false (by first | decide | omega | assumption | exact (fun h => h rfl)) ?_ | refine ex_dec (fun _ => ?_) (fun _ => ?_) | refine ex_u8 _ rfl (by omega) (by omega) ?_ | refine ex_i64 _ rfl (by omega) (by omega) ?_ | refine ex_u64 _ rfl (by omega) (by omega) ?_ | refine and_mk (by first | omega | (with_reducible rfl) | (show drawOk _ _ _ = true; kernel_rfl)) ?_ | refine and_mk ⟨_, rfl⟩ ?_ | refine ex_is _ (List.length_map _) ?_ | refine ex_is _ List.length_nil ?_ | fail "no step")
  exact TLe.rfl
theorem op_or_c (a b : Nat) (ha : a < 18446744073709551616) (hb : b < 18446744073709551616) : CallsA Tryd.prog Γ0 11 [c1 (ds (⟨#[124]⟩ : ByteArray)), c1 (du a), c1 (du b)] (opT (boV true (bitsN 64 a) (bitsN 64 b), 0)) := by
  have h := both_c a b true ha hb
  refine fn_rule (C := ⟨Tryd.prog, layF, Tryd.f11.ntmps, Γ0, 0, [], []⟩) layF_ok mixed Tryd.func11 rfl (by kernel_rfl) rfl rfl rfl ?_
  repeat' (first | refine ex_call h ?_ | refine ex_true (by first | decide | omega | assumption | (with_reducible exact rfl)) ?_ | refine ex_false (by first | decide | omega | assumption | exact (fun h => h rfl)) ?_ | refine ex_dec (fun _ => ?_) (fun _ => ?_) | refine ex_u8 _ rfl (by omega) (by omega) ?_ | refine ex_i64 _ rfl (by omega) (by omega) ?_ | refine ex_u64 _ rfl (by omega) (by omega) ?_ | refine and_mk (by first | omega | (with_reducible rfl) | (show drawOk _ _ _ = true; kernel_rfl)) ?_ | refine and_mk ⟨_, rfl⟩ ?_ | refine ex_is _ (List.length_map _) ?_ | refine ex_is _ List.length_nil ?_ | fail "no step")
  exact TLe.rfl
theorem op_eq_c (a b : Nat) (ha : a < 18446744073709551616) (hb : b < 18446744073709551616) : CallsA Tryd.prog Γ0 11 [c1 (ds (⟨#[61, 61]⟩ : ByteArray)), c1 (du a), c1 (du b)] (opT (if a = b then 1 else 0, 0)) := by
  have h1 : CallsA Tryd.prog Γ0 _ _ _ := truth_c true
  have h0 : CallsA Tryd.prog Γ0 _ _ _ := truth_c false
  rw [if_pos rfl] at h1
  rw [if_neg (by decide)] at h0
  by_cases hp : a = b
  · rw [if_pos hp]
    refine fn_rule (C := ⟨Tryd.prog, layF, Tryd.f11.ntmps, Γ0, 0, [], []⟩) layF_ok mixed Tryd.func11 rfl (by kernel_rfl) rfl rfl rfl ?_
    repeat' (first | refine ex_call h0 ?_ | refine ex_call h1 ?_ | refine ex_true (by first | decide | omega | assumption | (with_reducible exact rfl)) ?_ | refine ex_false (by first | decide | omega | assumption | exact (fun h => h rfl)) ?_ | refine ex_dec (fun _ => ?_) (fun _ => ?_) | refine ex_u8 _ rfl (by omega) (by omega) ?_ | refine ex_i64 _ rfl (by omega) (by omega) ?_ | refine ex_u64 _ rfl (by omega) (by omega) ?_ | refine and_mk (by first | omega | (with_reducible rfl) | (show drawOk _ _ _ = true; kernel_rfl)) ?_ | refine and_mk ⟨_, rfl⟩ ?_ | refine ex_is _ (List.length_map _) ?_ | refine ex_is _ List.length_nil ?_ | fail "no step")
    exact TLe.rfl
  · rw [if_neg hp]
    refine fn_rule (C := ⟨Tryd.prog, layF, Tryd.f11.ntmps, Γ0, 0, [], []⟩) layF_ok mixed Tryd.func11 rfl (by kernel_rfl) rfl rfl rfl ?_
    repeat' (first | refine ex_call h0 ?_ | refine ex_call h1 ?_ | refine ex_true (by first | decide | omega | assumption | (with_reducible exact rfl)) ?_ | refine ex_false (by first | decide | omega | assumption | exact (fun h => h rfl)) ?_ | refine ex_dec (fun _ => ?_) (fun _ => ?_) | refine ex_u8 _ rfl (by omega) (by omega) ?_ | refine ex_i64 _ rfl (by omega) (by omega) ?_ | refine ex_u64 _ rfl (by omega) (by omega) ?_ | refine and_mk (by first | omega | (with_reducible rfl) | (show drawOk _ _ _ = true; kernel_rfl)) ?_ | refine and_mk ⟨_, rfl⟩ ?_ | refine ex_is _ (List.length_map _) ?_ | refine ex_is _ List.length_nil ?_ | fail "no step")
    exact TLe.rfl
theorem op_ne_c (a b : Nat) (ha : a < 18446744073709551616) (hb : b < 18446744073709551616) : CallsA Tryd.prog Γ0 11 [c1 (ds (⟨#[33, 61]⟩ : ByteArray)), c1 (du a), c1 (du b)] (opT (if a ≠ b then 1 else 0, 0)) := by
  have h1 : CallsA Tryd.prog Γ0 _ _ _ := truth_c true
  have h0 : CallsA Tryd.prog Γ0 _ _ _ := truth_c false
  rw [if_pos rfl] at h1
  rw [if_neg (by decide)] at h0
  by_cases hp : a ≠ b
  · rw [if_pos hp]
    refine fn_rule (C := ⟨Tryd.prog, layF, Tryd.f11.ntmps, Γ0, 0, [], []⟩) layF_ok mixed Tryd.func11 rfl (by kernel_rfl) rfl rfl rfl ?_
    repeat' (first | refine ex_call h0 ?_ | refine ex_call h1 ?_ | refine ex_true (by first | decide | omega | assumption | (with_reducible exact rfl)) ?_ | refine ex_false (by first | decide | omega | assumption | exact (fun h => h rfl)) ?_ | refine ex_dec (fun _ => ?_) (fun _ => ?_) | refine ex_u8 _ rfl (by omega) (by omega) ?_ | refine ex_i64 _ rfl (by omega) (by omega) ?_ | refine ex_u64 _ rfl (by omega) (by omega) ?_ | refine and_mk (by first | omega | (with_reducible rfl) | (show drawOk _ _ _ = true; kernel_rfl)) ?_ | refine and_mk ⟨_, rfl⟩ ?_ | refine ex_is _ (List.length_map _) ?_ | refine ex_is _ List.length_nil ?_ | fail "no step")
    exact TLe.rfl
  · rw [if_neg hp]
    refine fn_rule (C := ⟨Tryd.prog, layF, Tryd.f11.ntmps, Γ0, 0, [], []⟩) layF_ok mixed Tryd.func11 rfl (by kernel_rfl) rfl rfl rfl ?_
    repeat' (first | refine ex_call h0 ?_ | refine ex_call h1 ?_ | refine ex_true (by first | decide | omega | assumption | (with_reducible exact rfl)) ?_ | refine ex_false (by first | decide | omega | assumption | exact (fun h => h rfl)) ?_ | refine ex_dec (fun _ => ?_) (fun _ => ?_) | refine ex_u8 _ rfl (by omega) (by omega) ?_ | refine ex_i64 _ rfl (by omega) (by omega) ?_ | refine ex_u64 _ rfl (by omega) (by omega) ?_ | refine and_mk (by first | omega | (with_reducible rfl) | (show drawOk _ _ _ = true; kernel_rfl)) ?_ | refine and_mk ⟨_, rfl⟩ ?_ | refine ex_is _ (List.length_map _) ?_ | refine ex_is _ List.length_nil ?_ | fail "no step")
    exact TLe.rfl
theorem op_lt_c (a b : Nat) (ha : a < 18446744073709551616) (hb : b < 18446744073709551616) : CallsA Tryd.prog Γ0 11 [c1 (ds (⟨#[60]⟩ : ByteArray)), c1 (du a), c1 (du b)] (opT (if a < b then 1 else 0, 0)) := by
  have h1 : CallsA Tryd.prog Γ0 _ _ _ := truth_c true
  have h0 : CallsA Tryd.prog Γ0 _ _ _ := truth_c false
  rw [if_pos rfl] at h1
  rw [if_neg (by decide)] at h0
  by_cases hp : a < b
  · rw [if_pos hp]
    refine fn_rule (C := ⟨Tryd.prog, layF, Tryd.f11.ntmps, Γ0, 0, [], []⟩) layF_ok mixed Tryd.func11 rfl (by kernel_rfl) rfl rfl rfl ?_
    repeat' (first | refine ex_call h0 ?_ | refine ex_call h1 ?_ | refine ex_true (by first | decide | omega | assumption | (with_reducible exact rfl)) ?_ | refine ex_false (by first | decide | omega | assumption | exact (fun h => h rfl)) ?_ | refine ex_dec (fun _ => ?_) (fun _ => ?_) | refine ex_u8 _ rfl (by omega) (by omega) ?_ | refine ex_i64 _ rfl (by omega) (by omega) ?_ | refine ex_u64 _ rfl (by omega) (by omega) ?_ | refine and_mk (by first | omega | (with_reducible rfl) | (show drawOk _ _ _ = true; kernel_rfl)) ?_ | refine and_mk ⟨_, rfl⟩ ?_ | refine ex_is _ (List.length_map _) ?_ | refine ex_is _ List.length_nil ?_ | fail "no step")
    exact TLe.rfl
  · rw [if_neg hp]
    refine fn_rule (C := ⟨Tryd.prog, layF, Tryd.f11.ntmps, Γ0, 0, [], []⟩) layF_ok mixed Tryd.func11 rfl (by kernel_rfl) rfl rfl rfl ?_
    repeat' (first | refine ex_call h0 ?_ | refine ex_call h1 ?_ | refine ex_true (by first | decide | omega | assumption | (with_reducible exact rfl)) ?_ | refine ex_false (by first | decide | omega | assumption | exact (fun h => h rfl)) ?_ | refine ex_dec (fun _ => ?_) (fun _ => ?_) | refine ex_u8 _ rfl (by omega) (by omega) ?_ | refine ex_i64 _ rfl (by omega) (by omega) ?_ | refine ex_u64 _ rfl (by omega) (by omega) ?_ | refine and_mk (by first | omega | (with_reducible rfl) | (show drawOk _ _ _ = true; kernel_rfl)) ?_ | refine and_mk ⟨_, rfl⟩ ?_ | refine ex_is _ (List.length_map _) ?_ | refine ex_is _ List.length_nil ?_ | fail "no step")
    exact TLe.rfl
theorem op_le_c (a b : Nat) (ha : a < 18446744073709551616) (hb : b < 18446744073709551616) : CallsA Tryd.prog Γ0 11 [c1 (ds (⟨#[60, 61]⟩ : ByteArray)), c1 (du a), c1 (du b)] (opT (if a ≤ b then 1 else 0, 0)) := by
  have h1 : CallsA Tryd.prog Γ0 _ _ _ := truth_c true
  have h0 : CallsA Tryd.prog Γ0 _ _ _ := truth_c false
  rw [if_pos rfl] at h1
  rw [if_neg (by decide)] at h0
  by_cases hp : a ≤ b
  · rw [if_pos hp]
    refine fn_rule (C := ⟨Tryd.prog, layF, Tryd.f11.ntmps, Γ0, 0, [], []⟩) layF_ok mixed Tryd.func11 rfl (by kernel_rfl) rfl rfl rfl ?_
    repeat' (first | refine ex_call h0 ?_ | refine ex_call h1 ?_ | refine ex_true (by first | decide | omega | assumption | (with_reducible exact rfl)) ?_ | refine ex_false (by first | decide | omega | assumption | exact (fun h => h rfl)) ?_ | refine ex_dec (fun _ => ?_) (fun _ => ?_) | refine ex_u8 _ rfl (by omega) (by omega) ?_ | refine ex_i64 _ rfl (by omega) (by omega) ?_ | refine ex_u64 _ rfl (by omega) (by omega) ?_ | refine and_mk (by first | omega | (with_reducible rfl) | (show drawOk _ _ _ = true; kernel_rfl)) ?_ | refine and_mk ⟨_, rfl⟩ ?_ | refine ex_is _ (List.length_map _) ?_ | refine ex_is _ List.length_nil ?_ | fail "no step")
    exact TLe.rfl
  · rw [if_neg hp]
    refine fn_rule (C := ⟨Tryd.prog, layF, Tryd.f11.ntmps, Γ0, 0, [], []⟩) layF_ok mixed Tryd.func11 rfl (by kernel_rfl) rfl rfl rfl ?_
    repeat' (first | refine ex_call h0 ?_ | refine ex_call h1 ?_ | refine ex_true (by first | decide | omega | assumption | (with_reducible exact rfl)) ?_ | refine ex_false (by first | decide | omega | assumption | exact (fun h => h rfl)) ?_ | refine ex_dec (fun _ => ?_) (fun _ => ?_) | refine ex_u8 _ rfl (by omega) (by omega) ?_ | refine ex_i64 _ rfl (by omega) (by omega) ?_ | refine ex_u64 _ rfl (by omega) (by omega) ?_ | refine and_mk (by first | omega | (with_reducible rfl) | (show drawOk _ _ _ = true; kernel_rfl)) ?_ | refine and_mk ⟨_, rfl⟩ ?_ | refine ex_is _ (List.length_map _) ?_ | refine ex_is _ List.length_nil ?_ | fail "no step")
    exact TLe.rfl
theorem op_gt_c (a b : Nat) (ha : a < 18446744073709551616) (hb : b < 18446744073709551616) : CallsA Tryd.prog Γ0 11 [c1 (ds (⟨#[62]⟩ : ByteArray)), c1 (du a), c1 (du b)] (opT (if b < a then 1 else 0, 0)) := by
  have h1 : CallsA Tryd.prog Γ0 _ _ _ := truth_c true
  have h0 : CallsA Tryd.prog Γ0 _ _ _ := truth_c false
  rw [if_pos rfl] at h1
  rw [if_neg (by decide)] at h0
  by_cases hp : b < a
  · rw [if_pos hp]
    refine fn_rule (C := ⟨Tryd.prog, layF, Tryd.f11.ntmps, Γ0, 0, [], []⟩) layF_ok mixed Tryd.func11 rfl (by kernel_rfl) rfl rfl rfl ?_
    repeat' (first | refine ex_call h0 ?_ | refine ex_call h1 ?_ | refine ex_true (by first | decide | omega | assumption | (with_reducible exact rfl)) ?_ | refine ex_false (by first | decide | omega | assumption | exact (fun h => h rfl)) ?_ | refine ex_dec (fun _ => ?_) (fun _ => ?_) | refine ex_u8 _ rfl (by omega) (by omega) ?_ | refine ex_i64 _ rfl (by omega) (by omega) ?_ | refine ex_u64 _ rfl (by omega) (by omega) ?_ | refine and_mk (by first | omega | (with_reducible rfl) | (show drawOk _ _ _ = true; kernel_rfl)) ?_ | refine and_mk ⟨_, rfl⟩ ?_ | refine ex_is _ (List.length_map _) ?_ | refine ex_is _ List.length_nil ?_ | fail "no step")
    exact TLe.rfl
  · rw [if_neg hp]
    refine fn_rule (C := ⟨Tryd.prog, layF, Tryd.f11.ntmps, Γ0, 0, [], []⟩) layF_ok mixed Tryd.func11 rfl (by kernel_rfl) rfl rfl rfl ?_
    repeat' (first | refine ex_call h0 ?_ | refine ex_call h1 ?_ | refine ex_true (by first | decide | omega | assumption | (with_reducible exact rfl)) ?_ | refine ex_false (by first | decide | omega | assumption | exact (fun h => h rfl)) ?_ | refine ex_dec (fun _ => ?_) (fun _ => ?_) | refine ex_u8 _ rfl (by omega) (by omega) ?_ | refine ex_i64 _ rfl (by omega) (by omega) ?_ | refine ex_u64 _ rfl (by omega) (by omega) ?_ | refine and_mk (by first | omega | (with_reducible rfl) | (show drawOk _ _ _ = true; kernel_rfl)) ?_ | refine and_mk ⟨_, rfl⟩ ?_ | refine ex_is _ (List.length_map _) ?_ | refine ex_is _ List.length_nil ?_ | fail "no step")
    exact TLe.rfl
theorem op_ge_c (a b : Nat) (ha : a < 18446744073709551616) (hb : b < 18446744073709551616) : CallsA Tryd.prog Γ0 11 [c1 (ds (⟨#[62, 61]⟩ : ByteArray)), c1 (du a), c1 (du b)] (opT (if b ≤ a then 1 else 0, 0)) := by
  have h1 : CallsA Tryd.prog Γ0 _ _ _ := truth_c true
  have h0 : CallsA Tryd.prog Γ0 _ _ _ := truth_c false
  rw [if_pos rfl] at h1
  rw [if_neg (by decide)] at h0
  by_cases hp : b ≤ a
  · rw [if_pos hp]
    refine fn_rule (C := ⟨Tryd.prog, layF, Tryd.f11.ntmps, Γ0, 0, [], []⟩) layF_ok mixed Tryd.func11 rfl (by kernel_rfl) rfl rfl rfl ?_
    repeat' (first | refine ex_call h0 ?_ | refine ex_call h1 ?_ | refine ex_true (by first | decide | omega | assumption | (with_reducible exact rfl)) ?_ | refine ex_false (by first | decide | omega | assumption | exact (fun h => h rfl)) ?_ | refine ex_dec (fun _ => ?_) (fun _ => ?_) | refine ex_u8 _ rfl (by omega) (by omega) ?_ | refine ex_i64 _ rfl (by omega) (by omega) ?_ | refine ex_u64 _ rfl (by omega) (by omega) ?_ | refine and_mk (by first | omega | (with_reducible rfl) | (show drawOk _ _ _ = true; kernel_rfl)) ?_ | refine and_mk ⟨_, rfl⟩ ?_ | refine ex_is _ (List.length_map _) ?_ | refine ex_is _ List.length_nil ?_ | fail "no step")
    exact TLe.rfl
  · rw [if_neg hp]
    refine fn_rule (C := ⟨Tryd.prog, layF, Tryd.f11.ntmps, Γ0, 0, [], []⟩) layF_ok mixed Tryd.func11 rfl (by kernel_rfl) rfl rfl rfl ?_
    repeat' (first | refine ex_call h0 ?_ | refine ex_call h1 ?_ | refine ex_true (by first | decide | omega | assumption | (with_reducible exact rfl)) ?_ | refine ex_false (by first | decide | omega | assumption | exact (fun h => h rfl)) ?_ | refine ex_dec (fun _ => ?_) (fun _ => ?_) | refine ex_u8 _ rfl (by omega) (by omega) ?_ | refine ex_i64 _ rfl (by omega) (by omega) ?_ | refine ex_u64 _ rfl (by omega) (by omega) ?_ | refine and_mk (by first | omega | (with_reducible rfl) | (show drawOk _ _ _ = true; kernel_rfl)) ?_ | refine and_mk ⟨_, rfl⟩ ?_ | refine ex_is _ (List.length_map _) ?_ | refine ex_is _ List.length_nil ?_ | fail "no step")
    exact TLe.rfl
theorem op_both_c (a b : Nat) (ha : a < 18446744073709551616) (hb : b < 18446744073709551616) : CallsA Tryd.prog Γ0 11 [c1 (ds (⟨#[38, 38]⟩ : ByteArray)), c1 (du a), c1 (du b)] (opT (if a ≠ 0 ∧ b ≠ 0 then 1 else 0, 0)) := by
  have h1 : CallsA Tryd.prog Γ0 _ _ _ := truth_c true
  have h0 : CallsA Tryd.prog Γ0 _ _ _ := truth_c false
  rw [if_pos rfl] at h1
  rw [if_neg (by decide)] at h0
  by_cases ha0 : a = 0
  · by_cases hb0 : b = 0
    · rw [if_neg (by omega)]
      refine fn_rule (C := ⟨Tryd.prog, layF, Tryd.f11.ntmps, Γ0, 0, [], []⟩) layF_ok mixed Tryd.func11 rfl (by kernel_rfl) rfl rfl rfl ?_
      repeat' (first | refine ex_call h0 ?_ | refine ex_call h1 ?_ | refine ex_true (by first | decide | omega | assumption | (with_reducible exact rfl)) ?_ | refine ex_false (by first | decide | omega | assumption | exact (fun h => h rfl)) ?_ | refine ex_dec (fun _ => ?_) (fun _ => ?_) | refine ex_u8 _ rfl (by omega) (by omega) ?_ | refine ex_i64 _ rfl (by omega) (by omega) ?_ | refine ex_u64 _ rfl (by omega) (by omega) ?_ | refine and_mk (by first | omega | (with_reducible rfl) | (show drawOk _ _ _ = true; kernel_rfl)) ?_ | refine and_mk ⟨_, rfl⟩ ?_ | refine ex_is _ (List.length_map _) ?_ | refine ex_is _ List.length_nil ?_ | fail "no step")
      exact TLe.rfl
    · rw [if_neg (by omega)]
      refine fn_rule (C := ⟨Tryd.prog, layF, Tryd.f11.ntmps, Γ0, 0, [], []⟩) layF_ok mixed Tryd.func11 rfl (by kernel_rfl) rfl rfl rfl ?_
      repeat' (first | refine ex_call h0 ?_ | refine ex_call h1 ?_ | refine ex_true (by first | decide | omega | assumption | (with_reducible exact rfl)) ?_ | refine ex_false (by first | decide | omega | assumption | exact (fun h => h rfl)) ?_ | refine ex_dec (fun _ => ?_) (fun _ => ?_) | refine ex_u8 _ rfl (by omega) (by omega) ?_ | refine ex_i64 _ rfl (by omega) (by omega) ?_ | refine ex_u64 _ rfl (by omega) (by omega) ?_ | refine and_mk (by first | omega | (with_reducible rfl) | (show drawOk _ _ _ = true; kernel_rfl)) ?_ | refine and_mk ⟨_, rfl⟩ ?_ | refine ex_is _ (List.length_map _) ?_ | refine ex_is _ List.length_nil ?_ | fail "no step")
      exact TLe.rfl
  · by_cases hb0 : b = 0
    · rw [if_neg (by omega)]
      refine fn_rule (C := ⟨Tryd.prog, layF, Tryd.f11.ntmps, Γ0, 0, [], []⟩) layF_ok mixed Tryd.func11 rfl (by kernel_rfl) rfl rfl rfl ?_
      repeat' (first | refine ex_call h0 ?_ | refine ex_call h1 ?_ | refine ex_true (by first | decide | omega | assumption | (with_reducible exact rfl)) ?_ | refine ex_false (by first | decide | omega | assumption | exact (fun h => h rfl)) ?_ | refine ex_dec (fun _ => ?_) (fun _ => ?_) | refine ex_u8 _ rfl (by omega) (by omega) ?_ | refine ex_i64 _ rfl (by omega) (by omega) ?_ | refine ex_u64 _ rfl (by omega) (by omega) ?_ | refine and_mk (by first | omega | (with_reducible rfl) | (show drawOk _ _ _ = true; kernel_rfl)) ?_ | refine and_mk ⟨_, rfl⟩ ?_ | refine ex_is _ (List.length_map _) ?_ | refine ex_is _ List.length_nil ?_ | fail "no step")
      exact TLe.rfl
    · rw [if_pos (by omega)]
      refine fn_rule (C := ⟨Tryd.prog, layF, Tryd.f11.ntmps, Γ0, 0, [], []⟩) layF_ok mixed Tryd.func11 rfl (by kernel_rfl) rfl rfl rfl ?_
      repeat' (first | refine ex_call h0 ?_ | refine ex_call h1 ?_ | refine ex_true (by first | decide | omega | assumption | (with_reducible exact rfl)) ?_ | refine ex_false (by first | decide | omega | assumption | exact (fun h => h rfl)) ?_ | refine ex_dec (fun _ => ?_) (fun _ => ?_) | refine ex_u8 _ rfl (by omega) (by omega) ?_ | refine ex_i64 _ rfl (by omega) (by omega) ?_ | refine ex_u64 _ rfl (by omega) (by omega) ?_ | refine and_mk (by first | omega | (with_reducible rfl) | (show drawOk _ _ _ = true; kernel_rfl)) ?_ | refine and_mk ⟨_, rfl⟩ ?_ | refine ex_is _ (List.length_map _) ?_ | refine ex_is _ List.length_nil ?_ | fail "no step")
      exact TLe.rfl
theorem op_either_c (a b : Nat) (ha : a < 18446744073709551616) (hb : b < 18446744073709551616) : CallsA Tryd.prog Γ0 11 [c1 (ds (⟨#[124, 124]⟩ : ByteArray)), c1 (du a), c1 (du b)] (opT (if a ≠ 0 ∨ b ≠ 0 then 1 else 0, 0)) := by
  have h1 : CallsA Tryd.prog Γ0 _ _ _ := truth_c true
  have h0 : CallsA Tryd.prog Γ0 _ _ _ := truth_c false
  rw [if_pos rfl] at h1
  rw [if_neg (by decide)] at h0
  by_cases ha0 : a = 0
  · by_cases hb0 : b = 0
    · rw [if_neg (by omega)]
      refine fn_rule (C := ⟨Tryd.prog, layF, Tryd.f11.ntmps, Γ0, 0, [], []⟩) layF_ok mixed Tryd.func11 rfl (by kernel_rfl) rfl rfl rfl ?_
      repeat' (first | refine ex_call h0 ?_ | refine ex_call h1 ?_ | refine ex_true (by first | decide | omega | assumption | (with_reducible exact rfl)) ?_ | refine ex_false (by first | decide | omega | assumption | exact (fun h => h rfl)) ?_ | refine ex_dec (fun _ => ?_) (fun _ => ?_) | refine ex_u8 _ rfl (by omega) (by omega) ?_ | refine ex_i64 _ rfl (by omega) (by omega) ?_ | refine ex_u64 _ rfl (by omega) (by omega) ?_ | refine and_mk (by first | omega | (with_reducible rfl) | (show drawOk _ _ _ = true; kernel_rfl)) ?_ | refine and_mk ⟨_, rfl⟩ ?_ | refine ex_is _ (List.length_map _) ?_ | refine ex_is _ List.length_nil ?_ | fail "no step")
      exact TLe.rfl
    · rw [if_pos (by omega)]
      refine fn_rule (C := ⟨Tryd.prog, layF, Tryd.f11.ntmps, Γ0, 0, [], []⟩) layF_ok mixed Tryd.func11 rfl (by kernel_rfl) rfl rfl rfl ?_
      repeat' (first | refine ex_call h0 ?_ | refine ex_call h1 ?_ | refine ex_true (by first | decide | omega | assumption | (with_reducible exact rfl)) ?_ | refine ex_false (by first | decide | omega | assumption | exact (fun h => h rfl)) ?_ | refine ex_dec (fun _ => ?_) (fun _ => ?_) | refine ex_u8 _ rfl (by omega) (by omega) ?_ | refine ex_i64 _ rfl (by omega) (by omega) ?_ | refine ex_u64 _ rfl (by omega) (by omega) ?_ | refine and_mk (by first | omega | (with_reducible rfl) | (show drawOk _ _ _ = true; kernel_rfl)) ?_ | refine and_mk ⟨_, rfl⟩ ?_ | refine ex_is _ (List.length_map _) ?_ | refine ex_is _ List.length_nil ?_ | fail "no step")
      exact TLe.rfl
  · by_cases hb0 : b = 0
    · rw [if_pos (by omega)]
      refine fn_rule (C := ⟨Tryd.prog, layF, Tryd.f11.ntmps, Γ0, 0, [], []⟩) layF_ok mixed Tryd.func11 rfl (by kernel_rfl) rfl rfl rfl ?_
      repeat' (first | refine ex_call h0 ?_ | refine ex_call h1 ?_ | refine ex_true (by first | decide | omega | assumption | (with_reducible exact rfl)) ?_ | refine ex_false (by first | decide | omega | assumption | exact (fun h => h rfl)) ?_ | refine ex_dec (fun _ => ?_) (fun _ => ?_) | refine ex_u8 _ rfl (by omega) (by omega) ?_ | refine ex_i64 _ rfl (by omega) (by omega) ?_ | refine ex_u64 _ rfl (by omega) (by omega) ?_ | refine and_mk (by first | omega | (with_reducible rfl) | (show drawOk _ _ _ = true; kernel_rfl)) ?_ | refine and_mk ⟨_, rfl⟩ ?_ | refine ex_is _ (List.length_map _) ?_ | refine ex_is _ List.length_nil ?_ | fail "no step")
      exact TLe.rfl
    · rw [if_pos (by omega)]
      refine fn_rule (C := ⟨Tryd.prog, layF, Tryd.f11.ntmps, Γ0, 0, [], []⟩) layF_ok mixed Tryd.func11 rfl (by kernel_rfl) rfl rfl rfl ?_
      repeat' (first | refine ex_call h0 ?_ | refine ex_call h1 ?_ | refine ex_true (by first | decide | omega | assumption | (with_reducible exact rfl)) ?_ | refine ex_false (by first | decide | omega | assumption | exact (fun h => h rfl)) ?_ | refine ex_dec (fun _ => ?_) (fun _ => ?_) | refine ex_u8 _ rfl (by omega) (by omega) ?_ | refine ex_i64 _ rfl (by omega) (by omega) ?_ | refine ex_u64 _ rfl (by omega) (by omega) ?_ | refine and_mk (by first | omega | (with_reducible rfl) | (show drawOk _ _ _ = true; kernel_rfl)) ?_ | refine and_mk ⟨_, rfl⟩ ?_ | refine ex_is _ (List.length_map _) ?_ | refine ex_is _ List.length_nil ?_ | fail "no step")
      exact TLe.rfl
end Go.Proofs.YtblobabhdmigiaaDoor

namespace Go.Proofs.YtblobabhdmigiaaDoor
set_option linter.unusedVariables false
set_option linter.unusedSimpArgs false
open Go.RowKit
set_option maxRecDepth 100000

abbrev opOf (s : List UInt8) (p : Nat × Nat) : Prop := CallsA Tryd.prog Γ0 11 [c1 (ds (bs s)), c1 (du (1 : Nat)), c1 (du (1 : Nat))] (opT p)
theorem alus_ok : ∀ s ∈ alusL, ∃ p : Nat, CallsA Tryd.prog Γ0 11 [c1 (ds (bs s)), c1 (du (1 : Nat)), c1 (du (1 : Nat))] (opT (p, 0)) := by
  intro s hs
  simp only [alusL, List.mem_cons, List.not_mem_nil, or_false] at hs
  rcases hs with rfl | rfl | rfl | rfl | rfl | rfl | rfl | rfl | rfl | rfl | rfl | rfl | rfl | rfl | rfl | rfl | rfl
  · exact ⟨_, op_add_c 1 1 (by decide) (by decide)⟩
  · exact ⟨_, op_sub_c 1 1 (by decide) (by decide)⟩
  · exact ⟨_, op_mul_c 1 1 (by decide) (by decide)⟩
  · exact ⟨_, op_div_c 1 1 (by decide) (by decide)⟩
  · exact ⟨_, op_rem_c 1 1 (by decide) (by decide)⟩
  · exact ⟨_, op_and_c 1 1 (by decide) (by decide)⟩
  · exact ⟨_, op_or_c 1 1 (by decide) (by decide)⟩
  · exact ⟨_, op_shl_c 1 1 (by decide) (by decide)⟩
  · exact ⟨_, op_shr_c 1 1 (by decide) (by decide)⟩
  · exact ⟨_, op_eq_c 1 1 (by decide) (by decide)⟩
  · exact ⟨_, op_ne_c 1 1 (by decide) (by decide)⟩
  · exact ⟨_, op_lt_c 1 1 (by decide) (by decide)⟩
  · exact ⟨_, op_le_c 1 1 (by decide) (by decide)⟩
  · exact ⟨_, op_gt_c 1 1 (by decide) (by decide)⟩
  · exact ⟨_, op_ge_c 1 1 (by decide) (by decide)⟩
  · exact ⟨_, op_both_c 1 1 (by decide) (by decide)⟩
  · exact ⟨_, op_either_c 1 1 (by decide) (by decide)⟩
theorem codeTable_c (o : Int) (ho : I64 o) : CallsA Tryd.prog ΓC 3 [c1 (di o)] (Tb true) := by
  have hw := wakes_c
  have ha := alus_c
  refine fn_rule (C := ⟨Tryd.prog, layF, Tryd.f3.ntmps, ΓC, 0, [], []⟩) layF_ok mixed Tryd.func3 rfl (by kernel_rfl) rfl rfl rfl ?_
  repeat' (first | refine ex_true (by first | decide | omega | assumption | (with_reducible exact rfl)) ?_ | refine ex_false (by first | decide | omega | assumption | exact (fun h => h rfl)) ?_ | refine ex_dec (fun _ => ?_) (fun _ => ?_) | refine ex_u8 _ rfl (by omega) (by omega) ?_ | refine ex_i64 _ rfl (by omega) (by omega) ?_ | refine ex_u64 _ rfl (by omega) (by omega) ?_ | refine and_mk (by first | omega | (with_reducible rfl) | (show drawOk _ _ _ = true; kernel_rfl)) ?_ | refine and_mk ⟨_, rfl⟩ ?_ | refine ex_is _ (List.length_map _) ?_ | refine ex_is _ List.length_nil ?_ | fail "no step")
  refine ex_loop (X := Nat × Int) (fun ⟨q, z⟩ => ⟨[(0, Ti o), (3, Ti z)], [], 0⟩) (fun x => 38 - x.1) (fun ⟨q, z⟩ => q ≤ 38 ∧ z = (q : Int) - 1) (0, -1) ⟨by omega, rfl⟩ (SLe.of ⟨⟨rfl, rfl, trivial⟩, trivial⟩) ?_
  rintro ⟨q, z⟩ ⟨hq, hz⟩
  by_cases hq2 : q < 38
  · repeat' (first | refine (ex_is 2 rfl) ?_ | refine ex_true (by first | decide | omega | assumption | (with_reducible exact rfl)) ?_ | refine ex_false (by first | decide | omega | assumption | exact (fun h => h rfl)) ?_ | refine ex_dec (fun _ => ?_) (fun _ => ?_) | refine ex_u8 _ rfl (by omega) (by omega) ?_ | refine ex_i64 _ rfl (by omega) (by omega) ?_ | refine ex_u64 _ rfl (by omega) (by omega) ?_ | refine and_mk (by first | omega | (with_reducible rfl) | (show drawOk _ _ _ = true; kernel_rfl)) ?_ | refine and_mk ⟨_, rfl⟩ ?_ | refine ex_is _ (List.length_map _) ?_ | refine ex_is _ List.length_nil ?_ | fail "no step")
    refine ex_loop (X := Nat) (fun k => ⟨[(0, Ti o), (3, Ti z), (21, .o (.c (.row 0))), (22, Ti 2), (23, Ti k)], [(0, .row 1 3 ([o, z].map fun z => [di z]))], 1⟩) (fun k => 2 - k) (fun k => k ≤ 2) 0 (Nat.zero_le _) (SLe.of ⟨⟨rfl, rfl, rfl, rfl, rfl, trivial⟩, ⟨rfl, trivial⟩⟩) ?_
    intro k hk
    by_cases hk2 : k < 2
    · obtain ⟨x, hx⟩ : ∃ x, [o, z][k]? = some x := ⟨_, at_some (by simpa using hk2)⟩
      have hql : ((k : Nat) : Int).toNat < ([o, z].map fun z => [di z]).length := by rw [Int.toNat_natCast]; simpa using hk2
      have h1 := name_c x
      have h2 := takes_c x
      have h3 := (rop_c x).of0 (Γ := ΓC)
      generalize opF x = r at *
      obtain ⟨a1, a2, a3, a4⟩ := r
      repeat' (first | refine ex_call h3 ?_ | refine ex_call h2 ?_ | refine ex_call h1 ?_ | refine ex_i64 ((k + 1 : Nat) : Int) (by omega) (by omega) (by omega) ?_ | refine ex_u64 ((k + 1 : Nat) : Int) (by omega) (by omega) (by omega) ?_ | refine ex_u8 ((k + 1 : Nat) : Int) (by omega) (by omega) (by omega) ?_ | refine (ex_agg (by kernel_rfl) true (eq_same (by kernel_rfl) (by kernel_rfl))) ?_ | refine (ex_at k x hx) ?_ | refine (and_mk hql) ?_ | refine ex_true (by first | decide | omega | assumption | (with_reducible exact rfl)) ?_ | refine ex_false (by first | decide | omega | assumption | exact (fun h => h rfl)) ?_ | refine ex_dec (fun _ => ?_) (fun _ => ?_) | refine ex_u8 _ rfl (by omega) (by omega) ?_ | refine ex_i64 _ rfl (by omega) (by omega) ?_ | refine ex_u64 _ rfl (by omega) (by omega) ?_ | refine and_mk (by first | omega | (with_reducible rfl) | (show drawOk _ _ _ = true; kernel_rfl)) ?_ | refine and_mk ⟨_, rfl⟩ ?_ | refine ex_is _ (List.length_map _) ?_ | refine ex_is _ List.length_nil ?_ | fail "no step")
      exact ex_round (k + 1) (by show k + 1 ≤ 2; omega) (by show _ - _ < _ - _; omega) (SLe.of ⟨⟨rfl, rfl, rfl, rfl, rfl, trivial⟩, ⟨rfl, trivial⟩⟩)
    · repeat' (first | refine ex_true (by first | decide | omega | assumption | (with_reducible exact rfl)) ?_ | refine ex_false (by first | decide | omega | assumption | exact (fun h => h rfl)) ?_ | refine ex_dec (fun _ => ?_) (fun _ => ?_) | refine ex_u8 _ rfl (by omega) (by omega) ?_ | refine ex_i64 _ rfl (by omega) (by omega) ?_ | refine ex_u64 _ rfl (by omega) (by omega) ?_ | refine and_mk (by first | omega | (with_reducible rfl) | (show drawOk _ _ _ = true; kernel_rfl)) ?_ | refine and_mk ⟨_, rfl⟩ ?_ | refine ex_is _ (List.length_map _) ?_ | refine ex_is _ List.length_nil ?_ | fail "no step")
      exact ex_round (q + 1, _) ⟨by omega, by omega⟩ (by show _ - _ < _ - _; omega) (SLe.of ⟨⟨rfl, rfl, trivial⟩, trivial⟩)
  · repeat' (first | refine ex_call ha ?_ | refine ex_true (by first | decide | omega | assumption | (with_reducible exact rfl)) ?_ | refine ex_false (by first | decide | omega | assumption | exact (fun h => h rfl)) ?_ | refine ex_dec (fun _ => ?_) (fun _ => ?_) | refine ex_u8 _ rfl (by omega) (by omega) ?_ | refine ex_i64 _ rfl (by omega) (by omega) ?_ | refine ex_u64 _ rfl (by omega) (by omega) ?_ | refine and_mk (by first | omega | (with_reducible rfl) | (show drawOk _ _ _ = true; kernel_rfl)) ?_ | refine and_mk ⟨_, rfl⟩ ?_ | refine ex_is _ (List.length_map _) ?_ | refine ex_is _ List.length_nil ?_ | fail "no step")
    refine ex_loop (X := Nat) (fun q => ⟨[(51, .o (c1 (dss alusL))), (52, Ti alusL.length), (53, Ti q)], [], 0⟩) (fun q => 17 - q) (fun q => q ≤ 17) 0 (Nat.zero_le _) (SLe.of ⟨⟨rfl, rfl, rfl, trivial⟩, trivial⟩) ?_
    intro q hq
    have hl : alusL.length = 17 := rfl
    by_cases hql : q < 17
    · have hx : alusL[q]? = some (alusL[q]'(by omega)) := at_some (by omega)
      obtain ⟨p, hp⟩ := alus_ok (alusL[q]'(by omega)) (List.getElem_mem _)
      generalize alusL[q]'(by omega) = s at *
      have hp := hp.of0 (Γ := ΓC)
      repeat' (first | refine ex_call hp ?_ | refine (ex_row q s rfl hx) ?_ | refine ex_true (by first | decide | omega | assumption | (with_reducible exact rfl)) ?_ | refine ex_false (by first | decide | omega | assumption | exact (fun h => h rfl)) ?_ | refine ex_dec (fun _ => ?_) (fun _ => ?_) | refine ex_u8 _ rfl (by omega) (by omega) ?_ | refine ex_i64 _ rfl (by omega) (by omega) ?_ | refine ex_u64 _ rfl (by omega) (by omega) ?_ | refine and_mk (by first | omega | (with_reducible rfl) | (show drawOk _ _ _ = true; kernel_rfl)) ?_ | refine and_mk ⟨_, rfl⟩ ?_ | refine ex_is _ (List.length_map _) ?_ | refine ex_is _ List.length_nil ?_ | fail "no step")
      exact ex_round (q + 1) (by show q + 1 ≤ 17; omega) (by show _ - _ < _ - _; omega) (SLe.of ⟨⟨rfl, rfl, rfl, trivial⟩, trivial⟩)
    · repeat' (first | refine ex_call ha ?_ | refine ex_call hw ?_ | refine (ex_row 9 [61, 61] rfl rfl) ?_ | refine (ex_row 16 [124, 124] rfl rfl) ?_ | refine (ex_row 0 [43] rfl rfl) ?_ | refine ex_true (by first | decide | omega | assumption | (with_reducible exact rfl)) ?_ | refine ex_false (by first | decide | omega | assumption | exact (fun h => h rfl)) ?_ | refine ex_dec (fun _ => ?_) (fun _ => ?_) | refine ex_u8 _ rfl (by omega) (by omega) ?_ | refine ex_i64 _ rfl (by omega) (by omega) ?_ | refine ex_u64 _ rfl (by omega) (by omega) ?_ | refine and_mk (by first | omega | (with_reducible rfl) | (show drawOk _ _ _ = true; kernel_rfl)) ?_ | refine and_mk ⟨_, rfl⟩ ?_ | refine ex_is _ (List.length_map _) ?_ | refine ex_is _ List.length_nil ?_ | fail "no step")
      exact TLe.rfl
end Go.Proofs.YtblobabhdmigiaaDoor

namespace Go.Proofs.YtblobabhdmigiaaDoor
set_option linter.unusedVariables false
set_option linter.unusedSimpArgs false
open Go.ChangeShapes Go.WideShapes Go.ChangeAt Go.RowKit

theorem own : ownKnob Tryd.prog.godebug = none := by kernel_rfl
theorem laidOut : laidOutB Tryd.prog = true := by kernel_rfl

section
variable {H : Type} {enc : TypeId × Value → H} {P : Program} {W W' : World}

theorem trodAll_below (hl : laidOutB P = true) (hb : Below W.heap.size W W') : ∀ (ts : List TypeId) (vs : List Value) (ds : List (DataW H)) (ps : List MemPlace), (∀ t ∈ ts, P.readableRec t = true ∧ t < P.types.size) →
    DataW.TrodAll enc P W 0 (fun _ => true) true ts vs ds ps → (∀ x ∈ ps, x.block < W.heap.size) → DataW.TrodAll enc P W' 0 (fun b => decide (b < W.heap.size)) true ts vs ds ps
  | [], [], [], _, _, h, _ => h
  | t :: ts, v :: vs, d :: ds, ps, hr, h, hlt => by
    obtain ⟨p, q, h1, h2, rfl⟩ := h
    have ht := hr t (by simp)
    exact ⟨p, q, Below.trod hl ht.1 ht.2 h1 hb (fun x hx => hlt x (by simp [hx])), trodAll_below hl hb ts vs ds q (fun t' h' => hr t' (by simp [h'])) h2 (fun x hx => hlt x (by simp [hx])), rfl⟩
  | [], [], _ :: _, _, _, h, _ => h.elim
  | [], _ :: _, _, _, _, h, _ => h.elim
  | _ :: _, [], _, _, _, h, _ => h.elim
  | _ :: _, _ :: _, [], _, _, h, _ => h.elim

/-- A law's row: true, and every argument reads as it did. -/
theorem law_post {f : Func} {s : ChangeSpec} {args : Array Value} {ds : List (DataW H)} {before : List MemPlace} {tb : TypeId} (hl : laidOutB P = true)
    (hW : DataW.Whole enc P f.params.toList s.vars false W args.toList ds [] before) (hsv : s.vars = []) (hr0 : (f.params.toList.all fun t => P.readableRec t && decide (t < P.types.size)) = true)
    (hrt : f.resultTypes = #[tb]) (htb : P.underlying tb = some .bool) (h1 : (s.fn H (ds ++ [])).results = [.lit (.bool true)]) (h2 : (s.fn H (ds ++ [])).args = ds) (h3 : (s.fn H (ds ++ [])).vars = [])
    (hb : Below W.heap.size W W') : s.post enc P f false true false false W args (.bool true) W' := by
  have hr : ∀ t ∈ f.params.toList, P.readableRec t = true ∧ t < P.types.size := fun t ht => by simpa using List.all_eq_true.1 hr0 t ht
  have hlt : ∀ p ∈ before, p.block < W.heap.size := fun p hp => hW.lt p hp
  have hW0 := hW
  obtain ⟨p, q, hA, hV, rfl, _, _⟩ := hW0
  rw [hsv] at hV
  obtain rfl : q = [] := hV
  refine ⟨ds, [], _, [], p, [], hW, ?_, ?_, ?_, hb.frame _, fun h => by cases h⟩
  · rw [h1, hrt]
    exact trodAll_mk1 (shut_bool htb true)
  · rw [h2]
    exact trodAll_below hl hb _ _ _ _ hr hA (fun x hx => hlt x (by simp [hx]))
  · rw [h3, hsv]; rfl
end

section
variable {H : Type} {enc : TypeId × Value → H} {P : Program} {w : World} {base : Nat} {sp : Nat → Bool} {held : Bool}

theorem okWide_array {r : Reach} {b : Nat} {t e : TypeId} {n : Nat} {v : Value} (ht : P.underlying t = some (.array n e)) (h : Value.okWide P w r b t v) : ∃ cs, v = .agg cs ∧ cs.size = P.cellsOf t := by
  simp only [Value.okWide, ht] at h
  obtain ⟨cs, h1, h2, _⟩ := h
  exact ⟨cs, h1, h2⟩

/-- An array of integers by value. -/
theorem open_int_array {r : Reach} {b0 : Nat} {t e : TypeId} {n : Nat} {k : IntKind} {v : Value} {d : DataW H} {ps : List MemPlace} (ht : P.underlying t = some (.array n e)) (he : P.underlying e = some (.int k)) (hc : P.cellsOf e = 1) (hn : P.cellsOf t = n)
    (hval : Value.okWide P w r b0 t v) (hd : DataW.Trod enc P w base sp held t v d ps) : ∃ zs : List Int, zs.length = n ∧ v = .agg (zs.map (Value.int k)).toArray ∧ ∀ z ∈ zs, (Lit.int k z).wf = true := by
  obtain ⟨cs, rfl, hs⟩ := okWide_array ht hval
  obtain ⟨fuel, hf⟩ := hd
  obtain ⟨xs, m, _, _, hl, hx, hall⟩ := DataW.trod_array ht hf
  have hcs : (Value.agg cs).cells.toList = cs.toList := rfl
  rw [hcs] at hl hall
  have hlen : cs.toList.length = n := by rw [hl, hn]
  have key : ∀ i, (h : i < cs.toList.length) → ∃ z, cs.toList[i] = .int k z ∧ (Lit.int k z).wf = true := by
    intro i h
    have h1 := hall i (by omega)
    rw [hc, Nat.mul_one, List.take_one, List.head?_drop, List.getElem?_eq_getElem h, List.getElem?_eq_getElem (by omega)] at h1
    obtain ⟨z, hz, _, hw⟩ := DataW.trod_int he h1
    exact ⟨z, by simpa using hz, hw⟩
  have all : ∀ l : List Value, (∀ i, (h : i < l.length) → ∃ z, l[i] = .int k z ∧ (Lit.int k z).wf = true) → ∃ zs : List Int, zs.length = l.length ∧ l = zs.map (Value.int k) ∧ ∀ z ∈ zs, (Lit.int k z).wf = true := by
    intro l
    induction l with
    | nil => exact fun _ => ⟨[], rfl, rfl, by simp⟩
    | cons c l ih =>
      intro h
      obtain ⟨z, hz, hw⟩ := h 0 (by simp)
      obtain ⟨zs, h1, h2, h3⟩ := ih (fun i hi => by obtain ⟨z', h', w'⟩ := h (i + 1) (by simpa using hi); exact ⟨z', h', w'⟩)
      refine ⟨z :: zs, by simp [h1], ?_, ?_⟩
      · simp only [List.map_cons]
        rw [← h2, ← hz]; rfl
      · intro y hy
        rcases List.mem_cons.1 hy with rfl | hy
        · exact hw
        · exact h3 y hy
  obtain ⟨zs, h1, h2, h3⟩ := all cs.toList key
  exact ⟨zs, by rw [h1, hlen], by rw [← h2], h3⟩

theorem len2 {zs : List Int} (h : zs.length = 2) : ∃ a b, zs = [a, b] := by
  match zs, h with
  | [a, b], _ => exact ⟨a, b, rfl⟩
theorem len3 {zs : List Int} (h : zs.length = 3) : ∃ a b c, zs = [a, b, c] := by
  match zs, h with
  | [a, b, c], _ => exact ⟨a, b, c, rfl⟩
theorem len4 {zs : List Int} (h : zs.length = 4) : ∃ a b c d, zs = [a, b, c, d] := by
  match zs, h with
  | [a, b, c, d], _ => exact ⟨a, b, c, d, rfl⟩

theorem wf_i64 {n : Int} (h : (Lit.int .i64 n).wf = true) : -9223372036854775808 ≤ n ∧ n ≤ 9223372036854775807 := by
  have h1 : IntKind.i64.min = -9223372036854775808 := rfl
  have h2 : IntKind.i64.max = 9223372036854775807 := rfl
  simpa [Lit.wf, h1, h2] using h
theorem wf_u64 {n : Int} (h : (Lit.int .u64 n).wf = true) : 0 ≤ n ∧ n ≤ 18446744073709551615 := by
  have h1 : IntKind.u64.min = 0 := rfl
  have h2 : IntKind.u64.max = 18446744073709551615 := rfl
  simpa [Lit.wf, h1, h2] using h
theorem wf_u32 {n : Int} (h : (Lit.int .u32 n).wf = true) : 0 ≤ n ∧ n ≤ 4294967295 := by
  have h1 : IntKind.u32.min = 0 := rfl
  have h2 : IntKind.u32.max = 4294967295 := rfl
  simpa [Lit.wf, h1, h2] using h
theorem wf_u16 {n : Int} (h : (Lit.int .u16 n).wf = true) : 0 ≤ n ∧ n ≤ 65535 := by
  have h1 : IntKind.u16.min = 0 := rfl
  have h2 : IntKind.u16.max = 65535 := rfl
  simpa [Lit.wf, h1, h2] using h
theorem wf_u8 {n : Int} (h : (Lit.int .u8 n).wf = true) : 0 ≤ n ∧ n ≤ 255 := by
  have h1 : IntKind.u8.min = 0 := rfl
  have h2 : IntKind.u8.max = 255 := rfl
  simpa [Lit.wf, h1, h2] using h
end
end Go.Proofs.YtblobabhdmigiaaDoor

namespace Go.Proofs.YtblobabhdmigiaaDoor
set_option linter.unusedVariables false
set_option linter.unusedSimpArgs false
open Go.ChangeShapes Go.WideShapes Go.ChangeAt Go.RowKit

def tilesF (P : Program) : Nat → List Field → Nat → Bool
  | o, [], n => Nat.beq o n
  | o, f :: fs, n => Nat.beq f.offset o && tilesF P (o + P.cellsOf f.type) fs n
/-- Is a type one that is read, to so many levels? -/
def okT (P : Program) : Nat → TypeId → Bool
  | 0, _ => false
  | d + 1, t => match P.underlying t with
    | some .bool | some (.int _) | some .string => true
    | some (.slice e) => Nat.blt 0 (P.cellsOf e) && okT P d e
    | some (.array n e) => Nat.beq (n * P.cellsOf e) (P.cellsOf t) && okT P d e
    | some (.struct fs) => tilesF P 0 fs.toList (P.cellsOf t) && fs.toList.all fun f => okT P d f.type
    | _ => false
/-- What the cells of a value of a type read as. -/
def DT (P : Program) : Nat → TypeId → List D → Prop
  | 0, _, _ => False
  | d + 1, t, ds => match P.underlying t with
    | some .bool => ∃ b, ds = [.v (.bool b)]
    | some (.int k) => ∃ z, ds = [.v (.int k z)] ∧ (Lit.int k z).wf = true
    | some .string => ∃ s, ds = [.v (.string s)] ∧ s.size ≤ maxLen
    | some (.slice e) => ∃ rows, ds = [.sl (P.cellsOf e) rows] ∧ rows.length ≤ maxLen ∧ ∀ r ∈ rows, DT P d e r
    | some (.array n e) => ∃ ps : List (List D), ps.length = n ∧ ds = ps.flatten ∧ ∀ p ∈ ps, DT P d e p
    | some (.struct fs) => ∃ ps : List (List D), ds = ps.flatten ∧ All2 (fun (f : Field) p => DT P d f.type p) fs.toList ps
    | _ => False
theorem choose_list {α : Type} {Q : Nat → α → Prop} : ∀ {n : Nat}, (∀ i, i < n → ∃ a, Q i a) → ∃ L : List α, L.length = n ∧ ∀ i a, L[i]? = some a → Q i a
  | 0, _ => ⟨[], rfl, fun i a h => by simp at h⟩
  | n + 1, h => by
    obtain ⟨L, h1, h2⟩ := choose_list (n := n) (fun i hi => h i (by omega))
    obtain ⟨a, ha⟩ := h n (by omega)
    refine ⟨L ++ [a], by simp [h1], fun i b hb => ?_⟩
    rw [List.getElem?_append] at hb
    split at hb
    · exact h2 i b hb
    · rename_i hlt
      have hi : i - L.length = 0 := by
        rcases Nat.eq_zero_or_pos (i - L.length) with h | h
        · exact h
        · rw [List.getElem?_eq_none (by simp; omega)] at hb; cases hb
      rw [hi] at hb
      simp at hb
      obtain rfl : i = n := by omega
      rw [← hb]; exact ha
theorem flatten_at {α : Type} {size : Nat} (h0 : 0 < size) : ∀ {rows : List (List α)} (_ : ∀ r ∈ rows, r.length = size) {j : Nat} {d : α}, rows.flatten[j]? = some d → ∃ r, rows[j / size]? = some r ∧ r[j % size]? = some d
  | [], _, j, d, h => by simp at h
  | a :: rows, hr, j, d, h => by
    have ha := hr a (by simp)
    by_cases hj : j < size
    · rw [List.flatten_cons, List.getElem?_append_left (by omega)] at h
      rw [Nat.div_eq_of_lt hj, Nat.mod_eq_of_lt hj]
      exact ⟨a, rfl, h⟩
    · rw [List.flatten_cons, List.getElem?_append_right (by omega), ha] at h
      obtain ⟨r, h1, h2⟩ := flatten_at h0 (fun r hr' => hr r (by simp [hr'])) h
      refine ⟨r, ?_, ?_⟩
      · rw [show j / size = (j - size) / size + 1 by rw [Nat.div_eq_sub_div h0 (by omega)]]
        simpa using h1
      · rw [Nat.mod_eq_sub_mod (by omega)]; exact h2
/-- All memory of a world. -/
def Sall (w : World) : Nat → Prop := fun b => b < w.heap.size
theorem cell_lt {w : World} {a : Addr} {u : Value} (h : w.cell? a = some u) : a.block < w.heap.size ∧ a.spot = none := by
  unfold World.cell? at h
  split at h
  · rename_i c t f hc
    refine ⟨(Array.getElem?_eq_some_iff.1 hc).1, ?_⟩
    split at h
    · cases h
    · rename_i hs
      cases hsp : a.spot with
      | none => rfl
      | some k => rw [hsp] at hs; simp at hs
  · cases h
theorem cells_get {w : World} {base : Nat} {a : Addr} {n : Nat} {cs : List Value} (h : w.cells? base a n = some cs) : cs.length = n ∧ ∀ i, i < n → w.cell? (a.add i) = cs[i]? := by
  unfold World.cells? at h
  split at h
  · obtain ⟨h1, h2⟩ := mapM_isSome h
    rw [List.length_range] at h1
    refine ⟨h1.symm, fun i hi => ?_⟩
    obtain ⟨b, hb1, hb2⟩ := h2 i i (by simp [hi])
    rw [hb1, hb2]
  · cases h
section
variable {H : Type} {enc : TypeId × Value → H} {P : Program} {w : World} {base : Nat} {sp : Nat → Bool} {held : Bool}
theorem parts_all {R : D → Value → Prop} {T : Field → List D → Prop} : ∀ (fs : List Field) (o : Nat) (cs : List Value) (n : Nat), cs.length = n → tilesF P o fs n = true → o ≤ n →
    (∀ f ∈ fs, ∃ ds, T f ds ∧ All2 R ds ((cs.drop f.offset).take (P.cellsOf f.type))) → ∃ ps : List (List D), All2 T fs ps ∧ All2 R ps.flatten (cs.drop o)
  | [], o, cs, n, hl, ht, _, _ => by
    have : o = n := Nat.eq_of_beq_eq_true ht
    exact ⟨[], .nil, by rw [List.drop_of_length_le (by omega)]; exact .nil⟩
  | f :: fs, o, cs, n, hl, ht, ho, h => by
    simp only [tilesF, Bool.and_eq_true] at ht
    have ho' : f.offset = o := Nat.eq_of_beq_eq_true ht.1
    obtain ⟨ds, h1, h2⟩ := h f (by simp)
    have hle : o + P.cellsOf f.type ≤ n := by
      have key : ∀ (fs : List Field) (o : Nat), tilesF P o fs n = true → o ≤ n := fun fs => by
        induction fs with
        | nil => intro o h; exact Nat.le_of_eq (Nat.eq_of_beq_eq_true h)
        | cons g gs ih =>
          intro o h
          simp only [tilesF, Bool.and_eq_true] at h
          have := ih _ h.2
          omega
      exact key fs _ ht.2
    obtain ⟨ps, h3, h4⟩ := parts_all fs _ cs n hl ht.2 hle (fun g hg => h g (by simp [hg]))
    refine ⟨ds :: ps, .cons h1 h3, ?_⟩
    rw [List.flatten_cons, ho'] at *
    have := h2.append h4
    rwa [← List.drop_drop, List.take_append_drop] at this
theorem trod_dt : ∀ (d fuel : Nat) (t : TypeId) (cs : List Value) (x : DataW H × List MemPlace), okT P d t = true → DataW.trod enc P w base sp held fuel t cs = some x → ∃ ds, DT P d t ds ∧ All2 (Imm (Sall w) w) ds cs
  | 0, _, _, _, _, h, _ => by cases h
  | d + 1, fuel, t, cs, x, hok, h => by
    unfold okT at hok
    unfold DT
    split at hok
    · rename_i hu
      obtain ⟨b, rfl, _⟩ := DataW.trod_bool hu h
      exact ⟨_, ⟨b, rfl⟩, .cons (Imm.v rfl) .nil⟩
    · rename_i k hu
      obtain ⟨n, rfl, _, hw⟩ := DataW.trod_int hu h
      exact ⟨_, ⟨n, rfl, hw⟩, .cons (Imm.v rfl) .nil⟩
    · rename_i hu
      obtain ⟨s, rfl, _, hs⟩ := DataW.trod_string hu h
      exact ⟨_, ⟨s, rfl, hs⟩, .cons (Imm.v rfl) .nil⟩
    · rename_i e hu
      simp only [Bool.and_eq_true] at hok
      have h0 : 0 < P.cellsOf e := Nat.lt_of_succ_le (Nat.le_of_ble_eq_true hok.1)
      rcases DataW.trod_slice hu h with ⟨rfl, _⟩ | ⟨a, len, cap, elems, rest, n, _, rfl, _, _, hlc, hcm, hel, hel2, _⟩
      · exact ⟨_, ⟨[], rfl, by simp, by simp⟩, .cons Imm.nil .nil⟩
      · have hone : ∀ i, i < len → ∃ ds, DT P d e ds ∧ ∃ cs', w.cells? base (a.add (i * P.cellsOf e)) (P.cellsOf e) = some cs' ∧ All2 (Imm (Sall w) w) ds cs' := fun i hi => by
          have h1 := hel2 i hi
          rw [List.getElem?_eq_getElem (by omega)] at h1
          obtain ⟨cs', h2, h3⟩ := Option.bind_eq_some_iff.1 h1
          obtain ⟨ds, h4, h5⟩ := trod_dt d n e cs' _ hok.2 h3
          exact ⟨ds, h4, cs', h2, h5⟩
        obtain ⟨rows, hr1, hr2⟩ := choose_list hone
        have hrm : ∀ r ∈ rows, ∃ i, i < len ∧ rows[i]? = some r := fun r hr => by
          obtain ⟨i, hi⟩ := List.getElem?_of_mem hr
          exact ⟨i, by have := (List.getElem?_eq_some_iff.1 hi).1; omega, hi⟩
        have hdt : ∀ r ∈ rows, DT P d e r := fun r hr => by
          obtain ⟨i, _, hi⟩ := hrm r hr
          exact (hr2 i r hi).1
        have hrl : ∀ r ∈ rows, r.length = P.cellsOf e := fun r hr => by
          obtain ⟨i, _, hi⟩ := hrm r hr
          obtain ⟨_, cs', h2, h3⟩ := hr2 i r hi
          rw [h3.len, (cells_get h2).1]
        refine ⟨_, ⟨rows, rfl, by omega, hdt⟩, .cons ?_ .nil⟩
        by_cases hz : len = 0
        · subst hz
          obtain rfl := List.eq_nil_of_length_eq_zero hr1
          exact Imm.sl0
        · obtain ⟨r0, _, cs0, h2, _⟩ := hone 0 (by omega)
          have h3 := (cells_get h2).2 0 h0
          rw [Nat.zero_mul] at h3
          have e0 : (a.add 0).add 0 = a := rfl
          rw [e0, List.getElem?_eq_getElem (by rw [(cells_get h2).1]; exact h0)] at h3
          obtain ⟨hb, hs⟩ := cell_lt h3
          obtain ⟨g, f, spot⟩ := a
          simp only at hs hb
          subst hs
          rw [← hr1]
          have hat : ∀ j dd, rows.flatten[j]? = some dd → ∃ u, w.cell? ⟨g, f + j, none⟩ = some u ∧ Imm (Sall w) w dd u := fun j dd hj => by
            obtain ⟨r, e1, e2⟩ := flatten_at h0 hrl hj
            obtain ⟨_, cs', e3, e4⟩ := hr2 _ r e1
            obtain ⟨u, e5, e6⟩ := e4.at_left e2
            refine ⟨u, ?_, e6⟩
            have e7 := (cells_get e3).2 (j % P.cellsOf e) (Nat.mod_lt _ h0)
            rw [Addr.add_lit, Addr.add_lit, e5] at e7
            rw [← e7]
            congr 2
            rw [Nat.add_assoc, Nat.mul_comm, Nat.div_add_mod]
          refine Imm.sl (fun j => (w.cell? ⟨g, f + j, none⟩).getD undef) hb (by omega) hrl (fun j dd hj => ?_) (fun j dd hj => ?_)
          · obtain ⟨u, e1, _⟩ := hat j dd hj
            rw [e1]; rfl
          · obtain ⟨u, e1, e2⟩ := hat j dd hj
            rw [e1]; exact e2
    · rename_i n e hu
      simp only [Bool.and_eq_true] at hok
      have hn : n * P.cellsOf e = P.cellsOf t := Nat.eq_of_beq_eq_true hok.1
      obtain ⟨xs, m, _, _, hl, hx, hall⟩ := DataW.trod_array hu h
      have hone : ∀ i, i < n → ∃ ds, DT P d e ds ∧ All2 (Imm (Sall w) w) ds ((cs.drop (i * P.cellsOf e)).take (P.cellsOf e)) := fun i hi => by
        have h1 := hall i hi
        rw [List.getElem?_eq_getElem (by omega)] at h1
        exact trod_dt d m e _ _ hok.2 h1
      obtain ⟨ps, hp1, hp2⟩ := choose_list hone
      refine ⟨ps.flatten, ⟨ps, hp1, rfl, fun p hp => ?_⟩, ?_⟩
      · obtain ⟨i, hi⟩ := List.getElem?_of_mem hp
        exact (hp2 i p hi).1
      · have key : ∀ (ps : List (List D)) (o : Nat), (∀ i p, ps[i]? = some p → All2 (Imm (Sall w) w) p ((cs.drop ((o + i) * P.cellsOf e)).take (P.cellsOf e))) → (o + ps.length) * P.cellsOf e = cs.length → All2 (Imm (Sall w) w) ps.flatten (cs.drop (o * P.cellsOf e)) := fun ps => by
          induction ps with
          | nil => intro o _ hlen; rw [List.drop_of_length_le (by simp at hlen; omega)]; exact .nil
          | cons p ps ih =>
            intro o hp hlen
            have h1 := hp 0 p rfl
            have h2 := ih (o + 1) (fun i q hq => by have := hp (i + 1) q (by simpa using hq); rwa [show o + 1 + i = o + (i + 1) by omega]) (by rw [← hlen, List.length_cons]; congr 1; omega)
            rw [List.flatten_cons]
            have := h1.append h2
            rwa [Nat.add_zero, Nat.add_mul, Nat.one_mul, ← List.drop_drop, List.take_append_drop] at this
        have := key ps 0 (fun i p hi => by rw [Nat.zero_add]; exact (hp2 i p hi).2) (by rw [Nat.zero_add, hp1, hn, hl])
        simpa using this
    · rename_i fs hu
      simp only [Bool.and_eq_true] at hok
      obtain ⟨xs, m, _, _, hl, hx, hall⟩ := DataW.trod_struct hu h
      obtain ⟨ps, h1, h2⟩ := parts_all (R := Imm (Sall w) w) (T := fun f p => DT P d f.type p) fs.toList 0 cs _ hl hok.1 (Nat.zero_le _) (fun f hf => by
        obtain ⟨i, hi⟩ := List.getElem?_of_mem hf
        have hlt := (List.getElem?_eq_some_iff.1 hi).1
        have h1 := hall i f (by simpa using hi)
        rw [List.getElem?_eq_getElem (by simp at hlt; omega)] at h1
        exact trod_dt d m f.type _ _ (List.all_eq_true.1 hok.2 f hf) h1)
      exact ⟨ps.flatten, ⟨ps, rfl, h1⟩, by simpa using h2⟩
    · cases hok
/-- An argument that came in reads as data of its type. -/
theorem open_dt {d : Nat} {r : Reach} {b0 : Nat} {t : TypeId} {v : Value} {dd : DataW H} {ps : List MemPlace} (hok : okT P d t = true) (hag : (P.underlying t).map aggD = some false) (hval : Value.okWide P w r b0 t v) (hd : DataW.Trod enc P w base sp held t v dd ps) :
    ∃ x, DT P d t [x] ∧ Imm (Sall w) w x v := by
  obtain ⟨fuel, hf⟩ := hd
  obtain ⟨ds, h1, h2⟩ := trod_dt d fuel t _ _ hok hf
  have hone : v.oneCell' = true := by
    cases d with
    | zero => cases hok
    | succ d =>
      unfold okT at hok
      split at hok
      · rename_i hu; obtain ⟨b, rfl⟩ := okWide_bool hu hval; rfl
      · rename_i hu; obtain ⟨n, rfl⟩ := okWide_int hu hval; rfl
      · rename_i hu; obtain ⟨s, rfl⟩ := okWide_string hu hval; rfl
      · rename_i hu; obtain ⟨a, l, c, rfl⟩ := okWide_slice hu hval; rfl
      · rename_i hu; rw [hu] at hag; cases hag
      · rename_i hu; rw [hu] at hag; cases hag
      · cases hok
  rw [oneCell_cells hone] at h2
  have hl := h2.len
  match ds, h2, hl with
  | [x], h2, _ => exact ⟨x, h1, h2.head⟩
end
end Go.Proofs.YtblobabhdmigiaaDoor

namespace Go.Proofs.YtblobabhdmigiaaDoor
set_option linter.unusedVariables false
set_option linter.unusedSimpArgs false
open Go.ChangeShapes Go.WideShapes Go.ChangeAt Go.RowKit

inductive FlatX {H : Type} : DataW H → List Value → Prop
  | lit {l : Lit} : FlatX (.lit l) [l.value]
  | agg {ps : List (DataW H)} {vss : List (List Value)} (hl : ps.length = vss.length) (h : ∀ (i : Nat) p vs, ps[i]? = some p → vss[i]? = some vs → FlatX p vs) : FlatX (.agg ps) vss.flatten
theorem FlatX.of {H : Type} {α : Type} {f : α → DataW H} {g : α → List Value} (l : List α) (h : ∀ a ∈ l, FlatX (f a) (g a)) : FlatX (.agg (l.map f)) (l.flatMap g) := by
  rw [List.flatMap_def]
  refine .agg (by simp) (fun i p vs hp hv => ?_)
  rw [List.getElem?_map] at hp hv
  cases hi : l[i]? with
  | none => rw [hi] at hp; cases hp
  | some a =>
    rw [hi] at hp hv
    cases hp; cases hv
    exact h a (List.mem_of_getElem? hi)
section
variable {H : Type} {enc : TypeId × Value → H} {P : Program} {w : World} {base : Nat} {sp : Nat → Bool} {held : Bool}
theorem tile_eq {cs : List Value} {n : Nat} (hl : cs.length = n) : ∀ (fs : List Field) (vss : List (List Value)) (o : Nat), tilesF P o fs n = true → o ≤ n → fs.length = vss.length →
    (∀ (i : Nat) f vs, fs[i]? = some f → vss[i]? = some vs → (cs.drop f.offset).take (P.cellsOf f.type) = vs) → cs.drop o = vss.flatten
  | [], [], o, ht, _, _, _ => by
    have : o = n := Nat.eq_of_beq_eq_true ht
    rw [List.drop_of_length_le (by omega)]; rfl
  | [], _ :: _, _, _, _, h, _ => by simp at h
  | _ :: _, [], _, _, _, h, _ => by simp at h
  | f :: fs, vs :: vss, o, ht, ho, hlen, h => by
    simp only [tilesF, Bool.and_eq_true] at ht
    have ho' : f.offset = o := Nat.eq_of_beq_eq_true ht.1
    have h1 := h 0 f vs rfl rfl
    have hle : o + P.cellsOf f.type ≤ n := by
      have key : ∀ (fs : List Field) (o : Nat), tilesF P o fs n = true → o ≤ n := fun fs => by
        induction fs with
        | nil => intro o h; exact Nat.le_of_eq (Nat.eq_of_beq_eq_true h)
        | cons g gs ih =>
          intro o h
          simp only [tilesF, Bool.and_eq_true] at h
          have := ih _ h.2
          omega
      exact key fs _ ht.2
    have h2 := tile_eq hl fs vss _ ht.2 hle (by simpa using hlen) (fun i g us hg hu => h (i + 1) g us hg hu)
    rw [ho'] at h1
    rw [List.flatten_cons, ← h2, ← h1, ← List.drop_drop, List.take_append_drop]
theorem tile_arr {cs : List Value} {k : Nat} : ∀ (vss : List (List Value)) (o : Nat), (∀ (i : Nat) vs, vss[i]? = some vs → (cs.drop ((o + i) * k)).take k = vs) → (o + vss.length) * k = cs.length → cs.drop (o * k) = vss.flatten
  | [], o, _, hl => by rw [List.drop_of_length_le (by simp at hl; omega)]; rfl
  | vs :: vss, o, h, hl => by
    have h1 := h 0 vs rfl
    have h2 := tile_arr vss (o + 1) (fun i us hu => by have := h (i + 1) us (by simpa using hu); rwa [show o + 1 + i = o + (i + 1) by omega]) (by rw [← hl, List.length_cons]; congr 1; omega)
    rw [Nat.add_zero] at h1
    rw [List.flatten_cons, ← h2, ← h1, Nat.add_mul, Nat.one_mul, ← List.drop_drop, List.take_append_drop]
theorem trod_flat : ∀ (d fuel : Nat) (t : TypeId) (cs : List Value) (x : DataW H × List MemPlace) (vs : List Value), okT P d t = true → DataW.trod enc P w base sp held fuel t cs = some x → FlatX x.1 vs → cs = vs
  | 0, _, _, _, _, _, h, _, _ => by cases h
  | d + 1, fuel, t, cs, x, vs, hok, h, hf => by
    unfold okT at hok
    split at hok
    · rename_i hu
      obtain ⟨b, rfl, hx⟩ := DataW.trod_bool hu h
      rw [hx] at hf
      cases hf
      rfl
    · rename_i k hu
      obtain ⟨n, rfl, hx, hw⟩ := DataW.trod_int hu h
      rw [hx] at hf
      cases hf
      rfl
    · rename_i hu
      obtain ⟨s, rfl, hx, hs⟩ := DataW.trod_string hu h
      rw [hx] at hf
      cases hf
      simp [Lit.value]
    · rename_i e hu
      rcases DataW.trod_slice hu h with ⟨_, hx⟩ | ⟨a, len, cap, elems, rest, n, _, _, hx, _⟩
      · rw [hx] at hf; cases hf
      · rw [hx] at hf; cases hf
    · rename_i n e hu
      simp only [Bool.and_eq_true] at hok
      have hn : n * P.cellsOf e = P.cellsOf t := Nat.eq_of_beq_eq_true hok.1
      obtain ⟨xs, m, hm, hx, hl, hxx, hall⟩ := DataW.trod_array hu h
      rw [hx] at hf
      generalize hps : xs.map (·.1) = ps at hf
      cases hf with
      | @agg _ vss hlen hf =>
        subst hps
        rw [List.length_map] at hlen
        have := tile_arr (cs := cs) (k := P.cellsOf e) vss 0 (fun i vs hv => by
          rw [Nat.zero_add]
          have hi := (List.getElem?_eq_some_iff.1 hv).1
          have h1 := hall i (by omega)
          have hxi : xs[i]? = some xs[i] := List.getElem?_eq_getElem (by omega)
          rw [hxi] at h1
          exact trod_flat d m e _ _ vs hok.2 h1 (hf i _ vs (by rw [List.getElem?_map, hxi]; rfl) hv)) (by rw [Nat.zero_add, ← hlen, hxx, hn, hl])
        simpa using this
    · rename_i fs hu
      simp only [Bool.and_eq_true] at hok
      obtain ⟨xs, m, hm, hx, hl, hxx, hall⟩ := DataW.trod_struct hu h
      rw [hx] at hf
      generalize hps : xs.map (·.1) = ps at hf
      cases hf with
      | @agg _ vss hlen hf =>
        subst hps
        rw [List.length_map] at hlen
        have hxx : xs.length = fs.toList.length := by simpa using hxx
        have := tile_eq (P := P) hl fs.toList vss 0 hok.1 (Nat.zero_le _) (by omega) (fun i f vs hi hv => by
          have hlt := (List.getElem?_eq_some_iff.1 hi).1
          have h1 := hall i f (by simpa using hi)
          have hxi : xs[i]? = some xs[i] := List.getElem?_eq_getElem (by omega)
          rw [hxi] at h1
          exact trod_flat d m f.type _ _ vs (List.all_eq_true.1 hok.2 f (List.mem_of_getElem? hi)) h1 (hf i _ vs (by rw [List.getElem?_map, hxi]; rfl) hv))
        simpa using this
    · cases hok
end
end Go.Proofs.YtblobabhdmigiaaDoor

namespace Go.Proofs.YtblobabhdmigiaaDoor
set_option linter.unusedVariables false
set_option linter.unusedSimpArgs false
open Go.ChangeShapes Go.WideShapes Go.ChangeAt Go.RowKit
set_option maxRecDepth 100000

set_option maxRecDepth 100000

theorem iface_open {P : Program} {w : World} {base fuel : Nat} {sp : Nat → Bool} {held : Bool} {enc : TypeId × Value → Unit} {t : TypeId} {l : List Value} {x : DataW Unit × List MemPlace} {ms : Array (String × TypeId)} (hi : P.underlying t = some (.interface ms))
    (hd : DataW.trod enc P w base sp held fuel t l = some x) : l = [.nilIface] ∨ ∃ u v, l = [.iface u v] := by
  cases fuel with
  | zero => cases hd
  | succ f =>
    simp only [DataW.trod, hi] at hd
    split at hd <;> first | exact .inl rfl | exact .inr ⟨_, _, rfl⟩ | (cases hd; done) | (rename_i h1; cases h1; done) | (rename_i h1 h2; cases h1; done) | (rename_i h1 h2 h3; cases h1; done)
theorem errAt_of {W : World} {n : String} {g : Nat} {cs : Array Value} (hg : Tryd.prog.globalNamed n = some g) (hv : W.var? Tryd.prog n = some cs) (h : cs.toList = [.nilIface] ∨ ∃ u v, cs.toList = [.iface u v]) : ErrAt W g ∧ g < W.heap.size := by
  have hc : ∀ ev, cs.toList = [ev] → W.cell? ⟨g, 0, none⟩ = some ev := fun ev he => by
    rw [World.var?_cell hg hv 0]
    have : cs = #[ev] := by cases cs; simpa using he
    rw [this]; rfl
  refine ⟨?_, ?_⟩
  · rcases h with h | ⟨u, v, h⟩
    · exact ⟨_, hc _ h, .inl rfl⟩
    · exact ⟨_, hc _ h, .inr ⟨u, v, rfl⟩⟩
  · unfold World.var? at hv
    rw [hg] at hv
    simp only [Option.bind_some] at hv
    by_cases hl : g < W.heap.size
    · exact hl
    · rw [Array.getElem?_eq_none (by omega)] at hv; cases hv
set_option maxRecDepth 100000

theorem list_of {α : Type} {f : α → List D} {p : α → Prop} : ∀ {rows : List (List D)}, (∀ r ∈ rows, ∃ x, p x ∧ r = f x) → ∃ l : List α, rows = l.map f ∧ ∀ x ∈ l, p x
  | [], _ => ⟨[], rfl, by simp⟩
  | r :: rows, h => by
    obtain ⟨x, h1, h2⟩ := h r (by simp)
    obtain ⟨l, h3, h4⟩ := list_of (rows := rows) (f := f) (p := p) (fun q hq => h q (List.mem_cons_of_mem _ hq))
    refine ⟨x :: l, by rw [h2, h3]; rfl, fun y hy => ?_⟩
    rcases List.mem_cons.1 hy with rfl | hy
    · exact h1
    · exact h4 y hy
section
variable {P : Program} {d : Nat} {t : TypeId} {ds : List D}
theorem DT_int {k : IntKind} (hu : P.underlying t = some (.int k)) (h : DT P (d + 1) t ds) : ∃ z, ds = [.v (.int k z)] ∧ (Lit.int k z).wf = true := by
  unfold DT at h; rw [hu] at h; exact h
theorem DT_bool (hu : P.underlying t = some .bool) (h : DT P (d + 1) t ds) : ∃ b, ds = [.v (.bool b)] := by
  unfold DT at h; rw [hu] at h; exact h
theorem DT_str (hu : P.underlying t = some .string) (h : DT P (d + 1) t ds) : ∃ s, ds = [.v (.string s)] ∧ s.size ≤ maxLen := by
  unfold DT at h; rw [hu] at h; exact h
theorem DT_slice {e : TypeId} (hu : P.underlying t = some (.slice e)) (h : DT P (d + 1) t ds) : ∃ rows, ds = [.sl (P.cellsOf e) rows] ∧ rows.length ≤ maxLen ∧ ∀ r ∈ rows, DT P d e r := by
  unfold DT at h; rw [hu] at h; exact h
theorem DT_struct {fs : Array Field} (hu : P.underlying t = some (.struct fs)) (h : DT P (d + 1) t ds) : ∃ ps : List (List D), ds = ps.flatten ∧ All2 (fun (f : Field) p => DT P d f.type p) fs.toList ps := by
  unfold DT at h; rw [hu] at h; exact h
theorem DT_array {n : Nat} {e : TypeId} (hu : P.underlying t = some (.array n e)) (h : DT P (d + 1) t ds) : ∃ ps : List (List D), ps.length = n ∧ ds = ps.flatten ∧ ∀ p ∈ ps, DT P d e p := by
  unfold DT at h; rw [hu] at h; exact h
end
theorem var_lt {W : World} {n : String} {g : Nat} {cs : Array Value} (hg : Tryd.prog.globalNamed n = some g) (hv : W.var? Tryd.prog n = some cs) : g < W.heap.size := by
  unfold World.var? at hv
  rw [hg] at hv
  simp only [Option.bind_some] at hv
  by_cases hl : g < W.heap.size
  · exact hl
  · rw [Array.getElem?_eq_none (by omega)] at hv; cases hv
theorem glob_code {W : World} {laid : List (String × DataW Unit)} (hl : laid = Rows.codeTextRow.laid) (h : laidMetH Tryd.prog laid W) (hs : W.ShapedOpen Tryd.prog) : ΓC.G (Sall W) W := by
  obtain ⟨m, hm⟩ := Tryd.laysM146.s1_3 W hs
  subst hl
  rw [MakeChecks.laidMetH_plain _ _ _ (by kernel_rfl)] at h
  obtain ⟨ps, h, -⟩ := h
  obtain ⟨g1, t1, c1, f1, p1, q1, -, -, -, -, h, -⟩ := h
  obtain ⟨g2, t2, c2, f2, p2, q2, -, -, -, -, h, -⟩ := h
  obtain ⟨g3, t3, c3, f3, p3, q3, hg3, ht3, hv3, hd3, h, -⟩ := h
  obtain ⟨g0, t0, c0, f0, p0, q0, -, -, -, -, h, -⟩ := h
  obtain ⟨g4, t4, c4, f4, p4, q4, hg4, ht4, hv4, hd4, h, -⟩ := h
  obtain ⟨g5, t5, c5, f5, p5, q5, hg5, ht5, hv5, hd5, h, -⟩ := h
  obtain ⟨g6, t6, c6, f6, p6, q6, hg6, ht6, hv6, hd6, h, -⟩ := h
  have hT : Lib.TabIs Tryd.prog W "internal/strconv.uint64pow10" .u64 Lib.pow10Tab := by
    obtain rfl := Option.some.inj ((show Tryd.prog.globalNamed "internal/strconv.uint64pow10" = some 1 by kernel_rfl).symm.trans hg3)
    obtain rfl := Option.some.inj ((show (Tryd.prog.globals[1]?).map (·.type) = some 129 by kernel_rfl).symm.trans ht3)
    unfold Lib.TabIs
    rw [hv3, ← Lib.cells_of_tab Tryd.underlying129 Tryd.underlying32 (by kernel_rfl) (by kernel_rfl) (k := .u64) (zs := Lib.pow10Tab) hd3]
  obtain rfl := Option.some.inj ((show Tryd.prog.globalNamed "strconv.ErrRange" = some 6 by kernel_rfl).symm.trans hg4)
  obtain rfl := Option.some.inj ((show Tryd.prog.globalNamed "strconv.ErrSyntax" = some 5 by kernel_rfl).symm.trans hg5)
  obtain rfl := Option.some.inj ((show Tryd.prog.globalNamed "calliper/code.shapes" = some 0 by kernel_rfl).symm.trans hg6)
  obtain rfl := Option.some.inj ((show (Tryd.prog.globals[6]?).map (·.type) = some 79 by kernel_rfl).symm.trans ht4)
  obtain rfl := Option.some.inj ((show (Tryd.prog.globals[5]?).map (·.type) = some 79 by kernel_rfl).symm.trans ht5)
  obtain rfl := Option.some.inj ((show (Tryd.prog.globals[0]?).map (·.type) = some 92 by kernel_rfl).symm.trans ht6)
  have e4 := errAt_of hg4 hv4 (iface_open Tryd.underlying79 hd4)
  have e5 := errAt_of hg5 hv5 (iface_open Tryd.underlying79 hd5)
  have hc : c6.toList = shapesV := trod_flat 6 _ _ _ _ shapesV (by kernel_rfl) hd6 (FlatX.of (f := fun r : OpR => .agg [.lit (.string r.1), .lit (.int .i64 r.2.1), .lit (.int .i64 r.2.2.1), .lit (.int .i64 r.2.2.2)]) (g := fun r : OpR => [.string (bs r.1), .int .i64 r.2.1, .int .i64 r.2.2.1, .int .i64 r.2.2.2]) opsL (fun r _ =>
    .agg (vss := [[.string (bs r.1)], [.int .i64 r.2.1], [.int .i64 r.2.2.1], [.int .i64 r.2.2.2]]) rfl (fun i p vs hp hv => by
      match i with
      | 0 => cases hp; cases hv; exact .lit
      | 1 => cases hp; cases hv; exact .lit
      | 2 => cases hp; cases hv; exact .lit
      | 3 => cases hp; cases hv; exact .lit
      | i + 4 => cases hp)))
  refine ⟨⟨⟨⟨hT, fun g hg => var_lt hg hv3⟩, e5, e4⟩, ⟨m, hm⟩, (cell_lt hm).1⟩, fun j v hj => ?_, var_lt hg6 hv6⟩
  rw [World.var?_cell hg6 hv6 j]
  rw [← hc] at hj
  rw [← Array.getElem?_toList]; exact hj
theorem dt_funcs {d : Nat} {x : D} (h : DT Tryd.prog (d + 3) 37 [x]) : ∃ fs : List FN, x = .sl 3 (fs.map fnD) ∧ fs.length ≤ 9223372036854775807 ∧ ∀ f ∈ fs, I64 f.e ∧ I64 f.s ∧ I64 f.p := by
  obtain ⟨rows, h1, h2, h3⟩ := DT_slice Tryd.underlying37 h
  obtain ⟨l, h4, h5⟩ := list_of (f := fnD) (p := fun f : FN => I64 f.e ∧ I64 f.s ∧ I64 f.p) (fun r hr => by
    obtain ⟨ps, hl, e1, hp⟩ := DT_array Tryd.underlying23 (h3 r hr)
    match ps, hl with
    | [a, b, c], _ =>
      obtain ⟨z0, rfl, w0⟩ := DT_int Tryd.underlying3 (hp a (by simp))
      obtain ⟨z1, rfl, w1⟩ := DT_int Tryd.underlying3 (hp b (by simp))
      obtain ⟨z2, rfl, w2⟩ := DT_int Tryd.underlying3 (hp c (by simp))
      exact ⟨⟨z0, z1, z2⟩, ⟨wf_i64 w0, wf_i64 w1, wf_i64 w2⟩, e1⟩)
  have e : Tryd.prog.cellsOf 23 = 3 := by kernel_rfl
  rw [e, h4] at h1
  cases h1
  rw [h4, List.length_map] at h2
  exact ⟨l, rfl, h2, h5⟩
theorem dt_instrs {d : Nat} {x : D} (h : DT Tryd.prog (d + 3) 38 [x]) : ∃ l : List IN, x = .sl 4 (l.map inD) ∧ l.length ≤ 9223372036854775807 ∧ ∀ v ∈ l, I64 v.o ∧ I64 v.a ∧ I64 v.b ∧ v.n < 18446744073709551616 := by
  obtain ⟨rows, h1, h2, h3⟩ := DT_slice Tryd.underlying38 h
  obtain ⟨l, h4, h5⟩ := list_of (f := inD) (p := fun v : IN => I64 v.o ∧ I64 v.a ∧ I64 v.b ∧ v.n < 18446744073709551616) (fun r hr => by
    obtain ⟨ps, e1, hp⟩ := DT_struct Tryd.underlying72 (h3 r hr)
    obtain ⟨p0, ps, rfl, q0, hp⟩ := hp.cons_left
    obtain ⟨p1, ps, rfl, q1, hp⟩ := hp.cons_left
    obtain ⟨p2, ps, rfl, q2, hp⟩ := hp.cons_left
    obtain ⟨p3, ps, rfl, q3, hp⟩ := hp.cons_left
    obtain rfl := hp.nil_left
    obtain ⟨z0, rfl, w0⟩ := DT_int Tryd.underlying3 q0
    obtain ⟨z1, rfl, w1⟩ := DT_int Tryd.underlying3 q1
    obtain ⟨z2, rfl, w2⟩ := DT_int Tryd.underlying3 q2
    obtain ⟨z3, rfl, w3⟩ := DT_int Tryd.underlying32 q3
    have h1 := wf_u64 w3
    obtain ⟨n, rfl⟩ := Int.eq_ofNat_of_zero_le h1.1
    exact ⟨⟨z0, z1, z2, n⟩, ⟨wf_i64 w0, wf_i64 w1, wf_i64 w2, by have := h1.2; show n < _; omega⟩, e1⟩)
  have e : Tryd.prog.cellsOf 72 = 4 := by kernel_rfl
  rw [e, h4] at h1
  cases h1
  rw [h4, List.length_map] at h2
  exact ⟨l, rfl, h2, h5⟩
end Go.Proofs.YtblobabhdmigiaaDoor

namespace Go.Proofs.YtblobabhdmigiaaDoor
set_option linter.unusedVariables false
set_option linter.unusedSimpArgs false
open Go.ChangeShapes Go.WideShapes Go.ChangeAt Go.RowKit Go.ChangeMaps
set_option maxRecDepth 100000

theorem codeTable_a (o : Int) (ho : -9223372036854775808 ≤ o ∧ o ≤ 9223372036854775807) : CallsA Tryd.prog ΓC 3 [c1 (di o)] (.o (c1 (db true))) := codeTable_c o ho
namespace codeTable
set_option maxRecDepth 100000 in
theorem lifted (os : Os) (started : os.Started) (H : Type) (enc : TypeId × Value → H) :
    ReturnsInHanded {} Tryd.checked os 3 .any (fun w args => (Rows.codeTableSpec.pre enc Tryd.prog Tryd.f3 Rows.codeTableRow.domain false w args ∧ laidMetH Tryd.prog Rows.codeTableRow.laid w) ∧ sizedMet enc Tryd.prog Tryd.f3 (OpenSpec.ofChange Rows.codeTableSpec) false w args) (Rows.codeTableSpec.post enc Tryd.prog Tryd.f3 false true false false) := by
  show ReturnsInHanded {} Tryd.checked os 3 .any ((OpenSpec.ofChange Rows.codeTableSpec).preRow enc Tryd.prog Tryd.f3 Rows.codeTableRow.domain false Rows.codeTableRow.laid) (((OpenSpec.ofChange Rows.codeTableSpec).at fun _ _ _ => 0).post enc Tryd.prog Tryd.f3 false true false false)
  refine returnsInHanded_of_row (C := Tryd.checked) own started (by kernel_rfl) Tryd.func3
    (ChangeSpec.witness_shaped (enc := enc) (C := Tryd.checked) (os := os) (X := fun w _ => laidMetH Tryd.prog Rows.codeTableRow.laid w) false (World.laidAll Tryd.prog os Rows.codeTableRow.laid) #[.int .i64 0] 8 (World.laidAll_os _ _ _) (World.shaped_of_ZipB (by kernel_rfl) (by kernel_rfl)) (by kernel_rfl) (by kernel_rfl) (by kernel_rfl)
      (by rw [MakeChecks.laidMetH_plain _ _ _ (by kernel_rfl)]; exact laidMet_laidAll _ (by kernel_rfl) (by kernel_rfl))) ?_
  intro W base args ds gs before hval0 hW _ _ hsz0 hLaid hShaped _
  have hsz : (DataW.weightsEach Tryd.prog (Tryd.f3.params.toList ++ Rows.codeTableSpec.plain.varTypes Tryd.prog) (ds ++ gs)).all (· ≤ reachBytes) = true := hsz0
  have hval : ∀ (j : Nat) t v, Tryd.f3.params[j]? = some t → args[j]? = some v → Value.okWide Tryd.prog W .any base t v := hval0
  clear hsz0 hval0
  have hW' := hW
  obtain ⟨p, q, hA0, hV, rfl, hfz, hnd⟩ := hW
  have hA : DataW.TrodAll enc Tryd.prog W 0 (fun _ => true) true Tryd.f3.params.toList args.toList ds p := hA0
  clear hA0
  rw [Tryd.params3] at hA hval hsz
  obtain ⟨v0, vs0, d0, ds0, p0, q0, hargs, rfl, rfl, h0, r0⟩ := trodAll_cons hA
  obtain ⟨rfl, rfl, rfl⟩ := trodAll_nil r0
  obtain rfl : args = #[v0] := by cases args; simp_all
  obtain ⟨rfl, rfl⟩ := trodVars_none hV
  obtain ⟨o, rfl, rfl, rfl, hw0⟩ := open_int Tryd.underlying3 (hval 0 3 v0 rfl rfl) h0
  have w_o := wf_i64 hw0
  refine ((codeTable_a o w_o).2 (Sall W) W [.int .i64 o] (fun _ h => h) (glob_code (by kernel_rfl) hLaid hShaped) (.cons (Imm.v rfl) .nil)).mono fun e W' ⟨xr, _, he, hb, _, _, _, hv⟩ => ?_
  obtain rfl := V_v hv
  subst he
  exact ⟨_, rfl, law_post (ds := [_]) laidOut hW' rfl (by kernel_rfl) rfl Tryd.underlying4 rfl rfl rfl hb⟩

theorem proved : Rows.CodeTableSaid :=
  OpenClaim.holds_of_wide 3 Tryd.f3 rfl rfl rfl rfl rfl rfl rfl ⟨rfl, rfl, rfl, rfl, rfl⟩ rfl rfl rfl rfl rfl (by kernel_rfl) Tryd.func3 (by kernel_rfl)
    (of_decide_eq_true (by kernel_rfl)) (by unfold Func.isWrapper; first | (rw [if_pos (by decide +kernel)]; kernel_rfl) | (rw [if_neg (by decide +kernel)]; exact ⟨rfl, rfl⟩))
    (fun os started H enc _ => lifted os started H enc)
theorem card : Rows.CodeTableCardSaid :=
  Claim7.holds_tied_plain_at .later [] [.data, .data, .data, .data, .sentinel, .sentinel, .data, .pinned] true (true, "f31f7581d06f9d6a98a94627372079b82f998c7446d582bd0ff4c34c3a667b94") true proved (fun _ h => by cases h) (by kernel_rfl) (fun _ h => by cases h) codeTable_row_tie rfl ⟨rfl, rfl⟩ (by kernel_rfl) rfl
    (fun f fn hf hfn => by
      obtain rfl : f = 3 := Option.some.inj ((show Tryd.prog.funcNamed "calliper/calliperlaw14.CodeTable" = some 3 by kernel_rfl).symm.trans hf) |>.symm
      obtain rfl : fn = Tryd.f3 := (Option.some.inj (Tryd.func3.symm.trans hfn)).symm
      exact ⟨by kernel_rfl, fun j t ht => by
        rw [Tryd.params3] at ht
        have hm : t ∈ [3] := by simpa using Array.mem_of_getElem? ht
        have hall : ([3].all fun u => !Tryd.prog.wantsStandIn u) = true := by kernel_rfl
        exact (show Tryd.prog.wantsStandIn t = false by simpa using List.all_eq_true.1 hall t hm)⟩)
    (by kernel_rfl)
end codeTable
end Go.Proofs.YtblobabhdmigiaaDoor
