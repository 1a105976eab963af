/- The reference's digit, bytes. Conditions: at most 2^24 bytes. -/
import Derived.Test.YtkeehnhamkdogaaDoorQ1
namespace Go.Proofs.YtkeehnhamkdogaaDoor
set_option linter.unusedVariables false
set_option linter.unusedSimpArgs false
open Go.RowKit
set_option maxRecDepth 100000

def digI (c : UInt8) : Int := if hexL.contains c = true then (hexI c : Int) else -1
theorem hex_all (c : UInt8) : if 48 ≤ c.toNat ∧ c.toNat ≤ 57 then hexL.contains c = true ∧ hexI c + 48 = c.toNat else if 97 ≤ c.toNat ∧ c.toNat ≤ 102 then hexL.contains c = true ∧ hexI c + 87 = c.toNat else hexL.contains c = false := by
  have h : ∀ n : Fin 256, if 48 ≤ n.val ∧ n.val ≤ 57 then hexL.contains (UInt8.ofNat n.val) = true ∧ hexI (UInt8.ofNat n.val) + 48 = n.val else if 97 ≤ n.val ∧ n.val ≤ 102 then hexL.contains (UInt8.ofNat n.val) = true ∧ hexI (UInt8.ofNat n.val) + 87 = n.val else hexL.contains (UInt8.ofNat n.val) = false := by decide +kernel
  have := h ⟨c.toNat, c.toNat_lt⟩
  rwa [show UInt8.ofNat (⟨c.toNat, c.toNat_lt⟩ : Fin 256).val = c by simp] at this
theorem rdigit_c (c : UInt8) : CallsA Tryd.prog ΓS 74 [c1 (.v (.int .u8 c.toNat))] (Ti (digI c)) := by
  have hc := hex_all c
  have hlt := c.toNat_lt
  refine fn_rule (C := ⟨Tryd.prog, layF, Tryd.f74.ntmps, ΓS, 0, [], []⟩) layF_ok mixed Tryd.func74 rfl (by kernel_rfl) rfl rfl rfl ?_
  refine ex_dec (fun h1 => ?_) (fun h1 => ?_)
  · refine ex_dec (fun h2 => ?_) (fun h2 => ?_)
    · rw [if_pos (by omega)] at hc
      refine ex_u8 ((hexI c : Nat) : Int) (by omega) (by omega) (by omega) ?_
      refine ex_i64 (((hexI c : Nat) : Int)) (by first | rfl | omega | simp) (by omega) (by omega) ?_
      exact TLe.eq (by unfold digI; rw [if_pos hc.1]; rfl)
    · rw [if_neg (by omega)] at hc
      refine ex_dec (fun h3 => ?_) (fun h3 => ?_)
      · refine ex_dec (fun h4 => ?_) (fun h4 => ?_)
        · rw [if_pos (by omega)] at hc
          refine ex_u8 ((hexI c - 10 : Nat) : Int) (by omega) (by omega) (by omega) ?_
          refine ex_i64 (((hexI c - 10 : Nat) : Int)) (by first | rfl | omega | simp) (by omega) (by omega) ?_
          refine ex_i64 (((hexI c : Nat) : Int)) (by first | rfl | omega | simp) (by omega) (by omega) ?_
          exact TLe.eq (by unfold digI; rw [if_pos hc.1]; rfl)
        · rw [if_neg (by omega)] at hc
          exact TLe.eq (by unfold digI; rw [if_neg (by rw [hc]; decide)]; rfl)
      · rw [if_neg (by omega)] at hc
        exact TLe.eq (by unfold digI; rw [if_neg (by rw [hc]; decide)]; rfl)
  · rw [if_neg (by omega), if_neg (by omega)] at hc
    refine ex_dec (fun h3 => ?_) (fun h3 => ?_)
    · exact absurd h3 (by omega)
    · exact TLe.eq (by unfold digI; rw [if_neg (by rw [hc]; decide)]; rfl)
theorem digV_next (s : ByteArray) (a : Nat) : digV s a = if hexL.contains (nextV s a) = true then .ok (hexI (nextV s a)) (a + 1) else .err a 4 := by
  unfold digV nextV
  cases s.data.toList[a]? with
  | none => rfl
  | some c => rfl
/-- What the reference's parser gives: besides, what a failed reading leaves. -/
inductive Q
  | ok (v : PV) (a : Nat)
  | err (p : Nat) (e : Int) (g : PV) (a : Nat)
def Q.v : Q → PV
  | .ok v _ => v
  | .err _ _ g _ => g
def Q.st (s : ByteArray) : Q → Blk
  | .ok _ a => Sta s a 0 0
  | .err p e _ a => Sta s a e p
abbrev zeroV : PV := .mk 0 0 ⟨#[]⟩ []
def R.q : R PV → Q
  | .ok v a => .ok v a
  | .err a e => .err a e zeroV a
def Q.r : Q → R PV
  | .ok v a => .ok v a
  | .err p e _ _ => .err p e
theorem rq (r : R PV) : r.q.r = r := by cases r <;> rfl
abbrev Sta0 (s : ByteArray) (a : Nat) : Blk := Sta s a 0 0
theorem rbytes_c (s : ByteArray) (a : Nat) (ha : a < s.size) (hs : s.size ≤ 16777216) :
    CallsM Tryd.prog ΓS 59 [(0, Sta0 s a)] 1 [.c (.ptr 0 0)] (.o (gD (drow (bytV s (a + 1)).q.v))) [(0, (bytV s (a + 1)).q.st s)] [] := by
  have hr := rraw_c s (a + 1) 0 0 hs
  cases hm : mustV s (a + 1) 34 with
  | err b e =>
    have hn : s.data.toList[a + 1]? ≠ some 34 := fun h => by unfold mustV at hm; rw [if_pos h] at hm; cases hm
    obtain ⟨rfl, rfl⟩ : b = a + 1 ∧ e = 4 := by unfold mustV at hm; rw [if_neg hn] at hm; cases hm; exact ⟨rfl, rfl⟩
    rw [show bytV s (a + 1) = .err (a + 1) 4 by unfold bytV; rw [hm]]
    refine fn_ruleM (C := ⟨Tryd.prog, layF, Tryd.f59.ntmps, ΓS, 1, [], []⟩) layF_ok mixed Tryd.func59 rfl (by kernel_rfl) rfl rfl rfl ?_
    refine ex_i64 (((a + 1 : Nat) : Int)) (by first | rfl | omega | simp) (by omega) (by omega) ?_
    refine ex_callM (CallsM.ren (hr) [0] 2 rfl rfl rfl rfl) ?_
    refine ex_true (fun h => hn ?_) ?_
    · have h34 : nextV s (a + 1) = 34 := u8_eq.1 h
      exact (next_lt h34 (by decide)).2
    refine ex_callM (CallsM.ren ((rfail_c s (a + 1) 0 (a + 1) 4)) [0] 2 rfl rfl rfl rfl) ?_
    exact ⟨rfl, by show TLe _ (.o (gD (drow (.mk _ _ _ _)))); rw [drow_mk]; exact TLe.nil4, rfl, rfl⟩
  | ok u b =>
    obtain ⟨rfl, hb, hbl⟩ := must_ok hm
    obtain ⟨T, hT⟩ : ∃ T, hexV s (s.size + 1) (a + 1 + 1) [] = T := ⟨_, rfl⟩
    rw [show bytV s (a + 1) = T by unfold bytV; rw [hm]; exact hT]
    have h34 : nextV s (a + 1) = 34 := by unfold nextV; rw [hb]; rfl
    refine fn_ruleM (C := ⟨Tryd.prog, layF, Tryd.f59.ntmps, ΓS, 1, [], []⟩) layF_ok mixed Tryd.func59 rfl (by kernel_rfl) rfl rfl rfl ?_
    refine ex_i64 (((a + 1 : Nat) : Int)) (by first | rfl | omega | simp) (by omega) (by omega) ?_
    refine ex_callM (CallsM.ren (hr) [0] 2 rfl rfl rfl rfl) ?_
    refine ex_false (fun h => h (by rw [h34]; rfl)) ?_
    refine ex_i64 (((a + 1 + 1 : Nat) : Int)) (by first | rfl | omega | simp) (by omega) (by omega) ?_
    refine ex_loop (X := Nat × Nat × List UInt8 × Int) (fun x => ⟨[(0, .o (.c (.ptr 0 0))), (2, .o (.c (.ptr 1 0))), (3, .o (.c (.row 2))), (4, Ti x.2.2.2)], [(2, Brow x.2.2.1), (0, Sta0 s x.2.1), (1, .obj [.d (di 0), .d (du 0), .d (ds ⟨#[]⟩), .d dnil])], 3⟩) (fun x => s.size - x.2.1)
      (fun x => x.2.1 ≤ s.size ∧ s.size < x.2.1 + x.1 ∧ x.2.2.1.length ≤ x.2.1 ∧ ((x.2.2.2 = -1 ∧ hexV s x.1 x.2.1 x.2.2.1 = T) ∨ ∃ h : Nat, x.2.2.2 = h ∧ h < 16 ∧ (match digV s x.2.1 with | .err c e => .err c e | .ok y c => hexV s x.1 c (x.2.2.1 ++ [UInt8.ofNat (16 * h + y)])) = T))
      (s.size + 1, a + 1 + 1, [], -1) ⟨hbl, by show s.size < a + 1 + 1 + (s.size + 1); omega, by show 0 ≤ _; omega, .inl ⟨rfl, hT⟩⟩ (SLe.trans (SLe.of ⟨⟨rfl, rfl, rfl, rfl, trivial⟩, ⟨rfl, rfl, rfl, trivial⟩⟩) (SLe.own 3 2 1 Tu8 rfl rfl rfl rfl rfl)) ?_
    rintro ⟨n, q, acc, hf⟩ ⟨hq, hn, hac, hg⟩
    simp only at hq hn hac hg
    have hrq := rraw_c s q 0 0 hs
    have hdn := digV_next s q
    have hdc := rdigit_c (nextV s q)
    rcases hg with ⟨rfl, hg⟩ | ⟨h, rfl, hh, hg⟩
    · obtain ⟨n, rfl⟩ : ∃ n', n = n' + 1 := ⟨n - 1, by omega⟩
      rw [hexV] at hg
      refine ex_false (show ¬ (0 : Int) ≤ -1 by decide) ?_
      refine ex_callM (CallsM.ren (hrq) [0] 3 rfl rfl rfl rfl) ?_
      refine ex_dec (fun h1 => ?_) (fun h1 => ?_)
      · rw [if_neg (fun hc => h1 (by rw [hc]; rfl))] at hg
        refine ex_callM (CallsM.ren (hrq) [0] 3 rfl rfl rfl rfl) ?_
        cases hhx : hexL.contains (nextV s q) with
        | false =>
          rw [hhx, if_neg (by decide)] at hdn
          rw [hdn] at hg
          simp only at hg
          subst hg
          rw [show digI (nextV s q) = -1 by unfold digI; rw [if_neg (by rw [hhx]; decide)]] at hdc
          refine ex_call (hdc) ?_
          refine ex_true (by omega) ?_
          refine ⟨by kernel_rfl, ?_⟩
          refine ex_callM (CallsM.ren ((rfail_c s q 0 q 4)) [0] 3 rfl rfl rfl rfl) ?_
          exact ⟨rfl, by show TLe _ (.o (gD (drow (.mk _ _ _ _)))); rw [drow_mk]; exact TLe.nil4, rfl, rfl⟩
        | true =>
          rw [hhx, if_pos rfl] at hdn
          rw [hdn] at hg
          simp only at hg
          rw [show digI (nextV s q) = (hexI (nextV s q) : Nat) by unfold digI; rw [if_pos hhx]] at hdc
          obtain ⟨-, hx16, hqs⟩ := digV_ok hdn
          refine ex_call (hdc) ?_
          refine ex_false (by omega) ?_
          refine ex_false (by omega) ?_
          refine ⟨by kernel_rfl, ?_⟩
          refine ex_i64 (((q + 1 : Nat) : Int)) (by first | rfl | omega | simp) (by omega) (by omega) ?_
          refine ex_true (show (-1 : Int) < 0 by decide) ?_
          exact ex_round (n, q + 1, acc, (hexI (nextV s q) : Nat)) ⟨hqs, by show s.size < q + 1 + n; omega, by show acc.length ≤ q + 1; omega, .inr ⟨_, rfl, hx16, hg⟩⟩ (by show s.size - (q + 1) < s.size - q; omega) (SLe.ren [(2, 2), (0, 0), (1, 1)] ⟨⟨rfl, rfl⟩, ⟨rfl, rfl⟩, ⟨rfl, rfl⟩, ⟨rfl, rfl⟩, trivial⟩ ⟨⟨rfl, rfl⟩, ⟨rfl, rfl⟩, ⟨rfl, rfl⟩, trivial⟩ rfl)
      · have h34 : nextV s q = 34 := u8_eq.1 (Decidable.not_not.1 h1)
        rw [if_pos h34] at hg
        subst hg
        refine ex_i64 (((q + 1 : Nat) : Int)) (by first | rfl | omega | simp) (by omega) (by omega) ?_
        refine ⟨acc, rfl, ?_⟩
        exact ⟨rfl, by show TLe _ (.o (gD (drow (.mk _ _ _ _)))); rw [drow_mk]; exact TLe.nil4, rfl, rfl⟩
    · refine ex_true (show (0 : Int) ≤ (h : Nat) by omega) ?_
      refine ex_callM (CallsM.ren (hrq) [0] 3 rfl rfl rfl rfl) ?_
      cases hhx : hexL.contains (nextV s q) with
      | false =>
        rw [hhx, if_neg (by decide)] at hdn
        rw [hdn] at hg
        simp only at hg
        subst hg
        rw [show digI (nextV s q) = -1 by unfold digI; rw [if_neg (by rw [hhx]; decide)]] at hdc
        refine ex_call (hdc) ?_
        refine ex_true (by omega) ?_
        refine ⟨by kernel_rfl, ?_⟩
        refine ex_callM (CallsM.ren ((rfail_c s q 0 q 4)) [0] 3 rfl rfl rfl rfl) ?_
        exact ⟨rfl, by show TLe _ (.o (gD (drow (.mk _ _ _ _)))); rw [drow_mk]; exact TLe.nil4, rfl, rfl⟩
      | true =>
        rw [hhx, if_pos rfl] at hdn
        rw [hdn] at hg
        simp only at hg
        rw [show digI (nextV s q) = (hexI (nextV s q) : Nat) by unfold digI; rw [if_pos hhx]] at hdc
        obtain ⟨-, hx16, hqs⟩ := digV_ok hdn
        generalize hexI (nextV s q) = y at *
        refine ex_call (hdc) ?_
        refine ex_false (by omega) ?_
        refine ex_false (by omega) ?_
        refine ⟨by kernel_rfl, ?_⟩
        refine ex_i64 (((q + 1 : Nat) : Int)) (by first | rfl | omega | simp) (by omega) (by omega) ?_
        refine ex_false (show ¬ ((h : Nat) : Int) < 0 by omega) ?_
        refine ex_i64 (((16 * h : Nat) : Int)) (by first | rfl | omega | simp) (by omega) (by omega) ?_
        refine ex_i64 (((16 * h + y : Nat) : Int)) (by first | rfl | omega | simp) (by omega) (by omega) ?_
        refine ex_u8 ((16 * h + y : Nat) : Int) rfl (by omega) (by omega) ?_
        refine ex_app acc.length 1 1000 (byteRows_len acc) rfl rfl (by omega) ?_
        refine ex_is (byteRows (acc ++ [UInt8.ofNat (16 * h + y)])) (by rw [← byteRows_app]; simp only [byteRows, List.map_cons, List.map_nil]; rw [u8_nat (by omega)]; rfl) ?_
        exact ex_round (n, q + 1, acc ++ [UInt8.ofNat (16 * h + y)], -1) ⟨hqs, by show s.size < q + 1 + n; omega, by show (acc ++ [_]).length ≤ q + 1; rw [List.length_append, List.length_cons, List.length_nil]; omega, .inl ⟨rfl, hg⟩⟩ (by show s.size - (q + 1) < s.size - q; omega) (SLe.ren [(4, 2), (0, 0), (1, 1)] ⟨⟨rfl, rfl⟩, ⟨rfl, rfl⟩, ⟨rfl, rfl⟩, ⟨rfl, rfl⟩, trivial⟩ ⟨⟨rfl, rfl⟩, ⟨rfl, rfl⟩, ⟨rfl, rfl⟩, trivial⟩ rfl)
end Go.Proofs.YtkeehnhamkdogaaDoor
