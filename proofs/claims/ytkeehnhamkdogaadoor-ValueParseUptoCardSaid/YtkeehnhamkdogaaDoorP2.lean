/- The parser's digit, bytes and number. Conditions: as in P1. -/
import Derived.Test.YtkeehnhamkdogaaDoorP1
namespace Go.Proofs.YtkeehnhamkdogaaDoor
set_option linter.unusedVariables false
set_option linter.unusedSimpArgs false
open Go.RowKit
set_option maxRecDepth 100000

def hexI (c : UInt8) : Nat := (Lib.indexByte hexL c).toNat
def digV (s : ByteArray) (a : Nat) : R Nat := match s.data.toList[a]? with
  | some c => if hexL.contains c then .ok (hexI c) (a + 1) else .err a 4
  | none => .err a 4
theorem hex_lt (c : UInt8) : hexI c < 16 := by
  have h : ∀ n : Fin 256, hexI (UInt8.ofNat n.val) < 16 := by decide +kernel
  have := h ⟨c.toNat, c.toNat_lt⟩
  rwa [show UInt8.ofNat (⟨c.toNat, c.toNat_lt⟩ : Fin 256).val = c by simp] at this
theorem hexI_ix (c : UInt8) (h : hexL.contains c = true) : Lib.indexByte hexL c = (hexI c : Nat) := by
  rw [Lib.contains_iff_indexByte] at h
  unfold hexI
  have := of_decide_eq_true h
  omega
theorem digit_c (s : ByteArray) (a : Nat) (ha : a ≤ s.size) (hs : s.size ≤ 16777216) :
    CallsM Tryd.prog ΓS 72 [(0, Par s a)] 1 [.c (.ptr 0 0)] ((digV s a).tv fun n => .o (c1 (.v (.int .u8 (n : Nat))))) [(0, Par s (digV s a).at)] [] := by
  have hany := any_c s a ⟨hexL.toArray⟩ ha hs
  have hlist : (⟨hexL.toArray⟩ : ByteArray).data.toList = hexL := rfl
  rw [hlist] at hany
  cases hd : anyV s a hexL with
  | false =>
    rw [hd] at hany
    have hv : digV s a = .err a 4 := by
      unfold digV; unfold anyV at hd
      split
      · rename_i c hc
        rw [hc] at hd
        rw [if_neg (by simpa using hd)]
      · rfl
    rw [hv]
    refine fn_ruleM (C := ⟨Tryd.prog, layF, Tryd.f72.ntmps, ΓS, 1, [], []⟩) layF_ok mixed Tryd.func72 rfl (by kernel_rfl) rfl rfl rfl ?_
    refine ex_callM hany ?_
    refine ex_callM (fail_c s a 4) ?_
    exact ⟨⟨_, rfl, rfl⟩, rfl, rfl, rfl⟩
  | true =>
    rw [hd] at hany
    obtain ⟨c, hc, hcc⟩ : ∃ c, s.data.toList[a]? = some c ∧ hexL.contains c = true := by
      unfold anyV at hd
      split at hd
      · rename_i c hc; exact ⟨c, hc, hd⟩
      · cases hd
    have hal : a < s.size := by
      have := (List.getElem?_eq_some_iff.1 hc).1
      simpa using this
    have hv : digV s a = .ok (hexI c) (a + 1) := by unfold digV; rw [hc]; exact if_pos hcc
    rw [hv]
    have hix := hexI_ix c hcc
    have hlt := hex_lt c
    refine fn_ruleM (C := ⟨Tryd.prog, layF, Tryd.f72.ntmps, ΓS, 1, [], []⟩) layF_ok mixed Tryd.func72 rfl (by kernel_rfl) rfl rfl rfl ?_
    refine ex_callM hany ?_
    refine ex_i64 (((a + 1 : Nat) : Int)) (by first | rfl | omega | simp) (by omega) (by omega) ?_
    refine ex_i64 (((a : Nat) : Int)) (by first | rfl | omega | simp) (by omega) (by omega) ?_
    refine ex_chr a c rfl hc ?_
    refine ex_call (index_c _ _ _) ?_
    refine ex_is ((hexI c : Nat) : Int) (by
      have e : (c.toNat : Int).toNat.toUInt8 = c := by simp
      rw [e, show (⟨#[48, 49, 50, 51, 52, 53, 54, 55, 56, 57, 97, 98, 99, 100, 101, 102]⟩ : ByteArray).data.toList = hexL from rfl, hix]
      exact wrap_un rfl (by omega) (by show _ < (256 : Int); omega)) ?_
    refine ⟨by kernel_rfl, ?_⟩
    exact ⟨rfl, TLe.rfl, rfl, rfl⟩
def hexV (s : ByteArray) : Nat → Nat → List UInt8 → R PV
  | 0, _, _ => .err 0 0
  | n + 1, a, acc => if nextV s a = 34 then .ok (.mk 2 0 ⟨acc.toArray⟩ []) (a + 1) else match digV s a with
    | .err b e => .err b e
    | .ok x b => match digV s b with
      | .err c e => .err c e
      | .ok y c => hexV s n c (acc ++ [UInt8.ofNat (16 * x + y)])
def bytV (s : ByteArray) (a : Nat) : R PV := match mustV s a 34 with
  | .err b e => .err b e
  | .ok _ b => hexV s (s.size + 1) b []
theorem digV_ok {s : ByteArray} {a x b : Nat} (h : digV s a = .ok x b) : b = a + 1 ∧ x < 16 ∧ a < s.size := by
  unfold digV at h
  split at h
  · rename_i c hc
    have := (List.getElem?_eq_some_iff.1 hc).1
    split at h
    · cases h
      exact ⟨rfl, hex_lt c, by simpa using this⟩
    · cases h
  · cases h
theorem or_hex {x y : Nat} (hx : x < 16) (hy : y < 16) : ((BitVec.ofInt 8 ((16 * x : Nat) : Int)) ||| BitVec.ofInt 8 ((y : Nat) : Int)).toNat = 16 * x + y := by
  have h : ∀ x y : Fin 16, ((BitVec.ofInt 8 ((16 * x.val : Nat) : Int)) ||| BitVec.ofInt 8 ((y.val : Nat) : Int)).toNat = 16 * x.val + y.val := by decide +kernel
  exact h ⟨x, hx⟩ ⟨y, hy⟩
theorem u8_nat {n : Nat} (h : n < 256) : (UInt8.ofNat n).toNat = n := by simp; omega
theorem bytes_c (s : ByteArray) (a : Nat) (ha : a ≤ s.size) (hs : s.size ≤ 16777216) :
    CallsM Tryd.prog ΓS 58 [(0, Par s a)] 1 [.c (.ptr 0 0)] ((bytV s a).tv fun v => .o (gD (drow v))) [(0, Par s (bytV s a).at)] [] := by
  have hm := must_c s a 34 ha hs
  cases hmv : mustV s a 34 with
  | err b e =>
    rw [hmv] at hm
    rw [show bytV s a = .err b e by unfold bytV; rw [hmv]]
    refine fn_ruleM (C := ⟨Tryd.prog, layF, Tryd.f58.ntmps, ΓS, 1, [], []⟩) layF_ok mixed Tryd.func58 rfl (by kernel_rfl) rfl rfl rfl ?_
    refine ex_callM (CallsM.ren (hm) [0] 2 rfl rfl rfl rfl) ?_
    exact ⟨⟨_, rfl, rfl⟩, rfl, rfl, rfl⟩
  | ok u b =>
    have hbs : b ≤ s.size := by
      unfold mustV at hmv
      split at hmv
      · rename_i hc
        have := (List.getElem?_eq_some_iff.1 hc).1
        cases hmv
        have : a < s.size := by simpa using this
        omega
      · cases hmv
    rw [hmv] at hm
    obtain ⟨T, hT⟩ : ∃ T, hexV s (s.size + 1) b [] = T := ⟨_, rfl⟩
    rw [show bytV s a = T by unfold bytV; rw [hmv]; exact hT]
    refine fn_ruleM (C := ⟨Tryd.prog, layF, Tryd.f58.ntmps, ΓS, 1, [], []⟩) layF_ok mixed Tryd.func58 rfl (by kernel_rfl) rfl rfl rfl ?_
    refine ex_callM (CallsM.ren (hm) [0] 2 rfl rfl rfl rfl) ?_
    refine ex_loop (X := Nat × Nat × List UInt8) (fun x => ⟨[(0, .o (.c (.ptr 0 0))), (2, .o (.c (.ptr 1 0))), (3, .o (.c (.row 2)))], [(2, Brow x.2.2), (0, Par s x.2.1), (1, .obj [.d (di 0), .d (du 0), .d (ds ⟨#[]⟩), .d dnil])], 3⟩) (fun x => s.size - x.2.1)
      (fun x => x.2.1 ≤ s.size ∧ s.size < x.2.1 + x.1 ∧ x.2.2.length ≤ x.2.1 ∧ hexV s x.1 x.2.1 x.2.2 = T) (s.size + 1, b, []) ⟨hbs, by show _ < _ + _; omega, by show 0 ≤ _; omega, hT⟩ (SLe.trans (SLe.of ⟨⟨rfl, rfl, rfl, trivial⟩, ⟨rfl, rfl, rfl, trivial⟩⟩) (SLe.own 3 2 1 Tu8 rfl rfl rfl rfl rfl)) ?_
    rintro ⟨n, q, acc⟩ ⟨hq, hn, hac, hg⟩
    simp only at hq hn hac hg
    obtain ⟨n, rfl⟩ : ∃ n', n = n' + 1 := ⟨n - 1, by omega⟩
    rw [hexV] at hg
    refine ex_callM (CallsM.ren ((next_c s q hq hs)) [0] 3 rfl rfl rfl rfl) ?_
    refine ex_dec (fun h => ?_) (fun h => ?_)
    · rw [if_neg (fun hc => h (by rw [hc]; rfl))] at hg
      have h1 := digit_c s q hq hs
      cases hd : digV s q with
      | err b e =>
        rw [hd] at h1 hg
        simp only at hg
        subst hg
        refine ex_callM (CallsM.ren (h1) [0] 3 rfl rfl rfl rfl) ?_
        exact ⟨⟨_, rfl, rfl⟩, rfl, rfl, rfl⟩
      | ok x b =>
        rw [hd] at h1 hg
        simp only at hg
        obtain ⟨rfl, hx, hqs⟩ := digV_ok hd
        refine ex_callM (CallsM.ren (h1) [0] 3 rfl rfl rfl rfl) ?_
        have h2 := digit_c s (q + 1) (by omega) hs
        cases hd2 : digV s (q + 1) with
        | err c e =>
          rw [hd2] at h2 hg
          simp only at hg
          subst hg
          refine ⟨by decide, ?_⟩
          refine ex_u8 ((16 * x : Nat) : Int) (by show (x : Int) * 2 ^ 4 = _; omega) (by omega) (by omega) ?_
          refine ex_callM (CallsM.ren (h2) [0] 3 rfl rfl rfl rfl) ?_
          exact ⟨⟨_, rfl, rfl⟩, rfl, rfl, rfl⟩
        | ok y c =>
          rw [hd2] at h2 hg
          simp only at hg
          obtain ⟨rfl, hy, hqs2⟩ := digV_ok hd2
          refine ⟨by decide, ?_⟩
          refine ex_u8 ((16 * x : Nat) : Int) (by show (x : Int) * 2 ^ 4 = _; omega) (by omega) (by omega) ?_
          refine ex_callM (CallsM.ren (h2) [0] 3 rfl rfl rfl rfl) ?_
          refine ex_u8 ((16 * x + y : Nat) : Int) (by rw [show IntKind.u8.bits = 8 from rfl, or_hex hx hy]) (by omega) (by omega) ?_
          refine ex_app acc.length 1 1000 (byteRows_len acc) rfl rfl (by omega) ?_
          refine ex_is (byteRows (acc ++ [UInt8.ofNat (16 * x + y)])) (by rw [← byteRows_app]; simp only [byteRows, List.map_cons, List.map_nil]; rw [u8_nat (by omega)]; rfl) ?_
          refine ex_round (n, q + 1 + 1, acc ++ [UInt8.ofNat (16 * x + y)]) ⟨hqs2, by show s.size < q + 1 + 1 + n; omega, by show (acc ++ [_]).length ≤ q + 1 + 1; rw [List.length_append, List.length_cons, List.length_nil]; omega, hg⟩ (by show s.size - (q + 1 + 1) < s.size - q; omega) (SLe.ren [(4, 2), (0, 0), (1, 1)] ⟨⟨rfl, rfl⟩, ⟨rfl, rfl⟩, ⟨rfl, rfl⟩, trivial⟩ ⟨⟨rfl, rfl⟩, ⟨rfl, rfl⟩, ⟨rfl, rfl⟩, trivial⟩ rfl)
    · have h34 : nextV s q = 34 := u8_eq.1 (Decidable.not_not.1 h)
      rw [if_pos h34] at hg
      subst hg
      refine ex_i64 (((q + 1 : Nat) : Int)) (by first | rfl | omega | simp) (by omega) (by omega) ?_
      refine ⟨acc, rfl, ?_⟩
      refine ex_call ((B_c _).of0) ?_
      exact ⟨rfl, TLe.rfl, rfl, rfl⟩
def digL : List UInt8 := [48, 49, 50, 51, 52, 53, 54, 55, 56, 57]
/-- The digits from a place on. -/
def digsV (s : ByteArray) (a : Nat) : List UInt8 := (s.data.toList.drop a).takeWhile digL.contains
def numV (s : ByteArray) (a : Nat) : R PV :=
  if s.data.toList[a]? = some 48 ∧ 1 < (digsV s a).length then .err (a + 1) 4 else match Lib.parseUintB 64 (digsV s a) with
    | .ok u => .ok (.mk 1 u ⟨#[]⟩ []) (a + (digsV s a).length)
    | _ => .err a 5
theorem tw_at {p : UInt8 → Bool} : ∀ (l : List UInt8) (i : Nat), i ≤ (l.takeWhile p).length → ((match l[i]? with | some c => p c | none => false) = true ↔ i < (l.takeWhile p).length)
  | [], i, h => by simp at h; subst h; simp
  | c :: l, i, h => by
    rw [List.takeWhile_cons] at h ⊢
    by_cases hc : p c = true
    · rw [if_pos hc, List.length_cons] at h
      rw [if_pos hc]
      cases i with
      | zero => simp [hc]
      | succ i =>
        have := tw_at (p := p) l i (by omega)
        simp only [List.getElem?_cons_succ, List.length_cons, Nat.add_lt_add_iff_right]
        exact this
    · rw [if_neg hc] at h
      rw [if_neg hc]
      simp at h
      subst h
      simp [hc]
theorem any_dig (s : ByteArray) (a i : Nat) (h : i ≤ (digsV s a).length) : anyV s (a + i) digL = decide (i < (digsV s a).length) := by
  have := tw_at (p := digL.contains) (s.data.toList.drop a) i h
  rw [List.getElem?_drop] at this
  rw [Bool.eq_iff_iff, decide_eq_true_iff]
  exact this
theorem digs_le (s : ByteArray) {a : Nat} (ha : a ≤ s.size) : a + (digsV s a).length ≤ s.size := by
  have := (List.takeWhile_sublist digL.contains (l := s.data.toList.drop a)).length_le
  rw [List.length_drop, show s.data.toList.length = s.size by simp] at this
  unfold digsV; omega
theorem number_c (s : ByteArray) (a : Nat) (ha : a ≤ s.size) (hs : s.size ≤ 16777216) (hd : anyV s a digL = true) :
    CallsM Tryd.prog ΓS 56 [(0, Par s a)] 1 [.c (.ptr 0 0)] ((numV s a).tv fun v => .o (gD (drow v))) [(0, Par s (numV s a).at)] [] := by
  have hm := digs_le s ha
  obtain ⟨m, hmv⟩ : ∃ m, (digsV s a).length = m := ⟨_, rfl⟩
  have hany : ∀ i, i ≤ m → anyV s (a + i) digL = decide (i < m) := fun i hi => by rw [any_dig s a i (by omega), hmv]
  have h0 := hany 0 (by omega)
  rw [Nat.add_zero, hd] at h0
  have h0 : 0 < m := of_decide_eq_true h0.symm
  rw [hmv] at hm
  obtain ⟨c, hc⟩ : ∃ c, s.data.toList[a]? = some c := ⟨_, s_at (by omega)⟩
  obtain ⟨T, hT⟩ : ∃ T, numV s a = T := ⟨_, rfl⟩
  rw [hT]
  refine fn_ruleM (C := ⟨Tryd.prog, layF, Tryd.f56.ntmps, ΓS, 1, [], []⟩) layF_ok mixed Tryd.func56 rfl (by kernel_rfl) rfl rfl rfl ?_
  refine ex_loop (X := Nat) (fun i => ⟨[(0, .o (.c (.ptr 0 0))), (2, .o (.c (.ptr 1 0))), (3, Ti a)], [(0, Par s (a + i)), (1, .obj [.d (di 0), .d (du 0), .d (ds ⟨#[]⟩), .d dnil])], 2⟩) (fun i => m - i)
      (fun i => i ≤ m ∧ (c = 48 → i ≤ 1)) 0 ⟨by omega, fun _ => by omega⟩ (SLe.of ⟨⟨rfl, rfl, rfl, trivial⟩, ⟨rfl, rfl, trivial⟩⟩) ?_
  rintro i ⟨hi, hz⟩
  have h1 := any_c s (a + i) ⟨digL.toArray⟩ (by omega) hs
  have hlist : (⟨digL.toArray⟩ : ByteArray).data.toList = digL := rfl
  rw [hlist, hany i hi] at h1
  by_cases him : i < m
  · rw [decide_eq_true him] at h1
    refine ex_callM (CallsM.ren (h1) [0] 2 rfl rfl rfl rfl) ?_
    refine ex_dec (fun h3 => ?_) (fun h3 => ?_)
    · have hi0 : i = 0 := by omega
      refine ex_i64 (((a + (i + 1) : Nat) : Int)) (by first | rfl | omega | simp) (by omega) (by omega) ?_
      exact ex_round (i + 1) ⟨by omega, fun _ => by omega⟩ (by show m - (i + 1) < m - i; omega) (SLe.of ⟨⟨rfl, rfl, rfl, trivial⟩, ⟨rfl, rfl, trivial⟩⟩)
    · refine ex_chr a c rfl hc ?_
      refine ex_dec (fun h4 => ?_) (fun h4 => ?_)
      ·
        refine ex_i64 (((a + (i + 1) : Nat) : Int)) (by first | rfl | omega | simp) (by omega) (by omega) ?_
        exact ex_round (i + 1) ⟨by omega, fun h => absurd (by rw [h]; rfl) h4⟩ (by show m - (i + 1) < m - i; omega) (SLe.of ⟨⟨rfl, rfl, rfl, trivial⟩, ⟨rfl, rfl, trivial⟩⟩)
      · have hc48 : c = 48 := u8_eq.1 (Decidable.not_not.1 h4)
        have hi1 : i = 1 := by have := hz hc48; omega
        subst hi1
        have hT' : T = .err (a + 1) 4 := by rw [← hT]; unfold numV; rw [if_pos ⟨by rw [hc, hc48], by omega⟩]
        subst hT'
        refine ex_callM (CallsM.ren (h1) [0] 2 rfl rfl rfl rfl) ?_
        refine ex_callM (CallsM.ren ((fail_c s (a + 1) 4)) [0] 2 rfl rfl rfl rfl) ?_
        exact ⟨⟨_, rfl, rfl⟩, rfl, rfl, rfl⟩
  · obtain rfl : i = m := by omega
    rw [decide_eq_false him] at h1
    have hnz : ¬ (s.data.toList[a]? = some 48 ∧ 1 < (digsV s a).length) := by
      rintro ⟨h5, h6⟩
      have := hz (by rw [hc] at h5; exact Option.some.inj h5)
      omega
    have hex : (s.extract a (a + i)).data.toList = digsV s a := by
      rw [show (s.extract a (a + i)).data.toList = (s.data.toList.drop a).take (a + i - a) by simp, Nat.add_sub_cancel_left, ← hmv]
      exact (List.prefix_iff_eq_take.1 (List.takeWhile_prefix _)).symm
    have hp := pu_c (s.extract a (a + i)) (by rw [ByteArray.size_extract]; omega)
    unfold puT at hp
    rw [hex] at hp
    unfold numV at hT
    rw [if_neg hnz, hmv] at hT
    refine ex_callM (CallsM.ren (h1) [0] 2 rfl rfl rfl rfl) ?_
    refine ex_callM (CallsM.ren (h1) [0] 2 rfl rfl rfl rfl) ?_
    refine ⟨by omega, by omega, by omega, ?_⟩
    cases hpu : Lib.parseUintB 64 (digsV s a) with
    | ok u =>
      rw [hpu] at hp hT
      simp only at hT
      subst hT
      refine ex_call hp ?_
      refine ⟨by kernel_rfl, ?_⟩
      refine ⟨⟨_, Tryd.underlying83⟩, ?_⟩
      refine ex_call ((I_c u).of0) ?_
      exact ⟨rfl, TLe.rfl, rfl, rfl⟩
    | range =>
      rw [hpu] at hp hT
      simp only at hT
      subst hT
      refine ex_call hp ?_
      refine ⟨by kernel_rfl, ?_⟩
      refine ⟨⟨_, Tryd.underlying83⟩, ?_⟩
      refine ex_callM (CallsM.ren ((fail_c s a 5)) [0] 2 rfl rfl rfl rfl) ?_
      exact ⟨⟨_, rfl, rfl⟩, rfl, rfl, rfl⟩
    | _ =>
      rw [hpu] at hp hT
      simp only at hT
      subst hT
      refine ex_call hp ?_
      refine ⟨by kernel_rfl, ?_⟩
      refine ⟨⟨_, Tryd.underlying83⟩, ?_⟩
      refine ex_callM (CallsM.ren ((fail_c s a 5)) [0] 2 rfl rfl rfl rfl) ?_
      exact ⟨⟨_, rfl, rfl⟩, rfl, rfl, rfl⟩
end Go.Proofs.YtkeehnhamkdogaaDoor
