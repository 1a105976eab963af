/- Texts that the last one leans on: The lexer's pass; ParseUint at bases 10 and 16; number. Condition: at most 16384 bytes; digits of the base; the listed variables. The lexer's number and token. Condition: at most 16384 bytes; the listed variables. The lexer: Lex, Name. Condition: the listed variables. The parser's data as the engine reads it; its small functions. Conditions: the place within the tokens. Words: Word, Integer, Keyword, Level. Condition: none. The parser's small functions over its tokens. Conditions: the place within the tokens. The parser's expressions. Conditions: the tokens end with the end; at most 100000 of them. The parser's lines of operators; its expressions. Conditions: the tokens end with the end; at most 100000 of them. The parser's types: brackets, arrays, references. Conditions: the tokens end with the end; at most 100000 of them. The parser's references. Conditions: the tokens end with the end; at most 100000 of them. -/
import Derived.Test.YtkbhmcdoedmffaaDoorBnd1
import Derived.Test.YtkbhmcdoedmffaaDoorBnd2
import Derived.Test.YtkbhmcdoedmffaaDoorBnd3
namespace Go.Proofs.YtkbhmcdoedmffaaDoor
set_option linter.unusedVariables false
set_option linter.unusedSimpArgs false
open Go.RowKit
set_option maxRecDepth 100000

/-! ### Passing over -/
def passL (r : List UInt8) : Nat := if isCom r then (r.takeWhile notNl).length else (r.takeWhile blank).length
def passN : Nat → List UInt8 → Nat × Nat → List UInt8 × (Nat × Nat)
  | 0, r, p => (r, p)
  | n + 1, r, p => if passL r = 0 then (r, p) else passN n (r.drop (passL r)) ((r.take (passL r)).foldl skipP p)
def passF (r : List UInt8) (p : Nat × Nat) : List UInt8 × (Nat × Nat) := passN (r.length + 1) r p
theorem take_len (p : UInt8 → Bool) : ∀ l : List UInt8, l.take (l.takeWhile p).length = l.takeWhile p
  | [] => rfl
  | a :: l => by
    rw [List.takeWhile_cons]
    split
    · rw [List.length_cons, List.take_succ_cons, take_len p l]
    · rfl
theorem passL_le (r : List UInt8) : passL r ≤ r.length := by
  unfold passL
  have h1 := drop_len notNl r
  have h2 := drop_len blank r
  split <;> omega
/-- The place, and what is left of a text, within bounds. -/
def Bd (p : Nat × Nat) (n : Nat) : Prop := 1 ≤ p.1 ∧ 1 ≤ p.2 ∧ p.1 + n ≤ 16385 ∧ p.2 + n ≤ 16385
theorem skip_bd : ∀ (x : List UInt8) (p : Nat × Nat) (n : Nat), Bd p (x.length + n) → Bd (x.foldl skipP p) n
  | [], p, n, h => by rw [List.length_nil, Nat.zero_add] at h; exact h
  | b :: x, p, n, h => by
    rw [List.foldl_cons]
    refine skip_bd x _ n ?_
    obtain ⟨h1, h2, h3, h4⟩ := h
    rw [List.length_cons] at h3 h4
    unfold skipP
    split
    · exact ⟨by show 1 ≤ p.1 + 1; omega, by show 1 ≤ 1; omega, by show p.1 + 1 + _ ≤ _; omega, by show 1 + _ ≤ _; omega⟩
    · exact ⟨by show 1 ≤ p.1; omega, by show 1 ≤ p.2 + 1; omega, by show p.1 + _ ≤ _; omega, by show p.2 + 1 + _ ≤ _; omega⟩
theorem pass_step (r : List UInt8) (p : Nat × Nat) : lexF r p.1 p.2 = lexF (r.drop (passL r)) ((r.take (passL r)).foldl skipP p).1 ((r.take (passL r)).foldl skipP p).2 := by
  unfold passL
  split
  · rename_i h
    rw [take_len, ← dropWhile_eq]
    exact lexF_com p h
  · rw [take_len, ← dropWhile_eq]
    obtain ⟨X, hX, -⟩ := takeWhile_split blank r
    have hd : r.dropWhile blank = X := by
      rw [dropWhile_eq]
      conv => lhs; arg 2; rw [hX]
      rw [List.drop_left]
    rw [hd]
    conv => lhs; rw [hX]
    exact lexF_blank _ X p (takeWhile_all blank r)
/-- A token is due, or the text is at its end. -/
def Due (r : List UInt8) : Prop := isCom r = false ∧ ∀ b, r[0]? = some b → blank b = false
theorem due_of {r : List UInt8} (h : passL r = 0) : Due r := by
  unfold passL at h
  split at h
  · rename_i hc
    obtain ⟨X, rfl⟩ := isCom_eq hc
    rw [List.takeWhile_cons, if_pos (by decide)] at h
    cases h
  · rename_i hc
    refine ⟨by simpa using hc, fun b hb => ?_⟩
    rcases r with _ | ⟨a, r⟩
    · cases hb
    · cases hb
      rw [List.takeWhile_cons] at h
      split at h
      · cases h
      · rename_i hn; simpa using hn
theorem passN_facts : ∀ (n : Nat) (r : List UInt8) (p : Nat × Nat), r.length < n → Bd p r.length →
    lexF r p.1 p.2 = lexF (passN n r p).1 (passN n r p).2.1 (passN n r p).2.2 ∧ Due (passN n r p).1 ∧ Bd (passN n r p).2 (passN n r p).1.length ∧ (passN n r p).1.length ≤ r.length := by
  intro n
  induction n with
  | zero => intro r p h; omega
  | succ n ih =>
    intro r p hl hb
    rw [passN]
    split
    · rename_i h; exact ⟨rfl, due_of h, hb, Nat.le_refl _⟩
    · rename_i h
      have hle := passL_le r
      have hd : (r.drop (passL r)).length = r.length - passL r := List.length_drop ..
      have ht : (r.take (passL r)).length = passL r := by rw [List.length_take]; omega
      obtain ⟨e1, e2, e3, e4⟩ := ih (r.drop (passL r)) ((r.take (passL r)).foldl skipP p) (by omega) (by rw [hd]; refine skip_bd _ _ _ ?_; rw [ht]; rw [show passL r + (r.length - passL r) = r.length by omega]; exact hb)
      exact ⟨by rw [pass_step r p]; exact e1, e2, e3, by omega⟩
theorem cut_nl : ∀ r : List UInt8, Lib.index r [10] = if 10 ∈ r then ((r.takeWhile notNl).length : Int) else -1
  | [] => rfl
  | a :: r => by
    rw [Lib.index, cut_nl r]
    by_cases h : a = 10
    · subst h
      rw [show ([10] : List UInt8).isPrefixOf (10 :: r) = true from rfl, if_pos rfl, if_pos (by simp)]
      rfl
    · have h' : ¬ (10 : UInt8) = a := fun e => h e.symm
      have hp : ([10] : List UInt8).isPrefixOf (a :: r) = false := by simp [List.isPrefixOf, h']
      have hn : notNl a = true := by simp [notNl, h]
      rw [hp, if_neg (by decide), List.takeWhile_cons, if_pos hn]
      by_cases h2 : 10 ∈ r
      · have h4 : ¬ (((r.takeWhile notNl).length : Int) == -1) = true := by simp <;> omega
        rw [if_pos h2, if_neg h4, if_pos (show (10 : UInt8) ∈ a :: r by simp [h2]), List.length_cons]; rfl
      · rw [if_neg h2, if_pos (show ((-1 : Int) == -1) = true from rfl), if_neg (show ¬ (10 : UInt8) ∈ a :: r by simp [h2, h'])]
theorem cut_fst (r : List UInt8) : (Lib.cut r [10]).1 = r.takeWhile notNl := by
  unfold Lib.cut
  rw [cut_nl]
  by_cases h : 10 ∈ r
  · rw [if_pos h, if_pos (by omega)]
    exact take_len notNl r
  · rw [if_neg h, if_neg (by omega)]
    show r = _
    have : (r.takeWhile notNl).length = r.length := (take_all notNl r).2 (by rw [List.all_eq_true]; intro c hc; simp [notNl]; intro e; exact h (e ▸ hc))
    conv => lhs; rw [← List.take_length (l := r), ← this]
    exact take_len notNl r
theorem pass_c (r : List UInt8) (p : Nat × Nat) (hb : Bd p r.length) :
    CallsM Tryd.prog ΓL 12 [(0, Sc r p)] 1 [.c (.ptr 0 0)] (.tup []) [(0, Sc (passF r p).1 (passF r p).2)] [] := by
  obtain ⟨R, hR⟩ : ∃ R, passF r p = R := ⟨_, rfl⟩
  rw [hR]
  refine fn_ruleM (C := ⟨Tryd.prog, layF, Tryd.f12.ntmps, ΓL, 1, [], []⟩) layF_ok mixed Tryd.func12 rfl (by kernel_rfl) rfl rfl rfl ?_
  refine ex_loop (X := Nat × List UInt8 × Nat × Nat) (fun ⟨m, x, u, v⟩ => ⟨[(0, .o (.c (.ptr 0 0)))], [(0, .obj [.d (ds (bs x)), .d (di (u : Nat)), .d (di (v : Nat))])], 1⟩) (fun x => x.1)
    (fun ⟨m, x, u, v⟩ => x.length < m ∧ Bd (u, v) x.length ∧ passN m x (u, v) = R) (r.length + 1, r, p) ⟨Nat.lt_succ_self _, hb, hR⟩ (SLe.of ⟨⟨rfl, trivial⟩, ⟨rfl, trivial⟩⟩) ?_
  rintro ⟨m, x, u, v⟩ ⟨hm, hbd, hs⟩
  obtain ⟨m, rfl⟩ : ∃ k, m = k + 1 := ⟨m - 1, by omega⟩
  obtain ⟨h1, h2, h3, h4⟩ := hbd
  dsimp only at h1 h2 h3 h4
  have hle := passL_le x
  have hsk := fun n hn => (skip_c x (u, v) n (by omega) hn (by show u ≤ _; omega) (by show v ≤ _; omega)).of0 (Γ := ΓL)
  rw [passN] at hs
  refine ex_call ((runB_c x (by omega)).gL) ?_
  refine ex_call (prefix_c ΓL x [47, 47]) ?_
  have fin : ∀ k : Nat, k = passL x → k ≠ 0 → (m, x.drop k, (x.take k).foldl skipP (u, v)).2.1.length < m ∧ Bd ((x.take k).foldl skipP (u, v)) (x.drop k).length ∧ passN m (x.drop k) ((x.take k).foldl skipP (u, v)) = R := by
    intro k hk h0
    subst hk
    rw [if_neg h0] at hs
    have hd : (x.drop (passL x)).length = x.length - passL x := List.length_drop ..
    have ht : (x.take (passL x)).length = passL x := by rw [List.length_take]; omega
    exact ⟨by show (x.drop (passL x)).length < m; omega, by rw [hd]; refine skip_bd _ _ _ ?_; rw [ht, show passL x + (x.length - passL x) = x.length by omega]; exact ⟨h1, h2, h3, h4⟩, hs⟩
  rcases hc : isCom x with _ | _
  · rw [show Lib.hasPrefix x [47, 47] = false from hc]
    have hp : passL x = (x.takeWhile blank).length := by unfold passL; rw [hc]; rfl
    rw [← hp]
    repeat' (first | refine ex_true (by first | decide | omega | assumption | (with_reducible exact rfl)) ?_ | refine ex_false (by first | decide | omega | assumption | exact (fun h => h rfl)) ?_ | refine ex_dec (fun _ => ?_) (fun _ => ?_) | refine ex_u8 _ rfl (by omega) (by omega) ?_ | refine ex_i64 _ rfl (by omega) (by omega) ?_ | refine ex_u64 _ rfl (by omega) (by omega) ?_ | refine and_mk (by first | omega | (with_reducible rfl) | (show drawOk _ _ _ = true; kernel_rfl)) ?_ | refine and_mk ⟨_, rfl⟩ ?_ | refine ex_is _ (List.length_map _) ?_ | refine ex_is _ List.length_nil ?_ | fail "no step")
    · rename_i h0
      rw [if_pos (by omega)] at hs
      subst hs
      exact ⟨rfl, TLe.rfl, rfl, rfl⟩
    · refine ex_callM (hsk (passL x) hle) ?_
      exact ex_round (m, x.drop (passL x), (x.take (passL x)).foldl skipP (u, v)) (fin (passL x) rfl (by omega)) (Nat.lt_succ_self _) (SLe.of ⟨⟨rfl, trivial⟩, ⟨rfl, trivial⟩⟩)
  · rw [show Lib.hasPrefix x [47, 47] = true from hc]
    have hp : passL x = (x.takeWhile notNl).length := by unfold passL; rw [hc]; rfl
    have hp0 : passL x ≠ 0 := fun e => by
      have := (due_of e).1
      rw [hc] at this
      cases this
    have hcut := cut_c x [10] (by omega)
    rw [cut_fst] at hcut
    have hsz : (bs (x.takeWhile notNl)).size = passL x := by rw [bs_size, hp]
    generalize x.takeWhile notNl = y at *
    refine ex_call (hcut) ?_
    repeat' (first | refine ex_true (by first | decide | omega | assumption | (with_reducible exact rfl)) ?_ | refine ex_false (by first | decide | omega | assumption | exact (fun h => h rfl)) ?_ | refine ex_dec (fun _ => ?_) (fun _ => ?_) | refine ex_u8 _ rfl (by omega) (by omega) ?_ | refine ex_i64 _ rfl (by omega) (by omega) ?_ | refine ex_u64 _ rfl (by omega) (by omega) ?_ | refine and_mk (by first | omega | (with_reducible rfl) | (show drawOk _ _ _ = true; kernel_rfl)) ?_ | refine and_mk ⟨_, rfl⟩ ?_ | refine ex_is _ (List.length_map _) ?_ | refine ex_is _ List.length_nil ?_ | fail "no step")
    rw [hsz]
    refine ex_callM (hsk (passL x) hle) ?_
    exact ex_round (m, x.drop (passL x), (x.take (passL x)).foldl skipP (u, v)) (fin (passL x) rfl hp0) (Nat.lt_succ_self _) (SLe.of ⟨⟨rfl, trivial⟩, ⟨rfl, trivial⟩⟩)
/-! ### Numbers -/
theorem lower_c (b : UInt8) : CallsA Tryd.prog Γ0 68 [c1 (.v (.int .u8 b.toNat))] (.o (c1 (.v (.int .u8 (bits .or .u8 b.toNat 32))))) :=
  ⟨⟨_, Tryd.func68, by kernel_rfl, rfl⟩, fun S w vs hS hG hvs => by
    obtain ⟨u, rfl, e1⟩ := one_arg hvs
    obtain rfl := open_v e1
    refine (Tryd.internal_strconv_lower b.toNat w).mono fun e w' ⟨he, hb⟩ => ?_
    subst he; subst hb
    exact flat_end hS (Below.refl _ _) (Imm.v rfl)⟩
theorem lower_hex (b : UInt8) : (!(isHex b && !isDig b) || decide (bits .or .u8 b.toNat 32 = (hexN b + 87 : Nat))) = true := u8_all (p := fun b => !(isHex b && !isDig b) || decide (bits .or .u8 b.toNat 32 = (hexN b + 87 : Nat))) (q := fun _ => true) (by decide +kernel) b
theorem hex_bound (b : UInt8) : (!isHex b || (decide (hexN b < 16) && (isDig b == decide (hexN b < 10)))) = true := u8_all (p := fun b => !isHex b || (decide (hexN b < 16) && (isDig b == decide (hexN b < 10)))) (q := fun _ => true) (by decide +kernel) b
/-- The error of a number too great. -/
abbrev rngE : Value := .iface 129 (.int .i64 1)
def tvP : Option Nat → TV
  | some n => .tup [c1 (du n), c1 (.v .nilIface)]
  | none => .tup [c1 (du 18446744073709551615), c1 (.v rngE)]
set_option maxHeartbeats 2000000 in
theorem ipu10_c (l : List UInt8) (h0 : l ≠ []) (hl : l.length ≤ 16384) (hh : ∀ b ∈ l, isHex b = true ∧ hexN b < 10) :
    CallsA Tryd.prog Γ0 48 [c1 (ds (bs l)), c1 (di 10), c1 (di 64)] (tvP (valF 10 0 l)) := by
  obtain ⟨R, hR⟩ : ∃ R, valF 10 0 l = R := ⟨_, rfl⟩
  rw [hR]
  have hsz := bs_size l
  have hne := size_pos h0
  have hpos := List.length_pos_iff.2 h0
  refine fn_rule (C := ⟨Tryd.prog, layF, Tryd.f48.ntmps, Γ0, 0, [], []⟩) layF_ok mixed Tryd.func48 rfl (by kernel_rfl) rfl rfl rfl ?_
  repeat' (first | refine ex_true (by first | decide | omega | assumption | (with_reducible exact rfl)) ?_ | refine ex_false (by first | decide | omega | assumption | exact (fun h => h rfl)) ?_ | refine ex_dec (fun _ => ?_) (fun _ => ?_) | refine ex_u8 _ rfl (by omega) (by omega) ?_ | refine ex_i64 _ rfl (by omega) (by omega) ?_ | refine ex_u64 _ rfl (by omega) (by omega) ?_ | refine and_mk (by first | omega | (with_reducible rfl) | (show drawOk _ _ _ = true; kernel_rfl)) ?_ | refine and_mk ⟨_, rfl⟩ ?_ | refine ex_is _ (List.length_map _) ?_ | refine ex_is _ List.length_nil ?_ | fail "no step")
  refine ex_is 0 (by decide) ?_
  refine ex_is 18446744073709551615 (by decide) ?_
  refine ex_is l.length (by simp [byteRows]) ?_
  refine ex_loop (X := Nat × Nat) (fun ⟨q, n⟩ => ⟨[(1, Ti 10), (8, Tb false), (10, Tu 1844674407370955162), (11, Tu 18446744073709551615), (12, Tb false), (13, Tu n), (99, .o (c1 (.sl 1 (byteRows l)))), (100, Ti l.length), (101, Ti q)], [], 0⟩) (fun x => l.length - x.1) (fun ⟨q, n⟩ => q ≤ l.length ∧ n < 18446744073709551616 ∧ valF 10 n (l.drop q) = R) (0, 0) ⟨Nat.zero_le _, by decide, hR⟩ (SLe.of ⟨⟨rfl, rfl, rfl, rfl, rfl, rfl, rfl, rfl, rfl, trivial⟩, trivial⟩) ?_
  rintro ⟨q, n⟩ ⟨hq, hn, hv⟩
  refine ex_dec (fun h => ?_) (fun h => ?_)
  · have hql : q < l.length := by omega
    have hc : l[q]? = some l[q] := at_some hql
    have hm : l[q] ∈ l := List.getElem_mem hql
    rw [List.drop_eq_getElem_cons hql, valF] at hv
    generalize l[q] = c at *
    obtain ⟨h1, h2⟩ := hh c hm
    have h3 := lower_hex c
    have h4 := hex_bound c
    have hlow := lower_c c
    rw [h1] at h3 h4
    refine ex_byte q c rfl hc ?_
    have hcl := c.toNat_lt
    rcases hd : isDig c with _ | _ <;> rw [hd] at h3 h4
    · have h6 : 10 ≤ hexN c ∧ hexN c < 16 := by simp at h4; omega
      exfalso; omega
    · have h6 : hexN c < 10 := by simp at h4; omega
      have h7 : 48 ≤ c.toNat ∧ c.toNat ≤ 57 := by simp [isDig] at hd; omega
      have h8 : hexN c = c.toNat - 48 := by unfold hexN; rw [if_pos h7.2]
      rcases Nat.lt_or_ge (n * 10 + hexN c) 18446744073709551616 with h10 | h10
      · rw [if_pos h10] at hv
        repeat' (first | refine ex_i64 ((q + 1 : Nat) : Int) (by omega) (by omega) (by omega) ?_ | refine ex_u64 ((q + 1 : Nat) : Int) (by omega) (by omega) (by omega) ?_ | refine ex_u8 ((q + 1 : Nat) : Int) (by omega) (by omega) (by omega) ?_ | refine ex_i64 ((n * 10 + hexN c : Nat) : Int) (by omega) (by omega) (by omega) ?_ | refine ex_u64 ((n * 10 + hexN c : Nat) : Int) (by omega) (by omega) (by omega) ?_ | refine ex_u8 ((n * 10 + hexN c : Nat) : Int) (by omega) (by omega) (by omega) ?_ | refine ex_i64 ((n * 10 : Nat) : Int) (by omega) (by omega) (by omega) ?_ | refine ex_u64 ((n * 10 : Nat) : Int) (by omega) (by omega) (by omega) ?_ | refine ex_u8 ((n * 10 : Nat) : Int) (by omega) (by omega) (by omega) ?_ | refine ex_i64 ((hexN c : Nat) : Int) (by omega) (by omega) (by omega) ?_ | refine ex_u64 ((hexN c : Nat) : Int) (by omega) (by omega) (by omega) ?_ | refine ex_u8 ((hexN c : Nat) : Int) (by omega) (by omega) (by omega) ?_ | refine ex_true (by first | decide | omega | assumption | (with_reducible exact rfl)) ?_ | refine ex_false (by first | decide | omega | assumption | exact (fun h => h rfl)) ?_ | refine ex_dec (fun _ => ?_) (fun _ => ?_) | refine ex_u8 _ rfl (by omega) (by omega) ?_ | refine ex_i64 _ rfl (by omega) (by omega) ?_ | refine ex_u64 _ rfl (by omega) (by omega) ?_ | refine and_mk (by first | omega | (with_reducible rfl) | (show drawOk _ _ _ = true; kernel_rfl)) ?_ | refine and_mk ⟨_, rfl⟩ ?_ | refine ex_is _ (List.length_map _) ?_ | refine ex_is _ List.length_nil ?_ | fail "no step")
        exact ex_round (q + 1, n * 10 + hexN c) ⟨by omega, by omega, hv⟩ (by show _ - _ < _ - _; omega) (SLe.of ⟨⟨rfl, rfl, rfl, rfl, rfl, rfl, rfl, rfl, rfl, trivial⟩, trivial⟩)
      · rw [if_neg (by omega)] at hv
        subst hv
        repeat' (first | refine ex_i64 ((q + 1 : Nat) : Int) (by omega) (by omega) (by omega) ?_ | refine ex_u64 ((q + 1 : Nat) : Int) (by omega) (by omega) (by omega) ?_ | refine ex_u8 ((q + 1 : Nat) : Int) (by omega) (by omega) (by omega) ?_ | refine ex_i64 ((n * 10 + hexN c : Nat) : Int) (by omega) (by omega) (by omega) ?_ | refine ex_u64 ((n * 10 + hexN c : Nat) : Int) (by omega) (by omega) (by omega) ?_ | refine ex_u8 ((n * 10 + hexN c : Nat) : Int) (by omega) (by omega) (by omega) ?_ | refine ex_i64 ((n * 10 : Nat) : Int) (by omega) (by omega) (by omega) ?_ | refine ex_u64 ((n * 10 : Nat) : Int) (by omega) (by omega) (by omega) ?_ | refine ex_u8 ((n * 10 : Nat) : Int) (by omega) (by omega) (by omega) ?_ | refine ex_i64 ((hexN c : Nat) : Int) (by omega) (by omega) (by omega) ?_ | refine ex_u64 ((hexN c : Nat) : Int) (by omega) (by omega) (by omega) ?_ | refine ex_u8 ((hexN c : Nat) : Int) (by omega) (by omega) (by omega) ?_ | refine ex_true (by first | decide | omega | assumption | (with_reducible exact rfl)) ?_ | refine ex_false (by first | decide | omega | assumption | exact (fun h => h rfl)) ?_ | refine ex_dec (fun _ => ?_) (fun _ => ?_) | refine ex_u8 _ rfl (by omega) (by omega) ?_ | refine ex_i64 _ rfl (by omega) (by omega) ?_ | refine ex_u64 _ rfl (by omega) (by omega) ?_ | refine and_mk (by first | omega | (with_reducible rfl) | (show drawOk _ _ _ = true; kernel_rfl)) ?_ | refine and_mk ⟨_, rfl⟩ ?_ | refine ex_is _ (List.length_map _) ?_ | refine ex_is _ List.length_nil ?_ | fail "no step")
        · exact TLe.rfl
        · refine ex_is ((n * 10 + hexN c : Nat) - 18446744073709551616 : Int) (by rw [IntKind.wrap_u64]; omega) ?_
          repeat' (first | refine ex_true (by first | decide | omega | assumption | (with_reducible exact rfl)) ?_ | refine ex_false (by first | decide | omega | assumption | exact (fun h => h rfl)) ?_ | refine ex_dec (fun _ => ?_) (fun _ => ?_) | refine ex_u8 _ rfl (by omega) (by omega) ?_ | refine ex_i64 _ rfl (by omega) (by omega) ?_ | refine ex_u64 _ rfl (by omega) (by omega) ?_ | refine and_mk (by first | omega | (with_reducible rfl) | (show drawOk _ _ _ = true; kernel_rfl)) ?_ | refine and_mk ⟨_, rfl⟩ ?_ | refine ex_is _ (List.length_map _) ?_ | refine ex_is _ List.length_nil ?_ | fail "no step")
          exact TLe.rfl
  · rw [List.drop_eq_nil_of_le (by omega), valF] at hv
    subst hv
    repeat' (first | refine ex_true (by first | decide | omega | assumption | (with_reducible exact rfl)) ?_ | refine ex_false (by first | decide | omega | assumption | exact (fun h => h rfl)) ?_ | refine ex_dec (fun _ => ?_) (fun _ => ?_) | refine ex_u8 _ rfl (by omega) (by omega) ?_ | refine ex_i64 _ rfl (by omega) (by omega) ?_ | refine ex_u64 _ rfl (by omega) (by omega) ?_ | refine and_mk (by first | omega | (with_reducible rfl) | (show drawOk _ _ _ = true; kernel_rfl)) ?_ | refine and_mk ⟨_, rfl⟩ ?_ | refine ex_is _ (List.length_map _) ?_ | refine ex_is _ List.length_nil ?_ | fail "no step")
    exact TLe.rfl
set_option maxHeartbeats 2000000 in
theorem ipu16_c (l : List UInt8) (h0 : l ≠ []) (hl : l.length ≤ 16384) (hh : ∀ b ∈ l, isHex b = true ∧ hexN b < 16) :
    CallsA Tryd.prog Γ0 48 [c1 (ds (bs l)), c1 (di 16), c1 (di 64)] (tvP (valF 16 0 l)) := by
  obtain ⟨R, hR⟩ : ∃ R, valF 16 0 l = R := ⟨_, rfl⟩
  rw [hR]
  have hsz := bs_size l
  have hne := size_pos h0
  have hpos := List.length_pos_iff.2 h0
  refine fn_rule (C := ⟨Tryd.prog, layF, Tryd.f48.ntmps, Γ0, 0, [], []⟩) layF_ok mixed Tryd.func48 rfl (by kernel_rfl) rfl rfl rfl ?_
  repeat' (first | refine ex_true (by first | decide | omega | assumption | (with_reducible exact rfl)) ?_ | refine ex_false (by first | decide | omega | assumption | exact (fun h => h rfl)) ?_ | refine ex_dec (fun _ => ?_) (fun _ => ?_) | refine ex_u8 _ rfl (by omega) (by omega) ?_ | refine ex_i64 _ rfl (by omega) (by omega) ?_ | refine ex_u64 _ rfl (by omega) (by omega) ?_ | refine and_mk (by first | omega | (with_reducible rfl) | (show drawOk _ _ _ = true; kernel_rfl)) ?_ | refine and_mk ⟨_, rfl⟩ ?_ | refine ex_is _ (List.length_map _) ?_ | refine ex_is _ List.length_nil ?_ | fail "no step")
  refine ex_is 0 (by decide) ?_
  refine ex_is 18446744073709551615 (by decide) ?_
  refine ex_is l.length (by simp [byteRows]) ?_
  refine ex_loop (X := Nat × Nat) (fun ⟨q, n⟩ => ⟨[(1, Ti 16), (8, Tb false), (10, Tu 1152921504606846976), (11, Tu 18446744073709551615), (12, Tb false), (13, Tu n), (99, .o (c1 (.sl 1 (byteRows l)))), (100, Ti l.length), (101, Ti q)], [], 0⟩) (fun x => l.length - x.1) (fun ⟨q, n⟩ => q ≤ l.length ∧ n < 18446744073709551616 ∧ valF 16 n (l.drop q) = R) (0, 0) ⟨Nat.zero_le _, by decide, hR⟩ (SLe.of ⟨⟨rfl, rfl, rfl, rfl, rfl, rfl, rfl, rfl, rfl, trivial⟩, trivial⟩) ?_
  rintro ⟨q, n⟩ ⟨hq, hn, hv⟩
  refine ex_dec (fun h => ?_) (fun h => ?_)
  · have hql : q < l.length := by omega
    have hc : l[q]? = some l[q] := at_some hql
    have hm : l[q] ∈ l := List.getElem_mem hql
    rw [List.drop_eq_getElem_cons hql, valF] at hv
    generalize l[q] = c at *
    obtain ⟨h1, h2⟩ := hh c hm
    have h3 := lower_hex c
    have h4 := hex_bound c
    have hlow := lower_c c
    rw [h1] at h3 h4
    refine ex_byte q c rfl hc ?_
    have hcl := c.toNat_lt
    rcases hd : isDig c with _ | _ <;> rw [hd] at h3 h4
    · have h6 : 10 ≤ hexN c ∧ hexN c < 16 := by simp at h4; omega
      have h5 : bits .or .u8 c.toNat 32 = (hexN c + 87 : Nat) := by simpa using h3
      rw [h5] at hlow
      have h7 : ¬ (48 ≤ c.toNat ∧ c.toNat ≤ 57) := by simp [isDig] at hd; omega
      have h9 : c.toNat ≠ 95 := by intro e; simp [isHex, isDig, e] at h1
      repeat' (first | refine ex_call hlow ?_ | refine ex_i64 ((q + 1 : Nat) : Int) (by omega) (by omega) (by omega) ?_ | refine ex_u64 ((q + 1 : Nat) : Int) (by omega) (by omega) (by omega) ?_ | refine ex_u8 ((q + 1 : Nat) : Int) (by omega) (by omega) (by omega) ?_ | refine ex_i64 ((n * 16 + hexN c : Nat) : Int) (by omega) (by omega) (by omega) ?_ | refine ex_u64 ((n * 16 + hexN c : Nat) : Int) (by omega) (by omega) (by omega) ?_ | refine ex_u8 ((n * 16 + hexN c : Nat) : Int) (by omega) (by omega) (by omega) ?_ | refine ex_i64 ((n * 16 : Nat) : Int) (by omega) (by omega) (by omega) ?_ | refine ex_u64 ((n * 16 : Nat) : Int) (by omega) (by omega) (by omega) ?_ | refine ex_u8 ((n * 16 : Nat) : Int) (by omega) (by omega) (by omega) ?_ | refine ex_i64 ((hexN c : Nat) : Int) (by omega) (by omega) (by omega) ?_ | refine ex_u64 ((hexN c : Nat) : Int) (by omega) (by omega) (by omega) ?_ | refine ex_u8 ((hexN c : Nat) : Int) (by omega) (by omega) (by omega) ?_ | refine ex_true (by first | decide | omega | assumption | (with_reducible exact rfl)) ?_ | refine ex_false (by first | decide | omega | assumption | exact (fun h => h rfl)) ?_ | refine ex_dec (fun _ => ?_) (fun _ => ?_) | refine ex_u8 _ rfl (by omega) (by omega) ?_ | refine ex_i64 _ rfl (by omega) (by omega) ?_ | refine ex_u64 _ rfl (by omega) (by omega) ?_ | refine and_mk (by first | omega | (with_reducible rfl) | (show drawOk _ _ _ = true; kernel_rfl)) ?_ | refine and_mk ⟨_, rfl⟩ ?_ | refine ex_is _ (List.length_map _) ?_ | refine ex_is _ List.length_nil ?_ | fail "no step")
      all_goals first
        | (rw [if_neg (by omega)] at hv; subst hv; exact TLe.rfl)
        | (rw [if_pos (by omega)] at hv; exact ex_round (q + 1, n * 16 + hexN c) ⟨by omega, by omega, hv⟩ (by show _ - _ < _ - _; omega) (SLe.of ⟨⟨rfl, rfl, rfl, rfl, rfl, rfl, rfl, rfl, rfl, trivial⟩, trivial⟩))
    · have h6 : hexN c < 10 := by simp at h4; omega
      have h7 : 48 ≤ c.toNat ∧ c.toNat ≤ 57 := by simp [isDig] at hd; omega
      have h8 : hexN c = c.toNat - 48 := by unfold hexN; rw [if_pos h7.2]
      repeat' (first | refine ex_i64 ((q + 1 : Nat) : Int) (by omega) (by omega) (by omega) ?_ | refine ex_u64 ((q + 1 : Nat) : Int) (by omega) (by omega) (by omega) ?_ | refine ex_u8 ((q + 1 : Nat) : Int) (by omega) (by omega) (by omega) ?_ | refine ex_i64 ((n * 16 + hexN c : Nat) : Int) (by omega) (by omega) (by omega) ?_ | refine ex_u64 ((n * 16 + hexN c : Nat) : Int) (by omega) (by omega) (by omega) ?_ | refine ex_u8 ((n * 16 + hexN c : Nat) : Int) (by omega) (by omega) (by omega) ?_ | refine ex_i64 ((n * 16 : Nat) : Int) (by omega) (by omega) (by omega) ?_ | refine ex_u64 ((n * 16 : Nat) : Int) (by omega) (by omega) (by omega) ?_ | refine ex_u8 ((n * 16 : Nat) : Int) (by omega) (by omega) (by omega) ?_ | refine ex_i64 ((hexN c : Nat) : Int) (by omega) (by omega) (by omega) ?_ | refine ex_u64 ((hexN c : Nat) : Int) (by omega) (by omega) (by omega) ?_ | refine ex_u8 ((hexN c : Nat) : Int) (by omega) (by omega) (by omega) ?_ | refine ex_true (by first | decide | omega | assumption | (with_reducible exact rfl)) ?_ | refine ex_false (by first | decide | omega | assumption | exact (fun h => h rfl)) ?_ | refine ex_dec (fun _ => ?_) (fun _ => ?_) | refine ex_u8 _ rfl (by omega) (by omega) ?_ | refine ex_i64 _ rfl (by omega) (by omega) ?_ | refine ex_u64 _ rfl (by omega) (by omega) ?_ | refine and_mk (by first | omega | (with_reducible rfl) | (show drawOk _ _ _ = true; kernel_rfl)) ?_ | refine and_mk ⟨_, rfl⟩ ?_ | refine ex_is _ (List.length_map _) ?_ | refine ex_is _ List.length_nil ?_ | fail "no step")
      · rw [if_neg (by omega)] at hv
        subst hv
        exact TLe.rfl
      · rw [if_pos (by omega)] at hv
        exact ex_round (q + 1, n * 16 + hexN c) ⟨by omega, by omega, hv⟩ (by show _ - _ < _ - _; omega) (SLe.of ⟨⟨rfl, rfl, rfl, rfl, rfl, rfl, rfl, rfl, rfl, trivial⟩, trivial⟩)
  · rw [List.drop_eq_nil_of_le (by omega), valF] at hv
    subst hv
    repeat' (first | refine ex_true (by first | decide | omega | assumption | (with_reducible exact rfl)) ?_ | refine ex_false (by first | decide | omega | assumption | exact (fun h => h rfl)) ?_ | refine ex_dec (fun _ => ?_) (fun _ => ?_) | refine ex_u8 _ rfl (by omega) (by omega) ?_ | refine ex_i64 _ rfl (by omega) (by omega) ?_ | refine ex_u64 _ rfl (by omega) (by omega) ?_ | refine and_mk (by first | omega | (with_reducible rfl) | (show drawOk _ _ _ = true; kernel_rfl)) ?_ | refine and_mk ⟨_, rfl⟩ ?_ | refine ex_is _ (List.length_map _) ?_ | refine ex_is _ List.length_nil ?_ | fail "no step")
    exact TLe.rfl
end Go.Proofs.YtkbhmcdoedmffaaDoor

namespace Go.Proofs.YtkbhmcdoedmffaaDoor
set_option linter.unusedVariables false
set_option linter.unusedSimpArgs false
open Go.RowKit
set_option maxRecDepth 100000

theorem five_args {S : Nat → Prop} {w : World} {a b c d e : T1} {vs : List Value} (h : All2 (V1 ι0 S w) [a, b, c, d, e] vs) : ∃ u v x y z, vs = [u, v, x, y, z] ∧ V1 ι0 S w a u ∧ V1 ι0 S w b v ∧ V1 ι0 S w c x ∧ V1 ι0 S w d y ∧ V1 ι0 S w e z := by
  obtain ⟨u, vs, rfl, e0, h⟩ := h.cons_left
  obtain ⟨v, vs, rfl, e1, h⟩ := h.cons_left
  obtain ⟨x, y, z, rfl, e2, e3, e4⟩ := three_args h
  exact ⟨u, v, x, y, z, rfl, e0, e1, e2, e3, e4⟩
theorem toerr_c (fn s : ByteArray) (base bits : Int) (hs : s.size ≤ 281474976710656) : CallsA Tryd.prog ΓL 49 [c1 (ds fn), c1 (ds s), c1 (di base), c1 (di bits), c1 (.v rngE)] (.o (c1 .err)) :=
  ⟨⟨_, Tryd.func49, by kernel_rfl, rfl⟩, fun S w vs hS hG hvs => by
    obtain ⟨u, v, x, y, z, rfl, e0, e1, e2, e3, e4⟩ := five_args hvs
    obtain rfl := open_v e0
    obtain rfl := open_v e1
    obtain rfl := open_v e2
    obtain rfl := open_v e3
    obtain rfl := open_v e4
    obtain ⟨-, ⟨⟨ev, h1, h2⟩, -⟩, -⟩ := hG
    refine (Tryd.strconv_toError_range fn s base bits ev w hs h1 h2).mono fun e w' ⟨N, he, _, _, hb⟩ => ?_
    subst he
    exact flat_end hS hb Imm.err⟩
def tvPu : Option Nat → TV
  | some n => .tup [c1 (du n), c1 (.v .nilIface)]
  | none => .tup [c1 (du 18446744073709551615), c1 .err]
theorem pu_c (base : Nat) (hb : base = 10 ∨ base = 16) (l : List UInt8) (h0 : l ≠ []) (hl : l.length ≤ 16384) (hh : ∀ b ∈ l, isHex b = true ∧ hexN b < base) :
    CallsA Tryd.prog ΓL 38 [c1 (ds (bs l)), c1 (di base), c1 (di 64)] (tvPu (valF base 0 l)) := by
  have hi : CallsA Tryd.prog ΓL 48 [c1 (ds (bs l)), c1 (di base), c1 (di 64)] (tvP (valF base 0 l)) := by
    rcases hb with rfl | rfl
    · exact (ipu10_c l h0 hl hh).gL
    · exact (ipu16_c l h0 hl hh).gL
  have hsz := bs_size l
  have he := toerr_c ⟨#[80, 97, 114, 115, 101, 85, 105, 110, 116]⟩ (bs l) base 64 (by omega)
  cases hv : valF base 0 l with
  | none =>
    rw [hv] at hi
    refine fn_rule (C := ⟨Tryd.prog, layF, Tryd.f38.ntmps, ΓL, 0, [], []⟩) layF_ok mixed Tryd.func38 rfl (by kernel_rfl) rfl rfl rfl ?_
    repeat' (first | refine ex_call he ?_ | refine ex_call hi ?_ | refine ex_true (by first | decide | omega | assumption | (with_reducible exact rfl)) ?_ | refine ex_false (by first | decide | omega | assumption | exact (fun h => h rfl)) ?_ | refine ex_dec (fun _ => ?_) (fun _ => ?_) | refine ex_u8 _ rfl (by omega) (by omega) ?_ | refine ex_i64 _ rfl (by omega) (by omega) ?_ | refine ex_u64 _ rfl (by omega) (by omega) ?_ | refine and_mk (by first | omega | (with_reducible rfl) | (show drawOk _ _ _ = true; kernel_rfl)) ?_ | refine and_mk ⟨_, rfl⟩ ?_ | refine ex_is _ (List.length_map _) ?_ | refine ex_is _ List.length_nil ?_ | fail "no step")
    exact TLe.rfl
  | some n =>
    rw [hv] at hi
    refine fn_rule (C := ⟨Tryd.prog, layF, Tryd.f38.ntmps, ΓL, 0, [], []⟩) layF_ok mixed Tryd.func38 rfl (by kernel_rfl) rfl rfl rfl ?_
    repeat' (first | refine ex_call he ?_ | refine ex_call hi ?_ | refine ex_true (by first | decide | omega | assumption | (with_reducible exact rfl)) ?_ | refine ex_false (by first | decide | omega | assumption | exact (fun h => h rfl)) ?_ | refine ex_dec (fun _ => ?_) (fun _ => ?_) | refine ex_u8 _ rfl (by omega) (by omega) ?_ | refine ex_i64 _ rfl (by omega) (by omega) ?_ | refine ex_u64 _ rfl (by omega) (by omega) ?_ | refine and_mk (by first | omega | (with_reducible rfl) | (show drawOk _ _ _ = true; kernel_rfl)) ?_ | refine and_mk ⟨_, rfl⟩ ?_ | refine ex_is _ (List.length_map _) ?_ | refine ex_is _ List.length_nil ?_ | fail "no step")
    exact TLe.rfl
def gT (k : Nat) (t : List UInt8) (n l c : Nat) : T1 := gD [di k, ds (bs t), du n, di l, di c]
/-- What a reading of a token answers: the token without its place, and the error. -/
def tvT : TR → TV
  | .ok k t n => .tup [gT k t n 0 0, c1 (di 0)]
  | .err e => .tup [gT 0 [] 0 0 0, c1 (di e)]
theorem number_c (s : List UInt8) (h0 : s ≠ []) (hs : s.length ≤ 16384) : CallsA Tryd.prog ΓL 25 [c1 (ds (bs s))] (tvT (numF s)) := by
  have hd := (digits_c s hs).gL
  unfold digF at hd
  unfold numF
  have fin : ∀ (l : List UInt8) (base : Nat), base ≠ 0 → CallsA Tryd.prog ΓL 37 [c1 (ds (bs s))] (.tup [c1 (ds (bs l)), c1 (di base)]) →
      CallsA Tryd.prog ΓL 38 [c1 (ds (bs l)), c1 (di base), c1 (di 64)] (tvPu (valF base 0 l)) →
      CallsA Tryd.prog ΓL 25 [c1 (ds (bs s))] (tvT (numR s (valF base 0 l))) := by
    intro l base hb hd hp
    cases hv : valF base 0 l with
    | none =>
      rw [hv] at hp
      refine fn_rule (C := ⟨Tryd.prog, layF, Tryd.f25.ntmps, ΓL, 0, [], []⟩) layF_ok mixed Tryd.func25 rfl (by kernel_rfl) rfl rfl rfl ?_
      repeat' (first | refine ex_call hp ?_ | refine ex_call hd ?_ | refine ex_true (by first | decide | omega | assumption | (with_reducible exact rfl)) ?_ | refine ex_false (by first | decide | omega | assumption | exact (fun h => h rfl)) ?_ | refine ex_dec (fun _ => ?_) (fun _ => ?_) | refine ex_u8 _ rfl (by omega) (by omega) ?_ | refine ex_i64 _ rfl (by omega) (by omega) ?_ | refine ex_u64 _ rfl (by omega) (by omega) ?_ | refine and_mk (by first | omega | (with_reducible rfl) | (show drawOk _ _ _ = true; kernel_rfl)) ?_ | refine and_mk ⟨_, rfl⟩ ?_ | refine ex_is _ (List.length_map _) ?_ | refine ex_is _ List.length_nil ?_ | fail "no step")
      exact TLe.rfl
    | some n =>
      rw [hv] at hp
      refine fn_rule (C := ⟨Tryd.prog, layF, Tryd.f25.ntmps, ΓL, 0, [], []⟩) layF_ok mixed Tryd.func25 rfl (by kernel_rfl) rfl rfl rfl ?_
      repeat' (first | refine ex_call hp ?_ | refine ex_call hd ?_ | refine ex_true (by first | decide | omega | assumption | (with_reducible exact rfl)) ?_ | refine ex_false (by first | decide | omega | assumption | exact (fun h => h rfl)) ?_ | refine ex_dec (fun _ => ?_) (fun _ => ?_) | refine ex_u8 _ rfl (by omega) (by omega) ?_ | refine ex_i64 _ rfl (by omega) (by omega) ?_ | refine ex_u64 _ rfl (by omega) (by omega) ?_ | refine and_mk (by first | omega | (with_reducible rfl) | (show drawOk _ _ _ = true; kernel_rfl)) ?_ | refine and_mk ⟨_, rfl⟩ ?_ | refine ex_is _ (List.length_map _) ?_ | refine ex_is _ List.length_nil ?_ | fail "no step")
      exact TLe.rfl
  rcases h6 : sixteen s with _ | _ <;> rw [h6] at hd
  · rcases hA : s.all isDig with _ | _ <;> rw [hA] at hd
    · have hd : CallsA Tryd.prog ΓL 37 [c1 (ds (bs s))] (.tup [c1 (ds (bs [])), c1 (di 0)]) := hd
      refine fn_rule (C := ⟨Tryd.prog, layF, Tryd.f25.ntmps, ΓL, 0, [], []⟩) layF_ok mixed Tryd.func25 rfl (by kernel_rfl) rfl rfl rfl ?_
      repeat' (first | refine ex_call hd ?_ | refine ex_true (by first | decide | omega | assumption | (with_reducible exact rfl)) ?_ | refine ex_false (by first | decide | omega | assumption | exact (fun h => h rfl)) ?_ | refine ex_dec (fun _ => ?_) (fun _ => ?_) | refine ex_u8 _ rfl (by omega) (by omega) ?_ | refine ex_i64 _ rfl (by omega) (by omega) ?_ | refine ex_u64 _ rfl (by omega) (by omega) ?_ | refine and_mk (by first | omega | (with_reducible rfl) | (show drawOk _ _ _ = true; kernel_rfl)) ?_ | refine and_mk ⟨_, rfl⟩ ?_ | refine ex_is _ (List.length_map _) ?_ | refine ex_is _ List.length_nil ?_ | fail "no step")
      exact TLe.rfl
    · refine fin s 10 (by decide) hd (pu_c 10 (.inl rfl) s h0 hs (fun b hb => ?_))
      have h1 := List.all_eq_true.1 hA b hb
      have h2 := hex_bound b
      have h3 : isHex b = true := by unfold isHex; rw [h1]; rfl
      rw [h3, h1] at h2
      simp at h2
      exact ⟨h3, by omega⟩
  · have h7 := h6
    unfold sixteen at h7
    simp only [Bool.and_eq_true, decide_eq_true_eq] at h7
    refine fin (s.drop 2) 16 (by decide) hd (pu_c 16 (.inr rfl) (s.drop 2) (fun e => ?_) (by rw [List.length_drop]; omega) (fun b hb => ?_))
    · have := congrArg List.length e
      rw [List.length_drop] at this
      simp at this
      omega
    · have h1 := List.all_eq_true.1 h7.2.2 b hb
      have h2 := hex_bound b
      rw [h1] at h2
      simp at h2
      exact ⟨h1, h2.1⟩
theorem token_c (r : List UInt8) (p : Nat × Nat) (hr : r.length ≤ 16384) :
    CallsM Tryd.prog ΓL 13 [(0, Sc r p)] 1 [.c (.ptr 0 0)] (tvT (tokF r)) [(0, Sc r p)] [] := by
  have hR := (runR_c r hr).gL
  have hsz := bs_size r
  have hdl := drop_len alnum r
  have htl := take_len alnum r
  unfold tokF
  rcases hw : r.takeWhile alnum with _ | ⟨b, w⟩ <;> rw [hw] at hR hdl htl
  · dsimp only
    obtain ⟨R, hR2⟩ : ∃ R, signF r = R := ⟨_, rfl⟩
    rw [hR2]
    refine fn_ruleM (C := ⟨Tryd.prog, layF, Tryd.f13.ntmps, ΓL, 1, [], []⟩) layF_ok mixed Tryd.func13 rfl (by kernel_rfl) rfl rfl rfl ?_
    repeat' (first | refine ex_call hR ?_ | refine ex_true (by first | decide | omega | assumption | (with_reducible exact rfl)) ?_ | refine ex_false (by first | decide | omega | assumption | exact (fun h => h rfl)) ?_ | refine ex_dec (fun _ => ?_) (fun _ => ?_) | refine ex_u8 _ rfl (by omega) (by omega) ?_ | refine ex_i64 _ rfl (by omega) (by omega) ?_ | refine ex_u64 _ rfl (by omega) (by omega) ?_ | refine and_mk (by first | omega | (with_reducible rfl) | (show drawOk _ _ _ = true; kernel_rfl)) ?_ | refine and_mk ⟨_, rfl⟩ ?_ | refine ex_is _ (List.length_map _) ?_ | refine ex_is _ List.length_nil ?_ | fail "no step")
    refine ex_loop (X := Nat) (fun q => ⟨[(0, .o (.c (.ptr 0 0))), (2, .o (.c (.ptr 1 0))), (35, .o (.g (signsL.map fun l => .d (ds (bs l))))), (36, Ti q)], [(0, Sc r p), (1, .obj [.d (di 0), .d (ds (bs [])), .d (du 0), .d (di 0), .d (di 0)])], 2⟩) (fun q => 29 - q) (fun q => q ≤ 29 ∧ (signsL.drop q).find? (·.isPrefixOf r) = R) 0 ⟨by decide, hR2⟩ (SLe.of ⟨⟨rfl, rfl, rfl, rfl, trivial⟩, ⟨rfl, rfl, trivial⟩⟩) ?_
    rintro q ⟨hq, hs⟩
    refine ex_dec (fun h => ?_) (fun h => ?_)
    · have hql : q < signsL.length := by rw [show signsL.length = 29 from rfl]; omega
      have hc : signsL[q]? = some signsL[q] := at_some hql
      have hix : List.take 1 (List.drop (((q : Nat) : Int).toNat * 1) (signsL.map fun l => CV.d (ds (bs l)))) = [CV.d (ds (bs signsL[q]))] := by
        rw [Int.toNat_natCast, Nat.mul_one, ← List.map_drop, List.drop_eq_getElem_cons hql, List.map_cons, List.take_succ_cons, List.take_zero]
      rw [List.drop_eq_getElem_cons hql, List.find?_cons] at hs
      generalize signsL[q] = c at *
      refine ⟨by omega, by omega, ex_is _ hix ?_⟩
      have hp := prefix_c ΓL r c
      rcases hpr : c.isPrefixOf r with _ | _
      · rw [hpr] at hs
        rw [show Lib.hasPrefix r c = false from hpr] at hp
        refine ex_call (hp) ?_
        repeat' (first | refine ex_i64 ((q + 1 : Nat) : Int) (by omega) (by omega) (by omega) ?_ | refine ex_u64 ((q + 1 : Nat) : Int) (by omega) (by omega) (by omega) ?_ | refine ex_u8 ((q + 1 : Nat) : Int) (by omega) (by omega) (by omega) ?_ | refine ex_true (by first | decide | omega | assumption | (with_reducible exact rfl)) ?_ | refine ex_false (by first | decide | omega | assumption | exact (fun h => h rfl)) ?_ | refine ex_dec (fun _ => ?_) (fun _ => ?_) | refine ex_u8 _ rfl (by omega) (by omega) ?_ | refine ex_i64 _ rfl (by omega) (by omega) ?_ | refine ex_u64 _ rfl (by omega) (by omega) ?_ | refine and_mk (by first | omega | (with_reducible rfl) | (show drawOk _ _ _ = true; kernel_rfl)) ?_ | refine and_mk ⟨_, rfl⟩ ?_ | refine ex_is _ (List.length_map _) ?_ | refine ex_is _ List.length_nil ?_ | fail "no step")
        exact ex_round (q + 1) ⟨by omega, hs⟩ (by show _ - _ < _ - _; omega) (SLe.of ⟨⟨rfl, rfl, rfl, rfl, trivial⟩, ⟨rfl, rfl, trivial⟩⟩)
      · rw [hpr] at hs
        subst hs
        rw [show Lib.hasPrefix r c = true from hpr] at hp
        refine ex_call (hp) ?_
        repeat' (first | refine ex_true (by first | decide | omega | assumption | (with_reducible exact rfl)) ?_ | refine ex_false (by first | decide | omega | assumption | exact (fun h => h rfl)) ?_ | refine ex_dec (fun _ => ?_) (fun _ => ?_) | refine ex_u8 _ rfl (by omega) (by omega) ?_ | refine ex_i64 _ rfl (by omega) (by omega) ?_ | refine ex_u64 _ rfl (by omega) (by omega) ?_ | refine and_mk (by first | omega | (with_reducible rfl) | (show drawOk _ _ _ = true; kernel_rfl)) ?_ | refine and_mk ⟨_, rfl⟩ ?_ | refine ex_is _ (List.length_map _) ?_ | refine ex_is _ List.length_nil ?_ | fail "no step")
        exact ⟨rfl, TLe.rfl, rfl, rfl⟩
    · have : q = 29 := by omega
      subst this
      subst hs
      exact ⟨rfl, TLe.rfl, rfl, rfl⟩
  · have hwl : (b :: w).length ≤ r.length := by omega
    have hD := (runD_c (b :: w) (by omega)).gL
    have hN := number_c (b :: w) (by simp) (by omega)
    have hE := ext_take r (b :: w).length
    rw [htl] at hE
    have hbd : 0 < (b :: w).length := by simp
    dsimp only
    rcases hb : isDig b with _ | _
    · have hD0 : ((b :: w).takeWhile isDig).length = 0 := by rw [List.takeWhile_cons, hb]; rfl
      rw [hD0] at hD
      generalize b :: w = y at *
      by_cases h32 : y.length ≤ 32
      · rw [if_neg (by decide), if_pos h32]
        refine fn_ruleM (C := ⟨Tryd.prog, layF, Tryd.f13.ntmps, ΓL, 1, [], []⟩) layF_ok mixed Tryd.func13 rfl (by kernel_rfl) rfl rfl rfl ?_
        repeat' (first | refine ex_call hR ?_ | refine ex_true (by first | decide | omega | assumption | (with_reducible exact rfl)) ?_ | refine ex_false (by first | decide | omega | assumption | exact (fun h => h rfl)) ?_ | refine ex_dec (fun _ => ?_) (fun _ => ?_) | refine ex_u8 _ rfl (by omega) (by omega) ?_ | refine ex_i64 _ rfl (by omega) (by omega) ?_ | refine ex_u64 _ rfl (by omega) (by omega) ?_ | refine and_mk (by first | omega | (with_reducible rfl) | (show drawOk _ _ _ = true; kernel_rfl)) ?_ | refine and_mk ⟨_, rfl⟩ ?_ | refine ex_is _ (List.length_map _) ?_ | refine ex_is _ List.length_nil ?_ | fail "no step")
        rw [hE]
        repeat' (first | refine ex_call hD ?_ | refine ex_true (by first | decide | omega | assumption | (with_reducible exact rfl)) ?_ | refine ex_false (by first | decide | omega | assumption | exact (fun h => h rfl)) ?_ | refine ex_dec (fun _ => ?_) (fun _ => ?_) | refine ex_u8 _ rfl (by omega) (by omega) ?_ | refine ex_i64 _ rfl (by omega) (by omega) ?_ | refine ex_u64 _ rfl (by omega) (by omega) ?_ | refine and_mk (by first | omega | (with_reducible rfl) | (show drawOk _ _ _ = true; kernel_rfl)) ?_ | refine and_mk ⟨_, rfl⟩ ?_ | refine ex_is _ (List.length_map _) ?_ | refine ex_is _ List.length_nil ?_ | fail "no step")
        exact ⟨rfl, TLe.rfl, rfl, rfl⟩
      · rw [if_neg (by decide), if_neg h32]
        refine fn_ruleM (C := ⟨Tryd.prog, layF, Tryd.f13.ntmps, ΓL, 1, [], []⟩) layF_ok mixed Tryd.func13 rfl (by kernel_rfl) rfl rfl rfl ?_
        repeat' (first | refine ex_call hR ?_ | refine ex_true (by first | decide | omega | assumption | (with_reducible exact rfl)) ?_ | refine ex_false (by first | decide | omega | assumption | exact (fun h => h rfl)) ?_ | refine ex_dec (fun _ => ?_) (fun _ => ?_) | refine ex_u8 _ rfl (by omega) (by omega) ?_ | refine ex_i64 _ rfl (by omega) (by omega) ?_ | refine ex_u64 _ rfl (by omega) (by omega) ?_ | refine and_mk (by first | omega | (with_reducible rfl) | (show drawOk _ _ _ = true; kernel_rfl)) ?_ | refine and_mk ⟨_, rfl⟩ ?_ | refine ex_is _ (List.length_map _) ?_ | refine ex_is _ List.length_nil ?_ | fail "no step")
        rw [hE]
        repeat' (first | refine ex_call hD ?_ | refine ex_true (by first | decide | omega | assumption | (with_reducible exact rfl)) ?_ | refine ex_false (by first | decide | omega | assumption | exact (fun h => h rfl)) ?_ | refine ex_dec (fun _ => ?_) (fun _ => ?_) | refine ex_u8 _ rfl (by omega) (by omega) ?_ | refine ex_i64 _ rfl (by omega) (by omega) ?_ | refine ex_u64 _ rfl (by omega) (by omega) ?_ | refine and_mk (by first | omega | (with_reducible rfl) | (show drawOk _ _ _ = true; kernel_rfl)) ?_ | refine and_mk ⟨_, rfl⟩ ?_ | refine ex_is _ (List.length_map _) ?_ | refine ex_is _ List.length_nil ?_ | fail "no step")
        exact ⟨rfl, TLe.rfl, rfl, rfl⟩
    · have hD0 : 0 < ((b :: w).takeWhile isDig).length := by rw [List.takeWhile_cons, hb]; simp
      rw [if_pos rfl]
      generalize b :: w = y at *
      generalize (y.takeWhile isDig).length = d at *
      rcases hn : numF y with ⟨k, t, n⟩ | e <;> rw [hn] at hN
      ·
        refine fn_ruleM (C := ⟨Tryd.prog, layF, Tryd.f13.ntmps, ΓL, 1, [], []⟩) layF_ok mixed Tryd.func13 rfl (by kernel_rfl) rfl rfl rfl ?_
        repeat' (first | refine ex_call hR ?_ | refine ex_true (by first | decide | omega | assumption | (with_reducible exact rfl)) ?_ | refine ex_false (by first | decide | omega | assumption | exact (fun h => h rfl)) ?_ | refine ex_dec (fun _ => ?_) (fun _ => ?_) | refine ex_u8 _ rfl (by omega) (by omega) ?_ | refine ex_i64 _ rfl (by omega) (by omega) ?_ | refine ex_u64 _ rfl (by omega) (by omega) ?_ | refine and_mk (by first | omega | (with_reducible rfl) | (show drawOk _ _ _ = true; kernel_rfl)) ?_ | refine and_mk ⟨_, rfl⟩ ?_ | refine ex_is _ (List.length_map _) ?_ | refine ex_is _ List.length_nil ?_ | fail "no step")
        rw [hE]
        repeat' (first | refine ex_call hN ?_ | refine ex_call hD ?_ | refine ex_true (by first | decide | omega | assumption | (with_reducible exact rfl)) ?_ | refine ex_false (by first | decide | omega | assumption | exact (fun h => h rfl)) ?_ | refine ex_dec (fun _ => ?_) (fun _ => ?_) | refine ex_u8 _ rfl (by omega) (by omega) ?_ | refine ex_i64 _ rfl (by omega) (by omega) ?_ | refine ex_u64 _ rfl (by omega) (by omega) ?_ | refine and_mk (by first | omega | (with_reducible rfl) | (show drawOk _ _ _ = true; kernel_rfl)) ?_ | refine and_mk ⟨_, rfl⟩ ?_ | refine ex_is _ (List.length_map _) ?_ | refine ex_is _ List.length_nil ?_ | fail "no step")
        exact ⟨rfl, TLe.rfl, rfl, rfl⟩
      ·
        refine fn_ruleM (C := ⟨Tryd.prog, layF, Tryd.f13.ntmps, ΓL, 1, [], []⟩) layF_ok mixed Tryd.func13 rfl (by kernel_rfl) rfl rfl rfl ?_
        repeat' (first | refine ex_call hR ?_ | refine ex_true (by first | decide | omega | assumption | (with_reducible exact rfl)) ?_ | refine ex_false (by first | decide | omega | assumption | exact (fun h => h rfl)) ?_ | refine ex_dec (fun _ => ?_) (fun _ => ?_) | refine ex_u8 _ rfl (by omega) (by omega) ?_ | refine ex_i64 _ rfl (by omega) (by omega) ?_ | refine ex_u64 _ rfl (by omega) (by omega) ?_ | refine and_mk (by first | omega | (with_reducible rfl) | (show drawOk _ _ _ = true; kernel_rfl)) ?_ | refine and_mk ⟨_, rfl⟩ ?_ | refine ex_is _ (List.length_map _) ?_ | refine ex_is _ List.length_nil ?_ | fail "no step")
        rw [hE]
        repeat' (first | refine ex_call hN ?_ | refine ex_call hD ?_ | refine ex_true (by first | decide | omega | assumption | (with_reducible exact rfl)) ?_ | refine ex_false (by first | decide | omega | assumption | exact (fun h => h rfl)) ?_ | refine ex_dec (fun _ => ?_) (fun _ => ?_) | refine ex_u8 _ rfl (by omega) (by omega) ?_ | refine ex_i64 _ rfl (by omega) (by omega) ?_ | refine ex_u64 _ rfl (by omega) (by omega) ?_ | refine and_mk (by first | omega | (with_reducible rfl) | (show drawOk _ _ _ = true; kernel_rfl)) ?_ | refine and_mk ⟨_, rfl⟩ ?_ | refine ex_is _ (List.length_map _) ?_ | refine ex_is _ List.length_nil ?_ | fail "no step")
        exact ⟨rfl, TLe.rfl, rfl, rfl⟩
end Go.Proofs.YtkbhmcdoedmffaaDoor

namespace Go.Proofs.YtkbhmcdoedmffaaDoor
set_option linter.unusedVariables false
set_option linter.unusedSimpArgs false
open Go.RowKit
set_option maxRecDepth 100000

def tokD (t : TokP) : List D := [di t.k, ds (bs t.t), du t.n, di t.l, di t.c]
/-- What Lex answers. -/
def lexT : LR → TV
  | .ok ts => .tup [c1 (.sl 5 (ts.map tokD)), gD [di 0, di 0], c1 (di 0)]
  | .err l c e => .tup [c1 (.sl 5 []), gD [di l, di c], c1 (di e)]
def lexV (s : List UInt8) : LR := if s.length ≤ 16384 then lexF s 1 1 else .err 1 1 7
theorem passF_facts (r : List UInt8) (p : Nat × Nat) (h : Bd p r.length) : lexF r p.1 p.2 = lexF (passF r p).1 (passF r p).2.1 (passF r p).2.2 ∧ Due (passF r p).1 ∧ Bd (passF r p).2 (passF r p).1.length ∧ (passF r p).1.length ≤ r.length := passN_facts _ r p (Nat.lt_succ_self _) h
theorem TLe.nilc {s : Nat} {l : List T1} : TLe (.tup (c1 (.v (.slice none 0 0)) :: l)) (.tup (c1 (.sl s []) :: l)) := fun ι S w v ⟨us, hu, h⟩ => by
  have h : All2 (V1 ι S w) (c1 (.v (.slice none 0 0)) :: l) us := h
  obtain ⟨u, us, rfl, e, h⟩ := h.cons_left
  exact ⟨u :: us, hu, .cons (TLe.nil ι S w u e) h⟩
theorem numF_err {s : List UInt8} {e : Nat} (h : numF s = .err e) : 4 ≤ e ∧ e ≤ 7 := by
  unfold numF at h
  split at h
  · revert h; cases valF 16 0 (s.drop 2) <;> intro h <;> cases h; decide
  · split at h
    · revert h; cases valF 10 0 s <;> intro h <;> cases h; decide
    · cases h; decide
theorem tokF_err {r : List UInt8} {e : Nat} (h : tokF r = .err e) : 4 ≤ e ∧ e ≤ 7 := by
  unfold tokF at h
  split at h
  · split at h
    · cases h; decide
    · cases h
  · split at h
    · exact numF_err h
    · split at h
      · cases h
      · cases h; decide
abbrev Pz : Blk := .obj [.d (di 0), .d (di 0)]
theorem lex_c (s : List UInt8) : CallsA Tryd.prog ΓL 8 [c1 (ds (bs s))] (lexT (lexV s)) := by
  have hsz := bs_size s
  unfold lexV
  by_cases hs : s.length ≤ 16384
  · rw [if_pos hs]
    obtain ⟨R, hR⟩ : ∃ R, lexF s 1 1 = R := ⟨_, rfl⟩
    rw [hR]
    refine fn_rule (C := ⟨Tryd.prog, layF, Tryd.f8.ntmps, ΓL, 0, [], []⟩) layF_ok mixed Tryd.func8 rfl (by kernel_rfl) rfl rfl rfl ?_
    repeat' (first | refine ex_true (by first | decide | omega | assumption | (with_reducible exact rfl)) ?_ | refine ex_false (by first | decide | omega | assumption | exact (fun h => h rfl)) ?_ | refine ex_dec (fun _ => ?_) (fun _ => ?_) | refine ex_u8 _ rfl (by omega) (by omega) ?_ | refine ex_i64 _ rfl (by omega) (by omega) ?_ | refine ex_u64 _ rfl (by omega) (by omega) ?_ | refine and_mk (by first | omega | (with_reducible rfl) | (show drawOk _ _ _ = true; kernel_rfl)) ?_ | refine and_mk ⟨_, rfl⟩ ?_ | refine ex_is _ (List.length_map _) ?_ | refine ex_is _ List.length_nil ?_ | fail "no step")
    refine ex_loop (X := List UInt8 × Nat × Nat × List TokP) (fun ⟨r, u, v, o⟩ => ⟨[(3, .o (.c (.ptr 0 0))), (5, .o (.c (.ptr 1 0))), (6, .o (.c (.row 2)))], [(0, Pz), (1, Sc r (u, v)), (2, .row 5 67 (o.map tokD))], 3⟩) (fun x => x.1.length)
      (fun ⟨r, u, v, o⟩ => Bd (u, v) r.length ∧ o.length + r.length ≤ s.length ∧ (lexF r u v).pre o = R) (s, 1, 1, []) ⟨⟨by decide, by decide, by show 1 + _ ≤ _; omega, by show 1 + _ ≤ _; omega⟩, by simp, by rw [hR]; cases R <;> rfl⟩ (SLe.trans (SLe.of ⟨⟨rfl, rfl, rfl, trivial⟩, ⟨rfl, rfl, rfl, trivial⟩⟩) (SLe.own 6 2 5 67 rfl rfl rfl rfl rfl)) ?_
    rintro ⟨r, u, v, o⟩ ⟨hb, hol, hs2⟩
    obtain ⟨e1, e2, e3, e4⟩ := passF_facts r (u, v) hb
    have hp := pass_c r (u, v) hb
    rw [e1] at hs2
    generalize passF r (u, v) = Q at *
    obtain ⟨x, u, v⟩ := Q
    dsimp only at e1 e2 e3 e4 hs2 hp
    refine ex_callM (CallsM.ren (hp) [1] 3 rfl rfl rfl rfl) ?_
    have hxs := bs_size x
    rcases x with _ | ⟨b, y⟩
    · rw [lexF_nil] at hs2
      subst hs2
      repeat' (first | refine ex_true (by first | decide | omega | assumption | (with_reducible exact rfl)) ?_ | refine ex_false (by first | decide | omega | assumption | exact (fun h => h rfl)) ?_ | refine ex_dec (fun _ => ?_) (fun _ => ?_) | refine ex_u8 _ rfl (by omega) (by omega) ?_ | refine ex_i64 _ rfl (by omega) (by omega) ?_ | refine ex_u64 _ rfl (by omega) (by omega) ?_ | refine and_mk (by first | omega | (with_reducible rfl) | (show drawOk _ _ _ = true; kernel_rfl)) ?_ | refine and_mk ⟨_, rfl⟩ ?_ | refine ex_is _ (List.length_map _) ?_ | refine ex_is _ List.length_nil ?_ | fail "no step")
      refine ex_app (o.length) (1) 1000 (by first | rfl | (simp; done) | (simp; omega)) (by first | rfl | (simp; done) | (simp; omega)) rfl (by omega) ?_
      refine ex_is (List.map tokD (o ++ [(⟨3, [], 0, u, v⟩ : TokP)])) (by rw [List.map_append]; rfl) ?_
      repeat' (first | refine ex_true (by first | decide | omega | assumption | (with_reducible exact rfl)) ?_ | refine ex_false (by first | decide | omega | assumption | exact (fun h => h rfl)) ?_ | refine ex_dec (fun _ => ?_) (fun _ => ?_) | refine ex_u8 _ rfl (by omega) (by omega) ?_ | refine ex_i64 _ rfl (by omega) (by omega) ?_ | refine ex_u64 _ rfl (by omega) (by omega) ?_ | refine and_mk (by first | omega | (with_reducible rfl) | (show drawOk _ _ _ = true; kernel_rfl)) ?_ | refine and_mk ⟨_, rfl⟩ ?_ | refine ex_is _ (List.length_map _) ?_ | refine ex_is _ List.length_nil ?_ | fail "no step")
      exact TLe.rfl
    · have hne := size_pos (l := b :: y) (by simp)
      have hx0 : b :: y ≠ [] := by simp
      have hxl : 1 ≤ (b :: y).length := by simp
      generalize b :: y = x at *
      refine ex_false hne ?_
      have ht := token_c x (u, v) (by omega)
      rw [lexF_tok u v hx0 e2.2 e2.1] at hs2
      rcases hk : tokF x with ⟨k, t, n⟩ | e <;> rw [hk] at ht hs2
      · dsimp only at hs2
        obtain ⟨⟨X, hX⟩, ht0, hk3, ht10⟩ := tokF_ok hk
        refine ex_callM (CallsM.ren (ht) [1] 3 rfl rfl rfl rfl) ?_
        repeat' (first | refine ex_true (by first | decide | omega | assumption | (with_reducible exact rfl)) ?_ | refine ex_false (by first | decide | omega | assumption | exact (fun h => h rfl)) ?_ | refine ex_dec (fun _ => ?_) (fun _ => ?_) | refine ex_u8 _ rfl (by omega) (by omega) ?_ | refine ex_i64 _ rfl (by omega) (by omega) ?_ | refine ex_u64 _ rfl (by omega) (by omega) ?_ | refine and_mk (by first | omega | (with_reducible rfl) | (show drawOk _ _ _ = true; kernel_rfl)) ?_ | refine and_mk ⟨_, rfl⟩ ?_ | refine ex_is _ (List.length_map _) ?_ | refine ex_is _ List.length_nil ?_ | fail "no step")
        refine ex_app (o.length) (1) 1000 (by first | rfl | (simp; done) | (simp; omega)) (by first | rfl | (simp; done) | (simp; omega)) rfl (by omega) ?_
        refine ex_is (List.map tokD (o ++ [(⟨k, t, n, u, v⟩ : TokP)])) (by rw [List.map_append]; rfl) ?_
        repeat' (first | refine ex_true (by first | decide | omega | assumption | (with_reducible exact rfl)) ?_ | refine ex_false (by first | decide | omega | assumption | exact (fun h => h rfl)) ?_ | refine ex_dec (fun _ => ?_) (fun _ => ?_) | refine ex_u8 _ rfl (by omega) (by omega) ?_ | refine ex_i64 _ rfl (by omega) (by omega) ?_ | refine ex_u64 _ rfl (by omega) (by omega) ?_ | refine and_mk (by first | omega | (with_reducible rfl) | (show drawOk _ _ _ = true; kernel_rfl)) ?_ | refine and_mk ⟨_, rfl⟩ ?_ | refine ex_is _ (List.length_map _) ?_ | refine ex_is _ List.length_nil ?_ | fail "no step")
        have hbt := bs_size t
        have hxt : x.length = t.length + X.length := by rw [hX, List.length_append]
        have hsk := skip_c x (u, v) (bs t).size (by omega) (by omega) (by have := e3.2.2.1; show u ≤ _; omega) (by have := e3.2.2.2; show v ≤ _; omega)
        have hq : (x.take (bs t).size).foldl skipP (u, v) = (u, v + t.length) := by rw [hbt, hX, List.take_left, skip_line t u v ht10]
        have hdr : x.drop (bs t).size = X := by rw [hbt, hX, List.drop_left]
        rw [hq, hdr] at hsk
        rw [← hbt, hdr, hbt, LR.pre_pre] at hs2
        refine ex_callM (CallsM.ren (hsk.of0) [1] 6 rfl rfl rfl rfl) ?_
        have hpos : 0 < t.length := List.length_pos_iff.2 ht0
        exact ex_round (X, u, v + t.length, o ++ [⟨k, t, n, u, v⟩]) ⟨⟨e3.1, by have := e3.2.1; show 1 ≤ v + _; omega, by have := e3.2.2.1; show u + _ ≤ _; omega, by have := e3.2.2.2; show v + _ + _ ≤ _; omega⟩, by show (o ++ [_]).length + X.length ≤ _; rw [List.length_append, List.length_cons, List.length_nil]; omega, hs2⟩ (by show X.length < r.length; omega) (SLe.ren [(0, 0), (1, 1), (5, 2)] ⟨⟨rfl, rfl⟩, ⟨rfl, rfl⟩, ⟨rfl, rfl⟩, trivial⟩ ⟨⟨rfl, rfl⟩, ⟨rfl, rfl⟩, ⟨rfl, rfl⟩, trivial⟩ rfl)
      · have he := tokF_err hk
        subst hs2
        refine ex_callM (CallsM.ren (ht) [1] 3 rfl rfl rfl rfl) ?_
        repeat' (first | refine ex_true (by first | decide | omega | assumption | (with_reducible exact rfl)) ?_ | refine ex_false (by first | decide | omega | assumption | exact (fun h => h rfl)) ?_ | refine ex_dec (fun _ => ?_) (fun _ => ?_) | refine ex_u8 _ rfl (by omega) (by omega) ?_ | refine ex_i64 _ rfl (by omega) (by omega) ?_ | refine ex_u64 _ rfl (by omega) (by omega) ?_ | refine and_mk (by first | omega | (with_reducible rfl) | (show drawOk _ _ _ = true; kernel_rfl)) ?_ | refine and_mk ⟨_, rfl⟩ ?_ | refine ex_is _ (List.length_map _) ?_ | refine ex_is _ List.length_nil ?_ | fail "no step")
        exact TLe.nilc
  · rw [if_neg hs]
    refine fn_rule (C := ⟨Tryd.prog, layF, Tryd.f8.ntmps, ΓL, 0, [], []⟩) layF_ok mixed Tryd.func8 rfl (by kernel_rfl) rfl rfl rfl ?_
    repeat' (first | refine ex_true (by first | decide | omega | assumption | (with_reducible exact rfl)) ?_ | refine ex_false (by first | decide | omega | assumption | exact (fun h => h rfl)) ?_ | refine ex_dec (fun _ => ?_) (fun _ => ?_) | refine ex_u8 _ rfl (by omega) (by omega) ?_ | refine ex_i64 _ rfl (by omega) (by omega) ?_ | refine ex_u64 _ rfl (by omega) (by omega) ?_ | refine and_mk (by first | omega | (with_reducible rfl) | (show drawOk _ _ _ = true; kernel_rfl)) ?_ | refine and_mk ⟨_, rfl⟩ ?_ | refine ex_is _ (List.length_map _) ?_ | refine ex_is _ List.length_nil ?_ | fail "no step")
    exact TLe.nilc
end Go.Proofs.YtkbhmcdoedmffaaDoor

namespace Go.Proofs.YtkbhmcdoedmffaaDoor
set_option linter.unusedVariables false
set_option linter.unusedSimpArgs false
open Go.RowKit
set_option maxRecDepth 100000

/-! ### Data -/
def intsD (l : List Int) : D := .sl 1 (l.map fun k => [di k])
def exD (x : EX) : List D := [di x.k, ds (bs x.op), du x.n, ds (bs x.nm), intsD x.kids]
def caD (c : CA) : List D := [du c.n, di c.t]
def tyD (t : TY) : List D := [di t.k, di t.size, db t.little, ds (bs t.nm), intsD t.args, di t.ex, di t.inn, .sl 2 (t.cases.map caD)]
def sbD (s : SB) : List D := [ds (bs s.nm), di s.bits]
def itD (x : IT) : List D := [ds (bs x.nm), di x.ty, di x.der, ds (bs x.a), ds (bs x.b), di x.wh, di x.size, db x.little, .sl 2 (x.subs.map sbD)]
def rcD (r : RC) : List D := [ds (bs r.nm), .sl 1 (r.ps.map fun p => [ds (bs p)]), .sl 9 (r.its.map itD)]
def coD (c : CO) : List D := [ds (bs c.nm), du c.n]
/-- The parser's object; the file's. -/
abbrev Qz (L : List TokP) (m i : Nat) : Blk := .obj [.d (.sl 5 (L.map tokD)), .d (di i), .d (di (32 - (m : Int))), .ptr 1 0]
abbrev Fz (a b c d : Nat) : Blk := .obj [.row a, .row b, .row c, .row d]
abbrev Xz (l : List EX) : Blk := .row 5 50 (l.map exD)
abbrev Tz (l : List TY) : Blk := .row 8 47 (l.map tyD)
/-- What a parser fails with. -/
abbrev fltV (l c e : Nat) : Value := .iface 57 (.agg #[.int .i64 l, .int .i64 c, .int .i64 e])
abbrev flt (L : List TokP) (i e : Nat) : Value := fltV (tk L i).l (tk L i).c e
def PR.tv {α : Type} (L : List TokP) (g : α → TV) : PR α → TV
  | .ok v _ => g v
  | .err i e => .pan (flt L i e)
/-- The memory behind a function that only moves the place; that makes expressions; that makes types too. -/
def PR.u0 {α : Type} (L : List TokP) (m : Nat) : PR α → List (Nat × Blk)
  | .ok _ s => [(0, Qz L m s.i)]
  | .err _ _ => [(0, .dead)]
def PR.u1 {α : Type} (L : List TokP) (m : Nat) : PR α → List (Nat × Blk)
  | .ok _ s => [(0, Qz L m s.i), (1, Fz 2 3 6 5), (4, .dead)]
  | .err _ _ => [(0, .dead), (1, .dead), (4, .dead)]
def PR.n1 {α : Type} : PR α → List Blk
  | .ok _ s => [Xz s.xs]
  | .err _ _ => []
def PR.u2 {α : Type} (L : List TokP) (m : Nat) : PR α → List (Nat × Blk)
  | .ok _ s => [(0, Qz L m s.i), (1, Fz 2 3 6 7), (4, .dead), (5, .dead)]
  | .err _ _ => [(0, .dead), (1, .dead), (4, .dead), (5, .dead)]
def PR.n2 {α : Type} : PR α → List Blk
  | .ok _ s => [Xz s.xs, Tz s.ts]
  | .err _ _ => []
abbrev P0 : T1 := .c (.ptr 0 0)
def C0 (L : List TokP) (m : Nat) (f : FuncId) (xs : List T1) {α : Type} (x : PM α) (g : α → TV) (s : PS) : Prop := CallsM Tryd.prog ΓL f [(0, Qz L m s.i)] 2 (P0 :: xs) ((x s).tv L g) ((x s).u0 L m) []
def C1 (L : List TokP) (m : Nat) (f : FuncId) (xs : List T1) {α : Type} (x : PM α) (g : α → TV) (s : PS) : Prop := CallsM Tryd.prog ΓL f [(0, Qz L m s.i), (1, Fz 2 3 4 5), (4, Xz s.xs)] 6 (P0 :: xs) ((x s).tv L g) ((x s).u1 L m) (x s).n1
def C2 (L : List TokP) (m : Nat) (f : FuncId) (xs : List T1) {α : Type} (x : PM α) (g : α → TV) (s : PS) : Prop := CallsM Tryd.prog ΓL f [(0, Qz L m s.i), (1, Fz 2 3 4 5), (4, Xz s.xs), (5, Tz s.ts)] 6 (P0 :: xs) ((x s).tv L g) ((x s).u2 L m) (x s).n2
section
variable {L : List TokP} {m : Nat} {f : FuncId} {xs : List T1} {α : Type} {x : PM α} {g : α → TV} {s s' : PS} {v : α} {i e : Nat}
theorem C0.ok (h : C0 L m f xs x g s) (hx : x s = .ok v s') : CallsM Tryd.prog ΓL f [(0, Qz L m s.i)] 2 (P0 :: xs) (g v) [(0, Qz L m s'.i)] [] := by unfold C0 at h; rw [hx] at h; exact h
theorem C0.err (h : C0 L m f xs x g s) (hx : x s = .err i e) : CallsM Tryd.prog ΓL f [(0, Qz L m s.i)] 2 (P0 :: xs) (.pan (flt L i e)) [(0, .dead)] [] := by unfold C0 at h; rw [hx] at h; exact h
theorem C1.ok (h : C1 L m f xs x g s) (hx : x s = .ok v s') : CallsM Tryd.prog ΓL f [(0, Qz L m s.i), (1, Fz 2 3 4 5), (4, Xz s.xs)] 6 (P0 :: xs) (g v) [(0, Qz L m s'.i), (1, Fz 2 3 6 5), (4, .dead)] [Xz s'.xs] := by unfold C1 at h; rw [hx] at h; exact h
theorem C1.err (h : C1 L m f xs x g s) (hx : x s = .err i e) : CallsM Tryd.prog ΓL f [(0, Qz L m s.i), (1, Fz 2 3 4 5), (4, Xz s.xs)] 6 (P0 :: xs) (.pan (flt L i e)) [(0, .dead), (1, .dead), (4, .dead)] [] := by unfold C1 at h; rw [hx] at h; exact h
theorem C2.ok (h : C2 L m f xs x g s) (hx : x s = .ok v s') : CallsM Tryd.prog ΓL f [(0, Qz L m s.i), (1, Fz 2 3 4 5), (4, Xz s.xs), (5, Tz s.ts)] 6 (P0 :: xs) (g v) [(0, Qz L m s'.i), (1, Fz 2 3 6 7), (4, .dead), (5, .dead)] [Xz s'.xs, Tz s'.ts] := by unfold C2 at h; rw [hx] at h; exact h
theorem C2.err (h : C2 L m f xs x g s) (hx : x s = .err i e) : CallsM Tryd.prog ΓL f [(0, Qz L m s.i), (1, Fz 2 3 4 5), (4, Xz s.xs), (5, Tz s.ts)] 6 (P0 :: xs) (.pan (flt L i e)) [(0, .dead), (1, .dead), (4, .dead), (5, .dead)] [] := by unfold C2 at h; rw [hx] at h; exact h
/-- A part's contract, from what it gives in all. -/
theorem C0.of (h : ∀ T, x s = T → CallsM Tryd.prog ΓL f [(0, Qz L m s.i)] 2 (P0 :: xs) (T.tv L g) (T.u0 L m) []) : C0 L m f xs x g s := h _ rfl
theorem C1.of (h : ∀ T, x s = T → CallsM Tryd.prog ΓL f [(0, Qz L m s.i), (1, Fz 2 3 4 5), (4, Xz s.xs)] 6 (P0 :: xs) (T.tv L g) (T.u1 L m) T.n1) : C1 L m f xs x g s := h _ rfl
theorem C2.of (h : ∀ T, x s = T → CallsM Tryd.prog ΓL f [(0, Qz L m s.i), (1, Fz 2 3 4 5), (4, Xz s.xs), (5, Tz s.ts)] 6 (P0 :: xs) (T.tv L g) (T.u2 L m) T.n2) : C2 L m f xs x g s := h _ rfl
theorem Up.ok {a b c : Nat} (h : Up L x a b) (hs : SOk L (c + a) s) (hx : x s = .ok v s') : SOk L (c + b) s' ∧ s.i ≤ s'.i := by have := h s c hs; rw [hx] at this; exact this
end
section
variable {P : Program} {Γ : Glob} {f : FuncId} {nx : Nat} {xs : List T1} {r : TV} {upd : List (Nat × Blk)} {new : List Blk} {a b c d : Nat × Blk} {m : List (Nat × Blk)}
theorem CallsM.more0 (h : CallsM P Γ f [a] nx xs r upd new) : CallsM P Γ f (a :: m) nx xs r upd new := h.more fun p hp => by
  simp only [List.mem_cons, List.not_mem_nil, or_false] at hp ⊢; exact .inl hp
theorem CallsM.more1 (h : CallsM P Γ f [a, b, c] nx xs r upd new) : CallsM P Γ f (a :: b :: c :: m) nx xs r upd new := h.more fun p hp => by
  simp only [List.mem_cons, List.not_mem_nil, or_false] at hp ⊢; rcases hp with hp | hp | hp <;> simp [hp]
theorem CallsM.moreL (h : CallsM P Γ f [a, b, d] nx xs r upd new) : CallsM P Γ f (a :: b :: c :: d :: m) nx xs r upd new := h.more fun p hp => by
  simp only [List.mem_cons, List.not_mem_nil, or_false] at hp ⊢; rcases hp with hp | hp | hp <;> simp [hp]
end
theorem bsj {l m : List UInt8} : bs l = bs m ↔ l = m := ⟨fun h => by simpa [bs] using h, fun h => by rw [h]⟩
theorem at_pos {α : Type} {p : Nat → Bool} {x y : PM α} {s : PS} (h : p s.i = true) : atM p x y s = x s := if_pos h
theorem at_neg {α : Type} {p : Nat → Bool} {x y : PM α} {s : PS} (h : p s.i = false) : atM p x y s = y s := if_neg (by rw [h]; decide)

/-! ### The parser's small functions -/
section
variable {L : List TokP} {m : Nat}
theorem tk_at {i : Nat} (h : i < L.length) : L[i]? = some (tk L i) := by
  unfold tk
  rw [List.getD_eq_getElem?_getD, List.getElem?_eq_getElem h]; rfl
theorem ahead_c (i : Nat) (h : i < L.length) : CallsM Tryd.prog ΓL 19 [(0, Qz L m i)] 2 [P0] (.o (gD (tokD (tk L i)))) [(0, Qz L m i)] [] := by
  refine fn_ruleM (C := ⟨Tryd.prog, layF, Tryd.f19.ntmps, ΓL, 2, [], []⟩) layF_ok mixed Tryd.func19 rfl (by kernel_rfl) rfl rfl rfl ?_
  repeat' (first | refine (ex_row i _ rfl (tk_at h)) ?_ | refine ex_true (by first | decide | omega | assumption | (with_reducible exact rfl)) ?_ | refine ex_false (by first | decide | omega | assumption | exact (fun h => h rfl)) ?_ | refine ex_dec (fun _ => ?_) (fun _ => ?_) | refine ex_u8 _ rfl (by omega) (by omega) ?_ | refine ex_i64 _ rfl (by omega) (by omega) ?_ | refine ex_u64 _ rfl (by omega) (by omega) ?_ | refine and_mk (by first | omega | (with_reducible rfl) | (show drawOk _ _ _ = true; kernel_rfl)) ?_ | refine and_mk ⟨_, rfl⟩ ?_ | refine ex_is _ (List.length_map _) ?_ | refine ex_is _ List.length_nil ?_ | fail "no step")
  exact ⟨rfl, TLe.rfl, rfl, rfl⟩
theorem fail_c (i e : Nat) (h : i < L.length) : CallsM Tryd.prog ΓL 20 [(0, Qz L m i)] 2 [P0, c1 (di e)] (.pan (flt L i e)) [(0, .dead)] [] := by
  refine fn_ruleP (C := ⟨Tryd.prog, layF, Tryd.f20.ntmps, ΓL, 2, [], []⟩) layF_ok mixed Tryd.func20 rfl (by kernel_rfl) rfl rfl rfl SLe.rfl ?_
  refine ex_callM (CallsM.ren ((ahead_c i h)) [0, 1] 2 rfl rfl rfl rfl) ?_
  repeat' (first | refine ex_true (by first | decide | omega | assumption | (with_reducible exact rfl)) ?_ | refine ex_false (by first | decide | omega | assumption | exact (fun h => h rfl)) ?_ | refine ex_dec (fun _ => ?_) (fun _ => ?_) | refine ex_u8 _ rfl (by omega) (by omega) ?_ | refine ex_i64 _ rfl (by omega) (by omega) ?_ | refine ex_u64 _ rfl (by omega) (by omega) ?_ | refine and_mk (by first | omega | (with_reducible rfl) | (show drawOk _ _ _ = true; kernel_rfl)) ?_ | refine and_mk ⟨_, rfl⟩ ?_ | refine ex_is _ (List.length_map _) ?_ | refine ex_is _ List.length_nil ?_ | fail "no step")
  exact ⟨⟨_, rfl, rfl⟩, rfl, rfl⟩
end
end Go.Proofs.YtkbhmcdoedmffaaDoor

namespace Go.Proofs.YtkbhmcdoedmffaaDoor
set_option linter.unusedVariables false
set_option linter.unusedSimpArgs false
open Go.RowKit
set_option maxRecDepth 100000

def wordF (size : Int) (little : Bool) : List UInt8 :=
  let e : List UInt8 := if little = true then [108, 101] else [98, 101]
  if size = 1 then [117, 56] else if size = 2 then [117, 49, 54] ++ e else if size = 3 then [117, 50, 52] ++ e else if size = 4 then [117, 51, 50] ++ e else if size = 8 then [117, 54, 52] ++ e else []
theorem word_c (size : Int) (little : Bool) : CallsA Tryd.prog Γ0 33 [c1 (di size), c1 (db little)] (Tstr (bs (wordF size little))) := by
  by_cases h : size = 1 ∨ size = 2 ∨ size = 3 ∨ size = 4 ∨ size = 8
  · rcases h with rfl | rfl | rfl | rfl | rfl <;> cases little
    all_goals
      refine fn_rule (C := ⟨Tryd.prog, layF, Tryd.f33.ntmps, Γ0, 0, [], []⟩) layF_ok mixed Tryd.func33 rfl (by kernel_rfl) rfl rfl rfl ?_
      repeat' (first | refine (and_mk (by decide)) ?_ | refine ex_true (by first | decide | omega | assumption | (with_reducible exact rfl)) ?_ | refine ex_false (by first | decide | omega | assumption | exact (fun h => h rfl)) ?_ | refine ex_dec (fun _ => ?_) (fun _ => ?_) | refine ex_u8 _ rfl (by omega) (by omega) ?_ | refine ex_i64 _ rfl (by omega) (by omega) ?_ | refine ex_u64 _ rfl (by omega) (by omega) ?_ | refine and_mk (by first | omega | (with_reducible rfl) | (show drawOk _ _ _ = true; kernel_rfl)) ?_ | refine and_mk ⟨_, rfl⟩ ?_ | refine ex_is _ (List.length_map _) ?_ | refine ex_is _ List.length_nil ?_ | fail "no step")
      first | exact TLe.rfl | exact TLe.eq (congrArg (fun s => Tstr s) (bs_app _ _))
  · rw [show wordF size little = [] by unfold wordF; rw [if_neg (by omega), if_neg (by omega), if_neg (by omega), if_neg (by omega), if_neg (by omega)]]
    cases little
    all_goals
      refine fn_rule (C := ⟨Tryd.prog, layF, Tryd.f33.ntmps, Γ0, 0, [], []⟩) layF_ok mixed Tryd.func33 rfl (by kernel_rfl) rfl rfl rfl ?_
      repeat' (first | refine ex_true (by first | decide | omega | assumption | (with_reducible exact rfl)) ?_ | refine ex_false (by first | decide | omega | assumption | exact (fun h => h rfl)) ?_ | refine ex_dec (fun _ => ?_) (fun _ => ?_) | refine ex_u8 _ rfl (by omega) (by omega) ?_ | refine ex_i64 _ rfl (by omega) (by omega) ?_ | refine ex_u64 _ rfl (by omega) (by omega) ?_ | refine and_mk (by first | omega | (with_reducible rfl) | (show drawOk _ _ _ = true; kernel_rfl)) ?_ | refine and_mk ⟨_, rfl⟩ ?_ | refine ex_is _ (List.length_map _) ?_ | refine ex_is _ List.length_nil ?_ | fail "no step")
      exact TLe.rfl
theorem level_c (w : List UInt8) : CallsA Tryd.prog Γ0 7 [c1 (ds (bs w))] (Ti (levelV w)) := by
  by_cases hm : w ∈ levelsL.map (·.1)
  · simp only [levelsL, List.map_cons, List.map_nil, List.mem_cons, List.not_mem_nil, or_false] at hm
    rcases hm with rfl | rfl | rfl | rfl | rfl | rfl | rfl | rfl | rfl | rfl | rfl | rfl | rfl | rfl | rfl | rfl | rfl
    all_goals
      refine fn_rule (C := ⟨Tryd.prog, layF, Tryd.f7.ntmps, Γ0, 0, [], []⟩) layF_ok mixed Tryd.func7 rfl (by kernel_rfl) rfl rfl rfl ?_
      repeat' (first | refine ex_true (by first | decide | omega | assumption | (with_reducible exact rfl)) ?_ | refine ex_false (by first | decide | omega | assumption | exact (fun h => h rfl)) ?_ | refine ex_dec (fun _ => ?_) (fun _ => ?_) | refine ex_u8 _ rfl (by omega) (by omega) ?_ | refine ex_i64 _ rfl (by omega) (by omega) ?_ | refine ex_u64 _ rfl (by omega) (by omega) ?_ | refine and_mk (by first | omega | (with_reducible rfl) | (show drawOk _ _ _ = true; kernel_rfl)) ?_ | refine and_mk ⟨_, rfl⟩ ?_ | refine ex_is _ (List.length_map _) ?_ | refine ex_is _ List.length_nil ?_ | fail "no step")
      exact TLe.eq (congrArg (fun n : Nat => Ti (n : Int)) (show _ = levelV _ by decide +kernel))
  · have hne : ∀ l, l ∈ levelsL.map (·.1) → ¬ bs w = bs l := fun l hl he => hm (by rw [bsj.1 he]; exact hl)
    have h0 : levelV w = 0 := by
      have : List.find? (fun p => p.1 == w) levelsL = none := List.find?_eq_none.2 (fun p hp he => hm (List.mem_map.2 ⟨p, hp, by simpa using he⟩))
      unfold levelV; rw [this]; rfl
    rw [h0]
    refine fn_rule (C := ⟨Tryd.prog, layF, Tryd.f7.ntmps, Γ0, 0, [], []⟩) layF_ok mixed Tryd.func7 rfl (by kernel_rfl) rfl rfl rfl ?_
    repeat' (first | refine ex_false (hne _ (by decide)) ?_ | refine ex_true (by first | decide | omega | assumption | (with_reducible exact rfl)) ?_ | refine ex_false (by first | decide | omega | assumption | exact (fun h => h rfl)) ?_ | refine ex_dec (fun _ => ?_) (fun _ => ?_) | refine ex_u8 _ rfl (by omega) (by omega) ?_ | refine ex_i64 _ rfl (by omega) (by omega) ?_ | refine ex_u64 _ rfl (by omega) (by omega) ?_ | refine and_mk (by first | omega | (with_reducible rfl) | (show drawOk _ _ _ = true; kernel_rfl)) ?_ | refine and_mk ⟨_, rfl⟩ ?_ | refine ex_is _ (List.length_map _) ?_ | refine ex_is _ List.length_nil ?_ | fail "no step")
    exact TLe.rfl
def szL : List Nat := [1, 2, 3, 4, 8]
theorem integer_none {w : List UInt8} (h : ∀ k, k < 5 → ∀ l, wordF (szL.getD k 0 : Nat) l ≠ w) : integerV w = none := by
  have hn : w ∉ intsL.map (·.1) := by
    intro hm
    simp only [intsL, List.map_cons, List.map_nil, List.mem_cons, List.not_mem_nil, or_false] at hm
    rcases hm with rfl | rfl | rfl | rfl | rfl | rfl | rfl | rfl | rfl
    · exact h 0 (by decide) false rfl
    · exact h 1 (by decide) false rfl
    · exact h 1 (by decide) true rfl
    · exact h 2 (by decide) false rfl
    · exact h 2 (by decide) true rfl
    · exact h 3 (by decide) false rfl
    · exact h 3 (by decide) true rfl
    · exact h 4 (by decide) false rfl
    · exact h 4 (by decide) true rfl
  exact Option.map_eq_none_iff.2 (List.find?_eq_none.2 fun p hp he => hn (List.mem_map.2 ⟨p, hp, by simpa using he⟩))
def intTV : Option (Nat × Bool) → TV
  | some (n, l) => .tup [c1 (di n), c1 (db l), c1 (db true)]
  | none => .tup [c1 (di 0), c1 (db false), c1 (db false)]
set_option maxHeartbeats 2000000 in
theorem integer_c (w : List UInt8) : CallsA Tryd.prog Γ0 21 [c1 (ds (bs w))] (intTV (integerV w)) := by
  refine fn_rule (C := ⟨Tryd.prog, layF, Tryd.f21.ntmps, Γ0, 0, [], []⟩) layF_ok mixed Tryd.func21 rfl (by kernel_rfl) rfl rfl rfl ?_
  repeat' (first | refine ex_true (by first | decide | omega | assumption | (with_reducible exact rfl)) ?_ | refine ex_false (by first | decide | omega | assumption | exact (fun h => h rfl)) ?_ | refine ex_dec (fun _ => ?_) (fun _ => ?_) | refine ex_u8 _ rfl (by omega) (by omega) ?_ | refine ex_i64 _ rfl (by omega) (by omega) ?_ | refine ex_u64 _ rfl (by omega) (by omega) ?_ | refine and_mk (by first | omega | (with_reducible rfl) | (show drawOk _ _ _ = true; kernel_rfl)) ?_ | refine and_mk ⟨_, rfl⟩ ?_ | refine ex_is _ (List.length_map _) ?_ | refine ex_is _ List.length_nil ?_ | fail "no step")
  refine ex_loop (X := Nat) (fun i => ⟨[(0, Tstr (bs w)), (9, .o (gD [di 1, di 2, di 3, di 4, di 8])), (10, Ti i)], [], 0⟩) (fun i => 5 - i) (fun i => i ≤ 5 ∧ ∀ k, k < i → ∀ l, wordF (szL.getD k 0 : Nat) l ≠ w) 0 ⟨by omega, fun k h => absurd h (by omega)⟩ (SLe.of ⟨⟨rfl, rfl, rfl, trivial⟩, trivial⟩) ?_
  rintro i ⟨hi, hP⟩
  by_cases h5 : i = 5
  · subst h5
    rw [integer_none hP]
    repeat' (first | refine ex_true (by first | decide | omega | assumption | (with_reducible exact rfl)) ?_ | refine ex_false (by first | decide | omega | assumption | exact (fun h => h rfl)) ?_ | refine ex_dec (fun _ => ?_) (fun _ => ?_) | refine ex_u8 _ rfl (by omega) (by omega) ?_ | refine ex_i64 _ rfl (by omega) (by omega) ?_ | refine ex_u64 _ rfl (by omega) (by omega) ?_ | refine and_mk (by first | omega | (with_reducible rfl) | (show drawOk _ _ _ = true; kernel_rfl)) ?_ | refine and_mk ⟨_, rfl⟩ ?_ | refine ex_is _ (List.length_map _) ?_ | refine ex_is _ List.length_nil ?_ | fail "no step")
    exact TLe.rfl
  · have key : ∀ (z : Nat), szL.getD i 0 = z → (∀ l, wordF z l ≠ w) → ∀ k, k < i + 1 → ∀ l, wordF (szL.getD k 0 : Nat) l ≠ w := fun z hz hl k hk l => by
      by_cases e : k = i
      · subst e; rw [hz]; exact hl l
      · exact hP k (by omega) l
    rcases (show i = 0 ∨ i = 1 ∨ i = 2 ∨ i = 3 ∨ i = 4 by omega) with rfl | rfl | rfl | rfl | rfl
    · repeat' (first | refine (ex_is ([.d (di 1)] : List CV) rfl) ?_ | refine ex_true (by first | decide | omega | assumption | (with_reducible exact rfl)) ?_ | refine ex_false (by first | decide | omega | assumption | exact (fun h => h rfl)) ?_ | refine ex_dec (fun _ => ?_) (fun _ => ?_) | refine ex_u8 _ rfl (by omega) (by omega) ?_ | refine ex_i64 _ rfl (by omega) (by omega) ?_ | refine ex_u64 _ rfl (by omega) (by omega) ?_ | refine and_mk (by first | omega | (with_reducible rfl) | (show drawOk _ _ _ = true; kernel_rfl)) ?_ | refine and_mk ⟨_, rfl⟩ ?_ | refine ex_is _ (List.length_map _) ?_ | refine ex_is _ List.length_nil ?_ | fail "no step")
      refine ex_loop (X := Nat) (fun j => ⟨[(0, Tstr (bs w)), (6, Ti 1), (9, .o (gD [di 1, di 2, di 3, di 4, di 8])), (10, Ti 0), (13, .o (gD [db false, db true])), (14, Ti j)], [], 0⟩) (fun j => 2 - j) (fun j => j ≤ 2 ∧ (0 < j → wordF 1 false ≠ w) ∧ (1 < j → wordF 1 true ≠ w)) 0 ⟨by omega, fun h => absurd h (by omega), fun h => absurd h (by omega)⟩ (SLe.of ⟨⟨rfl, rfl, rfl, rfl, rfl, rfl, trivial⟩, trivial⟩) ?_
      rintro j ⟨hj, q0, q1⟩
      rcases (show j = 0 ∨ j = 1 ∨ j = 2 by omega) with rfl | rfl | rfl
      · repeat' (first | refine ex_call (word_c 1 false) ?_ | refine (ex_is ([.d (db false)] : List CV) rfl) ?_ | refine ex_true (by first | decide | omega | assumption | (with_reducible exact rfl)) ?_ | refine ex_false (by first | decide | omega | assumption | exact (fun h => h rfl)) ?_ | refine ex_dec (fun _ => ?_) (fun _ => ?_) | refine ex_u8 _ rfl (by omega) (by omega) ?_ | refine ex_i64 _ rfl (by omega) (by omega) ?_ | refine ex_u64 _ rfl (by omega) (by omega) ?_ | refine and_mk (by first | omega | (with_reducible rfl) | (show drawOk _ _ _ = true; kernel_rfl)) ?_ | refine and_mk ⟨_, rfl⟩ ?_ | refine ex_is _ (List.length_map _) ?_ | refine ex_is _ List.length_nil ?_ | fail "no step")
        · rename_i e
          obtain rfl := bsj.1 e
          exact TLe.rfl
        · rename_i e
          exact ex_round 1 ⟨by omega, fun _ h => e (by rw [h]), fun h => absurd h (by omega)⟩ (by show 2 - 1 < 2 - 0; decide) (SLe.of ⟨⟨rfl, rfl, rfl, rfl, rfl, rfl, trivial⟩, trivial⟩)
      · repeat' (first | refine ex_call (word_c 1 true) ?_ | refine (ex_is ([.d (db true)] : List CV) rfl) ?_ | refine ex_true (by first | decide | omega | assumption | (with_reducible exact rfl)) ?_ | refine ex_false (by first | decide | omega | assumption | exact (fun h => h rfl)) ?_ | refine ex_dec (fun _ => ?_) (fun _ => ?_) | refine ex_u8 _ rfl (by omega) (by omega) ?_ | refine ex_i64 _ rfl (by omega) (by omega) ?_ | refine ex_u64 _ rfl (by omega) (by omega) ?_ | refine and_mk (by first | omega | (with_reducible rfl) | (show drawOk _ _ _ = true; kernel_rfl)) ?_ | refine and_mk ⟨_, rfl⟩ ?_ | refine ex_is _ (List.length_map _) ?_ | refine ex_is _ List.length_nil ?_ | fail "no step")
        · rename_i e
          obtain rfl := bsj.1 e
          first | exact TLe.rfl | exact absurd rfl (q0 (by omega))
        · rename_i e
          exact ex_round 2 ⟨by omega, fun _ => q0 (by omega), fun _ h => e (by rw [h])⟩ (by show 2 - 2 < 2 - 1; decide) (SLe.of ⟨⟨rfl, rfl, rfl, rfl, rfl, rfl, trivial⟩, trivial⟩)
      · repeat' (first | refine ex_true (by first | decide | omega | assumption | (with_reducible exact rfl)) ?_ | refine ex_false (by first | decide | omega | assumption | exact (fun h => h rfl)) ?_ | refine ex_dec (fun _ => ?_) (fun _ => ?_) | refine ex_u8 _ rfl (by omega) (by omega) ?_ | refine ex_i64 _ rfl (by omega) (by omega) ?_ | refine ex_u64 _ rfl (by omega) (by omega) ?_ | refine and_mk (by first | omega | (with_reducible rfl) | (show drawOk _ _ _ = true; kernel_rfl)) ?_ | refine and_mk ⟨_, rfl⟩ ?_ | refine ex_is _ (List.length_map _) ?_ | refine ex_is _ List.length_nil ?_ | fail "no step")
        exact ex_round (0 + 1) ⟨by omega, key 1 (by decide) fun l => by cases l; exact q0 (by omega); exact q1 (by omega)⟩ (by show 5 - (0 + 1) < 5 - 0; omega) (SLe.of ⟨⟨rfl, rfl, rfl, trivial⟩, trivial⟩)
    · repeat' (first | refine (ex_is ([.d (di 2)] : List CV) rfl) ?_ | refine ex_true (by first | decide | omega | assumption | (with_reducible exact rfl)) ?_ | refine ex_false (by first | decide | omega | assumption | exact (fun h => h rfl)) ?_ | refine ex_dec (fun _ => ?_) (fun _ => ?_) | refine ex_u8 _ rfl (by omega) (by omega) ?_ | refine ex_i64 _ rfl (by omega) (by omega) ?_ | refine ex_u64 _ rfl (by omega) (by omega) ?_ | refine and_mk (by first | omega | (with_reducible rfl) | (show drawOk _ _ _ = true; kernel_rfl)) ?_ | refine and_mk ⟨_, rfl⟩ ?_ | refine ex_is _ (List.length_map _) ?_ | refine ex_is _ List.length_nil ?_ | fail "no step")
      refine ex_loop (X := Nat) (fun j => ⟨[(0, Tstr (bs w)), (6, Ti 2), (9, .o (gD [di 1, di 2, di 3, di 4, di 8])), (10, Ti 1), (13, .o (gD [db false, db true])), (14, Ti j)], [], 0⟩) (fun j => 2 - j) (fun j => j ≤ 2 ∧ (0 < j → wordF 2 false ≠ w) ∧ (1 < j → wordF 2 true ≠ w)) 0 ⟨by omega, fun h => absurd h (by omega), fun h => absurd h (by omega)⟩ (SLe.of ⟨⟨rfl, rfl, rfl, rfl, rfl, rfl, trivial⟩, trivial⟩) ?_
      rintro j ⟨hj, q0, q1⟩
      rcases (show j = 0 ∨ j = 1 ∨ j = 2 by omega) with rfl | rfl | rfl
      · repeat' (first | refine ex_call (word_c 2 false) ?_ | refine (ex_is ([.d (db false)] : List CV) rfl) ?_ | refine ex_true (by first | decide | omega | assumption | (with_reducible exact rfl)) ?_ | refine ex_false (by first | decide | omega | assumption | exact (fun h => h rfl)) ?_ | refine ex_dec (fun _ => ?_) (fun _ => ?_) | refine ex_u8 _ rfl (by omega) (by omega) ?_ | refine ex_i64 _ rfl (by omega) (by omega) ?_ | refine ex_u64 _ rfl (by omega) (by omega) ?_ | refine and_mk (by first | omega | (with_reducible rfl) | (show drawOk _ _ _ = true; kernel_rfl)) ?_ | refine and_mk ⟨_, rfl⟩ ?_ | refine ex_is _ (List.length_map _) ?_ | refine ex_is _ List.length_nil ?_ | fail "no step")
        · rename_i e
          obtain rfl := bsj.1 e
          exact TLe.rfl
        · rename_i e
          exact ex_round 1 ⟨by omega, fun _ h => e (by rw [h]), fun h => absurd h (by omega)⟩ (by show 2 - 1 < 2 - 0; decide) (SLe.of ⟨⟨rfl, rfl, rfl, rfl, rfl, rfl, trivial⟩, trivial⟩)
      · repeat' (first | refine ex_call (word_c 2 true) ?_ | refine (ex_is ([.d (db true)] : List CV) rfl) ?_ | refine ex_true (by first | decide | omega | assumption | (with_reducible exact rfl)) ?_ | refine ex_false (by first | decide | omega | assumption | exact (fun h => h rfl)) ?_ | refine ex_dec (fun _ => ?_) (fun _ => ?_) | refine ex_u8 _ rfl (by omega) (by omega) ?_ | refine ex_i64 _ rfl (by omega) (by omega) ?_ | refine ex_u64 _ rfl (by omega) (by omega) ?_ | refine and_mk (by first | omega | (with_reducible rfl) | (show drawOk _ _ _ = true; kernel_rfl)) ?_ | refine and_mk ⟨_, rfl⟩ ?_ | refine ex_is _ (List.length_map _) ?_ | refine ex_is _ List.length_nil ?_ | fail "no step")
        · rename_i e
          obtain rfl := bsj.1 e
          first | exact TLe.rfl | exact absurd rfl (q0 (by omega))
        · rename_i e
          exact ex_round 2 ⟨by omega, fun _ => q0 (by omega), fun _ h => e (by rw [h])⟩ (by show 2 - 2 < 2 - 1; decide) (SLe.of ⟨⟨rfl, rfl, rfl, rfl, rfl, rfl, trivial⟩, trivial⟩)
      · repeat' (first | refine ex_true (by first | decide | omega | assumption | (with_reducible exact rfl)) ?_ | refine ex_false (by first | decide | omega | assumption | exact (fun h => h rfl)) ?_ | refine ex_dec (fun _ => ?_) (fun _ => ?_) | refine ex_u8 _ rfl (by omega) (by omega) ?_ | refine ex_i64 _ rfl (by omega) (by omega) ?_ | refine ex_u64 _ rfl (by omega) (by omega) ?_ | refine and_mk (by first | omega | (with_reducible rfl) | (show drawOk _ _ _ = true; kernel_rfl)) ?_ | refine and_mk ⟨_, rfl⟩ ?_ | refine ex_is _ (List.length_map _) ?_ | refine ex_is _ List.length_nil ?_ | fail "no step")
        exact ex_round (1 + 1) ⟨by omega, key 2 (by decide) fun l => by cases l; exact q0 (by omega); exact q1 (by omega)⟩ (by show 5 - (1 + 1) < 5 - 1; omega) (SLe.of ⟨⟨rfl, rfl, rfl, trivial⟩, trivial⟩)
    · repeat' (first | refine (ex_is ([.d (di 3)] : List CV) rfl) ?_ | refine ex_true (by first | decide | omega | assumption | (with_reducible exact rfl)) ?_ | refine ex_false (by first | decide | omega | assumption | exact (fun h => h rfl)) ?_ | refine ex_dec (fun _ => ?_) (fun _ => ?_) | refine ex_u8 _ rfl (by omega) (by omega) ?_ | refine ex_i64 _ rfl (by omega) (by omega) ?_ | refine ex_u64 _ rfl (by omega) (by omega) ?_ | refine and_mk (by first | omega | (with_reducible rfl) | (show drawOk _ _ _ = true; kernel_rfl)) ?_ | refine and_mk ⟨_, rfl⟩ ?_ | refine ex_is _ (List.length_map _) ?_ | refine ex_is _ List.length_nil ?_ | fail "no step")
      refine ex_loop (X := Nat) (fun j => ⟨[(0, Tstr (bs w)), (6, Ti 3), (9, .o (gD [di 1, di 2, di 3, di 4, di 8])), (10, Ti 2), (13, .o (gD [db false, db true])), (14, Ti j)], [], 0⟩) (fun j => 2 - j) (fun j => j ≤ 2 ∧ (0 < j → wordF 3 false ≠ w) ∧ (1 < j → wordF 3 true ≠ w)) 0 ⟨by omega, fun h => absurd h (by omega), fun h => absurd h (by omega)⟩ (SLe.of ⟨⟨rfl, rfl, rfl, rfl, rfl, rfl, trivial⟩, trivial⟩) ?_
      rintro j ⟨hj, q0, q1⟩
      rcases (show j = 0 ∨ j = 1 ∨ j = 2 by omega) with rfl | rfl | rfl
      · repeat' (first | refine ex_call (word_c 3 false) ?_ | refine (ex_is ([.d (db false)] : List CV) rfl) ?_ | refine ex_true (by first | decide | omega | assumption | (with_reducible exact rfl)) ?_ | refine ex_false (by first | decide | omega | assumption | exact (fun h => h rfl)) ?_ | refine ex_dec (fun _ => ?_) (fun _ => ?_) | refine ex_u8 _ rfl (by omega) (by omega) ?_ | refine ex_i64 _ rfl (by omega) (by omega) ?_ | refine ex_u64 _ rfl (by omega) (by omega) ?_ | refine and_mk (by first | omega | (with_reducible rfl) | (show drawOk _ _ _ = true; kernel_rfl)) ?_ | refine and_mk ⟨_, rfl⟩ ?_ | refine ex_is _ (List.length_map _) ?_ | refine ex_is _ List.length_nil ?_ | fail "no step")
        · rename_i e
          obtain rfl := bsj.1 e
          exact TLe.rfl
        · rename_i e
          exact ex_round 1 ⟨by omega, fun _ h => e (by rw [h]), fun h => absurd h (by omega)⟩ (by show 2 - 1 < 2 - 0; decide) (SLe.of ⟨⟨rfl, rfl, rfl, rfl, rfl, rfl, trivial⟩, trivial⟩)
      · repeat' (first | refine ex_call (word_c 3 true) ?_ | refine (ex_is ([.d (db true)] : List CV) rfl) ?_ | refine ex_true (by first | decide | omega | assumption | (with_reducible exact rfl)) ?_ | refine ex_false (by first | decide | omega | assumption | exact (fun h => h rfl)) ?_ | refine ex_dec (fun _ => ?_) (fun _ => ?_) | refine ex_u8 _ rfl (by omega) (by omega) ?_ | refine ex_i64 _ rfl (by omega) (by omega) ?_ | refine ex_u64 _ rfl (by omega) (by omega) ?_ | refine and_mk (by first | omega | (with_reducible rfl) | (show drawOk _ _ _ = true; kernel_rfl)) ?_ | refine and_mk ⟨_, rfl⟩ ?_ | refine ex_is _ (List.length_map _) ?_ | refine ex_is _ List.length_nil ?_ | fail "no step")
        · rename_i e
          obtain rfl := bsj.1 e
          first | exact TLe.rfl | exact absurd rfl (q0 (by omega))
        · rename_i e
          exact ex_round 2 ⟨by omega, fun _ => q0 (by omega), fun _ h => e (by rw [h])⟩ (by show 2 - 2 < 2 - 1; decide) (SLe.of ⟨⟨rfl, rfl, rfl, rfl, rfl, rfl, trivial⟩, trivial⟩)
      · repeat' (first | refine ex_true (by first | decide | omega | assumption | (with_reducible exact rfl)) ?_ | refine ex_false (by first | decide | omega | assumption | exact (fun h => h rfl)) ?_ | refine ex_dec (fun _ => ?_) (fun _ => ?_) | refine ex_u8 _ rfl (by omega) (by omega) ?_ | refine ex_i64 _ rfl (by omega) (by omega) ?_ | refine ex_u64 _ rfl (by omega) (by omega) ?_ | refine and_mk (by first | omega | (with_reducible rfl) | (show drawOk _ _ _ = true; kernel_rfl)) ?_ | refine and_mk ⟨_, rfl⟩ ?_ | refine ex_is _ (List.length_map _) ?_ | refine ex_is _ List.length_nil ?_ | fail "no step")
        exact ex_round (2 + 1) ⟨by omega, key 3 (by decide) fun l => by cases l; exact q0 (by omega); exact q1 (by omega)⟩ (by show 5 - (2 + 1) < 5 - 2; omega) (SLe.of ⟨⟨rfl, rfl, rfl, trivial⟩, trivial⟩)
    · repeat' (first | refine (ex_is ([.d (di 4)] : List CV) rfl) ?_ | refine ex_true (by first | decide | omega | assumption | (with_reducible exact rfl)) ?_ | refine ex_false (by first | decide | omega | assumption | exact (fun h => h rfl)) ?_ | refine ex_dec (fun _ => ?_) (fun _ => ?_) | refine ex_u8 _ rfl (by omega) (by omega) ?_ | refine ex_i64 _ rfl (by omega) (by omega) ?_ | refine ex_u64 _ rfl (by omega) (by omega) ?_ | refine and_mk (by first | omega | (with_reducible rfl) | (show drawOk _ _ _ = true; kernel_rfl)) ?_ | refine and_mk ⟨_, rfl⟩ ?_ | refine ex_is _ (List.length_map _) ?_ | refine ex_is _ List.length_nil ?_ | fail "no step")
      refine ex_loop (X := Nat) (fun j => ⟨[(0, Tstr (bs w)), (6, Ti 4), (9, .o (gD [di 1, di 2, di 3, di 4, di 8])), (10, Ti 3), (13, .o (gD [db false, db true])), (14, Ti j)], [], 0⟩) (fun j => 2 - j) (fun j => j ≤ 2 ∧ (0 < j → wordF 4 false ≠ w) ∧ (1 < j → wordF 4 true ≠ w)) 0 ⟨by omega, fun h => absurd h (by omega), fun h => absurd h (by omega)⟩ (SLe.of ⟨⟨rfl, rfl, rfl, rfl, rfl, rfl, trivial⟩, trivial⟩) ?_
      rintro j ⟨hj, q0, q1⟩
      rcases (show j = 0 ∨ j = 1 ∨ j = 2 by omega) with rfl | rfl | rfl
      · repeat' (first | refine ex_call (word_c 4 false) ?_ | refine (ex_is ([.d (db false)] : List CV) rfl) ?_ | refine ex_true (by first | decide | omega | assumption | (with_reducible exact rfl)) ?_ | refine ex_false (by first | decide | omega | assumption | exact (fun h => h rfl)) ?_ | refine ex_dec (fun _ => ?_) (fun _ => ?_) | refine ex_u8 _ rfl (by omega) (by omega) ?_ | refine ex_i64 _ rfl (by omega) (by omega) ?_ | refine ex_u64 _ rfl (by omega) (by omega) ?_ | refine and_mk (by first | omega | (with_reducible rfl) | (show drawOk _ _ _ = true; kernel_rfl)) ?_ | refine and_mk ⟨_, rfl⟩ ?_ | refine ex_is _ (List.length_map _) ?_ | refine ex_is _ List.length_nil ?_ | fail "no step")
        · rename_i e
          obtain rfl := bsj.1 e
          exact TLe.rfl
        · rename_i e
          exact ex_round 1 ⟨by omega, fun _ h => e (by rw [h]), fun h => absurd h (by omega)⟩ (by show 2 - 1 < 2 - 0; decide) (SLe.of ⟨⟨rfl, rfl, rfl, rfl, rfl, rfl, trivial⟩, trivial⟩)
      · repeat' (first | refine ex_call (word_c 4 true) ?_ | refine (ex_is ([.d (db true)] : List CV) rfl) ?_ | refine ex_true (by first | decide | omega | assumption | (with_reducible exact rfl)) ?_ | refine ex_false (by first | decide | omega | assumption | exact (fun h => h rfl)) ?_ | refine ex_dec (fun _ => ?_) (fun _ => ?_) | refine ex_u8 _ rfl (by omega) (by omega) ?_ | refine ex_i64 _ rfl (by omega) (by omega) ?_ | refine ex_u64 _ rfl (by omega) (by omega) ?_ | refine and_mk (by first | omega | (with_reducible rfl) | (show drawOk _ _ _ = true; kernel_rfl)) ?_ | refine and_mk ⟨_, rfl⟩ ?_ | refine ex_is _ (List.length_map _) ?_ | refine ex_is _ List.length_nil ?_ | fail "no step")
        · rename_i e
          obtain rfl := bsj.1 e
          first | exact TLe.rfl | exact absurd rfl (q0 (by omega))
        · rename_i e
          exact ex_round 2 ⟨by omega, fun _ => q0 (by omega), fun _ h => e (by rw [h])⟩ (by show 2 - 2 < 2 - 1; decide) (SLe.of ⟨⟨rfl, rfl, rfl, rfl, rfl, rfl, trivial⟩, trivial⟩)
      · repeat' (first | refine ex_true (by first | decide | omega | assumption | (with_reducible exact rfl)) ?_ | refine ex_false (by first | decide | omega | assumption | exact (fun h => h rfl)) ?_ | refine ex_dec (fun _ => ?_) (fun _ => ?_) | refine ex_u8 _ rfl (by omega) (by omega) ?_ | refine ex_i64 _ rfl (by omega) (by omega) ?_ | refine ex_u64 _ rfl (by omega) (by omega) ?_ | refine and_mk (by first | omega | (with_reducible rfl) | (show drawOk _ _ _ = true; kernel_rfl)) ?_ | refine and_mk ⟨_, rfl⟩ ?_ | refine ex_is _ (List.length_map _) ?_ | refine ex_is _ List.length_nil ?_ | fail "no step")
        exact ex_round (3 + 1) ⟨by omega, key 4 (by decide) fun l => by cases l; exact q0 (by omega); exact q1 (by omega)⟩ (by show 5 - (3 + 1) < 5 - 3; omega) (SLe.of ⟨⟨rfl, rfl, rfl, trivial⟩, trivial⟩)
    · repeat' (first | refine (ex_is ([.d (di 8)] : List CV) rfl) ?_ | refine ex_true (by first | decide | omega | assumption | (with_reducible exact rfl)) ?_ | refine ex_false (by first | decide | omega | assumption | exact (fun h => h rfl)) ?_ | refine ex_dec (fun _ => ?_) (fun _ => ?_) | refine ex_u8 _ rfl (by omega) (by omega) ?_ | refine ex_i64 _ rfl (by omega) (by omega) ?_ | refine ex_u64 _ rfl (by omega) (by omega) ?_ | refine and_mk (by first | omega | (with_reducible rfl) | (show drawOk _ _ _ = true; kernel_rfl)) ?_ | refine and_mk ⟨_, rfl⟩ ?_ | refine ex_is _ (List.length_map _) ?_ | refine ex_is _ List.length_nil ?_ | fail "no step")
      refine ex_loop (X := Nat) (fun j => ⟨[(0, Tstr (bs w)), (6, Ti 8), (9, .o (gD [di 1, di 2, di 3, di 4, di 8])), (10, Ti 4), (13, .o (gD [db false, db true])), (14, Ti j)], [], 0⟩) (fun j => 2 - j) (fun j => j ≤ 2 ∧ (0 < j → wordF 8 false ≠ w) ∧ (1 < j → wordF 8 true ≠ w)) 0 ⟨by omega, fun h => absurd h (by omega), fun h => absurd h (by omega)⟩ (SLe.of ⟨⟨rfl, rfl, rfl, rfl, rfl, rfl, trivial⟩, trivial⟩) ?_
      rintro j ⟨hj, q0, q1⟩
      rcases (show j = 0 ∨ j = 1 ∨ j = 2 by omega) with rfl | rfl | rfl
      · repeat' (first | refine ex_call (word_c 8 false) ?_ | refine (ex_is ([.d (db false)] : List CV) rfl) ?_ | refine ex_true (by first | decide | omega | assumption | (with_reducible exact rfl)) ?_ | refine ex_false (by first | decide | omega | assumption | exact (fun h => h rfl)) ?_ | refine ex_dec (fun _ => ?_) (fun _ => ?_) | refine ex_u8 _ rfl (by omega) (by omega) ?_ | refine ex_i64 _ rfl (by omega) (by omega) ?_ | refine ex_u64 _ rfl (by omega) (by omega) ?_ | refine and_mk (by first | omega | (with_reducible rfl) | (show drawOk _ _ _ = true; kernel_rfl)) ?_ | refine and_mk ⟨_, rfl⟩ ?_ | refine ex_is _ (List.length_map _) ?_ | refine ex_is _ List.length_nil ?_ | fail "no step")
        · rename_i e
          obtain rfl := bsj.1 e
          exact TLe.rfl
        · rename_i e
          exact ex_round 1 ⟨by omega, fun _ h => e (by rw [h]), fun h => absurd h (by omega)⟩ (by show 2 - 1 < 2 - 0; decide) (SLe.of ⟨⟨rfl, rfl, rfl, rfl, rfl, rfl, trivial⟩, trivial⟩)
      · repeat' (first | refine ex_call (word_c 8 true) ?_ | refine (ex_is ([.d (db true)] : List CV) rfl) ?_ | refine ex_true (by first | decide | omega | assumption | (with_reducible exact rfl)) ?_ | refine ex_false (by first | decide | omega | assumption | exact (fun h => h rfl)) ?_ | refine ex_dec (fun _ => ?_) (fun _ => ?_) | refine ex_u8 _ rfl (by omega) (by omega) ?_ | refine ex_i64 _ rfl (by omega) (by omega) ?_ | refine ex_u64 _ rfl (by omega) (by omega) ?_ | refine and_mk (by first | omega | (with_reducible rfl) | (show drawOk _ _ _ = true; kernel_rfl)) ?_ | refine and_mk ⟨_, rfl⟩ ?_ | refine ex_is _ (List.length_map _) ?_ | refine ex_is _ List.length_nil ?_ | fail "no step")
        · rename_i e
          obtain rfl := bsj.1 e
          first | exact TLe.rfl | exact absurd rfl (q0 (by omega))
        · rename_i e
          exact ex_round 2 ⟨by omega, fun _ => q0 (by omega), fun _ h => e (by rw [h])⟩ (by show 2 - 2 < 2 - 1; decide) (SLe.of ⟨⟨rfl, rfl, rfl, rfl, rfl, rfl, trivial⟩, trivial⟩)
      · repeat' (first | refine ex_true (by first | decide | omega | assumption | (with_reducible exact rfl)) ?_ | refine ex_false (by first | decide | omega | assumption | exact (fun h => h rfl)) ?_ | refine ex_dec (fun _ => ?_) (fun _ => ?_) | refine ex_u8 _ rfl (by omega) (by omega) ?_ | refine ex_i64 _ rfl (by omega) (by omega) ?_ | refine ex_u64 _ rfl (by omega) (by omega) ?_ | refine and_mk (by first | omega | (with_reducible rfl) | (show drawOk _ _ _ = true; kernel_rfl)) ?_ | refine and_mk ⟨_, rfl⟩ ?_ | refine ex_is _ (List.length_map _) ?_ | refine ex_is _ List.length_nil ?_ | fail "no step")
        exact ex_round (4 + 1) ⟨by omega, key 8 (by decide) fun l => by cases l; exact q0 (by omega); exact q1 (by omega)⟩ (by show 5 - (4 + 1) < 5 - 4; omega) (SLe.of ⟨⟨rfl, rfl, rfl, trivial⟩, trivial⟩)
theorem key_c (w : List UInt8) :
    CallsA Tryd.prog Γ0 11 [c1 (ds (bs w))] (Tb (keyV w)) := by
  by_cases hm : w ∈ keysL
  · rw [show keyV w = true by unfold keyV; rw [List.contains_iff_mem.2 hm]; rfl]
    simp only [keysL, List.mem_cons, List.not_mem_nil, or_false] at hm
    rcases hm with rfl | rfl | rfl | rfl | rfl | rfl | rfl | rfl | rfl | rfl | rfl | rfl | rfl | rfl | rfl | rfl | rfl | rfl | rfl
    all_goals
      refine fn_rule (C := ⟨Tryd.prog, layF, Tryd.f11.ntmps, Γ0, 0, [], []⟩) layF_ok mixed Tryd.func11 rfl (by kernel_rfl) rfl rfl rfl ?_
      repeat' (first | refine ex_true (by first | decide | omega | assumption | (with_reducible exact rfl)) ?_ | refine ex_false (by first | decide | omega | assumption | exact (fun h => h rfl)) ?_ | refine ex_dec (fun _ => ?_) (fun _ => ?_) | refine ex_u8 _ rfl (by omega) (by omega) ?_ | refine ex_i64 _ rfl (by omega) (by omega) ?_ | refine ex_u64 _ rfl (by omega) (by omega) ?_ | refine and_mk (by first | omega | (with_reducible rfl) | (show drawOk _ _ _ = true; kernel_rfl)) ?_ | refine and_mk ⟨_, rfl⟩ ?_ | refine ex_is _ (List.length_map _) ?_ | refine ex_is _ List.length_nil ?_ | fail "no step")
      exact TLe.rfl
  · have hne : ∀ l, l ∈ keysL → ¬ bs w = bs l := fun l hl he => hm (by rw [bsj.1 he]; exact hl)
    have hk : keyV w = (integerV w).isSome := by unfold keyV; rw [show keysL.contains w = false by simpa using hm]; rfl
    rw [hk]
    have hc := integer_c w
    rcases hv : integerV w with _ | ⟨n, l⟩ <;> rw [hv] at hc
    · have hc : CallsA Tryd.prog Γ0 21 [c1 (ds (bs w))] (.tup [c1 (di 0), c1 (db false), c1 (db false)]) := hc
      refine fn_rule (C := ⟨Tryd.prog, layF, Tryd.f11.ntmps, Γ0, 0, [], []⟩) layF_ok mixed Tryd.func11 rfl (by kernel_rfl) rfl rfl rfl ?_
      repeat' (first | refine ex_call hc ?_ | refine ex_false (hne _ (by decide)) ?_ | refine ex_true (by first | decide | omega | assumption | (with_reducible exact rfl)) ?_ | refine ex_false (by first | decide | omega | assumption | exact (fun h => h rfl)) ?_ | refine ex_dec (fun _ => ?_) (fun _ => ?_) | refine ex_u8 _ rfl (by omega) (by omega) ?_ | refine ex_i64 _ rfl (by omega) (by omega) ?_ | refine ex_u64 _ rfl (by omega) (by omega) ?_ | refine and_mk (by first | omega | (with_reducible rfl) | (show drawOk _ _ _ = true; kernel_rfl)) ?_ | refine and_mk ⟨_, rfl⟩ ?_ | refine ex_is _ (List.length_map _) ?_ | refine ex_is _ List.length_nil ?_ | fail "no step")
      exact TLe.rfl
    · have hc : CallsA Tryd.prog Γ0 21 [c1 (ds (bs w))] (.tup [c1 (di n), c1 (db l), c1 (db true)]) := hc
      refine fn_rule (C := ⟨Tryd.prog, layF, Tryd.f11.ntmps, Γ0, 0, [], []⟩) layF_ok mixed Tryd.func11 rfl (by kernel_rfl) rfl rfl rfl ?_
      repeat' (first | refine ex_call hc ?_ | refine ex_false (hne _ (by decide)) ?_ | refine ex_true (by first | decide | omega | assumption | (with_reducible exact rfl)) ?_ | refine ex_false (by first | decide | omega | assumption | exact (fun h => h rfl)) ?_ | refine ex_dec (fun _ => ?_) (fun _ => ?_) | refine ex_u8 _ rfl (by omega) (by omega) ?_ | refine ex_i64 _ rfl (by omega) (by omega) ?_ | refine ex_u64 _ rfl (by omega) (by omega) ?_ | refine and_mk (by first | omega | (with_reducible rfl) | (show drawOk _ _ _ = true; kernel_rfl)) ?_ | refine and_mk ⟨_, rfl⟩ ?_ | refine ex_is _ (List.length_map _) ?_ | refine ex_is _ List.length_nil ?_ | fail "no step")
      exact TLe.rfl
end Go.Proofs.YtkbhmcdoedmffaaDoor

namespace Go.Proofs.YtkbhmcdoedmffaaDoor
set_option linter.unusedVariables false
set_option linter.unusedSimpArgs false
open Go.RowKit
set_option maxRecDepth 100000

section
variable {L : List TokP} {m : Nat}
theorem is_c (i : Nat) (h : i < L.length) (t : List UInt8) : CallsM Tryd.prog ΓL 15 [(0, Qz L m i)] 2 [P0, c1 (ds (bs t))] (Tb (isV L i t)) [(0, Qz L m i)] [] := by
  have ha := ahead_c (L := L) (m := m) i h
  obtain ⟨R, hR⟩ : ∃ R, isV L i t = R := ⟨_, rfl⟩
  rw [hR]
  unfold isV at hR
  generalize tk L i = u at *
  by_cases hk : u.k = 3
  · obtain rfl : false = R := by rw [← hR]; simp [hk]
    refine fn_ruleM (C := ⟨Tryd.prog, layF, Tryd.f15.ntmps, ΓL, 2, [], []⟩) layF_ok mixed Tryd.func15 rfl (by kernel_rfl) rfl rfl rfl ?_
    refine ex_callM (CallsM.ren (ha) [0, 1] 2 rfl rfl rfl rfl) ?_
    repeat' (first | refine ex_true (by first | decide | omega | assumption | (with_reducible exact rfl)) ?_ | refine ex_false (by first | decide | omega | assumption | exact (fun h => h rfl)) ?_ | refine ex_dec (fun _ => ?_) (fun _ => ?_) | refine ex_u8 _ rfl (by omega) (by omega) ?_ | refine ex_i64 _ rfl (by omega) (by omega) ?_ | refine ex_u64 _ rfl (by omega) (by omega) ?_ | refine and_mk (by first | omega | (with_reducible rfl) | (show drawOk _ _ _ = true; kernel_rfl)) ?_ | refine and_mk ⟨_, rfl⟩ ?_ | refine ex_is _ (List.length_map _) ?_ | refine ex_is _ List.length_nil ?_ | fail "no step")
    exact ⟨rfl, TLe.rfl, rfl, rfl⟩
  · by_cases ht : u.t = t
    · obtain rfl : true = R := by rw [← hR]; simp [hk, ht]
      refine fn_ruleM (C := ⟨Tryd.prog, layF, Tryd.f15.ntmps, ΓL, 2, [], []⟩) layF_ok mixed Tryd.func15 rfl (by kernel_rfl) rfl rfl rfl ?_
      refine ex_callM (CallsM.ren (ha) [0, 1] 2 rfl rfl rfl rfl) ?_
      repeat' (first | refine ex_true (by first | decide | omega | assumption | (with_reducible exact rfl)) ?_ | refine ex_false (by first | decide | omega | assumption | exact (fun h => h rfl)) ?_ | refine ex_dec (fun _ => ?_) (fun _ => ?_) | refine ex_u8 _ rfl (by omega) (by omega) ?_ | refine ex_i64 _ rfl (by omega) (by omega) ?_ | refine ex_u64 _ rfl (by omega) (by omega) ?_ | refine and_mk (by first | omega | (with_reducible rfl) | (show drawOk _ _ _ = true; kernel_rfl)) ?_ | refine and_mk ⟨_, rfl⟩ ?_ | refine ex_is _ (List.length_map _) ?_ | refine ex_is _ List.length_nil ?_ | fail "no step")
      refine ex_callM (CallsM.ren (ha) [0, 1] 2 rfl rfl rfl rfl) ?_
      refine ex_true (by rw [ht]) ?_
      repeat' (first | refine ex_true (by first | decide | omega | assumption | (with_reducible exact rfl)) ?_ | refine ex_false (by first | decide | omega | assumption | exact (fun h => h rfl)) ?_ | refine ex_dec (fun _ => ?_) (fun _ => ?_) | refine ex_u8 _ rfl (by omega) (by omega) ?_ | refine ex_i64 _ rfl (by omega) (by omega) ?_ | refine ex_u64 _ rfl (by omega) (by omega) ?_ | refine and_mk (by first | omega | (with_reducible rfl) | (show drawOk _ _ _ = true; kernel_rfl)) ?_ | refine and_mk ⟨_, rfl⟩ ?_ | refine ex_is _ (List.length_map _) ?_ | refine ex_is _ List.length_nil ?_ | fail "no step")
      exact ⟨rfl, TLe.rfl, rfl, rfl⟩
    · obtain rfl : false = R := by rw [← hR]; simp [hk, ht]
      refine fn_ruleM (C := ⟨Tryd.prog, layF, Tryd.f15.ntmps, ΓL, 2, [], []⟩) layF_ok mixed Tryd.func15 rfl (by kernel_rfl) rfl rfl rfl ?_
      refine ex_callM (CallsM.ren (ha) [0, 1] 2 rfl rfl rfl rfl) ?_
      repeat' (first | refine ex_true (by first | decide | omega | assumption | (with_reducible exact rfl)) ?_ | refine ex_false (by first | decide | omega | assumption | exact (fun h => h rfl)) ?_ | refine ex_dec (fun _ => ?_) (fun _ => ?_) | refine ex_u8 _ rfl (by omega) (by omega) ?_ | refine ex_i64 _ rfl (by omega) (by omega) ?_ | refine ex_u64 _ rfl (by omega) (by omega) ?_ | refine and_mk (by first | omega | (with_reducible rfl) | (show drawOk _ _ _ = true; kernel_rfl)) ?_ | refine and_mk ⟨_, rfl⟩ ?_ | refine ex_is _ (List.length_map _) ?_ | refine ex_is _ List.length_nil ?_ | fail "no step")
      refine ex_callM (CallsM.ren (ha) [0, 1] 2 rfl rfl rfl rfl) ?_
      refine ex_false (fun e => ht (bsj.1 e)) ?_
      repeat' (first | refine ex_true (by first | decide | omega | assumption | (with_reducible exact rfl)) ?_ | refine ex_false (by first | decide | omega | assumption | exact (fun h => h rfl)) ?_ | refine ex_dec (fun _ => ?_) (fun _ => ?_) | refine ex_u8 _ rfl (by omega) (by omega) ?_ | refine ex_i64 _ rfl (by omega) (by omega) ?_ | refine ex_u64 _ rfl (by omega) (by omega) ?_ | refine and_mk (by first | omega | (with_reducible rfl) | (show drawOk _ _ _ = true; kernel_rfl)) ?_ | refine and_mk ⟨_, rfl⟩ ?_ | refine ex_is _ (List.length_map _) ?_ | refine ex_is _ List.length_nil ?_ | fail "no step")
      exact ⟨rfl, TLe.rfl, rfl, rfl⟩
theorem take_c (s : PS) (h : s.i < L.length) (hn : L.length ≤ 1000000) (t : List UInt8) : C0 L m 26 [c1 (ds (bs t))] (takeM L t) (fun _ => .tup []) s := by
  have hi := is_c (m := m) s.i h t
  refine C0.of fun T hT => ?_
  unfold takeM at hT
  rcases hv : isV L s.i t with _ | _ <;> rw [hv] at hi hT
  · obtain rfl : PR.err s.i 4 = T := hT
    refine fn_ruleP (C := ⟨Tryd.prog, layF, Tryd.f26.ntmps, ΓL, 2, [], []⟩) layF_ok mixed Tryd.func26 rfl (by kernel_rfl) rfl rfl rfl SLe.rfl ?_
    refine ex_callM (CallsM.ren (hi) [0, 1] 2 rfl rfl rfl rfl) ?_
    repeat' (first | refine ex_true (by first | decide | omega | assumption | (with_reducible exact rfl)) ?_ | refine ex_false (by first | decide | omega | assumption | exact (fun h => h rfl)) ?_ | refine ex_dec (fun _ => ?_) (fun _ => ?_) | refine ex_u8 _ rfl (by omega) (by omega) ?_ | refine ex_i64 _ rfl (by omega) (by omega) ?_ | refine ex_u64 _ rfl (by omega) (by omega) ?_ | refine and_mk (by first | omega | (with_reducible rfl) | (show drawOk _ _ _ = true; kernel_rfl)) ?_ | refine and_mk ⟨_, rfl⟩ ?_ | refine ex_is _ (List.length_map _) ?_ | refine ex_is _ List.length_nil ?_ | fail "no step")
    refine ex_callM (CallsM.ren ((fail_c s.i 4 h)) [0, 1] 2 rfl rfl rfl rfl) ?_
    exact ⟨⟨_, rfl, rfl⟩, rfl, rfl⟩
  · obtain rfl : PR.ok () { s with i := s.i + 1 } = T := hT
    refine fn_ruleP (C := ⟨Tryd.prog, layF, Tryd.f26.ntmps, ΓL, 2, [], []⟩) layF_ok mixed Tryd.func26 rfl (by kernel_rfl) rfl rfl rfl SLe.rfl ?_
    refine ex_callM (CallsM.ren (hi) [0, 1] 2 rfl rfl rfl rfl) ?_
    repeat' (first | refine ex_i64 ((s.i + 1 : Nat) : Int) (by omega) (by omega) (by omega) ?_ | refine ex_u64 ((s.i + 1 : Nat) : Int) (by omega) (by omega) (by omega) ?_ | refine ex_u8 ((s.i + 1 : Nat) : Int) (by omega) (by omega) (by omega) ?_ | refine ex_true (by first | decide | omega | assumption | (with_reducible exact rfl)) ?_ | refine ex_false (by first | decide | omega | assumption | exact (fun h => h rfl)) ?_ | refine ex_dec (fun _ => ?_) (fun _ => ?_) | refine ex_u8 _ rfl (by omega) (by omega) ?_ | refine ex_i64 _ rfl (by omega) (by omega) ?_ | refine ex_u64 _ rfl (by omega) (by omega) ?_ | refine and_mk (by first | omega | (with_reducible rfl) | (show drawOk _ _ _ = true; kernel_rfl)) ?_ | refine and_mk ⟨_, rfl⟩ ?_ | refine ex_is _ (List.length_map _) ?_ | refine ex_is _ List.length_nil ?_ | fail "no step")
    exact ⟨rfl, TLe.rfl, rfl, rfl⟩
theorem may_yes (i : Nat) (h : i < L.length) (hn : L.length ≤ 1000000) (t : List UInt8) (hv : isV L i t = true) : CallsM Tryd.prog ΓL 29 [(0, Qz L m i)] 2 [P0, c1 (ds (bs t))] (Tb true) [(0, Qz L m (i + 1))] [] := by
  have hi := is_c (m := m) i h t
  rw [hv] at hi
  refine fn_ruleM (C := ⟨Tryd.prog, layF, Tryd.f29.ntmps, ΓL, 2, [], []⟩) layF_ok mixed Tryd.func29 rfl (by kernel_rfl) rfl rfl rfl ?_
  refine ex_callM (CallsM.ren (hi) [0, 1] 2 rfl rfl rfl rfl) ?_
  repeat' (first | refine ex_i64 ((i + 1 : Nat) : Int) (by omega) (by omega) (by omega) ?_ | refine ex_u64 ((i + 1 : Nat) : Int) (by omega) (by omega) (by omega) ?_ | refine ex_u8 ((i + 1 : Nat) : Int) (by omega) (by omega) (by omega) ?_ | refine ex_true (by first | decide | omega | assumption | (with_reducible exact rfl)) ?_ | refine ex_false (by first | decide | omega | assumption | exact (fun h => h rfl)) ?_ | refine ex_dec (fun _ => ?_) (fun _ => ?_) | refine ex_u8 _ rfl (by omega) (by omega) ?_ | refine ex_i64 _ rfl (by omega) (by omega) ?_ | refine ex_u64 _ rfl (by omega) (by omega) ?_ | refine and_mk (by first | omega | (with_reducible rfl) | (show drawOk _ _ _ = true; kernel_rfl)) ?_ | refine and_mk ⟨_, rfl⟩ ?_ | refine ex_is _ (List.length_map _) ?_ | refine ex_is _ List.length_nil ?_ | fail "no step")
  exact ⟨rfl, TLe.rfl, rfl, rfl⟩
theorem may_no (i : Nat) (h : i < L.length) (t : List UInt8) (hv : isV L i t = false) : CallsM Tryd.prog ΓL 29 [(0, Qz L m i)] 2 [P0, c1 (ds (bs t))] (Tb false) [(0, Qz L m i)] [] := by
  have hi := is_c (m := m) i h t
  rw [hv] at hi
  refine fn_ruleM (C := ⟨Tryd.prog, layF, Tryd.f29.ntmps, ΓL, 2, [], []⟩) layF_ok mixed Tryd.func29 rfl (by kernel_rfl) rfl rfl rfl ?_
  refine ex_callM (CallsM.ren (hi) [0, 1] 2 rfl rfl rfl rfl) ?_
  repeat' (first | refine ex_true (by first | decide | omega | assumption | (with_reducible exact rfl)) ?_ | refine ex_false (by first | decide | omega | assumption | exact (fun h => h rfl)) ?_ | refine ex_dec (fun _ => ?_) (fun _ => ?_) | refine ex_u8 _ rfl (by omega) (by omega) ?_ | refine ex_i64 _ rfl (by omega) (by omega) ?_ | refine ex_u64 _ rfl (by omega) (by omega) ?_ | refine and_mk (by first | omega | (with_reducible rfl) | (show drawOk _ _ _ = true; kernel_rfl)) ?_ | refine and_mk ⟨_, rfl⟩ ?_ | refine ex_is _ (List.length_map _) ?_ | refine ex_is _ List.length_nil ?_ | fail "no step")
  exact ⟨rfl, TLe.rfl, rfl, rfl⟩
theorem named_c (i : Nat) (h : i < L.length) : CallsM Tryd.prog ΓL 30 [(0, Qz L m i)] 2 [P0] (Tb (namedV L i)) [(0, Qz L m i)] [] := by
  have ha := ahead_c (L := L) (m := m) i h
  obtain ⟨R, hR⟩ : ∃ R, namedV L i = R := ⟨_, rfl⟩
  rw [hR]
  unfold namedV at hR
  generalize tk L i = u at *
  have hk := (key_c u.t).gL
  generalize keyV u.t = q at *
  by_cases h0 : u.k = 0
  · obtain rfl : (!q) = R := by rw [← hR, decide_eq_true h0]; rfl
    cases q
    all_goals
      refine fn_ruleM (C := ⟨Tryd.prog, layF, Tryd.f30.ntmps, ΓL, 2, [], []⟩) layF_ok mixed Tryd.func30 rfl (by kernel_rfl) rfl rfl rfl ?_
      refine ex_callM (CallsM.ren (ha) [0, 1] 2 rfl rfl rfl rfl) ?_
      repeat' (first | refine ex_true (by first | decide | omega | assumption | (with_reducible exact rfl)) ?_ | refine ex_false (by first | decide | omega | assumption | exact (fun h => h rfl)) ?_ | refine ex_dec (fun _ => ?_) (fun _ => ?_) | refine ex_u8 _ rfl (by omega) (by omega) ?_ | refine ex_i64 _ rfl (by omega) (by omega) ?_ | refine ex_u64 _ rfl (by omega) (by omega) ?_ | refine and_mk (by first | omega | (with_reducible rfl) | (show drawOk _ _ _ = true; kernel_rfl)) ?_ | refine and_mk ⟨_, rfl⟩ ?_ | refine ex_is _ (List.length_map _) ?_ | refine ex_is _ List.length_nil ?_ | fail "no step")
      refine ex_callM (CallsM.ren (ha) [0, 1] 2 rfl rfl rfl rfl) ?_
      repeat' (first | refine ex_call hk ?_ | refine ex_true (by first | decide | omega | assumption | (with_reducible exact rfl)) ?_ | refine ex_false (by first | decide | omega | assumption | exact (fun h => h rfl)) ?_ | refine ex_dec (fun _ => ?_) (fun _ => ?_) | refine ex_u8 _ rfl (by omega) (by omega) ?_ | refine ex_i64 _ rfl (by omega) (by omega) ?_ | refine ex_u64 _ rfl (by omega) (by omega) ?_ | refine and_mk (by first | omega | (with_reducible rfl) | (show drawOk _ _ _ = true; kernel_rfl)) ?_ | refine and_mk ⟨_, rfl⟩ ?_ | refine ex_is _ (List.length_map _) ?_ | refine ex_is _ List.length_nil ?_ | fail "no step")
      exact ⟨rfl, TLe.rfl, rfl, rfl⟩
  · obtain rfl : false = R := by rw [← hR, decide_eq_false h0]; rfl
    refine fn_ruleM (C := ⟨Tryd.prog, layF, Tryd.f30.ntmps, ΓL, 2, [], []⟩) layF_ok mixed Tryd.func30 rfl (by kernel_rfl) rfl rfl rfl ?_
    refine ex_callM (CallsM.ren (ha) [0, 1] 2 rfl rfl rfl rfl) ?_
    repeat' (first | refine ex_true (by first | decide | omega | assumption | (with_reducible exact rfl)) ?_ | refine ex_false (by first | decide | omega | assumption | exact (fun h => h rfl)) ?_ | refine ex_dec (fun _ => ?_) (fun _ => ?_) | refine ex_u8 _ rfl (by omega) (by omega) ?_ | refine ex_i64 _ rfl (by omega) (by omega) ?_ | refine ex_u64 _ rfl (by omega) (by omega) ?_ | refine and_mk (by first | omega | (with_reducible rfl) | (show drawOk _ _ _ = true; kernel_rfl)) ?_ | refine and_mk ⟨_, rfl⟩ ?_ | refine ex_is _ (List.length_map _) ?_ | refine ex_is _ List.length_nil ?_ | fail "no step")
    exact ⟨rfl, TLe.rfl, rfl, rfl⟩
theorem name_c (s : PS) (h : s.i < L.length) (hn : L.length ≤ 1000000) : C0 L m 27 [] (nameM L) (fun w => Tstr (bs w)) s := by
  have hi := named_c (m := m) s.i h
  refine C0.of fun T hT => ?_
  unfold nameM at hT
  rcases hv : namedV L s.i with _ | _ <;> rw [hv] at hi hT
  · obtain rfl : PR.err s.i 4 = T := hT
    refine fn_ruleP (C := ⟨Tryd.prog, layF, Tryd.f27.ntmps, ΓL, 2, [], []⟩) layF_ok mixed Tryd.func27 rfl (by kernel_rfl) rfl rfl rfl SLe.rfl ?_
    refine ex_callM (CallsM.ren (hi) [0, 1] 2 rfl rfl rfl rfl) ?_
    repeat' (first | refine ex_true (by first | decide | omega | assumption | (with_reducible exact rfl)) ?_ | refine ex_false (by first | decide | omega | assumption | exact (fun h => h rfl)) ?_ | refine ex_dec (fun _ => ?_) (fun _ => ?_) | refine ex_u8 _ rfl (by omega) (by omega) ?_ | refine ex_i64 _ rfl (by omega) (by omega) ?_ | refine ex_u64 _ rfl (by omega) (by omega) ?_ | refine and_mk (by first | omega | (with_reducible rfl) | (show drawOk _ _ _ = true; kernel_rfl)) ?_ | refine and_mk ⟨_, rfl⟩ ?_ | refine ex_is _ (List.length_map _) ?_ | refine ex_is _ List.length_nil ?_ | fail "no step")
    refine ex_callM (CallsM.ren ((fail_c s.i 4 h)) [0, 1] 2 rfl rfl rfl rfl) ?_
    exact ⟨⟨_, rfl, rfl⟩, rfl, rfl⟩
  · obtain rfl : PR.ok (tk L s.i).t { s with i := s.i + 1 } = T := hT
    refine fn_ruleP (C := ⟨Tryd.prog, layF, Tryd.f27.ntmps, ΓL, 2, [], []⟩) layF_ok mixed Tryd.func27 rfl (by kernel_rfl) rfl rfl rfl SLe.rfl ?_
    refine ex_callM (CallsM.ren (hi) [0, 1] 2 rfl rfl rfl rfl) ?_
    repeat' (first | refine ex_i64 ((s.i : Nat) : Int) (by omega) (by omega) (by omega) ?_ | refine ex_u64 ((s.i : Nat) : Int) (by omega) (by omega) (by omega) ?_ | refine ex_u8 ((s.i : Nat) : Int) (by omega) (by omega) (by omega) ?_ | refine ex_i64 ((s.i + 1 : Nat) : Int) (by omega) (by omega) (by omega) ?_ | refine ex_u64 ((s.i + 1 : Nat) : Int) (by omega) (by omega) (by omega) ?_ | refine ex_u8 ((s.i + 1 : Nat) : Int) (by omega) (by omega) (by omega) ?_ | refine (ex_row s.i _ rfl (tk_at h)) ?_ | refine ex_true (by first | decide | omega | assumption | (with_reducible exact rfl)) ?_ | refine ex_false (by first | decide | omega | assumption | exact (fun h => h rfl)) ?_ | refine ex_dec (fun _ => ?_) (fun _ => ?_) | refine ex_u8 _ rfl (by omega) (by omega) ?_ | refine ex_i64 _ rfl (by omega) (by omega) ?_ | refine ex_u64 _ rfl (by omega) (by omega) ?_ | refine and_mk (by first | omega | (with_reducible rfl) | (show drawOk _ _ _ = true; kernel_rfl)) ?_ | refine and_mk ⟨_, rfl⟩ ?_ | refine ex_is _ (List.length_map _) ?_ | refine ex_is _ List.length_nil ?_ | fail "no step")
    exact ⟨rfl, TLe.rfl, rfl, rfl⟩
theorem num_c (s : PS) (h : s.i < L.length) (hn : L.length ≤ 1000000) : C0 L m 28 [] (numberM L) (fun n => Tu n) s := by
  have ha := ahead_c (L := L) (m := m) s.i h
  refine C0.of fun T hT => ?_
  unfold numberM at hT
  by_cases hv : (tk L s.i).k = 1
  · rw [if_pos hv] at hT
    subst hT
    refine fn_ruleP (C := ⟨Tryd.prog, layF, Tryd.f28.ntmps, ΓL, 2, [], []⟩) layF_ok mixed Tryd.func28 rfl (by kernel_rfl) rfl rfl rfl SLe.rfl ?_
    refine ex_callM (CallsM.ren (ha) [0, 1] 2 rfl rfl rfl rfl) ?_
    repeat' (first | refine ex_i64 ((s.i : Nat) : Int) (by omega) (by omega) (by omega) ?_ | refine ex_u64 ((s.i : Nat) : Int) (by omega) (by omega) (by omega) ?_ | refine ex_u8 ((s.i : Nat) : Int) (by omega) (by omega) (by omega) ?_ | refine ex_i64 ((s.i + 1 : Nat) : Int) (by omega) (by omega) (by omega) ?_ | refine ex_u64 ((s.i + 1 : Nat) : Int) (by omega) (by omega) (by omega) ?_ | refine ex_u8 ((s.i + 1 : Nat) : Int) (by omega) (by omega) (by omega) ?_ | refine (ex_row s.i _ rfl (tk_at h)) ?_ | refine ex_true (by first | decide | omega | assumption | (with_reducible exact rfl)) ?_ | refine ex_false (by first | decide | omega | assumption | exact (fun h => h rfl)) ?_ | refine ex_dec (fun _ => ?_) (fun _ => ?_) | refine ex_u8 _ rfl (by omega) (by omega) ?_ | refine ex_i64 _ rfl (by omega) (by omega) ?_ | refine ex_u64 _ rfl (by omega) (by omega) ?_ | refine and_mk (by first | omega | (with_reducible rfl) | (show drawOk _ _ _ = true; kernel_rfl)) ?_ | refine and_mk ⟨_, rfl⟩ ?_ | refine ex_is _ (List.length_map _) ?_ | refine ex_is _ List.length_nil ?_ | fail "no step")
    exact ⟨rfl, TLe.rfl, rfl, rfl⟩
  · rw [if_neg hv] at hT
    obtain rfl : PR.err s.i 4 = T := hT
    refine fn_ruleP (C := ⟨Tryd.prog, layF, Tryd.f28.ntmps, ΓL, 2, [], []⟩) layF_ok mixed Tryd.func28 rfl (by kernel_rfl) rfl rfl rfl SLe.rfl ?_
    refine ex_callM (CallsM.ren (ha) [0, 1] 2 rfl rfl rfl rfl) ?_
    repeat' (first | refine ex_true (by first | decide | omega | assumption | (with_reducible exact rfl)) ?_ | refine ex_false (by first | decide | omega | assumption | exact (fun h => h rfl)) ?_ | refine ex_dec (fun _ => ?_) (fun _ => ?_) | refine ex_u8 _ rfl (by omega) (by omega) ?_ | refine ex_i64 _ rfl (by omega) (by omega) ?_ | refine ex_u64 _ rfl (by omega) (by omega) ?_ | refine and_mk (by first | omega | (with_reducible rfl) | (show drawOk _ _ _ = true; kernel_rfl)) ?_ | refine and_mk ⟨_, rfl⟩ ?_ | refine ex_is _ (List.length_map _) ?_ | refine ex_is _ List.length_nil ?_ | fail "no step")
    refine ex_callM (CallsM.ren ((fail_c s.i 4 h)) [0, 1] 2 rfl rfl rfl rfl) ?_
    exact ⟨⟨_, rfl, rfl⟩, rfl, rfl⟩
theorem room_c (s : PS) (h : s.i < L.length) (n : Nat) (hn : n ≤ 1000000) : C0 L m 16 [c1 (di n), c1 (di 64)] (roomM n) (fun _ => .tup []) s := by
  refine C0.of fun T hT => ?_
  unfold roomM at hT
  by_cases hv : 64 ≤ n
  · rw [if_pos hv] at hT
    obtain rfl : PR.err s.i 10 = T := hT
    refine fn_ruleP (C := ⟨Tryd.prog, layF, Tryd.f16.ntmps, ΓL, 2, [], []⟩) layF_ok mixed Tryd.func16 rfl (by kernel_rfl) rfl rfl rfl SLe.rfl ?_
    repeat' (first | refine ex_true (by first | decide | omega | assumption | (with_reducible exact rfl)) ?_ | refine ex_false (by first | decide | omega | assumption | exact (fun h => h rfl)) ?_ | refine ex_dec (fun _ => ?_) (fun _ => ?_) | refine ex_u8 _ rfl (by omega) (by omega) ?_ | refine ex_i64 _ rfl (by omega) (by omega) ?_ | refine ex_u64 _ rfl (by omega) (by omega) ?_ | refine and_mk (by first | omega | (with_reducible rfl) | (show drawOk _ _ _ = true; kernel_rfl)) ?_ | refine and_mk ⟨_, rfl⟩ ?_ | refine ex_is _ (List.length_map _) ?_ | refine ex_is _ List.length_nil ?_ | fail "no step")
    refine ex_callM (CallsM.ren ((fail_c s.i 10 h)) [0, 1] 2 rfl rfl rfl rfl) ?_
    exact ⟨⟨_, rfl, rfl⟩, rfl, rfl⟩
  · rw [if_neg hv] at hT
    subst hT
    refine fn_ruleP (C := ⟨Tryd.prog, layF, Tryd.f16.ntmps, ΓL, 2, [], []⟩) layF_ok mixed Tryd.func16 rfl (by kernel_rfl) rfl rfl rfl SLe.rfl ?_
    repeat' (first | refine ex_true (by first | decide | omega | assumption | (with_reducible exact rfl)) ?_ | refine ex_false (by first | decide | omega | assumption | exact (fun h => h rfl)) ?_ | refine ex_dec (fun _ => ?_) (fun _ => ?_) | refine ex_u8 _ rfl (by omega) (by omega) ?_ | refine ex_i64 _ rfl (by omega) (by omega) ?_ | refine ex_u64 _ rfl (by omega) (by omega) ?_ | refine and_mk (by first | omega | (with_reducible rfl) | (show drawOk _ _ _ = true; kernel_rfl)) ?_ | refine and_mk ⟨_, rfl⟩ ?_ | refine ex_is _ (List.length_map _) ?_ | refine ex_is _ List.length_nil ?_ | fail "no step")
    exact ⟨rfl, TLe.rfl, rfl, rfl⟩
theorem begins_c (i : Nat) (h : i < L.length) : CallsM Tryd.prog ΓL 74 [(0, Qz L m i)] 2 [P0] (Tb (beginsV L i)) [(0, Qz L m i)] [] := by
  have ha := ahead_c (L := L) (m := m) i h
  have h1 := is_c (m := m) i h t_bang
  have h2 := is_c (m := m) i h t_lpar
  have h3 := named_c (m := m) i h
  unfold beginsV
  generalize isV L i t_bang = a at *
  generalize isV L i t_lpar = b at *
  generalize namedV L i = c at *
  generalize tk L i = u at *
  cases a
  · cases b
    · cases c
      · by_cases h4 : u.k = 1
        · rw [decide_eq_true h4]
          refine fn_ruleM (C := ⟨Tryd.prog, layF, Tryd.f74.ntmps, ΓL, 2, [], []⟩) layF_ok mixed Tryd.func74 rfl (by kernel_rfl) rfl rfl rfl ?_
          refine ex_callM (CallsM.ren (h1) [0, 1] 2 rfl rfl rfl rfl) ?_
          repeat' (first | refine ex_true (by first | decide | omega | assumption | (with_reducible exact rfl)) ?_ | refine ex_false (by first | decide | omega | assumption | exact (fun h => h rfl)) ?_ | refine ex_dec (fun _ => ?_) (fun _ => ?_) | refine ex_u8 _ rfl (by omega) (by omega) ?_ | refine ex_i64 _ rfl (by omega) (by omega) ?_ | refine ex_u64 _ rfl (by omega) (by omega) ?_ | refine and_mk (by first | omega | (with_reducible rfl) | (show drawOk _ _ _ = true; kernel_rfl)) ?_ | refine and_mk ⟨_, rfl⟩ ?_ | refine ex_is _ (List.length_map _) ?_ | refine ex_is _ List.length_nil ?_ | fail "no step")
          refine ex_callM (CallsM.ren (h2) [0, 1] 2 rfl rfl rfl rfl) ?_
          repeat' (first | refine ex_true (by first | decide | omega | assumption | (with_reducible exact rfl)) ?_ | refine ex_false (by first | decide | omega | assumption | exact (fun h => h rfl)) ?_ | refine ex_dec (fun _ => ?_) (fun _ => ?_) | refine ex_u8 _ rfl (by omega) (by omega) ?_ | refine ex_i64 _ rfl (by omega) (by omega) ?_ | refine ex_u64 _ rfl (by omega) (by omega) ?_ | refine and_mk (by first | omega | (with_reducible rfl) | (show drawOk _ _ _ = true; kernel_rfl)) ?_ | refine and_mk ⟨_, rfl⟩ ?_ | refine ex_is _ (List.length_map _) ?_ | refine ex_is _ List.length_nil ?_ | fail "no step")
          refine ex_callM (CallsM.ren (h3) [0, 1] 2 rfl rfl rfl rfl) ?_
          repeat' (first | refine ex_true (by first | decide | omega | assumption | (with_reducible exact rfl)) ?_ | refine ex_false (by first | decide | omega | assumption | exact (fun h => h rfl)) ?_ | refine ex_dec (fun _ => ?_) (fun _ => ?_) | refine ex_u8 _ rfl (by omega) (by omega) ?_ | refine ex_i64 _ rfl (by omega) (by omega) ?_ | refine ex_u64 _ rfl (by omega) (by omega) ?_ | refine and_mk (by first | omega | (with_reducible rfl) | (show drawOk _ _ _ = true; kernel_rfl)) ?_ | refine and_mk ⟨_, rfl⟩ ?_ | refine ex_is _ (List.length_map _) ?_ | refine ex_is _ List.length_nil ?_ | fail "no step")
          refine ex_callM (CallsM.ren (ha) [0, 1] 2 rfl rfl rfl rfl) ?_
          repeat' (first | refine ex_true (by first | decide | omega | assumption | (with_reducible exact rfl)) ?_ | refine ex_false (by first | decide | omega | assumption | exact (fun h => h rfl)) ?_ | refine ex_dec (fun _ => ?_) (fun _ => ?_) | refine ex_u8 _ rfl (by omega) (by omega) ?_ | refine ex_i64 _ rfl (by omega) (by omega) ?_ | refine ex_u64 _ rfl (by omega) (by omega) ?_ | refine and_mk (by first | omega | (with_reducible rfl) | (show drawOk _ _ _ = true; kernel_rfl)) ?_ | refine and_mk ⟨_, rfl⟩ ?_ | refine ex_is _ (List.length_map _) ?_ | refine ex_is _ List.length_nil ?_ | fail "no step")
          exact ⟨rfl, TLe.rfl, rfl, rfl⟩
        · rw [decide_eq_false h4]
          refine fn_ruleM (C := ⟨Tryd.prog, layF, Tryd.f74.ntmps, ΓL, 2, [], []⟩) layF_ok mixed Tryd.func74 rfl (by kernel_rfl) rfl rfl rfl ?_
          refine ex_callM (CallsM.ren (h1) [0, 1] 2 rfl rfl rfl rfl) ?_
          repeat' (first | refine ex_true (by first | decide | omega | assumption | (with_reducible exact rfl)) ?_ | refine ex_false (by first | decide | omega | assumption | exact (fun h => h rfl)) ?_ | refine ex_dec (fun _ => ?_) (fun _ => ?_) | refine ex_u8 _ rfl (by omega) (by omega) ?_ | refine ex_i64 _ rfl (by omega) (by omega) ?_ | refine ex_u64 _ rfl (by omega) (by omega) ?_ | refine and_mk (by first | omega | (with_reducible rfl) | (show drawOk _ _ _ = true; kernel_rfl)) ?_ | refine and_mk ⟨_, rfl⟩ ?_ | refine ex_is _ (List.length_map _) ?_ | refine ex_is _ List.length_nil ?_ | fail "no step")
          refine ex_callM (CallsM.ren (h2) [0, 1] 2 rfl rfl rfl rfl) ?_
          repeat' (first | refine ex_true (by first | decide | omega | assumption | (with_reducible exact rfl)) ?_ | refine ex_false (by first | decide | omega | assumption | exact (fun h => h rfl)) ?_ | refine ex_dec (fun _ => ?_) (fun _ => ?_) | refine ex_u8 _ rfl (by omega) (by omega) ?_ | refine ex_i64 _ rfl (by omega) (by omega) ?_ | refine ex_u64 _ rfl (by omega) (by omega) ?_ | refine and_mk (by first | omega | (with_reducible rfl) | (show drawOk _ _ _ = true; kernel_rfl)) ?_ | refine and_mk ⟨_, rfl⟩ ?_ | refine ex_is _ (List.length_map _) ?_ | refine ex_is _ List.length_nil ?_ | fail "no step")
          refine ex_callM (CallsM.ren (h3) [0, 1] 2 rfl rfl rfl rfl) ?_
          repeat' (first | refine ex_true (by first | decide | omega | assumption | (with_reducible exact rfl)) ?_ | refine ex_false (by first | decide | omega | assumption | exact (fun h => h rfl)) ?_ | refine ex_dec (fun _ => ?_) (fun _ => ?_) | refine ex_u8 _ rfl (by omega) (by omega) ?_ | refine ex_i64 _ rfl (by omega) (by omega) ?_ | refine ex_u64 _ rfl (by omega) (by omega) ?_ | refine and_mk (by first | omega | (with_reducible rfl) | (show drawOk _ _ _ = true; kernel_rfl)) ?_ | refine and_mk ⟨_, rfl⟩ ?_ | refine ex_is _ (List.length_map _) ?_ | refine ex_is _ List.length_nil ?_ | fail "no step")
          refine ex_callM (CallsM.ren (ha) [0, 1] 2 rfl rfl rfl rfl) ?_
          repeat' (first | refine ex_true (by first | decide | omega | assumption | (with_reducible exact rfl)) ?_ | refine ex_false (by first | decide | omega | assumption | exact (fun h => h rfl)) ?_ | refine ex_dec (fun _ => ?_) (fun _ => ?_) | refine ex_u8 _ rfl (by omega) (by omega) ?_ | refine ex_i64 _ rfl (by omega) (by omega) ?_ | refine ex_u64 _ rfl (by omega) (by omega) ?_ | refine and_mk (by first | omega | (with_reducible rfl) | (show drawOk _ _ _ = true; kernel_rfl)) ?_ | refine and_mk ⟨_, rfl⟩ ?_ | refine ex_is _ (List.length_map _) ?_ | refine ex_is _ List.length_nil ?_ | fail "no step")
          exact ⟨rfl, TLe.rfl, rfl, rfl⟩
      ·
        refine fn_ruleM (C := ⟨Tryd.prog, layF, Tryd.f74.ntmps, ΓL, 2, [], []⟩) layF_ok mixed Tryd.func74 rfl (by kernel_rfl) rfl rfl rfl ?_
        refine ex_callM (CallsM.ren (h1) [0, 1] 2 rfl rfl rfl rfl) ?_
        repeat' (first | refine ex_true (by first | decide | omega | assumption | (with_reducible exact rfl)) ?_ | refine ex_false (by first | decide | omega | assumption | exact (fun h => h rfl)) ?_ | refine ex_dec (fun _ => ?_) (fun _ => ?_) | refine ex_u8 _ rfl (by omega) (by omega) ?_ | refine ex_i64 _ rfl (by omega) (by omega) ?_ | refine ex_u64 _ rfl (by omega) (by omega) ?_ | refine and_mk (by first | omega | (with_reducible rfl) | (show drawOk _ _ _ = true; kernel_rfl)) ?_ | refine and_mk ⟨_, rfl⟩ ?_ | refine ex_is _ (List.length_map _) ?_ | refine ex_is _ List.length_nil ?_ | fail "no step")
        refine ex_callM (CallsM.ren (h2) [0, 1] 2 rfl rfl rfl rfl) ?_
        repeat' (first | refine ex_true (by first | decide | omega | assumption | (with_reducible exact rfl)) ?_ | refine ex_false (by first | decide | omega | assumption | exact (fun h => h rfl)) ?_ | refine ex_dec (fun _ => ?_) (fun _ => ?_) | refine ex_u8 _ rfl (by omega) (by omega) ?_ | refine ex_i64 _ rfl (by omega) (by omega) ?_ | refine ex_u64 _ rfl (by omega) (by omega) ?_ | refine and_mk (by first | omega | (with_reducible rfl) | (show drawOk _ _ _ = true; kernel_rfl)) ?_ | refine and_mk ⟨_, rfl⟩ ?_ | refine ex_is _ (List.length_map _) ?_ | refine ex_is _ List.length_nil ?_ | fail "no step")
        refine ex_callM (CallsM.ren (h3) [0, 1] 2 rfl rfl rfl rfl) ?_
        repeat' (first | refine ex_true (by first | decide | omega | assumption | (with_reducible exact rfl)) ?_ | refine ex_false (by first | decide | omega | assumption | exact (fun h => h rfl)) ?_ | refine ex_dec (fun _ => ?_) (fun _ => ?_) | refine ex_u8 _ rfl (by omega) (by omega) ?_ | refine ex_i64 _ rfl (by omega) (by omega) ?_ | refine ex_u64 _ rfl (by omega) (by omega) ?_ | refine and_mk (by first | omega | (with_reducible rfl) | (show drawOk _ _ _ = true; kernel_rfl)) ?_ | refine and_mk ⟨_, rfl⟩ ?_ | refine ex_is _ (List.length_map _) ?_ | refine ex_is _ List.length_nil ?_ | fail "no step")
        exact ⟨rfl, TLe.rfl, rfl, rfl⟩
    ·
      refine fn_ruleM (C := ⟨Tryd.prog, layF, Tryd.f74.ntmps, ΓL, 2, [], []⟩) layF_ok mixed Tryd.func74 rfl (by kernel_rfl) rfl rfl rfl ?_
      refine ex_callM (CallsM.ren (h1) [0, 1] 2 rfl rfl rfl rfl) ?_
      repeat' (first | refine ex_true (by first | decide | omega | assumption | (with_reducible exact rfl)) ?_ | refine ex_false (by first | decide | omega | assumption | exact (fun h => h rfl)) ?_ | refine ex_dec (fun _ => ?_) (fun _ => ?_) | refine ex_u8 _ rfl (by omega) (by omega) ?_ | refine ex_i64 _ rfl (by omega) (by omega) ?_ | refine ex_u64 _ rfl (by omega) (by omega) ?_ | refine and_mk (by first | omega | (with_reducible rfl) | (show drawOk _ _ _ = true; kernel_rfl)) ?_ | refine and_mk ⟨_, rfl⟩ ?_ | refine ex_is _ (List.length_map _) ?_ | refine ex_is _ List.length_nil ?_ | fail "no step")
      refine ex_callM (CallsM.ren (h2) [0, 1] 2 rfl rfl rfl rfl) ?_
      repeat' (first | refine ex_true (by first | decide | omega | assumption | (with_reducible exact rfl)) ?_ | refine ex_false (by first | decide | omega | assumption | exact (fun h => h rfl)) ?_ | refine ex_dec (fun _ => ?_) (fun _ => ?_) | refine ex_u8 _ rfl (by omega) (by omega) ?_ | refine ex_i64 _ rfl (by omega) (by omega) ?_ | refine ex_u64 _ rfl (by omega) (by omega) ?_ | refine and_mk (by first | omega | (with_reducible rfl) | (show drawOk _ _ _ = true; kernel_rfl)) ?_ | refine and_mk ⟨_, rfl⟩ ?_ | refine ex_is _ (List.length_map _) ?_ | refine ex_is _ List.length_nil ?_ | fail "no step")
      exact ⟨rfl, TLe.rfl, rfl, rfl⟩
  ·
    refine fn_ruleM (C := ⟨Tryd.prog, layF, Tryd.f74.ntmps, ΓL, 2, [], []⟩) layF_ok mixed Tryd.func74 rfl (by kernel_rfl) rfl rfl rfl ?_
    refine ex_callM (CallsM.ren (h1) [0, 1] 2 rfl rfl rfl rfl) ?_
    repeat' (first | refine ex_true (by first | decide | omega | assumption | (with_reducible exact rfl)) ?_ | refine ex_false (by first | decide | omega | assumption | exact (fun h => h rfl)) ?_ | refine ex_dec (fun _ => ?_) (fun _ => ?_) | refine ex_u8 _ rfl (by omega) (by omega) ?_ | refine ex_i64 _ rfl (by omega) (by omega) ?_ | refine ex_u64 _ rfl (by omega) (by omega) ?_ | refine and_mk (by first | omega | (with_reducible rfl) | (show drawOk _ _ _ = true; kernel_rfl)) ?_ | refine and_mk ⟨_, rfl⟩ ?_ | refine ex_is _ (List.length_map _) ?_ | refine ex_is _ List.length_nil ?_ | fail "no step")
    exact ⟨rfl, TLe.rfl, rfl, rfl⟩
set_option maxHeartbeats 4000000 in
theorem starts_c (i : Nat) (h : i < L.length) : CallsM Tryd.prog ΓL 52 [(0, Qz L m i)] 2 [P0] (Tb (startsV L i)) [(0, Qz L m i)] [] := by
  have ha := ahead_c (L := L) (m := m) i h
  have h3 := named_c (m := m) i h
  unfold startsV
  generalize namedV L i = c at *
  generalize tk L i = u at *
  obtain ⟨w, hw⟩ : ∃ w, u.t = w := ⟨_, rfl⟩
  simp only [tokD, hw] at ha
  rw [hw]
  cases c
  · rw [Bool.false_or]
    by_cases h4 : u.k = 0
    · rw [decide_eq_true h4, Bool.true_and]
      by_cases hm : w ∈ typesL
      · rw [List.contains_iff_mem.2 hm, Bool.true_or]
        simp only [typesL, List.mem_cons, List.not_mem_nil, or_false] at hm
        rcases hm with rfl | rfl | rfl | rfl | rfl | rfl | rfl | rfl | rfl
        all_goals
          refine fn_ruleM (C := ⟨Tryd.prog, layF, Tryd.f52.ntmps, ΓL, 2, [], []⟩) layF_ok mixed Tryd.func52 rfl (by kernel_rfl) rfl rfl rfl ?_
          refine ex_callM (CallsM.ren (h3) [0, 1] 2 rfl rfl rfl rfl) ?_
          repeat' (first | refine ex_true (by first | decide | omega | assumption | (with_reducible exact rfl)) ?_ | refine ex_false (by first | decide | omega | assumption | exact (fun h => h rfl)) ?_ | refine ex_dec (fun _ => ?_) (fun _ => ?_) | refine ex_u8 _ rfl (by omega) (by omega) ?_ | refine ex_i64 _ rfl (by omega) (by omega) ?_ | refine ex_u64 _ rfl (by omega) (by omega) ?_ | refine and_mk (by first | omega | (with_reducible rfl) | (show drawOk _ _ _ = true; kernel_rfl)) ?_ | refine and_mk ⟨_, rfl⟩ ?_ | refine ex_is _ (List.length_map _) ?_ | refine ex_is _ List.length_nil ?_ | fail "no step")
          refine ex_callM (CallsM.ren (ha) [0, 1] 2 rfl rfl rfl rfl) ?_
          repeat' (first | refine ex_true (by first | decide | omega | assumption | (with_reducible exact rfl)) ?_ | refine ex_false (by first | decide | omega | assumption | exact (fun h => h rfl)) ?_ | refine ex_dec (fun _ => ?_) (fun _ => ?_) | refine ex_u8 _ rfl (by omega) (by omega) ?_ | refine ex_i64 _ rfl (by omega) (by omega) ?_ | refine ex_u64 _ rfl (by omega) (by omega) ?_ | refine and_mk (by first | omega | (with_reducible rfl) | (show drawOk _ _ _ = true; kernel_rfl)) ?_ | refine and_mk ⟨_, rfl⟩ ?_ | refine ex_is _ (List.length_map _) ?_ | refine ex_is _ List.length_nil ?_ | fail "no step")
          refine ex_callM (CallsM.ren (ha) [0, 1] 2 rfl rfl rfl rfl) ?_
          repeat' (first | refine ex_true (by first | decide | omega | assumption | (with_reducible exact rfl)) ?_ | refine ex_false (by first | decide | omega | assumption | exact (fun h => h rfl)) ?_ | refine ex_dec (fun _ => ?_) (fun _ => ?_) | refine ex_u8 _ rfl (by omega) (by omega) ?_ | refine ex_i64 _ rfl (by omega) (by omega) ?_ | refine ex_u64 _ rfl (by omega) (by omega) ?_ | refine and_mk (by first | omega | (with_reducible rfl) | (show drawOk _ _ _ = true; kernel_rfl)) ?_ | refine and_mk ⟨_, rfl⟩ ?_ | refine ex_is _ (List.length_map _) ?_ | refine ex_is _ List.length_nil ?_ | fail "no step")
          exact ⟨rfl, TLe.rfl, rfl, rfl⟩
      · have hne : ∀ l, l ∈ typesL → ¬ bs w = bs l := fun l hl he => hm (by rw [bsj.1 he]; exact hl)
        rw [show typesL.contains w = false by simpa using hm, Bool.false_or]
        have hc := (integer_c w).gL
        rcases hv : integerV w with _ | ⟨n, l⟩ <;> rw [hv] at hc
        · have hc : CallsA Tryd.prog ΓL 21 [c1 (ds (bs w))] (.tup [c1 (di 0), c1 (db false), c1 (db false)]) := hc
          refine fn_ruleM (C := ⟨Tryd.prog, layF, Tryd.f52.ntmps, ΓL, 2, [], []⟩) layF_ok mixed Tryd.func52 rfl (by kernel_rfl) rfl rfl rfl ?_
          refine ex_callM (CallsM.ren (h3) [0, 1] 2 rfl rfl rfl rfl) ?_
          repeat' (first | refine ex_true (by first | decide | omega | assumption | (with_reducible exact rfl)) ?_ | refine ex_false (by first | decide | omega | assumption | exact (fun h => h rfl)) ?_ | refine ex_dec (fun _ => ?_) (fun _ => ?_) | refine ex_u8 _ rfl (by omega) (by omega) ?_ | refine ex_i64 _ rfl (by omega) (by omega) ?_ | refine ex_u64 _ rfl (by omega) (by omega) ?_ | refine and_mk (by first | omega | (with_reducible rfl) | (show drawOk _ _ _ = true; kernel_rfl)) ?_ | refine and_mk ⟨_, rfl⟩ ?_ | refine ex_is _ (List.length_map _) ?_ | refine ex_is _ List.length_nil ?_ | fail "no step")
          refine ex_callM (CallsM.ren (ha) [0, 1] 2 rfl rfl rfl rfl) ?_
          repeat' (first | refine ex_true (by first | decide | omega | assumption | (with_reducible exact rfl)) ?_ | refine ex_false (by first | decide | omega | assumption | exact (fun h => h rfl)) ?_ | refine ex_dec (fun _ => ?_) (fun _ => ?_) | refine ex_u8 _ rfl (by omega) (by omega) ?_ | refine ex_i64 _ rfl (by omega) (by omega) ?_ | refine ex_u64 _ rfl (by omega) (by omega) ?_ | refine and_mk (by first | omega | (with_reducible rfl) | (show drawOk _ _ _ = true; kernel_rfl)) ?_ | refine and_mk ⟨_, rfl⟩ ?_ | refine ex_is _ (List.length_map _) ?_ | refine ex_is _ List.length_nil ?_ | fail "no step")
          refine ex_callM (CallsM.ren (ha) [0, 1] 2 rfl rfl rfl rfl) ?_
          repeat' (first | refine ex_call hc ?_ | refine ex_false (hne _ (by decide)) ?_ | refine ex_true (by first | decide | omega | assumption | (with_reducible exact rfl)) ?_ | refine ex_false (by first | decide | omega | assumption | exact (fun h => h rfl)) ?_ | refine ex_dec (fun _ => ?_) (fun _ => ?_) | refine ex_u8 _ rfl (by omega) (by omega) ?_ | refine ex_i64 _ rfl (by omega) (by omega) ?_ | refine ex_u64 _ rfl (by omega) (by omega) ?_ | refine and_mk (by first | omega | (with_reducible rfl) | (show drawOk _ _ _ = true; kernel_rfl)) ?_ | refine and_mk ⟨_, rfl⟩ ?_ | refine ex_is _ (List.length_map _) ?_ | refine ex_is _ List.length_nil ?_ | fail "no step")
          exact ⟨rfl, TLe.rfl, rfl, rfl⟩
        · have hc : CallsA Tryd.prog ΓL 21 [c1 (ds (bs w))] (.tup [c1 (di n), c1 (db l), c1 (db true)]) := hc
          refine fn_ruleM (C := ⟨Tryd.prog, layF, Tryd.f52.ntmps, ΓL, 2, [], []⟩) layF_ok mixed Tryd.func52 rfl (by kernel_rfl) rfl rfl rfl ?_
          refine ex_callM (CallsM.ren (h3) [0, 1] 2 rfl rfl rfl rfl) ?_
          repeat' (first | refine ex_true (by first | decide | omega | assumption | (with_reducible exact rfl)) ?_ | refine ex_false (by first | decide | omega | assumption | exact (fun h => h rfl)) ?_ | refine ex_dec (fun _ => ?_) (fun _ => ?_) | refine ex_u8 _ rfl (by omega) (by omega) ?_ | refine ex_i64 _ rfl (by omega) (by omega) ?_ | refine ex_u64 _ rfl (by omega) (by omega) ?_ | refine and_mk (by first | omega | (with_reducible rfl) | (show drawOk _ _ _ = true; kernel_rfl)) ?_ | refine and_mk ⟨_, rfl⟩ ?_ | refine ex_is _ (List.length_map _) ?_ | refine ex_is _ List.length_nil ?_ | fail "no step")
          refine ex_callM (CallsM.ren (ha) [0, 1] 2 rfl rfl rfl rfl) ?_
          repeat' (first | refine ex_true (by first | decide | omega | assumption | (with_reducible exact rfl)) ?_ | refine ex_false (by first | decide | omega | assumption | exact (fun h => h rfl)) ?_ | refine ex_dec (fun _ => ?_) (fun _ => ?_) | refine ex_u8 _ rfl (by omega) (by omega) ?_ | refine ex_i64 _ rfl (by omega) (by omega) ?_ | refine ex_u64 _ rfl (by omega) (by omega) ?_ | refine and_mk (by first | omega | (with_reducible rfl) | (show drawOk _ _ _ = true; kernel_rfl)) ?_ | refine and_mk ⟨_, rfl⟩ ?_ | refine ex_is _ (List.length_map _) ?_ | refine ex_is _ List.length_nil ?_ | fail "no step")
          refine ex_callM (CallsM.ren (ha) [0, 1] 2 rfl rfl rfl rfl) ?_
          repeat' (first | refine ex_call hc ?_ | refine ex_false (hne _ (by decide)) ?_ | refine ex_true (by first | decide | omega | assumption | (with_reducible exact rfl)) ?_ | refine ex_false (by first | decide | omega | assumption | exact (fun h => h rfl)) ?_ | refine ex_dec (fun _ => ?_) (fun _ => ?_) | refine ex_u8 _ rfl (by omega) (by omega) ?_ | refine ex_i64 _ rfl (by omega) (by omega) ?_ | refine ex_u64 _ rfl (by omega) (by omega) ?_ | refine and_mk (by first | omega | (with_reducible rfl) | (show drawOk _ _ _ = true; kernel_rfl)) ?_ | refine and_mk ⟨_, rfl⟩ ?_ | refine ex_is _ (List.length_map _) ?_ | refine ex_is _ List.length_nil ?_ | fail "no step")
          exact ⟨rfl, TLe.rfl, rfl, rfl⟩
    · rw [decide_eq_false h4, Bool.false_and]
      refine fn_ruleM (C := ⟨Tryd.prog, layF, Tryd.f52.ntmps, ΓL, 2, [], []⟩) layF_ok mixed Tryd.func52 rfl (by kernel_rfl) rfl rfl rfl ?_
      refine ex_callM (CallsM.ren (h3) [0, 1] 2 rfl rfl rfl rfl) ?_
      repeat' (first | refine ex_true (by first | decide | omega | assumption | (with_reducible exact rfl)) ?_ | refine ex_false (by first | decide | omega | assumption | exact (fun h => h rfl)) ?_ | refine ex_dec (fun _ => ?_) (fun _ => ?_) | refine ex_u8 _ rfl (by omega) (by omega) ?_ | refine ex_i64 _ rfl (by omega) (by omega) ?_ | refine ex_u64 _ rfl (by omega) (by omega) ?_ | refine and_mk (by first | omega | (with_reducible rfl) | (show drawOk _ _ _ = true; kernel_rfl)) ?_ | refine and_mk ⟨_, rfl⟩ ?_ | refine ex_is _ (List.length_map _) ?_ | refine ex_is _ List.length_nil ?_ | fail "no step")
      refine ex_callM (CallsM.ren (ha) [0, 1] 2 rfl rfl rfl rfl) ?_
      repeat' (first | refine ex_true (by first | decide | omega | assumption | (with_reducible exact rfl)) ?_ | refine ex_false (by first | decide | omega | assumption | exact (fun h => h rfl)) ?_ | refine ex_dec (fun _ => ?_) (fun _ => ?_) | refine ex_u8 _ rfl (by omega) (by omega) ?_ | refine ex_i64 _ rfl (by omega) (by omega) ?_ | refine ex_u64 _ rfl (by omega) (by omega) ?_ | refine and_mk (by first | omega | (with_reducible rfl) | (show drawOk _ _ _ = true; kernel_rfl)) ?_ | refine and_mk ⟨_, rfl⟩ ?_ | refine ex_is _ (List.length_map _) ?_ | refine ex_is _ List.length_nil ?_ | fail "no step")
      exact ⟨rfl, TLe.rfl, rfl, rfl⟩
  · rw [Bool.true_or]
    refine fn_ruleM (C := ⟨Tryd.prog, layF, Tryd.f52.ntmps, ΓL, 2, [], []⟩) layF_ok mixed Tryd.func52 rfl (by kernel_rfl) rfl rfl rfl ?_
    refine ex_callM (CallsM.ren (h3) [0, 1] 2 rfl rfl rfl rfl) ?_
    repeat' (first | refine ex_true (by first | decide | omega | assumption | (with_reducible exact rfl)) ?_ | refine ex_false (by first | decide | omega | assumption | exact (fun h => h rfl)) ?_ | refine ex_dec (fun _ => ?_) (fun _ => ?_) | refine ex_u8 _ rfl (by omega) (by omega) ?_ | refine ex_i64 _ rfl (by omega) (by omega) ?_ | refine ex_u64 _ rfl (by omega) (by omega) ?_ | refine and_mk (by first | omega | (with_reducible rfl) | (show drawOk _ _ _ = true; kernel_rfl)) ?_ | refine and_mk ⟨_, rfl⟩ ?_ | refine ex_is _ (List.length_map _) ?_ | refine ex_is _ List.length_nil ?_ | fail "no step")
    exact ⟨rfl, TLe.rfl, rfl, rfl⟩
end
end Go.Proofs.YtkbhmcdoedmffaaDoor

namespace Go.Proofs.YtkbhmcdoedmffaaDoor
set_option linter.unusedVariables false
set_option linter.unusedSimpArgs false
open Go.RowKit
set_option maxRecDepth 100000

section
variable {L : List TokP} {m : Nat}
theorem put_c (s : PS) (x : EX) (hx : s.xs.length ≤ 1000000) : C1 L m 77 [gD (exD x)] (putM x) (fun k => Ti k) s := by
  refine C1.of fun T hT => ?_
  obtain rfl : PR.ok (s.xs.length : Int) { s with xs := s.xs ++ [x] } = T := hT
  refine fn_ruleP (C := ⟨Tryd.prog, layF, Tryd.f77.ntmps, ΓL, 6, [], []⟩) layF_ok mixed Tryd.func77 rfl (by kernel_rfl) rfl rfl rfl SLe.rfl ?_
  repeat' (first | refine ex_true (by first | decide | omega | assumption | (with_reducible exact rfl)) ?_ | refine ex_false (by first | decide | omega | assumption | exact (fun h => h rfl)) ?_ | refine ex_dec (fun _ => ?_) (fun _ => ?_) | refine ex_u8 _ rfl (by omega) (by omega) ?_ | refine ex_i64 _ rfl (by omega) (by omega) ?_ | refine ex_u64 _ rfl (by omega) (by omega) ?_ | refine and_mk (by first | omega | (with_reducible rfl) | (show drawOk _ _ _ = true; kernel_rfl)) ?_ | refine and_mk ⟨_, rfl⟩ ?_ | refine ex_is _ (List.length_map _) ?_ | refine ex_is _ List.length_nil ?_ | fail "no step")
  refine ex_app (s.xs.length) (1) 1000 (by first | rfl | (simp; done) | (simp; omega)) (by first | rfl | (simp; done) | (simp; omega)) rfl (by omega) ?_
  refine ex_is (List.map exD (s.xs ++ [x])) (by rw [List.map_append]; rfl) ?_
  repeat' (first | refine ex_i64 ((s.xs.length : Nat) : Int) (by omega) (by omega) (by omega) ?_ | refine ex_u64 ((s.xs.length : Nat) : Int) (by omega) (by omega) (by omega) ?_ | refine ex_u8 ((s.xs.length : Nat) : Int) (by omega) (by omega) (by omega) ?_ | refine (ex_is (s.xs.length + 1) (by simp)) ?_ | refine ex_true (by first | decide | omega | assumption | (with_reducible exact rfl)) ?_ | refine ex_false (by first | decide | omega | assumption | exact (fun h => h rfl)) ?_ | refine ex_dec (fun _ => ?_) (fun _ => ?_) | refine ex_u8 _ rfl (by omega) (by omega) ?_ | refine ex_i64 _ rfl (by omega) (by omega) ?_ | refine ex_u64 _ rfl (by omega) (by omega) ?_ | refine and_mk (by first | omega | (with_reducible rfl) | (show drawOk _ _ _ = true; kernel_rfl)) ?_ | refine and_mk ⟨_, rfl⟩ ?_ | refine ex_is _ (List.length_map _) ?_ | refine ex_is _ List.length_nil ?_ | fail "no step")
  exact ⟨rfl, TLe.rfl, rfl, rfl⟩
theorem lay_c (s : PS) (x : TY) (hx : s.ts.length ≤ 1000000) : CallsM Tryd.prog ΓL 57 [(0, Qz L m s.i), (1, Fz 2 3 4 5), (5, Tz s.ts)] 6 [P0, gD (tyD x)] (Ti s.ts.length) [(0, Qz L m s.i), (1, Fz 2 3 4 6), (5, .dead)] [Tz (s.ts ++ [x])] := by
  refine fn_ruleP (C := ⟨Tryd.prog, layF, Tryd.f57.ntmps, ΓL, 6, [], []⟩) layF_ok mixed Tryd.func57 rfl (by kernel_rfl) rfl rfl rfl SLe.rfl ?_
  repeat' (first | refine ex_true (by first | decide | omega | assumption | (with_reducible exact rfl)) ?_ | refine ex_false (by first | decide | omega | assumption | exact (fun h => h rfl)) ?_ | refine ex_dec (fun _ => ?_) (fun _ => ?_) | refine ex_u8 _ rfl (by omega) (by omega) ?_ | refine ex_i64 _ rfl (by omega) (by omega) ?_ | refine ex_u64 _ rfl (by omega) (by omega) ?_ | refine and_mk (by first | omega | (with_reducible rfl) | (show drawOk _ _ _ = true; kernel_rfl)) ?_ | refine and_mk ⟨_, rfl⟩ ?_ | refine ex_is _ (List.length_map _) ?_ | refine ex_is _ List.length_nil ?_ | fail "no step")
  refine ex_app (s.ts.length) (1) 1000 (by first | rfl | (simp; done) | (simp; omega)) (by first | rfl | (simp; done) | (simp; omega)) rfl (by omega) ?_
  refine ex_is (List.map tyD (s.ts ++ [x])) (by rw [List.map_append]; rfl) ?_
  repeat' (first | refine ex_i64 ((s.ts.length : Nat) : Int) (by omega) (by omega) (by omega) ?_ | refine ex_u64 ((s.ts.length : Nat) : Int) (by omega) (by omega) (by omega) ?_ | refine ex_u8 ((s.ts.length : Nat) : Int) (by omega) (by omega) (by omega) ?_ | refine (ex_is (s.ts.length + 1) (by simp)) ?_ | refine ex_true (by first | decide | omega | assumption | (with_reducible exact rfl)) ?_ | refine ex_false (by first | decide | omega | assumption | exact (fun h => h rfl)) ?_ | refine ex_dec (fun _ => ?_) (fun _ => ?_) | refine ex_u8 _ rfl (by omega) (by omega) ?_ | refine ex_i64 _ rfl (by omega) (by omega) ?_ | refine ex_u64 _ rfl (by omega) (by omega) ?_ | refine and_mk (by first | omega | (with_reducible rfl) | (show drawOk _ _ _ = true; kernel_rfl)) ?_ | refine and_mk ⟨_, rfl⟩ ?_ | refine ex_is _ (List.length_map _) ?_ | refine ex_is _ List.length_nil ?_ | fail "no step")
  exact ⟨rfl, TLe.rfl, rfl, rfl⟩
/-- A name or number is put: without kids. -/
theorem put0_c (i : Nat) (xs : List EX) (k : Nat) (n : Nat) (w : List UInt8) (hx : xs.length ≤ 1000000) :
    CallsM Tryd.prog ΓL 77 [(0, Qz L m i), (1, Fz 2 3 4 5), (4, Xz xs)] 6 [P0, gD [di k, ds ⟨#[]⟩, du n, ds (bs w), dnil]] (Ti xs.length) [(0, Qz L m i), (1, Fz 2 3 6 5), (4, .dead)] [Xz (xs ++ [⟨k, [], n, w, []⟩])] :=
  ((put_c (L := L) (m := m) ⟨i, xs, []⟩ ⟨k, [], n, w, []⟩ hx).ok rfl).argsLe (.cons T1Le.rfl (.cons (T1Le.g (.cons DLe.rfl (.cons DLe.rfl (.cons DLe.rfl (.cons DLe.rfl (.cons DLe.nil .nil)))))) .nil))
theorem deeper_no (s : PS) (hi : s.i < L.length) (h a : Nat) (l : List CV) : CallsM Tryd.prog ΓL 75 [(0, Qz L m s.i)] 2 [P0, c1 (db false), .f h a l] (.pan (flt L s.i 4)) [(0, .dead)] [] := by
  refine fn_ruleP (C := ⟨Tryd.prog, layF, Tryd.f75.ntmps, ΓL, 2, [], []⟩) layF_ok mixed Tryd.func75 rfl (by kernel_rfl) rfl rfl rfl SLe.rfl ?_
  repeat' (first | refine ex_true (by first | decide | omega | assumption | (with_reducible exact rfl)) ?_ | refine ex_false (by first | decide | omega | assumption | exact (fun h => h rfl)) ?_ | refine ex_dec (fun _ => ?_) (fun _ => ?_) | refine ex_u8 _ rfl (by omega) (by omega) ?_ | refine ex_i64 _ rfl (by omega) (by omega) ?_ | refine ex_u64 _ rfl (by omega) (by omega) ?_ | refine and_mk (by first | omega | (with_reducible rfl) | (show drawOk _ _ _ = true; kernel_rfl)) ?_ | refine and_mk ⟨_, rfl⟩ ?_ | refine ex_is _ (List.length_map _) ?_ | refine ex_is _ List.length_nil ?_ | fail "no step")
  first | refine ex_callM (CallsM.ren ((fail_c s.i 4 hi)) [0, 1] 2 rfl rfl rfl rfl) ?_ | refine ex_callM (CallsM.more0 (CallsM.ren ((fail_c s.i 4 hi)) [0, 1] 2 rfl rfl rfl rfl)) ?_ | refine ex_callM (CallsM.more1 (CallsM.ren ((fail_c s.i 4 hi)) [0, 1] 2 rfl rfl rfl rfl)) ?_ | refine ex_callM (CallsM.moreL (CallsM.ren ((fail_c s.i 4 hi)) [0, 1] 2 rfl rfl rfl rfl)) ?_
  exact ⟨⟨_, rfl, rfl⟩, rfl, rfl⟩
theorem deeper_deep (s : PS) (hi : s.i < L.length) (h a : Nat) (l : List CV) : CallsM Tryd.prog ΓL 75 [(0, Qz L 0 s.i)] 2 [P0, c1 (db true), .f h a l] (.pan (flt L s.i 8)) [(0, .dead)] [] := by
  refine fn_ruleP (C := ⟨Tryd.prog, layF, Tryd.f75.ntmps, ΓL, 2, [], []⟩) layF_ok mixed Tryd.func75 rfl (by kernel_rfl) rfl rfl rfl SLe.rfl ?_
  repeat' (first | refine ex_true (by first | decide | omega | assumption | (with_reducible exact rfl)) ?_ | refine ex_false (by first | decide | omega | assumption | exact (fun h => h rfl)) ?_ | refine ex_dec (fun _ => ?_) (fun _ => ?_) | refine ex_u8 _ rfl (by omega) (by omega) ?_ | refine ex_i64 _ rfl (by omega) (by omega) ?_ | refine ex_u64 _ rfl (by omega) (by omega) ?_ | refine and_mk (by first | omega | (with_reducible rfl) | (show drawOk _ _ _ = true; kernel_rfl)) ?_ | refine and_mk ⟨_, rfl⟩ ?_ | refine ex_is _ (List.length_map _) ?_ | refine ex_is _ List.length_nil ?_ | fail "no step")
  first | refine ex_callM (CallsM.ren ((fail_c s.i 8 hi)) [0, 1] 2 rfl rfl rfl rfl) ?_ | refine ex_callM (CallsM.more0 (CallsM.ren ((fail_c s.i 8 hi)) [0, 1] 2 rfl rfl rfl rfl)) ?_ | refine ex_callM (CallsM.more1 (CallsM.ren ((fail_c s.i 8 hi)) [0, 1] 2 rfl rfl rfl rfl)) ?_ | refine ex_callM (CallsM.moreL (CallsM.ren ((fail_c s.i 8 hi)) [0, 1] 2 rfl rfl rfl rfl)) ?_
  exact ⟨⟨_, rfl, rfl⟩, rfl, rfl⟩
theorem deep_assoc {α β : Type} {x : PM α} {f : α → PM β} {p : Nat → Bool} {s : PS} {T : PR β} (h : ((fun s => enterM m (p s.i) s) >>= fun _ => x >>= f) s = T) : ((enterM m (p s.i) >>= fun _ => x) >>= f) s = T := by
  rw [← h]
  show PM.and (PM.and (enterM m (p s.i)) fun _ => x) f s = PM.and (fun s => enterM m (p s.i) s) (fun _ => PM.and x f) s
  unfold PM.and
  dsimp only
  cases enterM m (p s.i) s <;> rfl
theorem PR.end1 {T : PR Int} {k : Int} {s : PS} (h : T = .ok k s) : PR.ok k s = T := h.symm
/-- One step deeper an expression is read. -/
theorem deeper1_c {x : PM Int} {h : FuncId} (s : PS) (hi : s.i < L.length) (hm : m ≤ 32) (hc : ∀ m', m = m' + 1 → C1 L m' h [] x (fun k => Ti k) s) (b : Bool) :
    C1 L m 75 [c1 (db b), .f h 1 [.ptr 0 0]] (enterM m b >>= fun _ => x) (fun k => Ti k) s := by
  refine C1.of fun T hT => ?_
  cases b
  · obtain rfl : PR.err s.i 4 = T := hT
    refine fn_ruleP (C := ⟨Tryd.prog, layF, Tryd.f75.ntmps, ΓL, 6, [], []⟩) layF_ok mixed Tryd.func75 rfl (by kernel_rfl) rfl rfl rfl SLe.rfl ?_
    repeat' (first | refine ex_true (by first | decide | omega | assumption | (with_reducible exact rfl)) ?_ | refine ex_false (by first | decide | omega | assumption | exact (fun h => h rfl)) ?_ | refine ex_dec (fun _ => ?_) (fun _ => ?_) | refine ex_u8 _ rfl (by omega) (by omega) ?_ | refine ex_i64 _ rfl (by omega) (by omega) ?_ | refine ex_u64 _ rfl (by omega) (by omega) ?_ | refine and_mk (by first | omega | (with_reducible rfl) | (show drawOk _ _ _ = true; kernel_rfl)) ?_ | refine and_mk ⟨_, rfl⟩ ?_ | refine ex_is _ (List.length_map _) ?_ | refine ex_is _ List.length_nil ?_ | fail "no step")
    first | refine ex_callM (CallsM.ren ((fail_c s.i 4 hi)) [0, 1] 6 rfl rfl rfl rfl) ?_ | refine ex_callM (CallsM.more0 (CallsM.ren ((fail_c s.i 4 hi)) [0, 1] 6 rfl rfl rfl rfl)) ?_ | refine ex_callM (CallsM.more1 (CallsM.ren ((fail_c s.i 4 hi)) [0, 1] 6 rfl rfl rfl rfl)) ?_ | refine ex_callM (CallsM.moreL (CallsM.ren ((fail_c s.i 4 hi)) [0, 1] 6 rfl rfl rfl rfl)) ?_
    exact ⟨⟨_, rfl, rfl⟩, rfl, rfl⟩
  · cases m with
    | zero =>
      obtain rfl : PR.err s.i 8 = T := hT
      refine fn_ruleP (C := ⟨Tryd.prog, layF, Tryd.f75.ntmps, ΓL, 6, [], []⟩) layF_ok mixed Tryd.func75 rfl (by kernel_rfl) rfl rfl rfl SLe.rfl ?_
      repeat' (first | refine ex_true (by first | decide | omega | assumption | (with_reducible exact rfl)) ?_ | refine ex_false (by first | decide | omega | assumption | exact (fun h => h rfl)) ?_ | refine ex_dec (fun _ => ?_) (fun _ => ?_) | refine ex_u8 _ rfl (by omega) (by omega) ?_ | refine ex_i64 _ rfl (by omega) (by omega) ?_ | refine ex_u64 _ rfl (by omega) (by omega) ?_ | refine and_mk (by first | omega | (with_reducible rfl) | (show drawOk _ _ _ = true; kernel_rfl)) ?_ | refine and_mk ⟨_, rfl⟩ ?_ | refine ex_is _ (List.length_map _) ?_ | refine ex_is _ List.length_nil ?_ | fail "no step")
      first | refine ex_callM (CallsM.ren ((fail_c s.i 8 hi)) [0, 1] 6 rfl rfl rfl rfl) ?_ | refine ex_callM (CallsM.more0 (CallsM.ren ((fail_c s.i 8 hi)) [0, 1] 6 rfl rfl rfl rfl)) ?_ | refine ex_callM (CallsM.more1 (CallsM.ren ((fail_c s.i 8 hi)) [0, 1] 6 rfl rfl rfl rfl)) ?_ | refine ex_callM (CallsM.moreL (CallsM.ren ((fail_c s.i 8 hi)) [0, 1] 6 rfl rfl rfl rfl)) ?_
      exact ⟨⟨_, rfl, rfl⟩, rfl, rfl⟩
    | succ m =>
      have hT : x s = T := hT
      have hc := hc m rfl
      rcases T with ⟨k, s1⟩ | ⟨i, e⟩
      ·
        refine fn_ruleP (C := ⟨Tryd.prog, layF, Tryd.f75.ntmps, ΓL, 6, [], []⟩) layF_ok mixed Tryd.func75 rfl (by kernel_rfl) rfl rfl rfl SLe.rfl ?_
        repeat' (first | refine ex_i64 (32 - ((m : Nat) : Int)) (by omega) (by omega) (by omega) ?_ | refine ex_u64 (32 - ((m : Nat) : Int)) (by omega) (by omega) (by omega) ?_ | refine ex_u8 (32 - ((m : Nat) : Int)) (by omega) (by omega) (by omega) ?_ | refine ex_true (by first | decide | omega | assumption | (with_reducible exact rfl)) ?_ | refine ex_false (by first | decide | omega | assumption | exact (fun h => h rfl)) ?_ | refine ex_dec (fun _ => ?_) (fun _ => ?_) | refine ex_u8 _ rfl (by omega) (by omega) ?_ | refine ex_i64 _ rfl (by omega) (by omega) ?_ | refine ex_u64 _ rfl (by omega) (by omega) ?_ | refine and_mk (by first | omega | (with_reducible rfl) | (show drawOk _ _ _ = true; kernel_rfl)) ?_ | refine and_mk ⟨_, rfl⟩ ?_ | refine ex_is _ (List.length_map _) ?_ | refine ex_is _ List.length_nil ?_ | fail "no step")
        first | refine ex_callM (CallsM.ren ((hc.ok hT)) [0, 1, 2, 3, 4, 5] 6 rfl rfl rfl rfl) ?_ | refine ex_callM (CallsM.more0 (CallsM.ren ((hc.ok hT)) [0, 1, 2, 3, 4, 5] 6 rfl rfl rfl rfl)) ?_ | refine ex_callM (CallsM.more1 (CallsM.ren ((hc.ok hT)) [0, 1, 2, 3, 4, 5] 6 rfl rfl rfl rfl)) ?_ | refine ex_callM (CallsM.moreL (CallsM.ren ((hc.ok hT)) [0, 1, 2, 3, 4, 5] 6 rfl rfl rfl rfl)) ?_
        repeat' (first | refine ex_i64 (32 - ((m + 1 : Nat) : Int)) (by omega) (by omega) (by omega) ?_ | refine ex_u64 (32 - ((m + 1 : Nat) : Int)) (by omega) (by omega) (by omega) ?_ | refine ex_u8 (32 - ((m + 1 : Nat) : Int)) (by omega) (by omega) (by omega) ?_ | refine ex_true (by first | decide | omega | assumption | (with_reducible exact rfl)) ?_ | refine ex_false (by first | decide | omega | assumption | exact (fun h => h rfl)) ?_ | refine ex_dec (fun _ => ?_) (fun _ => ?_) | refine ex_u8 _ rfl (by omega) (by omega) ?_ | refine ex_i64 _ rfl (by omega) (by omega) ?_ | refine ex_u64 _ rfl (by omega) (by omega) ?_ | refine and_mk (by first | omega | (with_reducible rfl) | (show drawOk _ _ _ = true; kernel_rfl)) ?_ | refine and_mk ⟨_, rfl⟩ ?_ | refine ex_is _ (List.length_map _) ?_ | refine ex_is _ List.length_nil ?_ | fail "no step")
        exact ⟨rfl, TLe.rfl, rfl, rfl⟩
      ·
        refine fn_ruleP (C := ⟨Tryd.prog, layF, Tryd.f75.ntmps, ΓL, 6, [], []⟩) layF_ok mixed Tryd.func75 rfl (by kernel_rfl) rfl rfl rfl SLe.rfl ?_
        repeat' (first | refine ex_i64 (32 - ((m : Nat) : Int)) (by omega) (by omega) (by omega) ?_ | refine ex_u64 (32 - ((m : Nat) : Int)) (by omega) (by omega) (by omega) ?_ | refine ex_u8 (32 - ((m : Nat) : Int)) (by omega) (by omega) (by omega) ?_ | refine ex_true (by first | decide | omega | assumption | (with_reducible exact rfl)) ?_ | refine ex_false (by first | decide | omega | assumption | exact (fun h => h rfl)) ?_ | refine ex_dec (fun _ => ?_) (fun _ => ?_) | refine ex_u8 _ rfl (by omega) (by omega) ?_ | refine ex_i64 _ rfl (by omega) (by omega) ?_ | refine ex_u64 _ rfl (by omega) (by omega) ?_ | refine and_mk (by first | omega | (with_reducible rfl) | (show drawOk _ _ _ = true; kernel_rfl)) ?_ | refine and_mk ⟨_, rfl⟩ ?_ | refine ex_is _ (List.length_map _) ?_ | refine ex_is _ List.length_nil ?_ | fail "no step")
        first | refine ex_callM (CallsM.ren ((hc.err hT)) [0, 1, 2, 3, 4, 5] 6 rfl rfl rfl rfl) ?_ | refine ex_callM (CallsM.more0 (CallsM.ren ((hc.err hT)) [0, 1, 2, 3, 4, 5] 6 rfl rfl rfl rfl)) ?_ | refine ex_callM (CallsM.more1 (CallsM.ren ((hc.err hT)) [0, 1, 2, 3, 4, 5] 6 rfl rfl rfl rfl)) ?_ | refine ex_callM (CallsM.moreL (CallsM.ren ((hc.err hT)) [0, 1, 2, 3, 4, 5] 6 rfl rfl rfl rfl)) ?_
        exact ⟨⟨_, rfl, rfl⟩, rfl, rfl⟩
theorem mv_take1 {t : List UInt8} {i : Nat} {xs : List EX} {ts : List TY} {v : Unit} {s' : PS} (h : takeM L t ⟨i, xs, ts⟩ = .ok v s') : s' = ⟨i + 1, xs, ts⟩ := by
  unfold takeM at h; split at h <;> cases h; rfl
theorem mv_name1 {i : Nat} {xs : List EX} {ts : List TY} {v : List UInt8} {s' : PS} (h : nameM L ⟨i, xs, ts⟩ = .ok v s') : s' = ⟨i + 1, xs, ts⟩ := by
  unfold nameM at h; split at h <;> cases h; rfl
theorem mv_num1 {i : Nat} {xs : List EX} {ts : List TY} {v : Nat} {s' : PS} (h : numberM L ⟨i, xs, ts⟩ = .ok v s') : s' = ⟨i + 1, xs, ts⟩ := by
  unfold numberM at h; split at h <;> cases h; rfl
theorem mv_room1 {n i : Nat} {xs : List EX} {ts : List TY} {v : Unit} {s' : PS} (h : roomM n ⟨i, xs, ts⟩ = .ok v s') : s' = ⟨i, xs, ts⟩ := by
  unfold roomM at h; split at h <;> cases h; rfl
section
variable {α β : Type} {p : Nat → Bool} {x y : PM α} {f : Unit → PM β} {i : Nat} {xs : List EX} {ts : List TY}
theorem aty {T : PR α} (hT : atM p x y ⟨i, xs, ts⟩ = T) (h : p i = true) : x ⟨i, xs, ts⟩ = T := (at_pos (s := ⟨i, xs, ts⟩) h).symm.trans hT
theorem atn {T : PR α} (hT : atM p x y ⟨i, xs, ts⟩ = T) (h : p i = false) : y ⟨i, xs, ts⟩ = T := (at_neg (s := ⟨i, xs, ts⟩) h).symm.trans hT
theorem stp1 {T : PR β} (hT : (stepM >>= f) ⟨i, xs, ts⟩ = T) : f () ⟨i + 1, xs, ts⟩ = T := hT
theorem stpS (hL : TokOk L) {c : Nat} (h : SOk L c ⟨i, xs, ts⟩) (hk : (tk L i).k ≠ 3) : SOk L (c + 1) ⟨i + 1, xs, ts⟩ := stepP_ok hL h hk
theorem SOk.lt {c : Nat} (h : SOk L c ⟨i, xs, ts⟩) : i < L.length := h.i
theorem SOk.lx {c : Nat} (h : SOk L c ⟨i, xs, ts⟩) : xs.length + c ≤ i := h.x
theorem SOk.lt' {c : Nat} (h : SOk L c ⟨i, xs, ts⟩) : ts.length + c ≤ i := h.t
end
set_option maxHeartbeats 4000000 in
theorem unary_step (hL : TokOk L) (hn : L.length ≤ 100000) (hm : m ≤ 32) {un ex : PM Int} (hu : m ≠ 0 → Up L un 0 0) (he : m ≠ 0 → Up L ex 0 0)
    (h1 : ∀ m', m = m' + 1 → ∀ s, SOk L 0 s → C1 L m' 76 [] un (fun k => Ti k) s)
    (h2 : ∀ m', m = m' + 1 → ∀ s, SOk L 0 s → C1 L m' 41 [] ex (fun k => Ti k) s) (s : PS) (hs : SOk L 0 s) : C1 L m 76 [] (unF L m un ex) (fun k => Ti k) s := by
  refine C1.of fun T hT => ?_
  unfold unF at hT
  obtain ⟨i, xs, ts⟩ := s
  have hi := hs.lt
  have hxl := hs.lx
  have hdeep : ∀ {x : PM Int}, (m ≠ 0 → Up L x 0 0) → ∀ b, Up L (enterM m b >>= fun _ => x) 0 0 := fun {x} h b => by
    by_cases h0 : m = 0
    · intro s c hs
      subst h0
      have e : (enterM 0 b >>= fun _ => x) s = .err s.i (if b = true then 8 else 4) := by cases b <;> rfl
      rw [e]
      cases b
      · exact ⟨Nat.le_refl _, hs.i, by decide, by decide⟩
      · exact ⟨Nat.le_refl _, hs.i, by decide, by decide⟩
    · exact (Up.enter m b 0).and fun _ => h h0
  have hbg := fun h => begins_c (L := L) (m := m) (i + 1) h
  rcases hv : isV L i t_bang with _ | _
  · replace hT := atn hT hv
    rcases hv2 : isV L i t_lpar with _ | _
    · replace hT := atn hT hv2
      have hnm := named_c (m := m) i hi
      rcases hv3 : namedV L i with _ | _ <;> rw [hv3] at hnm
      · replace hT := atn hT hv3
        refine fn_ruleP (C := ⟨Tryd.prog, layF, Tryd.f76.ntmps, ΓL, 6, [], []⟩) layF_ok mixed Tryd.func76 rfl (by kernel_rfl) rfl rfl rfl SLe.rfl ?_
        first | refine ex_callM (CallsM.ren ((may_no i hi _ hv)) [0, 1] 6 rfl rfl rfl rfl) ?_ | refine ex_callM (CallsM.more0 (CallsM.ren ((may_no i hi _ hv)) [0, 1] 6 rfl rfl rfl rfl)) ?_ | refine ex_callM (CallsM.more1 (CallsM.ren ((may_no i hi _ hv)) [0, 1] 6 rfl rfl rfl rfl)) ?_ | refine ex_callM (CallsM.moreL (CallsM.ren ((may_no i hi _ hv)) [0, 1] 6 rfl rfl rfl rfl)) ?_
        repeat' (first | refine ex_true (by first | decide | omega | assumption | (with_reducible exact rfl)) ?_ | refine ex_false (by first | decide | omega | assumption | exact (fun h => h rfl)) ?_ | refine ex_dec (fun _ => ?_) (fun _ => ?_) | refine ex_u8 _ rfl (by omega) (by omega) ?_ | refine ex_i64 _ rfl (by omega) (by omega) ?_ | refine ex_u64 _ rfl (by omega) (by omega) ?_ | refine and_mk (by first | omega | (with_reducible rfl) | (show drawOk _ _ _ = true; kernel_rfl)) ?_ | refine and_mk ⟨_, rfl⟩ ?_ | refine ex_is _ (List.length_map _) ?_ | refine ex_is _ List.length_nil ?_ | fail "no step")
        first | refine ex_callM (CallsM.ren ((may_no i hi _ hv2)) [0, 1] 6 rfl rfl rfl rfl) ?_ | refine ex_callM (CallsM.more0 (CallsM.ren ((may_no i hi _ hv2)) [0, 1] 6 rfl rfl rfl rfl)) ?_ | refine ex_callM (CallsM.more1 (CallsM.ren ((may_no i hi _ hv2)) [0, 1] 6 rfl rfl rfl rfl)) ?_ | refine ex_callM (CallsM.moreL (CallsM.ren ((may_no i hi _ hv2)) [0, 1] 6 rfl rfl rfl rfl)) ?_
        repeat' (first | refine ex_true (by first | decide | omega | assumption | (with_reducible exact rfl)) ?_ | refine ex_false (by first | decide | omega | assumption | exact (fun h => h rfl)) ?_ | refine ex_dec (fun _ => ?_) (fun _ => ?_) | refine ex_u8 _ rfl (by omega) (by omega) ?_ | refine ex_i64 _ rfl (by omega) (by omega) ?_ | refine ex_u64 _ rfl (by omega) (by omega) ?_ | refine and_mk (by first | omega | (with_reducible rfl) | (show drawOk _ _ _ = true; kernel_rfl)) ?_ | refine and_mk ⟨_, rfl⟩ ?_ | refine ex_is _ (List.length_map _) ?_ | refine ex_is _ List.length_nil ?_ | fail "no step")
        first | refine ex_callM (CallsM.ren (hnm) [0, 1] 6 rfl rfl rfl rfl) ?_ | refine ex_callM (CallsM.more0 (CallsM.ren (hnm) [0, 1] 6 rfl rfl rfl rfl)) ?_ | refine ex_callM (CallsM.more1 (CallsM.ren (hnm) [0, 1] 6 rfl rfl rfl rfl)) ?_ | refine ex_callM (CallsM.moreL (CallsM.ren (hnm) [0, 1] 6 rfl rfl rfl rfl)) ?_
        repeat' (first | refine ex_true (by first | decide | omega | assumption | (with_reducible exact rfl)) ?_ | refine ex_false (by first | decide | omega | assumption | exact (fun h => h rfl)) ?_ | refine ex_dec (fun _ => ?_) (fun _ => ?_) | refine ex_u8 _ rfl (by omega) (by omega) ?_ | refine ex_i64 _ rfl (by omega) (by omega) ?_ | refine ex_u64 _ rfl (by omega) (by omega) ?_ | refine and_mk (by first | omega | (with_reducible rfl) | (show drawOk _ _ _ = true; kernel_rfl)) ?_ | refine and_mk ⟨_, rfl⟩ ?_ | refine ex_is _ (List.length_map _) ?_ | refine ex_is _ List.length_nil ?_ | fail "no step")
        have hcon := num_c (m := m) ⟨i, xs, ts⟩ hs.i (by omega)
        rcases hx129 : (numberM L) ⟨i, xs, ts⟩ with ⟨n, s9⟩ | ⟨i9, e9⟩
        rotate_left
        · obtain rfl := (and_err hx129).symm.trans hT
          first | refine ex_callM (CallsM.ren (hcon.err hx129) [0, 1] 6 rfl rfl rfl rfl) ?_ | refine ex_callM (CallsM.more0 (CallsM.ren (hcon.err hx129) [0, 1] 6 rfl rfl rfl rfl)) ?_ | refine ex_callM (CallsM.more1 (CallsM.ren (hcon.err hx129) [0, 1] 6 rfl rfl rfl rfl)) ?_ | refine ex_callM (CallsM.moreL (CallsM.ren (hcon.err hx129) [0, 1] 6 rfl rfl rfl rfl)) ?_
          first | exact ⟨⟨_, rfl, rfl⟩, rfl, rfl⟩ | exact ⟨by kernel_rfl, ⟨_, rfl, rfl⟩, rfl, rfl⟩
        replace hT := (and_ok hx129).symm.trans hT
        first | refine ex_callM (CallsM.ren (hcon.ok hx129) [0, 1] 6 rfl rfl rfl rfl) ?_ | refine ex_callM (CallsM.more0 (CallsM.ren (hcon.ok hx129) [0, 1] 6 rfl rfl rfl rfl)) ?_ | refine ex_callM (CallsM.more1 (CallsM.ren (hcon.ok hx129) [0, 1] 6 rfl rfl rfl rfl)) ?_ | refine ex_callM (CallsM.moreL (CallsM.ren (hcon.ok hx129) [0, 1] 6 rfl rfl rfl rfl)) ?_
        clear hcon
        have hs1 := (Up.ok (Up.number hL 0) hs hx129).1
        obtain rfl := mv_num1 hx129
        repeat' (first | refine ex_true (by first | decide | omega | assumption | (with_reducible exact rfl)) ?_ | refine ex_false (by first | decide | omega | assumption | exact (fun h => h rfl)) ?_ | refine ex_dec (fun _ => ?_) (fun _ => ?_) | refine ex_u8 _ rfl (by omega) (by omega) ?_ | refine ex_i64 _ rfl (by omega) (by omega) ?_ | refine ex_u64 _ rfl (by omega) (by omega) ?_ | refine and_mk (by first | omega | (with_reducible rfl) | (show drawOk _ _ _ = true; kernel_rfl)) ?_ | refine and_mk ⟨_, rfl⟩ ?_ | refine ex_is _ (List.length_map _) ?_ | refine ex_is _ List.length_nil ?_ | fail "no step")
        obtain rfl : PR.ok (xs.length : Int) ⟨i + 1, xs ++ [(⟨0, [], n, [], []⟩ : EX)], ts⟩ = T := hT
        first | refine ex_callM (CallsM.ren ((put0_c (m := m) (i + 1) xs 0 n [] (by omega))) [0, 1, 2, 3, 4, 5] 6 rfl rfl rfl rfl) ?_ | refine ex_callM (CallsM.more0 (CallsM.ren ((put0_c (m := m) (i + 1) xs 0 n [] (by omega))) [0, 1, 2, 3, 4, 5] 6 rfl rfl rfl rfl)) ?_ | refine ex_callM (CallsM.more1 (CallsM.ren ((put0_c (m := m) (i + 1) xs 0 n [] (by omega))) [0, 1, 2, 3, 4, 5] 6 rfl rfl rfl rfl)) ?_ | refine ex_callM (CallsM.moreL (CallsM.ren ((put0_c (m := m) (i + 1) xs 0 n [] (by omega))) [0, 1, 2, 3, 4, 5] 6 rfl rfl rfl rfl)) ?_
        repeat' (first | refine ex_true (by first | decide | omega | assumption | (with_reducible exact rfl)) ?_ | refine ex_false (by first | decide | omega | assumption | exact (fun h => h rfl)) ?_ | refine ex_dec (fun _ => ?_) (fun _ => ?_) | refine ex_u8 _ rfl (by omega) (by omega) ?_ | refine ex_i64 _ rfl (by omega) (by omega) ?_ | refine ex_u64 _ rfl (by omega) (by omega) ?_ | refine and_mk (by first | omega | (with_reducible rfl) | (show drawOk _ _ _ = true; kernel_rfl)) ?_ | refine and_mk ⟨_, rfl⟩ ?_ | refine ex_is _ (List.length_map _) ?_ | refine ex_is _ List.length_nil ?_ | fail "no step")
        exact ⟨rfl, TLe.rfl, rfl, rfl⟩
      · replace hT := aty hT hv3
        refine fn_ruleP (C := ⟨Tryd.prog, layF, Tryd.f76.ntmps, ΓL, 6, [], []⟩) layF_ok mixed Tryd.func76 rfl (by kernel_rfl) rfl rfl rfl SLe.rfl ?_
        first | refine ex_callM (CallsM.ren ((may_no i hi _ hv)) [0, 1] 6 rfl rfl rfl rfl) ?_ | refine ex_callM (CallsM.more0 (CallsM.ren ((may_no i hi _ hv)) [0, 1] 6 rfl rfl rfl rfl)) ?_ | refine ex_callM (CallsM.more1 (CallsM.ren ((may_no i hi _ hv)) [0, 1] 6 rfl rfl rfl rfl)) ?_ | refine ex_callM (CallsM.moreL (CallsM.ren ((may_no i hi _ hv)) [0, 1] 6 rfl rfl rfl rfl)) ?_
        repeat' (first | refine ex_true (by first | decide | omega | assumption | (with_reducible exact rfl)) ?_ | refine ex_false (by first | decide | omega | assumption | exact (fun h => h rfl)) ?_ | refine ex_dec (fun _ => ?_) (fun _ => ?_) | refine ex_u8 _ rfl (by omega) (by omega) ?_ | refine ex_i64 _ rfl (by omega) (by omega) ?_ | refine ex_u64 _ rfl (by omega) (by omega) ?_ | refine and_mk (by first | omega | (with_reducible rfl) | (show drawOk _ _ _ = true; kernel_rfl)) ?_ | refine and_mk ⟨_, rfl⟩ ?_ | refine ex_is _ (List.length_map _) ?_ | refine ex_is _ List.length_nil ?_ | fail "no step")
        first | refine ex_callM (CallsM.ren ((may_no i hi _ hv2)) [0, 1] 6 rfl rfl rfl rfl) ?_ | refine ex_callM (CallsM.more0 (CallsM.ren ((may_no i hi _ hv2)) [0, 1] 6 rfl rfl rfl rfl)) ?_ | refine ex_callM (CallsM.more1 (CallsM.ren ((may_no i hi _ hv2)) [0, 1] 6 rfl rfl rfl rfl)) ?_ | refine ex_callM (CallsM.moreL (CallsM.ren ((may_no i hi _ hv2)) [0, 1] 6 rfl rfl rfl rfl)) ?_
        repeat' (first | refine ex_true (by first | decide | omega | assumption | (with_reducible exact rfl)) ?_ | refine ex_false (by first | decide | omega | assumption | exact (fun h => h rfl)) ?_ | refine ex_dec (fun _ => ?_) (fun _ => ?_) | refine ex_u8 _ rfl (by omega) (by omega) ?_ | refine ex_i64 _ rfl (by omega) (by omega) ?_ | refine ex_u64 _ rfl (by omega) (by omega) ?_ | refine and_mk (by first | omega | (with_reducible rfl) | (show drawOk _ _ _ = true; kernel_rfl)) ?_ | refine and_mk ⟨_, rfl⟩ ?_ | refine ex_is _ (List.length_map _) ?_ | refine ex_is _ List.length_nil ?_ | fail "no step")
        first | refine ex_callM (CallsM.ren (hnm) [0, 1] 6 rfl rfl rfl rfl) ?_ | refine ex_callM (CallsM.more0 (CallsM.ren (hnm) [0, 1] 6 rfl rfl rfl rfl)) ?_ | refine ex_callM (CallsM.more1 (CallsM.ren (hnm) [0, 1] 6 rfl rfl rfl rfl)) ?_ | refine ex_callM (CallsM.moreL (CallsM.ren (hnm) [0, 1] 6 rfl rfl rfl rfl)) ?_
        repeat' (first | refine ex_true (by first | decide | omega | assumption | (with_reducible exact rfl)) ?_ | refine ex_false (by first | decide | omega | assumption | exact (fun h => h rfl)) ?_ | refine ex_dec (fun _ => ?_) (fun _ => ?_) | refine ex_u8 _ rfl (by omega) (by omega) ?_ | refine ex_i64 _ rfl (by omega) (by omega) ?_ | refine ex_u64 _ rfl (by omega) (by omega) ?_ | refine and_mk (by first | omega | (with_reducible rfl) | (show drawOk _ _ _ = true; kernel_rfl)) ?_ | refine and_mk ⟨_, rfl⟩ ?_ | refine ex_is _ (List.length_map _) ?_ | refine ex_is _ List.length_nil ?_ | fail "no step")
        have hcon := name_c (m := m) ⟨i, xs, ts⟩ hs.i (by omega)
        rcases hx143 : (nameM L) ⟨i, xs, ts⟩ with ⟨w, s9⟩ | ⟨i9, e9⟩
        rotate_left
        · obtain rfl := (and_err hx143).symm.trans hT
          first | refine ex_callM (CallsM.ren (hcon.err hx143) [0, 1] 6 rfl rfl rfl rfl) ?_ | refine ex_callM (CallsM.more0 (CallsM.ren (hcon.err hx143) [0, 1] 6 rfl rfl rfl rfl)) ?_ | refine ex_callM (CallsM.more1 (CallsM.ren (hcon.err hx143) [0, 1] 6 rfl rfl rfl rfl)) ?_ | refine ex_callM (CallsM.moreL (CallsM.ren (hcon.err hx143) [0, 1] 6 rfl rfl rfl rfl)) ?_
          first | exact ⟨⟨_, rfl, rfl⟩, rfl, rfl⟩ | exact ⟨by kernel_rfl, ⟨_, rfl, rfl⟩, rfl, rfl⟩
        replace hT := (and_ok hx143).symm.trans hT
        first | refine ex_callM (CallsM.ren (hcon.ok hx143) [0, 1] 6 rfl rfl rfl rfl) ?_ | refine ex_callM (CallsM.more0 (CallsM.ren (hcon.ok hx143) [0, 1] 6 rfl rfl rfl rfl)) ?_ | refine ex_callM (CallsM.more1 (CallsM.ren (hcon.ok hx143) [0, 1] 6 rfl rfl rfl rfl)) ?_ | refine ex_callM (CallsM.moreL (CallsM.ren (hcon.ok hx143) [0, 1] 6 rfl rfl rfl rfl)) ?_
        clear hcon
        have hs1 := (Up.ok (Up.name hL 0) hs hx143).1
        obtain rfl := mv_name1 hx143
        repeat' (first | refine ex_true (by first | decide | omega | assumption | (with_reducible exact rfl)) ?_ | refine ex_false (by first | decide | omega | assumption | exact (fun h => h rfl)) ?_ | refine ex_dec (fun _ => ?_) (fun _ => ?_) | refine ex_u8 _ rfl (by omega) (by omega) ?_ | refine ex_i64 _ rfl (by omega) (by omega) ?_ | refine ex_u64 _ rfl (by omega) (by omega) ?_ | refine and_mk (by first | omega | (with_reducible rfl) | (show drawOk _ _ _ = true; kernel_rfl)) ?_ | refine and_mk ⟨_, rfl⟩ ?_ | refine ex_is _ (List.length_map _) ?_ | refine ex_is _ List.length_nil ?_ | fail "no step")
        obtain rfl : PR.ok (xs.length : Int) ⟨i + 1, xs ++ [(⟨1, [], 0, w, []⟩ : EX)], ts⟩ = T := hT
        first | refine ex_callM (CallsM.ren ((put0_c (m := m) (i + 1) xs 1 0 w (by omega))) [0, 1, 2, 3, 4, 5] 6 rfl rfl rfl rfl) ?_ | refine ex_callM (CallsM.more0 (CallsM.ren ((put0_c (m := m) (i + 1) xs 1 0 w (by omega))) [0, 1, 2, 3, 4, 5] 6 rfl rfl rfl rfl)) ?_ | refine ex_callM (CallsM.more1 (CallsM.ren ((put0_c (m := m) (i + 1) xs 1 0 w (by omega))) [0, 1, 2, 3, 4, 5] 6 rfl rfl rfl rfl)) ?_ | refine ex_callM (CallsM.moreL (CallsM.ren ((put0_c (m := m) (i + 1) xs 1 0 w (by omega))) [0, 1, 2, 3, 4, 5] 6 rfl rfl rfl rfl)) ?_
        repeat' (first | refine ex_true (by first | decide | omega | assumption | (with_reducible exact rfl)) ?_ | refine ex_false (by first | decide | omega | assumption | exact (fun h => h rfl)) ?_ | refine ex_dec (fun _ => ?_) (fun _ => ?_) | refine ex_u8 _ rfl (by omega) (by omega) ?_ | refine ex_i64 _ rfl (by omega) (by omega) ?_ | refine ex_u64 _ rfl (by omega) (by omega) ?_ | refine and_mk (by first | omega | (with_reducible rfl) | (show drawOk _ _ _ = true; kernel_rfl)) ?_ | refine and_mk ⟨_, rfl⟩ ?_ | refine ex_is _ (List.length_map _) ?_ | refine ex_is _ List.length_nil ?_ | fail "no step")
        exact ⟨rfl, TLe.rfl, rfl, rfl⟩
    · replace hT := deep_assoc (stp1 (aty hT hv2))
      have hs1 := stpS hL hs (isV_k hv2)
      refine fn_ruleP (C := ⟨Tryd.prog, layF, Tryd.f76.ntmps, ΓL, 6, [], []⟩) layF_ok mixed Tryd.func76 rfl (by kernel_rfl) rfl rfl rfl SLe.rfl ?_
      first | refine ex_callM (CallsM.ren ((may_no i hi _ hv)) [0, 1] 6 rfl rfl rfl rfl) ?_ | refine ex_callM (CallsM.more0 (CallsM.ren ((may_no i hi _ hv)) [0, 1] 6 rfl rfl rfl rfl)) ?_ | refine ex_callM (CallsM.more1 (CallsM.ren ((may_no i hi _ hv)) [0, 1] 6 rfl rfl rfl rfl)) ?_ | refine ex_callM (CallsM.moreL (CallsM.ren ((may_no i hi _ hv)) [0, 1] 6 rfl rfl rfl rfl)) ?_
      repeat' (first | refine ex_true (by first | decide | omega | assumption | (with_reducible exact rfl)) ?_ | refine ex_false (by first | decide | omega | assumption | exact (fun h => h rfl)) ?_ | refine ex_dec (fun _ => ?_) (fun _ => ?_) | refine ex_u8 _ rfl (by omega) (by omega) ?_ | refine ex_i64 _ rfl (by omega) (by omega) ?_ | refine ex_u64 _ rfl (by omega) (by omega) ?_ | refine and_mk (by first | omega | (with_reducible rfl) | (show drawOk _ _ _ = true; kernel_rfl)) ?_ | refine and_mk ⟨_, rfl⟩ ?_ | refine ex_is _ (List.length_map _) ?_ | refine ex_is _ List.length_nil ?_ | fail "no step")
      first | refine ex_callM (CallsM.ren ((may_yes i hi (by omega) _ hv2)) [0, 1] 6 rfl rfl rfl rfl) ?_ | refine ex_callM (CallsM.more0 (CallsM.ren ((may_yes i hi (by omega) _ hv2)) [0, 1] 6 rfl rfl rfl rfl)) ?_ | refine ex_callM (CallsM.more1 (CallsM.ren ((may_yes i hi (by omega) _ hv2)) [0, 1] 6 rfl rfl rfl rfl)) ?_ | refine ex_callM (CallsM.moreL (CallsM.ren ((may_yes i hi (by omega) _ hv2)) [0, 1] 6 rfl rfl rfl rfl)) ?_
      repeat' (first | refine ex_true (by first | decide | omega | assumption | (with_reducible exact rfl)) ?_ | refine ex_false (by first | decide | omega | assumption | exact (fun h => h rfl)) ?_ | refine ex_dec (fun _ => ?_) (fun _ => ?_) | refine ex_u8 _ rfl (by omega) (by omega) ?_ | refine ex_i64 _ rfl (by omega) (by omega) ?_ | refine ex_u64 _ rfl (by omega) (by omega) ?_ | refine and_mk (by first | omega | (with_reducible rfl) | (show drawOk _ _ _ = true; kernel_rfl)) ?_ | refine and_mk ⟨_, rfl⟩ ?_ | refine ex_is _ (List.length_map _) ?_ | refine ex_is _ List.length_nil ?_ | fail "no step")
      first | refine ex_callM (CallsM.ren ((hbg hs1.lt)) [0, 1] 6 rfl rfl rfl rfl) ?_ | refine ex_callM (CallsM.more0 (CallsM.ren ((hbg hs1.lt)) [0, 1] 6 rfl rfl rfl rfl)) ?_ | refine ex_callM (CallsM.more1 (CallsM.ren ((hbg hs1.lt)) [0, 1] 6 rfl rfl rfl rfl)) ?_ | refine ex_callM (CallsM.moreL (CallsM.ren ((hbg hs1.lt)) [0, 1] 6 rfl rfl rfl rfl)) ?_
      repeat' (first | refine ex_true (by first | decide | omega | assumption | (with_reducible exact rfl)) ?_ | refine ex_false (by first | decide | omega | assumption | exact (fun h => h rfl)) ?_ | refine ex_dec (fun _ => ?_) (fun _ => ?_) | refine ex_u8 _ rfl (by omega) (by omega) ?_ | refine ex_i64 _ rfl (by omega) (by omega) ?_ | refine ex_u64 _ rfl (by omega) (by omega) ?_ | refine and_mk (by first | omega | (with_reducible rfl) | (show drawOk _ _ _ = true; kernel_rfl)) ?_ | refine and_mk ⟨_, rfl⟩ ?_ | refine ex_is _ (List.length_map _) ?_ | refine ex_is _ List.length_nil ?_ | fail "no step")
      have hcon := deeper1_c (m := m) ⟨i + 1, xs, ts⟩ hs1.lt hm (fun m' e => h2 m' e _ (hs1.less (by omega))) (beginsV L (i + 1))
      rcases hx : ((enterM m (beginsV L (i + 1)) >>= fun _ => ex)) ⟨i + 1, xs, ts⟩ with ⟨k, ⟨i2, xs2, ts2⟩⟩ | ⟨i9, e9⟩
      rotate_left
      · obtain rfl := (and_err hx).symm.trans hT
        first | refine ex_callM (CallsM.ren (hcon.err hx) [0, 1, 2, 3, 4, 5] 6 rfl rfl rfl rfl) ?_ | refine ex_callM (CallsM.more0 (CallsM.ren (hcon.err hx) [0, 1, 2, 3, 4, 5] 6 rfl rfl rfl rfl)) ?_ | refine ex_callM (CallsM.more1 (CallsM.ren (hcon.err hx) [0, 1, 2, 3, 4, 5] 6 rfl rfl rfl rfl)) ?_ | refine ex_callM (CallsM.moreL (CallsM.ren (hcon.err hx) [0, 1, 2, 3, 4, 5] 6 rfl rfl rfl rfl)) ?_
        first | exact ⟨⟨_, rfl, rfl⟩, rfl, rfl⟩ | exact ⟨by kernel_rfl, ⟨_, rfl, rfl⟩, rfl, rfl⟩
      replace hT := (and_ok hx).symm.trans hT
      first | refine ex_callM (CallsM.ren (hcon.ok hx) [0, 1, 2, 3, 4, 5] 6 rfl rfl rfl rfl) ?_ | refine ex_callM (CallsM.more0 (CallsM.ren (hcon.ok hx) [0, 1, 2, 3, 4, 5] 6 rfl rfl rfl rfl)) ?_ | refine ex_callM (CallsM.more1 (CallsM.ren (hcon.ok hx) [0, 1, 2, 3, 4, 5] 6 rfl rfl rfl rfl)) ?_ | refine ex_callM (CallsM.moreL (CallsM.ren (hcon.ok hx) [0, 1, 2, 3, 4, 5] 6 rfl rfl rfl rfl)) ?_
      clear hcon
      have hs2 := (Up.ok ((hdeep he _).less (a' := 1) (b' := 1) 1 (by omega) (by omega)) hs1 hx).1
      repeat' (first | refine ex_true (by first | decide | omega | assumption | (with_reducible exact rfl)) ?_ | refine ex_false (by first | decide | omega | assumption | exact (fun h => h rfl)) ?_ | refine ex_dec (fun _ => ?_) (fun _ => ?_) | refine ex_u8 _ rfl (by omega) (by omega) ?_ | refine ex_i64 _ rfl (by omega) (by omega) ?_ | refine ex_u64 _ rfl (by omega) (by omega) ?_ | refine and_mk (by first | omega | (with_reducible rfl) | (show drawOk _ _ _ = true; kernel_rfl)) ?_ | refine and_mk ⟨_, rfl⟩ ?_ | refine ex_is _ (List.length_map _) ?_ | refine ex_is _ List.length_nil ?_ | fail "no step")
      have hcon := take_c (m := m) ⟨i2, xs2, ts2⟩ hs2.i (by omega) t_rpar
      rcases hx160 : (takeM L t_rpar) ⟨i2, xs2, ts2⟩ with ⟨_, s9⟩ | ⟨i9, e9⟩
      rotate_left
      · obtain rfl := (and_err hx160).symm.trans hT
        first | refine ex_callM (CallsM.ren (hcon.err hx160) [0, 1] 7 rfl rfl rfl rfl) ?_ | refine ex_callM (CallsM.more0 (CallsM.ren (hcon.err hx160) [0, 1] 7 rfl rfl rfl rfl)) ?_ | refine ex_callM (CallsM.more1 (CallsM.ren (hcon.err hx160) [0, 1] 7 rfl rfl rfl rfl)) ?_ | refine ex_callM (CallsM.moreL (CallsM.ren (hcon.err hx160) [0, 1] 7 rfl rfl rfl rfl)) ?_
        first | exact ⟨⟨_, rfl, rfl⟩, rfl, rfl⟩ | exact ⟨by kernel_rfl, ⟨_, rfl, rfl⟩, rfl, rfl⟩
      replace hT := (and_ok hx160).symm.trans hT
      first | refine ex_callM (CallsM.ren (hcon.ok hx160) [0, 1] 7 rfl rfl rfl rfl) ?_ | refine ex_callM (CallsM.more0 (CallsM.ren (hcon.ok hx160) [0, 1] 7 rfl rfl rfl rfl)) ?_ | refine ex_callM (CallsM.more1 (CallsM.ren (hcon.ok hx160) [0, 1] 7 rfl rfl rfl rfl)) ?_ | refine ex_callM (CallsM.moreL (CallsM.ren (hcon.ok hx160) [0, 1] 7 rfl rfl rfl rfl)) ?_
      clear hcon
      have hs3 := (Up.ok (Up.take hL t_rpar 0) hs2 hx160).1
      obtain rfl := mv_take1 hx160
      obtain rfl : PR.ok k ⟨i2 + 1, xs2, ts2⟩ = T := hT
      repeat' (first | refine ex_true (by first | decide | omega | assumption | (with_reducible exact rfl)) ?_ | refine ex_false (by first | decide | omega | assumption | exact (fun h => h rfl)) ?_ | refine ex_dec (fun _ => ?_) (fun _ => ?_) | refine ex_u8 _ rfl (by omega) (by omega) ?_ | refine ex_i64 _ rfl (by omega) (by omega) ?_ | refine ex_u64 _ rfl (by omega) (by omega) ?_ | refine and_mk (by first | omega | (with_reducible rfl) | (show drawOk _ _ _ = true; kernel_rfl)) ?_ | refine and_mk ⟨_, rfl⟩ ?_ | refine ex_is _ (List.length_map _) ?_ | refine ex_is _ List.length_nil ?_ | fail "no step")
      exact ⟨rfl, TLe.rfl, rfl, rfl⟩
  · replace hT := deep_assoc (stp1 (aty hT hv))
    have hs1 := stpS hL hs (isV_k hv)
    refine fn_ruleP (C := ⟨Tryd.prog, layF, Tryd.f76.ntmps, ΓL, 6, [], []⟩) layF_ok mixed Tryd.func76 rfl (by kernel_rfl) rfl rfl rfl SLe.rfl ?_
    first | refine ex_callM (CallsM.ren ((may_yes i hi (by omega) _ hv)) [0, 1] 6 rfl rfl rfl rfl) ?_ | refine ex_callM (CallsM.more0 (CallsM.ren ((may_yes i hi (by omega) _ hv)) [0, 1] 6 rfl rfl rfl rfl)) ?_ | refine ex_callM (CallsM.more1 (CallsM.ren ((may_yes i hi (by omega) _ hv)) [0, 1] 6 rfl rfl rfl rfl)) ?_ | refine ex_callM (CallsM.moreL (CallsM.ren ((may_yes i hi (by omega) _ hv)) [0, 1] 6 rfl rfl rfl rfl)) ?_
    repeat' (first | refine ex_true (by first | decide | omega | assumption | (with_reducible exact rfl)) ?_ | refine ex_false (by first | decide | omega | assumption | exact (fun h => h rfl)) ?_ | refine ex_dec (fun _ => ?_) (fun _ => ?_) | refine ex_u8 _ rfl (by omega) (by omega) ?_ | refine ex_i64 _ rfl (by omega) (by omega) ?_ | refine ex_u64 _ rfl (by omega) (by omega) ?_ | refine and_mk (by first | omega | (with_reducible rfl) | (show drawOk _ _ _ = true; kernel_rfl)) ?_ | refine and_mk ⟨_, rfl⟩ ?_ | refine ex_is _ (List.length_map _) ?_ | refine ex_is _ List.length_nil ?_ | fail "no step")
    first | refine ex_callM (CallsM.ren ((hbg hs1.lt)) [0, 1] 6 rfl rfl rfl rfl) ?_ | refine ex_callM (CallsM.more0 (CallsM.ren ((hbg hs1.lt)) [0, 1] 6 rfl rfl rfl rfl)) ?_ | refine ex_callM (CallsM.more1 (CallsM.ren ((hbg hs1.lt)) [0, 1] 6 rfl rfl rfl rfl)) ?_ | refine ex_callM (CallsM.moreL (CallsM.ren ((hbg hs1.lt)) [0, 1] 6 rfl rfl rfl rfl)) ?_
    repeat' (first | refine ex_true (by first | decide | omega | assumption | (with_reducible exact rfl)) ?_ | refine ex_false (by first | decide | omega | assumption | exact (fun h => h rfl)) ?_ | refine ex_dec (fun _ => ?_) (fun _ => ?_) | refine ex_u8 _ rfl (by omega) (by omega) ?_ | refine ex_i64 _ rfl (by omega) (by omega) ?_ | refine ex_u64 _ rfl (by omega) (by omega) ?_ | refine and_mk (by first | omega | (with_reducible rfl) | (show drawOk _ _ _ = true; kernel_rfl)) ?_ | refine and_mk ⟨_, rfl⟩ ?_ | refine ex_is _ (List.length_map _) ?_ | refine ex_is _ List.length_nil ?_ | fail "no step")
    have hcon := deeper1_c (m := m) ⟨i + 1, xs, ts⟩ hs1.lt hm (fun m' e => h1 m' e _ (hs1.less (by omega))) (beginsV L (i + 1))
    rcases hx : ((enterM m (beginsV L (i + 1)) >>= fun _ => un)) ⟨i + 1, xs, ts⟩ with ⟨k, ⟨i2, xs2, ts2⟩⟩ | ⟨i9, e9⟩
    rotate_left
    · obtain rfl := (and_err hx).symm.trans hT
      first | refine ex_callM (CallsM.ren (hcon.err hx) [0, 1, 2, 3, 4, 5] 6 rfl rfl rfl rfl) ?_ | refine ex_callM (CallsM.more0 (CallsM.ren (hcon.err hx) [0, 1, 2, 3, 4, 5] 6 rfl rfl rfl rfl)) ?_ | refine ex_callM (CallsM.more1 (CallsM.ren (hcon.err hx) [0, 1, 2, 3, 4, 5] 6 rfl rfl rfl rfl)) ?_ | refine ex_callM (CallsM.moreL (CallsM.ren (hcon.err hx) [0, 1, 2, 3, 4, 5] 6 rfl rfl rfl rfl)) ?_
      first | exact ⟨⟨_, rfl, rfl⟩, rfl, rfl⟩ | exact ⟨by kernel_rfl, ⟨_, rfl, rfl⟩, rfl, rfl⟩
    replace hT := (and_ok hx).symm.trans hT
    first | refine ex_callM (CallsM.ren (hcon.ok hx) [0, 1, 2, 3, 4, 5] 6 rfl rfl rfl rfl) ?_ | refine ex_callM (CallsM.more0 (CallsM.ren (hcon.ok hx) [0, 1, 2, 3, 4, 5] 6 rfl rfl rfl rfl)) ?_ | refine ex_callM (CallsM.more1 (CallsM.ren (hcon.ok hx) [0, 1, 2, 3, 4, 5] 6 rfl rfl rfl rfl)) ?_ | refine ex_callM (CallsM.moreL (CallsM.ren (hcon.ok hx) [0, 1, 2, 3, 4, 5] 6 rfl rfl rfl rfl)) ?_
    clear hcon
    have hs2 := (Up.ok ((hdeep hu _).less (a' := 1) (b' := 1) 1 (by omega) (by omega)) hs1 hx).1
    repeat' (first | refine ex_true (by first | decide | omega | assumption | (with_reducible exact rfl)) ?_ | refine ex_false (by first | decide | omega | assumption | exact (fun h => h rfl)) ?_ | refine ex_dec (fun _ => ?_) (fun _ => ?_) | refine ex_u8 _ rfl (by omega) (by omega) ?_ | refine ex_i64 _ rfl (by omega) (by omega) ?_ | refine ex_u64 _ rfl (by omega) (by omega) ?_ | refine and_mk (by first | omega | (with_reducible rfl) | (show drawOk _ _ _ = true; kernel_rfl)) ?_ | refine and_mk ⟨_, rfl⟩ ?_ | refine ex_is _ (List.length_map _) ?_ | refine ex_is _ List.length_nil ?_ | fail "no step")
    obtain rfl : PR.ok (xs2.length : Int) ⟨i2, xs2 ++ [(⟨2, [], 0, [], [k]⟩ : EX)], ts2⟩ = T := hT
    have hx2 := hs2.lx
    have hl2 := hs2.lt
    have hp := (put_c (L := L) (m := m) ⟨i2, xs2, ts2⟩ ⟨2, [], 0, [], [k]⟩ (by show xs2.length ≤ _; omega)).ok rfl
    first | refine ex_callM (CallsM.ren (hp) [0, 1, 2, 3, 6, 5] 8 rfl rfl rfl rfl) ?_ | refine ex_callM (CallsM.more0 (CallsM.ren (hp) [0, 1, 2, 3, 6, 5] 8 rfl rfl rfl rfl)) ?_ | refine ex_callM (CallsM.more1 (CallsM.ren (hp) [0, 1, 2, 3, 6, 5] 8 rfl rfl rfl rfl)) ?_ | refine ex_callM (CallsM.moreL (CallsM.ren (hp) [0, 1, 2, 3, 6, 5] 8 rfl rfl rfl rfl)) ?_
    repeat' (first | refine ex_true (by first | decide | omega | assumption | (with_reducible exact rfl)) ?_ | refine ex_false (by first | decide | omega | assumption | exact (fun h => h rfl)) ?_ | refine ex_dec (fun _ => ?_) (fun _ => ?_) | refine ex_u8 _ rfl (by omega) (by omega) ?_ | refine ex_i64 _ rfl (by omega) (by omega) ?_ | refine ex_u64 _ rfl (by omega) (by omega) ?_ | refine and_mk (by first | omega | (with_reducible rfl) | (show drawOk _ _ _ = true; kernel_rfl)) ?_ | refine and_mk ⟨_, rfl⟩ ?_ | refine ex_is _ (List.length_map _) ?_ | refine ex_is _ List.length_nil ?_ | fail "no step")
    exact ⟨rfl, TLe.rfl, rfl, rfl⟩
end
end Go.Proofs.YtkbhmcdoedmffaaDoor

namespace Go.Proofs.YtkbhmcdoedmffaaDoor
set_option linter.unusedVariables false
set_option linter.unusedSimpArgs false
open Go.RowKit
set_option maxRecDepth 100000

section
variable {L : List TokP} {m : Nat}
set_option maxHeartbeats 4000000 in
theorem line_step (hL : TokOk L) (hn : L.length ≤ 100000) (j : Nat) (hj : j ≤ 7) {x : PM Int} (hx : Up L x 0 0) (hc : ∀ s, SOk L 0 s → C1 L m 59 [c1 (di (9 - (j : Int)))] x (fun k => Ti k) s) (s : PS) (hs : SOk L 0 s) :
    C1 L m 59 [c1 (di (9 - ((j + 1 : Nat) : Int)))] (x >>= fun left => fun s => lineN L (8 - j) x (L.length - s.i + 1) left s) (fun k => Ti k) s := by
  refine C1.of fun T hT => ?_
  obtain ⟨i, xs, ts⟩ := s
  have h8 := (level_c [42]).gL
  rw [show levelV [42] = 8 by decide +kernel] at h8
  refine fn_ruleP (C := ⟨Tryd.prog, layF, Tryd.f59.ntmps, ΓL, 6, [], []⟩) layF_ok mixed Tryd.func59 rfl (by kernel_rfl) rfl rfl rfl SLe.rfl ?_
  repeat' (first | refine ex_call h8 ?_ | refine ex_i64 (9 - (j : Int)) (by omega) (by omega) (by omega) ?_ | refine ex_u64 (9 - (j : Int)) (by omega) (by omega) (by omega) ?_ | refine ex_u8 (9 - (j : Int)) (by omega) (by omega) (by omega) ?_ | refine ex_true (by first | decide | omega | assumption | (with_reducible exact rfl)) ?_ | refine ex_false (by first | decide | omega | assumption | exact (fun h => h rfl)) ?_ | refine ex_dec (fun _ => ?_) (fun _ => ?_) | refine ex_u8 _ rfl (by omega) (by omega) ?_ | refine ex_i64 _ rfl (by omega) (by omega) ?_ | refine ex_u64 _ rfl (by omega) (by omega) ?_ | refine and_mk (by first | omega | (with_reducible rfl) | (show drawOk _ _ _ = true; kernel_rfl)) ?_ | refine and_mk ⟨_, rfl⟩ ?_ | refine ex_is _ (List.length_map _) ?_ | refine ex_is _ List.length_nil ?_ | fail "no step")
  have hcon := hc ⟨i, xs, ts⟩ hs
  rcases hx1 : (x) ⟨i, xs, ts⟩ with ⟨left, ⟨i1, xs1, ts1⟩⟩ | ⟨i9, e9⟩
  rotate_left
  · obtain rfl := (and_err hx1).symm.trans hT
    first | refine ex_callM (CallsM.ren (hcon.err hx1) [0, 1, 2, 3, 4, 5] 6 rfl rfl rfl rfl) ?_ | refine ex_callM (CallsM.more0 (CallsM.ren (hcon.err hx1) [0, 1, 2, 3, 4, 5] 6 rfl rfl rfl rfl)) ?_ | refine ex_callM (CallsM.more1 (CallsM.ren (hcon.err hx1) [0, 1, 2, 3, 4, 5] 6 rfl rfl rfl rfl)) ?_ | refine ex_callM (CallsM.moreL (CallsM.ren (hcon.err hx1) [0, 1, 2, 3, 4, 5] 6 rfl rfl rfl rfl)) ?_
    first | exact ⟨⟨_, rfl, rfl⟩, rfl, rfl⟩ | exact ⟨by kernel_rfl, ⟨_, rfl, rfl⟩, rfl, rfl⟩
  replace hT := (and_ok hx1).symm.trans hT
  first | refine ex_callM (CallsM.ren (hcon.ok hx1) [0, 1, 2, 3, 4, 5] 6 rfl rfl rfl rfl) ?_ | refine ex_callM (CallsM.more0 (CallsM.ren (hcon.ok hx1) [0, 1, 2, 3, 4, 5] 6 rfl rfl rfl rfl)) ?_ | refine ex_callM (CallsM.more1 (CallsM.ren (hcon.ok hx1) [0, 1, 2, 3, 4, 5] 6 rfl rfl rfl rfl)) ?_ | refine ex_callM (CallsM.moreL (CallsM.ren (hcon.ok hx1) [0, 1, 2, 3, 4, 5] 6 rfl rfl rfl rfl)) ?_
  clear hcon
  have hs1 := (Up.ok hx hs hx1).1
  repeat' (first | refine ex_true (by first | decide | omega | assumption | (with_reducible exact rfl)) ?_ | refine ex_false (by first | decide | omega | assumption | exact (fun h => h rfl)) ?_ | refine ex_dec (fun _ => ?_) (fun _ => ?_) | refine ex_u8 _ rfl (by omega) (by omega) ?_ | refine ex_i64 _ rfl (by omega) (by omega) ?_ | refine ex_u64 _ rfl (by omega) (by omega) ?_ | refine and_mk (by first | omega | (with_reducible rfl) | (show drawOk _ _ _ = true; kernel_rfl)) ?_ | refine and_mk ⟨_, rfl⟩ ?_ | refine ex_is _ (List.length_map _) ?_ | refine ex_is _ List.length_nil ?_ | fail "no step")
  refine ex_loop (X := Nat × List EX × List TY × Int × Nat) (fun ⟨i, xs, _, left, _⟩ => ⟨[(0, .o P0), (1, Ti (9 - ((j + 1 : Nat) : Int))), (5, Ti left)], [(0, Qz L m i), (1, Fz 2 3 6 5), (4, .dead), (6, Xz xs)], 7⟩) (fun y => L.length - y.1)
    (fun ⟨i, xs, ts, left, n⟩ => SOk L 0 ⟨i, xs, ts⟩ ∧ L.length < i + n ∧ lineN L (8 - j) x n left ⟨i, xs, ts⟩ = T) (i1, xs1, ts1, left, L.length - i1 + 1) ⟨hs1, by omega, hT⟩ (SLe.of ⟨⟨rfl, rfl, rfl, trivial⟩, ⟨rfl, rfl, rfl, rfl, trivial⟩⟩) ?_
  clear hT hx1 hs1
  rintro ⟨i, xs, ts, left, n⟩ ⟨hs, hf, hT⟩
  have hi := hs.lt
  have ha := ahead_c (L := L) (m := m) i hi
  cases n with
  | zero => omega
  | succ n =>
    by_cases h2 : (tk L i).k = 2
    · have hlv := (level_c (tk L i).t).gL
      by_cases h3 : levelV (tk L i).t = 8 - j
      · have ho : opAt L (8 - j) i = true := by unfold opAt; rw [decide_eq_true h2, decide_eq_true h3]; rfl
        have hs1 := stpS hL hs (by omega)
        replace hT : (x >>= fun right => putM ⟨3, (tk L i).t, 0, [], [left, right]⟩ >>= fun k => lineN L (8 - j) x n k) ⟨i + 1, xs, ts⟩ = T := by
          rw [← hT, lineN]
          exact (if_pos ho).symm
        generalize tk L i = u at *
        first | refine ex_callM (CallsM.ren (ha) [0, 1] 7 rfl rfl rfl rfl) ?_ | refine ex_callM (CallsM.more0 (CallsM.ren (ha) [0, 1] 7 rfl rfl rfl rfl)) ?_ | refine ex_callM (CallsM.more1 (CallsM.ren (ha) [0, 1] 7 rfl rfl rfl rfl)) ?_ | refine ex_callM (CallsM.moreL (CallsM.ren (ha) [0, 1] 7 rfl rfl rfl rfl)) ?_
        repeat' (first | refine ex_true (by first | decide | omega | assumption | (with_reducible exact rfl)) ?_ | refine ex_false (by first | decide | omega | assumption | exact (fun h => h rfl)) ?_ | refine ex_dec (fun _ => ?_) (fun _ => ?_) | refine ex_u8 _ rfl (by omega) (by omega) ?_ | refine ex_i64 _ rfl (by omega) (by omega) ?_ | refine ex_u64 _ rfl (by omega) (by omega) ?_ | refine and_mk (by first | omega | (with_reducible rfl) | (show drawOk _ _ _ = true; kernel_rfl)) ?_ | refine and_mk ⟨_, rfl⟩ ?_ | refine ex_is _ (List.length_map _) ?_ | refine ex_is _ List.length_nil ?_ | fail "no step")
        first | refine ex_callM (CallsM.ren (ha) [0, 1] 7 rfl rfl rfl rfl) ?_ | refine ex_callM (CallsM.more0 (CallsM.ren (ha) [0, 1] 7 rfl rfl rfl rfl)) ?_ | refine ex_callM (CallsM.more1 (CallsM.ren (ha) [0, 1] 7 rfl rfl rfl rfl)) ?_ | refine ex_callM (CallsM.moreL (CallsM.ren (ha) [0, 1] 7 rfl rfl rfl rfl)) ?_
        repeat' (first | refine ex_call hlv ?_ | refine ex_true (by first | decide | omega | assumption | (with_reducible exact rfl)) ?_ | refine ex_false (by first | decide | omega | assumption | exact (fun h => h rfl)) ?_ | refine ex_dec (fun _ => ?_) (fun _ => ?_) | refine ex_u8 _ rfl (by omega) (by omega) ?_ | refine ex_i64 _ rfl (by omega) (by omega) ?_ | refine ex_u64 _ rfl (by omega) (by omega) ?_ | refine and_mk (by first | omega | (with_reducible rfl) | (show drawOk _ _ _ = true; kernel_rfl)) ?_ | refine and_mk ⟨_, rfl⟩ ?_ | refine ex_is _ (List.length_map _) ?_ | refine ex_is _ List.length_nil ?_ | fail "no step")
        first | refine ex_callM (CallsM.ren (ha) [0, 1] 7 rfl rfl rfl rfl) ?_ | refine ex_callM (CallsM.more0 (CallsM.ren (ha) [0, 1] 7 rfl rfl rfl rfl)) ?_ | refine ex_callM (CallsM.more1 (CallsM.ren (ha) [0, 1] 7 rfl rfl rfl rfl)) ?_ | refine ex_callM (CallsM.moreL (CallsM.ren (ha) [0, 1] 7 rfl rfl rfl rfl)) ?_
        repeat' (first | refine ex_i64 (9 - (j : Int)) (by omega) (by omega) (by omega) ?_ | refine ex_u64 (9 - (j : Int)) (by omega) (by omega) (by omega) ?_ | refine ex_u8 (9 - (j : Int)) (by omega) (by omega) (by omega) ?_ | refine ex_i64 ((i + 1 : Nat) : Int) (by omega) (by omega) (by omega) ?_ | refine ex_u64 ((i + 1 : Nat) : Int) (by omega) (by omega) (by omega) ?_ | refine ex_u8 ((i + 1 : Nat) : Int) (by omega) (by omega) (by omega) ?_ | refine ex_true (by first | decide | omega | assumption | (with_reducible exact rfl)) ?_ | refine ex_false (by first | decide | omega | assumption | exact (fun h => h rfl)) ?_ | refine ex_dec (fun _ => ?_) (fun _ => ?_) | refine ex_u8 _ rfl (by omega) (by omega) ?_ | refine ex_i64 _ rfl (by omega) (by omega) ?_ | refine ex_u64 _ rfl (by omega) (by omega) ?_ | refine and_mk (by first | omega | (with_reducible rfl) | (show drawOk _ _ _ = true; kernel_rfl)) ?_ | refine and_mk ⟨_, rfl⟩ ?_ | refine ex_is _ (List.length_map _) ?_ | refine ex_is _ List.length_nil ?_ | fail "no step")
        have hcon := hc ⟨i + 1, xs, ts⟩ (hs1.less (by omega))
        rcases hx1 : (x) ⟨i + 1, xs, ts⟩ with ⟨right, ⟨i1, xs1, ts1⟩⟩ | ⟨i9, e9⟩
        rotate_left
        · obtain rfl := (and_err hx1).symm.trans hT
          first | refine ex_callM (CallsM.ren (hcon.err hx1) [0, 1, 2, 3, 6, 5] 7 rfl rfl rfl rfl) ?_ | refine ex_callM (CallsM.more0 (CallsM.ren (hcon.err hx1) [0, 1, 2, 3, 6, 5] 7 rfl rfl rfl rfl)) ?_ | refine ex_callM (CallsM.more1 (CallsM.ren (hcon.err hx1) [0, 1, 2, 3, 6, 5] 7 rfl rfl rfl rfl)) ?_ | refine ex_callM (CallsM.moreL (CallsM.ren (hcon.err hx1) [0, 1, 2, 3, 6, 5] 7 rfl rfl rfl rfl)) ?_
          first | exact ⟨⟨_, rfl, rfl⟩, rfl, rfl⟩ | exact ⟨by kernel_rfl, ⟨_, rfl, rfl⟩, rfl, rfl⟩
        replace hT := (and_ok hx1).symm.trans hT
        first | refine ex_callM (CallsM.ren (hcon.ok hx1) [0, 1, 2, 3, 6, 5] 7 rfl rfl rfl rfl) ?_ | refine ex_callM (CallsM.more0 (CallsM.ren (hcon.ok hx1) [0, 1, 2, 3, 6, 5] 7 rfl rfl rfl rfl)) ?_ | refine ex_callM (CallsM.more1 (CallsM.ren (hcon.ok hx1) [0, 1, 2, 3, 6, 5] 7 rfl rfl rfl rfl)) ?_ | refine ex_callM (CallsM.moreL (CallsM.ren (hcon.ok hx1) [0, 1, 2, 3, 6, 5] 7 rfl rfl rfl rfl)) ?_
        clear hcon
        have hs2 := (Up.ok (hx.less (a' := 1) (b' := 1) 1 (by omega) (by omega)) hs1 hx1).1
        repeat' (first | refine ex_true (by first | decide | omega | assumption | (with_reducible exact rfl)) ?_ | refine ex_false (by first | decide | omega | assumption | exact (fun h => h rfl)) ?_ | refine ex_dec (fun _ => ?_) (fun _ => ?_) | refine ex_u8 _ rfl (by omega) (by omega) ?_ | refine ex_i64 _ rfl (by omega) (by omega) ?_ | refine ex_u64 _ rfl (by omega) (by omega) ?_ | refine and_mk (by first | omega | (with_reducible rfl) | (show drawOk _ _ _ = true; kernel_rfl)) ?_ | refine and_mk ⟨_, rfl⟩ ?_ | refine ex_is _ (List.length_map _) ?_ | refine ex_is _ List.length_nil ?_ | fail "no step")
        have hx2 := hs2.lx
        have hl2 := hs2.lt
        have hp := (put_c (L := L) (m := m) ⟨i1, xs1, ts1⟩ ⟨3, u.t, 0, [], [left, right]⟩ (by show xs1.length ≤ _; omega)).ok rfl
        first | refine ex_callM (CallsM.ren (hp) [0, 1, 2, 3, 7, 5] 9 rfl rfl rfl rfl) ?_ | refine ex_callM (CallsM.more0 (CallsM.ren (hp) [0, 1, 2, 3, 7, 5] 9 rfl rfl rfl rfl)) ?_ | refine ex_callM (CallsM.more1 (CallsM.ren (hp) [0, 1, 2, 3, 7, 5] 9 rfl rfl rfl rfl)) ?_ | refine ex_callM (CallsM.moreL (CallsM.ren (hp) [0, 1, 2, 3, 7, 5] 9 rfl rfl rfl rfl)) ?_
        repeat' (first | refine ex_true (by first | decide | omega | assumption | (with_reducible exact rfl)) ?_ | refine ex_false (by first | decide | omega | assumption | exact (fun h => h rfl)) ?_ | refine ex_dec (fun _ => ?_) (fun _ => ?_) | refine ex_u8 _ rfl (by omega) (by omega) ?_ | refine ex_i64 _ rfl (by omega) (by omega) ?_ | refine ex_u64 _ rfl (by omega) (by omega) ?_ | refine and_mk (by first | omega | (with_reducible rfl) | (show drawOk _ _ _ = true; kernel_rfl)) ?_ | refine and_mk ⟨_, rfl⟩ ?_ | refine ex_is _ (List.length_map _) ?_ | refine ex_is _ List.length_nil ?_ | fail "no step")
        have hi1 : i + 1 ≤ i1 := by have := (Up.ok hx (hs1.less (Nat.zero_le _)) hx1).2; exact this
        exact ex_round (i1, xs1 ++ [(⟨3, u.t, 0, [], [left, right]⟩ : EX)], ts1, (xs1.length : Int), n) ⟨(Up.ok (Up.put _ 0) hs2 rfl).1, by omega, hT⟩ (by show L.length - i1 < L.length - i; omega) (SLe.ren [(0, 0), (1, 1), (2, 2), (3, 3), (4, 4), (5, 5), (9, 6)] ⟨⟨rfl, rfl⟩, ⟨rfl, rfl⟩, ⟨rfl, rfl⟩, trivial⟩ ⟨⟨rfl, rfl⟩, ⟨rfl, rfl⟩, ⟨rfl, rfl⟩, ⟨rfl, rfl⟩, trivial⟩ rfl)
      · have ho : opAt L (8 - j) i = false := by unfold opAt; rw [decide_eq_false h3]; simp
        obtain rfl : PR.ok left ⟨i, xs, ts⟩ = T := by rw [← hT, lineN]; exact (if_neg (by rw [ho]; decide)).symm
        generalize tk L i = u at *
        first | refine ex_callM (CallsM.ren (ha) [0, 1] 7 rfl rfl rfl rfl) ?_ | refine ex_callM (CallsM.more0 (CallsM.ren (ha) [0, 1] 7 rfl rfl rfl rfl)) ?_ | refine ex_callM (CallsM.more1 (CallsM.ren (ha) [0, 1] 7 rfl rfl rfl rfl)) ?_ | refine ex_callM (CallsM.moreL (CallsM.ren (ha) [0, 1] 7 rfl rfl rfl rfl)) ?_
        repeat' (first | refine ex_true (by first | decide | omega | assumption | (with_reducible exact rfl)) ?_ | refine ex_false (by first | decide | omega | assumption | exact (fun h => h rfl)) ?_ | refine ex_dec (fun _ => ?_) (fun _ => ?_) | refine ex_u8 _ rfl (by omega) (by omega) ?_ | refine ex_i64 _ rfl (by omega) (by omega) ?_ | refine ex_u64 _ rfl (by omega) (by omega) ?_ | refine and_mk (by first | omega | (with_reducible rfl) | (show drawOk _ _ _ = true; kernel_rfl)) ?_ | refine and_mk ⟨_, rfl⟩ ?_ | refine ex_is _ (List.length_map _) ?_ | refine ex_is _ List.length_nil ?_ | fail "no step")
        first | refine ex_callM (CallsM.ren (ha) [0, 1] 7 rfl rfl rfl rfl) ?_ | refine ex_callM (CallsM.more0 (CallsM.ren (ha) [0, 1] 7 rfl rfl rfl rfl)) ?_ | refine ex_callM (CallsM.more1 (CallsM.ren (ha) [0, 1] 7 rfl rfl rfl rfl)) ?_ | refine ex_callM (CallsM.moreL (CallsM.ren (ha) [0, 1] 7 rfl rfl rfl rfl)) ?_
        repeat' (first | refine ex_call hlv ?_ | refine ex_true (by first | decide | omega | assumption | (with_reducible exact rfl)) ?_ | refine ex_false (by first | decide | omega | assumption | exact (fun h => h rfl)) ?_ | refine ex_dec (fun _ => ?_) (fun _ => ?_) | refine ex_u8 _ rfl (by omega) (by omega) ?_ | refine ex_i64 _ rfl (by omega) (by omega) ?_ | refine ex_u64 _ rfl (by omega) (by omega) ?_ | refine and_mk (by first | omega | (with_reducible rfl) | (show drawOk _ _ _ = true; kernel_rfl)) ?_ | refine and_mk ⟨_, rfl⟩ ?_ | refine ex_is _ (List.length_map _) ?_ | refine ex_is _ List.length_nil ?_ | fail "no step")
        exact ⟨rfl, TLe.rfl, rfl, rfl⟩
    · have ho : opAt L (8 - j) i = false := by unfold opAt; rw [decide_eq_false h2]; rfl
      obtain rfl : PR.ok left ⟨i, xs, ts⟩ = T := by rw [← hT, lineN]; exact (if_neg (by rw [ho]; decide)).symm
      generalize tk L i = u at *
      first | refine ex_callM (CallsM.ren (ha) [0, 1] 7 rfl rfl rfl rfl) ?_ | refine ex_callM (CallsM.more0 (CallsM.ren (ha) [0, 1] 7 rfl rfl rfl rfl)) ?_ | refine ex_callM (CallsM.more1 (CallsM.ren (ha) [0, 1] 7 rfl rfl rfl rfl)) ?_ | refine ex_callM (CallsM.moreL (CallsM.ren (ha) [0, 1] 7 rfl rfl rfl rfl)) ?_
      repeat' (first | refine ex_true (by first | decide | omega | assumption | (with_reducible exact rfl)) ?_ | refine ex_false (by first | decide | omega | assumption | exact (fun h => h rfl)) ?_ | refine ex_dec (fun _ => ?_) (fun _ => ?_) | refine ex_u8 _ rfl (by omega) (by omega) ?_ | refine ex_i64 _ rfl (by omega) (by omega) ?_ | refine ex_u64 _ rfl (by omega) (by omega) ?_ | refine and_mk (by first | omega | (with_reducible rfl) | (show drawOk _ _ _ = true; kernel_rfl)) ?_ | refine and_mk ⟨_, rfl⟩ ?_ | refine ex_is _ (List.length_map _) ?_ | refine ex_is _ List.length_nil ?_ | fail "no step")
      exact ⟨rfl, TLe.rfl, rfl, rfl⟩
theorem line0_c {un : PM Int} (s : PS) (hc : C1 L m 76 [] un (fun k => Ti k) s) : C1 L m 59 [c1 (di (9 - ((0 : Nat) : Int)))] un (fun k => Ti k) s := by
  refine C1.of fun T hT => ?_
  have h8 := (level_c [42]).gL
  rw [show levelV [42] = 8 by decide +kernel] at h8
  rcases T with ⟨k, s1⟩ | ⟨i, e⟩
  ·
    refine fn_ruleP (C := ⟨Tryd.prog, layF, Tryd.f59.ntmps, ΓL, 6, [], []⟩) layF_ok mixed Tryd.func59 rfl (by kernel_rfl) rfl rfl rfl SLe.rfl ?_
    repeat' (first | refine ex_call h8 ?_ | refine ex_true (by first | decide | omega | assumption | (with_reducible exact rfl)) ?_ | refine ex_false (by first | decide | omega | assumption | exact (fun h => h rfl)) ?_ | refine ex_dec (fun _ => ?_) (fun _ => ?_) | refine ex_u8 _ rfl (by omega) (by omega) ?_ | refine ex_i64 _ rfl (by omega) (by omega) ?_ | refine ex_u64 _ rfl (by omega) (by omega) ?_ | refine and_mk (by first | omega | (with_reducible rfl) | (show drawOk _ _ _ = true; kernel_rfl)) ?_ | refine and_mk ⟨_, rfl⟩ ?_ | refine ex_is _ (List.length_map _) ?_ | refine ex_is _ List.length_nil ?_ | fail "no step")
    first | refine ex_callM (CallsM.ren ((hc.ok hT)) [0, 1, 2, 3, 4, 5] 6 rfl rfl rfl rfl) ?_ | refine ex_callM (CallsM.more0 (CallsM.ren ((hc.ok hT)) [0, 1, 2, 3, 4, 5] 6 rfl rfl rfl rfl)) ?_ | refine ex_callM (CallsM.more1 (CallsM.ren ((hc.ok hT)) [0, 1, 2, 3, 4, 5] 6 rfl rfl rfl rfl)) ?_ | refine ex_callM (CallsM.moreL (CallsM.ren ((hc.ok hT)) [0, 1, 2, 3, 4, 5] 6 rfl rfl rfl rfl)) ?_
    repeat' (first | refine ex_true (by first | decide | omega | assumption | (with_reducible exact rfl)) ?_ | refine ex_false (by first | decide | omega | assumption | exact (fun h => h rfl)) ?_ | refine ex_dec (fun _ => ?_) (fun _ => ?_) | refine ex_u8 _ rfl (by omega) (by omega) ?_ | refine ex_i64 _ rfl (by omega) (by omega) ?_ | refine ex_u64 _ rfl (by omega) (by omega) ?_ | refine and_mk (by first | omega | (with_reducible rfl) | (show drawOk _ _ _ = true; kernel_rfl)) ?_ | refine and_mk ⟨_, rfl⟩ ?_ | refine ex_is _ (List.length_map _) ?_ | refine ex_is _ List.length_nil ?_ | fail "no step")
    exact ⟨rfl, TLe.rfl, rfl, rfl⟩
  ·
    refine fn_ruleP (C := ⟨Tryd.prog, layF, Tryd.f59.ntmps, ΓL, 6, [], []⟩) layF_ok mixed Tryd.func59 rfl (by kernel_rfl) rfl rfl rfl SLe.rfl ?_
    repeat' (first | refine ex_call h8 ?_ | refine ex_true (by first | decide | omega | assumption | (with_reducible exact rfl)) ?_ | refine ex_false (by first | decide | omega | assumption | exact (fun h => h rfl)) ?_ | refine ex_dec (fun _ => ?_) (fun _ => ?_) | refine ex_u8 _ rfl (by omega) (by omega) ?_ | refine ex_i64 _ rfl (by omega) (by omega) ?_ | refine ex_u64 _ rfl (by omega) (by omega) ?_ | refine and_mk (by first | omega | (with_reducible rfl) | (show drawOk _ _ _ = true; kernel_rfl)) ?_ | refine and_mk ⟨_, rfl⟩ ?_ | refine ex_is _ (List.length_map _) ?_ | refine ex_is _ List.length_nil ?_ | fail "no step")
    first | refine ex_callM (CallsM.ren ((hc.err hT)) [0, 1, 2, 3, 4, 5] 6 rfl rfl rfl rfl) ?_ | refine ex_callM (CallsM.more0 (CallsM.ren ((hc.err hT)) [0, 1, 2, 3, 4, 5] 6 rfl rfl rfl rfl)) ?_ | refine ex_callM (CallsM.more1 (CallsM.ren ((hc.err hT)) [0, 1, 2, 3, 4, 5] 6 rfl rfl rfl rfl)) ?_ | refine ex_callM (CallsM.moreL (CallsM.ren ((hc.err hT)) [0, 1, 2, 3, 4, 5] 6 rfl rfl rfl rfl)) ?_
    exact ⟨⟨_, rfl, rfl⟩, rfl, rfl⟩
theorem line_c (hL : TokOk L) (hn : L.length ≤ 100000) {un : PM Int} (hu : Up L un 0 0) (hc : ∀ s, SOk L 0 s → C1 L m 76 [] un (fun k => Ti k) s) : ∀ j : Nat, j ≤ 8 → ∀ s, SOk L 0 s → C1 L m 59 [c1 (di (9 - (j : Int)))] (lineJ L un j) (fun k => Ti k) s
  | 0, _, s, hs => line0_c s (hc s hs)
  | j + 1, hj, s, hs => line_step hL hn j (by omega) (up_lineJ hL hu j) (line_c hL hn hu hc j (by omega)) s hs
theorem expr_of {x : PM Int} (s : PS) (hc : C1 L m 59 [c1 (di (9 - ((8 : Nat) : Int)))] x (fun k => Ti k) s) : C1 L m 41 [] x (fun k => Ti k) s := by
  have hc : C1 L m 59 [c1 (di 1)] x (fun k => Ti k) s := hc
  refine C1.of fun T hT => ?_
  rcases T with ⟨k, s1⟩ | ⟨i, e⟩
  ·
    refine fn_ruleP (C := ⟨Tryd.prog, layF, Tryd.f41.ntmps, ΓL, 6, [], []⟩) layF_ok mixed Tryd.func41 rfl (by kernel_rfl) rfl rfl rfl SLe.rfl ?_
    repeat' (first | refine ex_true (by first | decide | omega | assumption | (with_reducible exact rfl)) ?_ | refine ex_false (by first | decide | omega | assumption | exact (fun h => h rfl)) ?_ | refine ex_dec (fun _ => ?_) (fun _ => ?_) | refine ex_u8 _ rfl (by omega) (by omega) ?_ | refine ex_i64 _ rfl (by omega) (by omega) ?_ | refine ex_u64 _ rfl (by omega) (by omega) ?_ | refine and_mk (by first | omega | (with_reducible rfl) | (show drawOk _ _ _ = true; kernel_rfl)) ?_ | refine and_mk ⟨_, rfl⟩ ?_ | refine ex_is _ (List.length_map _) ?_ | refine ex_is _ List.length_nil ?_ | fail "no step")
    first | refine ex_callM (CallsM.ren ((hc.ok hT)) [0, 1, 2, 3, 4, 5] 6 rfl rfl rfl rfl) ?_ | refine ex_callM (CallsM.more0 (CallsM.ren ((hc.ok hT)) [0, 1, 2, 3, 4, 5] 6 rfl rfl rfl rfl)) ?_ | refine ex_callM (CallsM.more1 (CallsM.ren ((hc.ok hT)) [0, 1, 2, 3, 4, 5] 6 rfl rfl rfl rfl)) ?_ | refine ex_callM (CallsM.moreL (CallsM.ren ((hc.ok hT)) [0, 1, 2, 3, 4, 5] 6 rfl rfl rfl rfl)) ?_
    repeat' (first | refine ex_true (by first | decide | omega | assumption | (with_reducible exact rfl)) ?_ | refine ex_false (by first | decide | omega | assumption | exact (fun h => h rfl)) ?_ | refine ex_dec (fun _ => ?_) (fun _ => ?_) | refine ex_u8 _ rfl (by omega) (by omega) ?_ | refine ex_i64 _ rfl (by omega) (by omega) ?_ | refine ex_u64 _ rfl (by omega) (by omega) ?_ | refine and_mk (by first | omega | (with_reducible rfl) | (show drawOk _ _ _ = true; kernel_rfl)) ?_ | refine and_mk ⟨_, rfl⟩ ?_ | refine ex_is _ (List.length_map _) ?_ | refine ex_is _ List.length_nil ?_ | fail "no step")
    exact ⟨rfl, TLe.rfl, rfl, rfl⟩
  ·
    refine fn_ruleP (C := ⟨Tryd.prog, layF, Tryd.f41.ntmps, ΓL, 6, [], []⟩) layF_ok mixed Tryd.func41 rfl (by kernel_rfl) rfl rfl rfl SLe.rfl ?_
    repeat' (first | refine ex_true (by first | decide | omega | assumption | (with_reducible exact rfl)) ?_ | refine ex_false (by first | decide | omega | assumption | exact (fun h => h rfl)) ?_ | refine ex_dec (fun _ => ?_) (fun _ => ?_) | refine ex_u8 _ rfl (by omega) (by omega) ?_ | refine ex_i64 _ rfl (by omega) (by omega) ?_ | refine ex_u64 _ rfl (by omega) (by omega) ?_ | refine and_mk (by first | omega | (with_reducible rfl) | (show drawOk _ _ _ = true; kernel_rfl)) ?_ | refine and_mk ⟨_, rfl⟩ ?_ | refine ex_is _ (List.length_map _) ?_ | refine ex_is _ List.length_nil ?_ | fail "no step")
    first | refine ex_callM (CallsM.ren ((hc.err hT)) [0, 1, 2, 3, 4, 5] 6 rfl rfl rfl rfl) ?_ | refine ex_callM (CallsM.more0 (CallsM.ren ((hc.err hT)) [0, 1, 2, 3, 4, 5] 6 rfl rfl rfl rfl)) ?_ | refine ex_callM (CallsM.more1 (CallsM.ren ((hc.err hT)) [0, 1, 2, 3, 4, 5] 6 rfl rfl rfl rfl)) ?_ | refine ex_callM (CallsM.moreL (CallsM.ren ((hc.err hT)) [0, 1, 2, 3, 4, 5] 6 rfl rfl rfl rfl)) ?_
    exact ⟨⟨_, rfl, rfl⟩, rfl, rfl⟩
theorem unary_c (hL : TokOk L) (hn : L.length ≤ 100000) : ∀ m, m ≤ 32 → ∀ s, SOk L 0 s → C1 L m 76 [] (unM L m) (fun k => Ti k) s
  | 0, hm, s, hs => unary_step hL hn hm (fun h => absurd rfl h) (fun h => absurd rfl h) (fun _ h => by omega) (fun _ h => by omega) s hs
  | m + 1, hm, s, hs => unary_step hL hn hm (fun _ => up_unM hL m) (fun _ => up_lineJ hL (up_unM hL m) 8)
      (fun m' h s hs => by
        obtain rfl : m = m' := by omega
        exact unary_c hL hn m (by omega) s hs)
      (fun m' h s hs => by
        obtain rfl : m = m' := by omega
        exact expr_of s (line_c hL hn (up_unM hL m) (unary_c hL hn m (by omega)) 8 (Nat.le_refl _) s hs)) s hs
theorem expr_c (hL : TokOk L) (hn : L.length ≤ 100000) (m : Nat) (hm : m ≤ 32) (s : PS) (hs : SOk L 0 s) : C1 L m 41 [] (exprM L m) (fun k => Ti k) s :=
  expr_of s (line_c hL hn (up_unM hL m) (unary_c hL hn m hm) 8 (Nat.le_refl _) s hs)
end
end Go.Proofs.YtkbhmcdoedmffaaDoor

namespace Go.Proofs.YtkbhmcdoedmffaaDoor
set_option linter.unusedVariables false
set_option linter.unusedSimpArgs false
open Go.RowKit
set_option maxRecDepth 100000

/-! ### Expressions leave the types as they are -/
def Keep {α : Type} (x : PM α) : Prop := ∀ s v s', x s = .ok v s' → s'.ts = s.ts
theorem Keep.and {α β : Type} {x : PM α} {f : α → PM β} (hx : Keep x) (hf : ∀ v, Keep (f v)) : Keep (x >>= f) := fun s v s' h => by
  have hb : PM.and x f s = .ok v s' := h
  unfold PM.and at hb
  rcases hxs : x s with ⟨u, s1⟩ | ⟨i, e⟩
  · rw [hxs] at hb; exact (hf u _ _ _ hb).trans (hx _ _ _ hxs)
  · rw [hxs] at hb; cases hb
theorem Keep.at {α : Type} {p : Nat → Bool} {x y : PM α} (hx : Keep x) (hy : Keep y) : Keep (atM p x y) := fun s v s' h => by
  unfold atM at h
  split at h
  · exact hx _ _ _ h
  · exact hy _ _ _ h
theorem Keep.pure {α : Type} (v : α) : Keep (pure v) := fun s v s' h => by cases h; rfl
theorem Keep.step : Keep stepM := fun s v s' h => by cases h; rfl
theorem Keep.put (x : EX) : Keep (putM x) := fun s v s' h => by cases h; rfl
section
variable {L : List TokP} {m : Nat}
theorem Keep.take (t : List UInt8) : Keep (takeM L t) := fun s v s' h => by unfold takeM at h; split at h <;> cases h; rfl
theorem Keep.name : Keep (nameM L) := fun s v s' h => by unfold nameM at h; split at h <;> cases h; rfl
theorem Keep.num : Keep (numberM L) := fun s v s' h => by unfold numberM at h; split at h <;> cases h; rfl
theorem Keep.enter (p : Nat → Bool) : Keep (fun s => enterM m (p s.i) s) := fun s v s' h => by
  dsimp only at h; unfold enterM at h; split at h
  · cases h
  · split at h <;> cases h; rfl
theorem Keep.fail {α : Type} (e : Nat) : Keep (failM e : PM α) := fun s v s' h => by cases h
theorem keep_un (m : Nat) {un ex : PM Int} (h1 : Keep un) (h2 : Keep ex) : Keep (unF L m un ex) := by
  unfold unF
  exact Keep.at (Keep.step.and fun _ => (Keep.enter _).and fun _ => h1.and fun _ => Keep.put _) (Keep.at (Keep.step.and fun _ => (Keep.enter _).and fun _ => h2.and fun _ => (Keep.take _).and fun _ => Keep.pure _) (Keep.at (Keep.name.and fun _ => Keep.put _) (Keep.num.and fun _ => Keep.put _)))
theorem keep_line (lv : Nat) {x : PM Int} (hx : Keep x) : ∀ n left, Keep (lineN L lv x n left)
  | 0, left => Keep.pure _
  | n + 1, left => fun s v s' h => by
    rw [lineN] at h
    change (if opAt L lv s.i = true then _ else _) = _ at h
    split at h
    · exact (Keep.step.and fun _ => hx.and fun r => (Keep.put ⟨3, (tk L s.i).t, 0, [], [left, r]⟩).and fun k => keep_line lv hx n k) _ _ _ h
    · cases h; rfl
theorem keep_lineJ {un : PM Int} (hx : Keep un) : ∀ j, Keep (lineJ L un j)
  | 0 => hx
  | j + 1 => (keep_lineJ hx j).and fun left => fun s v s' h => keep_line _ (keep_lineJ hx j) _ _ s v s' h
theorem keep_unM : ∀ m, Keep (unM L m)
  | 0 => keep_un 0 (Keep.fail _) (Keep.fail _)
  | m + 1 => keep_un _ (keep_unM m) (keep_lineJ (keep_unM m) 8)
theorem keep_expr (m : Nat) : Keep (exprM L m) := keep_lineJ (keep_unM m) 8
theorem keep_bracket (m : Nat) : Keep (bracketM L m) := (Keep.take _).and fun _ => (keep_expr m).and fun _ => (Keep.take _).and fun _ => Keep.pure _
theorem Keep.eq {α : Type} {x : PM α} (h : Keep x) {i i1 : Nat} {xs xs1 : List EX} {ts ts1 : List TY} {v : α} (hx : x ⟨i, xs, ts⟩ = .ok v ⟨i1, xs1, ts1⟩) : ts = ts1 := (h _ _ _ hx).symm
theorem keep_args : ∀ n l, Keep (argsN L m n l)
  | 0, l => Keep.pure _
  | n + 1, l => Keep.at (Keep.step.and fun _ => (show Keep (fun s => if beginsV L s.i = true then roomM l.length s else .ok () s) from fun s v s' h => by
      dsimp only at h
      split at h
      · unfold roomM at h; split at h <;> cases h; rfl
      · cases h; rfl).and fun _ => (keep_expr m).and fun x => keep_args n _) (Keep.pure _)
theorem keep_ref : Keep (refM L m) := Keep.name.and fun w => Keep.at (Keep.step.and fun _ => (keep_expr m).and fun x => (show Keep (fun s => argsN L m (L.length - s.i + 1) [x] s) from fun s v s' h => keep_args _ _ s v s' h).and fun l => (Keep.take _).and fun _ => Keep.pure _) (Keep.pure _)
/-! ### The rows under new names from the start -/
theorem start1 {i : Nat} {xs : List EX} : SLe 6 ⟨argTm 0 [P0], [(4, .dead), (0, Qz L m i), (1, Fz 2 3 6 5), (6, Xz xs)], 7⟩ ⟨argTm 0 [P0], [(0, Qz L m i), (1, Fz 2 3 4 5), (4, Xz xs)], 6⟩ :=
  SLe.kill (nx := 7) 4 (SLe.ren [(0, 0), (1, 1), (2, 2), (3, 3), (4, 6), (5, 5)] ⟨⟨rfl, rfl⟩, trivial⟩ ⟨⟨rfl, rfl⟩, ⟨rfl, rfl⟩, ⟨rfl, rfl⟩, trivial⟩ rfl)
theorem start2 {i : Nat} {xs : List EX} {ts : List TY} : SLe 6 ⟨argTm 0 [P0], [(4, .dead), (0, Qz L m i), (1, Fz 2 3 6 5), (6, Xz xs), (5, Tz ts)], 7⟩ ⟨argTm 0 [P0], [(0, Qz L m i), (1, Fz 2 3 4 5), (4, Xz xs), (5, Tz ts)], 6⟩ :=
  SLe.kill (nx := 7) 4 (SLe.ren [(0, 0), (1, 1), (2, 2), (3, 3), (4, 6), (5, 5)] ⟨⟨rfl, rfl⟩, trivial⟩ ⟨⟨rfl, rfl⟩, ⟨rfl, rfl⟩, ⟨rfl, rfl⟩, ⟨rfl, rfl⟩, trivial⟩ rfl)
theorem start2t {i : Nat} {xs : List EX} {ts : List TY} {t : TY} : SLe 6 ⟨argTm 0 [P0, gD (tyD t)], [(4, .dead), (0, Qz L m i), (1, Fz 2 3 6 5), (6, Xz xs), (5, Tz ts)], 7⟩ ⟨argTm 0 [P0, gD (tyD t)], [(0, Qz L m i), (1, Fz 2 3 4 5), (4, Xz xs), (5, Tz ts)], 6⟩ :=
  SLe.kill (nx := 7) 4 (SLe.ren [(0, 0), (1, 1), (2, 2), (3, 3), (4, 6), (5, 5)] ⟨⟨rfl, rfl⟩, ⟨rfl, rfl⟩, trivial⟩ ⟨⟨rfl, rfl⟩, ⟨rfl, rfl⟩, ⟨rfl, rfl⟩, ⟨rfl, rfl⟩, trivial⟩ rfl)
/-! ### Brackets, arrays, references -/
theorem plain_c (k : Nat) : CallsA Tryd.prog ΓL 54 [c1 (di k)] (.o (gD [di k, di 0, db false, ds ⟨#[]⟩, dnil, di (-1), di (-1), dnil])) := by
  refine fn_rule (C := ⟨Tryd.prog, layF, Tryd.f54.ntmps, ΓL, 0, [], []⟩) layF_ok mixed Tryd.func54 rfl (by kernel_rfl) rfl rfl rfl ?_
  repeat' (first | refine ex_true (by first | decide | omega | assumption | (with_reducible exact rfl)) ?_ | refine ex_false (by first | decide | omega | assumption | exact (fun h => h rfl)) ?_ | refine ex_dec (fun _ => ?_) (fun _ => ?_) | refine ex_u8 _ rfl (by omega) (by omega) ?_ | refine ex_i64 _ rfl (by omega) (by omega) ?_ | refine ex_u64 _ rfl (by omega) (by omega) ?_ | refine and_mk (by first | omega | (with_reducible rfl) | (show drawOk _ _ _ = true; kernel_rfl)) ?_ | refine and_mk ⟨_, rfl⟩ ?_ | refine ex_is _ (List.length_map _) ?_ | refine ex_is _ List.length_nil ?_ | fail "no step")
  exact TLe.rfl
theorem bracket_c (hL : TokOk L) (hn : L.length ≤ 100000) (hm : m ≤ 32) (s : PS) {c : Nat} (hs : SOk L c s) : C1 L m 55 [] (bracketM L m) (fun k => Ti k) s := by
  refine C1.of fun T hT => ?_
  unfold bracketM at hT
  obtain ⟨i, xs, ts⟩ := s
  refine fn_ruleP (C := ⟨Tryd.prog, layF, Tryd.f55.ntmps, ΓL, 6, [], []⟩) layF_ok mixed Tryd.func55 rfl (by kernel_rfl) rfl rfl rfl SLe.rfl ?_
  repeat' (first | refine ex_true (by first | decide | omega | assumption | (with_reducible exact rfl)) ?_ | refine ex_false (by first | decide | omega | assumption | exact (fun h => h rfl)) ?_ | refine ex_dec (fun _ => ?_) (fun _ => ?_) | refine ex_u8 _ rfl (by omega) (by omega) ?_ | refine ex_i64 _ rfl (by omega) (by omega) ?_ | refine ex_u64 _ rfl (by omega) (by omega) ?_ | refine and_mk (by first | omega | (with_reducible rfl) | (show drawOk _ _ _ = true; kernel_rfl)) ?_ | refine and_mk ⟨_, rfl⟩ ?_ | refine ex_is _ (List.length_map _) ?_ | refine ex_is _ List.length_nil ?_ | fail "no step")
  have hcon := take_c (m := m) ⟨i, xs, ts⟩ hs.i (by omega) t_lsq
  rcases hx78 : (takeM L t_lsq) ⟨i, xs, ts⟩ with ⟨_, s9⟩ | ⟨i9, e9⟩
  rotate_left
  · obtain rfl := (and_err hx78).symm.trans hT
    first | refine ex_callM (CallsM.ren (hcon.err hx78) [0, 1] 6 rfl rfl rfl rfl) ?_ | refine ex_callM (CallsM.more0 (CallsM.ren (hcon.err hx78) [0, 1] 6 rfl rfl rfl rfl)) ?_ | refine ex_callM (CallsM.more1 (CallsM.ren (hcon.err hx78) [0, 1] 6 rfl rfl rfl rfl)) ?_ | refine ex_callM (CallsM.moreL (CallsM.ren (hcon.err hx78) [0, 1] 6 rfl rfl rfl rfl)) ?_
    first | exact ⟨⟨_, rfl, rfl⟩, rfl, rfl⟩ | exact ⟨by kernel_rfl, ⟨_, rfl, rfl⟩, rfl, rfl⟩
  replace hT := (and_ok hx78).symm.trans hT
  first | refine ex_callM (CallsM.ren (hcon.ok hx78) [0, 1] 6 rfl rfl rfl rfl) ?_ | refine ex_callM (CallsM.more0 (CallsM.ren (hcon.ok hx78) [0, 1] 6 rfl rfl rfl rfl)) ?_ | refine ex_callM (CallsM.more1 (CallsM.ren (hcon.ok hx78) [0, 1] 6 rfl rfl rfl rfl)) ?_ | refine ex_callM (CallsM.moreL (CallsM.ren (hcon.ok hx78) [0, 1] 6 rfl rfl rfl rfl)) ?_
  clear hcon
  have hs1 := (Up.ok (Up.take hL t_lsq 0) hs hx78).1
  obtain rfl := mv_take1 hx78
  repeat' (first | refine ex_true (by first | decide | omega | assumption | (with_reducible exact rfl)) ?_ | refine ex_false (by first | decide | omega | assumption | exact (fun h => h rfl)) ?_ | refine ex_dec (fun _ => ?_) (fun _ => ?_) | refine ex_u8 _ rfl (by omega) (by omega) ?_ | refine ex_i64 _ rfl (by omega) (by omega) ?_ | refine ex_u64 _ rfl (by omega) (by omega) ?_ | refine and_mk (by first | omega | (with_reducible rfl) | (show drawOk _ _ _ = true; kernel_rfl)) ?_ | refine and_mk ⟨_, rfl⟩ ?_ | refine ex_is _ (List.length_map _) ?_ | refine ex_is _ List.length_nil ?_ | fail "no step")
  have hcon := expr_c hL hn m hm ⟨i + 1, xs, ts⟩ (hs1.less (by omega))
  rcases hx : (exprM L m) ⟨i + 1, xs, ts⟩ with ⟨k, ⟨i2, xs2, ts2⟩⟩ | ⟨i9, e9⟩
  rotate_left
  · obtain rfl := (and_err hx).symm.trans hT
    first | refine ex_callM (CallsM.ren (hcon.err hx) [0, 1, 2, 3, 4, 5] 6 rfl rfl rfl rfl) ?_ | refine ex_callM (CallsM.more0 (CallsM.ren (hcon.err hx) [0, 1, 2, 3, 4, 5] 6 rfl rfl rfl rfl)) ?_ | refine ex_callM (CallsM.more1 (CallsM.ren (hcon.err hx) [0, 1, 2, 3, 4, 5] 6 rfl rfl rfl rfl)) ?_ | refine ex_callM (CallsM.moreL (CallsM.ren (hcon.err hx) [0, 1, 2, 3, 4, 5] 6 rfl rfl rfl rfl)) ?_
    first | exact ⟨⟨_, rfl, rfl⟩, rfl, rfl⟩ | exact ⟨by kernel_rfl, ⟨_, rfl, rfl⟩, rfl, rfl⟩
  replace hT := (and_ok hx).symm.trans hT
  first | refine ex_callM (CallsM.ren (hcon.ok hx) [0, 1, 2, 3, 4, 5] 6 rfl rfl rfl rfl) ?_ | refine ex_callM (CallsM.more0 (CallsM.ren (hcon.ok hx) [0, 1, 2, 3, 4, 5] 6 rfl rfl rfl rfl)) ?_ | refine ex_callM (CallsM.more1 (CallsM.ren (hcon.ok hx) [0, 1, 2, 3, 4, 5] 6 rfl rfl rfl rfl)) ?_ | refine ex_callM (CallsM.moreL (CallsM.ren (hcon.ok hx) [0, 1, 2, 3, 4, 5] 6 rfl rfl rfl rfl)) ?_
  clear hcon
  have hs2 := (Up.ok (up_expr hL m 1) hs1 hx).1
  repeat' (first | refine ex_true (by first | decide | omega | assumption | (with_reducible exact rfl)) ?_ | refine ex_false (by first | decide | omega | assumption | exact (fun h => h rfl)) ?_ | refine ex_dec (fun _ => ?_) (fun _ => ?_) | refine ex_u8 _ rfl (by omega) (by omega) ?_ | refine ex_i64 _ rfl (by omega) (by omega) ?_ | refine ex_u64 _ rfl (by omega) (by omega) ?_ | refine and_mk (by first | omega | (with_reducible rfl) | (show drawOk _ _ _ = true; kernel_rfl)) ?_ | refine and_mk ⟨_, rfl⟩ ?_ | refine ex_is _ (List.length_map _) ?_ | refine ex_is _ List.length_nil ?_ | fail "no step")
  have hcon := take_c (m := m) ⟨i2, xs2, ts2⟩ hs2.i (by omega) t_rsq
  rcases hx82 : (takeM L t_rsq) ⟨i2, xs2, ts2⟩ with ⟨_, s9⟩ | ⟨i9, e9⟩
  rotate_left
  · obtain rfl := (and_err hx82).symm.trans hT
    first | refine ex_callM (CallsM.ren (hcon.err hx82) [0, 1] 7 rfl rfl rfl rfl) ?_ | refine ex_callM (CallsM.more0 (CallsM.ren (hcon.err hx82) [0, 1] 7 rfl rfl rfl rfl)) ?_ | refine ex_callM (CallsM.more1 (CallsM.ren (hcon.err hx82) [0, 1] 7 rfl rfl rfl rfl)) ?_ | refine ex_callM (CallsM.moreL (CallsM.ren (hcon.err hx82) [0, 1] 7 rfl rfl rfl rfl)) ?_
    first | exact ⟨⟨_, rfl, rfl⟩, rfl, rfl⟩ | exact ⟨by kernel_rfl, ⟨_, rfl, rfl⟩, rfl, rfl⟩
  replace hT := (and_ok hx82).symm.trans hT
  first | refine ex_callM (CallsM.ren (hcon.ok hx82) [0, 1] 7 rfl rfl rfl rfl) ?_ | refine ex_callM (CallsM.more0 (CallsM.ren (hcon.ok hx82) [0, 1] 7 rfl rfl rfl rfl)) ?_ | refine ex_callM (CallsM.more1 (CallsM.ren (hcon.ok hx82) [0, 1] 7 rfl rfl rfl rfl)) ?_ | refine ex_callM (CallsM.moreL (CallsM.ren (hcon.ok hx82) [0, 1] 7 rfl rfl rfl rfl)) ?_
  clear hcon
  have hs3 := (Up.ok (Up.take hL t_rsq 0) hs2 hx82).1
  obtain rfl := mv_take1 hx82
  obtain rfl : PR.ok k ⟨i2 + 1, xs2, ts2⟩ = T := hT
  repeat' (first | refine ex_true (by first | decide | omega | assumption | (with_reducible exact rfl)) ?_ | refine ex_false (by first | decide | omega | assumption | exact (fun h => h rfl)) ?_ | refine ex_dec (fun _ => ?_) (fun _ => ?_) | refine ex_u8 _ rfl (by omega) (by omega) ?_ | refine ex_i64 _ rfl (by omega) (by omega) ?_ | refine ex_u64 _ rfl (by omega) (by omega) ?_ | refine and_mk (by first | omega | (with_reducible rfl) | (show drawOk _ _ _ = true; kernel_rfl)) ?_ | refine and_mk ⟨_, rfl⟩ ?_ | refine ex_is _ (List.length_map _) ?_ | refine ex_is _ List.length_nil ?_ | fail "no step")
  exact ⟨rfl, TLe.rfl, rfl, rfl⟩
/-- A type without arguments and cases is laid. -/
theorem layn_c (i : Nat) (ts : List TY) (k size : Nat) (little : Bool) (w : List UInt8) (x n : Int) (hx : ts.length ≤ 1000000) : CallsM Tryd.prog ΓL 57 [(0, Qz L m i), (1, Fz 2 3 4 5), (5, Tz ts)] 6 [P0, gD [di k, di size, db little, ds (bs w), dnil, di x, di n, dnil]] (Ti ts.length) [(0, Qz L m i), (1, Fz 2 3 4 6), (5, .dead)] [Tz (ts ++ [⟨k, size, little, w, [], x, n, []⟩])] :=
  (lay_c (L := L) (m := m) ⟨i, [], ts⟩ ⟨k, size, little, w, [], x, n, []⟩ hx).argsLe (.cons T1Le.rfl (.cons (T1Le.g (.cons DLe.rfl (.cons DLe.rfl (.cons DLe.rfl (.cons DLe.rfl (.cons DLe.nil (.cons DLe.rfl (.cons DLe.rfl (.cons DLe.nil .nil))))))))) .nil))
set_option maxHeartbeats 4000000 in
theorem array_c (hL : TokOk L) (hn : L.length ≤ 100000) (hm : m ≤ 32) (t : TY) (s : PS) {c : Nat} (hs : SOk L (c + 1) s) : C2 L m 50 [gD (tyD t)] (arrayM L m t) (fun k => Ti k) s := by
  refine C2.of fun T hT => ?_
  unfold arrayM at hT
  obtain ⟨i, xs, ts⟩ := s
  have hi := hs.lt
  have hxl := hs.lx
  have htl := hs.lt'
  replace hT : atM (isV L · t_lsq) (bracketM L m >>= fun x => layM { tyP 5 with ex := x, inn := ts.length }) (pure (ts.length : Int)) ⟨i, xs, ts ++ [t]⟩ = T := hT
  have hq : SOk L c ⟨i, xs, ts ++ [t]⟩ := (Up.ok (Up.lay t 0) hs rfl).1
  have hl := lay_c (L := L) (m := m) ⟨i, xs, ts⟩ t (by show ts.length ≤ _; omega)
  refine fn_ruleP (C := ⟨Tryd.prog, layF, Tryd.f50.ntmps, ΓL, 6, [], []⟩) layF_ok mixed Tryd.func50 rfl (by kernel_rfl) rfl rfl rfl start2t ?_
  repeat' (first | refine ex_true (by first | decide | omega | assumption | (with_reducible exact rfl)) ?_ | refine ex_false (by first | decide | omega | assumption | exact (fun h => h rfl)) ?_ | refine ex_dec (fun _ => ?_) (fun _ => ?_) | refine ex_u8 _ rfl (by omega) (by omega) ?_ | refine ex_i64 _ rfl (by omega) (by omega) ?_ | refine ex_u64 _ rfl (by omega) (by omega) ?_ | refine and_mk (by first | omega | (with_reducible rfl) | (show drawOk _ _ _ = true; kernel_rfl)) ?_ | refine and_mk ⟨_, rfl⟩ ?_ | refine ex_is _ (List.length_map _) ?_ | refine ex_is _ List.length_nil ?_ | fail "no step")
  first | refine ex_callM (CallsM.ren (hl) [0, 1, 2, 3, 6, 5] 8 rfl rfl rfl rfl) ?_ | refine ex_callM (CallsM.more0 (CallsM.ren (hl) [0, 1, 2, 3, 6, 5] 8 rfl rfl rfl rfl)) ?_ | refine ex_callM (CallsM.more1 (CallsM.ren (hl) [0, 1, 2, 3, 6, 5] 8 rfl rfl rfl rfl)) ?_ | refine ex_callM (CallsM.moreL (CallsM.ren (hl) [0, 1, 2, 3, 6, 5] 8 rfl rfl rfl rfl)) ?_
  repeat' (first | refine ex_true (by first | decide | omega | assumption | (with_reducible exact rfl)) ?_ | refine ex_false (by first | decide | omega | assumption | exact (fun h => h rfl)) ?_ | refine ex_dec (fun _ => ?_) (fun _ => ?_) | refine ex_u8 _ rfl (by omega) (by omega) ?_ | refine ex_i64 _ rfl (by omega) (by omega) ?_ | refine ex_u64 _ rfl (by omega) (by omega) ?_ | refine and_mk (by first | omega | (with_reducible rfl) | (show drawOk _ _ _ = true; kernel_rfl)) ?_ | refine and_mk ⟨_, rfl⟩ ?_ | refine ex_is _ (List.length_map _) ?_ | refine ex_is _ List.length_nil ?_ | fail "no step")
  rcases hv : isV L i t_lsq with _ | _
  · replace hT := atn hT hv
    obtain rfl : PR.ok (ts.length : Int) ⟨i, xs, ts ++ [t]⟩ = T := hT
    have hi := is_c (m := m) i hi t_lsq
    rw [hv] at hi
    first | refine ex_callM (CallsM.ren (hi) [0, 1] 9 rfl rfl rfl rfl) ?_ | refine ex_callM (CallsM.more0 (CallsM.ren (hi) [0, 1] 9 rfl rfl rfl rfl)) ?_ | refine ex_callM (CallsM.more1 (CallsM.ren (hi) [0, 1] 9 rfl rfl rfl rfl)) ?_ | refine ex_callM (CallsM.moreL (CallsM.ren (hi) [0, 1] 9 rfl rfl rfl rfl)) ?_
    repeat' (first | refine ex_true (by first | decide | omega | assumption | (with_reducible exact rfl)) ?_ | refine ex_false (by first | decide | omega | assumption | exact (fun h => h rfl)) ?_ | refine ex_dec (fun _ => ?_) (fun _ => ?_) | refine ex_u8 _ rfl (by omega) (by omega) ?_ | refine ex_i64 _ rfl (by omega) (by omega) ?_ | refine ex_u64 _ rfl (by omega) (by omega) ?_ | refine and_mk (by first | omega | (with_reducible rfl) | (show drawOk _ _ _ = true; kernel_rfl)) ?_ | refine and_mk ⟨_, rfl⟩ ?_ | refine ex_is _ (List.length_map _) ?_ | refine ex_is _ List.length_nil ?_ | fail "no step")
    exact ⟨rfl, TLe.rfl, rfl, rfl⟩
  · replace hT := aty hT hv
    have hi := is_c (m := m) i hi t_lsq
    rw [hv] at hi
    first | refine ex_callM (CallsM.ren (hi) [0, 1] 9 rfl rfl rfl rfl) ?_ | refine ex_callM (CallsM.more0 (CallsM.ren (hi) [0, 1] 9 rfl rfl rfl rfl)) ?_ | refine ex_callM (CallsM.more1 (CallsM.ren (hi) [0, 1] 9 rfl rfl rfl rfl)) ?_ | refine ex_callM (CallsM.moreL (CallsM.ren (hi) [0, 1] 9 rfl rfl rfl rfl)) ?_
    repeat' (first | refine ex_call (plain_c 5) ?_ | refine ex_true (by first | decide | omega | assumption | (with_reducible exact rfl)) ?_ | refine ex_false (by first | decide | omega | assumption | exact (fun h => h rfl)) ?_ | refine ex_dec (fun _ => ?_) (fun _ => ?_) | refine ex_u8 _ rfl (by omega) (by omega) ?_ | refine ex_i64 _ rfl (by omega) (by omega) ?_ | refine ex_u64 _ rfl (by omega) (by omega) ?_ | refine and_mk (by first | omega | (with_reducible rfl) | (show drawOk _ _ _ = true; kernel_rfl)) ?_ | refine and_mk ⟨_, rfl⟩ ?_ | refine ex_is _ (List.length_map _) ?_ | refine ex_is _ List.length_nil ?_ | fail "no step")
    have hcon := bracket_c hL hn hm ⟨i, xs, ts ++ [t]⟩ hq
    rcases hx : (bracketM L m) ⟨i, xs, ts ++ [t]⟩ with ⟨x, ⟨i2, xs2, ts2⟩⟩ | ⟨i9, e9⟩
    rotate_left
    · obtain rfl := (and_err hx).symm.trans hT
      first | refine ex_callM (CallsM.ren (hcon.err hx) [0, 1, 2, 3, 6, 8] 10 rfl rfl rfl rfl) ?_ | refine ex_callM (CallsM.more0 (CallsM.ren (hcon.err hx) [0, 1, 2, 3, 6, 8] 10 rfl rfl rfl rfl)) ?_ | refine ex_callM (CallsM.more1 (CallsM.ren (hcon.err hx) [0, 1, 2, 3, 6, 8] 10 rfl rfl rfl rfl)) ?_ | refine ex_callM (CallsM.moreL (CallsM.ren (hcon.err hx) [0, 1, 2, 3, 6, 8] 10 rfl rfl rfl rfl)) ?_
      first | exact ⟨⟨_, rfl, rfl⟩, rfl, rfl⟩ | exact ⟨by kernel_rfl, ⟨_, rfl, rfl⟩, rfl, rfl⟩
    replace hT := (and_ok hx).symm.trans hT
    first | refine ex_callM (CallsM.ren (hcon.ok hx) [0, 1, 2, 3, 6, 8] 10 rfl rfl rfl rfl) ?_ | refine ex_callM (CallsM.more0 (CallsM.ren (hcon.ok hx) [0, 1, 2, 3, 6, 8] 10 rfl rfl rfl rfl)) ?_ | refine ex_callM (CallsM.more1 (CallsM.ren (hcon.ok hx) [0, 1, 2, 3, 6, 8] 10 rfl rfl rfl rfl)) ?_ | refine ex_callM (CallsM.moreL (CallsM.ren (hcon.ok hx) [0, 1, 2, 3, 6, 8] 10 rfl rfl rfl rfl)) ?_
    clear hcon
    have hs2 := (Up.ok (up_bracket hL m 0) hq hx).1
    obtain rfl := (keep_bracket m).eq hx
    have hl2 := hs2.lt'
    have hi2 := hs2.lt
    obtain rfl : PR.ok ((ts ++ [t]).length : Int) ⟨i2, xs2, (ts ++ [t]) ++ [(⟨5, 0, false, [], [], x, ts.length, []⟩ : TY)]⟩ = T := hT
    repeat' (first | refine ex_true (by first | decide | omega | assumption | (with_reducible exact rfl)) ?_ | refine ex_false (by first | decide | omega | assumption | exact (fun h => h rfl)) ?_ | refine ex_dec (fun _ => ?_) (fun _ => ?_) | refine ex_u8 _ rfl (by omega) (by omega) ?_ | refine ex_i64 _ rfl (by omega) (by omega) ?_ | refine ex_u64 _ rfl (by omega) (by omega) ?_ | refine and_mk (by first | omega | (with_reducible rfl) | (show drawOk _ _ _ = true; kernel_rfl)) ?_ | refine and_mk ⟨_, rfl⟩ ?_ | refine ex_is _ (List.length_map _) ?_ | refine ex_is _ List.length_nil ?_ | fail "no step")
    first | refine ex_callM (CallsM.ren ((layn_c (L := L) (m := m) i2 (ts ++ [t]) 5 0 false [] x ts.length (by omega))) [0, 1, 2, 3, 10, 8] 11 rfl rfl rfl rfl) ?_ | refine ex_callM (CallsM.more0 (CallsM.ren ((layn_c (L := L) (m := m) i2 (ts ++ [t]) 5 0 false [] x ts.length (by omega))) [0, 1, 2, 3, 10, 8] 11 rfl rfl rfl rfl)) ?_ | refine ex_callM (CallsM.more1 (CallsM.ren ((layn_c (L := L) (m := m) i2 (ts ++ [t]) 5 0 false [] x ts.length (by omega))) [0, 1, 2, 3, 10, 8] 11 rfl rfl rfl rfl)) ?_ | refine ex_callM (CallsM.moreL (CallsM.ren ((layn_c (L := L) (m := m) i2 (ts ++ [t]) 5 0 false [] x ts.length (by omega))) [0, 1, 2, 3, 10, 8] 11 rfl rfl rfl rfl)) ?_
    repeat' (first | refine ex_true (by first | decide | omega | assumption | (with_reducible exact rfl)) ?_ | refine ex_false (by first | decide | omega | assumption | exact (fun h => h rfl)) ?_ | refine ex_dec (fun _ => ?_) (fun _ => ?_) | refine ex_u8 _ rfl (by omega) (by omega) ?_ | refine ex_i64 _ rfl (by omega) (by omega) ?_ | refine ex_u64 _ rfl (by omega) (by omega) ?_ | refine and_mk (by first | omega | (with_reducible rfl) | (show drawOk _ _ _ = true; kernel_rfl)) ?_ | refine and_mk ⟨_, rfl⟩ ?_ | refine ex_is _ (List.length_map _) ?_ | refine ex_is _ List.length_nil ?_ | fail "no step")
    exact ⟨rfl, TLe.rfl, rfl, rfl⟩
end
end Go.Proofs.YtkbhmcdoedmffaaDoor

namespace Go.Proofs.YtkbhmcdoedmffaaDoor
set_option linter.unusedVariables false
set_option linter.unusedSimpArgs false
open Go.RowKit
set_option maxRecDepth 100000

section
variable {L : List TokP} {m : Nat}
section
variable {α β γ : Type} {x y : PM α} {g : α → PM β} {f : β → PM γ} {F : α → PM β} {p : Nat → Bool} {i : Nat} {xs : List EX} {ts : List TY}
theorem asc {s : PS} {T : PR γ} (h : ((x >>= g) >>= f) s = T) : (x >>= fun v => g v >>= f) s = T := by
  rw [← h]
  show PM.and x (fun v => PM.and (g v) f) s = PM.and (PM.and x g) f s
  unfold PM.and
  cases x s <;> rfl
theorem atyB {T : PR β} (hT : (atM p x y >>= F) ⟨i, xs, ts⟩ = T) (h : p i = true) : (x >>= F) ⟨i, xs, ts⟩ = T := by
  rw [← hT]
  show PM.and _ _ _ = PM.and _ _ _
  unfold PM.and
  rw [at_pos (s := ⟨i, xs, ts⟩) h]
theorem atnB {T : PR β} (hT : (atM p x y >>= F) ⟨i, xs, ts⟩ = T) (h : p i = false) : (y >>= F) ⟨i, xs, ts⟩ = T := by
  rw [← hT]
  show PM.and _ _ _ = PM.and _ _ _
  unfold PM.and
  rw [at_neg (s := ⟨i, xs, ts⟩) h]
theorem pureT {v : α} {s : PS} {T : PR β} (hT : ((pure v : PM α) >>= F) s = T) : F v s = T := hT
theorem rmT {n : Nat} {F : Unit → PM β} {T : PR β} (hT : ((fun s => if p s.i = true then roomM n s else .ok () s) >>= F) ⟨i, xs, ts⟩ = T) (h : p i = true) : (roomM n >>= F) ⟨i, xs, ts⟩ = T := by
  rw [← hT]
  show PM.and _ _ _ = PM.and _ _ _
  unfold PM.and
  dsimp only
  rw [if_pos h]
theorem rmF {n : Nat} {F : Unit → PM β} {T : PR β} (hT : ((fun s => if p s.i = true then roomM n s else .ok () s) >>= F) ⟨i, xs, ts⟩ = T) (h : p i = false) : F () ⟨i, xs, ts⟩ = T := by
  rw [← hT]
  show _ = PM.and _ _ _
  unfold PM.and
  dsimp only
  rw [if_neg (by rw [h]; decide)]
end
theorem tyLe {k size : Nat} {little : Bool} {w : List UInt8} {x n : Int} : TLe (.o (gD [di k, di size, db little, ds (bs w), dnil, di x, di n, dnil])) (.o (gD (tyD ⟨k, size, little, w, [], x, n, []⟩))) :=
  TLe.o (T1Le.g (.cons DLe.rfl (.cons DLe.rfl (.cons DLe.rfl (.cons DLe.rfl (.cons DLe.nil (.cons DLe.rfl (.cons DLe.rfl (.cons DLe.nil .nil)))))))))
theorem tyLe1 {k size : Nat} {little : Bool} {w : List UInt8} {x n : Int} {l : List Int} : TLe (.o (gD [di k, di size, db little, ds (bs w), intsD l, di x, di n, dnil])) (.o (gD (tyD ⟨k, size, little, w, l, x, n, []⟩))) :=
  TLe.o (T1Le.g (.cons DLe.rfl (.cons DLe.rfl (.cons DLe.rfl (.cons DLe.rfl (.cons DLe.rfl (.cons DLe.rfl (.cons DLe.rfl (.cons DLe.nil .nil)))))))))
set_option maxHeartbeats 4000000 in
theorem ref_c (hL : TokOk L) (hn : L.length ≤ 100000) (hm : m ≤ 32) (s : PS) {c : Nat} (hs : SOk L c s) : C1 L m 51 [] (refM L m) (fun t => .o (gD (tyD t))) s := by
  refine C1.of fun T hT => ?_
  unfold refM at hT
  obtain ⟨i, xs, ts⟩ := s
  refine fn_ruleP (C := ⟨Tryd.prog, layF, Tryd.f51.ntmps, ΓL, 6, [], []⟩) layF_ok mixed Tryd.func51 rfl (by kernel_rfl) rfl rfl rfl start1 ?_
  repeat' (first | refine ex_call (plain_c 10) ?_ | refine ex_true (by first | decide | omega | assumption | (with_reducible exact rfl)) ?_ | refine ex_false (by first | decide | omega | assumption | exact (fun h => h rfl)) ?_ | refine ex_dec (fun _ => ?_) (fun _ => ?_) | refine ex_u8 _ rfl (by omega) (by omega) ?_ | refine ex_i64 _ rfl (by omega) (by omega) ?_ | refine ex_u64 _ rfl (by omega) (by omega) ?_ | refine and_mk (by first | omega | (with_reducible rfl) | (show drawOk _ _ _ = true; kernel_rfl)) ?_ | refine and_mk ⟨_, rfl⟩ ?_ | refine ex_is _ (List.length_map _) ?_ | refine ex_is _ List.length_nil ?_ | fail "no step")
  have hcon := name_c (m := m) ⟨i, xs, ts⟩ hs.i (by omega)
  rcases hx50 : (nameM L) ⟨i, xs, ts⟩ with ⟨w, s9⟩ | ⟨i9, e9⟩
  rotate_left
  · obtain rfl := (and_err hx50).symm.trans hT
    first | refine ex_callM (CallsM.ren (hcon.err hx50) [0, 1] 9 rfl rfl rfl rfl) ?_ | refine ex_callM (CallsM.more0 (CallsM.ren (hcon.err hx50) [0, 1] 9 rfl rfl rfl rfl)) ?_ | refine ex_callM (CallsM.more1 (CallsM.ren (hcon.err hx50) [0, 1] 9 rfl rfl rfl rfl)) ?_ | refine ex_callM (CallsM.moreL (CallsM.ren (hcon.err hx50) [0, 1] 9 rfl rfl rfl rfl)) ?_
    first | exact ⟨⟨_, rfl, rfl⟩, rfl, rfl⟩ | exact ⟨by kernel_rfl, ⟨_, rfl, rfl⟩, rfl, rfl⟩
  replace hT := (and_ok hx50).symm.trans hT
  first | refine ex_callM (CallsM.ren (hcon.ok hx50) [0, 1] 9 rfl rfl rfl rfl) ?_ | refine ex_callM (CallsM.more0 (CallsM.ren (hcon.ok hx50) [0, 1] 9 rfl rfl rfl rfl)) ?_ | refine ex_callM (CallsM.more1 (CallsM.ren (hcon.ok hx50) [0, 1] 9 rfl rfl rfl rfl)) ?_ | refine ex_callM (CallsM.moreL (CallsM.ren (hcon.ok hx50) [0, 1] 9 rfl rfl rfl rfl)) ?_
  clear hcon
  have hs1 := (Up.ok (Up.name hL 0) hs hx50).1
  obtain rfl := mv_name1 hx50
  repeat' (first | refine ex_true (by first | decide | omega | assumption | (with_reducible exact rfl)) ?_ | refine ex_false (by first | decide | omega | assumption | exact (fun h => h rfl)) ?_ | refine ex_dec (fun _ => ?_) (fun _ => ?_) | refine ex_u8 _ rfl (by omega) (by omega) ?_ | refine ex_i64 _ rfl (by omega) (by omega) ?_ | refine ex_u64 _ rfl (by omega) (by omega) ?_ | refine and_mk (by first | omega | (with_reducible rfl) | (show drawOk _ _ _ = true; kernel_rfl)) ?_ | refine and_mk ⟨_, rfl⟩ ?_ | refine ex_is _ (List.length_map _) ?_ | refine ex_is _ List.length_nil ?_ | fail "no step")
  rcases hv : isV L (i + 1) t_lpar with _ | _
  · replace hT := atn hT hv
    obtain rfl : PR.ok ({ tyP 10 with nm := w } : TY) ⟨i + 1, xs, ts⟩ = T := hT
    first | refine ex_callM (CallsM.ren ((may_no (i + 1) hs1.lt _ hv)) [0, 1] 9 rfl rfl rfl rfl) ?_ | refine ex_callM (CallsM.more0 (CallsM.ren ((may_no (i + 1) hs1.lt _ hv)) [0, 1] 9 rfl rfl rfl rfl)) ?_ | refine ex_callM (CallsM.more1 (CallsM.ren ((may_no (i + 1) hs1.lt _ hv)) [0, 1] 9 rfl rfl rfl rfl)) ?_ | refine ex_callM (CallsM.moreL (CallsM.ren ((may_no (i + 1) hs1.lt _ hv)) [0, 1] 9 rfl rfl rfl rfl)) ?_
    repeat' (first | refine ex_true (by first | decide | omega | assumption | (with_reducible exact rfl)) ?_ | refine ex_false (by first | decide | omega | assumption | exact (fun h => h rfl)) ?_ | refine ex_dec (fun _ => ?_) (fun _ => ?_) | refine ex_u8 _ rfl (by omega) (by omega) ?_ | refine ex_i64 _ rfl (by omega) (by omega) ?_ | refine ex_u64 _ rfl (by omega) (by omega) ?_ | refine and_mk (by first | omega | (with_reducible rfl) | (show drawOk _ _ _ = true; kernel_rfl)) ?_ | refine and_mk ⟨_, rfl⟩ ?_ | refine ex_is _ (List.length_map _) ?_ | refine ex_is _ List.length_nil ?_ | fail "no step")
    exact ⟨rfl, tyLe, rfl, rfl⟩
  · replace hT := stp1 (aty hT hv)
    have hs2 := stpS hL hs1 (isV_k hv)
    first | refine ex_callM (CallsM.ren ((may_yes (i + 1) hs1.lt (by omega) _ hv)) [0, 1] 9 rfl rfl rfl rfl) ?_ | refine ex_callM (CallsM.more0 (CallsM.ren ((may_yes (i + 1) hs1.lt (by omega) _ hv)) [0, 1] 9 rfl rfl rfl rfl)) ?_ | refine ex_callM (CallsM.more1 (CallsM.ren ((may_yes (i + 1) hs1.lt (by omega) _ hv)) [0, 1] 9 rfl rfl rfl rfl)) ?_ | refine ex_callM (CallsM.moreL (CallsM.ren ((may_yes (i + 1) hs1.lt (by omega) _ hv)) [0, 1] 9 rfl rfl rfl rfl)) ?_
    repeat' (first | refine ex_true (by first | decide | omega | assumption | (with_reducible exact rfl)) ?_ | refine ex_false (by first | decide | omega | assumption | exact (fun h => h rfl)) ?_ | refine ex_dec (fun _ => ?_) (fun _ => ?_) | refine ex_u8 _ rfl (by omega) (by omega) ?_ | refine ex_i64 _ rfl (by omega) (by omega) ?_ | refine ex_u64 _ rfl (by omega) (by omega) ?_ | refine and_mk (by first | omega | (with_reducible rfl) | (show drawOk _ _ _ = true; kernel_rfl)) ?_ | refine and_mk ⟨_, rfl⟩ ?_ | refine ex_is _ (List.length_map _) ?_ | refine ex_is _ List.length_nil ?_ | fail "no step")
    have hcon := expr_c hL hn m hm ⟨i + 1 + 1, xs, ts⟩ (hs2.less (by omega))
    rcases hx : (exprM L m) ⟨i + 1 + 1, xs, ts⟩ with ⟨x, ⟨i2, xs2, ts2⟩⟩ | ⟨i9, e9⟩
    rotate_left
    · obtain rfl := (and_err hx).symm.trans hT
      first | refine ex_callM (CallsM.ren (hcon.err hx) [0, 1, 2, 3, 6, 5] 9 rfl rfl rfl rfl) ?_ | refine ex_callM (CallsM.more0 (CallsM.ren (hcon.err hx) [0, 1, 2, 3, 6, 5] 9 rfl rfl rfl rfl)) ?_ | refine ex_callM (CallsM.more1 (CallsM.ren (hcon.err hx) [0, 1, 2, 3, 6, 5] 9 rfl rfl rfl rfl)) ?_ | refine ex_callM (CallsM.moreL (CallsM.ren (hcon.err hx) [0, 1, 2, 3, 6, 5] 9 rfl rfl rfl rfl)) ?_
      first | exact ⟨⟨_, rfl, rfl⟩, rfl, rfl⟩ | exact ⟨by kernel_rfl, ⟨_, rfl, rfl⟩, rfl, rfl⟩
    replace hT := (and_ok hx).symm.trans hT
    first | refine ex_callM (CallsM.ren (hcon.ok hx) [0, 1, 2, 3, 6, 5] 9 rfl rfl rfl rfl) ?_ | refine ex_callM (CallsM.more0 (CallsM.ren (hcon.ok hx) [0, 1, 2, 3, 6, 5] 9 rfl rfl rfl rfl)) ?_ | refine ex_callM (CallsM.more1 (CallsM.ren (hcon.ok hx) [0, 1, 2, 3, 6, 5] 9 rfl rfl rfl rfl)) ?_ | refine ex_callM (CallsM.moreL (CallsM.ren (hcon.ok hx) [0, 1, 2, 3, 6, 5] 9 rfl rfl rfl rfl)) ?_
    clear hcon
    have hs3 := (Up.ok (up_expr hL m 2) hs2 hx).1
    repeat' (first | refine ex_true (by first | decide | omega | assumption | (with_reducible exact rfl)) ?_ | refine ex_false (by first | decide | omega | assumption | exact (fun h => h rfl)) ?_ | refine ex_dec (fun _ => ?_) (fun _ => ?_) | refine ex_u8 _ rfl (by omega) (by omega) ?_ | refine ex_i64 _ rfl (by omega) (by omega) ?_ | refine ex_u64 _ rfl (by omega) (by omega) ?_ | refine and_mk (by first | omega | (with_reducible rfl) | (show drawOk _ _ _ = true; kernel_rfl)) ?_ | refine and_mk ⟨_, rfl⟩ ?_ | refine ex_is _ (List.length_map _) ?_ | refine ex_is _ List.length_nil ?_ | fail "no step")
    refine ex_app (0) (1) 1000 (by first | rfl | (simp; done) | (simp; omega)) (by first | rfl | (simp; done) | (simp; omega)) rfl (by omega) ?_
    refine ex_is (List.map (fun k : Int => [di k]) [x]) (rfl) ?_
    repeat' (first | refine ex_true (by first | decide | omega | assumption | (with_reducible exact rfl)) ?_ | refine ex_false (by first | decide | omega | assumption | exact (fun h => h rfl)) ?_ | refine ex_dec (fun _ => ?_) (fun _ => ?_) | refine ex_u8 _ rfl (by omega) (by omega) ?_ | refine ex_i64 _ rfl (by omega) (by omega) ?_ | refine ex_u64 _ rfl (by omega) (by omega) ?_ | refine and_mk (by first | omega | (with_reducible rfl) | (show drawOk _ _ _ = true; kernel_rfl)) ?_ | refine and_mk ⟨_, rfl⟩ ?_ | refine ex_is _ (List.length_map _) ?_ | refine ex_is _ List.length_nil ?_ | fail "no step")
    replace hT : (argsN L m (L.length - i2 + 1) [x] >>= fun l => takeM L t_rpar >>= fun _ => pure ({ tyP 10 with nm := w, args := l } : TY)) ⟨i2, xs2, ts2⟩ = T := hT
    refine ex_loop (X := Nat × List EX × List TY × List Int × Nat) (fun ⟨i, xs, _, l, _⟩ => ⟨[(0, .o P0), (2, .o (.c (.ptr 7 0))), (3, .o (.c (.ptr 8 0)))], [(0, Qz L m i), (1, Fz 2 3 9 5), (4, .dead), (7, .obj [.d (di 0), .d (di 0), .d (db false), .d (ds ⟨#[]⟩), .d dnil, .d (di 0), .d (di 0), .d dnil]), (8, .obj [.d (di 10), .d (di 0), .d (db false), .d (ds (bs w)), .row 11, .d (di (-1)), .d (di (-1)), .d dnil]), (9, Xz xs), (11, .row 1 3 (l.map fun k => [di k]))], 12⟩) (fun y => L.length - y.1)
      (fun ⟨i, xs, ts, l, n⟩ => SOk L 2 ⟨i, xs, ts⟩ ∧ L.length < i + n ∧ l.length ≤ i ∧ (argsN L m n l >>= fun l => takeM L t_rpar >>= fun _ => pure ({ tyP 10 with nm := w, args := l } : TY)) ⟨i, xs, ts⟩ = T) (i2, xs2, ts2, [x], L.length - i2 + 1) ⟨hs3.less (by omega), by omega, by have := hs3.lx; show 1 ≤ i2; omega, hT⟩ (SLe.of ⟨⟨rfl, rfl, rfl, trivial⟩, ⟨rfl, rfl, rfl, rfl, rfl, rfl, rfl, trivial⟩⟩) ?_
    clear hT hx hs3 hs2 hs1 hs hv
    rintro ⟨i, xs, ts, l, n⟩ ⟨hs, hf, hll, hT⟩
    have hi := hs.lt
    cases n with
    | zero => omega
    | succ n =>
      rw [argsN] at hT
      rcases hv : isV L i t_comma with _ | _
      · replace hT := pureT (atnB hT hv)
        first | refine ex_callM (CallsM.ren ((may_no i hi _ hv)) [0, 1] 12 rfl rfl rfl rfl) ?_ | refine ex_callM (CallsM.more0 (CallsM.ren ((may_no i hi _ hv)) [0, 1] 12 rfl rfl rfl rfl)) ?_ | refine ex_callM (CallsM.more1 (CallsM.ren ((may_no i hi _ hv)) [0, 1] 12 rfl rfl rfl rfl)) ?_ | refine ex_callM (CallsM.moreL (CallsM.ren ((may_no i hi _ hv)) [0, 1] 12 rfl rfl rfl rfl)) ?_
        repeat' (first | refine ex_true (by first | decide | omega | assumption | (with_reducible exact rfl)) ?_ | refine ex_false (by first | decide | omega | assumption | exact (fun h => h rfl)) ?_ | refine ex_dec (fun _ => ?_) (fun _ => ?_) | refine ex_u8 _ rfl (by omega) (by omega) ?_ | refine ex_i64 _ rfl (by omega) (by omega) ?_ | refine ex_u64 _ rfl (by omega) (by omega) ?_ | refine and_mk (by first | omega | (with_reducible rfl) | (show drawOk _ _ _ = true; kernel_rfl)) ?_ | refine and_mk ⟨_, rfl⟩ ?_ | refine ex_is _ (List.length_map _) ?_ | refine ex_is _ List.length_nil ?_ | fail "no step")
        have hcon := take_c (m := m) ⟨i, xs, ts⟩ hs.i (by omega) t_rpar
        rcases hx81 : (takeM L t_rpar) ⟨i, xs, ts⟩ with ⟨_, s9⟩ | ⟨i9, e9⟩
        rotate_left
        · obtain rfl := (and_err hx81).symm.trans hT
          first | refine ex_callM (CallsM.ren (hcon.err hx81) [0, 1] 12 rfl rfl rfl rfl) ?_ | refine ex_callM (CallsM.more0 (CallsM.ren (hcon.err hx81) [0, 1] 12 rfl rfl rfl rfl)) ?_ | refine ex_callM (CallsM.more1 (CallsM.ren (hcon.err hx81) [0, 1] 12 rfl rfl rfl rfl)) ?_ | refine ex_callM (CallsM.moreL (CallsM.ren (hcon.err hx81) [0, 1] 12 rfl rfl rfl rfl)) ?_
          first | exact ⟨⟨_, rfl, rfl⟩, rfl, rfl⟩ | exact ⟨by kernel_rfl, ⟨_, rfl, rfl⟩, rfl, rfl⟩
        replace hT := (and_ok hx81).symm.trans hT
        first | refine ex_callM (CallsM.ren (hcon.ok hx81) [0, 1] 12 rfl rfl rfl rfl) ?_ | refine ex_callM (CallsM.more0 (CallsM.ren (hcon.ok hx81) [0, 1] 12 rfl rfl rfl rfl)) ?_ | refine ex_callM (CallsM.more1 (CallsM.ren (hcon.ok hx81) [0, 1] 12 rfl rfl rfl rfl)) ?_ | refine ex_callM (CallsM.moreL (CallsM.ren (hcon.ok hx81) [0, 1] 12 rfl rfl rfl rfl)) ?_
        clear hcon
        have hs1 := (Up.ok (Up.take hL t_rpar 0) hs hx81).1
        obtain rfl := mv_take1 hx81
        obtain rfl : PR.ok ({ tyP 10 with nm := w, args := l } : TY) ⟨i + 1, xs, ts⟩ = T := hT
        repeat' (first | refine ex_true (by first | decide | omega | assumption | (with_reducible exact rfl)) ?_ | refine ex_false (by first | decide | omega | assumption | exact (fun h => h rfl)) ?_ | refine ex_dec (fun _ => ?_) (fun _ => ?_) | refine ex_u8 _ rfl (by omega) (by omega) ?_ | refine ex_i64 _ rfl (by omega) (by omega) ?_ | refine ex_u64 _ rfl (by omega) (by omega) ?_ | refine and_mk (by first | omega | (with_reducible rfl) | (show drawOk _ _ _ = true; kernel_rfl)) ?_ | refine and_mk ⟨_, rfl⟩ ?_ | refine ex_is _ (List.length_map _) ?_ | refine ex_is _ List.length_nil ?_ | fail "no step")
        exact ⟨rfl, tyLe1, rfl, rfl⟩
      · replace hT := asc (stp1 (asc (atyB hT hv)))
        have hs1 := stpS hL hs (isV_k hv)
        have hbc := begins_c (L := L) (m := m) (i + 1) hs1.lt
        first | refine ex_callM (CallsM.ren ((may_yes i hi (by omega) _ hv)) [0, 1] 12 rfl rfl rfl rfl) ?_ | refine ex_callM (CallsM.more0 (CallsM.ren ((may_yes i hi (by omega) _ hv)) [0, 1] 12 rfl rfl rfl rfl)) ?_ | refine ex_callM (CallsM.more1 (CallsM.ren ((may_yes i hi (by omega) _ hv)) [0, 1] 12 rfl rfl rfl rfl)) ?_ | refine ex_callM (CallsM.moreL (CallsM.ren ((may_yes i hi (by omega) _ hv)) [0, 1] 12 rfl rfl rfl rfl)) ?_
        repeat' (first | refine ex_true (by first | decide | omega | assumption | (with_reducible exact rfl)) ?_ | refine ex_false (by first | decide | omega | assumption | exact (fun h => h rfl)) ?_ | refine ex_dec (fun _ => ?_) (fun _ => ?_) | refine ex_u8 _ rfl (by omega) (by omega) ?_ | refine ex_i64 _ rfl (by omega) (by omega) ?_ | refine ex_u64 _ rfl (by omega) (by omega) ?_ | refine and_mk (by first | omega | (with_reducible rfl) | (show drawOk _ _ _ = true; kernel_rfl)) ?_ | refine and_mk ⟨_, rfl⟩ ?_ | refine ex_is _ (List.length_map _) ?_ | refine ex_is _ List.length_nil ?_ | fail "no step")
        rcases hb : beginsV L (i + 1) with _ | _ <;> rw [hb] at hbc
        · replace hT := rmF hT hb
          first | refine ex_callM (CallsM.ren (hbc) [0, 1] 12 rfl rfl rfl rfl) ?_ | refine ex_callM (CallsM.more0 (CallsM.ren (hbc) [0, 1] 12 rfl rfl rfl rfl)) ?_ | refine ex_callM (CallsM.more1 (CallsM.ren (hbc) [0, 1] 12 rfl rfl rfl rfl)) ?_ | refine ex_callM (CallsM.moreL (CallsM.ren (hbc) [0, 1] 12 rfl rfl rfl rfl)) ?_
          repeat' (first | refine ex_true (by first | decide | omega | assumption | (with_reducible exact rfl)) ?_ | refine ex_false (by first | decide | omega | assumption | exact (fun h => h rfl)) ?_ | refine ex_dec (fun _ => ?_) (fun _ => ?_) | refine ex_u8 _ rfl (by omega) (by omega) ?_ | refine ex_i64 _ rfl (by omega) (by omega) ?_ | refine ex_u64 _ rfl (by omega) (by omega) ?_ | refine and_mk (by first | omega | (with_reducible rfl) | (show drawOk _ _ _ = true; kernel_rfl)) ?_ | refine and_mk ⟨_, rfl⟩ ?_ | refine ex_is _ (List.length_map _) ?_ | refine ex_is _ List.length_nil ?_ | fail "no step")
          replace hT := asc hT
          have hcon := expr_c hL hn m hm ⟨i + 1, xs, ts⟩ (hs1.less (by omega))
          rcases hx : (exprM L m) ⟨i + 1, xs, ts⟩ with ⟨x, ⟨i2, xs2, ts2⟩⟩ | ⟨i9, e9⟩
          rotate_left
          · obtain rfl := (and_err hx).symm.trans hT
            first | refine ex_callM (CallsM.ren (hcon.err hx) [0, 1, 2, 3, 9, 5] 12 rfl rfl rfl rfl) ?_ | refine ex_callM (CallsM.more0 (CallsM.ren (hcon.err hx) [0, 1, 2, 3, 9, 5] 12 rfl rfl rfl rfl)) ?_ | refine ex_callM (CallsM.more1 (CallsM.ren (hcon.err hx) [0, 1, 2, 3, 9, 5] 12 rfl rfl rfl rfl)) ?_ | refine ex_callM (CallsM.moreL (CallsM.ren (hcon.err hx) [0, 1, 2, 3, 9, 5] 12 rfl rfl rfl rfl)) ?_
            first | exact ⟨⟨_, rfl, rfl⟩, rfl, rfl⟩ | exact ⟨by kernel_rfl, ⟨_, rfl, rfl⟩, rfl, rfl⟩
          replace hT := (and_ok hx).symm.trans hT
          first | refine ex_callM (CallsM.ren (hcon.ok hx) [0, 1, 2, 3, 9, 5] 12 rfl rfl rfl rfl) ?_ | refine ex_callM (CallsM.more0 (CallsM.ren (hcon.ok hx) [0, 1, 2, 3, 9, 5] 12 rfl rfl rfl rfl)) ?_ | refine ex_callM (CallsM.more1 (CallsM.ren (hcon.ok hx) [0, 1, 2, 3, 9, 5] 12 rfl rfl rfl rfl)) ?_ | refine ex_callM (CallsM.moreL (CallsM.ren (hcon.ok hx) [0, 1, 2, 3, 9, 5] 12 rfl rfl rfl rfl)) ?_
          clear hcon
          have hs3 := (Up.ok (up_expr hL m 3) hs1 hx).1
          have hi2 : i + 1 ≤ i2 := (Up.ok (up_expr hL m 3) hs1 hx).2
          repeat' (first | refine ex_true (by first | decide | omega | assumption | (with_reducible exact rfl)) ?_ | refine ex_false (by first | decide | omega | assumption | exact (fun h => h rfl)) ?_ | refine ex_dec (fun _ => ?_) (fun _ => ?_) | refine ex_u8 _ rfl (by omega) (by omega) ?_ | refine ex_i64 _ rfl (by omega) (by omega) ?_ | refine ex_u64 _ rfl (by omega) (by omega) ?_ | refine and_mk (by first | omega | (with_reducible rfl) | (show drawOk _ _ _ = true; kernel_rfl)) ?_ | refine and_mk ⟨_, rfl⟩ ?_ | refine ex_is _ (List.length_map _) ?_ | refine ex_is _ List.length_nil ?_ | fail "no step")
          refine ex_app (l.length) (1) 1000 (by first | rfl | (simp; done) | (simp; omega)) (by first | rfl | (simp; done) | (simp; omega)) rfl (by omega) ?_
          refine ex_is (List.map (fun k : Int => [di k]) (l ++ [x])) (by rw [List.map_append]; rfl) ?_
          repeat' (first | refine ex_true (by first | decide | omega | assumption | (with_reducible exact rfl)) ?_ | refine ex_false (by first | decide | omega | assumption | exact (fun h => h rfl)) ?_ | refine ex_dec (fun _ => ?_) (fun _ => ?_) | refine ex_u8 _ rfl (by omega) (by omega) ?_ | refine ex_i64 _ rfl (by omega) (by omega) ?_ | refine ex_u64 _ rfl (by omega) (by omega) ?_ | refine and_mk (by first | omega | (with_reducible rfl) | (show drawOk _ _ _ = true; kernel_rfl)) ?_ | refine and_mk ⟨_, rfl⟩ ?_ | refine ex_is _ (List.length_map _) ?_ | refine ex_is _ List.length_nil ?_ | fail "no step")
          exact ex_round (i2, xs2, ts2, l ++ [x], n) ⟨hs3.less (by omega), by omega, by simp; omega, hT⟩ (by show L.length - i2 < L.length - i; omega) (SLe.ren [(0, 0), (1, 1), (2, 2), (3, 3), (4, 4), (5, 5), (7, 7), (8, 8), (12, 9), (14, 11)] ⟨⟨rfl, rfl⟩, ⟨rfl, rfl⟩, ⟨rfl, rfl⟩, trivial⟩ ⟨⟨rfl, rfl⟩, ⟨rfl, rfl⟩, ⟨rfl, rfl⟩, ⟨rfl, rfl⟩, ⟨rfl, rfl⟩, ⟨rfl, rfl⟩, ⟨rfl, rfl⟩, trivial⟩ rfl)
        · replace hT := rmT hT hb
          first | refine ex_callM (CallsM.ren (hbc) [0, 1] 12 rfl rfl rfl rfl) ?_ | refine ex_callM (CallsM.more0 (CallsM.ren (hbc) [0, 1] 12 rfl rfl rfl rfl)) ?_ | refine ex_callM (CallsM.more1 (CallsM.ren (hbc) [0, 1] 12 rfl rfl rfl rfl)) ?_ | refine ex_callM (CallsM.moreL (CallsM.ren (hbc) [0, 1] 12 rfl rfl rfl rfl)) ?_
          repeat' (first | refine ex_is l.length (by simp) ?_ | refine ex_true (by first | decide | omega | assumption | (with_reducible exact rfl)) ?_ | refine ex_false (by first | decide | omega | assumption | exact (fun h => h rfl)) ?_ | refine ex_dec (fun _ => ?_) (fun _ => ?_) | refine ex_u8 _ rfl (by omega) (by omega) ?_ | refine ex_i64 _ rfl (by omega) (by omega) ?_ | refine ex_u64 _ rfl (by omega) (by omega) ?_ | refine and_mk (by first | omega | (with_reducible rfl) | (show drawOk _ _ _ = true; kernel_rfl)) ?_ | refine and_mk ⟨_, rfl⟩ ?_ | refine ex_is _ (List.length_map _) ?_ | refine ex_is _ List.length_nil ?_ | fail "no step")
          have hcon := room_c (m := m) ⟨i + 1, xs, ts⟩ hs1.lt l.length (by omega)
          rcases hr : (roomM l.length) ⟨i + 1, xs, ts⟩ with ⟨_, s9⟩ | ⟨i9, e9⟩
          rotate_left
          · obtain rfl := (and_err hr).symm.trans hT
            first | refine ex_callM (CallsM.ren (hcon.err hr) [0, 1] 12 rfl rfl rfl rfl) ?_ | refine ex_callM (CallsM.more0 (CallsM.ren (hcon.err hr) [0, 1] 12 rfl rfl rfl rfl)) ?_ | refine ex_callM (CallsM.more1 (CallsM.ren (hcon.err hr) [0, 1] 12 rfl rfl rfl rfl)) ?_ | refine ex_callM (CallsM.moreL (CallsM.ren (hcon.err hr) [0, 1] 12 rfl rfl rfl rfl)) ?_
            first | exact ⟨⟨_, rfl, rfl⟩, rfl, rfl⟩ | exact ⟨by kernel_rfl, ⟨_, rfl, rfl⟩, rfl, rfl⟩
          replace hT := (and_ok hr).symm.trans hT
          first | refine ex_callM (CallsM.ren (hcon.ok hr) [0, 1] 12 rfl rfl rfl rfl) ?_ | refine ex_callM (CallsM.more0 (CallsM.ren (hcon.ok hr) [0, 1] 12 rfl rfl rfl rfl)) ?_ | refine ex_callM (CallsM.more1 (CallsM.ren (hcon.ok hr) [0, 1] 12 rfl rfl rfl rfl)) ?_ | refine ex_callM (CallsM.moreL (CallsM.ren (hcon.ok hr) [0, 1] 12 rfl rfl rfl rfl)) ?_
          clear hcon
          obtain rfl := mv_room1 hr
          repeat' (first | refine ex_true (by first | decide | omega | assumption | (with_reducible exact rfl)) ?_ | refine ex_false (by first | decide | omega | assumption | exact (fun h => h rfl)) ?_ | refine ex_dec (fun _ => ?_) (fun _ => ?_) | refine ex_u8 _ rfl (by omega) (by omega) ?_ | refine ex_i64 _ rfl (by omega) (by omega) ?_ | refine ex_u64 _ rfl (by omega) (by omega) ?_ | refine and_mk (by first | omega | (with_reducible rfl) | (show drawOk _ _ _ = true; kernel_rfl)) ?_ | refine and_mk ⟨_, rfl⟩ ?_ | refine ex_is _ (List.length_map _) ?_ | refine ex_is _ List.length_nil ?_ | fail "no step")
          replace hT := asc hT
          have hcon := expr_c hL hn m hm ⟨i + 1, xs, ts⟩ (hs1.less (by omega))
          rcases hx : (exprM L m) ⟨i + 1, xs, ts⟩ with ⟨x, ⟨i2, xs2, ts2⟩⟩ | ⟨i9, e9⟩
          rotate_left
          · obtain rfl := (and_err hx).symm.trans hT
            first | refine ex_callM (CallsM.ren (hcon.err hx) [0, 1, 2, 3, 9, 5] 12 rfl rfl rfl rfl) ?_ | refine ex_callM (CallsM.more0 (CallsM.ren (hcon.err hx) [0, 1, 2, 3, 9, 5] 12 rfl rfl rfl rfl)) ?_ | refine ex_callM (CallsM.more1 (CallsM.ren (hcon.err hx) [0, 1, 2, 3, 9, 5] 12 rfl rfl rfl rfl)) ?_ | refine ex_callM (CallsM.moreL (CallsM.ren (hcon.err hx) [0, 1, 2, 3, 9, 5] 12 rfl rfl rfl rfl)) ?_
            first | exact ⟨⟨_, rfl, rfl⟩, rfl, rfl⟩ | exact ⟨by kernel_rfl, ⟨_, rfl, rfl⟩, rfl, rfl⟩
          replace hT := (and_ok hx).symm.trans hT
          first | refine ex_callM (CallsM.ren (hcon.ok hx) [0, 1, 2, 3, 9, 5] 12 rfl rfl rfl rfl) ?_ | refine ex_callM (CallsM.more0 (CallsM.ren (hcon.ok hx) [0, 1, 2, 3, 9, 5] 12 rfl rfl rfl rfl)) ?_ | refine ex_callM (CallsM.more1 (CallsM.ren (hcon.ok hx) [0, 1, 2, 3, 9, 5] 12 rfl rfl rfl rfl)) ?_ | refine ex_callM (CallsM.moreL (CallsM.ren (hcon.ok hx) [0, 1, 2, 3, 9, 5] 12 rfl rfl rfl rfl)) ?_
          clear hcon
          have hs3 := (Up.ok (up_expr hL m 3) hs1 hx).1
          have hi2 : i + 1 ≤ i2 := (Up.ok (up_expr hL m 3) hs1 hx).2
          repeat' (first | refine ex_true (by first | decide | omega | assumption | (with_reducible exact rfl)) ?_ | refine ex_false (by first | decide | omega | assumption | exact (fun h => h rfl)) ?_ | refine ex_dec (fun _ => ?_) (fun _ => ?_) | refine ex_u8 _ rfl (by omega) (by omega) ?_ | refine ex_i64 _ rfl (by omega) (by omega) ?_ | refine ex_u64 _ rfl (by omega) (by omega) ?_ | refine and_mk (by first | omega | (with_reducible rfl) | (show drawOk _ _ _ = true; kernel_rfl)) ?_ | refine and_mk ⟨_, rfl⟩ ?_ | refine ex_is _ (List.length_map _) ?_ | refine ex_is _ List.length_nil ?_ | fail "no step")
          refine ex_app (l.length) (1) 1000 (by first | rfl | (simp; done) | (simp; omega)) (by first | rfl | (simp; done) | (simp; omega)) rfl (by omega) ?_
          refine ex_is (List.map (fun k : Int => [di k]) (l ++ [x])) (by rw [List.map_append]; rfl) ?_
          repeat' (first | refine ex_true (by first | decide | omega | assumption | (with_reducible exact rfl)) ?_ | refine ex_false (by first | decide | omega | assumption | exact (fun h => h rfl)) ?_ | refine ex_dec (fun _ => ?_) (fun _ => ?_) | refine ex_u8 _ rfl (by omega) (by omega) ?_ | refine ex_i64 _ rfl (by omega) (by omega) ?_ | refine ex_u64 _ rfl (by omega) (by omega) ?_ | refine and_mk (by first | omega | (with_reducible rfl) | (show drawOk _ _ _ = true; kernel_rfl)) ?_ | refine and_mk ⟨_, rfl⟩ ?_ | refine ex_is _ (List.length_map _) ?_ | refine ex_is _ List.length_nil ?_ | fail "no step")
          exact ex_round (i2, xs2, ts2, l ++ [x], n) ⟨hs3.less (by omega), by omega, by simp; omega, hT⟩ (by show L.length - i2 < L.length - i; omega) (SLe.ren [(0, 0), (1, 1), (2, 2), (3, 3), (4, 4), (5, 5), (7, 7), (8, 8), (12, 9), (14, 11)] ⟨⟨rfl, rfl⟩, ⟨rfl, rfl⟩, ⟨rfl, rfl⟩, trivial⟩ ⟨⟨rfl, rfl⟩, ⟨rfl, rfl⟩, ⟨rfl, rfl⟩, ⟨rfl, rfl⟩, ⟨rfl, rfl⟩, ⟨rfl, rfl⟩, ⟨rfl, rfl⟩, trivial⟩ rfl)
end
end Go.Proofs.YtkbhmcdoedmffaaDoor
