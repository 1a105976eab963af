/- LexWords: so many letters are a word, one more are not; a number of so many digits is told, or is too great. Condition: the listed package variables hold what the program's text lays. -/
import Derived.Lib.LaidTab
import Derived.Test.YtokhlojibhegnaaDoorRows
import Derived.Lay
import Derived.MakeChecks
import Derived.Test.YtokhlojibhegnaaDoorCards
import Derived.Test.YtokhlojibhegnaaDoorTie
import Derived.SevenTiedAt
import Derived.Deep.DeepHandedRow
import Derived.Test.YtokhlojibhegnaaDoorZ1
import Derived.Test.YtokhlojibhegnaaDoorZ2
import Derived.Test.YtokhlojibhegnaaDoorZ3
namespace Go.Proofs.YtokhlojibhegnaaDoor
set_option linter.unusedVariables false
set_option linter.unusedSimpArgs false
open Go.RowKit
set_option maxRecDepth 100000

def wakeTs : List TokP := [⟨0, [97], 0, 1, 1⟩, ⟨2, [61], 0, 1, 2⟩, ⟨1, [48, 120, 49, 48], 16, 1, 3⟩, ⟨2, [59], 0, 1, 7⟩, ⟨3, [], 0, 1, 13⟩]
theorem wakes_c : CallsA Tryd.prog ΓL 10 [] (Tb true) := by
  have h1 := lex_c [97, 61, 48, 120, 49, 48, 59, 32, 47, 47, 32, 120]
  rw [show lexV [97, 61, 48, 120, 49, 48, 59, 32, 47, 47, 32, 120] = .ok wakeTs by kernel_rfl] at h1
  have h2 := (Join_c wakeTs (by decide) (by decide)).of0 (Γ := ΓL)
  rw [show joinF (wakeTs.filter real) = [97, 32, 61, 32, 48, 120, 49, 48, 32, 59] by kernel_rfl] at h2
  have h3 := (name_c [97, 95, 49] (by decide)).of0 (Γ := ΓL)
  rw [show nameF [97, 95, 49] = true by kernel_rfl] at h3
  refine fn_rule (C := ⟨Tryd.prog, layF, Tryd.f10.ntmps, ΓL, 0, [], []⟩) layF_ok mixed Tryd.func10 rfl (by kernel_rfl) rfl rfl rfl ?_
  repeat' (first | refine ex_call h3 ?_ | refine ex_call h2 ?_ | refine ex_call h1 ?_ | refine (ex_agg (by kernel_rfl) true (eqPosT _ _)) ?_ | refine (ex_row 4 _ rfl rfl) ?_ | refine (ex_row 3 _ rfl rfl) ?_ | refine (ex_row 2 _ rfl rfl) ?_ | refine (ex_row 1 _ rfl rfl) ?_ | refine (ex_row 0 _ rfl rfl) ?_ | refine ex_true (by first | decide | omega | assumption | (with_reducible exact rfl)) ?_ | refine ex_false (by first | decide | omega | assumption | exact (fun h => h rfl)) ?_ | refine ex_dec (fun _ => ?_) (fun _ => ?_) | refine ex_u8 _ rfl (by omega) (by omega) ?_ | refine ex_i64 _ rfl (by omega) (by omega) ?_ | refine ex_u64 _ rfl (by omega) (by omega) ?_ | refine and_mk (by first | omega | (show drawOk _ _ _ = true; kernel_rfl)) ?_ | refine and_mk ⟨_, rfl⟩ ?_ | refine ex_is _ (List.length_map _) ?_ | refine ex_is _ List.length_nil ?_ | fail "no step")
  exact TLe.rfl
theorem lex_bound : ∀ (n : Nat) (r : List UInt8) (l c : Nat) (ts : List TokP), r.length < n → lexN n r l c = .ok ts → ts.length ≤ r.length + 1 ∧ (tailJ (ts.filter real)).length ≤ 2 * r.length := by
  intro n
  induction n with
  | zero => intro r l c ts h; omega
  | succ n ih =>
    intro r l c ts hlen h
    rw [lexN] at h
    rcases hs : stp r l c with _ | ⟨r', l', c'⟩ | ⟨k, t, v⟩ | e <;> rw [hs] at h <;> dsimp only at h
    · cases h
      exact ⟨by simp, by simp [real, tailJ]⟩
    · have h1 := stp_go hs
      obtain ⟨e1, e2⟩ := ih r' l' c' ts (by omega) h
      exact ⟨by omega, by omega⟩
    · obtain ⟨⟨X, rfl⟩, h2, h3, -⟩ := tokF_ok (stp_tok hs)
      have h4 : 0 < t.length := List.length_pos_iff.2 h2
      rw [List.length_append] at hlen ⊢
      rw [List.drop_left] at h
      rcases hr : lexN n X l (c + t.length) with ts' | _
      · rw [hr] at h
        have h' : [⟨k, t, v, l, c⟩] ++ ts' = ts := by injection h
        obtain ⟨e1, e2⟩ := ih X l (c + t.length) ts' (by omega) hr
        subst h'
        refine ⟨by rw [List.length_append]; simp; omega, ?_⟩
        rw [List.filter_append, tailJ_app, List.length_append]
        have : (tailJ (List.filter real [⟨k, t, v, l, c⟩])).length = 1 + t.length := by
          have : real ⟨k, t, v, l, c⟩ = true := by simp [real]; omega
          rw [List.filter_cons, if_pos this]
          simp [tailJ]; omega
        omega
      · rw [hr] at h; cases h
    · cases h
theorem lexV_good {s : List UInt8} {ts : List TokP} (h : lexV s = .ok ts) : s.length ≤ 16384 ∧ ts.length ≤ 16385 ∧ (tailJ (ts.filter real)).length ≤ 32768 ∧ ∃ us l c, ts = us ++ [⟨3, [], 0, l, c⟩] ∧ (∀ u ∈ us, GoodTok u) ∧ ts.filter real = us := by
  unfold lexV at h
  split at h
  · rename_i hl
    obtain ⟨e1, e2⟩ := lex_bound _ s 1 1 ts (Nat.lt_succ_self _) h
    obtain ⟨us, l, c, e3, e4⟩ := lexF_good h
    refine ⟨hl, by omega, by omega, us, l, c, e3, e4, ?_⟩
    rw [e3, List.filter_append, List.filter_cons, if_neg (by simp [real]), List.filter_nil, List.append_nil, List.filter_eq_self.2 (fun u hu => ?_)]
    have := (e4 u hu).1
    simp [real]; omega
  · cases h
theorem good_ne {ts : List TokP} {s : List UInt8} (h : lexV s = .ok ts) : ∀ u ∈ ts, real u = true → u.t ≠ [] := by
  obtain ⟨-, -, -, us, l, c, rfl, e, hf⟩ := lexV_good h
  intro u hu hr
  rcases List.mem_append.1 hu with hu | hu
  · exact (e u hu).2.1
  · rw [List.mem_singleton.1 hu] at hr
    cases hr
theorem lexReads_c (s : List UInt8) : CallsA Tryd.prog ΓL 3 [c1 (ds (bs s))] (Tb true) := by
  have h1 := lex_c s
  have h2 := (rlex_c s).of0 (Γ := ΓL)
  have hw := wakes_c
  rcases hR : lexV s with ts | ⟨l, c, e⟩ <;> rw [hR] at h1 h2
  · have hb := (lexV_good hR).2.1
    refine fn_rule (C := ⟨Tryd.prog, layF, Tryd.f3.ntmps, ΓL, 0, [], []⟩) layF_ok mixed Tryd.func3 rfl (by kernel_rfl) rfl rfl rfl ?_
    repeat' (first | refine ex_call hw ?_ | refine ex_call h2 ?_ | refine ex_call h1 ?_ | refine (ex_agg (by kernel_rfl) true (eqPosT _ _)) ?_ | refine ex_true (by first | decide | omega | assumption | (with_reducible exact rfl)) ?_ | refine ex_false (by first | decide | omega | assumption | exact (fun h => h rfl)) ?_ | refine ex_dec (fun _ => ?_) (fun _ => ?_) | refine ex_u8 _ rfl (by omega) (by omega) ?_ | refine ex_i64 _ rfl (by omega) (by omega) ?_ | refine ex_u64 _ rfl (by omega) (by omega) ?_ | refine and_mk (by first | omega | (show drawOk _ _ _ = true; kernel_rfl)) ?_ | refine and_mk ⟨_, rfl⟩ ?_ | refine ex_is _ (List.length_map _) ?_ | refine ex_is _ List.length_nil ?_ | fail "no step")
    refine ex_loop (X := Nat) (fun q => ⟨[(3, .o (c1 (.sl 5 (ts.map tokD)))), (6, .o (c1 (.sl 5 (ts.map tokD)))), (46, .o (c1 (.sl 5 (ts.map tokD)))), (47, Ti ts.length), (48, Ti q)], [], 2⟩) (fun q => ts.length - q) (fun q => q ≤ ts.length) 0 (Nat.zero_le _) (SLe.of ⟨⟨rfl, rfl, rfl, rfl, rfl, trivial⟩, trivial⟩) ?_
    intro q hq
    refine ex_dec (fun h => ?_) (fun h => ?_)
    · have hql : q < ts.length := by omega
      have hc : ts[q]? = some ts[q] := at_some hql
      generalize ts[q] = u at *
      repeat' (first | refine ex_i64 ((q + 1 : Nat) : Int) (by omega) (by omega) (by omega) ?_ | refine ex_u64 ((q + 1 : Nat) : Int) (by omega) (by omega) (by omega) ?_ | refine ex_u8 ((q + 1 : Nat) : Int) (by omega) (by omega) (by omega) ?_ | refine (ex_agg (by kernel_rfl) true (eqPosT _ _)) ?_ | refine (ex_row q u rfl hc) ?_ | refine ex_true (by first | decide | omega | assumption | (with_reducible exact rfl)) ?_ | refine ex_false (by first | decide | omega | assumption | exact (fun h => h rfl)) ?_ | refine ex_dec (fun _ => ?_) (fun _ => ?_) | refine ex_u8 _ rfl (by omega) (by omega) ?_ | refine ex_i64 _ rfl (by omega) (by omega) ?_ | refine ex_u64 _ rfl (by omega) (by omega) ?_ | refine and_mk (by first | omega | (show drawOk _ _ _ = true; kernel_rfl)) ?_ | refine and_mk ⟨_, rfl⟩ ?_ | refine ex_is _ (List.length_map _) ?_ | refine ex_is _ List.length_nil ?_ | fail "no step")
      exact ex_round (q + 1) (by show q + 1 ≤ ts.length; omega) (by show _ - _ < _ - _; omega) (SLe.of ⟨⟨rfl, rfl, rfl, rfl, rfl, trivial⟩, trivial⟩)
    · repeat' (first | refine ex_true (by first | decide | omega | assumption | (with_reducible exact rfl)) ?_ | refine ex_false (by first | decide | omega | assumption | exact (fun h => h rfl)) ?_ | refine ex_dec (fun _ => ?_) (fun _ => ?_) | refine ex_u8 _ rfl (by omega) (by omega) ?_ | refine ex_i64 _ rfl (by omega) (by omega) ?_ | refine ex_u64 _ rfl (by omega) (by omega) ?_ | refine and_mk (by first | omega | (show drawOk _ _ _ = true; kernel_rfl)) ?_ | refine and_mk ⟨_, rfl⟩ ?_ | refine ex_is _ (List.length_map _) ?_ | refine ex_is _ List.length_nil ?_ | fail "no step")
      exact TLe.rfl
  ·
    refine fn_rule (C := ⟨Tryd.prog, layF, Tryd.f3.ntmps, ΓL, 0, [], []⟩) layF_ok mixed Tryd.func3 rfl (by kernel_rfl) rfl rfl rfl ?_
    repeat' (first | refine ex_call hw ?_ | refine ex_call h2 ?_ | refine ex_call h1 ?_ | refine (ex_agg (by kernel_rfl) true (eqPosT _ _)) ?_ | refine ex_true (by first | decide | omega | assumption | (with_reducible exact rfl)) ?_ | refine ex_false (by first | decide | omega | assumption | exact (fun h => h rfl)) ?_ | refine ex_dec (fun _ => ?_) (fun _ => ?_) | refine ex_u8 _ rfl (by omega) (by omega) ?_ | refine ex_i64 _ rfl (by omega) (by omega) ?_ | refine ex_u64 _ rfl (by omega) (by omega) ?_ | refine and_mk (by first | omega | (show drawOk _ _ _ = true; kernel_rfl)) ?_ | refine and_mk ⟨_, rfl⟩ ?_ | refine ex_is _ (List.length_map _) ?_ | refine ex_is _ List.length_nil ?_ | fail "no step")
    refine ex_loop (X := Nat) (fun q => ⟨[(46, .o (c1 (.sl 5 []))), (47, Ti 0), (48, Ti 0)], [], 2⟩) (fun q => 0) (fun q => True) 0 trivial (SLe.of ⟨⟨rfl, rfl, rfl, trivial⟩, trivial⟩) ?_
    intro q hq
    repeat' (first | refine ex_true (by first | decide | omega | assumption | (with_reducible exact rfl)) ?_ | refine ex_false (by first | decide | omega | assumption | exact (fun h => h rfl)) ?_ | refine ex_dec (fun _ => ?_) (fun _ => ?_) | refine ex_u8 _ rfl (by omega) (by omega) ?_ | refine ex_i64 _ rfl (by omega) (by omega) ?_ | refine ex_u64 _ rfl (by omega) (by omega) ?_ | refine and_mk (by first | omega | (show drawOk _ _ _ = true; kernel_rfl)) ?_ | refine and_mk ⟨_, rfl⟩ ?_ | refine ex_is _ (List.length_map _) ?_ | refine ex_is _ List.length_nil ?_ | fail "no step")
    exact TLe.rfl
theorem lexJoins_c (s name : List UInt8) (hn : name.length ≤ 281474976710656) : CallsA Tryd.prog ΓL 4 [c1 (ds (bs s)), c1 (ds (bs name))] (Tb true) := by
  have h1 := lex_c s
  have h2 := (rlex_c s).of0 (Γ := ΓL)
  have hw := wakes_c
  have n1 := (name_c name hn).of0 (Γ := ΓL)
  have n2 := (rname_c name hn).of0 (Γ := ΓL)
  have key : ∀ ts : List TokP, ts.length ≤ 16385 → (tailJ (ts.filter real)).length ≤ 32768 → (∀ u ∈ ts, real u = true → u.t ≠ []) → (∃ j, CallsA Tryd.prog ΓL 13 [c1 (.sl 5 (ts.map tokD))] (Tstr j) ∧ CallsA Tryd.prog ΓL 14 [c1 (.sl 5 (ts.map tokD))] (Tstr j)) := by
    intro ts h1 h2 h3
    have h4 : (joinF (ts.filter real)).length ≤ (tailJ (ts.filter real)).length := by unfold joinF; rw [List.length_drop]; omega
    exact ⟨_, (Join_c ts (by omega) (by omega)).of0, (rjoin_c ts (by omega) (by omega) h3).of0⟩
  have fin : ∀ ts : List TokP, ∀ j, ∀ b : Bool, CallsA Tryd.prog ΓL 13 [c1 (.sl 5 (ts.map tokD))] (Tstr j) → CallsA Tryd.prog ΓL 14 [c1 (.sl 5 (ts.map tokD))] (Tstr j) →
      CallsA Tryd.prog ΓL 11 [c1 (ds (bs name))] (Tb b) → CallsA Tryd.prog ΓL 12 [c1 (ds (bs name))] (Tb b) →
      ∀ R : LR, (∀ l c e, R = .err l c e → ts = []) → (∀ us, R = .ok us → ts = us) → CallsA Tryd.prog ΓL 8 [c1 (ds (bs s))] (lexT R) → CallsA Tryd.prog ΓL 9 [c1 (ds (bs s))] (lexT R) →
      CallsA Tryd.prog ΓL 4 [c1 (ds (bs s)), c1 (ds (bs name))] (Tb true) := by
    intro ts j b j1 j2 n1 n2 R r1 r2 h1 h2
    rcases R with us | ⟨l, c, e⟩
    · obtain rfl := r2 us rfl
      cases b <;>
      ·
        refine fn_rule (C := ⟨Tryd.prog, layF, Tryd.f4.ntmps, ΓL, 0, [], []⟩) layF_ok mixed Tryd.func4 rfl (by kernel_rfl) rfl rfl rfl ?_
        repeat' (first | refine ex_call j2 ?_ | refine ex_call j1 ?_ | refine ex_call n2 ?_ | refine ex_call n1 ?_ | refine ex_call hw ?_ | refine ex_call h2 ?_ | refine ex_call h1 ?_ | refine ex_true (by first | decide | omega | assumption | (with_reducible exact rfl)) ?_ | refine ex_false (by first | decide | omega | assumption | exact (fun h => h rfl)) ?_ | refine ex_dec (fun _ => ?_) (fun _ => ?_) | refine ex_u8 _ rfl (by omega) (by omega) ?_ | refine ex_i64 _ rfl (by omega) (by omega) ?_ | refine ex_u64 _ rfl (by omega) (by omega) ?_ | refine and_mk (by first | omega | (show drawOk _ _ _ = true; kernel_rfl)) ?_ | refine and_mk ⟨_, rfl⟩ ?_ | refine ex_is _ (List.length_map _) ?_ | refine ex_is _ List.length_nil ?_ | fail "no step")
        exact TLe.rfl
    · obtain rfl := r1 l c e rfl
      cases b <;>
      ·
        refine fn_rule (C := ⟨Tryd.prog, layF, Tryd.f4.ntmps, ΓL, 0, [], []⟩) layF_ok mixed Tryd.func4 rfl (by kernel_rfl) rfl rfl rfl ?_
        repeat' (first | refine ex_call j2 ?_ | refine ex_call j1 ?_ | refine ex_call n2 ?_ | refine ex_call n1 ?_ | refine ex_call hw ?_ | refine ex_call h2 ?_ | refine ex_call h1 ?_ | refine ex_true (by first | decide | omega | assumption | (with_reducible exact rfl)) ?_ | refine ex_false (by first | decide | omega | assumption | exact (fun h => h rfl)) ?_ | refine ex_dec (fun _ => ?_) (fun _ => ?_) | refine ex_u8 _ rfl (by omega) (by omega) ?_ | refine ex_i64 _ rfl (by omega) (by omega) ?_ | refine ex_u64 _ rfl (by omega) (by omega) ?_ | refine and_mk (by first | omega | (show drawOk _ _ _ = true; kernel_rfl)) ?_ | refine and_mk ⟨_, rfl⟩ ?_ | refine ex_is _ (List.length_map _) ?_ | refine ex_is _ List.length_nil ?_ | fail "no step")
        exact TLe.rfl
  rcases hR : lexV s with ts | ⟨l, c, e⟩ <;> rw [hR] at h1 h2
  · obtain ⟨-, g1, g2, -⟩ := lexV_good hR
    obtain ⟨j, j1, j2⟩ := key ts g1 g2 (good_ne hR)
    exact fin ts j _ j1 j2 n1 n2 _ (fun l c e h => by cases h) (fun us h => by injection h) h1 h2
  · obtain ⟨j, j1, j2⟩ := key [] (by decide) (by decide) (fun u hu => by cases hu)
    exact fin [] j _ j1 j2 n1 n2 _ (fun l c e h => rfl) (fun us h => by cases h) h1 h2
end Go.Proofs.YtokhlojibhegnaaDoor

namespace Go.Proofs.YtokhlojibhegnaaDoor
set_option linter.unusedVariables false
set_option linter.unusedSimpArgs false
open Go.RowKit
set_option maxRecDepth 100000

theorem lexN_err : ∀ (n : Nat) (r : List UInt8) (l c l' c' e : Nat), r.length < n → lexN n r l c = .err l' c' e → 4 ≤ e ∧ e ≤ 7 ∧ l' ≤ l + r.length := by
  intro n
  induction n with
  | zero => intro r l c l' c' e h; omega
  | succ n ih =>
    intro r l c l' c' e hlen h
    rw [lexN] at h
    rcases hs : stp r l c with _ | ⟨r2, l2, c2⟩ | ⟨k, t, v⟩ | e2 <;> rw [hs] at h <;> dsimp only at h
    · cases h
    · have h1 := stp_go hs
      obtain ⟨e1, e2, e3⟩ := ih r2 l2 c2 l' c' e (by omega) h
      refine ⟨e1, e2, ?_⟩
      have : l2 ≤ l + 1 := by
        unfold stp at hs
        split at hs
        · cases hs
        · split at hs
          · cases hs; omega
          · split at hs
            · cases hs; omega
            · split at hs
              · cases hs; omega
              · revert hs; cases tokF _ <;> intro hs <;> cases hs
      omega
    · obtain ⟨⟨X, rfl⟩, h2, h3, -⟩ := tokF_ok (stp_tok hs)
      have h4 : 0 < t.length := List.length_pos_iff.2 h2
      rw [List.length_append] at hlen ⊢
      rw [List.drop_left] at h
      rcases hr : lexN n X l (c + t.length) with ts' | ⟨l3, c3, e3⟩
      · rw [hr] at h; cases h
      · rw [hr] at h
        cases h
        obtain ⟨e1, e2, e3⟩ := ih X l (c + t.length) l' c' e (by omega) hr
        exact ⟨e1, e2, by omega⟩
    · injection h with h1 h2 h3
      subst h3
      unfold stp at hs
      split at hs
      · cases hs
      · split at hs
        · cases hs
        · split at hs
          · cases hs
          · split at hs
            · cases hs
            · rename_i b x _ _ _
              have : tokF (b :: x) = .err e2 := by revert hs; cases tokF (b :: x) <;> intro hs <;> cases hs; rfl
              have := tokF_err this
              exact ⟨this.1, this.2, by omega⟩
theorem lexV_err {s : List UInt8} {l c e : Nat} (h : lexV s = .err l c e) : 4 ≤ e ∧ e ≤ 7 ∧ l ≤ 16385 := by
  unfold lexV at h
  split at h
  · obtain ⟨e1, e2, e3⟩ := lexN_err _ s 1 1 l c e (Nat.lt_succ_self _) h
    exact ⟨e1, e2, by omega⟩
  · cases h; exact ⟨by decide, by decide, by decide⟩
theorem count_c (Γ : Glob) (r : List UInt8) : CallsA Tryd.prog Γ 16 [c1 (ds (bs r)), c1 (ds ⟨#[10]⟩)] (Ti ((r.count 10 : Nat) : Int)) :=
  ⟨⟨_, Tryd.func16, by kernel_rfl, rfl⟩, fun S w vs hS hG hvs => by
    obtain ⟨u, v, rfl, e1, e2⟩ := two_args hvs
    obtain rfl := open_v e1
    obtain rfl := open_v e2
    refine (Tryd.strings_Count_one (bs r) 10 w).mono fun e w' ⟨he, hb⟩ => ?_
    subst he; subst hb
    exact flat_end hS (Below.refl _ _) (Imm.v rfl)⟩
theorem suf_c (Γ : Glob) (r p : List UInt8) (hr : r.length ≤ 9223372036854775807) : CallsA Tryd.prog Γ 17 [c1 (ds (bs r)), c1 (ds (bs p))] (Tb (Lib.hasSuffix r p)) :=
  ⟨⟨_, Tryd.func17, by kernel_rfl, rfl⟩, fun S w vs hS hG hvs => by
    obtain ⟨u, v, rfl, e1, e2⟩ := two_args hvs
    obtain rfl := open_v e1
    obtain rfl := open_v e2
    refine (Tryd.strings_HasSuffix (bs r) (bs p) w (by rw [bs_size]; exact hr)).mono fun e w' ⟨he, hb⟩ => ?_
    subst he; subst hb
    exact flat_end hS (Below.refl _ _) (Imm.v rfl)⟩
theorem suf_slash (r : List UInt8) : Lib.hasSuffix r [47] = decide (r.getLast? = some 47) := by
  unfold Lib.hasSuffix
  rw [Bool.eq_iff_iff, List.isSuffixOf_iff_suffix, decide_eq_true_eq]
  constructor
  · rintro ⟨X, rfl⟩
    simp
  · intro h
    obtain ⟨X, hX⟩ := List.getLast?_eq_some_iff.1 h
    exact ⟨X, hX.symm⟩
def shiftT (k : Nat) (t : TokP) : TokP := ⟨t.k, t.t, t.n, t.l + k, t.c⟩
theorem lexN_line : ∀ (n : Nat) (r : List UInt8) (l c : Nat) (ts : List TokP), r.length < n → lexN n r l c = .ok ts → ∀ u ∈ ts, u.l ≤ l + r.length := by
  intro n
  induction n with
  | zero => intro r l c ts h; omega
  | succ n ih =>
    intro r l c ts hlen h
    rw [lexN] at h
    rcases hs : stp r l c with _ | ⟨r2, l2, c2⟩ | ⟨k, t, v⟩ | e2 <;> rw [hs] at h <;> dsimp only at h
    · cases h
      intro u hu
      rw [List.mem_singleton.1 hu]
      exact Nat.le_add_right _ _
    · have h1 := stp_go hs
      intro u hu
      have := ih r2 l2 c2 ts (by omega) h u hu
      have : l2 ≤ l + 1 := by
        unfold stp at hs
        split at hs
        · cases hs
        · split at hs
          · cases hs; omega
          · split at hs
            · cases hs; omega
            · split at hs
              · cases hs; omega
              · revert hs; cases tokF _ <;> intro hs <;> cases hs
      omega
    · obtain ⟨⟨X, rfl⟩, h2, h3, -⟩ := tokF_ok (stp_tok hs)
      have h4 : 0 < t.length := List.length_pos_iff.2 h2
      rw [List.length_append] at hlen ⊢
      rw [List.drop_left] at h
      rcases hr : lexN n X l (c + t.length) with ts' | ⟨l3, c3, e3⟩
      · rw [hr] at h
        have h' : [⟨k, t, v, l, c⟩] ++ ts' = ts := by injection h
        subst h'
        intro u hu
        rcases List.mem_append.1 hu with hu | hu
        · rw [List.mem_singleton.1 hu]; show l ≤ _; omega
        · have := ih X l (c + t.length) ts' (by omega) hr u hu
          omega
      · rw [hr] at h; cases h
    · cases h
set_option maxHeartbeats 2000000 in
theorem lexLines_c (s t note : List UInt8) (hs : s.length ≤ 140737488351232) (ht : t.length ≤ 140737488351232) (hn : note.length ≤ 140737488351232) : CallsA Tryd.prog ΓL 6 [c1 (ds (bs s)), c1 (ds (bs t)), c1 (ds (bs note))] (Tb true) := by
  have hss := bs_size s
  have hts := bs_size t
  have hns := bs_size note
  obtain ⟨a, ha⟩ : ∃ a, min s.length 3000 = a := ⟨_, rfl⟩
  obtain ⟨b, hb⟩ : ∃ b, min t.length 3000 = b := ⟨_, rfl⟩
  obtain ⟨c, hc⟩ : ∃ c, min note.length 100 = c := ⟨_, rfl⟩
  have e1 := ext_take s a
  have e2 := ext_take t b
  have e3 := ext_take note c
  obtain ⟨S, hS⟩ : ∃ S, s.take a = S := ⟨_, rfl⟩
  obtain ⟨T, hT⟩ : ∃ T, t.take b = T := ⟨_, rfl⟩
  have hcut := cut_c (note.take c) [10] (by rw [List.length_take]; omega)
  rw [cut_fst] at hcut
  obtain ⟨N, hN⟩ : ∃ N, (note.take c).takeWhile notNl = N := ⟨_, rfl⟩
  have hN10 : 10 ∉ N := hN ▸ takeWhile_nl _
  have hNl : N.length ≤ 100 := by
    have := drop_len notNl (note.take c)
    rw [List.length_take, hN] at this
    omega
  have hSl : S.length ≤ 3000 := by rw [← hS, List.length_take]; omega
  have hTl : T.length ≤ 3000 := by rw [← hT, List.length_take]; omega
  rw [hS] at e1
  rw [hT] at e2
  rw [hN] at hcut
  have h1 := lex_c S
  have h2 := lex_c T
  have h3 := lex_c (S ++ 47 :: 47 :: (N ++ 10 :: T))
  have hcat : bs (S ++ 47 :: 47 :: (N ++ 10 :: T)) = bs S ++ ⟨#[47, 47]⟩ ++ bs N ++ ⟨#[10]⟩ ++ bs T := by
    rw [show (⟨#[47, 47]⟩ : ByteArray) = bs [47, 47] from rfl, show (⟨#[10]⟩ : ByteArray) = bs [10] from rfl, bs_app, bs_app, bs_app, bs_app]
    congr 1
    simp
  rw [hcat] at h3
  have hw := wakes_c
  have hsz1 := bs_size S
  have hsz2 := bs_size T
  have hsz3 := bs_size N
  have z1 : (⟨#[47, 47]⟩ : ByteArray).size = 2 := rfl
  have z2 : (⟨#[10]⟩ : ByteArray).size = 1 := rfl
  have z3 : (bs S ++ ⟨#[47, 47]⟩).size = S.length + 2 := by rw [ByteArray.size_append, hsz1]; rfl
  have z4 : (bs S ++ ⟨#[47, 47]⟩ ++ bs N).size = S.length + 2 + N.length := by rw [ByteArray.size_append, z3, hsz3]
  have z5 : (bs S ++ ⟨#[47, 47]⟩ ++ bs N ++ ⟨#[10]⟩).size = S.length + 2 + N.length + 1 := by rw [ByteArray.size_append, z4]; rfl
  have hcn := count_c ΓL S
  have hcb : S.count 10 ≤ S.length := List.count_le_length
  have hsf := suf_c ΓL S [47] (by omega)
  rw [suf_slash] at hsf
  have m1 : (if (3000 : Int) < ((bs s).size : Nat) then (3000 : Int) else ((bs s).size : Nat)) = (a : Nat) := by split <;> omega
  have m2 : (if (3000 : Int) < ((bs t).size : Nat) then (3000 : Int) else ((bs t).size : Nat)) = (b : Nat) := by split <;> omega
  have m3 : (if (100 : Int) < ((bs note).size : Nat) then (100 : Int) else ((bs note).size : Nat)) = (c : Nat) := by split <;> omega
  have e1 : (bs s).extract (Int.toNat 0) ((a : Nat) : Int).toNat = bs S := e1
  have e2 : (bs t).extract (Int.toNat 0) ((b : Nat) : Int).toNat = bs T := e2
  have e3 : (bs note).extract (Int.toNat 0) ((c : Nat) : Int).toNat = bs (note.take c) := e3
  rw [← e1] at h1 hcn hsf
  rw [← e2] at h2
  rw [← e1, ← e2] at h3
  rw [← e1] at z3 z4 z5 hsz1
  rw [← e2] at hsz2
  rw [← e3] at hcut
  rcases hR1 : lexV S with ts | ⟨l1, c1', er1⟩ <;> rw [hR1] at h1
  · rcases hsl : decide (S.getLast? = some 47) with _ | _ <;> rw [hsl] at hsf
    · have hok1 := lexV_good hR1
      have hl1 : lexF S 1 1 = .ok ts := by unfold lexV at hR1; rw [if_pos (by omega)] at hR1; exact hR1
      obtain ⟨us, l', c', g1, g2, g3⟩ := lexF_lines N T hN10 _ S 1 1 ts (Nat.lt_succ_self _) (of_decide_eq_false hsl) hl1
      rw [Nat.add_comm l' 1, Nat.add_comm 1 l', Nat.add_comm l' 1, lexF_shift] at g3
      have hV3 : lexV (S ++ 47 :: 47 :: (N ++ 10 :: T)) = lexF (S ++ 47 :: 47 :: (N ++ 10 :: T)) 1 1 := by unfold lexV; rw [if_pos (by simp only [List.length_append, List.length_cons]; omega)]
      have hV2 : lexV T = lexF T 1 1 := by unfold lexV; rw [if_pos (by omega)]
      rw [hV3, g3] at h3
      have hlen1 : ts.length = us.length + 1 := by rw [g1, List.length_append]; rfl
      rcases hR2 : lexV T with ms | ⟨l2, c2, er2⟩ <;> rw [hR2] at h2 <;> rw [hV2] at hR2 <;> rw [hR2] at h3
      · have hok2 := lexV_good (hV2.trans hR2)
        have hline := lexN_line _ T 1 1 ms (Nat.lt_succ_self _) hR2
        have hmp : 1 ≤ ms.length := by
          obtain ⟨-, -, -, u2, l3, c3, h, -⟩ := hok2
          rw [h, List.length_append]; simp
        obtain ⟨ns, hns2⟩ : ∃ ns, us ++ ms.map (shiftT l') = ns := ⟨_, rfl⟩
        have h3 : CallsA Tryd.prog ΓL 8 [c1 (ds ((bs s).extract (Int.toNat 0) ((a : Nat) : Int).toNat ++ ⟨#[47, 47]⟩ ++ bs N ++ ⟨#[10]⟩ ++ (bs t).extract (Int.toNat 0) ((b : Nat) : Int).toNat))] (lexT (.ok ns)) := by
          rw [← hns2]; exact h3
        have hnl : ns.length = us.length + ms.length := by rw [← hns2, List.length_append, List.length_map]
        refine fn_rule (C := ⟨Tryd.prog, layF, Tryd.f6.ntmps, ΓL, 0, [], []⟩) layF_ok mixed Tryd.func6 rfl (by kernel_rfl) rfl rfl rfl ?_
        repeat' (first | refine ex_call hsf ?_ | refine ex_call hcn ?_ | refine ex_call hw ?_ | refine ex_call hcut ?_ | refine ex_call h3 ?_ | refine ex_call h2 ?_ | refine ex_call h1 ?_ | refine ex_i64 ((l' : Nat) : Int) (by omega) (by omega) (by omega) ?_ | refine ex_u64 ((l' : Nat) : Int) (by omega) (by omega) (by omega) ?_ | refine ex_u8 ((l' : Nat) : Int) (by omega) (by omega) (by omega) ?_ | refine (ex_is (c : Int) m3) ?_ | refine (ex_is (b : Int) m2) ?_ | refine (ex_is (a : Int) m1) ?_ | refine ex_true (by first | decide | omega | assumption | (with_reducible exact rfl)) ?_ | refine ex_false (by first | decide | omega | assumption | exact (fun h => h rfl)) ?_ | refine ex_dec (fun _ => ?_) (fun _ => ?_) | refine ex_u8 _ rfl (by omega) (by omega) ?_ | refine ex_i64 _ rfl (by omega) (by omega) ?_ | refine ex_u64 _ rfl (by omega) (by omega) ?_ | refine and_mk (by first | omega | (show drawOk _ _ _ = true; kernel_rfl)) ?_ | refine and_mk ⟨_, rfl⟩ ?_ | refine ex_is _ (List.length_map _) ?_ | refine ex_is _ List.length_nil ?_ | fail "no step")
        refine ex_loop (X := Nat) (fun q => ⟨[(7, .o (c1 (.sl 5 (ts.map tokD)))), (10, .o (c1 (.sl 5 (ms.map tokD)))), (16, Ti l'), (105, .o (c1 (.sl 5 (ns.map tokD)))), (106, Ti ns.length), (107, Ti q)], [], 3⟩) (fun q => ns.length - q) (fun q => q ≤ ns.length) 0 (Nat.zero_le _) (SLe.of ⟨⟨rfl, rfl, rfl, rfl, rfl, rfl, trivial⟩, trivial⟩) ?_
        intro q hq
        refine ex_dec (fun h => ?_) (fun h => ?_)
        · have hql : q < ns.length := by omega
          by_cases hqu : q < us.length
          · have hcn : ns[q]? = some us[q] := by rw [← hns2, List.getElem?_append_left hqu]; exact at_some hqu
            have hct : ts[q]? = some us[q] := by rw [g1, List.getElem?_append_left hqu]; exact at_some hqu
            generalize us[q] = x at *
            repeat' (first | refine ex_i64 ((q + 1 : Nat) : Int) (by omega) (by omega) (by omega) ?_ | refine ex_u64 ((q + 1 : Nat) : Int) (by omega) (by omega) (by omega) ?_ | refine ex_u8 ((q + 1 : Nat) : Int) (by omega) (by omega) (by omega) ?_ | refine (ex_agg (by kernel_rfl) true (eqTokT _ _ _ _ _)) ?_ | refine (ex_row q x rfl hct) ?_ | refine (ex_row q x rfl hcn) ?_ | refine ex_true (by first | decide | omega | assumption | (with_reducible exact rfl)) ?_ | refine ex_false (by first | decide | omega | assumption | exact (fun h => h rfl)) ?_ | refine ex_dec (fun _ => ?_) (fun _ => ?_) | refine ex_u8 _ rfl (by omega) (by omega) ?_ | refine ex_i64 _ rfl (by omega) (by omega) ?_ | refine ex_u64 _ rfl (by omega) (by omega) ?_ | refine and_mk (by first | omega | (show drawOk _ _ _ = true; kernel_rfl)) ?_ | refine and_mk ⟨_, rfl⟩ ?_ | refine ex_is _ (List.length_map _) ?_ | refine ex_is _ List.length_nil ?_ | fail "no step")
            exact ex_round (q + 1) (by show q + 1 ≤ ns.length; omega) (by show _ - _ < _ - _; omega) (SLe.of ⟨⟨rfl, rfl, rfl, rfl, rfl, rfl, trivial⟩, trivial⟩)
          · have hqm : q - us.length < ms.length := by omega
            have hcm : ms[q - us.length]? = some ms[q - us.length] := at_some hqm
            have hcn : ns[q]? = some (shiftT l' ms[q - us.length]) := by rw [← hns2, List.getElem?_append_right (by omega), List.getElem?_map, hcm]; rfl
            have hli := hline _ (List.getElem_mem hqm)
            generalize ms[q - us.length] = m at *
            repeat' (first | refine ex_i64 ((q + 1 : Nat) : Int) (by omega) (by omega) (by omega) ?_ | refine ex_u64 ((q + 1 : Nat) : Int) (by omega) (by omega) (by omega) ?_ | refine ex_u8 ((q + 1 : Nat) : Int) (by omega) (by omega) (by omega) ?_ | refine ex_i64 ((m.l + l' : Nat) : Int) (by omega) (by omega) (by omega) ?_ | refine ex_u64 ((m.l + l' : Nat) : Int) (by omega) (by omega) (by omega) ?_ | refine ex_u8 ((m.l + l' : Nat) : Int) (by omega) (by omega) (by omega) ?_ | refine ex_i64 ((q - us.length : Nat) : Int) (by omega) (by omega) (by omega) ?_ | refine ex_u64 ((q - us.length : Nat) : Int) (by omega) (by omega) (by omega) ?_ | refine ex_u8 ((q - us.length : Nat) : Int) (by omega) (by omega) (by omega) ?_ | refine (ex_agg (by kernel_rfl) true (eqTokT _ _ _ _ _)) ?_ | refine (ex_row (q - us.length) m rfl hcm) ?_ | refine (ex_row q (shiftT l' m) rfl hcn) ?_ | refine ex_true (by first | decide | omega | assumption | (with_reducible exact rfl)) ?_ | refine ex_false (by first | decide | omega | assumption | exact (fun h => h rfl)) ?_ | refine ex_dec (fun _ => ?_) (fun _ => ?_) | refine ex_u8 _ rfl (by omega) (by omega) ?_ | refine ex_i64 _ rfl (by omega) (by omega) ?_ | refine ex_u64 _ rfl (by omega) (by omega) ?_ | refine and_mk (by first | omega | (show drawOk _ _ _ = true; kernel_rfl)) ?_ | refine and_mk ⟨_, rfl⟩ ?_ | refine ex_is _ (List.length_map _) ?_ | refine ex_is _ List.length_nil ?_ | fail "no step")
            exact ex_round (q + 1) (by show q + 1 ≤ ns.length; omega) (by show _ - _ < _ - _; omega) (SLe.of ⟨⟨rfl, rfl, rfl, rfl, rfl, rfl, trivial⟩, trivial⟩)
        · repeat' (first | refine ex_true (by first | decide | omega | assumption | (with_reducible exact rfl)) ?_ | refine ex_false (by first | decide | omega | assumption | exact (fun h => h rfl)) ?_ | refine ex_dec (fun _ => ?_) (fun _ => ?_) | refine ex_u8 _ rfl (by omega) (by omega) ?_ | refine ex_i64 _ rfl (by omega) (by omega) ?_ | refine ex_u64 _ rfl (by omega) (by omega) ?_ | refine and_mk (by first | omega | (show drawOk _ _ _ = true; kernel_rfl)) ?_ | refine and_mk ⟨_, rfl⟩ ?_ | refine ex_is _ (List.length_map _) ?_ | refine ex_is _ List.length_nil ?_ | fail "no step")
          exact TLe.rfl
      · have hle := lexV_err (hV2.trans hR2)
        refine fn_rule (C := ⟨Tryd.prog, layF, Tryd.f6.ntmps, ΓL, 0, [], []⟩) layF_ok mixed Tryd.func6 rfl (by kernel_rfl) rfl rfl rfl ?_
        repeat' (first | refine ex_call hsf ?_ | refine ex_call hcn ?_ | refine ex_call hw ?_ | refine ex_call hcut ?_ | refine ex_call h3 ?_ | refine ex_call h2 ?_ | refine ex_call h1 ?_ | refine ex_i64 ((l2 + l' : Nat) : Int) (by omega) (by omega) (by omega) ?_ | refine ex_u64 ((l2 + l' : Nat) : Int) (by omega) (by omega) (by omega) ?_ | refine ex_u8 ((l2 + l' : Nat) : Int) (by omega) (by omega) (by omega) ?_ | refine ex_i64 ((l' : Nat) : Int) (by omega) (by omega) (by omega) ?_ | refine ex_u64 ((l' : Nat) : Int) (by omega) (by omega) (by omega) ?_ | refine ex_u8 ((l' : Nat) : Int) (by omega) (by omega) (by omega) ?_ | refine (ex_agg (by kernel_rfl) true (eqPosT _ _)) ?_ | refine (ex_is (c : Int) m3) ?_ | refine (ex_is (b : Int) m2) ?_ | refine (ex_is (a : Int) m1) ?_ | refine ex_true (by first | decide | omega | assumption | (with_reducible exact rfl)) ?_ | refine ex_false (by first | decide | omega | assumption | exact (fun h => h rfl)) ?_ | refine ex_dec (fun _ => ?_) (fun _ => ?_) | refine ex_u8 _ rfl (by omega) (by omega) ?_ | refine ex_i64 _ rfl (by omega) (by omega) ?_ | refine ex_u64 _ rfl (by omega) (by omega) ?_ | refine and_mk (by first | omega | (show drawOk _ _ _ = true; kernel_rfl)) ?_ | refine and_mk ⟨_, rfl⟩ ?_ | refine ex_is _ (List.length_map _) ?_ | refine ex_is _ List.length_nil ?_ | fail "no step")
        exact TLe.rfl
    · rcases hR2 : lexV T with ms | ⟨l2, c2, er2⟩ <;> rw [hR2] at h2 <;> rcases hR3 : lexV (S ++ 47 :: 47 :: (N ++ 10 :: T)) with ns | ⟨l3, c3, er3⟩ <;> rw [hR3] at h3
      all_goals
        refine fn_rule (C := ⟨Tryd.prog, layF, Tryd.f6.ntmps, ΓL, 0, [], []⟩) layF_ok mixed Tryd.func6 rfl (by kernel_rfl) rfl rfl rfl ?_
        repeat' (first | refine ex_call hsf ?_ | refine ex_call hcn ?_ | refine ex_call hw ?_ | refine ex_call hcut ?_ | refine ex_call h3 ?_ | refine ex_call h2 ?_ | refine ex_call h1 ?_ | refine (ex_is (c : Int) m3) ?_ | refine (ex_is (b : Int) m2) ?_ | refine (ex_is (a : Int) m1) ?_ | refine ex_true (by first | decide | omega | assumption | (with_reducible exact rfl)) ?_ | refine ex_false (by first | decide | omega | assumption | exact (fun h => h rfl)) ?_ | refine ex_dec (fun _ => ?_) (fun _ => ?_) | refine ex_u8 _ rfl (by omega) (by omega) ?_ | refine ex_i64 _ rfl (by omega) (by omega) ?_ | refine ex_u64 _ rfl (by omega) (by omega) ?_ | refine and_mk (by first | omega | (show drawOk _ _ _ = true; kernel_rfl)) ?_ | refine and_mk ⟨_, rfl⟩ ?_ | refine ex_is _ (List.length_map _) ?_ | refine ex_is _ List.length_nil ?_ | fail "no step")
        exact TLe.rfl
  · have he1 := lexV_err hR1
    rcases hR2 : lexV T with ms | ⟨l2, c2, er2⟩ <;> rw [hR2] at h2 <;> rcases hR3 : lexV (S ++ 47 :: 47 :: (N ++ 10 :: T)) with ns | ⟨l3, c3, er3⟩ <;> rw [hR3] at h3
    all_goals
      refine fn_rule (C := ⟨Tryd.prog, layF, Tryd.f6.ntmps, ΓL, 0, [], []⟩) layF_ok mixed Tryd.func6 rfl (by kernel_rfl) rfl rfl rfl ?_
      repeat' (first | refine ex_call hsf ?_ | refine ex_call hcn ?_ | refine ex_call hw ?_ | refine ex_call hcut ?_ | refine ex_call h3 ?_ | refine ex_call h2 ?_ | refine ex_call h1 ?_ | refine (ex_is (c : Int) m3) ?_ | refine (ex_is (b : Int) m2) ?_ | refine (ex_is (a : Int) m1) ?_ | refine ex_true (by first | decide | omega | assumption | (with_reducible exact rfl)) ?_ | refine ex_false (by first | decide | omega | assumption | exact (fun h => h rfl)) ?_ | refine ex_dec (fun _ => ?_) (fun _ => ?_) | refine ex_u8 _ rfl (by omega) (by omega) ?_ | refine ex_i64 _ rfl (by omega) (by omega) ?_ | refine ex_u64 _ rfl (by omega) (by omega) ?_ | refine and_mk (by first | omega | (show drawOk _ _ _ = true; kernel_rfl)) ?_ | refine and_mk ⟨_, rfl⟩ ?_ | refine ex_is _ (List.length_map _) ?_ | refine ex_is _ List.length_nil ?_ | fail "no step")
      exact TLe.rfl
end Go.Proofs.YtokhlojibhegnaaDoor

namespace Go.Proofs.YtokhlojibhegnaaDoor
set_option linter.unusedVariables false
set_option linter.unusedSimpArgs false
open Go.RowKit
set_option maxRecDepth 100000

theorem rep_l (c : UInt8) : ∀ k, Lib.repeatL [c] k = List.replicate k c
  | 0 => rfl
  | k + 1 => by rw [Lib.repeatL, rep_l c k, List.replicate_succ]; rfl
theorem ex_rows {rows : List (List D)} {K : List UInt8 → Prop} (l : List UInt8) (h : rows = byteRows l) (k : K l) : ∃ l, rows = byteRows l ∧ K l := ⟨l, h, k⟩
theorem ex_at0 {rows : List (List D)} {r : List D} {K : List D → Prop} (h : rows[(0 : Int).toNat]? = some r) (k : K r) : ∃ r, 0 ≤ (0 : Int) ∧ rows[(0 : Int).toNat]? = some r ∧ K r := ⟨r, by decide, h, k⟩
theorem word_cases {k : Nat} (h1 : 1 ≤ k) (h2 : k ≤ 40) : (∃ t e, lexV (bigW 120 k) = .ok [t, e] ∧ k ≤ 32 ∧ t.t = List.replicate k 120 ∧ t.l = 1 ∧ t.c = 2) ∨ (lexV (bigW 120 k) = .err 1 2 7 ∧ 32 < k) := by
  have h := words_ok ⟨k - 1, by omega⟩
  rw [show (⟨k - 1, by omega⟩ : Fin 40).val + 1 = k by show k - 1 + 1 = k; omega] at h
  have hV : lexV (bigW 120 k) = lexF (bigW 120 k) 1 1 := by unfold lexV bigW; rw [if_pos (by simp; omega)]
  rw [hV]
  unfold okWord at h
  split at h
  · rename_i t e he
    simp only [Bool.and_eq_true, decide_eq_true_eq, beq_iff_eq] at h
    exact .inl ⟨t, e, he, h.1, h.2.2.1, h.2.2.2.2.1, h.2.2.2.2.2⟩
  · rename_i l c e he
    simp only [Bool.and_eq_true, decide_eq_true_eq, beq_iff_eq] at h
    obtain ⟨h3, rfl, rfl, rfl⟩ := h
    exact .inr ⟨he, h3⟩
  · cases h
theorem num_cases {d k : Nat} (hd : d < 9) (h1 : 1 ≤ k) (h2 : k ≤ 40) : (∃ t e, lexV (bigW (UInt8.ofNat (49 + d)) k) = .ok [t, e] ∧ k ≤ 20 ∧ t.n = repN (1 + d) k ∧ repN (1 + d) k < 18446744073709551616) ∨ (lexV (bigW (UInt8.ofNat (49 + d)) k) = .err 1 2 5 ∧ 20 ≤ k) := by
  have h := nums_ok ⟨d, hd⟩ ⟨k - 1, by omega⟩
  rw [show (⟨k - 1, by omega⟩ : Fin 40).val + 1 = k by show k - 1 + 1 = k; omega] at h
  have h : okNum d k = true := h
  have hV : lexV (bigW (UInt8.ofNat (49 + d)) k) = lexF (bigW (UInt8.ofNat (49 + d)) k) 1 1 := by unfold lexV bigW; rw [if_pos (by simp; omega)]
  rw [hV]
  unfold okNum at h
  split at h
  · rename_i t e he
    simp only [Bool.and_eq_true, decide_eq_true_eq, beq_iff_eq] at h
    exact .inl ⟨t, e, he, h.1, h.2.1, h.2.2⟩
  · rename_i l c e he
    simp only [Bool.and_eq_true, decide_eq_true_eq, beq_iff_eq] at h
    obtain ⟨h3, rfl, rfl, rfl⟩ := h
    exact .inr ⟨he, h3⟩
  · cases h
theorem repN_mono (d : Nat) : ∀ {a b : Nat}, a ≤ b → repN d a ≤ repN d b := by
  intro a b h
  induction h with
  | refl => exact Nat.le_refl _
  | step _ ih => rw [repN]; omega
theorem name_word (k : Nat) (h1 : 1 ≤ k) : nameF (List.replicate k 120) = decide (k ≤ 32) := by
  obtain ⟨j, rfl⟩ : ∃ j, k = j + 1 := ⟨k - 1, by omega⟩
  rw [List.replicate_succ]
  show (decide ((120 :: List.replicate j 120).length ≤ 32) && ((120 :: List.replicate j 120).all alnum && !isDig 120)) = _
  have : (120 :: List.replicate j 120).all alnum = true := by
    rw [List.all_eq_true]
    intro c hc
    rw [← List.replicate_succ] at hc
    rw [List.eq_of_mem_replicate hc]; decide
  rw [this, List.length_cons, List.length_replicate]
  rw [show (true && !isDig 120) = true by decide, Bool.and_true]
set_option maxHeartbeats 4000000 in
theorem lexWords_c (n d : Int) (hn : 0 ≤ n ∧ n < 256) (hd : 0 ≤ d ∧ d < 256) : CallsA Tryd.prog ΓL 7 [c1 (.v (.int .u8 n)), c1 (.v (.int .u8 d))] (Tb true) := by
  obtain ⟨a, rfl⟩ : ∃ a : Nat, n = a := ⟨n.toNat, by omega⟩
  obtain ⟨b, rfl⟩ : ∃ b : Nat, d = b := ⟨d.toNat, by omega⟩
  obtain ⟨k, hk⟩ : ∃ k, a % 40 + 1 = k := ⟨_, rfl⟩
  obtain ⟨g, hg⟩ : ∃ g, b % 9 = g := ⟨_, rfl⟩
  have hk1 : 1 ≤ k := by omega
  have hk2 : k ≤ 40 := by omega
  have hg9 : g < 9 := by omega
  have r1 : ((a : Nat) : Int).tmod 40 = ((a % 40 : Nat) : Int) := by rw [Int.tmod_eq_emod_of_nonneg (by omega)]; rfl
  have r2 : ((b : Nat) : Int).tmod 9 = ((g : Nat) : Int) := by rw [Int.tmod_eq_emod_of_nonneg (by omega), ← hg]; rfl
  have hu : (UInt8.ofNat (49 + g)).toNat = 49 + g := by rw [UInt8.toNat_ofNat']; omega
  have p1 := repeat_c ΓL (bs [120]) k (by omega) (by rw [show (bs [120]).size = 1 from rfl]; omega)
  have p2 := repeat_c ΓL (bs [UInt8.ofNat (49 + g)]) k (by omega) (by rw [show (bs [UInt8.ofNat (49 + g)]).size = 1 from rfl]; omega)
  have rep : ∀ c : UInt8, Lib.repeatL [c] k = List.replicate k c := fun c => rep_l c k
  rw [show (bs [120]).data.toList = [120] from rfl, rep] at p1
  rw [show (bs [UInt8.ofNat (49 + g)]).data.toList = [UInt8.ofNat (49 + g)] from rfl, rep] at p2
  have h1 := lex_c (bigW 120 k)
  have h2 := lex_c (bigW (UInt8.ofNat (49 + g)) k)
  have c1' : bs (bigW 120 k) = ⟨#[32]⟩ ++ bs (List.replicate k 120) := by rw [show (⟨#[32]⟩ : ByteArray) = bs [32] from rfl, bs_app]; rfl
  have c2' : bs (bigW (UInt8.ofNat (49 + g)) k) = ⟨#[32]⟩ ++ bs (List.replicate k (UInt8.ofNat (49 + g))) := by rw [show (⟨#[32]⟩ : ByteArray) = bs [32] from rfl, bs_app]; rfl
  rw [c1'] at h1
  rw [c2'] at h2
  have hw := wakes_c
  have hnm := (name_c (List.replicate k 120) (by rw [List.length_replicate]; omega)).of0 (Γ := ΓL)
  rw [name_word k hk1] at hnm
  have s1 := bs_size (List.replicate k (120 : UInt8))
  have s2 := bs_size (List.replicate k (UInt8.ofNat (49 + g)))
  rw [List.length_replicate] at s1 s2
  have s1' : ({ data := (List.replicate k (120 : UInt8)).toArray } : ByteArray).size = k := s1
  have s2' : ({ data := (List.replicate k (UInt8.ofNat (49 + g))).toArray } : ByteArray).size = k := s2
  have s3 : (⟨#[32]⟩ : ByteArray).size = 1 := rfl
  rcases num_cases hg9 hk1 hk2 with ⟨m, e2, q1, q2, q3, q4⟩ | ⟨q1, q2⟩ <;> rw [q1] at h2 <;> rcases word_cases hk1 hk2 with ⟨t, e1, w1, w2, w3, w4, w5⟩ | ⟨w1, w2⟩ <;> rw [w1] at h1
  · rw [decide_eq_true w2] at hnm
    have hT : tokD t = [di t.k, ds (bs (List.replicate k 120)), du t.n, di ((1 : Nat) : Int), di ((2 : Nat) : Int)] := by unfold tokD; rw [w3, w4, w5]
    have h1 : CallsA Tryd.prog ΓL 8 [c1 (ds (⟨#[32]⟩ ++ bs (List.replicate k 120)))] (.tup [c1 (.sl 5 [[di t.k, ds (bs (List.replicate k 120)), du t.n, di ((1 : Nat) : Int), di ((2 : Nat) : Int)], tokD e1]), gD [di 0, di 0], c1 (di 0)]) := by
      rw [← hT]; exact h1
    have hM : tokD m = [di m.k, ds (bs m.t), du (repN (1 + g) k), di m.l, di m.c] := by unfold tokD; rw [q3]
    have h2 : CallsA Tryd.prog ΓL 8 [c1 (ds (⟨#[32]⟩ ++ bs (List.replicate k (UInt8.ofNat (49 + g)))))] (.tup [c1 (.sl 5 [[di m.k, ds (bs m.t), du (repN (1 + g) k), di m.l, di m.c], tokD e2]), gD [di 0, di 0], c1 (di 0)]) := by
      rw [← hM]; exact h2
    refine fn_rule (C := ⟨Tryd.prog, layF, Tryd.f7.ntmps, ΓL, 0, [], []⟩) layF_ok mixed Tryd.func7 rfl (by kernel_rfl) rfl rfl rfl ?_
    repeat' (first | refine ex_call p2 ?_ | refine ex_call p1 ?_ | refine ex_call hnm ?_ | refine ex_call hw ?_ | refine ex_call h2 ?_ | refine ex_call h1 ?_ | refine ex_i64 (((UInt8.ofNat (49 + g)).toNat : Nat) : Int) (by omega) (by omega) (by omega) ?_ | refine ex_u64 (((UInt8.ofNat (49 + g)).toNat : Nat) : Int) (by omega) (by omega) (by omega) ?_ | refine ex_u8 (((UInt8.ofNat (49 + g)).toNat : Nat) : Int) (by omega) (by omega) (by omega) ?_ | refine ex_i64 ((k : Nat) : Int) (by omega) (by omega) (by omega) ?_ | refine ex_u64 ((k : Nat) : Int) (by omega) (by omega) (by omega) ?_ | refine ex_u8 ((k : Nat) : Int) (by omega) (by omega) (by omega) ?_ | refine (ex_agg (by kernel_rfl) true (eqPosT _ _)) ?_ | refine (ex_at0 rfl) ?_ | refine (ex_rows [UInt8.ofNat (49 + g)] rfl) ?_ | refine (ex_is (2 : Nat) rfl) ?_ | refine (ex_is ((g : Nat) : Int) r2) ?_ | refine (ex_is ((a % 40 : Nat) : Int) r1) ?_ | refine ex_true (by first | decide | omega | assumption | (with_reducible exact rfl)) ?_ | refine ex_false (by first | decide | omega | assumption | exact (fun h => h rfl)) ?_ | refine ex_dec (fun _ => ?_) (fun _ => ?_) | refine ex_u8 _ rfl (by omega) (by omega) ?_ | refine ex_i64 _ rfl (by omega) (by omega) ?_ | refine ex_u64 _ rfl (by omega) (by omega) ?_ | refine and_mk (by first | omega | (show drawOk _ _ _ = true; kernel_rfl)) ?_ | refine and_mk ⟨_, rfl⟩ ?_ | refine ex_is _ (List.length_map _) ?_ | refine ex_is _ List.length_nil ?_ | fail "no step")
    refine ex_loop (X := Nat) (fun q => ⟨[(1, .o (c1 (.v (.int .u8 b)))), (5, Ti k), (11, .o (c1 (.sl 5 [[di m.k, ds (bs m.t), du (repN (1 + g) k), di m.l, di m.c], tokD e2]))), (14, Tu (repN (1 + g) q)), (87, Ti k), (88, Ti q)], [], 3⟩) (fun q => k - q) (fun q => q ≤ k) 0 (Nat.zero_le _) (SLe.of ⟨⟨rfl, rfl, rfl, rfl, rfl, rfl, trivial⟩, trivial⟩) ?_
    intro q hq
    have hmono := repN_mono (1 + g) hq
    have hstep : repN (1 + g) (q + 1) = 10 * repN (1 + g) q + (1 + g) := rfl
    refine ex_dec (fun h => ?_) (fun h => ?_)
    · have hmono2 := repN_mono (1 + g) (show q + 1 ≤ k by omega)
      repeat' (first | refine ex_i64 ((repN (1 + g) (q + 1) : Nat) : Int) (by omega) (by omega) (by omega) ?_ | refine ex_u64 ((repN (1 + g) (q + 1) : Nat) : Int) (by omega) (by omega) (by omega) ?_ | refine ex_u8 ((repN (1 + g) (q + 1) : Nat) : Int) (by omega) (by omega) (by omega) ?_ | refine ex_i64 ((1 + g : Nat) : Int) (by omega) (by omega) (by omega) ?_ | refine ex_u64 ((1 + g : Nat) : Int) (by omega) (by omega) (by omega) ?_ | refine ex_u8 ((1 + g : Nat) : Int) (by omega) (by omega) (by omega) ?_ | refine ex_i64 ((10 * repN (1 + g) q : Nat) : Int) (by omega) (by omega) (by omega) ?_ | refine ex_u64 ((10 * repN (1 + g) q : Nat) : Int) (by omega) (by omega) (by omega) ?_ | refine ex_u8 ((10 * repN (1 + g) q : Nat) : Int) (by omega) (by omega) (by omega) ?_ | refine ex_i64 ((q + 1 : Nat) : Int) (by omega) (by omega) (by omega) ?_ | refine ex_u64 ((q + 1 : Nat) : Int) (by omega) (by omega) (by omega) ?_ | refine ex_u8 ((q + 1 : Nat) : Int) (by omega) (by omega) (by omega) ?_ | refine (ex_is ((g : Nat) : Int) r2) ?_ | refine ex_true (by first | decide | omega | assumption | (with_reducible exact rfl)) ?_ | refine ex_false (by first | decide | omega | assumption | exact (fun h => h rfl)) ?_ | refine ex_dec (fun _ => ?_) (fun _ => ?_) | refine ex_u8 _ rfl (by omega) (by omega) ?_ | refine ex_i64 _ rfl (by omega) (by omega) ?_ | refine ex_u64 _ rfl (by omega) (by omega) ?_ | refine and_mk (by first | omega | (show drawOk _ _ _ = true; kernel_rfl)) ?_ | refine and_mk ⟨_, rfl⟩ ?_ | refine ex_is _ (List.length_map _) ?_ | refine ex_is _ List.length_nil ?_ | fail "no step")
      exact ex_round (q + 1) (by show q + 1 ≤ k; omega) (by show k - _ < k - _; omega) (SLe.of ⟨⟨rfl, rfl, rfl, rfl, rfl, rfl, trivial⟩, trivial⟩)
    · have hqk : q = k := by omega
      subst hqk
      repeat' (first | refine ex_call hw ?_ | refine (ex_at0 rfl) ?_ | refine (ex_is (2 : Nat) rfl) ?_ | refine ex_true (by first | decide | omega | assumption | (with_reducible exact rfl)) ?_ | refine ex_false (by first | decide | omega | assumption | exact (fun h => h rfl)) ?_ | refine ex_dec (fun _ => ?_) (fun _ => ?_) | refine ex_u8 _ rfl (by omega) (by omega) ?_ | refine ex_i64 _ rfl (by omega) (by omega) ?_ | refine ex_u64 _ rfl (by omega) (by omega) ?_ | refine and_mk (by first | omega | (show drawOk _ _ _ = true; kernel_rfl)) ?_ | refine and_mk ⟨_, rfl⟩ ?_ | refine ex_is _ (List.length_map _) ?_ | refine ex_is _ List.length_nil ?_ | fail "no step")
      exact TLe.rfl
  · omega
  · rw [decide_eq_true w2] at hnm
    have hT : tokD t = [di t.k, ds (bs (List.replicate k 120)), du t.n, di ((1 : Nat) : Int), di ((2 : Nat) : Int)] := by unfold tokD; rw [w3, w4, w5]
    have h1 : CallsA Tryd.prog ΓL 8 [c1 (ds (⟨#[32]⟩ ++ bs (List.replicate k 120)))] (.tup [c1 (.sl 5 [[di t.k, ds (bs (List.replicate k 120)), du t.n, di ((1 : Nat) : Int), di ((2 : Nat) : Int)], tokD e1]), gD [di 0, di 0], c1 (di 0)]) := by
      rw [← hT]; exact h1
    refine fn_rule (C := ⟨Tryd.prog, layF, Tryd.f7.ntmps, ΓL, 0, [], []⟩) layF_ok mixed Tryd.func7 rfl (by kernel_rfl) rfl rfl rfl ?_
    repeat' (first | refine ex_call p2 ?_ | refine ex_call p1 ?_ | refine ex_call hnm ?_ | refine ex_call hw ?_ | refine ex_call h2 ?_ | refine ex_call h1 ?_ | refine ex_i64 (((UInt8.ofNat (49 + g)).toNat : Nat) : Int) (by omega) (by omega) (by omega) ?_ | refine ex_u64 (((UInt8.ofNat (49 + g)).toNat : Nat) : Int) (by omega) (by omega) (by omega) ?_ | refine ex_u8 (((UInt8.ofNat (49 + g)).toNat : Nat) : Int) (by omega) (by omega) (by omega) ?_ | refine ex_i64 ((k : Nat) : Int) (by omega) (by omega) (by omega) ?_ | refine ex_u64 ((k : Nat) : Int) (by omega) (by omega) (by omega) ?_ | refine ex_u8 ((k : Nat) : Int) (by omega) (by omega) (by omega) ?_ | refine (ex_agg (by kernel_rfl) true (eqPosT _ _)) ?_ | refine (ex_at0 rfl) ?_ | refine (ex_rows [UInt8.ofNat (49 + g)] rfl) ?_ | refine (ex_is (2 : Nat) rfl) ?_ | refine (ex_is ((g : Nat) : Int) r2) ?_ | refine (ex_is ((a % 40 : Nat) : Int) r1) ?_ | refine ex_true (by first | decide | omega | assumption | (with_reducible exact rfl)) ?_ | refine ex_false (by first | decide | omega | assumption | exact (fun h => h rfl)) ?_ | refine ex_dec (fun _ => ?_) (fun _ => ?_) | refine ex_u8 _ rfl (by omega) (by omega) ?_ | refine ex_i64 _ rfl (by omega) (by omega) ?_ | refine ex_u64 _ rfl (by omega) (by omega) ?_ | refine and_mk (by first | omega | (show drawOk _ _ _ = true; kernel_rfl)) ?_ | refine and_mk ⟨_, rfl⟩ ?_ | refine ex_is _ (List.length_map _) ?_ | refine ex_is _ List.length_nil ?_ | fail "no step")
    exact TLe.rfl
  · rw [decide_eq_false (by omega)] at hnm
    refine fn_rule (C := ⟨Tryd.prog, layF, Tryd.f7.ntmps, ΓL, 0, [], []⟩) layF_ok mixed Tryd.func7 rfl (by kernel_rfl) rfl rfl rfl ?_
    repeat' (first | refine ex_call p2 ?_ | refine ex_call p1 ?_ | refine ex_call hnm ?_ | refine ex_call hw ?_ | refine ex_call h2 ?_ | refine ex_call h1 ?_ | refine ex_i64 (((UInt8.ofNat (49 + g)).toNat : Nat) : Int) (by omega) (by omega) (by omega) ?_ | refine ex_u64 (((UInt8.ofNat (49 + g)).toNat : Nat) : Int) (by omega) (by omega) (by omega) ?_ | refine ex_u8 (((UInt8.ofNat (49 + g)).toNat : Nat) : Int) (by omega) (by omega) (by omega) ?_ | refine ex_i64 ((k : Nat) : Int) (by omega) (by omega) (by omega) ?_ | refine ex_u64 ((k : Nat) : Int) (by omega) (by omega) (by omega) ?_ | refine ex_u8 ((k : Nat) : Int) (by omega) (by omega) (by omega) ?_ | refine (ex_agg (by kernel_rfl) true (eqPosT _ _)) ?_ | refine (ex_rows [UInt8.ofNat (49 + g)] rfl) ?_ | refine (ex_is (2 : Nat) rfl) ?_ | refine (ex_is ((g : Nat) : Int) r2) ?_ | refine (ex_is ((a % 40 : Nat) : Int) r1) ?_ | refine ex_true (by first | decide | omega | assumption | (with_reducible exact rfl)) ?_ | refine ex_false (by first | decide | omega | assumption | exact (fun h => h rfl)) ?_ | refine ex_dec (fun _ => ?_) (fun _ => ?_) | refine ex_u8 _ rfl (by omega) (by omega) ?_ | refine ex_i64 _ rfl (by omega) (by omega) ?_ | refine ex_u64 _ rfl (by omega) (by omega) ?_ | refine and_mk (by first | omega | (show drawOk _ _ _ = true; kernel_rfl)) ?_ | refine and_mk ⟨_, rfl⟩ ?_ | refine ex_is _ (List.length_map _) ?_ | refine ex_is _ List.length_nil ?_ | fail "no step")
    exact TLe.rfl
end Go.Proofs.YtokhlojibhegnaaDoor

namespace Go.Proofs.YtokhlojibhegnaaDoor
set_option linter.unusedVariables false
set_option linter.unusedSimpArgs false
open Go.ChangeShapes Go.WideShapes Go.ChangeAt Go.RowKit

def tilesF (P : Program) : Nat → List Field → Nat → Bool
  | o, [], n => Nat.beq o n
  | o, f :: fs, n => Nat.beq f.offset o && tilesF P (o + P.cellsOf f.type) fs n
/-- Is a type one that is read, to so many levels? -/
def okT (P : Program) : Nat → TypeId → Bool
  | 0, _ => false
  | d + 1, t => match P.underlying t with
    | some .bool | some (.int _) | some .string => true
    | some (.slice e) => Nat.blt 0 (P.cellsOf e) && okT P d e
    | some (.array n e) => Nat.beq (n * P.cellsOf e) (P.cellsOf t) && okT P d e
    | some (.struct fs) => tilesF P 0 fs.toList (P.cellsOf t) && fs.toList.all fun f => okT P d f.type
    | _ => false
/-- What the cells of a value of a type read as. -/
def DT (P : Program) : Nat → TypeId → List D → Prop
  | 0, _, _ => False
  | d + 1, t, ds => match P.underlying t with
    | some .bool => ∃ b, ds = [.v (.bool b)]
    | some (.int k) => ∃ z, ds = [.v (.int k z)] ∧ (Lit.int k z).wf = true
    | some .string => ∃ s, ds = [.v (.string s)] ∧ s.size ≤ maxLen
    | some (.slice e) => ∃ rows, ds = [.sl (P.cellsOf e) rows] ∧ rows.length ≤ maxLen ∧ ∀ r ∈ rows, DT P d e r
    | some (.array n e) => ∃ ps : List (List D), ps.length = n ∧ ds = ps.flatten ∧ ∀ p ∈ ps, DT P d e p
    | some (.struct fs) => ∃ ps : List (List D), ds = ps.flatten ∧ All2 (fun (f : Field) p => DT P d f.type p) fs.toList ps
    | _ => False
theorem choose_list {α : Type} {Q : Nat → α → Prop} : ∀ {n : Nat}, (∀ i, i < n → ∃ a, Q i a) → ∃ L : List α, L.length = n ∧ ∀ i a, L[i]? = some a → Q i a
  | 0, _ => ⟨[], rfl, fun i a h => by simp at h⟩
  | n + 1, h => by
    obtain ⟨L, h1, h2⟩ := choose_list (n := n) (fun i hi => h i (by omega))
    obtain ⟨a, ha⟩ := h n (by omega)
    refine ⟨L ++ [a], by simp [h1], fun i b hb => ?_⟩
    rw [List.getElem?_append] at hb
    split at hb
    · exact h2 i b hb
    · rename_i hlt
      have hi : i - L.length = 0 := by
        rcases Nat.eq_zero_or_pos (i - L.length) with h | h
        · exact h
        · rw [List.getElem?_eq_none (by simp; omega)] at hb; cases hb
      rw [hi] at hb
      simp at hb
      obtain rfl : i = n := by omega
      rw [← hb]; exact ha
theorem flatten_at {α : Type} {size : Nat} (h0 : 0 < size) : ∀ {rows : List (List α)} (_ : ∀ r ∈ rows, r.length = size) {j : Nat} {d : α}, rows.flatten[j]? = some d → ∃ r, rows[j / size]? = some r ∧ r[j % size]? = some d
  | [], _, j, d, h => by simp at h
  | a :: rows, hr, j, d, h => by
    have ha := hr a (by simp)
    by_cases hj : j < size
    · rw [List.flatten_cons, List.getElem?_append_left (by omega)] at h
      rw [Nat.div_eq_of_lt hj, Nat.mod_eq_of_lt hj]
      exact ⟨a, rfl, h⟩
    · rw [List.flatten_cons, List.getElem?_append_right (by omega), ha] at h
      obtain ⟨r, h1, h2⟩ := flatten_at h0 (fun r hr' => hr r (by simp [hr'])) h
      refine ⟨r, ?_, ?_⟩
      · rw [show j / size = (j - size) / size + 1 by rw [Nat.div_eq_sub_div h0 (by omega)]]
        simpa using h1
      · rw [Nat.mod_eq_sub_mod (by omega)]; exact h2
/-- All memory of a world. -/
def Sall (w : World) : Nat → Prop := fun b => b < w.heap.size
theorem cell_lt {w : World} {a : Addr} {u : Value} (h : w.cell? a = some u) : a.block < w.heap.size ∧ a.spot = none := by
  unfold World.cell? at h
  split at h
  · rename_i c t f hc
    refine ⟨(Array.getElem?_eq_some_iff.1 hc).1, ?_⟩
    split at h
    · cases h
    · rename_i hs
      cases hsp : a.spot with
      | none => rfl
      | some k => rw [hsp] at hs; simp at hs
  · cases h
theorem cells_get {w : World} {base : Nat} {a : Addr} {n : Nat} {cs : List Value} (h : w.cells? base a n = some cs) : cs.length = n ∧ ∀ i, i < n → w.cell? (a.add i) = cs[i]? := by
  unfold World.cells? at h
  split at h
  · obtain ⟨h1, h2⟩ := mapM_isSome h
    rw [List.length_range] at h1
    refine ⟨h1.symm, fun i hi => ?_⟩
    obtain ⟨b, hb1, hb2⟩ := h2 i i (by simp [hi])
    rw [hb1, hb2]
  · cases h
section
variable {H : Type} {enc : TypeId × Value → H} {P : Program} {w : World} {base : Nat} {sp : Nat → Bool} {held : Bool}
theorem parts_all {R : D → Value → Prop} {T : Field → List D → Prop} : ∀ (fs : List Field) (o : Nat) (cs : List Value) (n : Nat), cs.length = n → tilesF P o fs n = true → o ≤ n →
    (∀ f ∈ fs, ∃ ds, T f ds ∧ All2 R ds ((cs.drop f.offset).take (P.cellsOf f.type))) → ∃ ps : List (List D), All2 T fs ps ∧ All2 R ps.flatten (cs.drop o)
  | [], o, cs, n, hl, ht, _, _ => by
    have : o = n := Nat.eq_of_beq_eq_true ht
    exact ⟨[], .nil, by rw [List.drop_of_length_le (by omega)]; exact .nil⟩
  | f :: fs, o, cs, n, hl, ht, ho, h => by
    simp only [tilesF, Bool.and_eq_true] at ht
    have ho' : f.offset = o := Nat.eq_of_beq_eq_true ht.1
    obtain ⟨ds, h1, h2⟩ := h f (by simp)
    have hle : o + P.cellsOf f.type ≤ n := by
      have key : ∀ (fs : List Field) (o : Nat), tilesF P o fs n = true → o ≤ n := fun fs => by
        induction fs with
        | nil => intro o h; exact Nat.le_of_eq (Nat.eq_of_beq_eq_true h)
        | cons g gs ih =>
          intro o h
          simp only [tilesF, Bool.and_eq_true] at h
          have := ih _ h.2
          omega
      exact key fs _ ht.2
    obtain ⟨ps, h3, h4⟩ := parts_all fs _ cs n hl ht.2 hle (fun g hg => h g (by simp [hg]))
    refine ⟨ds :: ps, .cons h1 h3, ?_⟩
    rw [List.flatten_cons, ho'] at *
    have := h2.append h4
    rwa [← List.drop_drop, List.take_append_drop] at this
theorem trod_dt : ∀ (d fuel : Nat) (t : TypeId) (cs : List Value) (x : DataW H × List MemPlace), okT P d t = true → DataW.trod enc P w base sp held fuel t cs = some x → ∃ ds, DT P d t ds ∧ All2 (Imm (Sall w) w) ds cs
  | 0, _, _, _, _, h, _ => by cases h
  | d + 1, fuel, t, cs, x, hok, h => by
    unfold okT at hok
    unfold DT
    split at hok
    · rename_i hu
      obtain ⟨b, rfl, _⟩ := DataW.trod_bool hu h
      exact ⟨_, ⟨b, rfl⟩, .cons (Imm.v rfl) .nil⟩
    · rename_i k hu
      obtain ⟨n, rfl, _, hw⟩ := DataW.trod_int hu h
      exact ⟨_, ⟨n, rfl, hw⟩, .cons (Imm.v rfl) .nil⟩
    · rename_i hu
      obtain ⟨s, rfl, _, hs⟩ := DataW.trod_string hu h
      exact ⟨_, ⟨s, rfl, hs⟩, .cons (Imm.v rfl) .nil⟩
    · rename_i e hu
      simp only [Bool.and_eq_true] at hok
      have h0 : 0 < P.cellsOf e := Nat.lt_of_succ_le (Nat.le_of_ble_eq_true hok.1)
      rcases DataW.trod_slice hu h with ⟨rfl, _⟩ | ⟨a, len, cap, elems, rest, n, _, rfl, _, _, hlc, hcm, hel, hel2, _⟩
      · exact ⟨_, ⟨[], rfl, by simp, by simp⟩, .cons Imm.nil .nil⟩
      · have hone : ∀ i, i < len → ∃ ds, DT P d e ds ∧ ∃ cs', w.cells? base (a.add (i * P.cellsOf e)) (P.cellsOf e) = some cs' ∧ All2 (Imm (Sall w) w) ds cs' := fun i hi => by
          have h1 := hel2 i hi
          rw [List.getElem?_eq_getElem (by omega)] at h1
          obtain ⟨cs', h2, h3⟩ := Option.bind_eq_some_iff.1 h1
          obtain ⟨ds, h4, h5⟩ := trod_dt d n e cs' _ hok.2 h3
          exact ⟨ds, h4, cs', h2, h5⟩
        obtain ⟨rows, hr1, hr2⟩ := choose_list hone
        have hrm : ∀ r ∈ rows, ∃ i, i < len ∧ rows[i]? = some r := fun r hr => by
          obtain ⟨i, hi⟩ := List.getElem?_of_mem hr
          exact ⟨i, by have := (List.getElem?_eq_some_iff.1 hi).1; omega, hi⟩
        have hdt : ∀ r ∈ rows, DT P d e r := fun r hr => by
          obtain ⟨i, _, hi⟩ := hrm r hr
          exact (hr2 i r hi).1
        have hrl : ∀ r ∈ rows, r.length = P.cellsOf e := fun r hr => by
          obtain ⟨i, _, hi⟩ := hrm r hr
          obtain ⟨_, cs', h2, h3⟩ := hr2 i r hi
          rw [h3.len, (cells_get h2).1]
        refine ⟨_, ⟨rows, rfl, by omega, hdt⟩, .cons ?_ .nil⟩
        by_cases hz : len = 0
        · subst hz
          obtain rfl := List.eq_nil_of_length_eq_zero hr1
          exact Imm.sl0
        · obtain ⟨r0, _, cs0, h2, _⟩ := hone 0 (by omega)
          have h3 := (cells_get h2).2 0 h0
          rw [Nat.zero_mul] at h3
          have e0 : (a.add 0).add 0 = a := rfl
          rw [e0, List.getElem?_eq_getElem (by rw [(cells_get h2).1]; exact h0)] at h3
          obtain ⟨hb, hs⟩ := cell_lt h3
          obtain ⟨g, f, spot⟩ := a
          simp only at hs hb
          subst hs
          rw [← hr1]
          have hat : ∀ j dd, rows.flatten[j]? = some dd → ∃ u, w.cell? ⟨g, f + j, none⟩ = some u ∧ Imm (Sall w) w dd u := fun j dd hj => by
            obtain ⟨r, e1, e2⟩ := flatten_at h0 hrl hj
            obtain ⟨_, cs', e3, e4⟩ := hr2 _ r e1
            obtain ⟨u, e5, e6⟩ := e4.at_left e2
            refine ⟨u, ?_, e6⟩
            have e7 := (cells_get e3).2 (j % P.cellsOf e) (Nat.mod_lt _ h0)
            rw [Addr.add_lit, Addr.add_lit, e5] at e7
            rw [← e7]
            congr 2
            rw [Nat.add_assoc, Nat.mul_comm, Nat.div_add_mod]
          refine Imm.sl (fun j => (w.cell? ⟨g, f + j, none⟩).getD undef) hb (by omega) hrl (fun j dd hj => ?_) (fun j dd hj => ?_)
          · obtain ⟨u, e1, _⟩ := hat j dd hj
            rw [e1]; rfl
          · obtain ⟨u, e1, e2⟩ := hat j dd hj
            rw [e1]; exact e2
    · rename_i n e hu
      simp only [Bool.and_eq_true] at hok
      have hn : n * P.cellsOf e = P.cellsOf t := Nat.eq_of_beq_eq_true hok.1
      obtain ⟨xs, m, _, _, hl, hx, hall⟩ := DataW.trod_array hu h
      have hone : ∀ i, i < n → ∃ ds, DT P d e ds ∧ All2 (Imm (Sall w) w) ds ((cs.drop (i * P.cellsOf e)).take (P.cellsOf e)) := fun i hi => by
        have h1 := hall i hi
        rw [List.getElem?_eq_getElem (by omega)] at h1
        exact trod_dt d m e _ _ hok.2 h1
      obtain ⟨ps, hp1, hp2⟩ := choose_list hone
      refine ⟨ps.flatten, ⟨ps, hp1, rfl, fun p hp => ?_⟩, ?_⟩
      · obtain ⟨i, hi⟩ := List.getElem?_of_mem hp
        exact (hp2 i p hi).1
      · have key : ∀ (ps : List (List D)) (o : Nat), (∀ i p, ps[i]? = some p → All2 (Imm (Sall w) w) p ((cs.drop ((o + i) * P.cellsOf e)).take (P.cellsOf e))) → (o + ps.length) * P.cellsOf e = cs.length → All2 (Imm (Sall w) w) ps.flatten (cs.drop (o * P.cellsOf e)) := fun ps => by
          induction ps with
          | nil => intro o _ hlen; rw [List.drop_of_length_le (by simp at hlen; omega)]; exact .nil
          | cons p ps ih =>
            intro o hp hlen
            have h1 := hp 0 p rfl
            have h2 := ih (o + 1) (fun i q hq => by have := hp (i + 1) q (by simpa using hq); rwa [show o + 1 + i = o + (i + 1) by omega]) (by rw [← hlen, List.length_cons]; congr 1; omega)
            rw [List.flatten_cons]
            have := h1.append h2
            rwa [Nat.add_zero, Nat.add_mul, Nat.one_mul, ← List.drop_drop, List.take_append_drop] at this
        have := key ps 0 (fun i p hi => by rw [Nat.zero_add]; exact (hp2 i p hi).2) (by rw [Nat.zero_add, hp1, hn, hl])
        simpa using this
    · rename_i fs hu
      simp only [Bool.and_eq_true] at hok
      obtain ⟨xs, m, _, _, hl, hx, hall⟩ := DataW.trod_struct hu h
      obtain ⟨ps, h1, h2⟩ := parts_all (R := Imm (Sall w) w) (T := fun f p => DT P d f.type p) fs.toList 0 cs _ hl hok.1 (Nat.zero_le _) (fun f hf => by
        obtain ⟨i, hi⟩ := List.getElem?_of_mem hf
        have hlt := (List.getElem?_eq_some_iff.1 hi).1
        have h1 := hall i f (by simpa using hi)
        rw [List.getElem?_eq_getElem (by simp at hlt; omega)] at h1
        exact trod_dt d m f.type _ _ (List.all_eq_true.1 hok.2 f hf) h1)
      exact ⟨ps.flatten, ⟨ps, rfl, h1⟩, by simpa using h2⟩
    · cases hok
/-- An argument that came in reads as data of its type. -/
theorem open_dt {d : Nat} {r : Reach} {b0 : Nat} {t : TypeId} {v : Value} {dd : DataW H} {ps : List MemPlace} (hok : okT P d t = true) (hag : (P.underlying t).map aggD = some false) (hval : Value.okWide P w r b0 t v) (hd : DataW.Trod enc P w base sp held t v dd ps) :
    ∃ x, DT P d t [x] ∧ Imm (Sall w) w x v := by
  obtain ⟨fuel, hf⟩ := hd
  obtain ⟨ds, h1, h2⟩ := trod_dt d fuel t _ _ hok hf
  have hone : v.oneCell' = true := by
    cases d with
    | zero => cases hok
    | succ d =>
      unfold okT at hok
      split at hok
      · rename_i hu; obtain ⟨b, rfl⟩ := okWide_bool hu hval; rfl
      · rename_i hu; obtain ⟨n, rfl⟩ := okWide_int hu hval; rfl
      · rename_i hu; obtain ⟨s, rfl⟩ := okWide_string hu hval; rfl
      · rename_i hu; obtain ⟨a, l, c, rfl⟩ := okWide_slice hu hval; rfl
      · rename_i hu; rw [hu] at hag; cases hag
      · rename_i hu; rw [hu] at hag; cases hag
      · cases hok
  rw [oneCell_cells hone] at h2
  have hl := h2.len
  match ds, h2, hl with
  | [x], h2, _ => exact ⟨x, h1, h2.head⟩
end
end Go.Proofs.YtokhlojibhegnaaDoor

namespace Go.Proofs.YtokhlojibhegnaaDoor
set_option linter.unusedVariables false
set_option linter.unusedSimpArgs false
open Go.ChangeShapes Go.WideShapes Go.ChangeAt Go.RowKit Go.ChangeMaps
set_option maxRecDepth 100000

set_option maxRecDepth 100000

theorem iface_open {P : Program} {w : World} {base fuel : Nat} {sp : Nat → Bool} {held : Bool} {enc : TypeId × Value → Unit} {t : TypeId} {l : List Value} {x : DataW Unit × List MemPlace} {ms : Array (String × TypeId)} (hi : P.underlying t = some (.interface ms))
    (hd : DataW.trod enc P w base sp held fuel t l = some x) : l = [.nilIface] ∨ ∃ u v, l = [.iface u v] := by
  cases fuel with
  | zero => cases hd
  | succ f =>
    simp only [DataW.trod, hi] at hd
    split at hd <;> first | exact .inl rfl | exact .inr ⟨_, _, rfl⟩ | (cases hd; done) | (rename_i h1; cases h1; done) | (rename_i h1 h2; cases h1; done) | (rename_i h1 h2 h3; cases h1; done)
theorem errAt_of {W : World} {n : String} {g : Nat} {cs : Array Value} (hg : Tryd.prog.globalNamed n = some g) (hv : W.var? Tryd.prog n = some cs) (h : cs.toList = [.nilIface] ∨ ∃ u v, cs.toList = [.iface u v]) : ErrAt W g ∧ g < W.heap.size := by
  have hc : ∀ ev, cs.toList = [ev] → W.cell? ⟨g, 0, none⟩ = some ev := fun ev he => by
    rw [World.var?_cell hg hv 0]
    have : cs = #[ev] := by cases cs; simpa using he
    rw [this]; rfl
  refine ⟨?_, ?_⟩
  · rcases h with h | ⟨u, v, h⟩
    · exact ⟨_, hc _ h, .inl rfl⟩
    · exact ⟨_, hc _ h, .inr ⟨u, v, rfl⟩⟩
  · unfold World.var? at hv
    rw [hg] at hv
    simp only [Option.bind_some] at hv
    by_cases hl : g < W.heap.size
    · exact hl
    · rw [Array.getElem?_eq_none (by omega)] at hv; cases hv
/-- An array of strings that reads as the table holds the table's strings, cell for cell. -/
theorem cells_of_strs {H : Type} {enc : TypeId × Value → H} {P : Program} {w : World} {base : Nat} {sp : Nat → Bool} {held : Bool} {fuel : Nat} {t e : TypeId} {n : Nat} {cs : List Value} {zs : List (List UInt8)} {p : List MemPlace}
    (ht : P.underlying t = some (.array n e)) (he : P.underlying e = some .string) (hce : P.cellsOf e = 1) (hct : P.cellsOf t = n)
    (h : DataW.trod enc P w base sp held fuel t cs = some (.agg (zs.map fun z => .lit (.string z)), p)) : cs = zs.map fun z => Value.string (bs z) := by
  cases fuel with
  | zero => simp [DataW.trod] at h
  | succ fuel =>
    simp only [DataW.trod, ht, hce, hct, Nat.mul_one] at h
    split at h
    · rename_i hl
      obtain ⟨xs, hm, hx⟩ := Option.map_eq_some_iff.1 h
      have hxs : xs.map (·.1) = zs.map fun z => (DataW.lit (.string z) : DataW H) := by
        have := congrArg Prod.fst hx
        simpa using this
      have hxl : xs.length = n := by simpa using Lib.mapM_length hm
      have hzl : zs.length = n := by
        have := congrArg List.length hxs
        simp at this
        omega
      apply List.ext_getElem?
      intro i
      by_cases hi : i < n
      · obtain ⟨b, hb, hf⟩ := Lib.mapM_at hm i i (by simp [hi])
        obtain ⟨z, hc, rfl, _⟩ := DataW.trod_string he hf
        have h1 : cs[i]? = some (.string z) := by
          have := congrArg (·[0]?) hc
          simpa [List.getElem?_take, List.getElem?_drop] using this
        have h2 : (xs.map (·.1))[i]? = some (DataW.lit (.string z.data.toList) : DataW H) := by simp [hb]
        rw [hxs] at h2
        simp only [List.getElem?_map, Option.map_eq_some_iff, DataW.lit.injEq, Lit.string.injEq] at h2
        obtain ⟨z', hz', rfl⟩ := h2
        simp [h1, hz']
      · rw [List.getElem?_eq_none (by omega), List.getElem?_eq_none (by simp; omega)]
    · cases h
theorem glob_lex {W : World} (h : laidMetH Tryd.prog Rows.lexReadsRow.laid W) (hs : W.ShapedOpen Tryd.prog) : ΓL.G (Sall W) W := by
  obtain ⟨m, hm⟩ := Tryd.laysM145.s1_3 W hs
  rw [MakeChecks.laidMetH_plain _ _ _ (by kernel_rfl)] at h
  obtain ⟨ps, h, -⟩ := h
  obtain ⟨g1, t1, c1, f1, p1, q1, -, -, -, -, h, -⟩ := h
  obtain ⟨g2, t2, c2, f2, p2, q2, -, -, -, -, h, -⟩ := h
  obtain ⟨g3, t3, c3, f3, p3, q3, -, -, -, -, h, -⟩ := h
  obtain ⟨g0, t0, c0, f0, p0, q0, -, -, -, -, h, -⟩ := h
  obtain ⟨g4, t4, c4, f4, p4, q4, hg4, ht4, hv4, hd4, h, -⟩ := h
  obtain ⟨g5, t5, c5, f5, p5, q5, hg5, ht5, hv5, hd5, h, -⟩ := h
  obtain ⟨g6, t6, c6, f6, p6, q6, hg6, ht6, hv6, hd6, h, -⟩ := h
  obtain rfl := Option.some.inj ((show Tryd.prog.globalNamed "strconv.ErrRange" = some 3 by kernel_rfl).symm.trans hg4)
  obtain rfl := Option.some.inj ((show Tryd.prog.globalNamed "strconv.ErrSyntax" = some 2 by kernel_rfl).symm.trans hg5)
  obtain rfl := Option.some.inj ((show Tryd.prog.globalNamed "calliper/lex.signs" = some 0 by kernel_rfl).symm.trans hg6)
  obtain rfl := Option.some.inj ((show (Tryd.prog.globals[3]?).map (·.type) = some 70 by kernel_rfl).symm.trans ht4)
  obtain rfl := Option.some.inj ((show (Tryd.prog.globals[2]?).map (·.type) = some 70 by kernel_rfl).symm.trans ht5)
  obtain rfl := Option.some.inj ((show (Tryd.prog.globals[0]?).map (·.type) = some 76 by kernel_rfl).symm.trans ht6)
  have e4 := errAt_of hg4 hv4 (iface_open Tryd.underlying70 hd4)
  have e5 := errAt_of hg5 hv5 (iface_open Tryd.underlying70 hd5)
  have hc := cells_of_strs (zs := signsL) (n := 29) (t := 76) (e := 9) (by kernel_rfl) (by kernel_rfl) (by kernel_rfl) (by kernel_rfl) hd6
  refine ⟨e5, e4, ⟨m, hm, (cell_lt hm).1⟩, fun j l hj => ?_, ?_⟩
  · rw [World.var?_cell hg6 hv6 j]
    have : c6 = ⟨signsL.map fun z => Value.string (bs z)⟩ := by cases c6; simpa using hc
    rw [this]
    rw [show (⟨signsL.map fun z => Value.string (bs z)⟩ : Array Value) = (signsL.map fun z => Value.string (bs z)).toArray from rfl, List.getElem?_toArray, List.getElem?_map, hj]
    rfl
  · have hv := hv6
    unfold World.var? at hv
    rw [hg6] at hv
    simp only [Option.bind_some] at hv
    show 0 < W.heap.size
    by_cases hl : 0 < W.heap.size
    · exact hl
    · rw [Array.getElem?_eq_none (by omega)] at hv; cases hv
theorem bs_list (s : ByteArray) : bs s.data.toList = s := by simp [bs]
end Go.Proofs.YtokhlojibhegnaaDoor

namespace Go.Proofs.YtokhlojibhegnaaDoor
set_option linter.unusedVariables false
set_option linter.unusedSimpArgs false
open Go.ChangeShapes Go.WideShapes Go.ChangeAt Go.RowKit Go.ChangeMaps
set_option maxRecDepth 100000

theorem lexWords_a (n : Int) (hn : 0 ≤ n ∧ n ≤ 255) (d : Int) (hd : 0 ≤ d ∧ d ≤ 255) : CallsA Tryd.prog ΓL 7 [c1 (.v (.int .u8 n)), c1 (.v (.int .u8 d))] (.o (c1 (db true))) := lexWords_c n d ⟨hn.1, by omega⟩ ⟨hd.1, by omega⟩
namespace lexWords
set_option maxRecDepth 100000 in
theorem lifted (os : Os) (started : os.Started) (H : Type) (enc : TypeId × Value → H) :
    ReturnsInHanded {} Tryd.checked os 7 .any (fun w args => (Rows.lexWordsSpec.pre enc Tryd.prog Tryd.f7 Rows.lexWordsRow.domain false w args ∧ laidMetH Tryd.prog Rows.lexWordsRow.laid w) ∧ sizedMet enc Tryd.prog Tryd.f7 (OpenSpec.ofChange Rows.lexWordsSpec) false w args) (Rows.lexWordsSpec.post enc Tryd.prog Tryd.f7 false true false false) := by
  show ReturnsInHanded {} Tryd.checked os 7 .any ((OpenSpec.ofChange Rows.lexWordsSpec).preRow enc Tryd.prog Tryd.f7 Rows.lexWordsRow.domain false Rows.lexWordsRow.laid) (((OpenSpec.ofChange Rows.lexWordsSpec).at fun _ _ _ => 0).post enc Tryd.prog Tryd.f7 false true false false)
  refine returnsInHanded_of_row (C := Tryd.checked) own started (by kernel_rfl) Tryd.func7
    (ChangeSpec.witness_shaped (enc := enc) (C := Tryd.checked) (os := os) (X := fun w _ => laidMetH Tryd.prog Rows.lexWordsRow.laid w) false (World.laidAll Tryd.prog os Rows.lexWordsRow.laid) #[.int .u8 0, .int .u8 0] 8 (World.laidAll_os _ _ _) (World.shaped_of_ZipB (by kernel_rfl) (by kernel_rfl)) (by kernel_rfl) (by kernel_rfl) (by kernel_rfl)
      (by rw [MakeChecks.laidMetH_plain _ _ _ (by kernel_rfl)]; exact laidMet_laidAll _ (by kernel_rfl) (by kernel_rfl))) ?_
  intro W base args ds gs before hval0 hW _ _ hsz0 hLaid hShaped _
  have hsz : (DataW.weightsEach Tryd.prog (Tryd.f7.params.toList ++ Rows.lexWordsSpec.plain.varTypes Tryd.prog) (ds ++ gs)).all (· ≤ reachBytes) = true := hsz0
  have hval : ∀ (j : Nat) t v, Tryd.f7.params[j]? = some t → args[j]? = some v → Value.okWide Tryd.prog W .any base t v := hval0
  clear hsz0 hval0
  have hW' := hW
  obtain ⟨p, q, hA0, hV, rfl, hfz, hnd⟩ := hW
  have hA : DataW.TrodAll enc Tryd.prog W 0 (fun _ => true) true Tryd.f7.params.toList args.toList ds p := hA0
  clear hA0
  rw [Tryd.params7] at hA hval hsz
  obtain ⟨v0, vs0, d0, ds0, p0, q0, hargs, rfl, rfl, h0, r0⟩ := trodAll_cons hA
  obtain ⟨v1, vs1, d1, ds1, p1, q1, rfl, rfl, rfl, h1, r1⟩ := trodAll_cons r0
  obtain ⟨rfl, rfl, rfl⟩ := trodAll_nil r1
  obtain rfl : args = #[v0, v1] := by cases args; simp_all
  obtain ⟨rfl, rfl⟩ := trodVars_none hV
  obtain ⟨n, rfl, rfl, rfl, hw0⟩ := open_int Tryd.underlying5 (hval 0 5 v0 rfl rfl) h0
  have w_n := wf_u8 hw0
  obtain ⟨digit, rfl, rfl, rfl, hw1⟩ := open_int Tryd.underlying5 (hval 1 5 v1 rfl rfl) h1
  have w_digit := wf_u8 hw1
  refine ((lexWords_a n w_n digit w_digit).2 (Sall W) W [.int .u8 n, .int .u8 digit] (fun _ h => h) (glob_lex hLaid hShaped) (.cons (Imm.v rfl) (.cons (Imm.v rfl) .nil))).mono fun e W' ⟨xr, _, he, hb, _, _, _, hv⟩ => ?_
  obtain rfl := V_v hv
  subst he
  exact ⟨_, rfl, law_post (ds := [_, _]) laidOut hW' rfl (by kernel_rfl) rfl Tryd.underlying4 rfl rfl rfl hb⟩

theorem proved : Rows.LexWordsSaid :=
  OpenClaim.holds_of_wide 7 Tryd.f7 rfl rfl rfl rfl rfl rfl rfl ⟨rfl, rfl, rfl, rfl, rfl⟩ rfl rfl rfl rfl rfl (by kernel_rfl) Tryd.func7 (by kernel_rfl)
    (of_decide_eq_true (by kernel_rfl)) (by unfold Func.isWrapper; first | (rw [if_pos (by decide +kernel)]; kernel_rfl) | (rw [if_neg (by decide +kernel)]; exact ⟨rfl, rfl⟩))
    (fun os started H enc _ => lifted os started H enc)
theorem card : Rows.LexWordsCardSaid :=
  Claim7.holds_tied_plain_at .later [] [.data, .data, .data, .data, .sentinel, .sentinel, .data, .pinned] true (true, "b2643c17bcb111064648ca946656805e92614527f5f2cee52781d51e976775c5") true proved (fun _ h => by cases h) (by kernel_rfl) (fun _ h => by cases h) lexWords_row_tie rfl ⟨rfl, rfl⟩ (by kernel_rfl) rfl
    (fun f fn hf hfn => by
      obtain rfl : f = 7 := Option.some.inj ((show Tryd.prog.funcNamed "calliper/calliperlaw06.LexWords" = some 7 by kernel_rfl).symm.trans hf) |>.symm
      obtain rfl : fn = Tryd.f7 := (Option.some.inj (Tryd.func7.symm.trans hfn)).symm
      exact ⟨by kernel_rfl, fun j t ht => by
        rw [Tryd.params7] at ht
        have hm : t ∈ [5, 5] := by simpa using Array.mem_of_getElem? ht
        have hall : ([5, 5].all fun u => !Tryd.prog.wantsStandIn u) = true := by kernel_rfl
        exact (show Tryd.prog.wantsStandIn t = false by simpa using List.all_eq_true.1 hall t hm)⟩)
    (by kernel_rfl)
end lexWords
end Go.Proofs.YtokhlojibhegnaaDoor
