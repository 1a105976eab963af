/- The parser's value. Conditions: as in P1; at most 1200 lists in one another. -/
import Derived.Test.YtkeehnhamkdogaaDoorP3
namespace Go.Proofs.YtkeehnhamkdogaaDoor
set_option linter.unusedVariables false
set_option linter.unusedSimpArgs false
open Go.RowKit
set_option maxRecDepth 100000

abbrev fullL : List UInt8 := [48, 49, 50, 51, 52, 53, 54, 55, 56, 57, 45, 120]
theorem idx_else {c : UInt8} (h1 : c ≠ 91) (h2 : c ≠ 123) : Lib.indexByte [91, 123] c = -1 := by
  have e1 : ((91 : UInt8) == c) = false := by simpa using fun h => h1 h.symm
  have e2 : ((123 : UInt8) == c) = false := by simpa using fun h => h2 h.symm
  simp [Lib.indexByte, e1, e2]
theorem value_step (s : ByteArray) (hs : s.size ≤ 16777216) (n : Nat) (hn : n ≤ 1200) (a : Nat) (ha : a ≤ s.size) (T : R PV)
    (h0 : n = 0 → atV s (passV s a) true (fun _ => .err 0 0) = T)
    (h1 : ∀ m, n = m + 1 → atV s (passV s a) false (valV s m) = T ∧ ∀ b, b ≤ s.size → CallsM Tryd.prog ΓS 35 [(0, Par s b)] 1 [.c (.ptr 0 0), c1 (di m)] (Vtv (valV s m b)) [(0, Par s (valV s m b).at)] []) :
    CallsM Tryd.prog ΓS 35 [(0, Par s a)] 1 [.c (.ptr 0 0), c1 (di n)] (Vtv T) [(0, Par s T.at)] [] := by
  have hp := pass_c s a ha hs
  have hq := passV_le s ha
  generalize hqe : passV s a = q at *
  have hnx := next_c s q hq hs
  have hnv : s.data.toList[q]? = some (nextV s q) ∨ (s.size ≤ q ∧ nextV s q = 0 ∧ s.data.toList[q]? = none) := by
    by_cases h : q < s.size
    · exact .inl (by unfold nextV; rw [s_at h]; rfl)
    · exact .inr ⟨by omega, by unfold nextV; rw [s_none (by omega)]; rfl, s_none (by omega)⟩
  by_cases hk : ∃ k : Int, (k = 3 ∨ k = 4) ∧ s.data.toList[q]? = some (if k = 3 then 91 else 123)
  · obtain ⟨k, hk34, hkc⟩ := hk
    have hql := at_lt hkc
    have hn1 : nextV s q = if k = 3 then 91 else 123 := by unfold nextV; rw [hkc]; rfl
    have hix : CallsA Tryd.prog ΓS 52 [c1 (ds ⟨#[91, 123]⟩), c1 (.v (.int .u8 (nextV s q).toNat))] (Ti (k - 3)) := by
      have := index_c ΓS ⟨#[91, 123]⟩ (nextV s q).toNat
      rw [hn1] at this ⊢
      rcases hk34 with rfl | rfl <;> exact this
    cases n with
    | zero =>
      have hT : T = .err q 8 := by
        rw [← h0 rfl]
        unfold atV
        rcases hk34 with rfl | rfl
        · rw [if_pos (by rw [hkc]; rfl)]; rfl
        · rw [if_neg (by rw [hkc]; decide), if_pos (by rw [hkc]; rfl)]; rfl
      subst hT
      refine fn_ruleM (C := ⟨Tryd.prog, layF, Tryd.f35.ntmps, ΓS, 1, [], []⟩) layF_ok mixed Tryd.func35 rfl (by kernel_rfl) rfl rfl rfl ?_
      refine ex_callM (CallsM.ren (hp) [0] 2 rfl rfl rfl rfl) ?_
      refine ex_callM (CallsM.ren (hnx) [0] 2 rfl rfl rfl rfl) ?_
      refine ex_call (hix) ?_
      refine ex_true (by omega) ?_
      refine ex_true (by omega) ?_
      refine ex_true (by omega) ?_
      refine ⟨by kernel_rfl, ?_⟩
      refine ex_callM (CallsM.ren ((fail_c s q 8)) [0] 2 rfl rfl rfl rfl) ?_
      exact ⟨⟨_, rfl, rfl⟩, rfl, rfl, rfl⟩
    | succ m =>
      obtain ⟨hT, ih⟩ := h1 m rfl
      have hT : listV s (valV s m) k (q + 1) = T := by
        rw [← hT]
        unfold atV
        rcases hk34 with rfl | rfl
        · rw [if_pos (by rw [hkc]; rfl)]; rfl
        · rw [if_neg (by rw [hkc]; decide), if_pos (by rw [hkc]; rfl)]; rfl
      have hl := list_c s hs m (valV s m) (valV_ok s m) k hk34 ih (q + 1) (by omega)
      rw [hT] at hl
      refine fn_ruleM (C := ⟨Tryd.prog, layF, Tryd.f35.ntmps, ΓS, 1, [], []⟩) layF_ok mixed Tryd.func35 rfl (by kernel_rfl) rfl rfl rfl ?_
      refine ex_callM (CallsM.ren (hp) [0] 2 rfl rfl rfl rfl) ?_
      refine ex_callM (CallsM.ren (hnx) [0] 2 rfl rfl rfl rfl) ?_
      refine ex_call (hix) ?_
      refine ex_false (by omega) ?_
      refine ⟨by kernel_rfl, ?_⟩
      refine ex_true (by omega) ?_
      refine ex_true (by omega) ?_
      refine ⟨by kernel_rfl, ?_⟩
      refine ex_i64 (((q + 1 : Nat) : Int)) (by first | rfl | omega | simp) (by omega) (by omega) ?_
      refine ex_i64 (k) (by first | rfl | omega | simp) (by omega) (by omega) ?_
      refine ex_i64 (((m : Nat) : Int)) (by first | rfl | omega | simp) (by omega) (by omega) ?_
      cases T with
      | ok v b =>
        refine ex_callM (CallsM.ren (hl) [0] 2 rfl rfl rfl rfl) ?_
        exact ⟨rfl, TLe.rfl, rfl, rfl⟩
      | err b e =>
        refine ex_callM (CallsM.ren (hl) [0] 2 rfl rfl rfl rfl) ?_
        exact ⟨⟨_, rfl, rfl⟩, rfl, rfl, rfl⟩
  · have hk1 : s.data.toList[q]? ≠ some 91 := fun h => hk ⟨3, .inl rfl, by rw [h]; rfl⟩
    have hk2 : s.data.toList[q]? ≠ some 123 := fun h => hk ⟨4, .inr rfl, by rw [h]; rfl⟩
    have hix : CallsA Tryd.prog ΓS 52 [c1 (ds ⟨#[91, 123]⟩), c1 (.v (.int .u8 (nextV s q).toNat))] (Ti (-1)) := by
      have := index_c ΓS ⟨#[91, 123]⟩ (nextV s q).toNat
      have e : Lib.indexByte (⟨#[91, 123]⟩ : ByteArray).data.toList ((nextV s q).toNat : Int).toNat.toUInt8 = -1 := by
        have e1 : ((nextV s q).toNat : Int).toNat.toUInt8 = nextV s q := by simp
        rw [e1]
        rcases hnv with h | ⟨_, h, _⟩
        · exact idx_else (fun e => hk1 (by rw [h, e])) (fun e => hk2 (by rw [h, e]))
        · rw [h]; exact idx_else (by decide) (by decide)
      rw [e] at this
      exact this
    have had := any_c s q ⟨digL.toArray⟩ hq hs
    rw [show (⟨digL.toArray⟩ : ByteArray).data.toList = digL from rfl] at had
    have haf := any_c s q ⟨fullL.toArray⟩ hq hs
    rw [show (⟨fullL.toArray⟩ : ByteArray).data.toList = fullL from rfl] at haf
    have hm := must_c s q 120 hq hs
    have hfull : anyV s q fullL = true ↔ anyV s q digL = true ∨ s.data.toList[q]? = some 45 ∨ s.data.toList[q]? = some 120 := by
      unfold anyV
      cases s.data.toList[q]? with
      | none => simp
      | some c => simp [fullL, digL, or_assoc]
    have h45 : ((nextV s q).toNat : Int) = 45 ↔ s.data.toList[q]? = some 45 := by
      have e : ((nextV s q).toNat : Int) = 45 ↔ nextV s q = 45 := u8_eq (b := 45)
      rw [e]
      constructor
      · exact fun h => (next_lt h (by decide)).2
      · intro h; unfold nextV; rw [h]; rfl
    cases n with
    | zero =>
      have hT := h0 rfl
      unfold atV at hT
      rw [if_neg hk1, if_neg hk2] at hT
      cases hf : anyV s q fullL with
      | true =>
        have hT : T = .err q 8 := by
          rw [← hT]
          rcases hfull.1 hf with h | h | h
          · rw [if_pos h]; rfl
          · by_cases hd : anyV s q digL = true
            · rw [if_pos hd]; rfl
            · rw [if_neg hd, if_pos h]; rfl
          · by_cases hd : anyV s q digL = true
            · rw [if_pos hd]; rfl
            · rw [if_neg hd, if_neg (by rw [h]; decide), if_pos h]; rfl
        subst hT
        rw [hf] at haf
        refine fn_ruleM (C := ⟨Tryd.prog, layF, Tryd.f35.ntmps, ΓS, 1, [], []⟩) layF_ok mixed Tryd.func35 rfl (by kernel_rfl) rfl rfl rfl ?_
        refine ex_callM (CallsM.ren (hp) [0] 2 rfl rfl rfl rfl) ?_
        refine ex_callM (CallsM.ren (hnx) [0] 2 rfl rfl rfl rfl) ?_
        refine ex_call (hix) ?_
        refine ex_true (by omega) ?_
        refine ex_false (by omega) ?_
        refine ex_callM (CallsM.ren (haf) [0] 2 rfl rfl rfl rfl) ?_
        refine ⟨by kernel_rfl, ?_⟩
        refine ex_callM (CallsM.ren ((fail_c s q 8)) [0] 2 rfl rfl rfl rfl) ?_
        exact ⟨⟨_, rfl, rfl⟩, rfl, rfl, rfl⟩
      | false =>
        have hd : anyV s q digL = false := by
          cases hd : anyV s q digL with
          | false => rfl
          | true => rw [hfull.2 (.inl hd)] at hf; cases hf
        have h4 : s.data.toList[q]? ≠ some 45 := fun h => by rw [hfull.2 (.inr (.inl h))] at hf; cases hf
        have hx : s.data.toList[q]? ≠ some 120 := fun h => by rw [hfull.2 (.inr (.inr h))] at hf; cases hf
        rw [if_neg (by rw [hd]; decide), if_neg h4, if_neg hx] at hT
        subst hT
        rw [hf] at haf
        rw [hd] at had
        rw [show mustV s q 120 = .err q 4 from if_neg hx] at hm
        refine fn_ruleM (C := ⟨Tryd.prog, layF, Tryd.f35.ntmps, ΓS, 1, [], []⟩) layF_ok mixed Tryd.func35 rfl (by kernel_rfl) rfl rfl rfl ?_
        refine ex_callM (CallsM.ren (hp) [0] 2 rfl rfl rfl rfl) ?_
        refine ex_callM (CallsM.ren (hnx) [0] 2 rfl rfl rfl rfl) ?_
        refine ex_call (hix) ?_
        refine ex_true (by omega) ?_
        refine ex_false (by omega) ?_
        refine ex_callM (CallsM.ren (haf) [0] 2 rfl rfl rfl rfl) ?_
        refine ⟨by kernel_rfl, ?_⟩
        refine ex_false (by omega) ?_
        refine ⟨by kernel_rfl, ?_⟩
        refine ex_callM (CallsM.ren (had) [0] 2 rfl rfl rfl rfl) ?_
        refine ex_callM (CallsM.ren (hnx) [0] 2 rfl rfl rfl rfl) ?_
        refine ex_false (fun h => h4 (h45.1 h)) ?_
        refine ex_callM (CallsM.ren (hm) [0] 2 rfl rfl rfl rfl) ?_
        exact ⟨⟨_, rfl, rfl⟩, rfl, rfl, rfl⟩
    | succ m =>
      obtain ⟨hT, -⟩ := h1 m rfl
      unfold atV at hT
      rw [if_neg hk1, if_neg hk2] at hT
      cases hd : anyV s q digL with
      | true =>
        rw [if_pos hd] at hT
        have hT : numV s q = T := hT
        have hnu := number_c s q hq hs hd
        rw [hT] at hnu
        rw [hd] at had
        refine fn_ruleM (C := ⟨Tryd.prog, layF, Tryd.f35.ntmps, ΓS, 1, [], []⟩) layF_ok mixed Tryd.func35 rfl (by kernel_rfl) rfl rfl rfl ?_
        refine ex_callM (CallsM.ren (hp) [0] 2 rfl rfl rfl rfl) ?_
        refine ex_callM (CallsM.ren (hnx) [0] 2 rfl rfl rfl rfl) ?_
        refine ex_call (hix) ?_
        refine ex_false (by omega) ?_
        refine ⟨by kernel_rfl, ?_⟩
        refine ex_false (by omega) ?_
        refine ⟨by kernel_rfl, ?_⟩
        refine ex_callM (CallsM.ren (had) [0] 2 rfl rfl rfl rfl) ?_
        cases T with
        | ok v b =>
          refine ex_callM (CallsM.ren (hnu) [0] 2 rfl rfl rfl rfl) ?_
          exact ⟨rfl, TLe.rfl, rfl, rfl⟩
        | err b e =>
          refine ex_callM (CallsM.ren (hnu) [0] 2 rfl rfl rfl rfl) ?_
          exact ⟨⟨_, rfl, rfl⟩, rfl, rfl, rfl⟩
      | false =>
        rw [if_neg (by rw [hd]; decide)] at hT
        rw [hd] at had
        by_cases h4 : s.data.toList[q]? = some 45
        · have hql := at_lt h4
          rw [if_pos h4] at hT
          have hT : .ok (.mk 0 0 ⟨#[]⟩ []) (q + 1) = T := hT
          subst hT
          refine fn_ruleM (C := ⟨Tryd.prog, layF, Tryd.f35.ntmps, ΓS, 1, [], []⟩) layF_ok mixed Tryd.func35 rfl (by kernel_rfl) rfl rfl rfl ?_
          refine ex_callM (CallsM.ren (hp) [0] 2 rfl rfl rfl rfl) ?_
          refine ex_callM (CallsM.ren (hnx) [0] 2 rfl rfl rfl rfl) ?_
          refine ex_call (hix) ?_
          refine ex_false (by omega) ?_
          refine ⟨by kernel_rfl, ?_⟩
          refine ex_false (by omega) ?_
          refine ⟨by kernel_rfl, ?_⟩
          refine ex_callM (CallsM.ren (had) [0] 2 rfl rfl rfl rfl) ?_
          refine ex_callM (CallsM.ren (hnx) [0] 2 rfl rfl rfl rfl) ?_
          refine ex_true (h45.2 h4) ?_
          refine ex_i64 (((q + 1 : Nat) : Int)) (by first | rfl | omega | simp) (by omega) (by omega) ?_
          exact ⟨rfl, by show TLe _ (.o (gD (drow _))); rw [drow_mk]; exact TLe.nil4, rfl, rfl⟩
        · rw [if_neg h4] at hT
          by_cases hx : s.data.toList[q]? = some 120
          · have hql := at_lt hx
            rw [if_pos hx] at hT
            have hT : bytV s (q + 1) = T := hT
            have hby := bytes_c s (q + 1) (by omega) hs
            rw [hT] at hby
            rw [show mustV s q 120 = .ok () (q + 1) from if_pos hx] at hm
            refine fn_ruleM (C := ⟨Tryd.prog, layF, Tryd.f35.ntmps, ΓS, 1, [], []⟩) layF_ok mixed Tryd.func35 rfl (by kernel_rfl) rfl rfl rfl ?_
            refine ex_callM (CallsM.ren (hp) [0] 2 rfl rfl rfl rfl) ?_
            refine ex_callM (CallsM.ren (hnx) [0] 2 rfl rfl rfl rfl) ?_
            refine ex_call (hix) ?_
            refine ex_false (by omega) ?_
            refine ⟨by kernel_rfl, ?_⟩
            refine ex_false (by omega) ?_
            refine ⟨by kernel_rfl, ?_⟩
            refine ex_callM (CallsM.ren (had) [0] 2 rfl rfl rfl rfl) ?_
            refine ex_callM (CallsM.ren (hnx) [0] 2 rfl rfl rfl rfl) ?_
            refine ex_false (fun h => h4 (h45.1 h)) ?_
            refine ex_callM (CallsM.ren (hm) [0] 2 rfl rfl rfl rfl) ?_
            cases T with
            | ok v b =>
              refine ex_callM (CallsM.ren (hby) [0] 2 rfl rfl rfl rfl) ?_
              exact ⟨rfl, TLe.rfl, rfl, rfl⟩
            | err b e =>
              refine ex_callM (CallsM.ren (hby) [0] 2 rfl rfl rfl rfl) ?_
              exact ⟨⟨_, rfl, rfl⟩, rfl, rfl, rfl⟩
          · rw [if_neg hx] at hT
            subst hT
            rw [show mustV s q 120 = .err q 4 from if_neg hx] at hm
            refine fn_ruleM (C := ⟨Tryd.prog, layF, Tryd.f35.ntmps, ΓS, 1, [], []⟩) layF_ok mixed Tryd.func35 rfl (by kernel_rfl) rfl rfl rfl ?_
            refine ex_callM (CallsM.ren (hp) [0] 2 rfl rfl rfl rfl) ?_
            refine ex_callM (CallsM.ren (hnx) [0] 2 rfl rfl rfl rfl) ?_
            refine ex_call (hix) ?_
            refine ex_false (by omega) ?_
            refine ⟨by kernel_rfl, ?_⟩
            refine ex_false (by omega) ?_
            refine ⟨by kernel_rfl, ?_⟩
            refine ex_callM (CallsM.ren (had) [0] 2 rfl rfl rfl rfl) ?_
            refine ex_callM (CallsM.ren (hnx) [0] 2 rfl rfl rfl rfl) ?_
            refine ex_false (fun h => h4 (h45.1 h)) ?_
            refine ex_callM (CallsM.ren (hm) [0] 2 rfl rfl rfl rfl) ?_
            exact ⟨⟨_, rfl, rfl⟩, rfl, rfl, rfl⟩
theorem value_c (s : ByteArray) (hs : s.size ≤ 16777216) : ∀ (n : Nat), n ≤ 1200 → ∀ a, a ≤ s.size →
    CallsM Tryd.prog ΓS 35 [(0, Par s a)] 1 [.c (.ptr 0 0), c1 (di n)] (Vtv (valV s n a)) [(0, Par s (valV s n a).at)] []
  | 0, hn, a, ha => value_step s hs 0 hn a ha _ (fun _ => rfl) (fun m hm => by cases hm)
  | n + 1, hn, a, ha => value_step s hs (n + 1) hn a ha _ (fun h => by cases h) (fun m hm => by
      obtain rfl : n = m := by omega
      exact ⟨rfl, value_c s hs n (by omega)⟩)
end Go.Proofs.YtkeehnhamkdogaaDoor
