/- The reference's read and Parse. Conditions: at most 2^24 bytes. -/
import Derived.Test.YtkeehnhamkdogaaDoorQ5
namespace Go.Proofs.YtkeehnhamkdogaaDoor
set_option linter.unusedVariables false
set_option linter.unusedSimpArgs false
open Go.RowKit
set_option maxRecDepth 100000

theorem numQ_e (s : ByteArray) (a : Nat) : ∀ p c g b, numQ s a = .err p c g b → c ≠ 0 := by
  intro p c g b h
  unfold numQ at h
  split at h
  · cases h; decide
  · split at h
    · cases h
    · cases h; decide
theorem hexV_e {s : ByteArray} : ∀ n a acc, s.size < a + n → a ≤ s.size → ∀ p c, hexV s n a acc = .err p c → c ≠ 0
  | 0, a, acc, h1, h2, p, c, h => by omega
  | n + 1, a, acc, h1, h2, p, c, h => by
    rw [hexV] at h
    split at h
    · cases h
    · have hd := digV_next s a
      split at h
      · rename_i b e h3
        cases h
        rw [h3] at hd
        split at hd
        · cases hd
        · cases hd; decide
      · rename_i x b h3
        obtain ⟨rfl, _, h4⟩ := digV_ok h3
        have hd := digV_next s (a + 1)
        split at h
        · rename_i b e h5
          cases h
          rw [h5] at hd
          split at hd
          · cases hd
          · cases hd; decide
        · rename_i y b h5
          obtain ⟨rfl, _, h6⟩ := digV_ok h5
          exact hexV_e n _ _ (by omega) h6 p c h
theorem bytV_e {s : ByteArray} {a : Nat} : ∀ p c, bytV s a = .err p c → c ≠ 0 := by
  intro p c h
  unfold bytV at h
  split at h
  · rename_i h1
    cases h
    unfold mustV at h1
    split at h1
    · cases h1
    · cases h1; decide
  · rename_i u b h1
    obtain ⟨rfl, _, h2⟩ := must_ok h1
    exact hexV_e _ _ _ (by omega) h2 p c h
def FE (f : Nat → Q) (s : ByteArray) : Prop := ∀ a p c g b, a ≤ s.size → f a = .err p c g b → c ≠ 0
theorem loopQ_e {s : ByteArray} {f : Nat → Q} (hf : FE f s) (hfo : ∀ a v b, a ≤ s.size → f a = .ok v b → a < b ∧ b ≤ s.size) {e : UInt8} {k : Int} : ∀ n a acc, s.size < a + n → a ≤ s.size → ∀ p c g b, loopQ s f e k n a acc = .err p c g b → c ≠ 0
  | 0, a, acc, h1, h2, p, c, g, b, h => by omega
  | n + 1, a, acc, h1, h2, p, c, g, b, h => by
    rw [loopQ] at h
    split at h
    · rename_i p' c' g' b' h3
      cases h
      exact hf _ _ _ _ _ h2 h3
    · rename_i v b' h3
      have h4 := hfo _ _ _ h2 h3
      have h5 := passV_ge s b'
      split at h
      · cases h
      · split at h
        · rename_i h6
          exact loopQ_e hf hfo n _ _ (by omega) (next_lt h6 (by decide)).1 p c g b h
        · cases h; decide
theorem listQ_e {s : ByteArray} {f : Nat → Q} (hf : FE f s) (hfo : ∀ a v b, a ≤ s.size → f a = .ok v b → a < b ∧ b ≤ s.size) {k : Int} {a : Nat} (ha : a ≤ s.size) : ∀ p c g b, listQ s f k a = .err p c g b → c ≠ 0 := by
  intro p c g b h
  unfold listQ at h
  split at h
  · cases h
  · exact loopQ_e hf hfo _ _ _ (by omega) (passV_le s ha) p c g b h
theorem rq_e {r : R PV} (h : ∀ p c, r = .err p c → c ≠ 0) : ∀ p c g b, r.q = .err p c g b → c ≠ 0 := by
  intro p c g b h1
  cases r with
  | ok v a => cases h1
  | err a e => cases h1; exact h _ _ rfl
theorem atQ_e {s : ByteArray} {f : Nat → Q} (hf : FE f s) (hfo : ∀ a v b, a ≤ s.size → f a = .ok v b → a < b ∧ b ≤ s.size) {a : Nat} {d : Bool} : ∀ p c g b, atQ s a d f = .err p c g b → c ≠ 0 := by
  intro p c g b h
  unfold atQ at h
  have z8 : ∀ a', Q.err a' 8 zeroV a' = .err p c g b → c ≠ 0 := fun a' h => by cases h; decide
  split at h
  · rename_i h1; have := at_lt h1
    split at h
    · exact z8 _ h
    · exact listQ_e hf hfo (by omega) _ _ _ _ h
  · split at h
    · rename_i h1; have := at_lt h1
      split at h
      · exact z8 _ h
      · exact listQ_e hf hfo (by omega) _ _ _ _ h
    · split at h
      · split at h
        · exact z8 _ h
        · exact numQ_e _ _ _ _ _ _ h
      · split at h
        · split at h
          · exact z8 _ h
          · cases h
        · split at h
          · split at h
            · exact z8 _ h
            · exact rq_e bytV_e _ _ _ _ h
          · cases h; decide
theorem valQ_ok (s : ByteArray) (n a : Nat) (v : PV) (b : Nat) (ha : a ≤ s.size) (h : valQ s n a = .ok v b) : a < b ∧ b ≤ s.size :=
  valV_ok s n a v b ha (by rw [← valQ_r, h]; rfl)
theorem valQ_e (s : ByteArray) : ∀ n, FE (valQ s n) s
  | 0 => fun a p c g b ha h => atQ_e (s := s) (f := fun _ => .err 0 8 zeroV 0) (fun _ _ _ _ _ _ h => by cases h; decide) (fun _ _ _ _ h => by cases h) (d := true) p c g b (by exact h)
  | n + 1 => fun a p c g b ha h => atQ_e (valQ_e s n) (valQ_ok s n) p c g b h
theorem rread_step (s : ByteArray) (hs : s.size ≤ 16777216) (n : Nat) (hn : n ≤ 1200) (around : Int) (har : around + n = 1200) (a : Nat) (ha : a ≤ s.size) (T : Q)
    (h0 : n = 0 → atQ s (passV s a) true (fun _ => .err 0 0 zeroV 0) = T)
    (h1 : ∀ m, n = m + 1 → atQ s (passV s a) false (valQ s m) = T ∧ ∀ b, b ≤ s.size → CallsM Tryd.prog ΓS 38 [(0, Sta0 s b)] 1 [.c (.ptr 0 0), c1 (di (around + 1))] (.o (gD (drow (valQ s m b).v))) [(0, (valQ s m b).st s)] []) :
    CallsM Tryd.prog ΓS 38 [(0, Sta0 s a)] 1 [.c (.ptr 0 0), c1 (di around)] (.o (gD (drow T.v))) [(0, T.st s)] [] := by
  have hnx := rnext_c s a 0 0 (by omega) hs
  have hq := passV_le s ha
  by_cases hk : (∃ k : Int, (k = 3 ∨ k = 4) ∧ s.data.toList[passV s a]? = some (if k = 3 then 91 else 123)) ∧ n ≠ 0
  · obtain ⟨⟨k, hk34, hkc⟩, hn0⟩ := hk
    obtain ⟨m, rfl⟩ : ∃ m, n = m + 1 := ⟨n - 1, by omega⟩
    obtain ⟨hT, ih⟩ := h1 m rfl
    have hT : listQ s (valQ s m) k (passV s a + 1) = T := by
      rw [← hT]
      unfold atQ
      rcases hk34 with rfl | rfl
      · rw [if_pos (by rw [hkc]; rfl)]; rfl
      · rw [if_neg (by rw [hkc]; decide), if_pos (by rw [hkc]; rfl)]; rfl
    have := rlist_c s hs around ⟨by omega, by omega⟩ (valQ s m) (fun b hb => by have := valQ_le s m b hb; omega) (valQ_ok s m) (valQ_e s m) ih a ha k hk34 hkc
    rw [hT] at this
    exact this
  · generalize hqe : passV s a = q at *
    have hk1 : n ≠ 0 → s.data.toList[q]? ≠ some 91 := fun hn h => hk ⟨⟨3, .inl rfl, by rw [h]; rfl⟩, hn⟩
    have hk2 : n ≠ 0 → s.data.toList[q]? ≠ some 123 := fun hn h => hk ⟨⟨4, .inr rfl, by rw [h]; rfl⟩, hn⟩
    clear hk
    have han := any_next s q
    obtain ⟨y, hy⟩ : ∃ y, nextV s q = y := ⟨_, rfl⟩
    have e1 : s.data.toList[q]? = some 91 ↔ y = 91 := by rw [← hy, next_some (by decide)]
    have e2 : s.data.toList[q]? = some 123 ↔ y = 123 := by rw [← hy, next_some (by decide)]
    have e3 : s.data.toList[q]? = some 45 ↔ y = 45 := by rw [← hy, next_some (by decide)]
    have e4 : s.data.toList[q]? = some 120 ↔ y = 120 := by rw [← hy, next_some (by decide)]
    have u : ∀ c : UInt8, ((y.toNat : Nat) : Int) = (c.toNat : Nat) ↔ y = c := fun c => u8_eq
    rw [hy] at hnx han
    have hz : n = 0 ∨ n ≠ 0 := by omega
    by_cases h : y = 91
    · subst h
      cases n with
      | zero =>
        obtain rfl : T = .err q 8 zeroV q := by
          rw [← h0 rfl]; unfold atQ
          rw [if_pos (e1.2 rfl)]; rfl
        refine fn_ruleM (C := ⟨Tryd.prog, layF, Tryd.f38.ntmps, ΓS, 1, [], []⟩) layF_ok mixed Tryd.func38 rfl (by kernel_rfl) rfl rfl rfl ?_
        refine ex_false (show ¬ ((0 : Int) ≠ 0) by decide) ?_
        refine ex_callM (CallsM.ren (hnx) [0] 2 rfl rfl rfl rfl) ?_
        refine ex_false (by decide) ?_
        refine ex_true (by omega) ?_
        refine ex_callM (CallsM.ren ((rfail_c s q 0 q 8)) [0] 2 rfl rfl rfl rfl) ?_
        exact ⟨rfl, by show TLe _ (.o (gD (drow (.mk _ _ _ _)))); rw [drow_mk]; exact TLe.nil4, rfl, rfl⟩
      | succ m =>
        exact absurd (e1.2 rfl) (hk1 (by omega))
    by_cases h' : y = 123
    · subst h'
      cases n with
      | zero =>
        obtain rfl : T = .err q 8 zeroV q := by
          rw [← h0 rfl]; unfold atQ
          rw [if_neg (fun h => by have := e1.1 h; revert this; decide), if_pos (e2.2 rfl)]; rfl
        refine fn_ruleM (C := ⟨Tryd.prog, layF, Tryd.f38.ntmps, ΓS, 1, [], []⟩) layF_ok mixed Tryd.func38 rfl (by kernel_rfl) rfl rfl rfl ?_
        refine ex_false (show ¬ ((0 : Int) ≠ 0) by decide) ?_
        refine ex_callM (CallsM.ren (hnx) [0] 2 rfl rfl rfl rfl) ?_
        refine ex_true (by decide) ?_
        refine ex_false (by decide) ?_
        refine ex_true (by omega) ?_
        refine ex_callM (CallsM.ren ((rfail_c s q 0 q 8)) [0] 2 rfl rfl rfl rfl) ?_
        exact ⟨rfl, by show TLe _ (.o (gD (drow (.mk _ _ _ _)))); rw [drow_mk]; exact TLe.nil4, rfl, rfl⟩
      | succ m =>
        exact absurd (e2.2 rfl) (hk2 (by omega))
    rw [← e1] at h
    rw [← e2] at h'
    by_cases hd : anyV s q digL = true
    · have hr := han.1 hd
      cases n with
      | zero =>
        obtain rfl : T = .err q 8 zeroV q := by
          rw [← h0 rfl]; unfold atQ
          rw [if_neg h, if_neg h', if_pos hd]; rfl
        refine fn_ruleM (C := ⟨Tryd.prog, layF, Tryd.f38.ntmps, ΓS, 1, [], []⟩) layF_ok mixed Tryd.func38 rfl (by kernel_rfl) rfl rfl rfl ?_
        refine ex_false (show ¬ ((0 : Int) ≠ 0) by decide) ?_
        refine ex_callM (CallsM.ren (hnx) [0] 2 rfl rfl rfl rfl) ?_
        refine ex_true (by omega) ?_
        refine ex_true (by omega) ?_
        refine ex_true (by omega) ?_
        refine ex_true (by omega) ?_
        refine ex_false (by omega) ?_
        refine ex_false (by omega) ?_
        refine ex_true (by omega) ?_
        refine ex_callM (CallsM.ren ((rfail_c s q 0 q 8)) [0] 2 rfl rfl rfl rfl) ?_
        exact ⟨rfl, by show TLe _ (.o (gD (drow (.mk _ _ _ _)))); rw [drow_mk]; exact TLe.nil4, rfl, rfl⟩
      | succ m =>
        obtain ⟨hT, -⟩ := h1 m rfl
        unfold atQ at hT
        rw [if_neg h, if_neg h', if_pos hd] at hT
        have hT : numQ s q = T := hT
        have hnu := rnumber_c s q hq hs hd
        rw [hT] at hnu
        refine fn_ruleM (C := ⟨Tryd.prog, layF, Tryd.f38.ntmps, ΓS, 1, [], []⟩) layF_ok mixed Tryd.func38 rfl (by kernel_rfl) rfl rfl rfl ?_
        refine ex_false (show ¬ ((0 : Int) ≠ 0) by decide) ?_
        refine ex_callM (CallsM.ren (hnx) [0] 2 rfl rfl rfl rfl) ?_
        refine ex_true (by omega) ?_
        refine ex_true (by omega) ?_
        refine ex_true (by omega) ?_
        refine ex_true (by omega) ?_
        refine ex_false (by omega) ?_
        refine ex_false (by omega) ?_
        refine ex_false (by omega) ?_
        refine ex_false (by omega) ?_
        refine ex_false (by omega) ?_
        refine ex_true (by omega) ?_
        refine ex_true (by omega) ?_
        cases T with
        | ok v b =>
          refine ex_callM (CallsM.ren (hnu) [0] 2 rfl rfl rfl rfl) ?_
          exact ⟨rfl, TLe.rfl, rfl, rfl⟩
        | err p e g b =>
          refine ex_callM (CallsM.ren (hnu) [0] 2 rfl rfl rfl rfl) ?_
          exact ⟨rfl, TLe.rfl, rfl, rfl⟩
    have hd : ¬ anyV s q digL = true := hd
    by_cases h4 : y = 45
    · subst h4
      cases n with
      | zero =>
        obtain rfl : T = .err q 8 zeroV q := by
          rw [← h0 rfl]; unfold atQ
          rw [if_neg h, if_neg h', if_neg hd, if_pos (e3.2 rfl)]; rfl
        refine fn_ruleM (C := ⟨Tryd.prog, layF, Tryd.f38.ntmps, ΓS, 1, [], []⟩) layF_ok mixed Tryd.func38 rfl (by kernel_rfl) rfl rfl rfl ?_
        refine ex_false (show ¬ ((0 : Int) ≠ 0) by decide) ?_
        refine ex_callM (CallsM.ren (hnx) [0] 2 rfl rfl rfl rfl) ?_
        refine ex_true (by decide) ?_
        refine ex_true (by decide) ?_
        refine ex_false (by decide) ?_
        refine ex_true (by omega) ?_
        refine ex_callM (CallsM.ren ((rfail_c s q 0 q 8)) [0] 2 rfl rfl rfl rfl) ?_
        exact ⟨rfl, by show TLe _ (.o (gD (drow (.mk _ _ _ _)))); rw [drow_mk]; exact TLe.nil4, rfl, rfl⟩
      | succ m =>
        obtain ⟨hT, -⟩ := h1 m rfl
        unfold atQ at hT
        rw [if_neg h, if_neg h', if_neg hd, if_pos (e3.2 rfl)] at hT
        have hT : Q.ok zeroV (q + 1) = T := hT
        subst hT
        have hql := at_lt (e3.2 rfl)
        refine fn_ruleM (C := ⟨Tryd.prog, layF, Tryd.f38.ntmps, ΓS, 1, [], []⟩) layF_ok mixed Tryd.func38 rfl (by kernel_rfl) rfl rfl rfl ?_
        refine ex_false (show ¬ ((0 : Int) ≠ 0) by decide) ?_
        refine ex_callM (CallsM.ren (hnx) [0] 2 rfl rfl rfl rfl) ?_
        refine ex_true (by decide) ?_
        refine ex_true (by decide) ?_
        refine ex_false (by decide) ?_
        refine ex_false (by omega) ?_
        refine ex_true (by decide) ?_
        refine ex_i64 (((q + 1 : Nat) : Int)) (by first | rfl | omega | simp) (by omega) (by omega) ?_
        exact ⟨rfl, by show TLe _ (.o (gD (drow (.mk _ _ _ _)))); rw [drow_mk]; exact TLe.nil4, rfl, rfl⟩
    by_cases hx : y = 120
    · subst hx
      cases n with
      | zero =>
        obtain rfl : T = .err q 8 zeroV q := by
          rw [← h0 rfl]; unfold atQ
          rw [if_neg h, if_neg h', if_neg hd, if_neg (fun h => h4 (e3.1 h)), if_pos (e4.2 rfl)]; rfl
        refine fn_ruleM (C := ⟨Tryd.prog, layF, Tryd.f38.ntmps, ΓS, 1, [], []⟩) layF_ok mixed Tryd.func38 rfl (by kernel_rfl) rfl rfl rfl ?_
        refine ex_false (show ¬ ((0 : Int) ≠ 0) by decide) ?_
        refine ex_callM (CallsM.ren (hnx) [0] 2 rfl rfl rfl rfl) ?_
        refine ex_true (by decide) ?_
        refine ex_true (by decide) ?_
        refine ex_true (by decide) ?_
        refine ex_false (by decide) ?_
        refine ex_true (by omega) ?_
        refine ex_callM (CallsM.ren ((rfail_c s q 0 q 8)) [0] 2 rfl rfl rfl rfl) ?_
        exact ⟨rfl, by show TLe _ (.o (gD (drow (.mk _ _ _ _)))); rw [drow_mk]; exact TLe.nil4, rfl, rfl⟩
      | succ m =>
        obtain ⟨hT, -⟩ := h1 m rfl
        unfold atQ at hT
        rw [if_neg h, if_neg h', if_neg hd, if_neg (fun h => h4 (e3.1 h)), if_pos (e4.2 rfl)] at hT
        have hT : (bytV s (q + 1)).q = T := hT
        have hql := at_lt (e4.2 rfl)
        have hby := rbytes_c s q hql hs
        rw [hT] at hby
        refine fn_ruleM (C := ⟨Tryd.prog, layF, Tryd.f38.ntmps, ΓS, 1, [], []⟩) layF_ok mixed Tryd.func38 rfl (by kernel_rfl) rfl rfl rfl ?_
        refine ex_false (show ¬ ((0 : Int) ≠ 0) by decide) ?_
        refine ex_callM (CallsM.ren (hnx) [0] 2 rfl rfl rfl rfl) ?_
        refine ex_true (by decide) ?_
        refine ex_true (by decide) ?_
        refine ex_true (by decide) ?_
        refine ex_false (by decide) ?_
        refine ex_false (by omega) ?_
        refine ex_false (by decide) ?_
        refine ex_true (by decide) ?_
        cases T with
        | ok v b =>
          refine ex_callM (CallsM.ren (hby) [0] 2 rfl rfl rfl rfl) ?_
          exact ⟨rfl, TLe.rfl, rfl, rfl⟩
        | err p e g b =>
          refine ex_callM (CallsM.ren (hby) [0] 2 rfl rfl rfl rfl) ?_
          exact ⟨rfl, TLe.rfl, rfl, rfl⟩
    have hT : T = .err q 4 zeroV q := by
      cases n with
      | zero =>
        rw [← h0 rfl]; unfold atQ
        rw [if_neg h, if_neg h', if_neg hd, if_neg (fun h => h4 (e3.1 h)), if_neg (fun h => hx (e4.1 h))]
      | succ m =>
        rw [← (h1 m rfl).1]; unfold atQ
        rw [if_neg h, if_neg h', if_neg hd, if_neg (fun h => h4 (e3.1 h)), if_neg (fun h => hx (e4.1 h))]
    subst hT
    rw [han] at hd
    refine fn_ruleM (C := ⟨Tryd.prog, layF, Tryd.f38.ntmps, ΓS, 1, [], []⟩) layF_ok mixed Tryd.func38 rfl (by kernel_rfl) rfl rfl rfl ?_
    refine ex_false (show ¬ ((0 : Int) ≠ 0) by decide) ?_
    refine ex_callM (CallsM.ren (hnx) [0] 2 rfl rfl rfl rfl) ?_
    refine ex_true (fun h2 => h (e1.2 ((u 91).1 h2))) ?_
    refine ex_true (fun h2 => h' (e2.2 ((u 123).1 h2))) ?_
    refine ex_true (fun h2 => h4 ((u 45).1 h2)) ?_
    refine ex_true (fun h2 => hx ((u 120).1 h2)) ?_
    refine ex_dec (fun h5 => ?_) (fun h5 => ?_)
    ·
      refine ex_callM (CallsM.ren ((rfail_c s q 0 q 4)) [0] 2 rfl rfl rfl rfl) ?_
      exact ⟨rfl, by show TLe _ (.o (gD (drow (.mk _ _ _ _)))); rw [drow_mk]; exact TLe.nil4, rfl, rfl⟩
    · refine ex_true (by omega) ?_
      refine ex_callM (CallsM.ren ((rfail_c s q 0 q 4)) [0] 2 rfl rfl rfl rfl) ?_
      exact ⟨rfl, by show TLe _ (.o (gD (drow (.mk _ _ _ _)))); rw [drow_mk]; exact TLe.nil4, rfl, rfl⟩
theorem rread_c (s : ByteArray) (hs : s.size ≤ 16777216) : ∀ (n : Nat), n ≤ 1200 → ∀ around : Int, around + n = 1200 → ∀ a, a ≤ s.size →
    CallsM Tryd.prog ΓS 38 [(0, Sta0 s a)] 1 [.c (.ptr 0 0), c1 (di around)] (.o (gD (drow (valQ s n a).v))) [(0, (valQ s n a).st s)] []
  | 0, hn, ar, har, a, ha => rread_step s hs 0 hn ar har a ha _ (fun _ => rfl) (fun m hm => by cases hm)
  | n + 1, hn, ar, har, a, ha => rread_step s hs (n + 1) hn ar har a ha _ (fun h => by cases h) (fun m hm => by
      obtain rfl : n = m := by omega
      exact ⟨rfl, rread_c s hs n (by omega) (ar + 1) (by omega)⟩)
end Go.Proofs.YtkeehnhamkdogaaDoor
