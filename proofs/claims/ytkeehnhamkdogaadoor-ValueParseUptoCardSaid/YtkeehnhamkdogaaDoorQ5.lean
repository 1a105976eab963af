/- The reference's read over its state. Conditions: at most 2^24 bytes. -/
import Derived.Test.YtkeehnhamkdogaaDoorQ4
namespace Go.Proofs.YtkeehnhamkdogaaDoor
set_option linter.unusedVariables false
set_option linter.unusedSimpArgs false
open Go.RowKit
set_option maxRecDepth 100000

/-- A list's loop, from its opening bracket on: the rest of read. -/
theorem rlist_c (s : ByteArray) (hs : s.size ≤ 16777216) (around : Int) (har : 0 ≤ around ∧ around < 1200) (f : Nat → Q) (hfb : ∀ a, a ≤ s.size → (f a).at ≤ 33554431) (hfo : ∀ a v b, a ≤ s.size → f a = .ok v b → a < b ∧ b ≤ s.size) (hfe : ∀ a p c g b, a ≤ s.size → f a = .err p c g b → c ≠ 0)
    (ih : ∀ a, a ≤ s.size → CallsM Tryd.prog ΓS 38 [(0, Sta0 s a)] 1 [.c (.ptr 0 0), c1 (di (around + 1))] (.o (gD (drow (f a).v))) [(0, (f a).st s)] [])
    (a : Nat) (ha : a ≤ s.size) (k : Int) (hk : k = 3 ∨ k = 4) (hc : s.data.toList[passV s a]? = some (if k = 3 then 91 else 123)) :
    CallsM Tryd.prog ΓS 38 [(0, Sta0 s a)] 1 [.c (.ptr 0 0), c1 (di around)] (.o (gD (drow (listQ s f k (passV s a + 1)).v))) [(0, (listQ s f k (passV s a + 1)).st s)] [] := by
  have hn0 := rnext_c s a 0 0 (by omega) hs
  have hql := at_lt hc
  generalize passV s a = q at *
  have hy : nextV s q = if k = 3 then 91 else 123 := (next_some (by split <;> decide)).2 hc
  rw [hy] at hn0
  have hn1 := rnext_c s (q + 1) 0 0 (by omega) hs
  have hq1 := passV_le s (a := q + 1) (by omega)
  obtain ⟨T, hT⟩ : ∃ T, listQ s f k (q + 1) = T := ⟨_, rfl⟩
  rw [hT]
  unfold listQ at hT
  generalize passV s (q + 1) = q1 at *
  rcases hk with rfl | rfl
  · rw [show ((if (3 : Int) = 3 then 91 else 123 : UInt8)) = 91 from rfl] at hn0
    rw [show endV 3 = 93 from rfl] at hT
    refine fn_ruleM (C := ⟨Tryd.prog, layF, Tryd.f38.ntmps, ΓS, 1, [], []⟩) layF_ok mixed Tryd.func38 rfl (by kernel_rfl) rfl rfl rfl ?_
    refine ex_false (show ¬ ((0 : Int) ≠ 0) by decide) ?_
    refine ex_callM (CallsM.ren (hn0) [0] 2 rfl rfl rfl rfl) ?_
    refine ex_false (by decide) ?_
    refine ex_false (by omega) ?_
    refine ex_false (by decide) ?_
    refine ex_false (by decide) ?_
    refine ex_false (by decide) ?_
    refine ex_false (by decide) ?_
    refine ex_i64 (((q + 1 : Nat) : Int)) (by first | rfl | omega | simp) (by omega) (by omega) ?_
    refine ex_callM (CallsM.ren (hn1) [0] 3 rfl rfl rfl rfl) ?_
    refine ex_loop (X := Nat × Nat × List PV × Bool × UInt8) (fun x => ⟨[(0, .o (.c (.ptr 0 0))), (1, Ti around), (4, .o (.c (.ptr 1 0))), (6, .o (.c (.ptr 2 0))), (7, .o (c1 (.v (.int .u8 93)))), (8, .o (c1 (.v (.int .u8 x.2.2.2.2.toNat)))), (9, Tb x.2.2.2.1)],
        [(2, .obj [.d (di 3), .d (du 0), .d (ds ⟨#[]⟩), .row 3]), (3, .row 4 30 (x.2.2.1.map drow)), (0, Sta0 s x.2.1), (1, .obj [.d (di 0), .d (du 0), .d (ds ⟨#[]⟩), .d dnil])], 4⟩) (fun x => s.size + 1 - x.2.1)
      (fun x => x.2.1 ≤ s.size ∧ s.size < x.2.1 + x.1 ∧ x.2.2.1.length ≤ x.2.1 ∧ ((x.2.2.2.1 = true ∧ x.2.2.2.2 = 93 ∧ x.2.2.1 = [] ∧ T = .ok (.mk 3 0 ⟨#[]⟩ []) (x.2.1 + 1)) ∨ (x.2.2.2.1 = true ∧ x.2.2.2.2 ≠ 93 ∧ loopQ s f 93 3 x.1 x.2.1 x.2.2.1 = T) ∨ (x.2.2.2.1 = false ∧ x.2.2.2.2 = 44 ∧ loopQ s f 93 3 x.1 x.2.1 x.2.2.1 = T)))
      (s.size + 1, q1, [], true, nextV s q1) ⟨hq1, by show s.size < q1 + (s.size + 1); omega, by show 0 ≤ _; omega, ?_⟩ (SLe.trans (SLe.of ⟨⟨rfl, rfl, rfl, rfl, rfl, rfl, rfl, trivial⟩, ⟨rfl, rfl, rfl, rfl, trivial⟩⟩) (SLe.ownCell 2 3 3 4 30 rfl rfl rfl rfl rfl rfl)) ?_
    · by_cases h : nextV s q1 = 93
      · rw [if_pos h] at hT
        exact .inl ⟨rfl, h, rfl, hT.symm⟩
      · rw [if_neg h] at hT
        exact .inr (.inl ⟨rfl, h, hT⟩)
    rintro ⟨m, q, acc, fi, d⟩ ⟨hq, hm, hac, hg⟩
    simp only at hq hm hac hg
    rcases hg with ⟨rfl, rfl, rfl, rfl⟩ | ⟨rfl, hd, hg⟩ | ⟨rfl, rfl, hg⟩
    · refine ex_false (show ¬ (((93 : UInt8).toNat : Int) ≠ 93) by decide) ?_
      refine ex_i64 (((q + 1 : Nat) : Int)) (by first | rfl | omega | simp) (by omega) (by omega) ?_
      exact ⟨rfl, by show TLe _ (.o (gD (drow (.mk _ _ _ _)))); rw [drow_mk]; exact TLe.rfl, rfl, rfl⟩
    · refine ex_true (fun h => hd (u8_eq (b := 93) |>.1 h)) ?_
      obtain ⟨m, rfl⟩ : ∃ m', m = m' + 1 := ⟨m - 1, by omega⟩
      rw [loopQ] at hg
      have hv := ih q hq
      have hb := hfb q hq
      cases hfq : f q with
      | err p c g b =>
        rw [hfq] at hv hg hb
        simp only at hg
        subst hg
        have hb : b ≤ 33554431 := hb
        have hpb := pass_max s b 33554431 (by omega) hb
        have hnx := rnext_c s b c p (by omega) hs
        have hc0 := hfe q p c g b hq hfq
        refine ex_i64 ((around + 1)) (by first | rfl | omega | simp) (by omega) (by omega) ?_
        refine ex_callM (CallsM.ren (hv) [0] 4 rfl rfl rfl rfl) ?_
        refine ex_app acc.length 1 1000 (by simp) rfl rfl (by omega) ?_
        refine ex_is ((acc ++ [g]).map drow) (by rw [List.map_append]; rfl) ?_
        refine ex_callM (CallsM.ren (hnx) [0] 7 rfl rfl rfl rfl) ?_
        refine ex_true hc0 ?_
        refine ex_i64 (((passV s b + 1 : Nat) : Int)) (by first | rfl | omega | simp) (by omega) (by omega) ?_
        exact ⟨rfl, by show TLe _ (.o (gD (drow (.mk _ _ _ _)))); rw [drow_mk]; exact TLe.rfl, rfl, rfl⟩
      | ok v b =>
        rw [hfq] at hv hg hb
        simp only at hg
        have hb : b ≤ 33554431 := hb
        have hpb := pass_max s b 33554431 (by omega) hb
        have hnx := rnext_c s b 0 0 (by omega) hs
        have hob := hfo q v b hq hfq
        have hpg := passV_ge s b
        obtain ⟨y, hy⟩ : ∃ y, nextV s (passV s b) = y := ⟨_, rfl⟩
        rw [hy] at hnx hg
        refine ex_i64 ((around + 1)) (by first | rfl | omega | simp) (by omega) (by omega) ?_
        refine ex_callM (CallsM.ren (hv) [0] 4 rfl rfl rfl rfl) ?_
        refine ex_app acc.length 1 1000 (by simp) rfl rfl (by omega) ?_
        refine ex_is ((acc ++ [v]).map drow) (by rw [List.map_append]; rfl) ?_
        refine ex_callM (CallsM.ren (hnx) [0] 7 rfl rfl rfl rfl) ?_
        refine ex_false (show ¬ ((0 : Int) ≠ 0) by decide) ?_
        refine ex_dec (fun h1 => ?_) (fun h1 => ?_)
        · rw [if_pos (u8_eq (b := 93) |>.1 h1)] at hg
          subst hg
          refine ex_i64 (((passV s b + 1 : Nat) : Int)) (by first | rfl | omega | simp) (by omega) (by omega) ?_
          exact ⟨rfl, by show TLe _ (.o (gD (drow (.mk _ _ _ _)))); rw [drow_mk]; exact TLe.rfl, rfl, rfl⟩
        · rw [if_neg (fun h => h1 (by rw [h]; rfl))] at hg
          refine ex_dec (fun h2 => ?_) (fun h2 => ?_)
          · rw [if_neg (fun h => h2 (by rw [h]; rfl))] at hg
            subst hg
            refine ex_callM (CallsM.ren ((rfail_c s (passV s b) 0 (passV s b) 4)) [0] 7 rfl rfl rfl rfl) ?_
            refine ex_i64 (((passV s b + 1 : Nat) : Int)) (by first | rfl | omega | simp) (by omega) (by omega) ?_
            exact ⟨rfl, by show TLe _ (.o (gD (drow (.mk _ _ _ _)))); rw [drow_mk]; exact TLe.rfl, rfl, rfl⟩
          · obtain rfl : y = 44 := u8_eq (b := 44) |>.1 (Decidable.not_not.1 h2)
            rw [if_pos rfl] at hg
            have hlt := (next_lt hy (by decide)).1
            refine ex_i64 (((passV s b + 1 : Nat) : Int)) (by first | rfl | omega | simp) (by omega) (by omega) ?_
            refine ex_round (m, passV s b + 1, acc ++ [v], false, 44) ⟨hlt, by show s.size < passV s b + 1 + m; omega, by show (acc ++ [v]).length ≤ passV s b + 1; rw [List.length_append, List.length_cons, List.length_nil]; omega, .inr (.inr ⟨rfl, rfl, hg⟩)⟩ (by show s.size + 1 - (passV s b + 1) < s.size + 1 - q; omega) (SLe.ren [(2, 2), (6, 3), (0, 0), (1, 1)] ⟨⟨rfl, rfl⟩, ⟨rfl, rfl⟩, ⟨rfl, rfl⟩, ⟨rfl, rfl⟩, ⟨rfl, rfl⟩, ⟨rfl, rfl⟩, ⟨rfl, rfl⟩, trivial⟩ ⟨⟨rfl, rfl⟩, ⟨rfl, rfl⟩, ⟨rfl, rfl⟩, ⟨rfl, rfl⟩, trivial⟩ rfl)
    · refine ex_true (show ((44 : UInt8).toNat : Int) ≠ 93 by decide) ?_
      obtain ⟨m, rfl⟩ : ∃ m', m = m' + 1 := ⟨m - 1, by omega⟩
      rw [loopQ] at hg
      have hv := ih q hq
      have hb := hfb q hq
      cases hfq : f q with
      | err p c g b =>
        rw [hfq] at hv hg hb
        simp only at hg
        subst hg
        have hb : b ≤ 33554431 := hb
        have hpb := pass_max s b 33554431 (by omega) hb
        have hnx := rnext_c s b c p (by omega) hs
        have hc0 := hfe q p c g b hq hfq
        refine ex_i64 ((around + 1)) (by first | rfl | omega | simp) (by omega) (by omega) ?_
        refine ex_callM (CallsM.ren (hv) [0] 4 rfl rfl rfl rfl) ?_
        refine ex_app acc.length 1 1000 (by simp) rfl rfl (by omega) ?_
        refine ex_is ((acc ++ [g]).map drow) (by rw [List.map_append]; rfl) ?_
        refine ex_callM (CallsM.ren (hnx) [0] 7 rfl rfl rfl rfl) ?_
        refine ex_true hc0 ?_
        refine ex_i64 (((passV s b + 1 : Nat) : Int)) (by first | rfl | omega | simp) (by omega) (by omega) ?_
        exact ⟨rfl, by show TLe _ (.o (gD (drow (.mk _ _ _ _)))); rw [drow_mk]; exact TLe.rfl, rfl, rfl⟩
      | ok v b =>
        rw [hfq] at hv hg hb
        simp only at hg
        have hb : b ≤ 33554431 := hb
        have hpb := pass_max s b 33554431 (by omega) hb
        have hnx := rnext_c s b 0 0 (by omega) hs
        have hob := hfo q v b hq hfq
        have hpg := passV_ge s b
        obtain ⟨y, hy⟩ : ∃ y, nextV s (passV s b) = y := ⟨_, rfl⟩
        rw [hy] at hnx hg
        refine ex_i64 ((around + 1)) (by first | rfl | omega | simp) (by omega) (by omega) ?_
        refine ex_callM (CallsM.ren (hv) [0] 4 rfl rfl rfl rfl) ?_
        refine ex_app acc.length 1 1000 (by simp) rfl rfl (by omega) ?_
        refine ex_is ((acc ++ [v]).map drow) (by rw [List.map_append]; rfl) ?_
        refine ex_callM (CallsM.ren (hnx) [0] 7 rfl rfl rfl rfl) ?_
        refine ex_false (show ¬ ((0 : Int) ≠ 0) by decide) ?_
        refine ex_dec (fun h1 => ?_) (fun h1 => ?_)
        · rw [if_pos (u8_eq (b := 93) |>.1 h1)] at hg
          subst hg
          refine ex_i64 (((passV s b + 1 : Nat) : Int)) (by first | rfl | omega | simp) (by omega) (by omega) ?_
          exact ⟨rfl, by show TLe _ (.o (gD (drow (.mk _ _ _ _)))); rw [drow_mk]; exact TLe.rfl, rfl, rfl⟩
        · rw [if_neg (fun h => h1 (by rw [h]; rfl))] at hg
          refine ex_dec (fun h2 => ?_) (fun h2 => ?_)
          · rw [if_neg (fun h => h2 (by rw [h]; rfl))] at hg
            subst hg
            refine ex_callM (CallsM.ren ((rfail_c s (passV s b) 0 (passV s b) 4)) [0] 7 rfl rfl rfl rfl) ?_
            refine ex_i64 (((passV s b + 1 : Nat) : Int)) (by first | rfl | omega | simp) (by omega) (by omega) ?_
            exact ⟨rfl, by show TLe _ (.o (gD (drow (.mk _ _ _ _)))); rw [drow_mk]; exact TLe.rfl, rfl, rfl⟩
          · obtain rfl : y = 44 := u8_eq (b := 44) |>.1 (Decidable.not_not.1 h2)
            rw [if_pos rfl] at hg
            have hlt := (next_lt hy (by decide)).1
            refine ex_i64 (((passV s b + 1 : Nat) : Int)) (by first | rfl | omega | simp) (by omega) (by omega) ?_
            refine ex_round (m, passV s b + 1, acc ++ [v], false, 44) ⟨hlt, by show s.size < passV s b + 1 + m; omega, by show (acc ++ [v]).length ≤ passV s b + 1; rw [List.length_append, List.length_cons, List.length_nil]; omega, .inr (.inr ⟨rfl, rfl, hg⟩)⟩ (by show s.size + 1 - (passV s b + 1) < s.size + 1 - q; omega) (SLe.ren [(2, 2), (6, 3), (0, 0), (1, 1)] ⟨⟨rfl, rfl⟩, ⟨rfl, rfl⟩, ⟨rfl, rfl⟩, ⟨rfl, rfl⟩, ⟨rfl, rfl⟩, ⟨rfl, rfl⟩, ⟨rfl, rfl⟩, trivial⟩ ⟨⟨rfl, rfl⟩, ⟨rfl, rfl⟩, ⟨rfl, rfl⟩, ⟨rfl, rfl⟩, trivial⟩ rfl)
  · rw [show ((if (4 : Int) = 3 then 91 else 123 : UInt8)) = 123 from rfl] at hn0
    rw [show endV 4 = 125 from rfl] at hT
    refine fn_ruleM (C := ⟨Tryd.prog, layF, Tryd.f38.ntmps, ΓS, 1, [], []⟩) layF_ok mixed Tryd.func38 rfl (by kernel_rfl) rfl rfl rfl ?_
    refine ex_false (show ¬ ((0 : Int) ≠ 0) by decide) ?_
    refine ex_callM (CallsM.ren (hn0) [0] 2 rfl rfl rfl rfl) ?_
    refine ex_true (by decide) ?_
    refine ex_false (by decide) ?_
    refine ex_false (by omega) ?_
    refine ex_false (by decide) ?_
    refine ex_false (by decide) ?_
    refine ex_true (by decide) ?_
    refine ex_false (by decide) ?_
    refine ex_true (by decide) ?_
    refine ex_i64 (((q + 1 : Nat) : Int)) (by first | rfl | omega | simp) (by omega) (by omega) ?_
    refine ex_callM (CallsM.ren (hn1) [0] 3 rfl rfl rfl rfl) ?_
    refine ex_loop (X := Nat × Nat × List PV × Bool × UInt8) (fun x => ⟨[(0, .o (.c (.ptr 0 0))), (1, Ti around), (4, .o (.c (.ptr 1 0))), (6, .o (.c (.ptr 2 0))), (7, .o (c1 (.v (.int .u8 125)))), (8, .o (c1 (.v (.int .u8 x.2.2.2.2.toNat)))), (9, Tb x.2.2.2.1)],
        [(2, .obj [.d (di 4), .d (du 0), .d (ds ⟨#[]⟩), .row 3]), (3, .row 4 30 (x.2.2.1.map drow)), (0, Sta0 s x.2.1), (1, .obj [.d (di 0), .d (du 0), .d (ds ⟨#[]⟩), .d dnil])], 4⟩) (fun x => s.size + 1 - x.2.1)
      (fun x => x.2.1 ≤ s.size ∧ s.size < x.2.1 + x.1 ∧ x.2.2.1.length ≤ x.2.1 ∧ ((x.2.2.2.1 = true ∧ x.2.2.2.2 = 125 ∧ x.2.2.1 = [] ∧ T = .ok (.mk 4 0 ⟨#[]⟩ []) (x.2.1 + 1)) ∨ (x.2.2.2.1 = true ∧ x.2.2.2.2 ≠ 125 ∧ loopQ s f 125 4 x.1 x.2.1 x.2.2.1 = T) ∨ (x.2.2.2.1 = false ∧ x.2.2.2.2 = 44 ∧ loopQ s f 125 4 x.1 x.2.1 x.2.2.1 = T)))
      (s.size + 1, q1, [], true, nextV s q1) ⟨hq1, by show s.size < q1 + (s.size + 1); omega, by show 0 ≤ _; omega, ?_⟩ (SLe.trans (SLe.of ⟨⟨rfl, rfl, rfl, rfl, rfl, rfl, rfl, trivial⟩, ⟨rfl, rfl, rfl, rfl, trivial⟩⟩) (SLe.ownCell 2 3 3 4 30 rfl rfl rfl rfl rfl rfl)) ?_
    · by_cases h : nextV s q1 = 125
      · rw [if_pos h] at hT
        exact .inl ⟨rfl, h, rfl, hT.symm⟩
      · rw [if_neg h] at hT
        exact .inr (.inl ⟨rfl, h, hT⟩)
    rintro ⟨m, q, acc, fi, d⟩ ⟨hq, hm, hac, hg⟩
    simp only at hq hm hac hg
    rcases hg with ⟨rfl, rfl, rfl, rfl⟩ | ⟨rfl, hd, hg⟩ | ⟨rfl, rfl, hg⟩
    · refine ex_false (show ¬ (((125 : UInt8).toNat : Int) ≠ 125) by decide) ?_
      refine ex_i64 (((q + 1 : Nat) : Int)) (by first | rfl | omega | simp) (by omega) (by omega) ?_
      exact ⟨rfl, by show TLe _ (.o (gD (drow (.mk _ _ _ _)))); rw [drow_mk]; exact TLe.rfl, rfl, rfl⟩
    · refine ex_true (fun h => hd (u8_eq (b := 125) |>.1 h)) ?_
      obtain ⟨m, rfl⟩ : ∃ m', m = m' + 1 := ⟨m - 1, by omega⟩
      rw [loopQ] at hg
      have hv := ih q hq
      have hb := hfb q hq
      cases hfq : f q with
      | err p c g b =>
        rw [hfq] at hv hg hb
        simp only at hg
        subst hg
        have hb : b ≤ 33554431 := hb
        have hpb := pass_max s b 33554431 (by omega) hb
        have hnx := rnext_c s b c p (by omega) hs
        have hc0 := hfe q p c g b hq hfq
        refine ex_i64 ((around + 1)) (by first | rfl | omega | simp) (by omega) (by omega) ?_
        refine ex_callM (CallsM.ren (hv) [0] 4 rfl rfl rfl rfl) ?_
        refine ex_app acc.length 1 1000 (by simp) rfl rfl (by omega) ?_
        refine ex_is ((acc ++ [g]).map drow) (by rw [List.map_append]; rfl) ?_
        refine ex_callM (CallsM.ren (hnx) [0] 7 rfl rfl rfl rfl) ?_
        refine ex_true hc0 ?_
        refine ex_i64 (((passV s b + 1 : Nat) : Int)) (by first | rfl | omega | simp) (by omega) (by omega) ?_
        exact ⟨rfl, by show TLe _ (.o (gD (drow (.mk _ _ _ _)))); rw [drow_mk]; exact TLe.rfl, rfl, rfl⟩
      | ok v b =>
        rw [hfq] at hv hg hb
        simp only at hg
        have hb : b ≤ 33554431 := hb
        have hpb := pass_max s b 33554431 (by omega) hb
        have hnx := rnext_c s b 0 0 (by omega) hs
        have hob := hfo q v b hq hfq
        have hpg := passV_ge s b
        obtain ⟨y, hy⟩ : ∃ y, nextV s (passV s b) = y := ⟨_, rfl⟩
        rw [hy] at hnx hg
        refine ex_i64 ((around + 1)) (by first | rfl | omega | simp) (by omega) (by omega) ?_
        refine ex_callM (CallsM.ren (hv) [0] 4 rfl rfl rfl rfl) ?_
        refine ex_app acc.length 1 1000 (by simp) rfl rfl (by omega) ?_
        refine ex_is ((acc ++ [v]).map drow) (by rw [List.map_append]; rfl) ?_
        refine ex_callM (CallsM.ren (hnx) [0] 7 rfl rfl rfl rfl) ?_
        refine ex_false (show ¬ ((0 : Int) ≠ 0) by decide) ?_
        refine ex_dec (fun h1 => ?_) (fun h1 => ?_)
        · rw [if_pos (u8_eq (b := 125) |>.1 h1)] at hg
          subst hg
          refine ex_i64 (((passV s b + 1 : Nat) : Int)) (by first | rfl | omega | simp) (by omega) (by omega) ?_
          exact ⟨rfl, by show TLe _ (.o (gD (drow (.mk _ _ _ _)))); rw [drow_mk]; exact TLe.rfl, rfl, rfl⟩
        · rw [if_neg (fun h => h1 (by rw [h]; rfl))] at hg
          refine ex_dec (fun h2 => ?_) (fun h2 => ?_)
          · rw [if_neg (fun h => h2 (by rw [h]; rfl))] at hg
            subst hg
            refine ex_callM (CallsM.ren ((rfail_c s (passV s b) 0 (passV s b) 4)) [0] 7 rfl rfl rfl rfl) ?_
            refine ex_i64 (((passV s b + 1 : Nat) : Int)) (by first | rfl | omega | simp) (by omega) (by omega) ?_
            exact ⟨rfl, by show TLe _ (.o (gD (drow (.mk _ _ _ _)))); rw [drow_mk]; exact TLe.rfl, rfl, rfl⟩
          · obtain rfl : y = 44 := u8_eq (b := 44) |>.1 (Decidable.not_not.1 h2)
            rw [if_pos rfl] at hg
            have hlt := (next_lt hy (by decide)).1
            refine ex_i64 (((passV s b + 1 : Nat) : Int)) (by first | rfl | omega | simp) (by omega) (by omega) ?_
            refine ex_round (m, passV s b + 1, acc ++ [v], false, 44) ⟨hlt, by show s.size < passV s b + 1 + m; omega, by show (acc ++ [v]).length ≤ passV s b + 1; rw [List.length_append, List.length_cons, List.length_nil]; omega, .inr (.inr ⟨rfl, rfl, hg⟩)⟩ (by show s.size + 1 - (passV s b + 1) < s.size + 1 - q; omega) (SLe.ren [(2, 2), (6, 3), (0, 0), (1, 1)] ⟨⟨rfl, rfl⟩, ⟨rfl, rfl⟩, ⟨rfl, rfl⟩, ⟨rfl, rfl⟩, ⟨rfl, rfl⟩, ⟨rfl, rfl⟩, ⟨rfl, rfl⟩, trivial⟩ ⟨⟨rfl, rfl⟩, ⟨rfl, rfl⟩, ⟨rfl, rfl⟩, ⟨rfl, rfl⟩, trivial⟩ rfl)
    · refine ex_true (show ((44 : UInt8).toNat : Int) ≠ 125 by decide) ?_
      obtain ⟨m, rfl⟩ : ∃ m', m = m' + 1 := ⟨m - 1, by omega⟩
      rw [loopQ] at hg
      have hv := ih q hq
      have hb := hfb q hq
      cases hfq : f q with
      | err p c g b =>
        rw [hfq] at hv hg hb
        simp only at hg
        subst hg
        have hb : b ≤ 33554431 := hb
        have hpb := pass_max s b 33554431 (by omega) hb
        have hnx := rnext_c s b c p (by omega) hs
        have hc0 := hfe q p c g b hq hfq
        refine ex_i64 ((around + 1)) (by first | rfl | omega | simp) (by omega) (by omega) ?_
        refine ex_callM (CallsM.ren (hv) [0] 4 rfl rfl rfl rfl) ?_
        refine ex_app acc.length 1 1000 (by simp) rfl rfl (by omega) ?_
        refine ex_is ((acc ++ [g]).map drow) (by rw [List.map_append]; rfl) ?_
        refine ex_callM (CallsM.ren (hnx) [0] 7 rfl rfl rfl rfl) ?_
        refine ex_true hc0 ?_
        refine ex_i64 (((passV s b + 1 : Nat) : Int)) (by first | rfl | omega | simp) (by omega) (by omega) ?_
        exact ⟨rfl, by show TLe _ (.o (gD (drow (.mk _ _ _ _)))); rw [drow_mk]; exact TLe.rfl, rfl, rfl⟩
      | ok v b =>
        rw [hfq] at hv hg hb
        simp only at hg
        have hb : b ≤ 33554431 := hb
        have hpb := pass_max s b 33554431 (by omega) hb
        have hnx := rnext_c s b 0 0 (by omega) hs
        have hob := hfo q v b hq hfq
        have hpg := passV_ge s b
        obtain ⟨y, hy⟩ : ∃ y, nextV s (passV s b) = y := ⟨_, rfl⟩
        rw [hy] at hnx hg
        refine ex_i64 ((around + 1)) (by first | rfl | omega | simp) (by omega) (by omega) ?_
        refine ex_callM (CallsM.ren (hv) [0] 4 rfl rfl rfl rfl) ?_
        refine ex_app acc.length 1 1000 (by simp) rfl rfl (by omega) ?_
        refine ex_is ((acc ++ [v]).map drow) (by rw [List.map_append]; rfl) ?_
        refine ex_callM (CallsM.ren (hnx) [0] 7 rfl rfl rfl rfl) ?_
        refine ex_false (show ¬ ((0 : Int) ≠ 0) by decide) ?_
        refine ex_dec (fun h1 => ?_) (fun h1 => ?_)
        · rw [if_pos (u8_eq (b := 125) |>.1 h1)] at hg
          subst hg
          refine ex_i64 (((passV s b + 1 : Nat) : Int)) (by first | rfl | omega | simp) (by omega) (by omega) ?_
          exact ⟨rfl, by show TLe _ (.o (gD (drow (.mk _ _ _ _)))); rw [drow_mk]; exact TLe.rfl, rfl, rfl⟩
        · rw [if_neg (fun h => h1 (by rw [h]; rfl))] at hg
          refine ex_dec (fun h2 => ?_) (fun h2 => ?_)
          · rw [if_neg (fun h => h2 (by rw [h]; rfl))] at hg
            subst hg
            refine ex_callM (CallsM.ren ((rfail_c s (passV s b) 0 (passV s b) 4)) [0] 7 rfl rfl rfl rfl) ?_
            refine ex_i64 (((passV s b + 1 : Nat) : Int)) (by first | rfl | omega | simp) (by omega) (by omega) ?_
            exact ⟨rfl, by show TLe _ (.o (gD (drow (.mk _ _ _ _)))); rw [drow_mk]; exact TLe.rfl, rfl, rfl⟩
          · obtain rfl : y = 44 := u8_eq (b := 44) |>.1 (Decidable.not_not.1 h2)
            rw [if_pos rfl] at hg
            have hlt := (next_lt hy (by decide)).1
            refine ex_i64 (((passV s b + 1 : Nat) : Int)) (by first | rfl | omega | simp) (by omega) (by omega) ?_
            refine ex_round (m, passV s b + 1, acc ++ [v], false, 44) ⟨hlt, by show s.size < passV s b + 1 + m; omega, by show (acc ++ [v]).length ≤ passV s b + 1; rw [List.length_append, List.length_cons, List.length_nil]; omega, .inr (.inr ⟨rfl, rfl, hg⟩)⟩ (by show s.size + 1 - (passV s b + 1) < s.size + 1 - q; omega) (SLe.ren [(2, 2), (6, 3), (0, 0), (1, 1)] ⟨⟨rfl, rfl⟩, ⟨rfl, rfl⟩, ⟨rfl, rfl⟩, ⟨rfl, rfl⟩, ⟨rfl, rfl⟩, ⟨rfl, rfl⟩, ⟨rfl, rfl⟩, trivial⟩ ⟨⟨rfl, rfl⟩, ⟨rfl, rfl⟩, ⟨rfl, rfl⟩, ⟨rfl, rfl⟩, trivial⟩ rfl)
end Go.Proofs.YtkeehnhamkdogaaDoor
