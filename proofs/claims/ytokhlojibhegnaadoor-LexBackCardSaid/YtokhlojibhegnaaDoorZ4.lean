/- LexBack: the tokens of what is joined are these again, but for their places. Condition: the listed package variables hold what the program's text lays. -/
import Derived.Laws.StructEq
import Derived.Lib.LaidTab
import Derived.Test.YtokhlojibhegnaaDoorRows
import Derived.Lay
import Derived.MakeChecks
import Derived.Test.YtokhlojibhegnaaDoorCards
import Derived.Test.YtokhlojibhegnaaDoorTie
import Derived.SevenTiedAt
import Derived.Deep.DeepHandedRow
import Derived.Test.YtokhlojibhegnaaDoorZ1
import Derived.Test.YtokhlojibhegnaaDoorZ2
import Derived.Test.YtokhlojibhegnaaDoorZ3
namespace Go.Proofs.YtokhlojibhegnaaDoor
set_option linter.unusedVariables false
set_option linter.unusedSimpArgs false
open Go.RowKit
set_option maxRecDepth 100000

theorem u8_int {b : UInt8} (n : Nat) (hn : n < 256) : ((b.toNat : Nat) : Int) = (n : Int) ↔ b = UInt8.ofNat n := by
  constructor
  · intro h
    have : b.toNat = n := by omega
    rw [← this]; simp
  · rintro rfl
    rw [UInt8.toNat_ofNat']
    omega
theorem isCom_cons (b c : UInt8) (y : List UInt8) : isCom (b :: c :: y) = (decide (((b.toNat : Nat) : Int) = 47) && decide (((c.toNat : Nat) : Int) = 47)) := by
  have e : ∀ x : UInt8, (47 == x) = decide (((x.toNat : Nat) : Int) = 47) := fun x => Bool.eq_iff_iff.2 (by
    rw [beq_iff_eq, decide_eq_true_eq]
    exact ⟨fun e => by rw [← e]; rfl, fun e => (UInt8.toNat_inj.1 (Int.ofNat_inj.1 e)).symm⟩)
  show (47 == b && (47 == c && true)) = _
  rw [e, e, Bool.and_true]
set_option maxHeartbeats 4000000 in
theorem rlex_c (s : List UInt8) : CallsA Tryd.prog Γ0 9 [c1 (ds (bs s))] (lexT (lexV s)) := by
  have hsz := bs_size s
  unfold lexV
  by_cases hs : s.length ≤ 16384
  · rw [if_pos hs]
    obtain ⟨R, hR⟩ : ∃ R, lexF s 1 1 = R := ⟨_, rfl⟩
    rw [hR]
    refine fn_rule (C := ⟨Tryd.prog, layF, Tryd.f9.ntmps, Γ0, 0, [], []⟩) layF_ok mixed Tryd.func9 rfl (by kernel_rfl) rfl rfl rfl ?_
    repeat' (first | refine ex_true (by first | decide | omega | assumption | (with_reducible exact rfl)) ?_ | refine ex_false (by first | decide | omega | assumption | exact (fun h => h rfl)) ?_ | refine ex_dec (fun _ => ?_) (fun _ => ?_) | refine ex_u8 _ rfl (by omega) (by omega) ?_ | refine ex_i64 _ rfl (by omega) (by omega) ?_ | refine ex_u64 _ rfl (by omega) (by omega) ?_ | refine and_mk (by first | omega | (show drawOk _ _ _ = true; kernel_rfl)) ?_ | refine and_mk ⟨_, rfl⟩ ?_ | refine ex_is _ (List.length_map _) ?_ | refine ex_is _ List.length_nil ?_ | fail "no step")
    refine ex_loop (X := Nat × Nat × Nat × List TokP) (fun ⟨i, u, v, o⟩ => ⟨[(0, Tstr (bs s)), (3, .o (.c (.ptr 0 0))), (5, .o (.c (.row 1))), (6, Ti u), (7, Ti v), (8, Ti i)], [(0, Pz), (1, .row 5 38 (o.map tokD))], 2⟩) (fun x => s.length - x.1)
      (fun ⟨i, u, v, o⟩ => i ≤ s.length ∧ Bd (u, v) (s.length - i) ∧ o.length ≤ i ∧ (lexF (s.drop i) u v).pre o = R) (0, 1, 1, []) ⟨Nat.zero_le _, ⟨by decide, by decide, by show 1 + _ ≤ _; omega, by show 1 + _ ≤ _; omega⟩, Nat.le_refl _, by rw [List.drop_zero, hR]; cases R <;> rfl⟩ (SLe.trans (SLe.of ⟨⟨rfl, rfl, rfl, rfl, rfl, rfl, trivial⟩, ⟨rfl, rfl, trivial⟩⟩) (SLe.own 5 1 5 38 rfl rfl rfl rfl rfl)) ?_
    rintro ⟨i, u, v, o⟩ ⟨hi, ⟨hb1, hb2, hb3, hb4⟩, hol, hs2⟩
    dsimp only at hb1 hb2 hb3 hb4
    refine ex_dec (fun h => ?_) (fun h => ?_)
    · have hil : i < s.length := by omega
      have hc : s[i]? = some s[i] := at_some hil
      have hdr : s.drop i = s[i] :: s.drop (i + 1) := List.drop_eq_getElem_cons hil
      rw [hdr] at hs2
      generalize s[i] = b at *
      by_cases h10 : (b.toNat : Int) = 10
      · have hb : b = 10 := (u8_int 10 (by decide)).1 h10
        rw [hb, lexF_eq] at hs2
        repeat' (first | refine ex_i64 ((i + 1 : Nat) : Int) (by omega) (by omega) (by omega) ?_ | refine ex_u64 ((i + 1 : Nat) : Int) (by omega) (by omega) (by omega) ?_ | refine ex_u8 ((i + 1 : Nat) : Int) (by omega) (by omega) (by omega) ?_ | refine ex_i64 ((u + 1 : Nat) : Int) (by omega) (by omega) (by omega) ?_ | refine ex_u64 ((u + 1 : Nat) : Int) (by omega) (by omega) (by omega) ?_ | refine ex_u8 ((u + 1 : Nat) : Int) (by omega) (by omega) (by omega) ?_ | refine (ex_chr i b rfl hc) ?_ | refine ex_true (by first | decide | omega | assumption | (with_reducible exact rfl)) ?_ | refine ex_false (by first | decide | omega | assumption | exact (fun h => h rfl)) ?_ | refine ex_dec (fun _ => ?_) (fun _ => ?_) | refine ex_u8 _ rfl (by omega) (by omega) ?_ | refine ex_i64 _ rfl (by omega) (by omega) ?_ | refine ex_u64 _ rfl (by omega) (by omega) ?_ | refine and_mk (by first | omega | (show drawOk _ _ _ = true; kernel_rfl)) ?_ | refine and_mk ⟨_, rfl⟩ ?_ | refine ex_is _ (List.length_map _) ?_ | refine ex_is _ List.length_nil ?_ | fail "no step")
        exact ex_round (i + 1, u + 1, 1, o) ⟨by omega, ⟨by show 1 ≤ u + 1; omega, Nat.le_refl 1, by show u + 1 + _ ≤ _; omega, by show 1 + _ ≤ _; omega⟩, by omega, hs2⟩ (by show _ - _ < _ - _; omega) (SLe.of ⟨⟨rfl, rfl, rfl, rfl, rfl, rfl, trivial⟩, ⟨rfl, rfl, trivial⟩⟩)
      have n10 : b ≠ 10 := fun e => h10 ((u8_int 10 (by decide)).2 e)
      by_cases hbl : (b.toNat : Int) = 32 ∨ (b.toNat : Int) = 9 ∨ (b.toNat : Int) = 13
      · have hb : b = 32 ∨ b = 9 ∨ b = 13 := by
          rcases hbl with h | h | h
          · exact .inl ((u8_int 32 (by decide)).1 h)
          · exact .inr (.inl ((u8_int 9 (by decide)).1 h))
          · exact .inr (.inr ((u8_int 13 (by decide)).1 h))
        rw [lexF_eq, show stp (b :: s.drop (i + 1)) u v = .go (s.drop (i + 1)) u (v + 1) by unfold stp; dsimp only; rw [if_neg n10, if_pos hb]] at hs2
        repeat' (first | refine ex_i64 ((i + 1 : Nat) : Int) (by omega) (by omega) (by omega) ?_ | refine ex_u64 ((i + 1 : Nat) : Int) (by omega) (by omega) (by omega) ?_ | refine ex_u8 ((i + 1 : Nat) : Int) (by omega) (by omega) (by omega) ?_ | refine ex_i64 ((v + 1 : Nat) : Int) (by omega) (by omega) (by omega) ?_ | refine ex_u64 ((v + 1 : Nat) : Int) (by omega) (by omega) (by omega) ?_ | refine ex_u8 ((v + 1 : Nat) : Int) (by omega) (by omega) (by omega) ?_ | refine (ex_chr i b rfl hc) ?_ | refine ex_true (by first | decide | omega | assumption | (with_reducible exact rfl)) ?_ | refine ex_false (by first | decide | omega | assumption | exact (fun h => h rfl)) ?_ | refine ex_dec (fun _ => ?_) (fun _ => ?_) | refine ex_u8 _ rfl (by omega) (by omega) ?_ | refine ex_i64 _ rfl (by omega) (by omega) ?_ | refine ex_u64 _ rfl (by omega) (by omega) ?_ | refine and_mk (by first | omega | (show drawOk _ _ _ = true; kernel_rfl)) ?_ | refine and_mk ⟨_, rfl⟩ ?_ | refine ex_is _ (List.length_map _) ?_ | refine ex_is _ List.length_nil ?_ | fail "no step")
        all_goals exact ex_round (i + 1, u, v + 1, o) ⟨by omega, ⟨hb1, by show 1 ≤ v + 1; omega, by show u + _ ≤ _; omega, by show v + 1 + _ ≤ _; omega⟩, by omega, hs2⟩ (by show _ - _ < _ - _; omega) (SLe.of ⟨⟨rfl, rfl, rfl, rfl, rfl, rfl, trivial⟩, ⟨rfl, rfl, trivial⟩⟩)
      have nbl : ¬ (b = 32 ∨ b = 9 ∨ b = 13) := by
        rintro (e | e | e)
        · exact hbl (.inl ((u8_int 32 (by decide)).2 e))
        · exact hbl (.inr (.inl ((u8_int 9 (by decide)).2 e)))
        · exact hbl (.inr (.inr ((u8_int 13 (by decide)).2 e)))
      have n32 : ¬ (b.toNat : Int) = 32 := fun e => hbl (.inl e)
      have n9 : ¬ (b.toNat : Int) = 9 := fun e => hbl (.inr (.inl e))
      have n13 : ¬ (b.toNat : Int) = 13 := fun e => hbl (.inr (.inr e))
      have hx0 : b :: s.drop (i + 1) ≠ [] := by simp
      have hxl : (b :: s.drop (i + 1)).length = s.length - i := by rw [← hdr, List.length_drop]
      have hnb : ∀ d, (b :: s.drop (i + 1))[0]? = some d → blank d = false := fun d hd => by
        cases hd
        rcases hh : blank b with _ | _
        · rfl
        · simp [blank, n10] at hh; rcases hh with hh | hh | hh <;> simp [hh] at nbl
      have ht := rone_c (b :: s.drop (i + 1)) hx0 (by omega)
      have hE := ext_drop s i hi
      rw [hdr] at hE
      have tokC : isCom (b :: s.drop (i + 1)) = false → ∀ {k : Nat} {t : List UInt8} {n : Nat}, tokF (b :: s.drop (i + 1)) = .ok k t n → i + t.length ≤ s.length ∧ 0 < t.length ∧ (lexF (s.drop (i + t.length)) u (v + t.length)).pre (o ++ [⟨k, t, n, u, v⟩]) = R := by
        intro hcm k t n hk
        rw [lexF_tok u v hx0 hnb hcm, hk] at hs2
        obtain ⟨⟨X, hX⟩, ht0, -, -⟩ := tokF_ok hk
        have hpos : 0 < t.length := List.length_pos_iff.2 ht0
        rw [hX, List.length_append] at hxl
        dsimp only at hs2
        rw [LR.pre_pre, ← hdr, List.drop_drop] at hs2
        exact ⟨by omega, hpos, hs2⟩
      have tokE : isCom (b :: s.drop (i + 1)) = false → ∀ {e : Nat}, tokF (b :: s.drop (i + 1)) = .err e → .err u v e = R := by
        intro hcm e hk
        rw [lexF_tok u v hx0 hnb hcm, hk] at hs2
        exact hs2
      have comC : isCom (b :: s.drop (i + 1)) = true → ∀ T, ((b :: s.drop (i + 1)).takeWhile notNl).length = T → i + T ≤ s.length ∧ 2 ≤ T ∧ (lexF (s.drop (i + T)) u (v + T)).pre o = R := by
        intro hcm T hT
        rw [lexF_com (u, v) hcm, skip_line _ _ _ (takeWhile_nl _), dropWhile_eq, hT, ← hdr, List.drop_drop] at hs2
        have h1 := drop_len notNl (b :: s.drop (i + 1))
        obtain ⟨Z, hZ⟩ := isCom_eq hcm
        refine ⟨by omega, ?_, hs2⟩
        rw [← hT, hZ, List.takeWhile_cons, if_pos (by decide), List.takeWhile_cons, if_pos (by decide)]
        simp
      rcases hcm : isCom (b :: s.drop (i + 1)) with _ | _
      · have hcase : ¬ (b.toNat : Int) = 47 ∨ ((b.toNat : Int) = 47 ∧ ¬ i + 1 < s.length) ∨ ((b.toNat : Int) = 47 ∧ i + 1 < s.length ∧ ∃ d : UInt8, s[i + 1]? = some d ∧ ¬ (d.toNat : Int) = 47) := by
          by_cases h47 : (b.toNat : Int) = 47
          · by_cases hi1 : i + 1 < s.length
            · refine .inr (.inr ⟨h47, hi1, s[i + 1], at_some hi1, fun hd => ?_⟩)
              rw [List.drop_eq_getElem_cons hi1, isCom_cons, decide_eq_true h47, decide_eq_true hd] at hcm
              cases hcm
            · exact .inr (.inl ⟨h47, hi1⟩)
          · exact .inl h47
        rcases hk : tokF (b :: s.drop (i + 1)) with ⟨k, t, n⟩ | e <;> rw [hk] at ht
        · obtain ⟨hTl, hpos, hs3⟩ := tokC hcm hk
          have hbt := bs_size t
          rcases hcase with h47 | ⟨h47, hi1⟩ | ⟨h47, hi1, d, hc2, hd⟩
          all_goals
            repeat' (first | refine ex_i64 ((i + 1 : Nat) : Int) (by omega) (by omega) (by omega) ?_ | refine ex_u64 ((i + 1 : Nat) : Int) (by omega) (by omega) (by omega) ?_ | refine ex_u8 ((i + 1 : Nat) : Int) (by omega) (by omega) (by omega) ?_ | refine (ex_chr (i + 1) _ rfl (by assumption)) ?_ | refine (ex_chr i b rfl hc) ?_ | refine ex_true (by first | decide | omega | assumption | (with_reducible exact rfl)) ?_ | refine ex_false (by first | decide | omega | assumption | exact (fun h => h rfl)) ?_ | refine ex_dec (fun _ => ?_) (fun _ => ?_) | refine ex_u8 _ rfl (by omega) (by omega) ?_ | refine ex_i64 _ rfl (by omega) (by omega) ?_ | refine ex_u64 _ rfl (by omega) (by omega) ?_ | refine and_mk (by first | omega | (show drawOk _ _ _ = true; kernel_rfl)) ?_ | refine and_mk ⟨_, rfl⟩ ?_ | refine ex_is _ (List.length_map _) ?_ | refine ex_is _ List.length_nil ?_ | fail "no step")
            rw [hE]
            repeat' (first | refine ex_call ht ?_ | refine ex_true (by first | decide | omega | assumption | (with_reducible exact rfl)) ?_ | refine ex_false (by first | decide | omega | assumption | exact (fun h => h rfl)) ?_ | refine ex_dec (fun _ => ?_) (fun _ => ?_) | refine ex_u8 _ rfl (by omega) (by omega) ?_ | refine ex_i64 _ rfl (by omega) (by omega) ?_ | refine ex_u64 _ rfl (by omega) (by omega) ?_ | refine and_mk (by first | omega | (show drawOk _ _ _ = true; kernel_rfl)) ?_ | refine and_mk ⟨_, rfl⟩ ?_ | refine ex_is _ (List.length_map _) ?_ | refine ex_is _ List.length_nil ?_ | fail "no step")
            refine ex_app (o.length) (1) 1000 (by first | rfl | (simp; done) | (simp; omega)) (by first | rfl | (simp; done) | (simp; omega)) rfl (by omega) ?_
            refine ex_is (List.map tokD (o ++ [(⟨k, t, n, u, v⟩ : TokP)])) (by rw [List.map_append]; rfl) ?_
            repeat' (first | refine ex_i64 ((v + t.length : Nat) : Int) (by omega) (by omega) (by omega) ?_ | refine ex_u64 ((v + t.length : Nat) : Int) (by omega) (by omega) (by omega) ?_ | refine ex_u8 ((v + t.length : Nat) : Int) (by omega) (by omega) (by omega) ?_ | refine ex_i64 ((i + t.length : Nat) : Int) (by omega) (by omega) (by omega) ?_ | refine ex_u64 ((i + t.length : Nat) : Int) (by omega) (by omega) (by omega) ?_ | refine ex_u8 ((i + t.length : Nat) : Int) (by omega) (by omega) (by omega) ?_ | refine ex_true (by first | decide | omega | assumption | (with_reducible exact rfl)) ?_ | refine ex_false (by first | decide | omega | assumption | exact (fun h => h rfl)) ?_ | refine ex_dec (fun _ => ?_) (fun _ => ?_) | refine ex_u8 _ rfl (by omega) (by omega) ?_ | refine ex_i64 _ rfl (by omega) (by omega) ?_ | refine ex_u64 _ rfl (by omega) (by omega) ?_ | refine and_mk (by first | omega | (show drawOk _ _ _ = true; kernel_rfl)) ?_ | refine and_mk ⟨_, rfl⟩ ?_ | refine ex_is _ (List.length_map _) ?_ | refine ex_is _ List.length_nil ?_ | fail "no step")
            exact ex_round (i + t.length, u, v + t.length, o ++ [⟨k, t, n, u, v⟩]) ⟨hTl, ⟨hb1, by show 1 ≤ v + _; omega, by show u + _ ≤ _; omega, by show v + _ + _ ≤ _; omega⟩, by show (o ++ [_]).length ≤ _; rw [List.length_append, List.length_cons, List.length_nil]; omega, hs3⟩ (by show _ - _ < _ - _; omega) (SLe.ren [(0, 0), (4, 1)] ⟨⟨rfl, rfl⟩, ⟨rfl, rfl⟩, ⟨rfl, rfl⟩, ⟨rfl, rfl⟩, ⟨rfl, rfl⟩, ⟨rfl, rfl⟩, trivial⟩ ⟨⟨rfl, rfl⟩, ⟨rfl, rfl⟩, trivial⟩ rfl)
        · have he := tokF_err hk
          have hs3 := tokE hcm hk
          subst hs3
          rcases hcase with h47 | ⟨h47, hi1⟩ | ⟨h47, hi1, d, hc2, hd⟩
          all_goals
            repeat' (first | refine ex_i64 ((i + 1 : Nat) : Int) (by omega) (by omega) (by omega) ?_ | refine ex_u64 ((i + 1 : Nat) : Int) (by omega) (by omega) (by omega) ?_ | refine ex_u8 ((i + 1 : Nat) : Int) (by omega) (by omega) (by omega) ?_ | refine (ex_chr (i + 1) _ rfl (by assumption)) ?_ | refine (ex_chr i b rfl hc) ?_ | refine ex_true (by first | decide | omega | assumption | (with_reducible exact rfl)) ?_ | refine ex_false (by first | decide | omega | assumption | exact (fun h => h rfl)) ?_ | refine ex_dec (fun _ => ?_) (fun _ => ?_) | refine ex_u8 _ rfl (by omega) (by omega) ?_ | refine ex_i64 _ rfl (by omega) (by omega) ?_ | refine ex_u64 _ rfl (by omega) (by omega) ?_ | refine and_mk (by first | omega | (show drawOk _ _ _ = true; kernel_rfl)) ?_ | refine and_mk ⟨_, rfl⟩ ?_ | refine ex_is _ (List.length_map _) ?_ | refine ex_is _ List.length_nil ?_ | fail "no step")
            rw [hE]
            repeat' (first | refine ex_call ht ?_ | refine ex_true (by first | decide | omega | assumption | (with_reducible exact rfl)) ?_ | refine ex_false (by first | decide | omega | assumption | exact (fun h => h rfl)) ?_ | refine ex_dec (fun _ => ?_) (fun _ => ?_) | refine ex_u8 _ rfl (by omega) (by omega) ?_ | refine ex_i64 _ rfl (by omega) (by omega) ?_ | refine ex_u64 _ rfl (by omega) (by omega) ?_ | refine and_mk (by first | omega | (show drawOk _ _ _ = true; kernel_rfl)) ?_ | refine and_mk ⟨_, rfl⟩ ?_ | refine ex_is _ (List.length_map _) ?_ | refine ex_is _ List.length_nil ?_ | fail "no step")
            exact TLe.nilc
      · obtain ⟨Z, hZ⟩ := isCom_eq hcm
        have hb47 : b = 47 := by injection hZ
        have h47 : (b.toNat : Int) = 47 := (u8_int 47 (by decide)).2 hb47
        have hcm2 := hcm
        have hi1 : i + 1 < s.length := by
          rw [hZ] at hxl
          simp at hxl
          omega
        have hc2 : s[i + 1]? = some s[i + 1] := at_some hi1
        have hcc : isCom (b :: s.drop (i + 1)) = decide ((s[i + 1].toNat : Int) = 47) := by
          rw [List.drop_eq_getElem_cons hi1, isCom_cons, decide_eq_true h47, Bool.true_and]
        generalize s[i + 1] = d at *
        have hd : (d.toNat : Int) = 47 := by rw [hcm] at hcc; exact of_decide_eq_true hcc.symm
        obtain ⟨T, hT⟩ : ∃ T, ((b :: s.drop (i + 1)).takeWhile notNl).length = T := ⟨_, rfl⟩
        obtain ⟨hTl, hT2, hs3⟩ := comC hcm T hT
        have htw := tw_get notNl (b :: s.drop (i + 1))
        rw [hT, ← hdr] at htw
        repeat' (first | refine ex_i64 ((i + 1 : Nat) : Int) (by omega) (by omega) (by omega) ?_ | refine ex_u64 ((i + 1 : Nat) : Int) (by omega) (by omega) (by omega) ?_ | refine ex_u8 ((i + 1 : Nat) : Int) (by omega) (by omega) (by omega) ?_ | refine (ex_chr (i + 1) d rfl hc2) ?_ | refine (ex_chr i b rfl hc) ?_ | refine ex_true (by first | decide | omega | assumption | (with_reducible exact rfl)) ?_ | refine ex_false (by first | decide | omega | assumption | exact (fun h => h rfl)) ?_ | refine ex_dec (fun _ => ?_) (fun _ => ?_) | refine ex_u8 _ rfl (by omega) (by omega) ?_ | refine ex_i64 _ rfl (by omega) (by omega) ?_ | refine ex_u64 _ rfl (by omega) (by omega) ?_ | refine and_mk (by first | omega | (show drawOk _ _ _ = true; kernel_rfl)) ?_ | refine and_mk ⟨_, rfl⟩ ?_ | refine ex_is _ (List.length_map _) ?_ | refine ex_is _ List.length_nil ?_ | fail "no step")
        refine ex_loop (X := Nat) (fun k => ⟨[(0, Tstr (bs s)), (3, .o (.c (.ptr 0 0))), (5, .o (.c (.row 1))), (6, Ti u), (7, Ti (v + k : Nat)), (8, Ti (i + k : Nat))], [(0, Pz), (1, .row 5 38 (o.map tokD))], 2⟩) (fun k => T - k) (fun k => k ≤ T) 0 (Nat.zero_le _) (SLe.of ⟨⟨rfl, rfl, rfl, rfl, rfl, rfl, trivial⟩, ⟨rfl, rfl, trivial⟩⟩) ?_
        intro k hk
        by_cases hkl : i + k < s.length
        · have hc3 : s[i + k]? = some s[i + k] := at_some hkl
          have hw := htw k s[i + k] (by rw [List.getElem?_drop]; exact hc3) hk
          generalize s[i + k] = z at *
          by_cases hz : (z.toNat : Int) = 10
          · have hkT : k = T := by
              have : notNl z = false := by rw [(u8_int 10 (by decide)).1 hz]; rfl
              rw [this] at hw
              simp at hw
              omega
            subst hkT
            repeat' (first | refine (ex_chr (i + k) z rfl hc3) ?_ | refine ex_true (by first | decide | omega | assumption | (with_reducible exact rfl)) ?_ | refine ex_false (by first | decide | omega | assumption | exact (fun h => h rfl)) ?_ | refine ex_dec (fun _ => ?_) (fun _ => ?_) | refine ex_u8 _ rfl (by omega) (by omega) ?_ | refine ex_i64 _ rfl (by omega) (by omega) ?_ | refine ex_u64 _ rfl (by omega) (by omega) ?_ | refine and_mk (by first | omega | (show drawOk _ _ _ = true; kernel_rfl)) ?_ | refine and_mk ⟨_, rfl⟩ ?_ | refine ex_is _ (List.length_map _) ?_ | refine ex_is _ List.length_nil ?_ | fail "no step")
            exact ex_round (i + k, u, v + k, o) ⟨hTl, ⟨hb1, by show 1 ≤ v + k; omega, by show u + _ ≤ _; omega, by show v + k + _ ≤ _; omega⟩, by omega, hs3⟩ (by show _ - _ < _ - _; omega) (SLe.of ⟨⟨rfl, rfl, rfl, rfl, rfl, rfl, trivial⟩, ⟨rfl, rfl, trivial⟩⟩)
          · have hkT : k < T := hw.2 (by
              rcases hh : notNl z with _ | _
              · exact absurd ((u8_int 10 (by decide)).2 (by unfold notNl at hh; simpa using hh)) hz
              · rfl)
            repeat' (first | refine ex_i64 ((v + (k + 1) : Nat) : Int) (by omega) (by omega) (by omega) ?_ | refine ex_u64 ((v + (k + 1) : Nat) : Int) (by omega) (by omega) (by omega) ?_ | refine ex_u8 ((v + (k + 1) : Nat) : Int) (by omega) (by omega) (by omega) ?_ | refine ex_i64 ((i + (k + 1) : Nat) : Int) (by omega) (by omega) (by omega) ?_ | refine ex_u64 ((i + (k + 1) : Nat) : Int) (by omega) (by omega) (by omega) ?_ | refine ex_u8 ((i + (k + 1) : Nat) : Int) (by omega) (by omega) (by omega) ?_ | refine (ex_chr (i + k) z rfl hc3) ?_ | refine ex_true (by first | decide | omega | assumption | (with_reducible exact rfl)) ?_ | refine ex_false (by first | decide | omega | assumption | exact (fun h => h rfl)) ?_ | refine ex_dec (fun _ => ?_) (fun _ => ?_) | refine ex_u8 _ rfl (by omega) (by omega) ?_ | refine ex_i64 _ rfl (by omega) (by omega) ?_ | refine ex_u64 _ rfl (by omega) (by omega) ?_ | refine and_mk (by first | omega | (show drawOk _ _ _ = true; kernel_rfl)) ?_ | refine and_mk ⟨_, rfl⟩ ?_ | refine ex_is _ (List.length_map _) ?_ | refine ex_is _ List.length_nil ?_ | fail "no step")
            exact ex_round (k + 1) (by show k + 1 ≤ T; omega) (by show T - _ < T - _; omega) (SLe.of ⟨⟨rfl, rfl, rfl, rfl, rfl, rfl, trivial⟩, ⟨rfl, rfl, trivial⟩⟩)
        · have hkT : k = T := by omega
          subst hkT
          repeat' (first | refine ex_true (by first | decide | omega | assumption | (with_reducible exact rfl)) ?_ | refine ex_false (by first | decide | omega | assumption | exact (fun h => h rfl)) ?_ | refine ex_dec (fun _ => ?_) (fun _ => ?_) | refine ex_u8 _ rfl (by omega) (by omega) ?_ | refine ex_i64 _ rfl (by omega) (by omega) ?_ | refine ex_u64 _ rfl (by omega) (by omega) ?_ | refine and_mk (by first | omega | (show drawOk _ _ _ = true; kernel_rfl)) ?_ | refine and_mk ⟨_, rfl⟩ ?_ | refine ex_is _ (List.length_map _) ?_ | refine ex_is _ List.length_nil ?_ | fail "no step")
          exact ex_round (i + k, u, v + k, o) ⟨hTl, ⟨hb1, by show 1 ≤ v + k; omega, by show u + _ ≤ _; omega, by show v + k + _ ≤ _; omega⟩, by omega, hs3⟩ (by show _ - _ < _ - _; omega) (SLe.of ⟨⟨rfl, rfl, rfl, rfl, rfl, rfl, trivial⟩, ⟨rfl, rfl, trivial⟩⟩)
    · have hil : i = s.length := by omega
      subst hil
      rw [List.drop_length, lexF_nil] at hs2
      subst hs2
      repeat' (first | refine ex_true (by first | decide | omega | assumption | (with_reducible exact rfl)) ?_ | refine ex_false (by first | decide | omega | assumption | exact (fun h => h rfl)) ?_ | refine ex_dec (fun _ => ?_) (fun _ => ?_) | refine ex_u8 _ rfl (by omega) (by omega) ?_ | refine ex_i64 _ rfl (by omega) (by omega) ?_ | refine ex_u64 _ rfl (by omega) (by omega) ?_ | refine and_mk (by first | omega | (show drawOk _ _ _ = true; kernel_rfl)) ?_ | refine and_mk ⟨_, rfl⟩ ?_ | refine ex_is _ (List.length_map _) ?_ | refine ex_is _ List.length_nil ?_ | fail "no step")
      refine ex_app (o.length) (1) 1000 (by first | rfl | (simp; done) | (simp; omega)) (by first | rfl | (simp; done) | (simp; omega)) rfl (by omega) ?_
      refine ex_is (List.map tokD (o ++ [(⟨3, [], 0, u, v⟩ : TokP)])) (by rw [List.map_append]; rfl) ?_
      repeat' (first | refine ex_true (by first | decide | omega | assumption | (with_reducible exact rfl)) ?_ | refine ex_false (by first | decide | omega | assumption | exact (fun h => h rfl)) ?_ | refine ex_dec (fun _ => ?_) (fun _ => ?_) | refine ex_u8 _ rfl (by omega) (by omega) ?_ | refine ex_i64 _ rfl (by omega) (by omega) ?_ | refine ex_u64 _ rfl (by omega) (by omega) ?_ | refine and_mk (by first | omega | (show drawOk _ _ _ = true; kernel_rfl)) ?_ | refine and_mk ⟨_, rfl⟩ ?_ | refine ex_is _ (List.length_map _) ?_ | refine ex_is _ List.length_nil ?_ | fail "no step")
      exact TLe.rfl
  · rw [if_neg hs]
    refine fn_rule (C := ⟨Tryd.prog, layF, Tryd.f9.ntmps, Γ0, 0, [], []⟩) layF_ok mixed Tryd.func9 rfl (by kernel_rfl) rfl rfl rfl ?_
    repeat' (first | refine ex_true (by first | decide | omega | assumption | (with_reducible exact rfl)) ?_ | refine ex_false (by first | decide | omega | assumption | exact (fun h => h rfl)) ?_ | refine ex_dec (fun _ => ?_) (fun _ => ?_) | refine ex_u8 _ rfl (by omega) (by omega) ?_ | refine ex_i64 _ rfl (by omega) (by omega) ?_ | refine ex_u64 _ rfl (by omega) (by omega) ?_ | refine and_mk (by first | omega | (show drawOk _ _ _ = true; kernel_rfl)) ?_ | refine and_mk ⟨_, rfl⟩ ?_ | refine ex_is _ (List.length_map _) ?_ | refine ex_is _ List.length_nil ?_ | fail "no step")
    exact TLe.nilc
end Go.Proofs.YtokhlojibhegnaaDoor

namespace Go.Proofs.YtokhlojibhegnaaDoor
set_option linter.unusedVariables false
set_option linter.unusedSimpArgs false
open Go.RowKit
set_option maxRecDepth 100000

theorem let_dig (b : UInt8) : (isLet b && isDig b) = false := u8_all (p := fun b => isLet b && isDig b) (q := fun _ => false) (by decide +kernel) b
theorem rname_c (s : List UInt8) (hl : s.length ≤ 281474976710656) : CallsA Tryd.prog Γ0 12 [c1 (ds (bs s))] (Tb (nameF s)) := by
  have hsz := bs_size s
  obtain ⟨N, hN⟩ : ∃ N, nameF s = N := ⟨_, rfl⟩
  rw [hN]
  by_cases hb : 1 ≤ s.length ∧ s.length ≤ 32
  · obtain ⟨h1, h2⟩ := hb
    refine fn_rule (C := ⟨Tryd.prog, layF, Tryd.f12.ntmps, Γ0, 0, [], []⟩) layF_ok mixed Tryd.func12 rfl (by kernel_rfl) rfl rfl rfl ?_
    repeat' (first | refine ex_true (by first | decide | omega | assumption | (with_reducible exact rfl)) ?_ | refine ex_false (by first | decide | omega | assumption | exact (fun h => h rfl)) ?_ | refine ex_dec (fun _ => ?_) (fun _ => ?_) | refine ex_u8 _ rfl (by omega) (by omega) ?_ | refine ex_i64 _ rfl (by omega) (by omega) ?_ | refine ex_u64 _ rfl (by omega) (by omega) ?_ | refine and_mk (by first | omega | (show drawOk _ _ _ = true; kernel_rfl)) ?_ | refine and_mk ⟨_, rfl⟩ ?_ | refine ex_is _ (List.length_map _) ?_ | refine ex_is _ List.length_nil ?_ | fail "no step")
    refine ex_loop (X := Nat) (fun q => ⟨[(0, Tstr (bs s)), (3, Ti q)], [], 0⟩) (fun q => s.length - q) (fun q => q ≤ s.length ∧ (q = 0 ∨ (s.drop q).all alnum = N)) 0 ⟨Nat.zero_le _, .inl rfl⟩ (SLe.of ⟨⟨rfl, rfl, trivial⟩, trivial⟩) ?_
    rintro q ⟨hq, hs⟩
    refine ex_dec (fun h => ?_) (fun h => ?_)
    · have hql : q < s.length := by omega
      have hc : s[q]? = some s[q] := at_some hql
      have hdr := List.drop_eq_getElem_cons hql
      generalize s[q] = c at *
      have hld := let_dig c
      have hdg := rdigit_c c
      have hlt := rletter_c c
      have h0 : q = 0 → N = (alnum c && ((s.drop 1).all alnum) && !isDig c) := fun e => by
        subst e
        rw [List.drop_zero] at hdr
        rw [← hN, hdr]
        show (decide ((c :: s.drop 1).length ≤ 32) && ((c :: s.drop 1).all alnum && !isDig c)) = _
        rw [← hdr, decide_eq_true h2, Bool.true_and, hdr, List.all_cons]
        rfl
      have h3 : q ≠ 0 → N = (alnum c && (s.drop (q + 1)).all alnum) := fun e => by
        rcases hs with hs | hs
        · exact absurd hs e
        · rw [← hs, hdr, List.all_cons]
      have ha : alnum c = (isDig c || isLet c) := rfl
      rw [ha] at h0 h3
      obtain ⟨A1, hA1⟩ : ∃ A, (s.drop 1).all alnum = A := ⟨_, rfl⟩
      obtain ⟨A2, hA2⟩ : ∃ A, (s.drop (q + 1)).all alnum = A := ⟨_, rfl⟩
      have hA : q = 0 → A1 = A2 := fun e => by rw [← hA1, ← hA2, e]
      rw [hA1] at h0
      rw [hA2] at h3
      rcases hD : isDig c with _ | _ <;> rw [hD] at hdg hld h0 h3 <;> rcases hL : isLet c with _ | _ <;> rw [hL] at hlt hld h0 h3 <;> simp at hld h0 h3
      all_goals
        repeat' (first | refine ex_call hlt ?_ | refine ex_call hdg ?_ | refine ex_i64 ((q + 1 : Nat) : Int) (by omega) (by omega) (by omega) ?_ | refine ex_u64 ((q + 1 : Nat) : Int) (by omega) (by omega) (by omega) ?_ | refine ex_u8 ((q + 1 : Nat) : Int) (by omega) (by omega) (by omega) ?_ | refine (ex_chr q c rfl hc) ?_ | refine ex_true (by first | decide | omega | assumption | (with_reducible exact rfl)) ?_ | refine ex_false (by first | decide | omega | assumption | exact (fun h => h rfl)) ?_ | refine ex_dec (fun _ => ?_) (fun _ => ?_) | refine ex_u8 _ rfl (by omega) (by omega) ?_ | refine ex_i64 _ rfl (by omega) (by omega) ?_ | refine ex_u64 _ rfl (by omega) (by omega) ?_ | refine and_mk (by first | omega | (show drawOk _ _ _ = true; kernel_rfl)) ?_ | refine and_mk ⟨_, rfl⟩ ?_ | refine ex_is _ (List.length_map _) ?_ | refine ex_is _ List.length_nil ?_ | fail "no step")
        all_goals first
          | exact ex_round (q + 1) ⟨by omega, .inr (by
              rcases Nat.eq_zero_or_pos q with e | e
              · first | (exfalso; omega) | rw [hA2, h0 e, hA e]
              · rw [hA2, h3 (by omega)])⟩ (by show _ - _ < _ - _; omega) (SLe.of ⟨⟨rfl, rfl, trivial⟩, trivial⟩)
          | exact TLe.eq (congrArg Tb (by
              rcases Nat.eq_zero_or_pos q with e | e
              · first | (exfalso; omega) | rw [h0 e]
              · first | (exfalso; omega) | rw [h3 (by omega)]))
    · rw [List.drop_eq_nil_of_le (by omega)] at hs
      have : N = true := by
        rcases hs with hs | hs
        · omega
        · exact hs.symm
      subst this
      repeat' (first | refine ex_true (by first | decide | omega | assumption | (with_reducible exact rfl)) ?_ | refine ex_false (by first | decide | omega | assumption | exact (fun h => h rfl)) ?_ | refine ex_dec (fun _ => ?_) (fun _ => ?_) | refine ex_u8 _ rfl (by omega) (by omega) ?_ | refine ex_i64 _ rfl (by omega) (by omega) ?_ | refine ex_u64 _ rfl (by omega) (by omega) ?_ | refine and_mk (by first | omega | (show drawOk _ _ _ = true; kernel_rfl)) ?_ | refine and_mk ⟨_, rfl⟩ ?_ | refine ex_is _ (List.length_map _) ?_ | refine ex_is _ List.length_nil ?_ | fail "no step")
      exact TLe.rfl
  · have : N = false := by
      rw [← hN]
      rcases s with _ | ⟨b, x⟩
      · rfl
      · show (decide ((b :: x).length ≤ 32) && _) = false
        rw [decide_eq_false (fun e => hb ⟨by simp, e⟩)]; rfl
    subst this
    refine fn_rule (C := ⟨Tryd.prog, layF, Tryd.f12.ntmps, Γ0, 0, [], []⟩) layF_ok mixed Tryd.func12 rfl (by kernel_rfl) rfl rfl rfl ?_
    repeat' (first | refine ex_true (by first | decide | omega | assumption | (with_reducible exact rfl)) ?_ | refine ex_false (by first | decide | omega | assumption | exact (fun h => h rfl)) ?_ | refine ex_dec (fun _ => ?_) (fun _ => ?_) | refine ex_u8 _ rfl (by omega) (by omega) ?_ | refine ex_i64 _ rfl (by omega) (by omega) ?_ | refine ex_u64 _ rfl (by omega) (by omega) ?_ | refine and_mk (by first | omega | (show drawOk _ _ _ = true; kernel_rfl)) ?_ | refine and_mk ⟨_, rfl⟩ ?_ | refine ex_is _ (List.length_map _) ?_ | refine ex_is _ List.length_nil ?_ | fail "no step")
    all_goals exact TLe.rfl
theorem tailJ_app (a b : List TokP) : tailJ (a ++ b) = tailJ a ++ tailJ b := by unfold tailJ; rw [List.flatMap_append]
theorem joinF_app (us : List TokP) (u : TokP) : joinF (us ++ [u]) = if us = [] then u.t else joinF us ++ 32 :: u.t := by
  unfold joinF
  rw [tailJ_app]
  rcases us with _ | ⟨v, us⟩
  · rw [if_pos rfl]
    show List.drop 1 ([] ++ (32 :: (u.t ++ []))) = u.t
    simp
  · rw [if_neg (by simp)]
    show List.drop 1 (32 :: (v.t ++ tailJ us) ++ (32 :: (u.t ++ []))) = List.drop 1 (32 :: (v.t ++ tailJ us)) ++ 32 :: u.t
    simp
theorem joinF_ne {us : List TokP} (h : ∀ u ∈ us, u.t ≠ []) (h0 : us ≠ []) : joinF us ≠ [] := by
  rcases us with _ | ⟨v, us⟩
  · exact absurd rfl h0
  · show v.t ++ tailJ us ≠ []
    simp [h v (by simp)]
theorem tail_le (a b : List TokP) : (joinF a).length ≤ (tailJ (a ++ b)).length := by
  rw [tailJ_app, List.length_append]
  unfold joinF
  rw [List.length_drop]
  omega
theorem rjoin_c (ts : List TokP) (hl : ts.length ≤ 1000000) (hj : (tailJ (ts.filter real)).length ≤ 1000000000) (hg : ∀ u ∈ ts, real u = true → u.t ≠ []) : CallsA Tryd.prog Γ0 14 [c1 (.sl 5 (ts.map tokD))] (Tstr (bs (joinF (ts.filter real)))) := by
  refine fn_rule (C := ⟨Tryd.prog, layF, Tryd.f14.ntmps, Γ0, 0, [], []⟩) layF_ok mixed Tryd.func14 rfl (by kernel_rfl) rfl rfl rfl ?_
  repeat' (first | refine ex_true (by first | decide | omega | assumption | (with_reducible exact rfl)) ?_ | refine ex_false (by first | decide | omega | assumption | exact (fun h => h rfl)) ?_ | refine ex_dec (fun _ => ?_) (fun _ => ?_) | refine ex_u8 _ rfl (by omega) (by omega) ?_ | refine ex_i64 _ rfl (by omega) (by omega) ?_ | refine ex_u64 _ rfl (by omega) (by omega) ?_ | refine and_mk (by first | omega | (show drawOk _ _ _ = true; kernel_rfl)) ?_ | refine and_mk ⟨_, rfl⟩ ?_ | refine ex_is _ (List.length_map _) ?_ | refine ex_is _ List.length_nil ?_ | fail "no step")
  refine ex_loop (X := Nat × ByteArray) (fun ⟨q, m⟩ => ⟨[(0, .o (c1 (.sl 5 (ts.map tokD)))), (3, Tstr m), (4, Ti q)], [], 0⟩) (fun x => ts.length - x.1)
    (fun ⟨q, m⟩ => q ≤ ts.length ∧ m = bs (joinF ((ts.take q).filter real))) (0, bs []) ⟨Nat.zero_le _, rfl⟩ (SLe.of ⟨⟨rfl, rfl, rfl, trivial⟩, trivial⟩) ?_
  rintro ⟨q, m⟩ ⟨hq, hm⟩
  refine ex_is ts.length (by simp) ?_
  refine ex_dec (fun h => ?_) (fun h => ?_)
  · have hql : q < ts.length := by omega
    have hc : ts[q]? = some ts[q] := at_some hql
    have hmem : ts[q] ∈ ts := List.getElem_mem hql
    have hms : m.size = (joinF ((ts.take q).filter real)).length := by rw [hm, bs_size]
    have h32 : (⟨#[32]⟩ : ByteArray).size = 1 := rfl
    have htk : (ts.take (q + 1)).filter real = (ts.take q).filter real ++ [ts[q]].filter real := by rw [List.take_add_one, hc, List.filter_append]; rfl
    have hle : (joinF ((ts.take (q + 1)).filter real)).length ≤ 1000000000 := by
      have := tail_le ((ts.take (q + 1)).filter real) ((ts.drop (q + 1)).filter real)
      rw [← List.filter_append, List.take_append_drop] at this
      omega
    have hne : (ts.take q).filter real ≠ [] → m ≠ ByteArray.empty := fun h => by
      rw [hm]
      exact size_pos (joinF_ne (fun u hu => by
        have := List.mem_filter.1 hu
        exact hg u (List.mem_of_mem_take this.1) this.2) h)
    generalize ts[q] = u at *
    have hus := bs_size u.t
    rcases hr : real u with _ | _
    · have hk : u.k = 3 := by simpa [real] using hr
      repeat' (first | refine ex_i64 ((q + 1 : Nat) : Int) (by omega) (by omega) (by omega) ?_ | refine ex_u64 ((q + 1 : Nat) : Int) (by omega) (by omega) (by omega) ?_ | refine ex_u8 ((q + 1 : Nat) : Int) (by omega) (by omega) (by omega) ?_ | refine (ex_row q u rfl hc) ?_ | refine ex_true (by first | decide | omega | assumption | (with_reducible exact rfl)) ?_ | refine ex_false (by first | decide | omega | assumption | exact (fun h => h rfl)) ?_ | refine ex_dec (fun _ => ?_) (fun _ => ?_) | refine ex_u8 _ rfl (by omega) (by omega) ?_ | refine ex_i64 _ rfl (by omega) (by omega) ?_ | refine ex_u64 _ rfl (by omega) (by omega) ?_ | refine and_mk (by first | omega | (show drawOk _ _ _ = true; kernel_rfl)) ?_ | refine and_mk ⟨_, rfl⟩ ?_ | refine ex_is _ (List.length_map _) ?_ | refine ex_is _ List.length_nil ?_ | fail "no step")
      exact ex_round (q + 1, m) ⟨by omega, by rw [htk, List.filter_cons, hr, hm]; simp⟩ (by show _ - _ < _ - _; omega) (SLe.of ⟨⟨rfl, rfl, rfl, trivial⟩, trivial⟩)
    · have hk : u.k ≠ 3 := by simpa [real] using hr
      have hnx : joinF ((ts.take (q + 1)).filter real) = joinF ((ts.take q).filter real ++ [u]) := by rw [htk, List.filter_cons, hr]; rfl
      rw [hnx, joinF_app] at hle
      rw [joinF_app] at hnx
      by_cases h0 : (ts.take q).filter real = []
      · rw [if_pos h0] at hle hnx
        have hm0 : m = bs [] := by rw [hm, h0]; rfl
        rw [h0, show (joinF []).length = 0 from rfl] at hms
        subst hm0
        repeat' (first | refine ex_i64 ((q + 1 : Nat) : Int) (by omega) (by omega) (by omega) ?_ | refine ex_u64 ((q + 1 : Nat) : Int) (by omega) (by omega) (by omega) ?_ | refine ex_u8 ((q + 1 : Nat) : Int) (by omega) (by omega) (by omega) ?_ | refine (ex_row q u rfl hc) ?_ | refine ex_true (by first | decide | omega | assumption | (with_reducible exact rfl)) ?_ | refine ex_false (by first | decide | omega | assumption | exact (fun h => h rfl)) ?_ | refine ex_dec (fun _ => ?_) (fun _ => ?_) | refine ex_u8 _ rfl (by omega) (by omega) ?_ | refine ex_i64 _ rfl (by omega) (by omega) ?_ | refine ex_u64 _ rfl (by omega) (by omega) ?_ | refine and_mk (by first | omega | (show drawOk _ _ _ = true; kernel_rfl)) ?_ | refine and_mk ⟨_, rfl⟩ ?_ | refine ex_is _ (List.length_map _) ?_ | refine ex_is _ List.length_nil ?_ | fail "no step")
        exact ex_round (q + 1, bs [] ++ bs u.t) ⟨by omega, by rw [hnx, bs_app]; rfl⟩ (by show _ - _ < _ - _; omega) (SLe.of ⟨⟨rfl, rfl, rfl, trivial⟩, trivial⟩)
      · rw [if_neg h0] at hle hnx
        have hmn := hne h0
        rw [List.length_append, List.length_cons] at hle
        have hsp : (m ++ ⟨#[32]⟩).size = m.size + 1 := by rw [ByteArray.size_append]; rfl
        repeat' (first | refine ex_i64 ((q + 1 : Nat) : Int) (by omega) (by omega) (by omega) ?_ | refine ex_u64 ((q + 1 : Nat) : Int) (by omega) (by omega) (by omega) ?_ | refine ex_u8 ((q + 1 : Nat) : Int) (by omega) (by omega) (by omega) ?_ | refine (ex_row q u rfl hc) ?_ | refine ex_true (by first | decide | omega | assumption | (with_reducible exact rfl)) ?_ | refine ex_false (by first | decide | omega | assumption | exact (fun h => h rfl)) ?_ | refine ex_dec (fun _ => ?_) (fun _ => ?_) | refine ex_u8 _ rfl (by omega) (by omega) ?_ | refine ex_i64 _ rfl (by omega) (by omega) ?_ | refine ex_u64 _ rfl (by omega) (by omega) ?_ | refine and_mk (by first | omega | (show drawOk _ _ _ = true; kernel_rfl)) ?_ | refine and_mk ⟨_, rfl⟩ ?_ | refine ex_is _ (List.length_map _) ?_ | refine ex_is _ List.length_nil ?_ | fail "no step")
        all_goals first
          | exact absurd ‹_› hmn
          | exact ex_round (q + 1, m ++ ⟨#[32]⟩ ++ bs u.t) ⟨by omega, by rw [hnx, hm, show (⟨#[32]⟩ : ByteArray) = bs [32] from rfl, bs_app, bs_app, List.append_assoc]; rfl⟩ (by show _ - _ < _ - _; omega) (SLe.of ⟨⟨rfl, rfl, rfl, trivial⟩, trivial⟩)
  · have hq' : q = ts.length := by omega
    subst hq'
    rw [List.take_length] at hm
    subst hm
    repeat' (first | refine ex_true (by first | decide | omega | assumption | (with_reducible exact rfl)) ?_ | refine ex_false (by first | decide | omega | assumption | exact (fun h => h rfl)) ?_ | refine ex_dec (fun _ => ?_) (fun _ => ?_) | refine ex_u8 _ rfl (by omega) (by omega) ?_ | refine ex_i64 _ rfl (by omega) (by omega) ?_ | refine ex_u64 _ rfl (by omega) (by omega) ?_ | refine and_mk (by first | omega | (show drawOk _ _ _ = true; kernel_rfl)) ?_ | refine and_mk ⟨_, rfl⟩ ?_ | refine ex_is _ (List.length_map _) ?_ | refine ex_is _ List.length_nil ?_ | fail "no step")
    exact TLe.rfl
end Go.Proofs.YtokhlojibhegnaaDoor

namespace Go.Proofs.YtokhlojibhegnaaDoor
set_option linter.unusedVariables false
set_option linter.unusedSimpArgs false
open Go.RowKit
set_option maxRecDepth 100000
section
variable {P : Program}
def EqT (P : Program) (d : Nat) (t : TypeId) (x y : Value) (c : Bool) : Prop := ∀ w, (Op.equalIn d t x y).run P w = .ok c w
def EqFs (P : Program) (d : Nat) (xs ys : List Value) (fs : List Field) (c : Bool) : Prop := ∀ w, (Op.eqFields d xs.toArray ys.toArray fs).run P w = .ok c w
def PartI (P : Program) (t : TypeId) (xs : List Value) (off : Nat) (x : Value) : Prop := ∀ w, (part t xs.toArray off).run P w = .ok x w
theorem EqT.int {d : Nat} {t : TypeId} {k k' : IntKind} {a b : Int} (h : P.underlying t = some (.int k')) : EqT P (d + 1) t (.int k a) (.int k b) (decide (a = b)) := fun w => by
  rw [run_equalIn_int w d t k k' a b h]
  rfl
theorem EqT.str {d : Nat} {t : TypeId} {a b : ByteArray} (h : P.underlying t = some .string) : EqT P (d + 1) t (.string a) (.string b) (decide (a = b)) := fun w => by
  rw [run_equalIn_string w d t a b h, bytes_eq]
theorem EqT.bool {d : Nat} {t : TypeId} {a b : Bool} (h : P.underlying t = some .bool) : EqT P (d + 1) t (.bool a) (.bool b) (decide (a = b)) := fun w => by
  rw [run_equalIn_bool' w d t a b h]
  cases a <;> cases b <;> rfl
theorem EqT.st {d : Nat} {t : TypeId} {fs : Array Field} {xs ys : List Value} {c : Bool} (hu : P.underlying t = some (.struct fs)) (hp : P.stoodInHeld t = false) (h : EqFs P d xs ys fs.toList c) : EqT P (d + 1) t (.agg xs.toArray) (.agg ys.toArray) c := fun w => by
  have hf : P.fieldsOf t = fs := by unfold Program.fieldsOf; rw [hu]
  rw [run_equalIn_struct w d t _ _ (by rw [hf]; exact hu) hp, hf]
  exact h w
/-- A struct's fields: is it named? its type, its place. -/
def fieldsK (P : Program) (t : TypeId) : List (Bool × Nat × Nat) := (P.fieldsOf t).toList.map fun f => (f.name != "_", f.type, f.offset)
def EqKs (P : Program) (d : Nat) (xs ys : List Value) (ks : List (Bool × Nat × Nat)) (c : Bool) : Prop := ∀ fs : List Field, fs.map (fun f => (f.name != "_", f.type, f.offset)) = ks → EqFs P d xs ys fs c
theorem EqT.stk {d : Nat} {t : TypeId} {xs ys : List Value} {c : Bool} (ks : List (Bool × Nat × Nat)) (hk : fieldsK P t = ks) (hs : (match P.underlying t with | some (.struct _) => true | _ => false) = true) (hp : P.stoodInHeld t = false) (h : EqKs P d xs ys ks c) : EqT P (d + 1) t (.agg xs.toArray) (.agg ys.toArray) c := by
  split at hs
  · rename_i fs hu
    refine EqT.st hu hp (h _ ?_)
    have hf : P.fieldsOf t = fs := by unfold Program.fieldsOf; rw [hu]
    rw [← hk, ← hf]; rfl
  · cases hs
theorem EqKs.nil {d : Nat} {xs ys : List Value} : EqKs P d xs ys [] true := fun fs h => by
  rw [List.map_eq_nil_iff] at h
  subst h
  exact fun w => rfl
theorem EqFs.cons {d : Nat} {xs ys : List Value} {f : Field} {fs : List Field} {x y : Value} {b c : Bool} (hn : (f.name != "_") = true) (hx : PartI P f.type xs f.offset x) (hy : PartI P f.type ys f.offset y) (h1 : EqT P d f.type x y b) (h2 : EqFs P d xs ys fs c) : EqFs P d xs ys (f :: fs) (b && c) := fun w => by
  have hn' : f.name ≠ "_" := by simpa using hn
  rw [Op.eqFields, if_pos hn']
  simp only [Sem.run_bind]
  rw [hx w, Result.andThen_ok, hy w, Result.andThen_ok, h1 w, Result.andThen_ok]
  cases b
  · simp
  · simp only [Bool.not_true, Bool.false_eq_true, if_false, Bool.true_and]
    exact h2 w
theorem EqKs.cons {d t off : Nat} {xs ys : List Value} {ks : List (Bool × Nat × Nat)} {x y : Value} {b c : Bool} (hx : PartI P t xs off x) (hy : PartI P t ys off y) (h1 : EqT P d t x y b) (h2 : EqKs P d xs ys ks c) : EqKs P d xs ys ((true, t, off) :: ks) (b && c) := fun fs h => by
  rcases fs with _ | ⟨f, fs⟩
  · cases h
  · rw [List.map_cons] at h
    injection h with e h
    injection e with e1 e
    injection e with e2 e3
    subst e2
    subst e3
    exact EqFs.cons e1 hx hy h1 (h2 fs h)
def isAggB (P : Program) (t : TypeId) : Bool := match P.underlying t with
  | some (.struct _) | some (.array _ _) => true
  | _ => false
theorem PartI.one {t : TypeId} {xs : List Value} {off : Nat} {x : Value} {dsc : TypeDesc} (hu : P.underlying t = some dsc) (ha : isAggB P t = false) (hx : xs[off]? = some x) : PartI P t xs off x := fun w => by
  unfold isAggB at ha
  rw [hu] at ha
  unfold part isAgg
  simp only [Sem.run_bind, run_underlying hu, Result.andThen_ok]
  cases dsc <;> first | (cases ha; done) | (simp [hx]; done)
theorem PartI.agg {t : TypeId} {xs : List Value} {off n : Nat} {ys : List Value} {dsc : TypeDesc} {i : TypeInfo} (hu : P.underlying t = some dsc) (ha : isAggB P t = true) (hi : P.info? t = some i) (hn : i.size = n) (hx : (xs.drop off).take n = ys) : PartI P t xs off (.agg ys.toArray) := fun w => by
  unfold isAggB at ha
  rw [hu] at ha
  have h1 : ∀ w, (isAgg t).run P w = .ok true w := fun w => by
    unfold isAgg
    simp only [Sem.run_bind, run_underlying hu, Result.andThen_ok]
    cases dsc <;> first | (cases ha; done) | rfl
  have h2 : ∀ w, (sizeOf t).run P w = .ok n w := fun w => by
    unfold sizeOf
    simp [typeInfo, hi, hn]
  unfold part
  simp only [Sem.run_bind, h1, h2, Result.andThen_ok, if_true]
  rw [← hx]
  simp [List.extract_eq_take_drop]
end
/-- The equality of two structs of the program, cell by cell. -/
theorem eqPos (a b c d : Int) (n : Nat) : EqT Tryd.prog (n + 2) 24 (.agg #[.int .i64 a, .int .i64 b]) (.agg #[.int .i64 c, .int .i64 d]) (decide (a = c) && (decide (b = d) && true)) :=
  EqT.stk (xs := [.int .i64 a, .int .i64 b]) (ys := [.int .i64 c, .int .i64 d]) [(true, 3, 0), (true, 3, 1)] (by kernel_rfl) (by kernel_rfl) (by kernel_rfl)
    (EqKs.cons (PartI.one rfl (by kernel_rfl) rfl) (PartI.one rfl (by kernel_rfl) rfl) (EqT.int rfl) (EqKs.cons (PartI.one rfl (by kernel_rfl) rfl) (PartI.one rfl (by kernel_rfl) rfl) (EqT.int rfl) EqKs.nil))
theorem eqTok (k u v k' u' v' n n' : Int) (s s' : ByteArray) (d : Nat) : EqT Tryd.prog (d + 3) 36 (.agg #[.int .i64 k, .string s, .int .u64 n, .int .i64 u, .int .i64 v]) (.agg #[.int .i64 k', .string s', .int .u64 n', .int .i64 u', .int .i64 v']) (decide (k = k') && (decide (s = s') && (decide (n = n') && ((decide (u = u') && (decide (v = v') && true)) && true)))) :=
  EqT.stk (xs := [.int .i64 k, .string s, .int .u64 n, .int .i64 u, .int .i64 v]) (ys := [.int .i64 k', .string s', .int .u64 n', .int .i64 u', .int .i64 v']) [(true, 33, 0), (true, 9, 1), (true, 34, 2), (true, 24, 3)] (by kernel_rfl) (by kernel_rfl) (by kernel_rfl)
    (EqKs.cons (PartI.one rfl (by kernel_rfl) rfl) (PartI.one rfl (by kernel_rfl) rfl) (EqT.int rfl) (EqKs.cons (PartI.one rfl (by kernel_rfl) rfl) (PartI.one rfl (by kernel_rfl) rfl) (EqT.str rfl) (EqKs.cons (PartI.one rfl (by kernel_rfl) rfl) (PartI.one rfl (by kernel_rfl) rfl) (EqT.int rfl)
      (EqKs.cons (PartI.agg rfl (by kernel_rfl) rfl rfl rfl) (PartI.agg rfl (by kernel_rfl) rfl rfl rfl) (eqPos u v u' v' d) EqKs.nil))))
theorem ex_agg {g : Prop} {Q K : Bool → Prop} (hg : g) (c : Bool) (he : Q c) (h : K c) : g ∧ ∃ c, Q c ∧ K c := ⟨hg, c, he, h⟩
theorem eqPosT (a b : Int) : ∀ w, (Op.equal 24 (.agg [.int .i64 a, .int .i64 b].toArray) (.agg [.int .i64 a, .int .i64 b].toArray)).run Tryd.prog w = .ok true w := fun w => by
  have h := eqPos a b a b 9998 w
  rw [decide_eq_true rfl, decide_eq_true rfl] at h
  exact h
theorem eqTokT (k u v n : Int) (s : ByteArray) : ∀ w, (Op.equal 36 (.agg [.int .i64 k, .string s, .int .u64 n, .int .i64 u, .int .i64 v].toArray) (.agg [.int .i64 k, .string s, .int .u64 n, .int .i64 u, .int .i64 v].toArray)).run Tryd.prog w = .ok true w := fun w => by
  have h := eqTok k u v k u v n n s s 9997 w
  rw [decide_eq_true rfl, decide_eq_true rfl, decide_eq_true rfl, decide_eq_true rfl, decide_eq_true rfl] at h
  exact h
end Go.Proofs.YtokhlojibhegnaaDoor

namespace Go.Proofs.YtokhlojibhegnaaDoor
set_option linter.unusedVariables false
set_option linter.unusedSimpArgs false
open Go.RowKit
set_option maxRecDepth 100000

def wakeTs : List TokP := [⟨0, [97], 0, 1, 1⟩, ⟨2, [61], 0, 1, 2⟩, ⟨1, [48, 120, 49, 48], 16, 1, 3⟩, ⟨2, [59], 0, 1, 7⟩, ⟨3, [], 0, 1, 13⟩]
theorem wakes_c : CallsA Tryd.prog ΓL 10 [] (Tb true) := by
  have h1 := lex_c [97, 61, 48, 120, 49, 48, 59, 32, 47, 47, 32, 120]
  rw [show lexV [97, 61, 48, 120, 49, 48, 59, 32, 47, 47, 32, 120] = .ok wakeTs by kernel_rfl] at h1
  have h2 := (Join_c wakeTs (by decide) (by decide)).of0 (Γ := ΓL)
  rw [show joinF (wakeTs.filter real) = [97, 32, 61, 32, 48, 120, 49, 48, 32, 59] by kernel_rfl] at h2
  have h3 := (name_c [97, 95, 49] (by decide)).of0 (Γ := ΓL)
  rw [show nameF [97, 95, 49] = true by kernel_rfl] at h3
  refine fn_rule (C := ⟨Tryd.prog, layF, Tryd.f10.ntmps, ΓL, 0, [], []⟩) layF_ok mixed Tryd.func10 rfl (by kernel_rfl) rfl rfl rfl ?_
  repeat' (first | refine ex_call h3 ?_ | refine ex_call h2 ?_ | refine ex_call h1 ?_ | refine (ex_agg (by kernel_rfl) true (eqPosT _ _)) ?_ | refine (ex_row 4 _ rfl rfl) ?_ | refine (ex_row 3 _ rfl rfl) ?_ | refine (ex_row 2 _ rfl rfl) ?_ | refine (ex_row 1 _ rfl rfl) ?_ | refine (ex_row 0 _ rfl rfl) ?_ | refine ex_true (by first | decide | omega | assumption | (with_reducible exact rfl)) ?_ | refine ex_false (by first | decide | omega | assumption | exact (fun h => h rfl)) ?_ | refine ex_dec (fun _ => ?_) (fun _ => ?_) | refine ex_u8 _ rfl (by omega) (by omega) ?_ | refine ex_i64 _ rfl (by omega) (by omega) ?_ | refine ex_u64 _ rfl (by omega) (by omega) ?_ | refine and_mk (by first | omega | (show drawOk _ _ _ = true; kernel_rfl)) ?_ | refine and_mk ⟨_, rfl⟩ ?_ | refine ex_is _ (List.length_map _) ?_ | refine ex_is _ List.length_nil ?_ | fail "no step")
  exact TLe.rfl
theorem lex_bound : ∀ (n : Nat) (r : List UInt8) (l c : Nat) (ts : List TokP), r.length < n → lexN n r l c = .ok ts → ts.length ≤ r.length + 1 ∧ (tailJ (ts.filter real)).length ≤ 2 * r.length := by
  intro n
  induction n with
  | zero => intro r l c ts h; omega
  | succ n ih =>
    intro r l c ts hlen h
    rw [lexN] at h
    rcases hs : stp r l c with _ | ⟨r', l', c'⟩ | ⟨k, t, v⟩ | e <;> rw [hs] at h <;> dsimp only at h
    · cases h
      exact ⟨by simp, by simp [real, tailJ]⟩
    · have h1 := stp_go hs
      obtain ⟨e1, e2⟩ := ih r' l' c' ts (by omega) h
      exact ⟨by omega, by omega⟩
    · obtain ⟨⟨X, rfl⟩, h2, h3, -⟩ := tokF_ok (stp_tok hs)
      have h4 : 0 < t.length := List.length_pos_iff.2 h2
      rw [List.length_append] at hlen ⊢
      rw [List.drop_left] at h
      rcases hr : lexN n X l (c + t.length) with ts' | _
      · rw [hr] at h
        have h' : [⟨k, t, v, l, c⟩] ++ ts' = ts := by injection h
        obtain ⟨e1, e2⟩ := ih X l (c + t.length) ts' (by omega) hr
        subst h'
        refine ⟨by rw [List.length_append]; simp; omega, ?_⟩
        rw [List.filter_append, tailJ_app, List.length_append]
        have : (tailJ (List.filter real [⟨k, t, v, l, c⟩])).length = 1 + t.length := by
          have : real ⟨k, t, v, l, c⟩ = true := by simp [real]; omega
          rw [List.filter_cons, if_pos this]
          simp [tailJ]; omega
        omega
      · rw [hr] at h; cases h
    · cases h
theorem lexV_good {s : List UInt8} {ts : List TokP} (h : lexV s = .ok ts) : s.length ≤ 16384 ∧ ts.length ≤ 16385 ∧ (tailJ (ts.filter real)).length ≤ 32768 ∧ ∃ us l c, ts = us ++ [⟨3, [], 0, l, c⟩] ∧ (∀ u ∈ us, GoodTok u) ∧ ts.filter real = us := by
  unfold lexV at h
  split at h
  · rename_i hl
    obtain ⟨e1, e2⟩ := lex_bound _ s 1 1 ts (Nat.lt_succ_self _) h
    obtain ⟨us, l, c, e3, e4⟩ := lexF_good h
    refine ⟨hl, by omega, by omega, us, l, c, e3, e4, ?_⟩
    rw [e3, List.filter_append, List.filter_cons, if_neg (by simp [real]), List.filter_nil, List.append_nil, List.filter_eq_self.2 (fun u hu => ?_)]
    have := (e4 u hu).1
    simp [real]; omega
  · cases h
theorem good_ne {ts : List TokP} {s : List UInt8} (h : lexV s = .ok ts) : ∀ u ∈ ts, real u = true → u.t ≠ [] := by
  obtain ⟨-, -, -, us, l, c, rfl, e, hf⟩ := lexV_good h
  intro u hu hr
  rcases List.mem_append.1 hu with hu | hu
  · exact (e u hu).2.1
  · rw [List.mem_singleton.1 hu] at hr
    cases hr
theorem lexReads_c (s : List UInt8) : CallsA Tryd.prog ΓL 3 [c1 (ds (bs s))] (Tb true) := by
  have h1 := lex_c s
  have h2 := (rlex_c s).of0 (Γ := ΓL)
  have hw := wakes_c
  rcases hR : lexV s with ts | ⟨l, c, e⟩ <;> rw [hR] at h1 h2
  · have hb := (lexV_good hR).2.1
    refine fn_rule (C := ⟨Tryd.prog, layF, Tryd.f3.ntmps, ΓL, 0, [], []⟩) layF_ok mixed Tryd.func3 rfl (by kernel_rfl) rfl rfl rfl ?_
    repeat' (first | refine ex_call hw ?_ | refine ex_call h2 ?_ | refine ex_call h1 ?_ | refine (ex_agg (by kernel_rfl) true (eqPosT _ _)) ?_ | refine ex_true (by first | decide | omega | assumption | (with_reducible exact rfl)) ?_ | refine ex_false (by first | decide | omega | assumption | exact (fun h => h rfl)) ?_ | refine ex_dec (fun _ => ?_) (fun _ => ?_) | refine ex_u8 _ rfl (by omega) (by omega) ?_ | refine ex_i64 _ rfl (by omega) (by omega) ?_ | refine ex_u64 _ rfl (by omega) (by omega) ?_ | refine and_mk (by first | omega | (show drawOk _ _ _ = true; kernel_rfl)) ?_ | refine and_mk ⟨_, rfl⟩ ?_ | refine ex_is _ (List.length_map _) ?_ | refine ex_is _ List.length_nil ?_ | fail "no step")
    refine ex_loop (X := Nat) (fun q => ⟨[(3, .o (c1 (.sl 5 (ts.map tokD)))), (6, .o (c1 (.sl 5 (ts.map tokD)))), (46, .o (c1 (.sl 5 (ts.map tokD)))), (47, Ti ts.length), (48, Ti q)], [], 2⟩) (fun q => ts.length - q) (fun q => q ≤ ts.length) 0 (Nat.zero_le _) (SLe.of ⟨⟨rfl, rfl, rfl, rfl, rfl, trivial⟩, trivial⟩) ?_
    intro q hq
    refine ex_dec (fun h => ?_) (fun h => ?_)
    · have hql : q < ts.length := by omega
      have hc : ts[q]? = some ts[q] := at_some hql
      generalize ts[q] = u at *
      repeat' (first | refine ex_i64 ((q + 1 : Nat) : Int) (by omega) (by omega) (by omega) ?_ | refine ex_u64 ((q + 1 : Nat) : Int) (by omega) (by omega) (by omega) ?_ | refine ex_u8 ((q + 1 : Nat) : Int) (by omega) (by omega) (by omega) ?_ | refine (ex_agg (by kernel_rfl) true (eqPosT _ _)) ?_ | refine (ex_row q u rfl hc) ?_ | refine ex_true (by first | decide | omega | assumption | (with_reducible exact rfl)) ?_ | refine ex_false (by first | decide | omega | assumption | exact (fun h => h rfl)) ?_ | refine ex_dec (fun _ => ?_) (fun _ => ?_) | refine ex_u8 _ rfl (by omega) (by omega) ?_ | refine ex_i64 _ rfl (by omega) (by omega) ?_ | refine ex_u64 _ rfl (by omega) (by omega) ?_ | refine and_mk (by first | omega | (show drawOk _ _ _ = true; kernel_rfl)) ?_ | refine and_mk ⟨_, rfl⟩ ?_ | refine ex_is _ (List.length_map _) ?_ | refine ex_is _ List.length_nil ?_ | fail "no step")
      exact ex_round (q + 1) (by show q + 1 ≤ ts.length; omega) (by show _ - _ < _ - _; omega) (SLe.of ⟨⟨rfl, rfl, rfl, rfl, rfl, trivial⟩, trivial⟩)
    · repeat' (first | refine ex_true (by first | decide | omega | assumption | (with_reducible exact rfl)) ?_ | refine ex_false (by first | decide | omega | assumption | exact (fun h => h rfl)) ?_ | refine ex_dec (fun _ => ?_) (fun _ => ?_) | refine ex_u8 _ rfl (by omega) (by omega) ?_ | refine ex_i64 _ rfl (by omega) (by omega) ?_ | refine ex_u64 _ rfl (by omega) (by omega) ?_ | refine and_mk (by first | omega | (show drawOk _ _ _ = true; kernel_rfl)) ?_ | refine and_mk ⟨_, rfl⟩ ?_ | refine ex_is _ (List.length_map _) ?_ | refine ex_is _ List.length_nil ?_ | fail "no step")
      exact TLe.rfl
  ·
    refine fn_rule (C := ⟨Tryd.prog, layF, Tryd.f3.ntmps, ΓL, 0, [], []⟩) layF_ok mixed Tryd.func3 rfl (by kernel_rfl) rfl rfl rfl ?_
    repeat' (first | refine ex_call hw ?_ | refine ex_call h2 ?_ | refine ex_call h1 ?_ | refine (ex_agg (by kernel_rfl) true (eqPosT _ _)) ?_ | refine ex_true (by first | decide | omega | assumption | (with_reducible exact rfl)) ?_ | refine ex_false (by first | decide | omega | assumption | exact (fun h => h rfl)) ?_ | refine ex_dec (fun _ => ?_) (fun _ => ?_) | refine ex_u8 _ rfl (by omega) (by omega) ?_ | refine ex_i64 _ rfl (by omega) (by omega) ?_ | refine ex_u64 _ rfl (by omega) (by omega) ?_ | refine and_mk (by first | omega | (show drawOk _ _ _ = true; kernel_rfl)) ?_ | refine and_mk ⟨_, rfl⟩ ?_ | refine ex_is _ (List.length_map _) ?_ | refine ex_is _ List.length_nil ?_ | fail "no step")
    refine ex_loop (X := Nat) (fun q => ⟨[(46, .o (c1 (.sl 5 []))), (47, Ti 0), (48, Ti 0)], [], 2⟩) (fun q => 0) (fun q => True) 0 trivial (SLe.of ⟨⟨rfl, rfl, rfl, trivial⟩, trivial⟩) ?_
    intro q hq
    repeat' (first | refine ex_true (by first | decide | omega | assumption | (with_reducible exact rfl)) ?_ | refine ex_false (by first | decide | omega | assumption | exact (fun h => h rfl)) ?_ | refine ex_dec (fun _ => ?_) (fun _ => ?_) | refine ex_u8 _ rfl (by omega) (by omega) ?_ | refine ex_i64 _ rfl (by omega) (by omega) ?_ | refine ex_u64 _ rfl (by omega) (by omega) ?_ | refine and_mk (by first | omega | (show drawOk _ _ _ = true; kernel_rfl)) ?_ | refine and_mk ⟨_, rfl⟩ ?_ | refine ex_is _ (List.length_map _) ?_ | refine ex_is _ List.length_nil ?_ | fail "no step")
    exact TLe.rfl
theorem lexJoins_c (s name : List UInt8) (hn : name.length ≤ 281474976710656) : CallsA Tryd.prog ΓL 4 [c1 (ds (bs s)), c1 (ds (bs name))] (Tb true) := by
  have h1 := lex_c s
  have h2 := (rlex_c s).of0 (Γ := ΓL)
  have hw := wakes_c
  have n1 := (name_c name hn).of0 (Γ := ΓL)
  have n2 := (rname_c name hn).of0 (Γ := ΓL)
  have key : ∀ ts : List TokP, ts.length ≤ 16385 → (tailJ (ts.filter real)).length ≤ 32768 → (∀ u ∈ ts, real u = true → u.t ≠ []) → (∃ j, CallsA Tryd.prog ΓL 13 [c1 (.sl 5 (ts.map tokD))] (Tstr j) ∧ CallsA Tryd.prog ΓL 14 [c1 (.sl 5 (ts.map tokD))] (Tstr j)) := by
    intro ts h1 h2 h3
    have h4 : (joinF (ts.filter real)).length ≤ (tailJ (ts.filter real)).length := by unfold joinF; rw [List.length_drop]; omega
    exact ⟨_, (Join_c ts (by omega) (by omega)).of0, (rjoin_c ts (by omega) (by omega) h3).of0⟩
  have fin : ∀ ts : List TokP, ∀ j, ∀ b : Bool, CallsA Tryd.prog ΓL 13 [c1 (.sl 5 (ts.map tokD))] (Tstr j) → CallsA Tryd.prog ΓL 14 [c1 (.sl 5 (ts.map tokD))] (Tstr j) →
      CallsA Tryd.prog ΓL 11 [c1 (ds (bs name))] (Tb b) → CallsA Tryd.prog ΓL 12 [c1 (ds (bs name))] (Tb b) →
      ∀ R : LR, (∀ l c e, R = .err l c e → ts = []) → (∀ us, R = .ok us → ts = us) → CallsA Tryd.prog ΓL 8 [c1 (ds (bs s))] (lexT R) → CallsA Tryd.prog ΓL 9 [c1 (ds (bs s))] (lexT R) →
      CallsA Tryd.prog ΓL 4 [c1 (ds (bs s)), c1 (ds (bs name))] (Tb true) := by
    intro ts j b j1 j2 n1 n2 R r1 r2 h1 h2
    rcases R with us | ⟨l, c, e⟩
    · obtain rfl := r2 us rfl
      cases b <;>
      ·
        refine fn_rule (C := ⟨Tryd.prog, layF, Tryd.f4.ntmps, ΓL, 0, [], []⟩) layF_ok mixed Tryd.func4 rfl (by kernel_rfl) rfl rfl rfl ?_
        repeat' (first | refine ex_call j2 ?_ | refine ex_call j1 ?_ | refine ex_call n2 ?_ | refine ex_call n1 ?_ | refine ex_call hw ?_ | refine ex_call h2 ?_ | refine ex_call h1 ?_ | refine ex_true (by first | decide | omega | assumption | (with_reducible exact rfl)) ?_ | refine ex_false (by first | decide | omega | assumption | exact (fun h => h rfl)) ?_ | refine ex_dec (fun _ => ?_) (fun _ => ?_) | refine ex_u8 _ rfl (by omega) (by omega) ?_ | refine ex_i64 _ rfl (by omega) (by omega) ?_ | refine ex_u64 _ rfl (by omega) (by omega) ?_ | refine and_mk (by first | omega | (show drawOk _ _ _ = true; kernel_rfl)) ?_ | refine and_mk ⟨_, rfl⟩ ?_ | refine ex_is _ (List.length_map _) ?_ | refine ex_is _ List.length_nil ?_ | fail "no step")
        exact TLe.rfl
    · obtain rfl := r1 l c e rfl
      cases b <;>
      ·
        refine fn_rule (C := ⟨Tryd.prog, layF, Tryd.f4.ntmps, ΓL, 0, [], []⟩) layF_ok mixed Tryd.func4 rfl (by kernel_rfl) rfl rfl rfl ?_
        repeat' (first | refine ex_call j2 ?_ | refine ex_call j1 ?_ | refine ex_call n2 ?_ | refine ex_call n1 ?_ | refine ex_call hw ?_ | refine ex_call h2 ?_ | refine ex_call h1 ?_ | refine ex_true (by first | decide | omega | assumption | (with_reducible exact rfl)) ?_ | refine ex_false (by first | decide | omega | assumption | exact (fun h => h rfl)) ?_ | refine ex_dec (fun _ => ?_) (fun _ => ?_) | refine ex_u8 _ rfl (by omega) (by omega) ?_ | refine ex_i64 _ rfl (by omega) (by omega) ?_ | refine ex_u64 _ rfl (by omega) (by omega) ?_ | refine and_mk (by first | omega | (show drawOk _ _ _ = true; kernel_rfl)) ?_ | refine and_mk ⟨_, rfl⟩ ?_ | refine ex_is _ (List.length_map _) ?_ | refine ex_is _ List.length_nil ?_ | fail "no step")
        exact TLe.rfl
  rcases hR : lexV s with ts | ⟨l, c, e⟩ <;> rw [hR] at h1 h2
  · obtain ⟨-, g1, g2, -⟩ := lexV_good hR
    obtain ⟨j, j1, j2⟩ := key ts g1 g2 (good_ne hR)
    exact fin ts j _ j1 j2 n1 n2 _ (fun l c e h => by cases h) (fun us h => by injection h) h1 h2
  · obtain ⟨j, j1, j2⟩ := key [] (by decide) (by decide) (fun u hu => by cases hu)
    exact fin [] j _ j1 j2 n1 n2 _ (fun l c e h => rfl) (fun us h => by cases h) h1 h2
end Go.Proofs.YtokhlojibhegnaaDoor

namespace Go.Proofs.YtokhlojibhegnaaDoor
set_option linter.unusedVariables false
set_option linter.unusedSimpArgs false
open Go.RowKit
set_option maxRecDepth 100000

theorem key_at {a b : List TokP} (h : a.map TokP.key = b.map TokP.key) {q : Nat} {u v : TokP} (hu : a[q]? = some u) (hv : b[q]? = some v) : u.k = v.k ∧ u.t = v.t ∧ u.n = v.n := by
  have := congrArg (·[q]?) h
  simp only [List.getElem?_map, hu, hv, Option.map_some, Option.some.injEq] at this
  unfold TokP.key at this
  injection this with h1 h2
  injection h2 with h2 h3
  exact ⟨h1, h2, h3⟩
theorem lexN_err : ∀ (n : Nat) (r : List UInt8) (l c l' c' e : Nat), r.length < n → lexN n r l c = .err l' c' e → 4 ≤ e ∧ e ≤ 7 ∧ l' ≤ l + r.length := by
  intro n
  induction n with
  | zero => intro r l c l' c' e h; omega
  | succ n ih =>
    intro r l c l' c' e hlen h
    rw [lexN] at h
    rcases hs : stp r l c with _ | ⟨r2, l2, c2⟩ | ⟨k, t, v⟩ | e2 <;> rw [hs] at h <;> dsimp only at h
    · cases h
    · have h1 := stp_go hs
      obtain ⟨e1, e2, e3⟩ := ih r2 l2 c2 l' c' e (by omega) h
      refine ⟨e1, e2, ?_⟩
      have : l2 ≤ l + 1 := by
        unfold stp at hs
        split at hs
        · cases hs
        · split at hs
          · cases hs; omega
          · split at hs
            · cases hs; omega
            · split at hs
              · cases hs; omega
              · revert hs; cases tokF _ <;> intro hs <;> cases hs
      omega
    · obtain ⟨⟨X, rfl⟩, h2, h3, -⟩ := tokF_ok (stp_tok hs)
      have h4 : 0 < t.length := List.length_pos_iff.2 h2
      rw [List.length_append] at hlen ⊢
      rw [List.drop_left] at h
      rcases hr : lexN n X l (c + t.length) with ts' | ⟨l3, c3, e3⟩
      · rw [hr] at h; cases h
      · rw [hr] at h
        cases h
        obtain ⟨e1, e2, e3⟩ := ih X l (c + t.length) l' c' e (by omega) hr
        exact ⟨e1, e2, by omega⟩
    · injection h with h1 h2 h3
      subst h3
      unfold stp at hs
      split at hs
      · cases hs
      · split at hs
        · cases hs
        · split at hs
          · cases hs
          · split at hs
            · cases hs
            · rename_i b x _ _ _
              have : tokF (b :: x) = .err e2 := by revert hs; cases tokF (b :: x) <;> intro hs <;> cases hs; rfl
              have := tokF_err this
              exact ⟨this.1, this.2, by omega⟩
theorem lexV_err {s : List UInt8} {l c e : Nat} (h : lexV s = .err l c e) : 4 ≤ e ∧ e ≤ 7 ∧ l ≤ 16385 := by
  unfold lexV at h
  split at h
  · obtain ⟨e1, e2, e3⟩ := lexN_err _ s 1 1 l c e (Nat.lt_succ_self _) h
    exact ⟨e1, e2, by omega⟩
  · cases h; exact ⟨by decide, by decide, by decide⟩
/-- Calls of Lex by the row that it makes. -/
def ΓB : Glob := { ΓL with kr := [8] }
theorem CallsA.gB {f : FuncId} {xs : List T1} {r : TV} (h : CallsA Tryd.prog ΓL f xs r) : CallsA Tryd.prog ΓB f xs r := ⟨h.1, h.2⟩
theorem lexT_pure (R : LR) : (lexT R).pure = true := by cases R <;> rfl
theorem lexBack_b (s : List UInt8) : CallsA Tryd.prog ΓB 5 [c1 (ds (bs s))] (Tb true) := by
  have h1 := (lex_c s).gB.toM rfl (lexT_pure _) 0
  have hw := wakes_c.gB
  rcases hR : lexV s with ts | ⟨l, c, e⟩ <;> rw [hR] at h1
  · obtain ⟨g0, g1, g2, us, l, c, g3, g4, g5⟩ := lexV_good hR
    have hj0 : (joinF (ts.filter real)).length ≤ (tailJ (ts.filter real)).length := by unfold joinF; rw [List.length_drop]; omega
    have hj := (Join_c ts (by omega) (by omega)).of0 (Γ := ΓB)
    rw [g5] at hj hj0
    have hjs := bs_size (joinF us)
    by_cases hl : (joinF us).length ≤ 16384
    · obtain ⟨ts2, l2, c2, e1, e2⟩ := lexF_join us g4
      have hok : lexV (joinF us) = .ok (ts2 ++ [⟨3, [], 0, l2, c2⟩]) := by unfold lexV; rw [if_pos hl]; exact e1
      have hm : CallsM Tryd.prog ΓB 8 _ _ _ _ _ _ := ⟨(lexM_c (joinF us) _ hok).1, (lexM_c (joinF us) _ hok).2⟩
      obtain ⟨ms, hms⟩ : ∃ ms, ts2 ++ [⟨3, [], 0, l2, c2⟩] = ms := ⟨_, rfl⟩
      have hkey : ms.map TokP.key = ts.map TokP.key := by rw [← hms, g3, List.map_append, List.map_append, e2]; rfl
      have hlen : ms.length = ts.length := by have := congrArg List.length hkey; simpa using this
      rw [hms] at hm
      refine fn_rule (C := ⟨Tryd.prog, layF, Tryd.f5.ntmps, ΓB, 0, [], []⟩) layF_ok mixed Tryd.func5 rfl (by kernel_rfl) rfl rfl rfl ?_
      refine ex_callM (CallsM.ren (h1) [] 0 rfl rfl rfl rfl) ?_
      repeat' (first | refine ex_call hj ?_ | refine ex_call hw ?_ | refine ex_true (by first | decide | omega | assumption | (with_reducible exact rfl)) ?_ | refine ex_false (by first | decide | omega | assumption | exact (fun h => h rfl)) ?_ | refine ex_dec (fun _ => ?_) (fun _ => ?_) | refine ex_u8 _ rfl (by omega) (by omega) ?_ | refine ex_i64 _ rfl (by omega) (by omega) ?_ | refine ex_u64 _ rfl (by omega) (by omega) ?_ | refine and_mk (by first | omega | (show drawOk _ _ _ = true; kernel_rfl)) ?_ | refine and_mk ⟨_, rfl⟩ ?_ | refine ex_is _ (List.length_map _) ?_ | refine ex_is _ List.length_nil ?_ | fail "no step")
      refine ex_callM (CallsM.ren (hm) [] 1 rfl rfl rfl rfl) ?_
      repeat' (first | refine ex_call hw ?_ | refine ex_true (by first | decide | omega | assumption | (with_reducible exact rfl)) ?_ | refine ex_false (by first | decide | omega | assumption | exact (fun h => h rfl)) ?_ | refine ex_dec (fun _ => ?_) (fun _ => ?_) | refine ex_u8 _ rfl (by omega) (by omega) ?_ | refine ex_i64 _ rfl (by omega) (by omega) ?_ | refine ex_u64 _ rfl (by omega) (by omega) ?_ | refine and_mk (by first | omega | (show drawOk _ _ _ = true; kernel_rfl)) ?_ | refine and_mk ⟨_, rfl⟩ ?_ | refine ex_is _ (List.length_map _) ?_ | refine ex_is _ List.length_nil ?_ | fail "no step")
      refine ex_loop (X := Nat) (fun q => ⟨[(3, .o (c1 (.sl 5 (ts.map tokD)))), (7, .o (.c (.row 1))), (52, Ti ts.length), (53, Ti q)], [(1, .row 5 36 ((ts.take q ++ ms.drop q).map tokD))], 3⟩) (fun q => ts.length - q) (fun q => q ≤ ts.length) 0 (Nat.zero_le _) (SLe.of ⟨⟨rfl, rfl, rfl, rfl, trivial⟩, ⟨rfl, trivial⟩⟩) ?_
      intro q hq
      have hrl : ((ts.take q ++ ms.drop q).map tokD).length = ts.length := by rw [List.length_map, List.length_append, List.length_take, List.length_drop]; omega
      refine ex_dec (fun h => ?_) (fun h => ?_)
      · have hql : q < ts.length := by omega
        have hqm : q < ms.length := by omega
        have hc : ts[q]? = some ts[q] := at_some hql
        have hv : ms[q]? = some ms[q] := at_some hqm
        obtain ⟨k1, k2, k3⟩ := key_at hkey hv hc
        have hdm := List.drop_eq_getElem_cons hqm
        have htk : ts.take (q + 1) = ts.take q ++ [ts[q]] := by rw [List.take_add_one, hc]; rfl
        generalize ts[q] = u at *
        generalize ms[q] = v at *
        have hl1 : ((ts.take q).map tokD).length = q := by rw [List.length_map, List.length_take]; omega
        have hrow : ((ts.take q ++ ms.drop q).map tokD)[q]? = some (tokD v) := by
          rw [List.map_append, List.getElem?_append_right (by omega), hl1, Nat.sub_self, hdm]; rfl
        have hset : ((ts.take q ++ ms.drop q).map tokD).set q (setAt (tokD v) 3 [di u.l, di u.c]) = (ts.take (q + 1) ++ ms.drop (q + 1)).map tokD := by
          rw [htk, hdm, List.map_append, List.map_append, List.map_append, List.set_append_right _ _ (by omega), hl1, Nat.sub_self, List.map_cons, List.set_cons_zero]
          have : setAt (tokD v) 3 [di u.l, di u.c] = tokD u := by
            unfold tokD setAt
            rw [k1, k2, k3]
            rfl
          rw [this]
          simp
        have hrow2 : ((ts.take (q + 1) ++ ms.drop (q + 1)).map tokD)[q]? = some (tokD u) := by
          rw [htk, List.append_assoc, List.map_append, List.getElem?_append_right (by omega), hl1, Nat.sub_self]; rfl
        have hrl2 : ((ts.take (q + 1) ++ ms.drop (q + 1)).map tokD).length = ts.length := by rw [List.length_map, List.length_append, List.length_take, List.length_drop]; omega
        repeat' (first | refine (ex_row q u rfl hc) ?_ | refine ex_true (by first | decide | omega | assumption | (with_reducible exact rfl)) ?_ | refine ex_false (by first | decide | omega | assumption | exact (fun h => h rfl)) ?_ | refine ex_dec (fun _ => ?_) (fun _ => ?_) | refine ex_u8 _ rfl (by omega) (by omega) ?_ | refine ex_i64 _ rfl (by omega) (by omega) ?_ | refine ex_u64 _ rfl (by omega) (by omega) ?_ | refine and_mk (by first | omega | (show drawOk _ _ _ = true; kernel_rfl)) ?_ | refine and_mk ⟨_, rfl⟩ ?_ | refine ex_is _ (List.length_map _) ?_ | refine ex_is _ List.length_nil ?_ | fail "no step")
        refine ⟨tokD v, hrow, ?_⟩
        refine ex_is _ hset ?_
        repeat' (first | refine ex_true (by first | decide | omega | assumption | (with_reducible exact rfl)) ?_ | refine ex_false (by first | decide | omega | assumption | exact (fun h => h rfl)) ?_ | refine ex_dec (fun _ => ?_) (fun _ => ?_) | refine ex_u8 _ rfl (by omega) (by omega) ?_ | refine ex_i64 _ rfl (by omega) (by omega) ?_ | refine ex_u64 _ rfl (by omega) (by omega) ?_ | refine and_mk (by first | omega | (show drawOk _ _ _ = true; kernel_rfl)) ?_ | refine and_mk ⟨_, rfl⟩ ?_ | refine ex_is _ (List.length_map _) ?_ | refine ex_is _ List.length_nil ?_ | fail "no step")
        refine ⟨tokD u, hrow2, ?_⟩
        repeat' (first | refine ex_i64 ((q + 1 : Nat) : Int) (by omega) (by omega) (by omega) ?_ | refine ex_u64 ((q + 1 : Nat) : Int) (by omega) (by omega) (by omega) ?_ | refine ex_u8 ((q + 1 : Nat) : Int) (by omega) (by omega) (by omega) ?_ | refine (ex_agg (by kernel_rfl) true (eqTokT _ _ _ _ _)) ?_ | refine (ex_row q u rfl hc) ?_ | refine ex_true (by first | decide | omega | assumption | (with_reducible exact rfl)) ?_ | refine ex_false (by first | decide | omega | assumption | exact (fun h => h rfl)) ?_ | refine ex_dec (fun _ => ?_) (fun _ => ?_) | refine ex_u8 _ rfl (by omega) (by omega) ?_ | refine ex_i64 _ rfl (by omega) (by omega) ?_ | refine ex_u64 _ rfl (by omega) (by omega) ?_ | refine and_mk (by first | omega | (show drawOk _ _ _ = true; kernel_rfl)) ?_ | refine and_mk ⟨_, rfl⟩ ?_ | refine ex_is _ (List.length_map _) ?_ | refine ex_is _ List.length_nil ?_ | fail "no step")
        exact ex_round (q + 1) (by show q + 1 ≤ _; omega) (by show _ - _ < _ - _; omega) (SLe.of ⟨⟨rfl, rfl, rfl, rfl, trivial⟩, ⟨rfl, trivial⟩⟩)
      · repeat' (first | refine ex_true (by first | decide | omega | assumption | (with_reducible exact rfl)) ?_ | refine ex_false (by first | decide | omega | assumption | exact (fun h => h rfl)) ?_ | refine ex_dec (fun _ => ?_) (fun _ => ?_) | refine ex_u8 _ rfl (by omega) (by omega) ?_ | refine ex_i64 _ rfl (by omega) (by omega) ?_ | refine ex_u64 _ rfl (by omega) (by omega) ?_ | refine and_mk (by first | omega | (show drawOk _ _ _ = true; kernel_rfl)) ?_ | refine and_mk ⟨_, rfl⟩ ?_ | refine ex_is _ (List.length_map _) ?_ | refine ex_is _ List.length_nil ?_ | fail "no step")
        exact TLe.rfl
    · have h2 := lex_c (joinF us)
      rw [show lexV (joinF us) = .err 1 1 7 by unfold lexV; rw [if_neg hl]] at h2
      have h2 := h2.gB.toM rfl rfl 0
      refine fn_rule (C := ⟨Tryd.prog, layF, Tryd.f5.ntmps, ΓB, 0, [], []⟩) layF_ok mixed Tryd.func5 rfl (by kernel_rfl) rfl rfl rfl ?_
      refine ex_callM (CallsM.ren (h1) [] 0 rfl rfl rfl rfl) ?_
      repeat' (first | refine ex_call hj ?_ | refine ex_call hw ?_ | refine ex_true (by first | decide | omega | assumption | (with_reducible exact rfl)) ?_ | refine ex_false (by first | decide | omega | assumption | exact (fun h => h rfl)) ?_ | refine ex_dec (fun _ => ?_) (fun _ => ?_) | refine ex_u8 _ rfl (by omega) (by omega) ?_ | refine ex_i64 _ rfl (by omega) (by omega) ?_ | refine ex_u64 _ rfl (by omega) (by omega) ?_ | refine and_mk (by first | omega | (show drawOk _ _ _ = true; kernel_rfl)) ?_ | refine and_mk ⟨_, rfl⟩ ?_ | refine ex_is _ (List.length_map _) ?_ | refine ex_is _ List.length_nil ?_ | fail "no step")
      refine ex_callM (CallsM.ren (h2) [] 1 rfl rfl rfl rfl) ?_
      repeat' (first | refine ex_true (by first | decide | omega | assumption | (with_reducible exact rfl)) ?_ | refine ex_false (by first | decide | omega | assumption | exact (fun h => h rfl)) ?_ | refine ex_dec (fun _ => ?_) (fun _ => ?_) | refine ex_u8 _ rfl (by omega) (by omega) ?_ | refine ex_i64 _ rfl (by omega) (by omega) ?_ | refine ex_u64 _ rfl (by omega) (by omega) ?_ | refine and_mk (by first | omega | (show drawOk _ _ _ = true; kernel_rfl)) ?_ | refine and_mk ⟨_, rfl⟩ ?_ | refine ex_is _ (List.length_map _) ?_ | refine ex_is _ List.length_nil ?_ | fail "no step")
      exact TLe.rfl
  · have he := lexV_err hR
    refine fn_rule (C := ⟨Tryd.prog, layF, Tryd.f5.ntmps, ΓB, 0, [], []⟩) layF_ok mixed Tryd.func5 rfl (by kernel_rfl) rfl rfl rfl ?_
    refine ex_callM (CallsM.ren (h1) [] 0 rfl rfl rfl rfl) ?_
    repeat' (first | refine ex_call hw ?_ | refine ex_true (by first | decide | omega | assumption | (with_reducible exact rfl)) ?_ | refine ex_false (by first | decide | omega | assumption | exact (fun h => h rfl)) ?_ | refine ex_dec (fun _ => ?_) (fun _ => ?_) | refine ex_u8 _ rfl (by omega) (by omega) ?_ | refine ex_i64 _ rfl (by omega) (by omega) ?_ | refine ex_u64 _ rfl (by omega) (by omega) ?_ | refine and_mk (by first | omega | (show drawOk _ _ _ = true; kernel_rfl)) ?_ | refine and_mk ⟨_, rfl⟩ ?_ | refine ex_is _ (List.length_map _) ?_ | refine ex_is _ List.length_nil ?_ | fail "no step")
    exact TLe.rfl
theorem lexBack_c (s : List UInt8) : CallsA Tryd.prog ΓL 5 [c1 (ds (bs s))] (Tb true) := ⟨(lexBack_b s).1, (lexBack_b s).2⟩
end Go.Proofs.YtokhlojibhegnaaDoor

namespace Go.Proofs.YtokhlojibhegnaaDoor
set_option linter.unusedVariables false
set_option linter.unusedSimpArgs false
open Go.ChangeShapes Go.WideShapes Go.ChangeAt Go.RowKit

def tilesF (P : Program) : Nat → List Field → Nat → Bool
  | o, [], n => Nat.beq o n
  | o, f :: fs, n => Nat.beq f.offset o && tilesF P (o + P.cellsOf f.type) fs n
/-- Is a type one that is read, to so many levels? -/
def okT (P : Program) : Nat → TypeId → Bool
  | 0, _ => false
  | d + 1, t => match P.underlying t with
    | some .bool | some (.int _) | some .string => true
    | some (.slice e) => Nat.blt 0 (P.cellsOf e) && okT P d e
    | some (.array n e) => Nat.beq (n * P.cellsOf e) (P.cellsOf t) && okT P d e
    | some (.struct fs) => tilesF P 0 fs.toList (P.cellsOf t) && fs.toList.all fun f => okT P d f.type
    | _ => false
/-- What the cells of a value of a type read as. -/
def DT (P : Program) : Nat → TypeId → List D → Prop
  | 0, _, _ => False
  | d + 1, t, ds => match P.underlying t with
    | some .bool => ∃ b, ds = [.v (.bool b)]
    | some (.int k) => ∃ z, ds = [.v (.int k z)] ∧ (Lit.int k z).wf = true
    | some .string => ∃ s, ds = [.v (.string s)] ∧ s.size ≤ maxLen
    | some (.slice e) => ∃ rows, ds = [.sl (P.cellsOf e) rows] ∧ rows.length ≤ maxLen ∧ ∀ r ∈ rows, DT P d e r
    | some (.array n e) => ∃ ps : List (List D), ps.length = n ∧ ds = ps.flatten ∧ ∀ p ∈ ps, DT P d e p
    | some (.struct fs) => ∃ ps : List (List D), ds = ps.flatten ∧ All2 (fun (f : Field) p => DT P d f.type p) fs.toList ps
    | _ => False
theorem choose_list {α : Type} {Q : Nat → α → Prop} : ∀ {n : Nat}, (∀ i, i < n → ∃ a, Q i a) → ∃ L : List α, L.length = n ∧ ∀ i a, L[i]? = some a → Q i a
  | 0, _ => ⟨[], rfl, fun i a h => by simp at h⟩
  | n + 1, h => by
    obtain ⟨L, h1, h2⟩ := choose_list (n := n) (fun i hi => h i (by omega))
    obtain ⟨a, ha⟩ := h n (by omega)
    refine ⟨L ++ [a], by simp [h1], fun i b hb => ?_⟩
    rw [List.getElem?_append] at hb
    split at hb
    · exact h2 i b hb
    · rename_i hlt
      have hi : i - L.length = 0 := by
        rcases Nat.eq_zero_or_pos (i - L.length) with h | h
        · exact h
        · rw [List.getElem?_eq_none (by simp; omega)] at hb; cases hb
      rw [hi] at hb
      simp at hb
      obtain rfl : i = n := by omega
      rw [← hb]; exact ha
theorem flatten_at {α : Type} {size : Nat} (h0 : 0 < size) : ∀ {rows : List (List α)} (_ : ∀ r ∈ rows, r.length = size) {j : Nat} {d : α}, rows.flatten[j]? = some d → ∃ r, rows[j / size]? = some r ∧ r[j % size]? = some d
  | [], _, j, d, h => by simp at h
  | a :: rows, hr, j, d, h => by
    have ha := hr a (by simp)
    by_cases hj : j < size
    · rw [List.flatten_cons, List.getElem?_append_left (by omega)] at h
      rw [Nat.div_eq_of_lt hj, Nat.mod_eq_of_lt hj]
      exact ⟨a, rfl, h⟩
    · rw [List.flatten_cons, List.getElem?_append_right (by omega), ha] at h
      obtain ⟨r, h1, h2⟩ := flatten_at h0 (fun r hr' => hr r (by simp [hr'])) h
      refine ⟨r, ?_, ?_⟩
      · rw [show j / size = (j - size) / size + 1 by rw [Nat.div_eq_sub_div h0 (by omega)]]
        simpa using h1
      · rw [Nat.mod_eq_sub_mod (by omega)]; exact h2
/-- All memory of a world. -/
def Sall (w : World) : Nat → Prop := fun b => b < w.heap.size
theorem cell_lt {w : World} {a : Addr} {u : Value} (h : w.cell? a = some u) : a.block < w.heap.size ∧ a.spot = none := by
  unfold World.cell? at h
  split at h
  · rename_i c t f hc
    refine ⟨(Array.getElem?_eq_some_iff.1 hc).1, ?_⟩
    split at h
    · cases h
    · rename_i hs
      cases hsp : a.spot with
      | none => rfl
      | some k => rw [hsp] at hs; simp at hs
  · cases h
theorem cells_get {w : World} {base : Nat} {a : Addr} {n : Nat} {cs : List Value} (h : w.cells? base a n = some cs) : cs.length = n ∧ ∀ i, i < n → w.cell? (a.add i) = cs[i]? := by
  unfold World.cells? at h
  split at h
  · obtain ⟨h1, h2⟩ := mapM_isSome h
    rw [List.length_range] at h1
    refine ⟨h1.symm, fun i hi => ?_⟩
    obtain ⟨b, hb1, hb2⟩ := h2 i i (by simp [hi])
    rw [hb1, hb2]
  · cases h
section
variable {H : Type} {enc : TypeId × Value → H} {P : Program} {w : World} {base : Nat} {sp : Nat → Bool} {held : Bool}
theorem parts_all {R : D → Value → Prop} {T : Field → List D → Prop} : ∀ (fs : List Field) (o : Nat) (cs : List Value) (n : Nat), cs.length = n → tilesF P o fs n = true → o ≤ n →
    (∀ f ∈ fs, ∃ ds, T f ds ∧ All2 R ds ((cs.drop f.offset).take (P.cellsOf f.type))) → ∃ ps : List (List D), All2 T fs ps ∧ All2 R ps.flatten (cs.drop o)
  | [], o, cs, n, hl, ht, _, _ => by
    have : o = n := Nat.eq_of_beq_eq_true ht
    exact ⟨[], .nil, by rw [List.drop_of_length_le (by omega)]; exact .nil⟩
  | f :: fs, o, cs, n, hl, ht, ho, h => by
    simp only [tilesF, Bool.and_eq_true] at ht
    have ho' : f.offset = o := Nat.eq_of_beq_eq_true ht.1
    obtain ⟨ds, h1, h2⟩ := h f (by simp)
    have hle : o + P.cellsOf f.type ≤ n := by
      have key : ∀ (fs : List Field) (o : Nat), tilesF P o fs n = true → o ≤ n := fun fs => by
        induction fs with
        | nil => intro o h; exact Nat.le_of_eq (Nat.eq_of_beq_eq_true h)
        | cons g gs ih =>
          intro o h
          simp only [tilesF, Bool.and_eq_true] at h
          have := ih _ h.2
          omega
      exact key fs _ ht.2
    obtain ⟨ps, h3, h4⟩ := parts_all fs _ cs n hl ht.2 hle (fun g hg => h g (by simp [hg]))
    refine ⟨ds :: ps, .cons h1 h3, ?_⟩
    rw [List.flatten_cons, ho'] at *
    have := h2.append h4
    rwa [← List.drop_drop, List.take_append_drop] at this
theorem trod_dt : ∀ (d fuel : Nat) (t : TypeId) (cs : List Value) (x : DataW H × List MemPlace), okT P d t = true → DataW.trod enc P w base sp held fuel t cs = some x → ∃ ds, DT P d t ds ∧ All2 (Imm (Sall w) w) ds cs
  | 0, _, _, _, _, h, _ => by cases h
  | d + 1, fuel, t, cs, x, hok, h => by
    unfold okT at hok
    unfold DT
    split at hok
    · rename_i hu
      obtain ⟨b, rfl, _⟩ := DataW.trod_bool hu h
      exact ⟨_, ⟨b, rfl⟩, .cons (Imm.v rfl) .nil⟩
    · rename_i k hu
      obtain ⟨n, rfl, _, hw⟩ := DataW.trod_int hu h
      exact ⟨_, ⟨n, rfl, hw⟩, .cons (Imm.v rfl) .nil⟩
    · rename_i hu
      obtain ⟨s, rfl, _, hs⟩ := DataW.trod_string hu h
      exact ⟨_, ⟨s, rfl, hs⟩, .cons (Imm.v rfl) .nil⟩
    · rename_i e hu
      simp only [Bool.and_eq_true] at hok
      have h0 : 0 < P.cellsOf e := Nat.lt_of_succ_le (Nat.le_of_ble_eq_true hok.1)
      rcases DataW.trod_slice hu h with ⟨rfl, _⟩ | ⟨a, len, cap, elems, rest, n, _, rfl, _, _, hlc, hcm, hel, hel2, _⟩
      · exact ⟨_, ⟨[], rfl, by simp, by simp⟩, .cons Imm.nil .nil⟩
      · have hone : ∀ i, i < len → ∃ ds, DT P d e ds ∧ ∃ cs', w.cells? base (a.add (i * P.cellsOf e)) (P.cellsOf e) = some cs' ∧ All2 (Imm (Sall w) w) ds cs' := fun i hi => by
          have h1 := hel2 i hi
          rw [List.getElem?_eq_getElem (by omega)] at h1
          obtain ⟨cs', h2, h3⟩ := Option.bind_eq_some_iff.1 h1
          obtain ⟨ds, h4, h5⟩ := trod_dt d n e cs' _ hok.2 h3
          exact ⟨ds, h4, cs', h2, h5⟩
        obtain ⟨rows, hr1, hr2⟩ := choose_list hone
        have hrm : ∀ r ∈ rows, ∃ i, i < len ∧ rows[i]? = some r := fun r hr => by
          obtain ⟨i, hi⟩ := List.getElem?_of_mem hr
          exact ⟨i, by have := (List.getElem?_eq_some_iff.1 hi).1; omega, hi⟩
        have hdt : ∀ r ∈ rows, DT P d e r := fun r hr => by
          obtain ⟨i, _, hi⟩ := hrm r hr
          exact (hr2 i r hi).1
        have hrl : ∀ r ∈ rows, r.length = P.cellsOf e := fun r hr => by
          obtain ⟨i, _, hi⟩ := hrm r hr
          obtain ⟨_, cs', h2, h3⟩ := hr2 i r hi
          rw [h3.len, (cells_get h2).1]
        refine ⟨_, ⟨rows, rfl, by omega, hdt⟩, .cons ?_ .nil⟩
        by_cases hz : len = 0
        · subst hz
          obtain rfl := List.eq_nil_of_length_eq_zero hr1
          exact Imm.sl0
        · obtain ⟨r0, _, cs0, h2, _⟩ := hone 0 (by omega)
          have h3 := (cells_get h2).2 0 h0
          rw [Nat.zero_mul] at h3
          have e0 : (a.add 0).add 0 = a := rfl
          rw [e0, List.getElem?_eq_getElem (by rw [(cells_get h2).1]; exact h0)] at h3
          obtain ⟨hb, hs⟩ := cell_lt h3
          obtain ⟨g, f, spot⟩ := a
          simp only at hs hb
          subst hs
          rw [← hr1]
          have hat : ∀ j dd, rows.flatten[j]? = some dd → ∃ u, w.cell? ⟨g, f + j, none⟩ = some u ∧ Imm (Sall w) w dd u := fun j dd hj => by
            obtain ⟨r, e1, e2⟩ := flatten_at h0 hrl hj
            obtain ⟨_, cs', e3, e4⟩ := hr2 _ r e1
            obtain ⟨u, e5, e6⟩ := e4.at_left e2
            refine ⟨u, ?_, e6⟩
            have e7 := (cells_get e3).2 (j % P.cellsOf e) (Nat.mod_lt _ h0)
            rw [Addr.add_lit, Addr.add_lit, e5] at e7
            rw [← e7]
            congr 2
            rw [Nat.add_assoc, Nat.mul_comm, Nat.div_add_mod]
          refine Imm.sl (fun j => (w.cell? ⟨g, f + j, none⟩).getD undef) hb (by omega) hrl (fun j dd hj => ?_) (fun j dd hj => ?_)
          · obtain ⟨u, e1, _⟩ := hat j dd hj
            rw [e1]; rfl
          · obtain ⟨u, e1, e2⟩ := hat j dd hj
            rw [e1]; exact e2
    · rename_i n e hu
      simp only [Bool.and_eq_true] at hok
      have hn : n * P.cellsOf e = P.cellsOf t := Nat.eq_of_beq_eq_true hok.1
      obtain ⟨xs, m, _, _, hl, hx, hall⟩ := DataW.trod_array hu h
      have hone : ∀ i, i < n → ∃ ds, DT P d e ds ∧ All2 (Imm (Sall w) w) ds ((cs.drop (i * P.cellsOf e)).take (P.cellsOf e)) := fun i hi => by
        have h1 := hall i hi
        rw [List.getElem?_eq_getElem (by omega)] at h1
        exact trod_dt d m e _ _ hok.2 h1
      obtain ⟨ps, hp1, hp2⟩ := choose_list hone
      refine ⟨ps.flatten, ⟨ps, hp1, rfl, fun p hp => ?_⟩, ?_⟩
      · obtain ⟨i, hi⟩ := List.getElem?_of_mem hp
        exact (hp2 i p hi).1
      · have key : ∀ (ps : List (List D)) (o : Nat), (∀ i p, ps[i]? = some p → All2 (Imm (Sall w) w) p ((cs.drop ((o + i) * P.cellsOf e)).take (P.cellsOf e))) → (o + ps.length) * P.cellsOf e = cs.length → All2 (Imm (Sall w) w) ps.flatten (cs.drop (o * P.cellsOf e)) := fun ps => by
          induction ps with
          | nil => intro o _ hlen; rw [List.drop_of_length_le (by simp at hlen; omega)]; exact .nil
          | cons p ps ih =>
            intro o hp hlen
            have h1 := hp 0 p rfl
            have h2 := ih (o + 1) (fun i q hq => by have := hp (i + 1) q (by simpa using hq); rwa [show o + 1 + i = o + (i + 1) by omega]) (by rw [← hlen, List.length_cons]; congr 1; omega)
            rw [List.flatten_cons]
            have := h1.append h2
            rwa [Nat.add_zero, Nat.add_mul, Nat.one_mul, ← List.drop_drop, List.take_append_drop] at this
        have := key ps 0 (fun i p hi => by rw [Nat.zero_add]; exact (hp2 i p hi).2) (by rw [Nat.zero_add, hp1, hn, hl])
        simpa using this
    · rename_i fs hu
      simp only [Bool.and_eq_true] at hok
      obtain ⟨xs, m, _, _, hl, hx, hall⟩ := DataW.trod_struct hu h
      obtain ⟨ps, h1, h2⟩ := parts_all (R := Imm (Sall w) w) (T := fun f p => DT P d f.type p) fs.toList 0 cs _ hl hok.1 (Nat.zero_le _) (fun f hf => by
        obtain ⟨i, hi⟩ := List.getElem?_of_mem hf
        have hlt := (List.getElem?_eq_some_iff.1 hi).1
        have h1 := hall i f (by simpa using hi)
        rw [List.getElem?_eq_getElem (by simp at hlt; omega)] at h1
        exact trod_dt d m f.type _ _ (List.all_eq_true.1 hok.2 f hf) h1)
      exact ⟨ps.flatten, ⟨ps, rfl, h1⟩, by simpa using h2⟩
    · cases hok
/-- An argument that came in reads as data of its type. -/
theorem open_dt {d : Nat} {r : Reach} {b0 : Nat} {t : TypeId} {v : Value} {dd : DataW H} {ps : List MemPlace} (hok : okT P d t = true) (hag : (P.underlying t).map aggD = some false) (hval : Value.okWide P w r b0 t v) (hd : DataW.Trod enc P w base sp held t v dd ps) :
    ∃ x, DT P d t [x] ∧ Imm (Sall w) w x v := by
  obtain ⟨fuel, hf⟩ := hd
  obtain ⟨ds, h1, h2⟩ := trod_dt d fuel t _ _ hok hf
  have hone : v.oneCell' = true := by
    cases d with
    | zero => cases hok
    | succ d =>
      unfold okT at hok
      split at hok
      · rename_i hu; obtain ⟨b, rfl⟩ := okWide_bool hu hval; rfl
      · rename_i hu; obtain ⟨n, rfl⟩ := okWide_int hu hval; rfl
      · rename_i hu; obtain ⟨s, rfl⟩ := okWide_string hu hval; rfl
      · rename_i hu; obtain ⟨a, l, c, rfl⟩ := okWide_slice hu hval; rfl
      · rename_i hu; rw [hu] at hag; cases hag
      · rename_i hu; rw [hu] at hag; cases hag
      · cases hok
  rw [oneCell_cells hone] at h2
  have hl := h2.len
  match ds, h2, hl with
  | [x], h2, _ => exact ⟨x, h1, h2.head⟩
end
end Go.Proofs.YtokhlojibhegnaaDoor

namespace Go.Proofs.YtokhlojibhegnaaDoor
set_option linter.unusedVariables false
set_option linter.unusedSimpArgs false
open Go.ChangeShapes Go.WideShapes Go.ChangeAt Go.RowKit Go.ChangeMaps
set_option maxRecDepth 100000

set_option maxRecDepth 100000

theorem iface_open {P : Program} {w : World} {base fuel : Nat} {sp : Nat → Bool} {held : Bool} {enc : TypeId × Value → Unit} {t : TypeId} {l : List Value} {x : DataW Unit × List MemPlace} {ms : Array (String × TypeId)} (hi : P.underlying t = some (.interface ms))
    (hd : DataW.trod enc P w base sp held fuel t l = some x) : l = [.nilIface] ∨ ∃ u v, l = [.iface u v] := by
  cases fuel with
  | zero => cases hd
  | succ f =>
    simp only [DataW.trod, hi] at hd
    split at hd <;> first | exact .inl rfl | exact .inr ⟨_, _, rfl⟩ | (cases hd; done) | (rename_i h1; cases h1; done) | (rename_i h1 h2; cases h1; done) | (rename_i h1 h2 h3; cases h1; done)
theorem errAt_of {W : World} {n : String} {g : Nat} {cs : Array Value} (hg : Tryd.prog.globalNamed n = some g) (hv : W.var? Tryd.prog n = some cs) (h : cs.toList = [.nilIface] ∨ ∃ u v, cs.toList = [.iface u v]) : ErrAt W g ∧ g < W.heap.size := by
  have hc : ∀ ev, cs.toList = [ev] → W.cell? ⟨g, 0, none⟩ = some ev := fun ev he => by
    rw [World.var?_cell hg hv 0]
    have : cs = #[ev] := by cases cs; simpa using he
    rw [this]; rfl
  refine ⟨?_, ?_⟩
  · rcases h with h | ⟨u, v, h⟩
    · exact ⟨_, hc _ h, .inl rfl⟩
    · exact ⟨_, hc _ h, .inr ⟨u, v, rfl⟩⟩
  · unfold World.var? at hv
    rw [hg] at hv
    simp only [Option.bind_some] at hv
    by_cases hl : g < W.heap.size
    · exact hl
    · rw [Array.getElem?_eq_none (by omega)] at hv; cases hv
/-- An array of strings that reads as the table holds the table's strings, cell for cell. -/
theorem cells_of_strs {H : Type} {enc : TypeId × Value → H} {P : Program} {w : World} {base : Nat} {sp : Nat → Bool} {held : Bool} {fuel : Nat} {t e : TypeId} {n : Nat} {cs : List Value} {zs : List (List UInt8)} {p : List MemPlace}
    (ht : P.underlying t = some (.array n e)) (he : P.underlying e = some .string) (hce : P.cellsOf e = 1) (hct : P.cellsOf t = n)
    (h : DataW.trod enc P w base sp held fuel t cs = some (.agg (zs.map fun z => .lit (.string z)), p)) : cs = zs.map fun z => Value.string (bs z) := by
  cases fuel with
  | zero => simp [DataW.trod] at h
  | succ fuel =>
    simp only [DataW.trod, ht, hce, hct, Nat.mul_one] at h
    split at h
    · rename_i hl
      obtain ⟨xs, hm, hx⟩ := Option.map_eq_some_iff.1 h
      have hxs : xs.map (·.1) = zs.map fun z => (DataW.lit (.string z) : DataW H) := by
        have := congrArg Prod.fst hx
        simpa using this
      have hxl : xs.length = n := by simpa using Lib.mapM_length hm
      have hzl : zs.length = n := by
        have := congrArg List.length hxs
        simp at this
        omega
      apply List.ext_getElem?
      intro i
      by_cases hi : i < n
      · obtain ⟨b, hb, hf⟩ := Lib.mapM_at hm i i (by simp [hi])
        obtain ⟨z, hc, rfl, _⟩ := DataW.trod_string he hf
        have h1 : cs[i]? = some (.string z) := by
          have := congrArg (·[0]?) hc
          simpa [List.getElem?_take, List.getElem?_drop] using this
        have h2 : (xs.map (·.1))[i]? = some (DataW.lit (.string z.data.toList) : DataW H) := by simp [hb]
        rw [hxs] at h2
        simp only [List.getElem?_map, Option.map_eq_some_iff, DataW.lit.injEq, Lit.string.injEq] at h2
        obtain ⟨z', hz', rfl⟩ := h2
        simp [h1, hz']
      · rw [List.getElem?_eq_none (by omega), List.getElem?_eq_none (by simp; omega)]
    · cases h
theorem glob_lex {W : World} (h : laidMetH Tryd.prog Rows.lexReadsRow.laid W) (hs : W.ShapedOpen Tryd.prog) : ΓL.G (Sall W) W := by
  obtain ⟨m, hm⟩ := Tryd.laysM145.s1_3 W hs
  rw [MakeChecks.laidMetH_plain _ _ _ (by kernel_rfl)] at h
  obtain ⟨ps, h, -⟩ := h
  obtain ⟨g1, t1, c1, f1, p1, q1, -, -, -, -, h, -⟩ := h
  obtain ⟨g2, t2, c2, f2, p2, q2, -, -, -, -, h, -⟩ := h
  obtain ⟨g3, t3, c3, f3, p3, q3, -, -, -, -, h, -⟩ := h
  obtain ⟨g0, t0, c0, f0, p0, q0, -, -, -, -, h, -⟩ := h
  obtain ⟨g4, t4, c4, f4, p4, q4, hg4, ht4, hv4, hd4, h, -⟩ := h
  obtain ⟨g5, t5, c5, f5, p5, q5, hg5, ht5, hv5, hd5, h, -⟩ := h
  obtain ⟨g6, t6, c6, f6, p6, q6, hg6, ht6, hv6, hd6, h, -⟩ := h
  obtain rfl := Option.some.inj ((show Tryd.prog.globalNamed "strconv.ErrRange" = some 3 by kernel_rfl).symm.trans hg4)
  obtain rfl := Option.some.inj ((show Tryd.prog.globalNamed "strconv.ErrSyntax" = some 2 by kernel_rfl).symm.trans hg5)
  obtain rfl := Option.some.inj ((show Tryd.prog.globalNamed "calliper/lex.signs" = some 0 by kernel_rfl).symm.trans hg6)
  obtain rfl := Option.some.inj ((show (Tryd.prog.globals[3]?).map (·.type) = some 70 by kernel_rfl).symm.trans ht4)
  obtain rfl := Option.some.inj ((show (Tryd.prog.globals[2]?).map (·.type) = some 70 by kernel_rfl).symm.trans ht5)
  obtain rfl := Option.some.inj ((show (Tryd.prog.globals[0]?).map (·.type) = some 76 by kernel_rfl).symm.trans ht6)
  have e4 := errAt_of hg4 hv4 (iface_open Tryd.underlying70 hd4)
  have e5 := errAt_of hg5 hv5 (iface_open Tryd.underlying70 hd5)
  have hc := cells_of_strs (zs := signsL) (n := 29) (t := 76) (e := 9) (by kernel_rfl) (by kernel_rfl) (by kernel_rfl) (by kernel_rfl) hd6
  refine ⟨e5, e4, ⟨m, hm, (cell_lt hm).1⟩, fun j l hj => ?_, ?_⟩
  · rw [World.var?_cell hg6 hv6 j]
    have : c6 = ⟨signsL.map fun z => Value.string (bs z)⟩ := by cases c6; simpa using hc
    rw [this]
    rw [show (⟨signsL.map fun z => Value.string (bs z)⟩ : Array Value) = (signsL.map fun z => Value.string (bs z)).toArray from rfl, List.getElem?_toArray, List.getElem?_map, hj]
    rfl
  · have hv := hv6
    unfold World.var? at hv
    rw [hg6] at hv
    simp only [Option.bind_some] at hv
    show 0 < W.heap.size
    by_cases hl : 0 < W.heap.size
    · exact hl
    · rw [Array.getElem?_eq_none (by omega)] at hv; cases hv
theorem bs_list (s : ByteArray) : bs s.data.toList = s := by simp [bs]
end Go.Proofs.YtokhlojibhegnaaDoor

namespace Go.Proofs.YtokhlojibhegnaaDoor
set_option linter.unusedVariables false
set_option linter.unusedSimpArgs false
open Go.ChangeShapes Go.WideShapes Go.ChangeAt Go.RowKit Go.ChangeMaps
set_option maxRecDepth 100000

theorem lexBack_a (s : ByteArray) (hs : s.size ≤ 140737488351232) : CallsA Tryd.prog ΓL 5 [c1 (ds s)] (.o (c1 (db true))) := by
  have := lexBack_c s.data.toList
  rw [bs_list] at this
  exact this
namespace lexBack
set_option maxRecDepth 100000 in
theorem lifted (os : Os) (started : os.Started) (H : Type) (enc : TypeId × Value → H) :
    ReturnsInHanded {} Tryd.checked os 5 .any (fun w args => (Rows.lexBackSpec.pre enc Tryd.prog Tryd.f5 Rows.lexBackRow.domain false w args ∧ laidMetH Tryd.prog Rows.lexBackRow.laid w) ∧ sizedMet enc Tryd.prog Tryd.f5 (OpenSpec.ofChange Rows.lexBackSpec) false w args) (Rows.lexBackSpec.post enc Tryd.prog Tryd.f5 false true false false) := by
  show ReturnsInHanded {} Tryd.checked os 5 .any ((OpenSpec.ofChange Rows.lexBackSpec).preRow enc Tryd.prog Tryd.f5 Rows.lexBackRow.domain false Rows.lexBackRow.laid) (((OpenSpec.ofChange Rows.lexBackSpec).at fun _ _ _ => 0).post enc Tryd.prog Tryd.f5 false true false false)
  refine returnsInHanded_of_row (C := Tryd.checked) own started (by kernel_rfl) Tryd.func5
    (ChangeSpec.witness_shaped (enc := enc) (C := Tryd.checked) (os := os) (X := fun w _ => laidMetH Tryd.prog Rows.lexBackRow.laid w) false (World.laidAll Tryd.prog os Rows.lexBackRow.laid) #[.string ByteArray.empty] 8 (World.laidAll_os _ _ _) (World.shaped_of_ZipB (by kernel_rfl) (by kernel_rfl)) (by kernel_rfl) (by kernel_rfl) (by kernel_rfl)
      (by rw [MakeChecks.laidMetH_plain _ _ _ (by kernel_rfl)]; exact laidMet_laidAll _ (by kernel_rfl) (by kernel_rfl))) ?_
  intro W base args ds gs before hval0 hW _ _ hsz0 hLaid hShaped _
  have hsz : (DataW.weightsEach Tryd.prog (Tryd.f5.params.toList ++ Rows.lexBackSpec.plain.varTypes Tryd.prog) (ds ++ gs)).all (· ≤ reachBytes) = true := hsz0
  have hval : ∀ (j : Nat) t v, Tryd.f5.params[j]? = some t → args[j]? = some v → Value.okWide Tryd.prog W .any base t v := hval0
  clear hsz0 hval0
  have hW' := hW
  obtain ⟨p, q, hA0, hV, rfl, hfz, hnd⟩ := hW
  have hA : DataW.TrodAll enc Tryd.prog W 0 (fun _ => true) true Tryd.f5.params.toList args.toList ds p := hA0
  clear hA0
  rw [Tryd.params5] at hA hval hsz
  obtain ⟨v0, vs0, d0, ds0, p0, q0, hargs, rfl, rfl, h0, r0⟩ := trodAll_cons hA
  obtain ⟨rfl, rfl, rfl⟩ := trodAll_nil r0
  obtain rfl : args = #[v0] := by cases args; simp_all
  obtain ⟨rfl, rfl⟩ := trodVars_none hV
  obtain ⟨s, rfl, rfl, rfl, hm0⟩ := open_string Tryd.underlying9 (hval 0 9 v0 rfl rfl) h0
  have w_s : s.size ≤ 140737488351232 := by simpa [reachBytes] using sized_string hsz (j := 0) rfl rfl
  refine ((lexBack_a s w_s).2 (Sall W) W [.string s] (fun _ h => h) (glob_lex hLaid hShaped) (.cons (Imm.v rfl) .nil)).mono fun e W' ⟨xr, _, he, hb, _, _, _, hv⟩ => ?_
  obtain rfl := V_v hv
  subst he
  exact ⟨_, rfl, law_post (ds := [_]) laidOut hW' rfl (by kernel_rfl) rfl Tryd.underlying4 rfl rfl rfl hb⟩

theorem proved : Rows.LexBackSaid :=
  OpenClaim.holds_of_wide 5 Tryd.f5 rfl rfl rfl rfl rfl rfl rfl ⟨rfl, rfl, rfl, rfl, rfl⟩ rfl rfl rfl rfl rfl (by kernel_rfl) Tryd.func5 (by kernel_rfl)
    (of_decide_eq_true (by kernel_rfl)) (by unfold Func.isWrapper; first | (rw [if_pos (by decide +kernel)]; kernel_rfl) | (rw [if_neg (by decide +kernel)]; exact ⟨rfl, rfl⟩))
    (fun os started H enc _ => lifted os started H enc)
theorem card : Rows.LexBackCardSaid :=
  Claim7.holds_tied_plain_at .later [] [.data, .data, .data, .data, .sentinel, .sentinel, .data, .pinned] true (true, "b2643c17bcb111064648ca946656805e92614527f5f2cee52781d51e976775c5") true proved (fun _ h => by cases h) (by kernel_rfl) (fun _ h => by cases h) lexBack_row_tie rfl ⟨rfl, rfl⟩ (by kernel_rfl) rfl
    (fun f fn hf hfn => by
      obtain rfl : f = 5 := Option.some.inj ((show Tryd.prog.funcNamed "calliper/calliperlaw06.LexBack" = some 5 by kernel_rfl).symm.trans hf) |>.symm
      obtain rfl : fn = Tryd.f5 := (Option.some.inj (Tryd.func5.symm.trans hfn)).symm
      exact ⟨by kernel_rfl, fun j t ht => by
        rw [Tryd.params5] at ht
        have hm : t ∈ [9] := by simpa using Array.mem_of_getElem? ht
        have hall : ([9].all fun u => !Tryd.prog.wantsStandIn u) = true := by kernel_rfl
        exact (show Tryd.prog.wantsStandIn t = false by simpa using List.all_eq_true.1 hall t hm)⟩)
    (by kernel_rfl)
end lexBack
end Go.Proofs.YtokhlojibhegnaaDoor
