/- ExprParts: an expression comes to what the expression does in which names with the numbers of both its sides stand. Condition: the listed package variables hold what the program's text lays. -/
import Derived.Laws.StructEq
import Derived.ChangeKeysEq
import Derived.Lib.LaidTab
import Derived.Test.YtoingpafcodojaaGreatDoorRows
import Derived.Lay
import Derived.MakeChecks
import Derived.Test.YtoingpafcodojaaGreatDoorCards
import Derived.Test.YtoingpafcodojaaGreatDoorTie
import Derived.SevenTiedAt
import Derived.Deep.DeepHandedRow
import Derived.Test.YtoingpafcodojaaGreatDoorBnd1
import Derived.Test.YtoingpafcodojaaGreatDoorBnd2
import Derived.Test.YtoingpafcodojaaGreatDoorBnd3
import Derived.Test.YtoingpafcodojaaGreatDoorBnd4
import Derived.Test.YtoingpafcodojaaGreatDoorBnd5
set_option linter.unusedVariables false
set_option linter.unusedSimpArgs false
set_option maxRecDepth 100000
namespace Go.Proofs.YtoingpafcodojaaGreatDoor
open Go.RowKit

section
variable {L : List TokP}
theorem Sim.grow1 {m : Nat} {α : Type} {x : PM α} {y : RM α} {a a' c d b : Nat} (h : Sim L m x y a a' c d) (hm : Mo1 x) {st st' : RSt} {v : α} (hg : Gd L m a b st) (hx : y st = (v, st')) (he : st'.err = 0) : st.i + 1 ≤ st'.i := by
 by_cases h0 : st.err = 0
 ·have hs := hg.ok h0
  have h1 := h.ok 0 _ (by rw [Nat.zero_add]; exact hs)
  rw [← hg.emb h0] at h1
  cases hxs : x ⟨st.i, st.xs, st.ts⟩ with
  | ok w t =>
   rw [hxs] at h1
   dsimp only at h1
   rw [hx] at h1
   cases h1
   exact hm _ _ _ hxs
  | err i e =>
   have hu := h.up _ 0 (by rw [Nat.zero_add]; exact hs)
   rw [hxs] at h1 hu
   dsimp only at h1 hu
   rw [hx] at h1
   have h1 : Bad L m c i e st' := h1
   rw [h1.e] at he
   omega
 ·have h1 := h.bad st h0
  rw [hx] at h1
  have h1 : Stay d st st' := h1
  exact absurd (h1.e.symm.trans he) h0
theorem parsR_err {s : RSt} (h : s.err ≠ 0) (n : Nat) (l : List (List UInt8)) : parsR L n l s = (l, s) := by
 cases n with
 | zero => rfl
 | succ n => exact if_neg h
theorem keep_pack {st st1 : RSt} {v : IT} (h : packR L st = (v, st1)) : st1.xs = st.xs ∧ st1.ts = st.ts := by
 have kx : ∀ {α β : Type} {x : RM α} {f : α → RM β}, (∀ s, (x s).2.xs = s.xs ∧ (x s).2.ts = s.ts) → (∀ v s, (f v s).2.xs = s.xs ∧ (f v s).2.ts = s.ts) → ∀ s, ((x >>= f) s).2.xs = s.xs ∧ ((x >>= f) s).2.ts = s.ts := fun {α β x f} h1 h2 s =>
  ⟨(h2 (x s).1 (x s).2).1.trans (h1 s).1, (h2 (x s).1 (x s).2).2.trans (h1 s).2⟩
 have kt : ∀ t s, (takeR L t s).2.xs = s.xs ∧ (takeR L t s).2.ts = s.ts := fun t s => keep_take (v := (takeR L t s).1) rfl
 have kn : ∀ s, (nameR L s).2.xs = s.xs ∧ (nameR L s).2.ts = s.ts := fun s => keep_name (v := (nameR L s).1) rfl
 have kb : ∀ s, (numberR L s).2.xs = s.xs ∧ (numberR L s).2.ts = s.ts := fun s => keep_num (v := (numberR L s).1) rfl
 have kr : ∀ n s, (roomR n s).2.xs = s.xs ∧ (roomR n s).2.ts = s.ts := fun n s => keep_room (v := (roomR n s).1) rfl
 have ks : ∀ n l s, (subsR L n l s).2.xs = s.xs ∧ (subsR L n l s).2.ts = s.ts := by
  intro n
  induction n with
  | zero => exact fun l s => ⟨rfl, rfl⟩
  | succ n ih =>
   intro l s
   rw [subsR]
   unfold guardR
   split
   ·refine kx (fun s => ?_) (fun _ => kx kn fun w => kx (kt _) fun _ => kx kb fun b => kx (kt _) fun _ s => ?_) s
    ·show (if namedV L s.i = true then roomR l.length s else ((), s)).2.xs = s.xs ∧ (if namedV L s.i = true then roomR l.length s else ((), s)).2.ts = s.ts
     split
     ·exact kr _ s
     ·exact ⟨rfl, rfl⟩
    ·unfold atR
     split
     ·exact ih _ s
     ·exact ⟨rfl, rfl⟩
   ·exact ⟨rfl, rfl⟩
 have key : (packR L st).2.xs = st.xs ∧ (packR L st).2.ts = st.ts := by
  unfold packR
  refine kx (kt _) (fun _ s => ?_) st
  generalize (if (tk L s.i).k = 0 then integerV (tk L s.i).t else none) = q
  rcases q with _ | ⟨z, lt⟩
  ·exact keep_fail
  ·exact kx (fun s => ⟨rfl, rfl⟩) (fun _ => kx (kt _) fun _ => kx (fun s => ks _ _ s) fun l => kx (kt _) fun _ s => ⟨rfl, rfl⟩) s
 rw [h] at key
 exact key
theorem mo_packAt : Mo1 (atM (isV L · w_pack) (packM L) (fieldM L)) := fun s v s' h => by
 unfold atM at h
 split at h
 ·exact mo_pack _ _ _ h
 ·exact mo_field _ _ _ h
theorem itemsR_err {s : RSt} (h : s.err ≠ 0) (n : Nat) (l : List IT) : itemsR L n l s = (l, s) := by
 cases n with
 | zero => rfl
 | succ n => exact if_neg h
theorem pars_out {K : List (List UInt8) → RM RC} {s2 : RSt} {n : Nat} {l : List (List UInt8)} {T : RC × RSt} (hcv : isV L s2.i t_comma = false) (hF : s2.err = 0 → L.length < s2.i + n) (hi : s2.i < L.length) (hT : (parsR L n l >>= K) s2 = T) : K l s2 = T := by
 by_cases he : s2.err = 0
 ·have := hF he
  cases n with
  | zero => omega
  | succ n =>
   rw [parsR] at hT
   have h1 := gdRyB hT he
   have h2 := atRnB h1 hcv
   exact h2
 ·exact (rand (parsR_err he n l)).symm.trans hT
theorem pars_in {K : List (List UInt8) → RM RC} {s2 s3 : RSt} {n : Nat} {l : List (List UInt8)} {T : RC × RSt} {u : Unit} (hcv : isV L s2.i t_comma = true) (hi : s2.i < L.length) (hF : s2.err = 0 → L.length < s2.i + n) (hT : (parsR L n l >>= K) s2 = T) (ht : takeR L t_comma s2 = (u, s3)) :
  (true = true ∧ s3.err = 0 ∧ (∀ s' : RSt, s3.i ≤ s'.i → s'.err = 0 → L.length < s'.i + (n - 1)) ∧ ((fun s => if namedV L s.i = true then roomR l.length s else ((), s)) >>= fun _ => nameR L >>= fun x => (fun s => parsR L (n - 1) (l ++ [x]) s : RM (List (List UInt8))) >>= K) s3 = T) ∨ (¬ (true = true ∧ s3.err = 0) ∧ K l s3 = T) := by
 by_cases he : s2.err = 0
 ·have := hF he
  cases n with
  | zero => omega
  | succ n =>
   rw [parsR] at hT
   have h1 := gdRyB hT he
   have h2 := atRyB h1 hcv
   rw [take_yes he hcv] at ht
   obtain rfl := congrArg Prod.snd ht
   refine .inl ⟨rfl, he, fun s' h1 h2 => by have h1 : s2.i + 1 ≤ s'.i := h1; show _ < _ + n; omega, ?_⟩
   have h3 : RM.and _ _ s2 = T := h2
   unfold RM.and at h3
   rw [rand (take_yes he hcv)] at h3
   exact h3
 ·rw [take_err he] at ht
  obtain rfl : s2 = s3 := congrArg Prod.snd ht
  exact .inr ⟨fun h => he h.2, (rand (parsR_err he n l)).symm.trans hT⟩
set_option maxHeartbeats 8000000 in
theorem rrecord_c (hL : TokOk L) (hE : EndE L) (hn : L.length ≤ 100000) (hq : NumOk L) (st : RSt) (hg : Gd L 32 0 900 st) : W2 L 28 [] (recordR L) (fun x => .o (gD (rcD x))) st := fun v st' hT X T hX hTt => by
 subst hX
 subst hTt
 have kx_st : st.xs = st.xs := rfl
 have kt_st : st.ts = st.ts := rfl
 unfold recordR at hT
 refine fn_ruleP (C := ⟨Tryz.prog, layF, Tryz.f28.ntmps, ΓL, 5, [], [17]⟩) layF_ok mixed Tryz.func28 rfl (by kernel_rfl) rfl rfl rfl startR2 ?_
 repeat' (first | refine qgs ?_ | refine eD ?_ ?_ <;> intro)
 rcases q1 : (takeR L w_struct) (st) with ⟨_, s1⟩
 replace hT := (rand q1).symm.trans hT
 refine sC (CallsM.ren ((rtake_c st hg.i hn w_struct) _ _ q1) [0, 1, 2, 5, 6] 8 rfl rfl rfl rfl) ?_
 have kx_s1 := (keep_take q1).1.trans kx_st
 have kt_s1 := (keep_take q1).2.trans kt_st
 have g1 := (Sim.take (m := 32) hL w_struct 0).gd hg (by omega) q1
 repeat' (first | refine qgs ?_ | refine eD ?_ ?_ <;> intro)
 rcases q2 : (nameR L) (s1) with ⟨w, s2⟩
 replace hT := (rand q2).symm.trans hT
 refine sC (CallsM.ren ((rname_c s1 g1.i hn) _ _ q2) [0, 1, 2, 5, 6] 8 rfl rfl rfl rfl) ?_
 have kx_s2 := (keep_name q2).1.trans kx_s1
 have kt_s2 := (keep_name q2).2.trans kt_s1
 have g2 := (Sim.name (m := 32) hL 1).gd g1 (by omega) q2
 have his := ris_c s2 g2.i t_lpar
 obtain ⟨b, hv⟩ : ∃ b, isV L s2.i t_lpar = b := ⟨_, rfl⟩
 rw [hv] at his
 have h10 := g2.e
 repeat' (first | refine qgs ?_ | refine eD ?_ ?_ <;> intro)
 refine sC (CallsM.ren (his) [0, 1, 2, 5, 6] 9 rfl rfl rfl rfl) ?_
 repeat' (first | refine qgs ?_ | refine eD ?_ ?_ <;> intro)
 obtain ⟨K, hK⟩ : ∃ K : List (List UInt8) → RM RC, (fun ps : List (List UInt8) => takeR L t_lcur >>= fun _ => (fun s => itemsR L (L.length - s.i + 1) [] s) >>= fun is => takeR L t_rcur >>= fun _ => pure (⟨w, ps, is⟩ : RC)) = K := ⟨_, rfl⟩
 replace hT : (atR (isV L · t_lpar) (guardR [] (takeR L t_lpar >>= fun _ => nameR L >>= fun x => (fun s => parsR L (L.length - s.i + 1) [x] s) >>= fun l => takeR L t_rpar >>= fun _ => pure l)) (pure []) >>= K) s2 = (v, st') := by rw [← hK]; exact hT
 refine ex_join (X := RSt × List (List UInt8)) (fun ⟨s, l⟩ => ⟨[(0, .o P0), (2, .o (.c (.ptr 7 0))), (4, .o (.c (.ptr 8 0)))], [(0, Rz L s 1 2 5 6), (3, .dead), (4, .dead), (7, .obj [.d (ds ⟨#[]⟩), .d dnil, .d dnil]), (8, .obj [.d (ds (bs w)), .row 9, .d dnil]), (9, .row 1 9 (l.map fun p => [ds (bs p)])), (5, Xr st.xs), (6, Tr st.ts)], 10⟩) (fun ⟨s, l⟩ => Gd L 32 2 930 s ∧ s.xs = st.xs ∧ s.ts = st.ts ∧ K l s = (v, st')) ?_ ?_
 ·cases b
  ·replace hT := atRnB hT hv
   replace hT : K [] s2 = (v, st') := hT
   repeat' (first | refine qgs ?_ | refine eD ?_ ?_ <;> intro)
   exact ex_meet (s2, []) ⟨g2.le (by omega) (by omega), kx_s2, kt_s2, hT⟩ (SLe.thru (SLe.ownCell 8 1 9 1 9 rfl rfl rfl rfl rfl rfl) sS)
  ·replace hT := atRyB hT hv
   by_cases he : s2.err = 0
   ·replace hT := gdRyB hT he
    replace hT : (takeR L t_lpar >>= fun _ => nameR L >>= fun x => (fun s => parsR L (L.length - s.i + 1) [x] s : RM (List (List UInt8))) >>= fun l => takeR L t_rpar >>= fun _ => K l) s2 = (v, st') := hT
    repeat' (first | refine qgs ?_ | refine eD ?_ ?_ <;> intro)
    rcases q3 : (takeR L t_lpar) (s2) with ⟨_, s3⟩
    replace hT := (rand q3).symm.trans hT
    refine sC (CallsM.ren ((rtake_c s2 g2.i hn t_lpar) _ _ q3) [0, 1, 2, 5, 6] 9 rfl rfl rfl rfl) ?_
    have kx_s3 := (keep_take q3).1.trans kx_s2
    have kt_s3 := (keep_take q3).2.trans kt_s2
    have g3 := (Sim.take (m := 32) hL t_lpar 2).gd g2 (by omega) q3
    have he3 : s3.err = 0 := by
     rw [take_yes he hv] at q3
     have e4 : { s2 with i := s2.i + 1 } = s3 := congrArg Prod.snd q3
     rw [← e4]
     exact he
    repeat' (first | refine qgs ?_ | refine eD ?_ ?_ <;> intro)
    refine ex_loop (X := RSt × Bool × List (List UInt8) × (RSt → Nat)) (fun ⟨s, more, l, _⟩ => ⟨[(0, .o P0), (2, .o (.c (.ptr 7 0))), (4, .o (.c (.ptr 8 0))), (5, Tb more)], [(0, Rz L s 1 2 5 6), (3, .dead), (4, .dead), (7, .obj [.d (ds ⟨#[]⟩), .d dnil, .d dnil]), (8, .obj [.d (ds (bs w)), .row 9, .d dnil]), (9, .row 1 9 (l.map fun p => [ds (bs p)])), (5, Xr st.xs), (6, Tr st.ts)], 10⟩)
     (fun y => if y.2.1 = true ∧ y.1.err = 0 then L.length - y.1.i + 1 else 0)
     (fun ⟨s, more, l, F⟩ => Gd L 32 3 910 s ∧ s.xs = st.xs ∧ s.ts = st.ts ∧ (more = true → s.err = 0 → l.length ≤ s.i) ∧ l.length ≤ L.length + 1 ∧
      ((more = true ∧ s.err = 0 ∧ (∀ s' : RSt, s.i ≤ s'.i → s'.err = 0 → L.length < s'.i + F s') ∧ ((fun s => if namedV L s.i = true then roomR l.length s else ((), s)) >>= fun _ => nameR L >>= fun x => (fun s => parsR L (F s) (l ++ [x]) s : RM (List (List UInt8))) >>= fun l => takeR L t_rpar >>= fun _ => K l) s = (v, st')) ∨
       (¬ (more = true ∧ s.err = 0) ∧ (takeR L t_rpar >>= fun _ => K l) s = (v, st')))) (s3, true, [], fun s => L.length - s.i + 1) ⟨g3.le (by omega) (by omega), kx_s3, kt_s3, fun _ _ => Nat.zero_le _, Nat.zero_le _, .inl ⟨rfl, he3, fun s' h1 h2 => by show L.length < s'.i + (L.length - s'.i + 1); omega, (rand roomIf_nil).trans hT⟩⟩ ?_ ?_
    ·exact SLe.thru (SLe.ownCell 8 1 9 1 9 rfl rfl rfl rfl rfl rfl) sS
    clear hT kx_s1 kt_s1 kx_s2 kt_s2 kx_s3 kt_s3 kx_st kt_st g1 g2 g3 q1 q2 q3 hg hv his he he3 h10 hK
    rintro ⟨s, more, l, F⟩ ⟨hs, kx_s, kt_s, hl1, hl2, hC⟩
    have hsi := hs.i
    have h10 := hs.e
    rcases hC with ⟨rfl, hse, hF, hT⟩ | ⟨hno, hT⟩
    ·have hl1 := hl1 rfl hse
     have hop := rnamed_c s hsi
     rcases hb : namedV L s.i with _ | _ <;> rw [hb] at hop
     ·replace hT := (rand (roomIf_no hb)).symm.trans hT
      repeat' (first | refine qgs ?_ | refine eD ?_ ?_ <;> intro)
      refine sC (CallsM.ren (hop) [0, 1, 2, 5, 6] 10 rfl rfl rfl rfl) ?_
      repeat' (first | refine qgs ?_ | refine eD ?_ ?_ <;> intro)
      rcases hx : (nameR L) (s) with ⟨x, s2⟩
      replace hT := (rand hx).symm.trans hT
      refine sC (CallsM.ren ((rname_c s hs.i hn) _ _ hx) [0, 1, 2, 5, 6] 10 rfl rfl rfl rfl) ?_
      have kx_s2 := (keep_name hx).1.trans kx_s
      have kt_s2 := (keep_name hx).2.trans kt_s
      have hg2 := (Sim.name (m := 32) hL 3).gd hs (by omega) hx
      have hgr := fun h => ((Sim.name (m := 32) hL 3).grow hs hx h).2
      have hsi2 := hg2.i
      replace hT : (parsR L (F s2) (l ++ [x]) >>= fun l => takeR L t_rpar >>= fun _ => K l) s2 = (v, st') := hT
      have hlx : (l ++ [x]).length = l.length + 1 := by simp
      have hle : s2.err = 0 → l.length ≤ s2.i := fun h => by
       have := hgr h
       skip
       omega
      repeat' (first | refine qgs ?_ | refine eD ?_ ?_ <;> intro)
      refine ex_app (l.length) (1) 1000 (by first | rfl | (simp; done) | (simp; omega)) (by first | rfl | (simp; done) | (simp; omega)) rfl (by omega) ?_
      refine ex_is (List.map (fun p : List UInt8 => [ds (bs p)]) (l ++ [x])) (by rw [List.map_append]; rfl) ?_
      repeat' (first | refine qgs ?_ | refine eD ?_ ?_ <;> intro)
      have hi2 := ris_c s2 hsi2 t_comma
      rcases hcv : isV L s2.i t_comma with _ | _ <;> rw [hcv] at hi2
      ·
       refine sC (CallsM.ren (hi2) [0, 1, 2, 5, 6] 12 rfl rfl rfl rfl) ?_
       repeat' (first | refine qgs ?_ | refine eD ?_ ?_ <;> intro)
       exact ex_round (s2, false, l ++ [x], F) ⟨hg2.le (by omega) (by omega), kx_s2, kt_s2, fun h => (by cases h), by rw [hlx]; omega, .inr ⟨fun h => (by cases h.1), pars_out (K := fun l => takeR L t_rpar >>= fun _ => K l) hcv (fun h => hF s2 (by have := hgr h; skip; omega) h) hsi2 hT⟩⟩ (by show (if false = true ∧ s2.err = 0 then L.length - s2.i + 1 else 0) < (if true = true ∧ s.err = 0 then L.length - s.i + 1 else 0); rw [if_neg (by simp), if_pos ⟨rfl, hse⟩]; omega) (sR [(0, 0), (1, 1), (2, 2), (3, 3), (4, 4), (5, 5), (6, 6), (7, 7), (8, 8), (11, 9)])
      ·
       refine sC (CallsM.ren (hi2) [0, 1, 2, 5, 6] 12 rfl rfl rfl rfl) ?_
       repeat' (first | refine qgs ?_ | refine eD ?_ ?_ <;> intro)
       rcases htk : takeR L t_comma s2 with ⟨u3, s3⟩
       have ht3 := rtake_c s2 hsi2 hn t_comma
       refine sC (CallsM.ren ((ht3 _ _ htk)) [0, 1, 2, 5, 6] 12 rfl rfl rfl rfl) ?_
       repeat' (first | refine qgs ?_ | refine eD ?_ ?_ <;> intro)
       have kk := keep_take htk
       have hg3 := (Sim.take (m := 32) hL t_comma 4).gd hg2 (by omega) htk
       refine ex_round (s3, true, l ++ [x], fun _ => F s2 - 1) ⟨hg3.le (by omega) (by omega), kk.1.trans kx_s2, kk.2.trans kt_s2, ?_, by rw [hlx]; omega, ?_⟩ ?_ (SLe.ren [(0, 0), (1, 1), (2, 2), (3, 3), (4, 4), (5, 5), (6, 6), (7, 7), (8, 8), (11, 9)] ⟨⟨rfl, rfl⟩, ⟨rfl, rfl⟩, ⟨rfl, rfl⟩, ⟨rfl, rfl⟩, trivial⟩ ⟨⟨rfl, rfl⟩, ⟨rfl, rfl⟩, ⟨rfl, rfl⟩, ⟨rfl, rfl⟩, ⟨rfl, rfl⟩, ⟨rfl, rfl⟩, ⟨rfl, rfl⟩, ⟨rfl, rfl⟩, trivial⟩ rfl)
       ·intro _ h
        rw [hlx]
        by_cases he2 : s2.err = 0
        ·have := hle he2
         rw [take_yes he2 hcv] at htk
         obtain rfl := congrArg Prod.snd htk
         show _ ≤ s2.i + 1
         omega
        ·rw [take_err he2] at htk
         obtain rfl : s2 = s3 := congrArg Prod.snd htk
         exact absurd h he2
       ·exact pars_in hcv hsi2 (fun h => hF s2 (by have := hgr h; skip; omega) h) hT htk
       ·by_cases he2 : s2.err = 0
        ·have := hgr he2
         skip
         rw [take_yes he2 hcv] at htk
         obtain rfl := congrArg Prod.snd htk
         show (if true = true ∧ s2.err = 0 then L.length - (s2.i + 1) + 1 else 0) < (if true = true ∧ s.err = 0 then L.length - s.i + 1 else 0)
         rw [if_pos ⟨rfl, he2⟩, if_pos ⟨rfl, hse⟩]
         omega
        ·rw [take_err he2] at htk
         obtain rfl : s2 = s3 := congrArg Prod.snd htk
         show (if true = true ∧ s2.err = 0 then L.length - s2.i + 1 else 0) < (if true = true ∧ s.err = 0 then L.length - s.i + 1 else 0)
         rw [if_neg (fun h => he2 h.2), if_pos ⟨rfl, hse⟩]
         omega
     ·rcases hr : roomR l.length s with ⟨u1, s1⟩
      replace hT := (rand (roomIf_yes hb hr)).symm.trans hT
      have kr := keep_room hr
      have hg1 := (Sim.room (L := L) (m := 32) l.length 3).gd hs (by omega) hr
      have kx_s1 := kr.1.trans kx_s
      have kt_s1 := kr.2.trans kt_s
      have hri : s1.i = s.i := room_i hr
      repeat' (first | refine qgs ?_ | refine eD ?_ ?_ <;> intro)
      refine sC (CallsM.ren (hop) [0, 1, 2, 5, 6] 10 rfl rfl rfl rfl) ?_
      repeat' (first | refine ex_is l.length (by simp) ?_ | refine qg1 ?_ | refine eD ?_ ?_ <;> intro)
      refine sC (CallsM.ren (((rroom_c s l.length (by omega)) _ _ hr)) [0, 1, 2, 5, 6] 10 rfl rfl rfl rfl) ?_
      repeat' (first | refine qgs ?_ | refine eD ?_ ?_ <;> intro)
      rcases hx : (nameR L) (s1) with ⟨x, s2⟩
      replace hT := (rand hx).symm.trans hT
      refine sC (CallsM.ren ((rname_c s1 hg1.i hn) _ _ hx) [0, 1, 2, 5, 6] 10 rfl rfl rfl rfl) ?_
      have kx_s2 := (keep_name hx).1.trans kx_s1
      have kt_s2 := (keep_name hx).2.trans kt_s1
      have hg2 := (Sim.name (m := 32) hL 3).gd hg1 (by omega) hx
      have hgr := fun h => ((Sim.name (m := 32) hL 3).grow hg1 hx h).2
      have hsi2 := hg2.i
      replace hT : (parsR L (F s2) (l ++ [x]) >>= fun l => takeR L t_rpar >>= fun _ => K l) s2 = (v, st') := hT
      have hlx : (l ++ [x]).length = l.length + 1 := by simp
      have hle : s2.err = 0 → l.length ≤ s2.i := fun h => by
       have := hgr h
       have := hri
       omega
      repeat' (first | refine qgs ?_ | refine eD ?_ ?_ <;> intro)
      refine ex_app (l.length) (1) 1000 (by first | rfl | (simp; done) | (simp; omega)) (by first | rfl | (simp; done) | (simp; omega)) rfl (by omega) ?_
      refine ex_is (List.map (fun p : List UInt8 => [ds (bs p)]) (l ++ [x])) (by rw [List.map_append]; rfl) ?_
      repeat' (first | refine qgs ?_ | refine eD ?_ ?_ <;> intro)
      have hi2 := ris_c s2 hsi2 t_comma
      rcases hcv : isV L s2.i t_comma with _ | _ <;> rw [hcv] at hi2
      ·
       refine sC (CallsM.ren (hi2) [0, 1, 2, 5, 6] 12 rfl rfl rfl rfl) ?_
       repeat' (first | refine qgs ?_ | refine eD ?_ ?_ <;> intro)
       exact ex_round (s2, false, l ++ [x], F) ⟨hg2.le (by omega) (by omega), kx_s2, kt_s2, fun h => (by cases h), by rw [hlx]; omega, .inr ⟨fun h => (by cases h.1), pars_out (K := fun l => takeR L t_rpar >>= fun _ => K l) hcv (fun h => hF s2 (by have := hgr h; have := hri; omega) h) hsi2 hT⟩⟩ (by show (if false = true ∧ s2.err = 0 then L.length - s2.i + 1 else 0) < (if true = true ∧ s.err = 0 then L.length - s.i + 1 else 0); rw [if_neg (by simp), if_pos ⟨rfl, hse⟩]; omega) (sR [(0, 0), (1, 1), (2, 2), (3, 3), (4, 4), (5, 5), (6, 6), (7, 7), (8, 8), (11, 9)])
      ·
       refine sC (CallsM.ren (hi2) [0, 1, 2, 5, 6] 12 rfl rfl rfl rfl) ?_
       repeat' (first | refine qgs ?_ | refine eD ?_ ?_ <;> intro)
       rcases htk : takeR L t_comma s2 with ⟨u3, s3⟩
       have ht3 := rtake_c s2 hsi2 hn t_comma
       refine sC (CallsM.ren ((ht3 _ _ htk)) [0, 1, 2, 5, 6] 12 rfl rfl rfl rfl) ?_
       repeat' (first | refine qgs ?_ | refine eD ?_ ?_ <;> intro)
       have kk := keep_take htk
       have hg3 := (Sim.take (m := 32) hL t_comma 4).gd hg2 (by omega) htk
       refine ex_round (s3, true, l ++ [x], fun _ => F s2 - 1) ⟨hg3.le (by omega) (by omega), kk.1.trans kx_s2, kk.2.trans kt_s2, ?_, by rw [hlx]; omega, ?_⟩ ?_ (SLe.ren [(0, 0), (1, 1), (2, 2), (3, 3), (4, 4), (5, 5), (6, 6), (7, 7), (8, 8), (11, 9)] ⟨⟨rfl, rfl⟩, ⟨rfl, rfl⟩, ⟨rfl, rfl⟩, ⟨rfl, rfl⟩, trivial⟩ ⟨⟨rfl, rfl⟩, ⟨rfl, rfl⟩, ⟨rfl, rfl⟩, ⟨rfl, rfl⟩, ⟨rfl, rfl⟩, ⟨rfl, rfl⟩, ⟨rfl, rfl⟩, ⟨rfl, rfl⟩, trivial⟩ rfl)
       ·intro _ h
        rw [hlx]
        by_cases he2 : s2.err = 0
        ·have := hle he2
         rw [take_yes he2 hcv] at htk
         obtain rfl := congrArg Prod.snd htk
         show _ ≤ s2.i + 1
         omega
        ·rw [take_err he2] at htk
         obtain rfl : s2 = s3 := congrArg Prod.snd htk
         exact absurd h he2
       ·exact pars_in hcv hsi2 (fun h => hF s2 (by have := hgr h; have := hri; omega) h) hT htk
       ·by_cases he2 : s2.err = 0
        ·have := hgr he2
         have := hri
         rw [take_yes he2 hcv] at htk
         obtain rfl := congrArg Prod.snd htk
         show (if true = true ∧ s2.err = 0 then L.length - (s2.i + 1) + 1 else 0) < (if true = true ∧ s.err = 0 then L.length - s.i + 1 else 0)
         rw [if_pos ⟨rfl, he2⟩, if_pos ⟨rfl, hse⟩]
         omega
        ·rw [take_err he2] at htk
         obtain rfl : s2 = s3 := congrArg Prod.snd htk
         show (if true = true ∧ s2.err = 0 then L.length - s2.i + 1 else 0) < (if true = true ∧ s.err = 0 then L.length - s.i + 1 else 0)
         rw [if_neg (fun h => he2 h.2), if_pos ⟨rfl, hse⟩]
         omega
    ·rcases h4 : takeR L t_rpar s with ⟨u4, s4⟩
     replace hT := (rand h4).symm.trans hT
     have kk := keep_take h4
     have g4 := (Sim.take (m := 32) hL t_rpar 3).gd hs (by omega) h4
     have hcon := (rtake_c s hsi hn t_rpar) _ _ h4
     cases more
     ·repeat' (first | refine qgs ?_ | refine eD ?_ ?_ <;> intro)
      refine sC (CallsM.ren (hcon) [0, 1, 2, 5, 6] 10 rfl rfl rfl rfl) ?_
      repeat' (first | refine qgs ?_ | refine eD ?_ ?_ <;> intro)
      exact ex_meet (s4, l) ⟨g4.le (by omega) (by omega), kk.1.trans kx_s, kk.2.trans kt_s, hT⟩ sS
     ·have hse : s.err ≠ 0 := fun h => hno ⟨rfl, h⟩
      repeat' (first | refine qgs ?_ | refine eD ?_ ?_ <;> intro)
      refine sC (CallsM.ren (hcon) [0, 1, 2, 5, 6] 10 rfl rfl rfl rfl) ?_
      repeat' (first | refine qgs ?_ | refine eD ?_ ?_ <;> intro)
      exact ex_meet (s4, l) ⟨g4.le (by omega) (by omega), kk.1.trans kx_s, kk.2.trans kt_s, hT⟩ sS
   ·replace hT := gdRnB hT he
    repeat' (first | refine qgs ?_ | refine eD ?_ ?_ <;> intro)
    exact ex_meet (s2, []) ⟨g2.le (by omega) (by omega), kx_s2, kt_s2, hT⟩ (SLe.thru (SLe.ownCell 8 1 9 1 9 rfl rfl rfl rfl rfl rfl) sS)
 ·clear hT hv his g1 g2 q1 q2 kx_st kt_st kx_s1 kt_s1 kx_s2 kt_s2 h10 hg
  rintro ⟨s, ps⟩ ⟨hs, kx_s, kt_s, hT⟩
  rw [← hK] at hT
  clear hK
  replace hT : (takeR L t_lcur >>= fun _ => (fun s => itemsR L (L.length - s.i + 1) [] s : RM (List IT)) >>= fun is => takeR L t_rcur >>= fun _ => pure (⟨w, ps, is⟩ : RC)) s = (v, st') := hT
  repeat' (first | refine qgs ?_ | refine eD ?_ ?_ <;> intro)
  rcases q1 : (takeR L t_lcur) (s) with ⟨_, s1⟩
  replace hT := (rand q1).symm.trans hT
  refine sC (CallsM.ren ((rtake_c s hs.i hn t_lcur) _ _ q1) [0, 1, 2, 5, 6] 10 rfl rfl rfl rfl) ?_
  have kx_s1 := (keep_take q1).1.trans kx_s
  have kt_s1 := (keep_take q1).2.trans kt_s
  have g1 := (Sim.take (m := 32) hL t_lcur 2).gd hs (by omega) q1
  have hi1 := g1.i
  obtain ⟨K, hK⟩ : ∃ K : List IT → RM RC, (fun is : List IT => takeR L t_rcur >>= fun _ => pure (⟨w, ps, is⟩ : RC)) = K := ⟨_, rfl⟩
  replace hT : (itemsR L (L.length - s1.i + 1) [] >>= K) s1 = (v, st') := by rw [← hK]; exact hT
  repeat' (first | refine qgs ?_ | refine eD ?_ ?_ <;> intro)
  refine ex_loop (X := RSt × List EX × List TY × List IT × Nat) (fun ⟨s, xl, tl, l, _⟩ => ⟨[(0, .o P0), (2, .o (.c (.ptr 7 0))), (4, .o (.c (.ptr 8 0)))], [(0, Rz L s 1 2 11 12), (3, .dead), (4, .dead), (7, .obj [.d (ds ⟨#[]⟩), .d dnil, .d dnil]), (8, .obj [.d (ds (bs w)), .row 9, .row 10]), (9, .row 1 9 (ps.map fun p => [ds (bs p)])), (10, .row 9 155 (l.map itD)), (11, Xr xl), (12, Tr tl)], 13⟩) (fun y => y.2.2.2.2)
   (fun ⟨s, xl, tl, l, n⟩ => Gd L 32 3 940 s ∧ s.xs = xl ∧ s.ts = tl ∧ (s.err = 0 → L.length < s.i + n ∧ l.length ≤ s.i) ∧ l.length ≤ L.length + 1 ∧ (itemsR L n l >>= K) s = (v, st')) (s1, st.xs, st.ts, [], L.length - s1.i + 1) ⟨g1.le (by omega) (by omega), kx_s1, kt_s1, fun _ => ⟨by omega, Nat.zero_le _⟩, Nat.zero_le _, hT⟩ ?_ ?_
  ·exact SLe.thru (SLe.ownCell 8 2 10 9 155 rfl rfl rfl rfl rfl rfl) (sR [(0, 0), (1, 1), (2, 2), (3, 3), (4, 4), (7, 7), (8, 8), (9, 9), (10, 10), (5, 11), (6, 12)])
  clear hT q1 g1 hi1 kx_s1 kt_s1 hs kx_s kt_s
  rintro ⟨s, xl, tl, l, n⟩ ⟨hs, kx_s, kt_s, hf, hcl, hT⟩
  have hsi := hs.i
  have h10 := hs.e
  have hnm := rnamed_c s hsi
  have hpk := ris_c s hsi w_pack
  by_cases he : s.err = 0
  ·obtain ⟨hf, hll⟩ := hf he
   cases n with
   | zero => omega
   | succ n =>
    rw [itemsR] at hT
    replace hT := gdRyB hT he
    have hs0 := hs.fresh he 400
    rcases hv : isV L s.i w_pack with _ | _ <;> rw [hv] at hpk
    ·rcases hb : namedV L s.i with _ | _ <;> rw [hb] at hnm
     ·replace hT := atRnB hT (by rw [hv, hb]; rfl)
      replace hT : K l s = (v, st') := hT
      rw [← hK] at hT
      replace hT : (takeR L t_rcur >>= fun _ => pure (⟨w, ps, l⟩ : RC)) s = (v, st') := hT
      repeat' (first | refine qgs ?_ | refine eD ?_ ?_ <;> intro)
      refine sC (CallsM.ren (hnm) [0, 1, 2, 11, 12] 13 rfl rfl rfl rfl) ?_
      repeat' (first | refine qgs ?_ | refine eD ?_ ?_ <;> intro)
      refine sC (CallsM.ren (hpk) [0, 1, 2, 11, 12] 13 rfl rfl rfl rfl) ?_
      repeat' (first | refine qgs ?_ | refine eD ?_ ?_ <;> intro)
      rcases q1 : (takeR L t_rcur) (s) with ⟨_, s1⟩
      replace hT := (rand q1).symm.trans hT
      refine sC (CallsM.ren ((rtake_c s hsi hn t_rcur) _ _ q1) [0, 1, 2, 11, 12] 13 rfl rfl rfl rfl) ?_
      have kx_s1 := (keep_take q1).1.trans kx_s
      have kt_s1 := (keep_take q1).2.trans kt_s
      obtain rfl : (⟨w, ps, l⟩ : RC) = v := congrArg Prod.fst hT
      obtain rfl : s1 = st' := congrArg Prod.snd hT
      repeat' (first | refine qgs ?_ | refine eD ?_ ?_ <;> intro)
      subst kx_s1
      subst kt_s1
      exact ⟨rfl, TLe.rfl, rfl, rfl⟩
     ·replace hT := atRyB hT (by rw [hv, hb]; rfl)
      replace hT : (roomR l.length >>= fun _ => atR (isV L · w_pack) (packR L) (fieldR L) >>= fun x => itemsR L n (l ++ [x]) >>= K) s = (v, st') := hT
      repeat' (first | refine qgs ?_ | refine eD ?_ ?_ <;> intro)
      refine sC (CallsM.ren (hnm) [0, 1, 2, 11, 12] 13 rfl rfl rfl rfl) ?_
      repeat' (first | refine qgs ?_ | refine eD ?_ ?_ <;> intro)
      refine sC (CallsM.ren (hpk) [0, 1, 2, 11, 12] 13 rfl rfl rfl rfl) ?_
      repeat' (first | refine ex_is l.length (by simp) ?_ | refine qg1 ?_ | refine eD ?_ ?_ <;> intro)
      rcases q1 : (roomR l.length) (s) with ⟨_, s1⟩
      replace hT := (rand q1).symm.trans hT
      refine sC (CallsM.ren ((rroom_c s l.length (by omega)) _ _ q1) [0, 1, 2, 11, 12] 13 rfl rfl rfl rfl) ?_
      have kx_s1 := (keep_room q1).1.trans kx_s
      have kt_s1 := (keep_room q1).2.trans kt_s
      have g1 := (Sim.room (L := L) (m := 32) l.length 3).gd hs0 (by omega) q1
      have i1 := room_i q1
      have hv1 : isV L s1.i w_pack = false := by rw [i1]; exact hv
      replace hT := atRnB hT hv1
      repeat' (first | refine qgs ?_ | refine eD ?_ ?_ <;> intro)
      rcases q2 : (fieldR L) (s1) with ⟨x, s2⟩
      replace hT := (rand q2).symm.trans hT
      refine sC (CallsM.ren ((rfield_c hL hE hn s1 (g1.le (by omega) (by omega))) _ _ q2 _ _ kx_s1 kt_s1) [0, 1, 2, 11, 12] 14 rfl rfl rfl rfl) ?_
      have kx_s2 : s2.xs = s2.xs := rfl
      have kt_s2 : s2.ts = s2.ts := rfl
      have q2' : atR (isV L · w_pack) (packR L) (fieldR L) s1 = (x, s2) := by unfold atR; rw [if_neg (show ¬ isV L s1.i w_pack = true by rw [hv1]; decide)]; exact q2
      have hsim := (sim_packAt (m := 32) hL (sim_field hL hE)).less (a' := 3) (b' := 3) 3 (by omega) (by omega)
      have g2 := hsim.gd g1 (by omega) q2'
      have hgrow : s2.err = 0 → s.i + 1 ≤ s2.i := fun h2 => by
       have := hsim.grow1 mo_packAt g1 q2' h2
       omega
      have hlc : (l ++ [x]).length = l.length + 1 := by simp
      clear q2 q2' hsim
      repeat' (first | refine qgs ?_ | refine eD ?_ ?_ <;> intro)
      refine ex_app (l.length) (1) 1000 (by first | rfl | (simp; done) | (simp; omega)) (by first | rfl | (simp; done) | (simp; omega)) rfl (by omega) ?_
      refine ex_is (List.map itD (l ++ [x])) (by rw [List.map_append]; rfl) ?_
      repeat' (first | refine qgs ?_ | refine eD ?_ ?_ <;> intro)
      exact ex_round (s2, s2.xs, s2.ts, l ++ [x], n) ⟨g2.le (by omega) (by omega), rfl, rfl, fun h => ⟨by have := hgrow h; omega, by rw [hlc]; have := hgrow h; omega⟩, by rw [hlc]; omega, hT⟩ (by show n < n + 1; omega) (sR [(0, 0), (1, 1), (2, 2), (3, 3), (4, 4), (7, 7), (8, 8), (9, 9), (17, 10), (14, 11), (15, 12)])
    ·replace hT := atRyB hT (by rw [hv]; rfl)
     replace hT : (roomR l.length >>= fun _ => atR (isV L · w_pack) (packR L) (fieldR L) >>= fun x => itemsR L n (l ++ [x]) >>= K) s = (v, st') := hT
     obtain ⟨b, hb⟩ : ∃ b, namedV L s.i = b := ⟨_, rfl⟩
     rw [hb] at hnm
     cases b
     all_goals
      repeat' (first | refine qgs ?_ | refine eD ?_ ?_ <;> intro)
      refine sC (CallsM.ren (hnm) [0, 1, 2, 11, 12] 13 rfl rfl rfl rfl) ?_
      repeat' (first | refine qgs ?_ | refine eD ?_ ?_ <;> intro)
      refine sC (CallsM.ren (hpk) [0, 1, 2, 11, 12] 13 rfl rfl rfl rfl) ?_
      repeat' (first | refine ex_is l.length (by simp) ?_ | refine qg1 ?_ | refine eD ?_ ?_ <;> intro)
      rcases q1 : (roomR l.length) (s) with ⟨_, s1⟩
      replace hT := (rand q1).symm.trans hT
      refine sC (CallsM.ren ((rroom_c s l.length (by omega)) _ _ q1) [0, 1, 2, 11, 12] 13 rfl rfl rfl rfl) ?_
      have kx_s1 := (keep_room q1).1.trans kx_s
      have kt_s1 := (keep_room q1).2.trans kt_s
      have g1 := (Sim.room (L := L) (m := 32) l.length 3).gd hs0 (by omega) q1
      have i1 := room_i q1
      have hv1 : isV L s1.i w_pack = true := by rw [i1]; exact hv
      replace hT := atRyB hT hv1
      repeat' (first | refine qgs ?_ | refine eD ?_ ?_ <;> intro)
      rcases q2 : (packR L) (s1) with ⟨x, s2⟩
      replace hT := (rand q2).symm.trans hT
      refine sC (CallsM.ren ((rpack_c (m := 32) hL hn hq s1 (g1.le (by omega) (by omega)) hv1) _ _ q2) [0, 1, 2, 11, 12] 14 rfl rfl rfl rfl) ?_
      have kx_s2 := (keep_pack q2).1.trans kx_s1
      have kt_s2 := (keep_pack q2).2.trans kt_s1
      have q2' : atR (isV L · w_pack) (packR L) (fieldR L) s1 = (x, s2) := by unfold atR; rw [if_pos hv1]; exact q2
      have hsim := (sim_packAt (m := 32) hL (sim_field hL hE)).less (a' := 3) (b' := 3) 3 (by omega) (by omega)
      have g2 := hsim.gd g1 (by omega) q2'
      have hgrow : s2.err = 0 → s.i + 1 ≤ s2.i := fun h2 => by
       have := hsim.grow1 mo_packAt g1 q2' h2
       omega
      have hlc : (l ++ [x]).length = l.length + 1 := by simp
      clear q2 q2' hsim
      repeat' (first | refine qgs ?_ | refine eD ?_ ?_ <;> intro)
      refine ex_app (l.length) (1) 1000 (by first | rfl | (simp; done) | (simp; omega)) (by first | rfl | (simp; done) | (simp; omega)) rfl (by omega) ?_
      refine ex_is (List.map itD (l ++ [x])) (by rw [List.map_append]; rfl) ?_
      repeat' (first | refine qgs ?_ | refine eD ?_ ?_ <;> intro)
      exact ex_round (s2, xl, tl, l ++ [x], n) ⟨g2.le (by omega) (by omega), kx_s2, kt_s2, fun h => ⟨by have := hgrow h; omega, by rw [hlc]; have := hgrow h; omega⟩, by rw [hlc]; omega, hT⟩ (by show n < n + 1; omega) (sR [(0, 0), (1, 1), (2, 2), (3, 3), (4, 4), (7, 7), (8, 8), (9, 9), (15, 10), (11, 11), (12, 12)])
  ·replace hT := (rand (itemsR_err he n l)).symm.trans hT
   rw [← hK] at hT
   replace hT : (takeR L t_rcur >>= fun _ => pure (⟨w, ps, l⟩ : RC)) s = (v, st') := hT
   repeat' (first | refine qgs ?_ | refine eD ?_ ?_ <;> intro)
   rcases q1 : (takeR L t_rcur) (s) with ⟨_, s1⟩
   replace hT := (rand q1).symm.trans hT
   refine sC (CallsM.ren ((rtake_c s hsi hn t_rcur) _ _ q1) [0, 1, 2, 11, 12] 13 rfl rfl rfl rfl) ?_
   have kx_s1 := (keep_take q1).1.trans kx_s
   have kt_s1 := (keep_take q1).2.trans kt_s
   obtain rfl : (⟨w, ps, l⟩ : RC) = v := congrArg Prod.fst hT
   obtain rfl : s1 = st' := congrArg Prod.snd hT
   repeat' (first | refine qgs ?_ | refine eD ?_ ?_ <;> intro)
   subst kx_s1
   subst kt_s1
   exact ⟨rfl, TLe.rfl, rfl, rfl⟩
end
end Go.Proofs.YtoingpafcodojaaGreatDoor

namespace Go.Proofs.YtoingpafcodojaaGreatDoor
open Go.RowKit

def hexI (b : UInt8) : Int := if isHex b then (hexN b : Nat) else -1
def tvV : Option Nat → TV
 | some n => .tup [c1 (du n), c1 (di 0)]
 | none => .tup [c1 (du 0), c1 (di 5)]
end Go.Proofs.YtoingpafcodojaaGreatDoor

namespace Go.Proofs.YtoingpafcodojaaGreatDoor
open Go.RowKit

def optN : Option (List UInt8) → Nat
 | some t => t.length
 | none => 0
def ones : List UInt8 := [123, 125, 40, 41, 91, 93, 59, 58, 44, 61, 60, 62, 43, 45, 42, 47, 37, 38, 124, 33]
end Go.Proofs.YtoingpafcodojaaGreatDoor

namespace Go.Proofs.YtoingpafcodojaaGreatDoor
open Go.RowKit

end Go.Proofs.YtoingpafcodojaaGreatDoor

namespace Go.Proofs.YtoingpafcodojaaGreatDoor
open Go.RowKit

end Go.Proofs.YtoingpafcodojaaGreatDoor

namespace Go.Proofs.YtoingpafcodojaaGreatDoor
open Go.RowKit

theorem lexV_toks {s : List UInt8} {L : List TokP} (h : lexV s = .ok L) : ∃ us l c, L = us ++ [⟨3, [], 0, l, c⟩] ∧ ∀ u ∈ us, GoodTok u := by
 unfold lexV at h
 split at h
 ·exact lexF_good h
 ·cases h

theorem valF_lt {base : Nat} : ∀ (l : List UInt8) (n m : Nat), n < 18446744073709551616 → valF base n l = some m → m < 18446744073709551616
 | [], n, m, h, e => by rw [valF] at e; injection e with e; omega
 | b :: r, n, m, h, e => by
  rw [valF] at e
  split at e
  ·exact valF_lt r _ m (by assumption) e
  ·cases e
theorem numR_lt {s t : List UInt8} {o : Option Nat} {k n : Nat} (ho : ∀ m, o = some m → m < 18446744073709551616) (h : numR s o = .ok k t n) : n < 18446744073709551616 := by
 cases o with
 | none => cases h
 | some m => cases h; exact ho _ rfl
theorem tokF_lt {r t : List UInt8} {k n : Nat} (h : tokF r = .ok k t n) : n < 18446744073709551616 := by
 unfold tokF at h
 split at h
 ·split at h
  ·cases h
  ·cases h; decide
 ·split at h
  ·unfold numF at h
   split at h
   ·exact numR_lt (fun m hm => valF_lt _ 0 m (by decide) hm) h
   ·split at h
    ·exact numR_lt (fun m hm => valF_lt _ 0 m (by decide) hm) h
    ·cases h
  ·split at h
   ·cases h; decide
   ·cases h
theorem lexV_tk {s : List UInt8} {L : List TokP} (h : lexV s = .ok L) (i : Nat) : ((tk L i).k < 3 ∧ (tk L i).n < 18446744073709551616) ∨ ((tk L i).t = [] ∧ (tk L i).n = 0) := by
 obtain ⟨us, l, c, rfl, hg⟩ := lexV_toks h
 by_cases hi : i < us.length
 ·left
  have e : tk (us ++ [(⟨3, [], 0, l, c⟩ : TokP)]) i = us[i] := by unfold tk; rw [List.getD_eq_getElem?_getD, List.getElem?_append_left hi, List.getElem?_eq_getElem hi]; rfl
  rw [e]
  obtain ⟨h1, _, r, h2⟩ := hg us[i] (List.getElem_mem hi)
  exact ⟨h1, tokF_lt h2⟩
 ·right
  unfold tk
  rw [List.getD_eq_getElem?_getD, List.getElem?_append_right (by omega)]
  by_cases h0 : i - us.length = 0
  ·rw [h0]; exact ⟨rfl, rfl⟩
  ·rw [List.getElem?_eq_none (by simp; omega)]; exact ⟨rfl, rfl⟩
theorem lexV_num {s : List UInt8} {L : List TokP} (h : lexV s = .ok L) : NumOk L := fun i => by
 rcases lexV_tk h i with ⟨_, h1⟩ | ⟨_, h1⟩
 ·exact h1
 ·rw [h1]; decide
def parR (L : List TokP) (T : (List CO × List RC) × RSt) : FR := if T.2.err = 0 then .ok T.1.1 T.1.2 T.2.xs T.2.ts else .err (tk L T.2.i).l (tk L T.2.i).c T.2.err
def rparT : FR → TV
 | .ok cs rs xs ts => .tup [gD (fileD cs rs xs ts), gD [di 0, di 0], c1 (di 0)]
 | .err l c e => .tup [gD [dnil, dnil, dnil, dnil], gD [di l, di c], c1 (di e)]
abbrev Cr (l : List CO) : Blk := .row 2 104 (l.map coD)
abbrev Ur (l : List RC) : Blk := .row 3 107 (l.map rcD)
end Go.Proofs.YtoingpafcodojaaGreatDoor

namespace Go.Proofs.YtoingpafcodojaaGreatDoor
open Go.RowKit

theorem file_expr {s : List UInt8} {cs : List CO} {rs : List RC} {xs : List EX} {ts : List TY} (h : fileS s = .ok cs rs xs ts) :
  xs.length ≤ 100000 ∧ ts.length ≤ 100000 ∧ XsOk (xs.map EX.ei) ∧ (∀ x ∈ xs.map EX.ei, x.kids.length ≤ 1000000) ∧ ∀ t ∈ ts, -1 ≤ t.ex ∧ t.ex ≤ 100000 := by
 unfold fileS at h
 have hord := file_order h
 rcases hl : lexV s with L | ⟨l', c', e'⟩ <;> rw [hl] at h
 ·obtain ⟨hL, hn⟩ := lexV_ok hl
  have hq := lexV_num hl
  haveI : NumC L := ⟨hq⟩
  obtain ⟨h1, -⟩ := file_sized (L := L) (B := 1000000) (by omega) h
  have hu := up_whole hL (L.length + 1) [] [] ⟨0, [], []⟩ 0 ⟨hL.1, by simp, by simp⟩
  have hlen : xs.length ≤ 100000 ∧ ts.length ≤ 100000 := by
   unfold fileV at h
   dsimp only at h
   split at h
   ·rename_i c r s1 hw1
    rw [hw1] at hu
    cases h
    have := hu.1.x
    have := hu.1.t
    have := hu.1.i
    dsimp only at *
    omega
   ·cases h
  refine ⟨hlen.1, hlen.2, fun x hx => ?_, fun x hx => ?_, fun t ht => ?_⟩
  ·obtain ⟨y, hy, rfl⟩ := List.mem_map.1 hx
   exact (h1.x y hy).2
  ·obtain ⟨y, hy, rfl⟩ := List.mem_map.1 hx
   exact (h1.x y hy).1
  ·by_cases he : t.ex = -1
   ·rw [he]; exact ⟨Int.le_refl _, by decide⟩
   ·have := hord.xr t.ex (.inl (List.mem_append_right _ (List.mem_flatMap.2 ⟨t, ht, by unfold TY.subX; rw [if_neg he]; simp⟩)))
    have h2 := hlen.1
    dsimp only at this
    omega
 ·cases h
end Go.Proofs.YtoingpafcodojaaGreatDoor

namespace Go.Proofs.YtoingpafcodojaaGreatDoor
open Go.RowKit

theorem file_errA {s : List UInt8} {l c e : Nat} (h : fileS s = .err l c e) : 0 < e ∧ e ≤ 10 := by
 unfold fileS fileV at h
 rcases hl : lexV s with L | ⟨l', c', e'⟩ <;> rw [hl] at h <;> dsimp only at h
 ·obtain ⟨hL, hn⟩ := lexV_ok hl
  have := up_whole hL (L.length + 1) [] [] ⟨0, [], []⟩ 0 ⟨hL.1, by simp, by simp⟩
  split at h
  ·cases h
  ·rename_i i e0 hw
   rw [hw] at this
   cases h
   exact ⟨this.2.2.1, this.2.2.2⟩
 ·cases h
  have := lexV_err hl
  omega
end Go.Proofs.YtoingpafcodojaaGreatDoor

namespace Go.Proofs.YtoingpafcodojaaGreatDoor

def TokP.same (u t : TokP) : Prop := u.k = t.k ∧ u.t = t.t ∧ u.n = t.n
theorem atY {α : Type} {p : Nat → Bool} {x y : PM α} {s : PS} (h : p s.i = true) : atM p x y s = x s := if_pos h
theorem atN {α : Type} {p : Nat → Bool} {x y : PM α} {s : PS} (h : p s.i = false) : atM p x y s = y s := if_neg (by rw [h]; decide)
theorem room_lt {α : Type} {n : Nat} {f : Unit → PM α} {s : PS} (h : n < 64) : (roomM n >>= f) s = f () s := and_ok (by unfold roomM; rw [if_neg (by omega)])
structure Lc (K lo : Nat) {α : Type} (x x' : PM α) : Prop where
 mo : Mo x
 lc : ∀ s v s', lo ≤ s.i → x s = .ok v s' → s'.i < K → x' s = .ok v s'
structure LcE (K : Nat) {α : Type} (x x' : PM α) : Prop where
 mo : Mo1 x
 lc : ∀ s v s', x s = .ok v s' → s'.i ≤ K → x' s = .ok v s'
section
variable {K lo : Nat} {L L' : List TokP} {α β : Type}
def AskB (K : Nat) (p p' : Nat → Bool) : Prop := ∀ i, i < K → p' i = p i
structure Ag (L L' : List TokP) (K : Nat) : Prop where
 lo : ∀ i, i < K → (tk L' i).same (tk L i)
 l1 : K ≤ L.length
 l2 : K ≤ L'.length
variable (hc : Ag L L' K)
include hc
def derB2 (L : List TokP) (t : List UInt8) : PM (Nat × List UInt8 × List UInt8) := takeM L t_lpar >>= fun _ => nameM L >>= fun a => (if 3 ≤ derOf t then takeM L t_dots >>= fun _ => nameM L else pure []) >>= fun b => takeM L t_rpar >>= fun _ => pure (derOf t, a, b)
end
end Go.Proofs.YtoingpafcodojaaGreatDoor

namespace Go.Proofs.YtoingpafcodojaaGreatDoor

abbrev Ky := Nat × List UInt8 × Nat
def AtK (L : List TokP) : Nat → List Ky → Prop
 | _, [] => True
 | i, k :: ks => (tk L i).key = k ∧ AtK L (i + 1) ks
theorem atK_app {L : List TokP} : ∀ {a : List Ky} {i : Nat} {b : List Ky}, AtK L i (a ++ b) ↔ AtK L i a ∧ AtK L (i + a.length) b
 | [], i, b => ⟨fun h => ⟨trivial, h⟩, fun h => h.2⟩
 | k :: a, i, b => by
  have e : i + (k :: a).length = i + 1 + a.length := by rw [List.length_cons]; omega
  rw [e]
  exact ⟨fun h => ⟨⟨h.1, (atK_app.1 h.2).1⟩, (atK_app.1 h.2).2⟩, fun h => ⟨h.1.1, atK_app.2 ⟨h.1.2, h.2⟩⟩⟩
theorem isV_key {L : List TokP} {i : Nat} {k : Ky} (h : (tk L i).key = k) (t : List UInt8) : isV L i t = (!decide (k.1 = 3) && decide (k.2.1 = t)) := by subst h; rfl
theorem namedV_key {L : List TokP} {i : Nat} {k : Ky} (h : (tk L i).key = k) : namedV L i = (decide (k.1 = 0) && !keyV k.2.1) := by subst h; rfl
theorem opAt_key {L : List TokP} {i : Nat} {k : Ky} (h : (tk L i).key = k) (lv : Nat) : opAt L lv i = (decide (k.1 = 2) && decide (levelV k.2.1 = lv)) := by subst h; rfl
theorem tk_kind {L : List TokP} {i : Nat} {k : Ky} (h : (tk L i).key = k) : (tk L i).k = k.1 := by subst h; rfl
theorem tk_text {L : List TokP} {i : Nat} {k : Ky} (h : (tk L i).key = k) : (tk L i).t = k.2.1 := by subst h; rfl
theorem tk_num {L : List TokP} {i : Nat} {k : Ky} (h : (tk L i).key = k) : (tk L i).n = k.2.2 := by subst h; rfl
theorem tokF_cases {r t : List UInt8} {k n : Nat} (h : tokF r = .ok k t n) : (k = 2 ∧ t ∈ signsL ∧ n = 0) ∨ (k = 1 ∧ (∃ b w, t = b :: w ∧ isDig b = true) ∧ ∀ c ∈ t, alnum c = true) ∨ (k = 0 ∧ n = 0 ∧ t.length ≤ 32 ∧ (∃ b w, t = b :: w ∧ isDig b = false) ∧ ∀ c ∈ t, alnum c = true) := by
 have ha := takeWhile_all alnum r
 unfold tokF at h
 split at h
 ·split at h
  ·cases h
  ·rename_i hs
   cases h
   exact .inl ⟨rfl, (signF_mem hs).1, rfl⟩
 ·rename_i b w hw
  rw [hw] at ha
  split at h
  ·rename_i hb
   obtain ⟨rfl, rfl⟩ := numF_ok h
   exact .inr (.inl ⟨rfl, ⟨b, w, rfl, hb⟩, ha⟩)
  ·rename_i hb
   split at h
   ·rename_i hl
    cases h
    exact .inr (.inr ⟨rfl, rfl, hl, ⟨b, w, rfl, by simpa using hb⟩, ha⟩)
   ·cases h
theorem sign_not {t : List UInt8} (h : t ∈ signsL) (ha : ∀ c ∈ t, alnum c = true) : False := by
 obtain ⟨h1, -, h3, -⟩ := signs_len t h
 obtain ⟨c, hc⟩ : ∃ c, c ∈ t := by cases t with
  | nil => exact absurd h1 (by decide)
  | cons c t => exact ⟨c, List.mem_cons_self⟩
 have := h3 c hc
 rw [ha c hc] at this
 cases this
theorem good_sign {u : TokP} (h : GoodTok u) (hs : u.t ∈ signsL) : u.key = (2, u.t, 0) := by
 obtain ⟨-, -, r, hr⟩ := h
 unfold TokP.key
 rcases tokF_cases hr with ⟨h1, -, h3⟩ | ⟨-, -, h3⟩ | ⟨-, -, -, -, h3⟩
 ·rw [h1, h3]
 ·exact (sign_not hs h3).elim
 ·exact (sign_not hs h3).elim
class LexT (L : List TokP) : Prop where
 h : ∀ i, (tk L i).key = (3, [], 0) ∨ GoodTok (tk L i)
theorem lexT_of {s : List UInt8} {l c : Nat} {L : List TokP} (h : lexF s l c = .ok L) : LexT L := ⟨fun i => by
 obtain ⟨us, l', c', rfl, hg⟩ := lexF_good h
 unfold tk
 rw [List.getD_eq_getElem?_getD]
 by_cases hi : i < us.length
 ·right
  rw [List.getElem?_append_left hi, List.getElem?_eq_getElem hi]
  exact hg us[i] (List.getElem_mem hi)
 ·left
  rw [List.getElem?_append_right (by omega)]
  cases i - us.length with
  | zero => rfl
  | succ n => rfl⟩
section
variable {L : List TokP} [LexT L]
theorem isV_good {i : Nat} {t : List UInt8} (h : isV L i t = true) : GoodTok (tk L i) ∧ (tk L i).t = t := by
 unfold isV at h
 simp only [Bool.and_eq_true, Bool.not_eq_true', decide_eq_false_iff_not, decide_eq_true_eq] at h
 refine ⟨(LexT.h (L := L) i).elim (fun e => absurd (congrArg Prod.fst e) h.1) id, h.2⟩
theorem isV_sign {i : Nat} {t : List UInt8} (h : isV L i t = true) (ht : t ∈ signsL) : (tk L i).key = (2, t, 0) := by
 obtain ⟨h1, h2⟩ := isV_good h
 rw [good_sign h1 (by rw [h2]; exact ht), h2]
theorem named_key {i : Nat} (h : namedV L i = true) : (tk L i).key = (0, (tk L i).t, 0) ∧ keyV (tk L i).t = false ∧ ∃ r, tokF r = .ok 0 (tk L i).t 0 := by
 unfold namedV at h
 simp only [Bool.and_eq_true, Bool.not_eq_true', decide_eq_true_eq] at h
 rcases LexT.h (L := L) i with e | ⟨-, -, r, hr⟩
 ·have := congrArg Prod.fst e
  exact absurd (this.symm.trans h.1) (by decide)
 ·rw [h.1] at hr
  rcases tokF_cases hr with ⟨h1, -⟩ | ⟨h1, -⟩ | ⟨-, h2, -⟩
  ·cases h1
  ·cases h1
  ·rw [h2] at hr
   exact ⟨by unfold TokP.key; rw [h.1, h2], h.2, r, hr⟩
theorem num_key {i : Nat} (h : (tk L i).k = 1) : (tk L i).key = (1, (tk L i).t, (tk L i).n) ∧ ∃ r, tokF r = .ok 1 (tk L i).t (tk L i).n := by
 rcases LexT.h (L := L) i with e | ⟨-, -, r, hr⟩
 ·have := congrArg Prod.fst e
  exact absurd (this.symm.trans h) (by decide)
 ·rw [h] at hr
  exact ⟨by unfold TokP.key; rw [h], r, hr⟩
theorem op_key {i lv : Nat} (h : opAt L lv i = true) : (tk L i).key = (2, (tk L i).t, 0) ∧ levelV (tk L i).t = lv ∧ (tk L i).t ∈ signsL := by
 unfold opAt at h
 simp only [Bool.and_eq_true, decide_eq_true_eq] at h
 rcases LexT.h (L := L) i with e | hg
 ·have := congrArg Prod.fst e
  exact absurd (this.symm.trans h.1) (by decide)
 ·obtain ⟨-, -, r, hr⟩ := id hg
  rw [h.1] at hr
  rcases tokF_cases hr with ⟨-, h1, -⟩ | ⟨h1, -⟩ | ⟨h1, -⟩
  ·exact ⟨good_sign hg h1, h.2, h1⟩
  ·cases h1
  ·cases h1
end
theorem level_le (w : List UInt8) : levelV w ≤ 8 := by
 unfold levelV
 generalize h : levelsL.find? _ = o
 cases o with
 | none => exact Nat.zero_le 8
 | some p =>
  have hm := List.mem_of_find?_eq_some h
  have : ∀ p ∈ levelsL, p.2 ≤ 8 := by decide +kernel
  exact this p hm
inductive CE where
 | num (t : List UInt8) (n : Nat)
 | name (w : List UInt8)
 | not (a : CE)
 | par (a : CE)
 | bin (op : List UInt8) (a b : CE)
def CE.toks : CE → List Ky
 | .num t n => [(1, t, n)]
 | .name w => [(0, w, 0)]
 | .not a => (2, t_bang, 0) :: a.toks
 | .par a => (2, t_lpar, 0) :: (a.toks ++ [(2, t_rpar, 0)])
 | .bin op a b => a.toks ++ (2, op, 0) :: b.toks
def CE.sz : CE → Nat
 | .num _ _ => 1
 | .name _ => 1
 | .not a => a.sz + 1
 | .par a => a.sz
 | .bin _ a b => a.sz + b.sz + 1
def CE.dp : CE → Nat
 | .num _ _ => 0
 | .name _ => 0
 | .not a => a.dp + 1
 | .par a => a.dp + 1
 | .bin _ a b => max a.dp b.dp
def CE.lv : CE → Nat
 | .bin op _ _ => levelV op
 | _ => 9
def CE.ok : CE → Prop
 | .num t n => ∃ r, tokF r = .ok 1 t n
 | .name w => keyV w = false ∧ ∃ r, tokF r = .ok 0 w 0
 | .not a => a.ok ∧ a.lv = 9
 | .par a => a.ok
 | .bin op a b => a.ok ∧ b.ok ∧ levelV op ≠ 0 ∧ op ∈ signsL ∧ levelV op ≤ a.lv ∧ levelV op < b.lv
def CE.ix (c : CE) (o : Nat) : Int := ((o + c.sz - 1 : Nat) : Int)
def CE.flat : CE → Nat → List EX
 | .num _ n, _ => [⟨0, [], n, [], []⟩]
 | .name w, _ => [⟨1, [], 0, w, []⟩]
 | .not a, o => a.flat o ++ [⟨2, [], 0, [], [a.ix o]⟩]
 | .par a, o => a.flat o
 | .bin op a b, o => a.flat o ++ b.flat (o + a.sz) ++ [⟨3, op, 0, [], [a.ix o, b.ix (o + a.sz)]⟩]
theorem CE.sz_pos : ∀ c : CE, 0 < c.sz
 | .num _ _ => Nat.one_pos
 | .name _ => Nat.one_pos
 | .not a => Nat.succ_pos _
 | .par a => a.sz_pos
 | .bin _ a b => Nat.succ_pos _
theorem CE.flat_len : ∀ (c : CE) (o : Nat), (c.flat o).length = c.sz
 | .num _ _, _ => rfl
 | .name _, _ => rfl
 | .not a, o => by simp [CE.flat, CE.sz, a.flat_len]
 | .par a, o => a.flat_len o
 | .bin _ a b, o => by simp [CE.flat, CE.sz, a.flat_len, b.flat_len]; omega
theorem CE.lv_le (c : CE) : c.lv ≤ 9 := by
 cases c <;> first | exact Nat.le_refl 9 | exact Nat.le_succ_of_le (level_le _)
theorem CE.lv_pos {c : CE} (hok : c.ok) : 0 < c.lv := by
 cases c with
 | bin op a b => exact Nat.pos_of_ne_zero hok.2.2.1
 | _ => exact Nat.succ_pos 8
theorem CE.toks_pos : ∀ c : CE, 0 < c.toks.length
 | .num _ _ => Nat.one_pos
 | .name _ => Nat.one_pos
 | .not a => Nat.succ_pos _
 | .par a => Nat.succ_pos _
 | .bin op a b => by simp only [CE.toks, List.length_append, List.length_cons]; omega
def CE.put (c : CE) (s : PS) : PS := ⟨s.i + c.toks.length, s.xs ++ c.flat s.xs.length, s.ts⟩
theorem CE.begins {L : List TokP} : ∀ (c : CE) {i : Nat}, c.ok → AtK L i c.toks → beginsV L i = true
 | .num t n, i, h, ha => by
  have := tk_kind ha.1
  unfold beginsV
  rw [this]
  simp
 | .name w, i, h, ha => by
  have := namedV_key ha.1
  unfold beginsV
  rw [this]
  dsimp only
  rw [h.1]
  simp
 | .not a, i, h, ha => by
  have := isV_key ha.1 t_bang
  unfold beginsV
  rw [this]
  rfl
 | .par a, i, h, ha => by
  have := isV_key ha.1 t_lpar
  unfold beginsV
  rw [this]
  show (_ || (true || _)) = true
  simp
 | .bin op a b, i, h, ha => a.begins h.1 (atK_app.1 ha).1
def Rd (m : Nat) (c : CE) (x : PM Int) (s : PS) : Prop := (c.dp ≤ m ∧ x s = .ok (c.ix s.xs.length) (c.put s)) ∨ (m < c.dp ∧ ∃ i, x s = .err i 8)
def Stop (L : List TokP) (i lv : Nat) : Prop := ∀ l, lv ≤ l → opAt L l i = false
theorem lineN_eq {L : List TokP} (lv : Nat) (x : PM Int) (n : Nat) (left : Int) (s : PS) : lineN L lv x (n + 1) left s = if opAt L lv s.i = true then (stepM >>= fun _ => x >>= fun right => putM ⟨3, (tk L s.i).t, 0, [], [left, right]⟩ >>= fun k => lineN L lv x n k) s else .ok left s := rfl
theorem line_stop {L : List TokP} {lv : Nat} {x : PM Int} (n : Nat) (left : Int) {s : PS} (h : opAt L lv s.i = false) : lineN L lv x n left s = .ok left s := by
 cases n with
 | zero => rfl
 | succ n => rw [lineN_eq, h]; rfl
theorem tk_out {L : List TokP} {i : Nat} (h : L.length ≤ i) : tk L i = ⟨3, [], 0, 0, 0⟩ := by
 unfold tk; rw [List.getD_eq_getElem?_getD, List.getElem?_eq_none h]; rfl
theorem op_in {L : List TokP} {i lv : Nat} (h : opAt L lv i = true) : i < L.length := by
 by_cases hi : i < L.length
 ·exact hi
 ·unfold opAt at h
  rw [tk_out (by omega)] at h
  cases h
section
variable {L : List TokP}
theorem pstep_ok {α : Type} {f : Unit → PM α} {s : PS} : (stepM >>= f) s = f () { s with i := s.i + 1 } := rfl
theorem take_ok {α : Type} {t : List UInt8} {f : Unit → PM α} {s : PS} (h : isV L s.i t = true) : (takeM L t >>= f) s = f () { s with i := s.i + 1 } := and_ok (by unfold takeM; rw [if_pos h]; rfl)
theorem take_no {α : Type} {t : List UInt8} {f : Unit → PM α} {s : PS} (h : isV L s.i t = false) : (takeM L t >>= f) s = .err s.i 4 := and_err (by unfold takeM; rw [if_neg (by rw [h]; decide)]; rfl)
theorem take_inv {α : Type} {t : List UInt8} {f : Unit → PM α} {s s' : PS} {v : α} (h : (takeM L t >>= f) s = .ok v s') : isV L s.i t = true ∧ f () { s with i := s.i + 1 } = .ok v s' := by
 cases h1 : isV L s.i t with
 | true => rw [take_ok h1] at h; exact ⟨rfl, h⟩
 | false => rw [take_no h1] at h; cases h
theorem name_ok {α : Type} {w : List UInt8} {n : Nat} {f : List UInt8 → PM α} {s : PS} (h : (tk L s.i).key = (0, w, n)) (hk : keyV w = false) : (nameM L >>= f) s = f w { s with i := s.i + 1 } := and_ok (by
 unfold nameM
 rw [namedV_key h, tk_text h, hk]
 rfl)
theorem number_ok {α : Type} {w : List UInt8} {n : Nat} {f : Nat → PM α} {s : PS} (h : (tk L s.i).key = (1, w, n)) : (numberM L >>= f) s = f n { s with i := s.i + 1 } := and_ok (by
 unfold numberM
 rw [tk_kind h, tk_num h]
 rfl)
theorem name_inv {α : Type} [LexT L] {f : List UInt8 → PM α} {s s' : PS} {v : α} (h : (nameM L >>= f) s = .ok v s') : ∃ w, (tk L s.i).key = (0, w, 0) ∧ keyV w = false ∧ (∃ r, tokF r = .ok 0 w 0) ∧ f w { s with i := s.i + 1 } = .ok v s' := by
 obtain ⟨w, s1, h1, h2⟩ := mo_inv h
 unfold nameM at h1
 split at h1
 ·rename_i hn
  obtain ⟨a, b, c⟩ := named_key hn
  cases h1
  exact ⟨_, a, b, c, h2⟩
 ·cases h1
theorem number_inv {α : Type} [LexT L] {f : Nat → PM α} {s s' : PS} {v : α} (h : (numberM L >>= f) s = .ok v s') : ∃ w n, (tk L s.i).key = (1, w, n) ∧ (∃ r, tokF r = .ok 1 w n) ∧ f n { s with i := s.i + 1 } = .ok v s' := by
 obtain ⟨w, s1, h1, h2⟩ := mo_inv h
 unfold numberM at h1
 split at h1
 ·rename_i hn
  obtain ⟨a, b⟩ := num_key hn
  cases h1
  exact ⟨_, _, a, b, h2⟩
 ·cases h1
theorem enter_ok {α : Type} {m : Nat} {p : Nat → Bool} {f : Unit → PM α} {s : PS} (h : p s.i = true) : ((fun s => enterM (m + 1) (p s.i) s) >>= f) s = f () s := and_ok (by
 show enterM (m + 1) (p s.i) s = _
 rw [h]; rfl)
theorem enter_err {α : Type} {p : Nat → Bool} {f : Unit → PM α} {s : PS} (h : p s.i = true) : ((fun s => enterM 0 (p s.i) s) >>= f) s = .err s.i 8 := and_err (by
 show enterM 0 (p s.i) s = _
 rw [h]; rfl)
theorem enter_inv {α : Type} {m : Nat} {p : Nat → Bool} {f : Unit → PM α} {s s' : PS} {v : α} (h : ((fun s => enterM m (p s.i) s) >>= f) s = .ok v s') : ∃ m', m = m' + 1 ∧ p s.i = true ∧ f () s = .ok v s' := by
 obtain ⟨u, s1, h1, h2⟩ := mo_inv h
 have h1 : enterM m (p s.i) s = .ok u s1 := h1
 unfold enterM at h1
 split at h1
 ·cases h1
 ·rename_i hp
  split at h1
  ·cases h1
  ·rename_i hm
   cases h1
   exact ⟨m - 1, by omega, by simpa using hp, h2⟩
def unP (L : List TokP) : Nat → PM Int
 | 0 => failM 8
 | m + 1 => unM L m
def exPm (L : List TokP) : Nat → PM Int
 | 0 => failM 8
 | m + 1 => lineJ L (unM L m) 8
theorem unM_eq (m : Nat) : unM L m = unF L m (unP L m) (exPm L m) := by cases m <;> rfl
theorem isV_head {i : Nat} {k n : Nat} {b c : UInt8} {w : List UInt8} (h : (tk L i).key = (k, b :: w, n)) (hc : b ≠ c) : isV L i [c] = false := by
 rw [isV_key h]
 have : ¬ (b :: w = [c]) := fun e => hc (by cases e; rfl)
 dsimp only
 rw [decide_eq_false this, Bool.and_false]
theorem rd_num {m : Nat} {t : List UInt8} {n : Nat} {s : PS} (hok : (CE.num t n).ok) (ha : AtK L s.i (CE.num t n).toks) : Rd m (.num t n) (unM L m) s := by
 have h1 := ha.1
 obtain ⟨r, hr⟩ := hok
 rcases tokF_cases hr with ⟨h, -⟩ | ⟨-, ⟨b, w, rfl, hb⟩, -⟩ | ⟨h, -⟩
 ·cases h
 ·have e0 : isV L s.i t_bang = false := isV_head h1 (by rintro rfl; exact absurd hb (by decide))
  have e1 : isV L s.i t_lpar = false := isV_head h1 (by rintro rfl; exact absurd hb (by decide))
  have e2 : namedV L s.i = false := by rw [namedV_key h1]; rfl
  refine .inl ⟨Nat.zero_le _, ?_⟩
  rw [unM_eq]
  unfold unF
  rw [atN e0, atN e1, atN e2, number_ok h1]
  unfold CE.put CE.ix
  simp [putM, CE.sz, CE.toks, CE.flat]
 ·cases h
theorem rd_name {m : Nat} {w : List UInt8} {s : PS} (hok : (CE.name w).ok) (ha : AtK L s.i (CE.name w).toks) : Rd m (.name w) (unM L m) s := by
 have h1 := ha.1
 obtain ⟨hk, r, hr⟩ := hok
 rcases tokF_cases hr with ⟨h, -⟩ | ⟨h, -⟩ | ⟨-, -, -, ⟨b, x, rfl, hb⟩, hal⟩
 ·cases h
 ·cases h
 ·have hbl := hal b List.mem_cons_self
  have e0 : isV L s.i t_bang = false := isV_head h1 (by rintro rfl; exact absurd hbl (by decide))
  have e1 : isV L s.i t_lpar = false := isV_head h1 (by rintro rfl; exact absurd hbl (by decide))
  have e2 : namedV L s.i = true := by rw [namedV_key h1, hk]; rfl
  refine .inl ⟨Nat.zero_le _, ?_⟩
  rw [unM_eq]
  unfold unF
  rw [atN e0, atN e1, atY e2, name_ok h1 hk]
  unfold CE.put CE.ix
  simp [putM, CE.sz, CE.toks, CE.flat]
theorem rd_not {m : Nat} {a : CE} {s : PS} (hok : a.ok) (ha : AtK L s.i (CE.not a).toks) (ih : ∀ m', Rd m' a (unM L m') { s with i := s.i + 1 }) : Rd m (.not a) (unM L m) s := by
 have e1 : isV L s.i t_bang = true := by rw [isV_key ha.1]; rfl
 have hb := a.begins hok ha.2
 rw [unM_eq]
 unfold unF Rd
 rw [atY e1, pstep_ok]
 cases m with
 | zero =>
  exact .inr ⟨Nat.succ_pos _, s.i + 1, enter_err (p := beginsV L) hb⟩
 | succ m =>
  rw [enter_ok (p := beginsV L) hb]
  rcases ih m with ⟨h1, h2⟩ | ⟨h1, i, h2⟩
  ·refine .inl ⟨Nat.succ_le_succ h1, ?_⟩
   show (unM L m >>= _) _ = _
   rw [and_ok h2]
   have hz := a.sz_pos
   unfold CE.put CE.ix
   simp only [putM, CE.toks, CE.flat, CE.sz, List.length_cons, List.length_append, CE.flat_len, List.append_assoc, CE.ix]
   congr 2
   omega
  ·refine .inr ⟨Nat.succ_lt_succ h1, i, ?_⟩
   exact and_err h2
theorem rd_par {m : Nat} {a : CE} {s : PS} (hok : a.ok) (ha : AtK L s.i (CE.par a).toks) (ih : ∀ m', Rd m' a (lineJ L (unM L m') 8) { s with i := s.i + 1 }) : Rd m (.par a) (unM L m) s := by
 have e0 : isV L s.i t_bang = false := by rw [isV_key ha.1]; decide
 have e1 : isV L s.i t_lpar = true := by rw [isV_key ha.1]; rfl
 obtain ⟨ha1, ha2⟩ := atK_app.1 ha.2
 have hb := a.begins hok ha1
 rw [unM_eq]
 unfold unF Rd
 rw [atN e0, atY e1, pstep_ok]
 cases m with
 | zero => exact .inr ⟨Nat.succ_pos _, s.i + 1, enter_err (p := beginsV L) hb⟩
 | succ m =>
  rw [enter_ok (p := beginsV L) hb]
  rcases ih m with ⟨h1, h2⟩ | ⟨h1, i, h2⟩
  ·refine .inl ⟨Nat.succ_le_succ h1, ?_⟩
   show (lineJ L (unM L m) 8 >>= _) _ = _
   rw [and_ok h2]
   have e2 : isV L (a.put { s with i := s.i + 1 }).i t_rpar = true := by
    show isV L (s.i + 1 + a.toks.length) t_rpar = true
    rw [isV_key ha2.1]; rfl
   rw [take_ok e2]
   show PR.ok _ _ = _
   unfold CE.put
   simp only [CE.toks, CE.flat, CE.ix, CE.sz, List.length_cons, List.length_append, List.length_nil]
   congr 2
   omega
  ·exact .inr ⟨Nat.succ_lt_succ h1, i, and_err h2⟩
def RdL (L : List TokP) (m : Nat) (c : CE) (j : Nat) (s : PS) : Prop := (c.dp ≤ m ∧ ∃ n, L.length + 1 ≤ (c.put s).i + n ∧ lineJ L (unM L m) (j + 1) s = lineN L (8 - j) (lineJ L (unM L m) j) n (c.ix s.xs.length) (c.put s)) ∨ (m < c.dp ∧ ∃ i, lineJ L (unM L m) (j + 1) s = .err i 8)
def ClA (L : List TokP) (c : CE) (j : Nat) : Prop := ∀ m, 9 ≤ c.lv + j → ∀ s, AtK L s.i c.toks → Stop L (s.i + c.toks.length) (9 - j) → Rd m c (lineJ L (unM L m) j) s
def ClB (L : List TokP) (c : CE) (j : Nat) : Prop := ∀ m, 8 ≤ c.lv + j → ∀ s, AtK L s.i c.toks → Stop L (s.i + c.toks.length) (9 - j) → RdL L m c j s
theorem clB_of {c : CE} {j : Nat} (hA : ClA L c j) : ∀ m, 9 ≤ c.lv + j → ∀ s, AtK L s.i c.toks → Stop L (s.i + c.toks.length) (9 - j) → RdL L m c j s := fun m hl s ha hs => by
 rcases hA m hl s ha hs with ⟨h1, h2⟩ | ⟨h1, i, h2⟩
 ·refine .inl ⟨h1, L.length - (c.put s).i + 1, by omega, ?_⟩
  rw [lineJ]
  exact and_ok h2
 ·refine .inr ⟨h1, i, ?_⟩
  rw [lineJ]
  exact and_err h2
theorem clA_succ {c : CE} {j : Nat} (hj : j < 8) (hB : ClB L c j) : ClA L c (j + 1) := fun m hl s ha hs => by
 rcases hB m (by omega) s ha (fun l hl => hs l (by omega)) with ⟨h1, n, -, h2⟩ | ⟨h1, i, h2⟩
 ·refine .inl ⟨h1, ?_⟩
  rw [h2]
  exact line_stop n _ (hs (8 - j) (by omega))
 ·exact .inr ⟨h1, i, h2⟩
theorem clB_bin {op : List UInt8} {a b : CE} {j : Nat} (hop : levelV op = 8 - j) (hla : levelV op ≤ a.lv) (hlb : levelV op < b.lv) (hj : j < 8) (hA : ClA L b j) (hB : ClB L a j) : ClB L (.bin op a b) j := fun m hl s ha hs => by
 obtain ⟨ha1, ha2⟩ := atK_app.1 ha
 have hk := ha2.1
 have hlen : (CE.bin op a b).toks.length = a.toks.length + (b.toks.length + 1) := by simp [CE.toks]
 have hst : Stop L (s.i + a.toks.length) (9 - j) := fun l hl => by
  rw [opAt_key hk]
  dsimp only
  rw [decide_eq_false (by omega : ¬ levelV op = l), Bool.and_false]
 rcases hB m (by omega) s ha1 hst with ⟨h1, n, hn, h2⟩ | ⟨h1, i, h2⟩
 ·have hop2 : opAt L (8 - j) (a.put s).i = true := by
   rw [show opAt L (8 - j) (a.put s).i = _ from opAt_key hk _, decide_eq_true hop]; rfl
  have hin := op_in hop2
  obtain ⟨n, rfl⟩ : ∃ n', n = n' + 1 := ⟨n - 1, by omega⟩
  have e1 : lineN L (8 - j) (lineJ L (unM L m) j) (n + 1) (a.ix s.xs.length) (a.put s) = (lineJ L (unM L m) j >>= fun right => putM ⟨3, op, 0, [], [a.ix s.xs.length, right]⟩ >>= fun k => lineN L (8 - j) (lineJ L (unM L m) j) n k) { a.put s with i := (a.put s).i + 1 } := by
   rw [lineN_eq, hop2, if_pos rfl, pstep_ok, show (tk L (a.put s).i).t = op from tk_text hk]
  have hb := hA m (by omega) { a.put s with i := (a.put s).i + 1 } ha2.2 (fun l hl => by
   have := hs l hl
   rw [hlen] at this
   show opAt L l (s.i + a.toks.length + 1 + b.toks.length) = false
   rw [show s.i + a.toks.length + 1 + b.toks.length = s.i + (a.toks.length + (b.toks.length + 1)) by omega]
   exact this)
  unfold RdL
  rw [h2, e1]
  rcases hb with ⟨g1, g2⟩ | ⟨g1, i, g2⟩
  ·refine .inl ⟨Nat.max_le.2 ⟨h1, g1⟩, n, ?_, ?_⟩
   ·have := b.toks_pos
    show _ ≤ s.i + (CE.bin op a b).toks.length + n
    have hn : L.length + 1 ≤ s.i + a.toks.length + (n + 1) := hn
    omega
   ·rw [and_ok g2]
    show lineN L (8 - j) _ n _ _ = _
    have hza := a.sz_pos
    have hzb := b.sz_pos
    congr 1
    ·unfold CE.put CE.ix
     simp only [CE.flat_len, List.length_append, CE.sz]
     congr 1
     omega
    ·unfold CE.put
     simp only [hlen, CE.flat, CE.flat_len, List.length_append, List.append_assoc]
     congr 1
     omega
  ·refine .inr ⟨Nat.lt_of_lt_of_le g1 (Nat.le_max_right _ _), i, and_err g2⟩
 ·refine .inr ⟨Nat.lt_of_lt_of_le h1 (Nat.le_max_left _ _), i, h2⟩
theorem cl_all : ∀ (c : CE), c.ok → ∀ j, j ≤ 8 → ClA L c j ∧ (j < 8 → ClB L c j) := by
 have un : ∀ c : CE, c.lv = 9 → (∀ m s, AtK L s.i c.toks → Rd m c (unM L m) s) → ∀ j, j ≤ 8 → ClA L c j ∧ (j < 8 → ClB L c j) := fun c hl h j => by
  induction j with
  | zero =>
   intro _
   have hA : ClA L c 0 := fun m _ s ha _ => h m s ha
   exact ⟨hA, fun _ m hm s ha hs => clB_of hA m (by omega) s ha hs⟩
  | succ j ih =>
   intro hj
   have hA : ClA L c (j + 1) := clA_succ (by omega) ((ih (by omega)).2 (by omega))
   exact ⟨hA, fun _ m hm s ha hs => clB_of hA m (by omega) s ha hs⟩
 intro c
 induction c with
 | num t n => exact fun hok => un _ rfl fun m s ha => rd_num hok ha
 | name w => exact fun hok => un _ rfl fun m s ha => rd_name hok ha
 | not a ih => exact fun hok => un _ rfl fun m s ha => rd_not hok.1 ha fun m' => ((ih hok.1 0 (by omega)).1 m' (by rw [hok.2]; omega) _ ha.2 (fun l hl => by
   cases ho : opAt L l (s.i + 1 + a.toks.length) with
   | false => rfl
   | true =>
    exfalso
    unfold opAt at ho
    simp only [Bool.and_eq_true, decide_eq_true_eq] at ho
    have := level_le (tk L (s.i + 1 + a.toks.length)).t
    omega))
 | par a ih =>
   intro hok
   refine un _ rfl fun m s ha => ?_
   have ha' := atK_app.1 ha.2
   refine rd_par hok ha fun m' => (ih hok 8 (by omega)).1 m' (by have := CE.lv_pos (c := a) hok; omega) _ ha'.1 (fun l hl => ?_)
   show opAt L l (s.i + 1 + a.toks.length) = false
   rw [opAt_key ha'.2.1]
   have hz : levelV t_rpar = 0 := by decide +kernel
   dsimp only
   rw [hz, decide_eq_false (by omega : ¬ 0 = l), Bool.and_false]
 | bin op a b iha ihb =>
  intro hok j
  obtain ⟨h1, h2, h3, -, h5, h6⟩ := hok
  have hlv : (CE.bin op a b).lv = levelV op := rfl
  have hle := level_le op
  have hB : ∀ j, j < 8 → (9 ≤ levelV op + j → ClA L (.bin op a b) j) → ClB L (.bin op a b) j := fun j hj hA m hm s ha hs => by
   by_cases hc : 9 ≤ levelV op + j
   ·exact clB_of (hA hc) m hc s ha hs
   ·rw [hlv] at hm
    exact clB_bin (by omega) h5 h6 hj (ihb h2 j (by omega)).1 ((iha h1 j (by omega)).2 hj) m (by rw [hlv]; exact hm) s ha hs
  induction j with
  | zero =>
   intro _
   exact ⟨fun m hm => by rw [hlv] at hm; omega, fun hj => hB 0 hj fun h => by omega⟩
  | succ j ih =>
   intro hj
   have hA : ClA L (.bin op a b) (j + 1) := clA_succ (by omega) ((ih (by omega)).2 (by omega))
   exact ⟨hA, fun hj' => hB _ hj' fun _ => hA⟩
theorem rd_expr {c : CE} (hok : c.ok) (m : Nat) {s : PS} (ha : AtK L s.i c.toks) (hs : Stop L (s.i + c.toks.length) 1) (hl : 0 < c.lv) : Rd m c (exprM L m) s :=
 (cl_all c hok 8 (by omega)).1 m (by omega) s ha (fun l h => hs l (by omega))
def Sd (L : List TokP) (m lv : Nat) (x : PM Int) : Prop := ∀ s v s', x s = .ok v s' → ∃ c : CE, c.ok ∧ lv ≤ c.lv ∧ c.dp ≤ m ∧ AtK L s.i c.toks ∧ v = c.ix s.xs.length ∧ s' = c.put s
variable [LexT L]
theorem sd_un {m : Nat} {un ex : PM Int} (h1 : ∀ m', m = m' + 1 → Sd L m' 9 un) (h2 : ∀ m', m = m' + 1 → Sd L m' 0 ex) : Sd L m 9 (unF L m un ex) := fun s v s' h => by
 unfold unF at h
 cases e0 : isV L s.i t_bang with
 | true =>
  rw [atY (p := (isV L · t_bang)) e0, pstep_ok] at h
  obtain ⟨m', hm, hb, h⟩ := enter_inv (p := beginsV L) h
  obtain ⟨u, s1, g1, g2⟩ := mo_inv h
  obtain ⟨c, a1, a2, a3, a4, rfl, rfl⟩ := h1 m' hm _ _ _ g1
  cases g2
  have hl : c.lv = 9 := by have := c.lv_le; omega
  refine ⟨.not c, ⟨a1, hl⟩, Nat.le_refl _, by show c.dp + 1 ≤ m; omega, ⟨isV_sign e0 (by decide), a4⟩, ?_, ?_⟩
  ·unfold CE.put CE.ix
   simp only [List.length_append, CE.flat_len, CE.sz]
   have := c.sz_pos
   omega
  ·unfold CE.put
   simp only [CE.toks, CE.flat, List.length_cons, List.append_assoc, CE.flat_len]
   congr 1
   omega
 | false =>
  rw [atN (p := (isV L · t_bang)) e0] at h
  cases e1 : isV L s.i t_lpar with
  | true =>
   rw [atY (p := (isV L · t_lpar)) e1, pstep_ok] at h
   obtain ⟨m', hm, hb, h⟩ := enter_inv (p := beginsV L) h
   obtain ⟨u, s1, g1, g2⟩ := mo_inv h
   obtain ⟨c, a1, a2, a3, a4, rfl, rfl⟩ := h2 m' hm _ _ _ g1
   obtain ⟨g3, g4⟩ := take_inv g2
   cases g4
   refine ⟨.par c, a1, Nat.le_refl _, by show c.dp + 1 ≤ m; omega, ⟨isV_sign e1 (by decide), atK_app.2 ⟨a4, isV_sign g3 (by decide), trivial⟩⟩, rfl, ?_⟩
   unfold CE.put
   simp only [CE.toks, CE.flat, List.length_cons, List.length_append, List.length_nil]
   congr 1
   omega
  | false =>
   rw [atN (p := (isV L · t_lpar)) e1] at h
   cases e2 : namedV L s.i with
   | true =>
    rw [atY (p := (namedV L ·)) e2] at h
    obtain ⟨w, b1, b2, b3, b4⟩ := name_inv h
    cases b4
    refine ⟨.name w, ⟨b2, b3⟩, Nat.le_refl _, Nat.zero_le _, ⟨b1, trivial⟩, ?_, rfl⟩
    unfold CE.ix
    simp [CE.sz]
   | false =>
    rw [atN (p := (namedV L ·)) e2] at h
    obtain ⟨w, n, b1, b2, b3⟩ := number_inv h
    cases b3
    refine ⟨.num w n, b2, Nat.le_refl _, Nat.zero_le _, ⟨b1, trivial⟩, ?_, rfl⟩
    unfold CE.ix
    simp [CE.sz]
theorem sd_line {m j : Nat} {x : PM Int} (hj : j < 8) (hx : Sd L m (9 - j) x) : ∀ n (c0 : CE) (s0 s : PS) (left v : Int) (s' : PS), c0.ok → 8 - j ≤ c0.lv → c0.dp ≤ m → AtK L s0.i c0.toks → left = c0.ix s0.xs.length → s = c0.put s0 → lineN L (8 - j) x n left s = .ok v s' →
  ∃ c : CE, c.ok ∧ 8 - j ≤ c.lv ∧ c.dp ≤ m ∧ AtK L s0.i c.toks ∧ v = c.ix s0.xs.length ∧ s' = c.put s0
 | 0, c0, s0, s, left, v, s', a1, a2, a3, a4, a5, a6, h => by
  cases h
  exact ⟨c0, a1, a2, a3, a4, a5, a6⟩
 | n + 1, c0, s0, s, left, v, s', a1, a2, a3, a4, a5, a6, h => by
  rw [lineN_eq] at h
  cases ho : opAt L (8 - j) s.i with
  | false =>
   rw [ho] at h
   cases h
   exact ⟨c0, a1, a2, a3, a4, a5, a6⟩
  | true =>
   rw [ho, if_pos rfl, pstep_ok] at h
   obtain ⟨r, s1, g1, g2⟩ := mo_inv h
   obtain ⟨b, b1, b2, b3, b4, rfl, rfl⟩ := hx _ _ _ g1
   obtain ⟨k1, k2, k3⟩ := op_key ho
   generalize (tk L s.i).t = op at *
   subst a5 a6
   have hlen : (CE.bin op c0 b).toks.length = c0.toks.length + (b.toks.length + 1) := by simp [CE.toks]
   refine sd_line hj hx n (.bin op c0 b) s0 _ _ _ _ ⟨a1, b1, by omega, k3, by omega, by omega⟩ (by show 8 - j ≤ levelV op; omega) (Nat.max_le.2 ⟨a3, b3⟩) (atK_app.2 ⟨a4, k1, b4⟩) rfl rfl ?_
   rw [← g2]
   show lineN L (8 - j) x n _ _ = lineN L (8 - j) x n _ _
   have hza := c0.sz_pos
   have hzb := b.sz_pos
   congr 1
   ·unfold CE.put CE.ix
    simp only [CE.flat_len, List.length_append, CE.sz]
    congr 1
    omega
   ·unfold CE.put
    simp only [hlen, CE.flat, CE.flat_len, List.length_append, List.append_assoc]
    congr 1
    omega
theorem sd_lineJ {m : Nat} (h : Sd L m 9 (unM L m)) : ∀ j, j ≤ 8 → Sd L m (9 - j) (lineJ L (unM L m) j)
 | 0, _ => h
 | j + 1, hj => fun s v s' he => by
  rw [lineJ] at he
  obtain ⟨u, s1, g1, g2⟩ := mo_inv he
  obtain ⟨c, a1, a2, a3, a4, a5, a6⟩ := sd_lineJ h j (by omega) _ _ _ g1
  obtain ⟨c', b1, b2, b3, b4, b5, b6⟩ := sd_line (by omega) (sd_lineJ h j (by omega)) _ c s s1 u v s' a1 (by omega) a3 a4 a5 a6 g2
  exact ⟨c', b1, by omega, b3, b4, b5, b6⟩
theorem sd_unM : ∀ m, Sd L m 9 (unM L m)
 | 0 => sd_un (fun _ h => by omega) (fun _ h => by omega)
 | m + 1 => sd_un (fun m' h => by cases h; exact sd_unM m) (fun m' h => by
   cases h
   intro s v s' he
   obtain ⟨c, b1, b2, b3⟩ := sd_lineJ (sd_unM m) 8 (by omega) s v s' he
   exact ⟨c, b1, Nat.zero_le _, b3⟩)
theorem sd_expr (m : Nat) : Sd L m 1 (exprM L m) := sd_lineJ (sd_unM m) 8 (by omega)
end
end Go.Proofs.YtoingpafcodojaaGreatDoor

namespace Go.Proofs.YtoingpafcodojaaGreatDoor

end Go.Proofs.YtoingpafcodojaaGreatDoor

namespace Go.Proofs.YtoingpafcodojaaGreatDoor

def LR.keys : LR → Option (List Ky)
 | .ok L => some (L.map TokP.key)
 | .err _ _ _ => none
theorem LR.keys_pre (x : LR) (o : List TokP) : (x.pre o).keys = x.keys.map (o.map TokP.key ++ ·) := by
 cases x <;> simp [LR.pre, LR.keys]
theorem stp_pl (r : List UInt8) (l c l' c' : Nat) : (stp r l c = .done ∧ stp r l' c' = .done) ∨ (∃ r' a b a' b', stp r l c = .go r' a b ∧ stp r l' c' = .go r' a' b') ∨ (∃ k t n, stp r l c = .tok k t n ∧ stp r l' c' = .tok k t n) ∨ (∃ e, stp r l c = .err e ∧ stp r l' c' = .err e) := by
 unfold stp
 split
 ·exact .inl ⟨rfl, rfl⟩
 ·rename_i b x
  by_cases h1 : b = 10
  ·rw [if_pos h1, if_pos h1]; exact .inr (.inl ⟨_, _, _, _, _, rfl, rfl⟩)
  rw [if_neg h1, if_neg h1]
  by_cases h2 : b = 32 ∨ b = 9 ∨ b = 13
  ·rw [if_pos h2, if_pos h2]; exact .inr (.inl ⟨_, _, _, _, _, rfl, rfl⟩)
  rw [if_neg h2, if_neg h2]
  by_cases h3 : isCom (b :: x) = true
  ·rw [if_pos h3, if_pos h3]; exact .inr (.inl ⟨_, _, _, _, _, rfl, rfl⟩)
  rw [if_neg h3, if_neg h3]
  cases tokF (b :: x) with
  | ok k t n => exact .inr (.inr (.inl ⟨k, t, n, rfl, rfl⟩))
  | err e => exact .inr (.inr (.inr ⟨e, rfl, rfl⟩))
theorem lexF_keys : ∀ (n : Nat) (r : List UInt8) (l c l' c' : Nat), r.length < n → (lexF r l c).keys = (lexF r l' c').keys := by
 intro n
 induction n with
 | zero => intro r l c l' c' h; omega
 | succ n ih =>
  intro r l c l' c' h
  rw [lexF_eq r l c, lexF_eq r l' c']
  rcases stp_pl r l c l' c' with ⟨h1, h2⟩ | ⟨r', a, b, a', b', h1, h2⟩ | ⟨k, t, v, h1, h2⟩ | ⟨e, h1, h2⟩ <;> rw [h1, h2] <;> dsimp only
  ·rfl
  ·exact ih r' _ _ _ _ (by have := stp_go h1; omega)
  ·obtain ⟨⟨X, rfl⟩, h3, -⟩ := tokF_ok (stp_tok h1)
   have h4 : 0 < t.length := List.length_pos_iff.2 h3
   rw [LR.keys_pre, LR.keys_pre, List.drop_left, ih X _ (c + t.length) l' (c' + t.length) (by rw [List.length_append] at h; omega)]
   rfl
  ·rfl
def lexK (r : List UInt8) : Option (List Ky) := (lexF r 1 1).keys
theorem lexK_of (r : List UInt8) (l c : Nat) : (lexF r l c).keys = lexK r := lexF_keys _ r _ _ _ _ (Nat.lt_succ_self _)
theorem lexK_nil : lexK [] = some [(3, [], 0)] := rfl
theorem lexK_blank {b : UInt8} (r : List UInt8) (hb : blank b = true) : lexK (b :: r) = lexK r := by
 have := lexF_blank [b] r (1, 1) (fun c hc => by rw [List.mem_singleton.1 hc]; exact hb)
 show (lexF (b :: r) 1 1).keys = _
 rw [show lexF (b :: r) 1 1 = _ from this]
 exact lexK_of _ _ _
theorem lexK_com {r : List UInt8} (h : isCom r = true) : lexK r = lexK (r.dropWhile notNl) := by
 show (lexF r 1 1).keys = _
 rw [show lexF r 1 1 = _ from lexF_com (1, 1) h]
 exact lexK_of _ _ _
theorem lexK_tok {r : List UInt8} (hr : r ≠ []) (hb : ∀ b, r[0]? = some b → blank b = false) (hc : isCom r = false) : lexK r = match tokF r with
  | .ok k t v => (lexK (r.drop t.length)).map ((k, t, v) :: ·)
  | .err _ => none := by
 unfold lexK
 rw [lexF_tok 1 1 hr hb hc]
 cases tokF r with
 | ok k t v =>
  dsimp only
  rw [LR.keys_pre, lexK_of]
  rfl
 | err e => rfl
theorem blank_cases {b : UInt8} (h : blank b = true) : b = 32 ∨ b = 9 ∨ b = 10 ∨ b = 13 := by
 unfold blank at h
 simpa using h
theorem tokF_nb {r t : List UInt8} {k n : Nat} (h : tokF r = .ok k t n) : r ≠ [] ∧ ∀ b, r[0]? = some b → blank b = false := by
 obtain ⟨⟨X, hX⟩, h2, -⟩ := tokF_ok h
 have key : ∀ c w, t = c :: w → blank c = false := fun c w e => by
  rcases hb : blank c with _ | _
  ·rfl
  ·have hc := blank_cases hb
   exfalso
   rcases tokF_cases h with ⟨-, h3, -⟩ | ⟨-, -, h3⟩ | ⟨-, -, -, -, h3⟩
   ·have : ∀ p ∈ signsL, ∀ c w, p = c :: w → c ≠ 32 ∧ c ≠ 9 ∧ c ≠ 10 ∧ c ≠ 13 := by
     intro p hp c w e
     have : signsL.all (fun p => match p with | [] => true | c :: _ => c != 32 && c != 9 && c != 10 && c != 13) = true := by decide +kernel
     have := List.all_eq_true.1 this p hp
     rw [e] at this
     simpa [and_assoc] using this
    obtain ⟨a1, a2, a3, a4⟩ := this t h3 c w e
    rcases hc with hc | hc | hc | hc <;> contradiction
   ·have := h3 c (by rw [e]; exact List.mem_cons_self)
    rcases hc with rfl | rfl | rfl | rfl <;> exact absurd this (by decide)
   ·have := h3 c (by rw [e]; exact List.mem_cons_self)
    rcases hc with rfl | rfl | rfl | rfl <;> exact absurd this (by decide)
 cases t with
 | nil => exact absurd rfl h2
 | cons c w => subst hX; exact ⟨by simp, fun b hb => by cases hb; exact key _ _ rfl⟩
theorem lexK_go {r t : List UInt8} {k n : Nat} (h : tokF r = .ok k t n) (hc : isCom r = false) : lexK r = (lexK (r.drop t.length)).map ((k, t, n) :: ·) := by
 obtain ⟨h1, h2⟩ := tokF_nb h
 rw [lexK_tok h1 h2 hc, h]
theorem lexK_cons {t X : List UInt8} {k n : Nat} (h : tokF (t ++ X) = .ok k t n) (hc : isCom (t ++ X) = false) : lexK (t ++ X) = (lexK X).map ((k, t, n) :: ·) := by
 rw [lexK_go h hc, List.drop_left]
def closer (b : UInt8) : Bool := !alnum b && (b != 47 && (!blank b && signsL.all fun p => p[1]? != some b))
theorem closer_alnum {b : UInt8} (h : closer b = true) : alnum b = false ∧ b ≠ 47 ∧ blank b = false ∧ ∀ p ∈ signsL, p[1]? ≠ some b := by
 unfold closer at h
 simp only [Bool.and_eq_true, Bool.not_eq_true', bne_iff_ne, ne_eq, List.all_eq_true] at h
 exact ⟨h.1, h.2.1, h.2.2.1, h.2.2.2⟩
theorem isPre_cl {b : UInt8} {p s Y : List UInt8} (hp : 0 < p.length) (hl : p.length ≤ 2) (h1 : p[1]? ≠ some b) (hs : s ≠ []) : p.isPrefixOf (s ++ b :: Y) = p.isPrefixOf s := by
 match p, s, hp, hl, hs with
 | [a], d :: s, _, _, _ => simp [List.isPrefixOf]
 | [a, a'], [d], _, _, _ => simp [List.isPrefixOf]; intro _ e; exact absurd (by rw [e]; rfl) h1
 | [a, a'], d :: d' :: s, _, _, _ => simp [List.isPrefixOf]
theorem tokF_cl {b : UInt8} (hb : closer b = true) {s Y : List UInt8} (hs : s ≠ []) : tokF (s ++ b :: Y) = tokF s := by
 obtain ⟨h1, -, -, h2⟩ := closer_alnum hb
 unfold tokF
 rw [takeWhile_end (fun c hc => by cases hc; exact h1), show signF (s ++ b :: Y) = signF s from find_congr fun p hp => isPre_cl (signs_len p hp).1 (signs_len p hp).2.1 (h2 p hp) hs]
theorem isCom_cl {b : UInt8} (hb : closer b = true) {s Y : List UInt8} (hs : s ≠ []) : isCom (s ++ b :: Y) = isCom s := by
 have h47 := (closer_alnum hb).2.1
 match s, hs with
 | [d], _ =>
  have : ((47 : UInt8) == b) = false := by
   rcases h : ((47 : UInt8) == b) with _ | _
   ·rfl
   ·exact absurd (eq_of_beq h).symm h47
  simp [isCom, List.isPrefixOf, this]
 | d :: d' :: s, _ => simp [isCom, List.isPrefixOf]
theorem omap_map {α β γ : Type} (o : Option α) (f : α → β) (g : β → γ) : (o.map f).map g = o.map fun x => g (f x) := by cases o <;> rfl
theorem lexK_cl : ∀ (n : Nat) (s : List UInt8), s.length < n → ∃ ks : List Ky,
  (∀ b Y, closer b = true → lexK (s ++ b :: Y) = (lexK (b :: Y)).map (ks ++ ·)) ∨
  (∀ b Y, closer b = true → lexK (s ++ b :: Y) = (lexK ((b :: Y).dropWhile notNl)).map (ks ++ ·)) ∨
  (∀ b Y, closer b = true → lexK (s ++ b :: Y) = none) := by
 intro n
 induction n with
 | zero => intro s h; omega
 | succ n ih =>
  intro s hlen
  have same : ∀ o : Option (List Ky), o.map ([] ++ ·) = o := fun o => by cases o <;> rfl
  rcases s with _ | ⟨d, x⟩
  ·exact ⟨[], .inl fun b Y hb => (same _).symm⟩
  by_cases hbl : blank d = true
  ·obtain ⟨ks, h⟩ := ih x (by simp at hlen; omega)
   refine ⟨ks, ?_⟩
   have e : ∀ b Y, lexK (d :: x ++ b :: Y) = lexK (x ++ b :: Y) := fun b Y => lexK_blank _ hbl
   rcases h with h | h | h
   ·exact .inl fun b Y hb => (e b Y).trans (h b Y hb)
   ·exact .inr (.inl fun b Y hb => (e b Y).trans (h b Y hb))
   ·exact .inr (.inr fun b Y hb => (e b Y).trans (h b Y hb))
  rcases hc : isCom (d :: x) with _ | _
  ·have hnb : ∀ b, (d :: x)[0]? = some b → blank b = false := fun b hb => by cases hb; simpa using hbl
   have e : ∀ b Y, closer b = true → lexK (d :: x ++ b :: Y) = match tokF (d :: x) with
     | .ok k t v => (lexK ((d :: x ++ b :: Y).drop t.length)).map ((k, t, v) :: ·)
     | .err _ => none := fun b Y hb => by
    rw [lexK_tok (by simp) (fun c hc' => hnb c (by simpa using hc')) (by rw [isCom_cl hb (by simp)]; exact hc), tokF_cl hb (by simp)]
   rcases ht : tokF (d :: x) with ⟨k, w, v⟩ | er
   ·obtain ⟨⟨X, hX⟩, hw, -⟩ := tokF_ok ht
    have hw0 : 0 < w.length := List.length_pos_iff.2 hw
    obtain ⟨ks, h⟩ := ih X (by rw [hX, List.length_append] at hlen; omega)
    have e2 : ∀ b Y, closer b = true → lexK (d :: x ++ b :: Y) = (lexK (X ++ b :: Y)).map ((k, w, v) :: ·) := fun b Y hb => by
     rw [e b Y hb, ht]
     dsimp only
     rw [hX, List.append_assoc, List.drop_left]
    refine ⟨(k, w, v) :: ks, ?_⟩
    rcases h with h | h | h
    ·exact .inl fun b Y hb => by rw [e2 b Y hb, h b Y hb, omap_map]; rfl
    ·exact .inr (.inl fun b Y hb => by rw [e2 b Y hb, h b Y hb, omap_map]; rfl)
    ·exact .inr (.inr fun b Y hb => by rw [e2 b Y hb, h b Y hb]; rfl)
   ·exact ⟨[], .inr (.inr fun b Y hb => by rw [e b Y hb, ht])⟩
  ·obtain ⟨X, hX, hX0⟩ := takeWhile_split notNl (d :: x)
   have htw := takeWhile_all notNl (d :: x)
   have hcY : ∀ b Y, closer b = true → isCom (d :: x ++ b :: Y) = true := fun b Y hb => by rw [isCom_cl hb (by simp)]; exact hc
   have hpos : 0 < ((d :: x).takeWhile notNl).length := by
    obtain ⟨Z, hZ⟩ := isCom_eq hc
    rw [hZ, List.takeWhile_cons, if_pos (by decide)]
    simp
   have hdrop : ∀ Z : List UInt8, (∀ c, Z[0]? = some c → notNl c = false) → ((d :: x).takeWhile notNl ++ Z).dropWhile notNl = Z := fun Z hZ => by
    rw [dropWhile_eq, takeWhile_app htw hZ, List.drop_left]
   rcases X with _ | ⟨y, X⟩
   ·rw [List.append_nil] at hX
    refine ⟨[], .inr (.inl fun b Y hb => ?_)⟩
    rw [lexK_com (hcY b Y hb), same]
    congr 1
    rw [List.dropWhile_append_of_pos (by rw [hX]; exact htw)]
   ·have hy := hX0 y rfl
    obtain ⟨ks, h⟩ := ih (y :: X) (by have := congrArg List.length hX; rw [List.length_append] at this; omega)
    have e : ∀ b Y, closer b = true → lexK (d :: x ++ b :: Y) = lexK (y :: X ++ b :: Y) := fun b Y hb => by
     rw [lexK_com (hcY b Y hb)]
     congr 1
     conv => lhs; rw [hX, List.append_assoc]
     exact hdrop _ (fun c hc => by cases hc; exact hy)
    refine ⟨ks, ?_⟩
    rcases h with h | h | h
    ·exact .inl fun b Y hb => (e b Y hb).trans (h b Y hb)
    ·exact .inr (.inl fun b Y hb => (e b Y hb).trans (h b Y hb))
    ·exact .inr (.inr fun b Y hb => (e b Y hb).trans (h b Y hb))
end Go.Proofs.YtoingpafcodojaaGreatDoor

namespace Go.Proofs.YtoingpafcodojaaGreatDoor

theorem pmb_assoc {α β γ : Type} (x : PM α) (f : α → PM β) (g : β → PM γ) : ((x >>= f) >>= g) = (x >>= fun u => f u >>= g) := by
 funext s
 show PM.and (PM.and x f) g s = PM.and x (fun u => PM.and (f u) g) s
 unfold PM.and
 cases x s <;> rfl
theorem pm_pure {α β : Type} (v : α) (f : α → PM β) : (pure v >>= f) = f v := rfl
theorem bind_at {α β : Type} {x y : PM α} {f : α → PM β} {s : PS} (h : x s = y s) : (x >>= f) s = (y >>= f) s := by
 show PM.and x f s = PM.and y f s
 unfold PM.and
 rw [h]
theorem at_bind {α β : Type} (p : Nat → Bool) (x y : PM α) (f : α → PM β) : (atM p x y >>= f) = atM p (x >>= f) (y >>= f) := by
 funext s
 show PM.and (atM p x y) f s = atM p (PM.and x f) (PM.and y f) s
 unfold PM.and atM
 cases p s.i <;> rfl
def flatL : List CE → Nat → List EX
 | [], _ => []
 | c :: l, o => c.flat o ++ flatL l (o + c.sz)
def szCs : List CE → Nat
 | [] => 0
 | c :: l => c.sz + szCs l
def ixL : List CE → Nat → List Int
 | [], _ => []
 | c :: l, o => c.ix o :: ixL l (o + c.sz)
def dpL : List CE → Nat
 | [] => 0
 | c :: l => max c.dp (dpL l)
def toksL : List CE → List Ky
 | [] => []
 | c :: l => (2, t_comma, 0) :: (c.toks ++ toksL l)
def okL (l : List CE) : Prop := ∀ c ∈ l, c.ok
mutual
inductive CT where
 | int (w : List UInt8)
 | ref (nm : List UInt8) (args : List CE)
 | sized (w : List UInt8) (e : CE)
 | over (w : List UInt8) (e : CE) (i : CT)
 | rest (i : CT)
 | tail
 | none
 | arr (b : CT) (e : CE)
 | switch (e : CE) (cs : CS)
inductive CS where
 | fin
 | els (i : CT)
 | case (t : List UInt8) (n : Nat) (i : CT) (r : CS)
end
def argT : List CE → List Ky
 | [] => []
 | c :: l => (2, t_lpar, 0) :: (c.toks ++ (toksL l ++ [(2, t_rpar, 0)]))
mutual
def CT.toks : CT → List Ky
 | .int w => [(0, w, 0)]
 | .ref nm args => (0, nm, 0) :: argT args
 | .sized w e => (0, w, 0) :: (2, t_lsq, 0) :: (e.toks ++ [(2, t_rsq, 0)])
 | .over w e i => (0, w, 0) :: (2, t_lsq, 0) :: (e.toks ++ (2, t_rsq, 0) :: i.toks)
 | .rest i => (0, w_rest, 0) :: i.toks
 | .tail => [(0, w_tail, 0)]
 | .none => [(0, w_none, 0)]
 | .arr b e => b.toks ++ (2, t_lsq, 0) :: (e.toks ++ [(2, t_rsq, 0)])
 | .switch e cs => (0, w_switch, 0) :: (2, t_lpar, 0) :: (e.toks ++ (2, t_rpar, 0) :: (2, t_lcur, 0) :: (cs.toks ++ [(2, t_rcur, 0)]))
def CS.toks : CS → List Ky
 | .fin => []
 | .els i => (0, w_else, 0) :: (2, t_colon, 0) :: (i.toks ++ [(2, t_semi, 0)])
 | .case t n i r => (0, w_case, 0) :: (1, t, n) :: (2, t_colon, 0) :: (i.toks ++ (2, t_semi, 0) :: r.toks)
end
mutual
def CT.sx : CT → Nat
 | .int _ => 0
 | .ref _ args => szCs args
 | .sized _ e => e.sz
 | .over _ e i => e.sz + i.sx
 | .rest i => i.sx
 | .tail => 0
 | .none => 0
 | .arr b e => b.sx + e.sz
 | .switch e cs => e.sz + cs.sx
def CS.sx : CS → Nat
 | .fin => 0
 | .els i => i.sx
 | .case _ _ i r => i.sx + r.sx
end
mutual
def CT.st : CT → Nat
 | .int _ => 1
 | .ref _ _ => 1
 | .sized _ _ => 1
 | .over _ _ i => i.st + 1
 | .rest i => i.st + 1
 | .tail => 1
 | .none => 1
 | .arr b _ => b.st + 1
 | .switch _ cs => cs.st + 1
def CS.st : CS → Nat
 | .fin => 0
 | .els i => i.st
 | .case _ _ i r => i.st + r.st
end
def CT.ix (c : CT) (p : Nat) : Int := ((p + c.st - 1 : Nat) : Int)
def CS.num : CS → Nat
 | .case _ _ _ r => r.num + 1
 | _ => 0
def CS.cases : CS → Nat → List CA
 | .case _ n i r, p => ⟨n, i.ix p⟩ :: r.cases (p + i.st)
 | _, _ => []
def CS.inn : CS → Nat → Int
 | .fin, _ => -1
 | .els i, p => i.ix p
 | .case _ _ i r, p => r.inn (p + i.st)
mutual
def CT.fx : CT → Nat → List EX
 | .int _, _ => []
 | .ref _ args, o => flatL args o
 | .sized _ e, o => e.flat o
 | .over _ e i, o => e.flat o ++ i.fx (o + e.sz)
 | .rest i, o => i.fx o
 | .tail, _ => []
 | .none, _ => []
 | .arr b e, o => b.fx o ++ e.flat (o + b.sx)
 | .switch e cs, o => e.flat o ++ cs.fx (o + e.sz)
def CS.fx : CS → Nat → List EX
 | .fin, _ => []
 | .els i, o => i.fx o
 | .case _ _ i r, o => i.fx o ++ r.fx (o + i.sx)
end
mutual
def CT.ft : CT → Nat → Nat → List TY
 | .int w, _, _ => [{ tyP 0 with size := ((integerV w).getD (0, false)).1, little := ((integerV w).getD (0, false)).2 }]
 | .ref nm args, o, _ => [{ tyP 10 with nm := nm, args := ixL args o }]
 | .sized w e, o, _ => [{ tyP ((sizedV w).getD 0) with ex := e.ix o, inn := -1 }]
 | .over w e i, o, p => i.ft (o + e.sz) p ++ [{ tyP ((sizedV w).getD 0) with ex := e.ix o, inn := i.ix p }]
 | .rest i, o, p => i.ft o p ++ [{ tyP 6 with inn := i.ix p }]
 | .tail, _, _ => [tyP 4]
 | .none, _, _ => [tyP 11]
 | .arr b e, o, p => b.ft o p ++ [{ tyP 5 with ex := e.ix (o + b.sx), inn := b.ix p }]
 | .switch e cs, o, p => cs.ft (o + e.sz) p ++ [{ tyP 9 with ex := e.ix o, inn := cs.inn p, cases := cs.cases p }]
def CS.ft : CS → Nat → Nat → List TY
 | .fin, _, _ => []
 | .els i, o, p => i.ft o p
 | .case _ _ i r, o, p => i.ft o p ++ r.ft (o + i.sx) (p + i.st)
end
mutual
def CT.dp : CT → Nat
 | .int _ => 0
 | .ref _ args => dpL args
 | .sized _ e => e.dp
 | .over _ e i => max e.dp (i.dp + 1)
 | .rest i => i.dp + 1
 | .tail => 0
 | .none => 0
 | .arr b e => max b.dp e.dp
 | .switch e cs => max e.dp cs.dp
def CS.dp : CS → Nat
 | .fin => 0
 | .els i => i.dp + 1
 | .case _ _ i r => max (i.dp + 1) r.dp
end
def CT.flatT : CT → Prop
 | .int _ => True
 | .ref _ _ => True
 | _ => False
mutual
def CT.ok : CT → Prop
 | .int w => integerV w ≠ Option.none
 | .ref nm args => keyV nm = false ∧ (∃ r, tokF r = .ok 0 nm 0) ∧ okL args ∧ args.length ≤ 64
 | .sized w e => (w = w_bytes ∨ w = w_zero ∨ w = w_skip) ∧ e.ok
 | .over w e i => (w = w_window ∨ w = w_at) ∧ e.ok ∧ i.ok
 | .rest i => i.ok
 | .tail => True
 | .none => True
 | .arr b e => b.ok ∧ e.ok ∧ b.flatT
 | .switch e cs => e.ok ∧ cs.ok ∧ cs.num ≤ 64
def CS.ok : CS → Prop
 | .fin => True
 | .els i => i.ok
 | .case t n i r => (∃ q, tokF q = .ok 1 t n) ∧ i.ok ∧ r.ok
end
def CT.put (c : CT) (s : PS) : PS := ⟨s.i + c.toks.length, s.xs ++ c.fx s.xs.length, s.ts ++ c.ft s.xs.length s.ts.length⟩
def CS.put (c : CS) (s : PS) : PS := ⟨s.i + c.toks.length, s.xs ++ c.fx s.xs.length, s.ts ++ c.ft s.xs.length s.ts.length⟩
section
variable {L : List TokP}
def NoBr (L : List TokP) (i : Nat) : Prop := isV L i t_lsq = false ∧ isV L i t_lpar = false
end
end Go.Proofs.YtoingpafcodojaaGreatDoor

namespace Go.Proofs.YtoingpafcodojaaGreatDoor

def mvI (a : Nat) (k : Int) : Int := if k = -1 then -1 else k + a
def EX.mv (a : Nat) (x : EX) : EX := { x with kids := x.kids.map (mvI a) }
def CA.mv (b : Nat) (c : CA) : CA := { c with t := mvI b c.t }
def TY.mv (a b : Nat) (t : TY) : TY := { t with args := t.args.map (mvI a), ex := mvI a t.ex, inn := mvI b t.inn, cases := t.cases.map (CA.mv b) }
def IT.mv (a b : Nat) (x : IT) : IT := { x with ty := mvI b x.ty, wh := mvI a x.wh }
def RC.mv (a b : Nat) (r : RC) : RC := { r with its := r.its.map (IT.mv a b) }
section
variable (d : Nat) (X0 : List EX) (T0 : List TY)
def mvS (s : PS) : PS := ⟨d + s.i, X0 ++ s.xs.map (EX.mv X0.length), T0 ++ s.ts.map (TY.mv X0.length T0.length)⟩
def Sh {α : Type} (x x' : PM α) (g : α → α) : Prop := ∀ s v s', x s = .ok v s' → x' (mvS d X0 T0 s) = .ok (g v) (mvS d X0 T0 s')
end
section
variable {d : Nat} {X0 : List EX} {T0 : List TY} {α β : Type}
def AskM (d : Nat) (p p' : Nat → Bool) : Prop := ∀ i, p' (d + i) = p i
variable {L L' : List TokP}
structure Mvd (L L' : List TokP) (d : Nat) : Prop where
 lo : ∀ i, (tk L' (d + i)).same (tk L i)
 len : L'.length = d + L.length
variable (hc : Mvd L L' d)
include hc
end
end Go.Proofs.YtoingpafcodojaaGreatDoor

namespace Go.Proofs.YtoingpafcodojaaGreatDoor

def lineT (k : Nat) (t : TokP) : TokP := ⟨t.k, t.t, t.n, t.l + k, t.c⟩
theorem tk_of {L : List TokP} {i : Nat} {u : TokP} (h : L[i]? = some u) : tk L i = u := by unfold tk; rw [List.getD_eq_getElem?_getD, h]; rfl
end Go.Proofs.YtoingpafcodojaaGreatDoor

namespace Go.Proofs.YtoingpafcodojaaGreatDoor

def tokP : List Ky := [(0, w_struct, 0), (0, [83], 0), (2, t_lcur, 0), (0, [97], 0), (2, t_colon, 0), (0, w_bytes, 0), (2, t_lsq, 0)]
def tokQ : List Ky := [(2, t_rsq, 0), (2, t_semi, 0), (2, t_rcur, 0), (3, [], 0)]
theorem lexK_preA (X : List UInt8) : lexK (preA ++ X) = (lexK X).map (tokP ++ ·) := by
 show lexK (w_struct ++ (32 :: ([83] ++ (32 :: ([123] ++ (32 :: ([97] ++ ([58] ++ (32 :: (w_bytes ++ ([91] ++ X))))))))))) = _
 rw [lexK_cons (k := 0) (n := 0) (by kernel_rfl) (by kernel_rfl), lexK_blank _ (by kernel_rfl), lexK_cons (k := 0) (n := 0) (by kernel_rfl) (by kernel_rfl), lexK_blank _ (by kernel_rfl), lexK_cons (k := 2) (n := 0) (by kernel_rfl) (by kernel_rfl), lexK_blank _ (by kernel_rfl),
  lexK_cons (k := 0) (n := 0) (by kernel_rfl) (by kernel_rfl), lexK_cons (k := 2) (n := 0) (by kernel_rfl) (by kernel_rfl), lexK_blank _ (by kernel_rfl), lexK_cons (k := 0) (n := 0) (by kernel_rfl) (by kernel_rfl), lexK_cons (k := 2) (n := 0) (by kernel_rfl) (by kernel_rfl)]
 cases lexK X <;> rfl
theorem lexK_postA : lexK postA = some tokQ := by decide +kernel
theorem atK_of {L : List TokP} : ∀ {K : List Ky} {i : Nat}, (L.drop i).map TokP.key = K → AtK L i K
 | [], i, _ => trivial
 | k :: K, i, h => by
  rcases hd : L.drop i with _ | ⟨u, T⟩
  ·rw [hd] at h; cases h
  ·rw [hd, List.map_cons] at h
   injection h with h1 h2
   have hi : L[i]? = some u := by rw [← List.head?_drop, hd]; rfl
   refine ⟨by rw [tk_of hi]; exact h1, atK_of ?_⟩
   rw [← List.drop_drop, hd]
   exact h2
theorem atK_all {L : List TokP} {K : List Ky} (h : L.map TokP.key = K) : AtK L 0 K := atK_of h
theorem stop_sign {L : List TokP} {i k n : Nat} {t : List UInt8} (h : (tk L i).key = (k, t, n)) (hz : levelV t = 0) : Stop L i 1 := fun l hl => by
 rw [opAt_key h]
 dsimp only
 rw [hz, decide_eq_false (by omega : ¬ 0 = l), Bool.and_false]
def recS : RC := ⟨[83], [], [⟨[97], 0, 0, [], [], -1, 0, false, []⟩]⟩
def bytesT (k : Int) : TY := ⟨1, 0, false, [], [], k, -1, []⟩
section
variable {L : List TokP}
def restA (L : List TokP) (k : Int) : PM (List CO × List RC) := takeM L t_rsq >>= fun _ => layM (bytesT k) >>= fun t => atM (isV L · t_eq) (stepM >>= fun _ => derivedM L) (pure (0, [], [])) >>= fun d => atM (isV L · w_where) (stepM >>= fun _ => exprM L 32) (pure (-1)) >>= fun x =>
 takeM L t_semi >>= fun _ => itemsN L (L.length - 3) [⟨[97], t, d.1, d.2.1, d.2.2, x, 0, false, []⟩] >>= fun is => takeM L t_rcur >>= fun _ => wholeN L L.length [] [⟨[83], [], is⟩]
theorem tail_eq {γ : Type} (X : PM (List IT)) (G : RC → PM γ) (s : PS) : ((X >>= fun is => takeM L t_rcur >>= fun _ => pure (⟨[83], [], is⟩ : RC)) >>= G) s = (X >>= fun is => takeM L t_rcur >>= fun _ => G ⟨[83], [], is⟩) s := by
 rw [pmb_assoc, show (fun u => (takeM L t_rcur >>= fun _ => pure (⟨[83], [], u⟩ : RC)) >>= G) = fun is => takeM L t_rcur >>= fun _ => G ⟨[83], [], is⟩ from funext fun u => by rw [pmb_assoc]; rfl]
theorem items_eq (n : Nat) (l : List IT) : itemsN L (n + 1) l = atM (fun i => isV L i w_pack || namedV L i) (roomM l.length >>= fun _ => atM (isV L · w_pack) (packM L) (fieldM L) >>= fun x => itemsN L n (l ++ [x])) (pure l) := rfl
theorem file_run (hP : AtK L 0 tokP) : wholeN L (L.length + 1) [] [] ⟨0, [], []⟩ = (exprM L 32 >>= restA L) ⟨7, [], []⟩ := by
 obtain ⟨k0, k1, k2, k3, k4, k5, k6, -⟩ := hP
 have kS : keyV [83] = false := by decide +kernel
 have ka : keyV [97] = false := by decide +kernel
 have e0 : isV L 0 w_const = false := by rw [isV_key k0]; decide +kernel
 have e1 : isV L 0 w_struct = true := by rw [isV_key k0]; decide +kernel
 have e2 : isV L 2 t_lpar = false := by rw [isV_key k2]; decide +kernel
 have e3 : isV L 2 t_lcur = true := by rw [isV_key k2]; decide +kernel
 have e4 : (isV L 3 w_pack || namedV L 3) = true := by rw [namedV_key k3, isV_key k3]; decide +kernel
 have e5 : isV L 3 w_pack = false := by rw [isV_key k3]; decide +kernel
 have e6 : isV L 4 t_colon = true := by rw [isV_key k4]; decide +kernel
 have e7 : namedV L 5 = false := by rw [namedV_key k5]; decide +kernel
 have e8 : startsV L 5 = true := by
  unfold startsV
  rw [e7, tk_kind k5, tk_text k5]; decide +kernel
 have e9 : isV L 6 t_lsq = true := by rw [isV_key k6]; decide +kernel
 have s1 : wholeN L (L.length + 1) [] [] ⟨0, [], []⟩ = (recordM L >>= fun r => wholeN L L.length [] [r]) ⟨0, [], []⟩ := by
  rw [wholeN, atN (p := (isV L · w_const)) e0, atY (p := (isV L · w_struct)) e1, room_lt (by decide)]
  rfl
 have s2 : (recordM L >>= fun r => wholeN L L.length [] [r]) ⟨0, [], []⟩ = (itemsN L (L.length - 3 + 1) [] >>= fun is => takeM L t_rcur >>= fun _ => wholeN L L.length [] [⟨[83], [], is⟩]) ⟨3, [], []⟩ := by
  unfold recordM
  rw [pmb_assoc, take_ok e1, pmb_assoc, name_ok k1 kS, pmb_assoc, at_bind, atN (p := (isV L · t_lpar)) e2, pm_pure, pmb_assoc, take_ok e3]
  exact tail_eq (L := L) (fun s => itemsN L (L.length - s.i + 1) [] s) _ _
 have s3 : ∀ (n : Nat) (f : List IT → PM (List CO × List RC)), (itemsN L (n + 1) [] >>= f) ⟨3, [], []⟩ = (fieldM L >>= fun x => itemsN L n [x] >>= f) ⟨3, [], []⟩ := fun n f => by
  rw [items_eq, at_bind, atY (p := fun i => isV L i w_pack || namedV L i) e4, pmb_assoc, room_lt (by decide), pmb_assoc, at_bind, atN (p := (isV L · w_pack)) e5]
  rfl
 have s4 : ∀ (f : IT → PM (List CO × List RC)), (fieldM L >>= f) ⟨3, [], []⟩ = (exprM L 32 >>= fun k => takeM L t_rsq >>= fun _ => layM (bytesT k) >>= fun t => atM (isV L · t_eq) (stepM >>= fun _ => derivedM L) (pure (0, [], [])) >>= fun d => atM (isV L · w_where) (stepM >>= fun _ => exprM L 32) (pure (-1)) >>= fun x =>
   takeM L t_semi >>= fun _ => f ⟨[97], t, d.1, d.2.1, d.2.2, x, 0, false, []⟩) ⟨7, [], []⟩ := fun f => by
  unfold fieldM
  rw [pmb_assoc, name_ok k3 ka, pmb_assoc, take_ok e6, pmb_assoc]
  rw [bind_at (y := stepM >>= fun _ => wordM L 32 (kindM L 31) (tk L 5).t) (by
   show kindF L 32 (kindM L 31) _ = _
   unfold kindF
   rw [atN (p := (namedV L ·)) e7]
   exact atY (p := (startsV L ·)) e8), pmb_assoc, pstep_ok, tk_text k5]
  show ((bracketM L 32 >>= fun x => pure (-1) >>= fun i => layM { tyP 1 with ex := x, inn := i }) >>= _) _ = _
  unfold bracketM
  simp only [pmb_assoc, pm_pure]
  rw [take_ok e9]
  rfl
 rw [s1, s2, s3, s4]
 rfl
theorem file_of {c : CE} (hL : L.length = 7 + c.toks.length + 4) (hP : AtK L 0 (tokP ++ (c.toks ++ tokQ))) (hok : c.ok) : (c.dp ≤ 32 ∧ fileV (.ok L) = .ok [] [recS] (c.flat 0) [bytesT (c.ix 0)]) ∨ (32 < c.dp ∧ ∃ l k, fileV (.ok L) = .err l k 8) := by
 obtain ⟨hP, hQ⟩ := atK_app.1 hP
 obtain ⟨hc, q0, q1, q2, q3, -⟩ := atK_app.1 hQ
 have hst : Stop L (7 + c.toks.length) 1 := stop_sign q0 (by decide +kernel)
 have hr := rd_expr hok 32 (s := ⟨7, [], []⟩) hc hst (CE.lv_pos hok)
 unfold fileV
 dsimp only
 rw [file_run hP]
 rcases hr with ⟨h1, h2⟩ | ⟨h1, i, h2⟩
 ·refine .inl ⟨h1, ?_⟩
  have hput : c.put ⟨7, [], []⟩ = ⟨7 + c.toks.length, c.flat 0, []⟩ := rfl
  have hix : c.ix ([] : List EX).length = c.ix 0 := rfl
  rw [and_ok h2, hput, hix]
  obtain ⟨a, ha⟩ : ∃ a, 7 + c.toks.length = a := ⟨_, rfl⟩
  have q0 : (tk L a).key = (2, t_rsq, 0) := by rw [← ha]; exact q0
  have q1 : (tk L (a + 1)).key = (2, t_semi, 0) := by rw [← ha]; exact q1
  have q2 : (tk L (a + 2)).key = (2, t_rcur, 0) := by rw [← ha]; exact q2
  have q3 : (tk L (a + 3)).key = (3, [], 0) := by rw [← ha]; exact q3
  rw [ha]
  have g0 : isV L a t_rsq = true := by rw [isV_key q0]; decide +kernel
  have g1 : isV L (a + 1) t_eq = false := by rw [isV_key q1]; decide +kernel
  have g2 : isV L (a + 1) w_where = false := by rw [isV_key q1]; decide +kernel
  have g3 : isV L (a + 1) t_semi = true := by rw [isV_key q1]; decide +kernel
  have g4 : (isV L (a + 2) w_pack || namedV L (a + 2)) = false := by rw [isV_key q2, namedV_key q2]; decide +kernel
  have g5 : isV L (a + 2) t_rcur = true := by rw [isV_key q2]; decide +kernel
  have g6 : isV L (a + 3) w_const = false := by rw [isV_key q3]; decide +kernel
  have g7 : isV L (a + 3) w_struct = false := by rw [isV_key q3]; decide +kernel
  have g8 : decide ((tk L (a + 3)).k = 3) = true := by rw [tk_kind q3]; rfl
  obtain ⟨n, hn⟩ : ∃ n, L.length = n + 4 := ⟨L.length - 4, by omega⟩
  unfold restA
  rw [take_ok g0]
  show ((atM (isV L · t_eq) (stepM >>= fun _ => derivedM L) (pure (0, [], [])) >>= _) : PM (List CO × List RC)) (⟨a + 1, c.flat 0, [bytesT (c.ix 0)]⟩ : PS) |> fun r => (match r with | .ok (cs, rs) s => FR.ok cs rs s.xs s.ts | .err i e => .err (tk L i).l (tk L i).c e) = _
  rw [at_bind, atN (p := (isV L · t_eq)) g1, pm_pure, at_bind, atN (p := (isV L · w_where)) g2, pm_pure, take_ok g3, hn, show n + 4 - 3 = n + 1 by omega, items_eq, at_bind, atN (p := fun i => isV L i w_pack || namedV L i) g4, pm_pure, take_ok g5, wholeN, atN (p := (isV L · w_const)) g6, atN (p := (isV L · w_struct)) g7, atY (p := fun i => decide ((tk L i).k = 3)) g8]
  rfl
 ·refine .inr ⟨h1, (tk L i).l, (tk L i).c, ?_⟩
  rw [and_err h2]
theorem file_inv [LexT L] (hP : AtK L 0 tokP) {cs : List CO} {rs : List RC} {xs : List EX} {ts : List TY} (h : fileV (.ok L) = .ok cs rs xs ts) : ∃ c : CE, c.ok ∧ c.dp ≤ 32 ∧ AtK L 7 (c.toks ++ [(2, t_rsq, 0)]) := by
 unfold fileV at h
 dsimp only at h
 rw [file_run hP] at h
 split at h
 ·rename_i c r s hw
  obtain ⟨k, s1, h1, h2⟩ := mo_inv hw
  obtain ⟨e, a1, a2, a3, a4, a5, a6⟩ := sd_expr 32 _ _ _ h1
  unfold restA at h2
  obtain ⟨b1, -⟩ := take_inv h2
  subst a6
  exact ⟨e, a1, a3, atK_app.2 ⟨a4, isV_sign b1 (by decide), trivial⟩⟩
 ·cases h
end
def isRsq (k : Ky) : Bool := decide (k = (2, t_rsq, 0))
theorem toks_rsq : ∀ c : CE, c.ok → ∀ k ∈ c.toks, k ≠ (2, t_rsq, 0)
 | .num t n, _, k, hk => by rw [List.mem_singleton.1 hk]; intro e; cases e
 | .name w, _, k, hk => by rw [List.mem_singleton.1 hk]; intro e; cases e
 | .not a, h, k, hk => by
  rcases List.mem_cons.1 hk with rfl | hk
  ·decide
  ·exact toks_rsq a h.1 k hk
 | .par a, h, k, hk => by
  rcases List.mem_cons.1 hk with rfl | hk
  ·decide
  rcases List.mem_append.1 hk with hk | hk
  ·exact toks_rsq a h k hk
  ·rw [List.mem_singleton.1 hk]; decide
 | .bin op a b, h, k, hk => by
  rcases List.mem_append.1 hk with hk | hk
  ·exact toks_rsq a h.1 k hk
  rcases List.mem_cons.1 hk with rfl | hk
  ·intro e
   have : op = t_rsq := by injection e with _ e; injection e
   rw [this] at h
   exact h.2.2.1 (by decide +kernel)
  ·exact toks_rsq b h.2.1 k hk
def bal : List Ky → Int
 | [] => 0
 | k :: ks => (if k = (2, t_lpar, 0) then 1 else if k = (2, t_rpar, 0) then -1 else 0) + bal ks
theorem bal_app : ∀ a b : List Ky, bal (a ++ b) = bal a + bal b
 | [], b => by show bal b = 0 + bal b; omega
 | k :: a, b => by
  show _ + bal (a ++ b) = _ + bal a + bal b
  rw [bal_app a b]; omega
theorem bal_toks : ∀ c : CE, c.ok → bal c.toks = 0
 | .num t n, _ => by
  show (if ((1, t, n) : Ky) = (2, t_lpar, 0) then (1 : Int) else if ((1, t, n) : Ky) = (2, t_rpar, 0) then -1 else 0) + 0 = 0
  rw [if_neg (by intro e; cases e), if_neg (by intro e; cases e)]; rfl
 | .name w, _ => by
  show (if ((0, w, 0) : Ky) = (2, t_lpar, 0) then (1 : Int) else if ((0, w, 0) : Ky) = (2, t_rpar, 0) then -1 else 0) + 0 = 0
  rw [if_neg (by intro e; cases e), if_neg (by intro e; cases e)]; rfl
 | .not a, h => by
  show (if ((2, t_bang, 0) : Ky) = (2, t_lpar, 0) then (1 : Int) else if ((2, t_bang, 0) : Ky) = (2, t_rpar, 0) then -1 else 0) + bal a.toks = 0
  rw [if_neg (by decide), if_neg (by decide), bal_toks a h.1]; rfl
 | .par a, h => by
  show (1 : Int) + bal (a.toks ++ [(2, t_rpar, 0)]) = 0
  rw [bal_app, bal_toks a h]; rfl
 | .bin op a b, h => by
  show bal (a.toks ++ (2, op, 0) :: b.toks) = 0
  rw [bal_app, bal_toks a h.1]
  show (0 : Int) + ((if ((2, op, 0) : Ky) = (2, t_lpar, 0) then (1 : Int) else if ((2, op, 0) : Ky) = (2, t_rpar, 0) then -1 else 0) + bal b.toks) = 0
  have hne : ∀ t, levelV t = 0 → ((2, op, 0) : Ky) ≠ (2, t, 0) := fun t ht e => by
   have : op = t := by injection e with _ e; injection e
   rw [this] at h
   exact h.2.2.1 ht
  rw [if_neg (hne _ (by decide +kernel)), if_neg (hne _ (by decide +kernel)), bal_toks b h.2.1]; rfl
theorem first_rsq {q : Ky} {L : List TokP} : ∀ {a b : List Ky} {i : Nat}, AtK L i (a ++ [q]) → AtK L i (b ++ [q]) → (∀ k ∈ a, k ≠ q) → (∀ k ∈ b, k ≠ q) → a = b
 | [], [], i, _, _, _, _ => rfl
 | [], k :: b, i, h1, h2, _, h4 => absurd (h2.1.symm.trans h1.1) (h4 k List.mem_cons_self)
 | k :: a, [], i, h1, h2, h3, _ => absurd (h1.1.symm.trans h2.1) (h3 k List.mem_cons_self)
 | k :: a, l :: b, i, h1, h2, h3, h4 => by
  have e : k = l := h1.1.symm.trans h2.1
  rw [e, first_rsq h1.2 h2.2 (fun x hx => h3 x (List.mem_cons_of_mem _ hx)) (fun x hx => h4 x (List.mem_cons_of_mem _ hx))]
theorem within {q : Ky} : ∀ {a k t : List Ky}, (∃ r, k ++ t = a ++ q :: r) → (∀ x ∈ a, x ≠ q) → (∃ r, k = a ++ q :: r) ∨ (∃ b, a = k ++ b ∧ ∃ r, t = b ++ q :: r)
 | a, [], t, ⟨r, h⟩, _ => .inr ⟨a, rfl, r, h⟩
 | [], x :: k, t, ⟨r, h⟩, _ => .inl ⟨k, by cases h; rfl⟩
 | y :: a, x :: k, t, ⟨r, h⟩, ha => by
  injection h with h1 h2
  subst h1
  rcases within ⟨r, h2⟩ (fun z hz => ha z (List.mem_cons_of_mem _ hz)) with ⟨r', e⟩ | ⟨b, e, e2⟩
  ·exact .inl ⟨r', by rw [e]; rfl⟩
  ·exact .inr ⟨b, by rw [e]; rfl, e2⟩
end Go.Proofs.YtoingpafcodojaaGreatDoor

namespace Go.Proofs.YtoingpafcodojaaGreatDoor
def CE.tree : CE → ET
 | .num _ n => .num n
 | .name w => .name w
 | .not a => .not a.tree
 | .par a => a.tree
 | .bin op a b => .bin op a.tree b.tree
end Go.Proofs.YtoingpafcodojaaGreatDoor

namespace Go.Proofs.YtoingpafcodojaaGreatDoor

theorem kidE_lt {ts : List (Option ET)} {k : Int} {t : ET} (h : kidE ts k = some t) : ∃ n : Nat, k = n ∧ n < ts.length ∧ ts[n]? = some (some t) := by
 unfold kidE at h
 split at h
 ·rename_i h0
  refine ⟨k.toNat, by omega, ?_⟩
  rcases hx : ts[k.toNat]? with _ | o
  ·rw [hx] at h; cases h
  ·rw [hx] at h
   have : o = some t := h
   exact ⟨(List.getElem?_eq_some_iff.1 hx).1, by rw [this]⟩
 ·cases h
theorem kidE_of {ts : List (Option ET)} {n : Nat} {t : ET} (h : ts[n]? = some (some t)) : kidE ts (n : Int) = some t := by
 unfold kidE
 rw [if_pos (by omega), Int.toNat_natCast, h]
 rfl
theorem kidE_app {ts us : List (Option ET)} {k : Int} {t : ET} (h : kidE ts k = some t) : kidE (ts ++ us) k = some t := by
 obtain ⟨n, rfl, h1, h2⟩ := kidE_lt h
 exact kidE_of (by rw [List.getElem?_append_left h1, h2])
theorem treesE_app (a b : List EI) : ∃ us, treesE (a ++ b) = treesE a ++ us := by
 have h := treesE_take (a ++ b) a.length
 rw [List.take_left] at h
 refine ⟨(treesE (a ++ b)).drop a.length, ?_⟩
 rw [h, List.take_append_drop]
theorem kidE_more {a b : List EI} {k : Int} {t : ET} (h : kidE (treesE a) k = some t) : kidE (treesE (a ++ b)) k = some t := by
 obtain ⟨us, e⟩ := treesE_app a b
 rw [e]; exact kidE_app h
theorem kidE_last {a : List EI} {x : EI} {t : ET} {k : Int} (hk : k = (a.length : Int)) (h : treeE (treesE a) x = some t) : kidE (treesE (a ++ [x])) k = some t := by
 rw [treesE_snoc, hk, ← treesE_len a]
 refine kidE_of ?_
 rw [List.getElem?_append_right (Nat.le_refl _), Nat.sub_self, h]
 rfl
theorem flat_tree : ∀ (c : CE) (pre : List EI), kidE (treesE (pre ++ (c.flat pre.length).map EX.ei)) (c.ix pre.length) = some c.tree
 | .num t n, pre => kidE_last (by unfold CE.ix CE.sz; omega) rfl
 | .name w, pre => kidE_last (by unfold CE.ix CE.sz; omega) rfl
 | .not a, pre => by
  have ih := flat_tree a pre
  show kidE (treesE (pre ++ (a.flat pre.length ++ [_]).map EX.ei)) _ = _
  rw [List.map_append, ← List.append_assoc]
  refine kidE_last (by
   rw [List.length_append, List.length_map, a.flat_len]
   show ((pre.length + (a.sz + 1) - 1 : Nat) : Int) = _
   omega) ?_
  show (kidE _ (a.ix pre.length)).map ET.not = _
  rw [ih]
  rfl
 | .par a, pre => flat_tree a pre
 | .bin op a b, pre => by
  have iha := flat_tree a pre
  have ihb := flat_tree b (pre ++ (a.flat pre.length).map EX.ei)
  have hl : (pre ++ (a.flat pre.length).map EX.ei).length = pre.length + a.sz := by rw [List.length_append, List.length_map, a.flat_len]
  rw [hl] at ihb
  show kidE (treesE (pre ++ (a.flat pre.length ++ b.flat (pre.length + a.sz) ++ [_]).map EX.ei)) _ = _
  rw [List.map_append, List.map_append, ← List.append_assoc, ← List.append_assoc]
  refine kidE_last (by
   rw [List.length_append, hl, List.length_map, b.flat_len]
   show ((pre.length + (a.sz + b.sz + 1) - 1 : Nat) : Int) = _
   omega) ?_
  show (match kidE _ (a.ix pre.length), kidE _ (b.ix (pre.length + a.sz)) with | some t, some u => some (ET.bin op t u) | _, _ => none) = _
  rw [kidE_more iha, ihb]
  rfl
theorem flat_eval (c : CE) (e : EV) : evalE ((c.flat 0).map EX.ei) (c.ix 0) e = evalT e c.tree := by
 have h := flat_tree c []
 unfold evalE exprE
 rw [List.nil_append] at h
 rw [show kidE (treesE ((c.flat 0).map EX.ei)) (c.ix 0) = some c.tree from h]
def IsX (c : CE) (R : FR) : Prop := R = .ok [] [recS] (c.flat 0) [bytesT (c.ix 0)]
theorem lexV_keys {s : List UInt8} {L : List TokP} (h : lexV s = .ok L) : lexK s = some (L.map TokP.key) ∧ LexT L := by
 unfold lexV at h
 split at h
 ·refine ⟨?_, lexT_of h⟩
  unfold lexK
  rw [h]; rfl
 ·cases h
theorem fileS_lex {s : List UInt8} {cs : List CO} {rs : List RC} {xs : List EX} {ts : List TY} (h : fileS s = .ok cs rs xs ts) : ∃ L, lexV s = .ok L ∧ fileV (.ok L) = .ok cs rs xs ts := by
 unfold fileS at h
 rcases hl : lexV s with L | ⟨l, c, e⟩
 ·rw [hl] at h; exact ⟨L, rfl, h⟩
 ·rw [hl] at h; cases h
theorem map_some {α β : Type} {o : Option α} {f : α → β} {b : β} (h : o.map f = some b) : ∃ a, o = some a ∧ f a = b := by
 cases o with
 | none => cases h
 | some a => exact ⟨a, rfl, by injection h⟩
theorem key_at {L : List TokP} {i : Nat} (h : i < L.length) : (L.map TokP.key)[i]? = some (tk L i).key := by
 rw [List.getElem?_map, List.getElem?_eq_getElem h, tk_of (List.getElem?_eq_getElem h)]
 rfl
theorem atK_take {L : List TokP} {q : Ky} (hq : q.1 ≠ 3) : ∀ {a : List Ky} {i : Nat}, AtK L i (a ++ [q]) → ∃ r, (L.map TokP.key).drop i = a ++ q :: r
 | [], i, h => by
  have hi : i < L.length := by
   by_cases hi : i < L.length
   ·exact hi
   ·have h1 := h.1
    rw [tk_out (by omega)] at h1
    exact absurd (congrArg Prod.fst h1).symm hq
  have hk := key_at hi
  rw [h.1] at hk
  refine ⟨(L.map TokP.key).drop (i + 1), ?_⟩
  rw [List.drop_eq_getElem_cons (by rw [List.length_map]; exact hi), (List.getElem?_eq_some_iff.1 hk).2]
  rfl
 | x :: a, i, h => by
  obtain ⟨r, hr⟩ := atK_take hq h.2
  have hi : i < L.length := by
   have := congrArg List.length hr
   rw [List.length_drop, List.length_map, List.length_append, List.length_cons] at this
   omega
  have hk := key_at hi
  rw [h.1] at hk
  refine ⟨r, ?_⟩
  rw [List.drop_eq_getElem_cons (by rw [List.length_map]; exact hi), (List.getElem?_eq_some_iff.1 hk).2, hr]
  rfl
theorem text_inv {s : List UInt8} {cs : List CO} {rs : List RC} {xs : List EX} {ts : List TY} (h : fileS (textA s) = .ok cs rs xs ts) : ∃ c : CE, c.ok ∧
  ((IsX c (fileS (textA s)) ∧ ∀ b Y, closer b = true → lexK (s ++ b :: Y) = (lexK (b :: Y)).map (c.toks ++ ·)) ∨ ∃ r, ∀ b Y, closer b = true → ∃ o : Option (List Ky), lexK (s ++ b :: Y) = o.map ((c.toks ++ (2, t_rsq, 0) :: r) ++ ·)) := by
 obtain ⟨L, hL, hF⟩ := fileS_lex h
 obtain ⟨hK, hT⟩ := lexV_keys hL
 have e0 : textA s = preA ++ (s ++ 93 :: [59, 32, 125]) := by unfold textA; rw [List.append_assoc]; rfl
 rw [e0, lexK_preA] at hK
 obtain ⟨K, hK1, hK2⟩ := map_some hK
 have hAll := atK_all hK2.symm
 obtain ⟨hP, hA⟩ := atK_app.1 hAll
 obtain ⟨c, hok, hdp, hc⟩ := file_inv hP hF
 refine ⟨c, hok, ?_⟩
 obtain ⟨r, hr⟩ := atK_take (by decide) hc
 rw [← hK2] at hr
 have hr : K = c.toks ++ (2, t_rsq, 0) :: r := hr
 obtain ⟨ks, hks⟩ := lexK_cl _ s (Nat.lt_succ_self _)
 have hcl : closer 93 = true := by decide +kernel
 have hmapc : ∀ (a b : List Ky) (o : Option (List Ky)), o.map ((a ++ b) ++ ·) = (o.map (b ++ ·)).map (a ++ ·) := fun a b o => by cases o <;> simp
 rcases hks with hks | hks | hks
 ·rw [hks 93 _ hcl, show (93 : UInt8) :: [59, 32, 125] = postA from rfl, lexK_postA] at hK1
  have hK1 : ks ++ tokQ = K := by injection hK1
  rw [hr] at hK1
  rcases within ⟨r, hK1⟩ (toks_rsq c hok) with ⟨r', e⟩ | ⟨b, e, r', e2⟩
  ·exact .inr ⟨r', fun b Y hb => ⟨_, by rw [hks b Y hb, e]⟩⟩
  ·have hb : b = [] := by
    cases b with
    | nil => rfl
    | cons x b =>
     injection e2 with e2 _
     have := toks_rsq c hok x (by rw [e]; simp)
     exact absurd e2.symm this
   rw [hb, List.append_nil] at e
   refine .inl ⟨?_, fun b Y hb => by rw [hks b Y hb, e]⟩
   have hKL : L.map TokP.key = tokP ++ (c.toks ++ tokQ) := by rw [← hK2, hr, ← hK1, e]
   rcases file_of (by
    have := congrArg List.length hKL
    rw [List.length_map, List.length_append, List.length_append] at this
    rw [this]
    show 7 + (_ + 4) = _
    omega) (atK_all hKL) hok with ⟨-, e⟩ | ⟨h1, -⟩
   ·unfold IsX fileS
    rw [hL, e]
   ·omega
 ·have hd : ((93 : UInt8) :: [59, 32, 125]).dropWhile notNl = [] := by decide
  rw [hks 93 _ hcl, hd, lexK_nil] at hK1
  have hK1 : ks ++ [(3, [], 0)] = K := by injection hK1
  rw [hr] at hK1
  rcases within ⟨r, hK1⟩ (toks_rsq c hok) with ⟨r', e⟩ | ⟨b, e, r', e2⟩
  ·exact .inr ⟨r', fun b Y hb => ⟨_, by rw [hks b Y hb, e]⟩⟩
  ·exfalso
   cases b with
   | nil => injection e2 with e2 _; cases e2
   | cons x b => injection e2 with e2 e3; cases b <;> cases e3
 ·rw [hks 93 _ hcl] at hK1; cases hK1
def textB (op s0 s1 : List UInt8) : List UInt8 := preA ++ ([40] ++ (s0 ++ 41 :: (32 :: (op ++ (32 :: ([40] ++ (s1 ++ 41 :: postA)))))))
structure OpX (op : List UInt8) : Prop where
 lv : levelV op ≠ 0
 mem : op ∈ signsL
 tok : ∀ Z, tokF (op ++ 32 :: Z) = .ok 2 op 0
 com : ∀ Z, isCom (op ++ 32 :: Z) = false
theorem lexK_paren (X : List UInt8) : lexK ([40] ++ X) = (lexK X).map ((2, t_lpar, 0) :: ·) := lexK_cons (by kernel_rfl) (by kernel_rfl)
theorem lexK_close (X : List UInt8) : lexK (41 :: X) = (lexK X).map ((2, t_rpar, 0) :: ·) := lexK_cons (t := [41]) (by kernel_rfl) (by kernel_rfl)
theorem parts_plain {op s0 s1 : List UInt8} (hop : OpX op) (h0 : ∃ cs rs xs ts, fileS (textA s0) = .ok cs rs xs ts) (h1 : ∃ cs rs xs ts, fileS (textA s1) = .ok cs rs xs ts) (h : ∃ cs rs xs ts, fileS (textB op s0 s1) = .ok cs rs xs ts) :
  ∃ c0 c1 : CE, IsX c0 (fileS (textA s0)) ∧ IsX c1 (fileS (textA s1)) ∧ IsX (.bin op (.par c0) (.par c1)) (fileS (textB op s0 s1)) := by
 obtain ⟨_, _, _, _, h0⟩ := h0
 obtain ⟨_, _, _, _, h1⟩ := h1
 obtain ⟨cs, rs, xs, ts, h⟩ := h
 obtain ⟨c0, k0, a0⟩ := text_inv h0
 obtain ⟨c1, k1, a1⟩ := text_inv h1
 obtain ⟨L, hL, hF⟩ := fileS_lex h
 obtain ⟨hK, hT⟩ := lexV_keys hL
 have hcl : closer 41 = true := by decide +kernel
 unfold textB at hK
 rw [lexK_preA, lexK_paren] at hK
 obtain ⟨K, hK1, hK2⟩ := map_some hK
 obtain ⟨hP, hA⟩ := atK_app.1 (atK_all hK2.symm)
 obtain ⟨c, hok, hdp, hc⟩ := file_inv hP hF
 have hbal := bal_toks c hok
 have hnr := toks_rsq c hok
 have hA : AtK L 7 K := hA
 have n0 := toks_rsq c0 k0
 have n1 := toks_rsq c1 k1
 obtain ⟨K2, hK3, rfl⟩ := map_some hK1
 have pre : ∀ {Z r : List Ky}, (∀ k ∈ Z, k ≠ (2, t_rsq, 0)) → (2, t_lpar, 0) :: K2 = Z ++ (2, t_rsq, 0) :: r → bal Z = 0 := fun {Z r} hZ e => by
  rw [e] at hA
  have : AtK L 7 (Z ++ [(2, t_rsq, 0)]) := atK_app.2 ⟨(atK_app.1 hA).1, (atK_app.1 hA).2.1, trivial⟩
  rw [← first_rsq hc this hnr hZ]
  exact hbal
 have hb1 : ∀ Z : List Ky, bal ((2, t_lpar, 0) :: Z) = 1 + bal Z := fun Z => rfl
 have hb2 : ∀ Z : List Ky, bal ((2, t_rpar, 0) :: Z) = -1 + bal Z := fun Z => rfl
 have b0 := bal_toks c0 k0
 have b1 := bal_toks c1 k1
 rcases a0 with ⟨i0, a0⟩ | ⟨r, a0⟩
 rotate_left
 ·exfalso
  obtain ⟨o, ho⟩ := a0 41 (32 :: (op ++ (32 :: ([40] ++ (s1 ++ 41 :: postA))))) hcl
  rw [ho] at hK3
  obtain ⟨x, -, rfl⟩ := map_some hK3
  have := pre (Z := (2, t_lpar, 0) :: c0.toks) (r := r ++ x) (fun k hk => by
   rcases List.mem_cons.1 hk with rfl | hk
   ·decide
   ·exact n0 k hk) (by simp)
  rw [hb1, b0] at this
  omega
 rw [a0 41 _ hcl, lexK_close, lexK_blank _ (by decide +kernel), lexK_cons (hop.tok _) (hop.com _), lexK_blank _ (by decide +kernel), lexK_paren] at hK3
 obtain ⟨K3, hA3, rfl⟩ := map_some hK3
 obtain ⟨K4, hA4, rfl⟩ := map_some hA3
 obtain ⟨K5, hA5, rfl⟩ := map_some hA4
 obtain ⟨K6, hA6, rfl⟩ := map_some hA5
 have hopn : ∀ t, levelV t = 0 → ((2, op, 0) : Ky) ≠ (2, t, 0) := fun t ht e => by
  have : op = t := by injection e with _ e; injection e
  exact hop.lv (by rw [this]; exact ht)
 have hbo : ∀ Z : List Ky, bal ((2, op, 0) :: Z) = 0 + bal Z := fun Z => by
  show (if ((2, op, 0) : Ky) = (2, t_lpar, 0) then (1 : Int) else if ((2, op, 0) : Ky) = (2, t_rpar, 0) then -1 else 0) + bal Z = _
  rw [if_neg (hopn _ (by decide +kernel)), if_neg (hopn _ (by decide +kernel))]
 rcases a1 with ⟨i1, a1⟩ | ⟨r, a1⟩
 rotate_left
 ·exfalso
  obtain ⟨o, ho⟩ := a1 41 postA hcl
  rw [ho] at hA6
  obtain ⟨x, -, rfl⟩ := map_some hA6
  have := pre (Z := (2, t_lpar, 0) :: (c0.toks ++ (2, t_rpar, 0) :: (2, op, 0) :: (2, t_lpar, 0) :: c1.toks)) (r := r ++ x) (fun k hk => by
   simp only [List.mem_cons, List.mem_append] at hk
   rcases hk with rfl | hk | rfl | rfl | rfl | hk
   ·decide
   ·exact n0 k hk
   ·decide
   ·exact hopn _ (by decide +kernel)
   ·decide
   ·exact n1 k hk) (by simp)
  rw [hb1, bal_app, b0, hb2, hbo, hb1, b1] at this
  omega
 rw [a1 41 _ hcl, lexK_close, lexK_postA] at hA6
 have hA6 : c1.toks ++ (2, t_rpar, 0) :: tokQ = K6 := by injection hA6
 have hKL : L.map TokP.key = tokP ++ ((CE.bin op (.par c0) (.par c1)).toks ++ tokQ) := by
  rw [← hK2, ← hA6]
  simp [CE.toks]
 have hB : (CE.bin op (.par c0) (.par c1)).ok := ⟨k0, k1, hop.lv, hop.mem, Nat.le_succ_of_le (level_le _), Nat.lt_succ_of_le (level_le _)⟩
 refine ⟨c0, c1, i0, i1, ?_⟩
 rcases file_of (by
  have := congrArg List.length hKL
  rw [List.length_map, List.length_append, List.length_append] at this
  rw [this]
  show 7 + (_ + 4) = _
  omega) (atK_all hKL) hB with ⟨-, e⟩ | ⟨-, l, k, e⟩
 ·unfold IsX fileS
  rw [hL, e]
 ·rw [e] at hF; cases hF
end Go.Proofs.YtoingpafcodojaaGreatDoor

namespace Go.Proofs.YtoingpafcodojaaGreatDoor
open Go.RowKit

def opsX : List (List UInt8) := [[43], [45], [42], [47], [37], [38], [124], [60, 60], [62, 62], [61, 61], [60], [38, 38], [124, 124]]
theorem opx : ∀ o ∈ opsX, OpX o := by
 intro o ho
 simp only [opsX, List.mem_cons, List.not_mem_nil, or_false] at ho
 rcases ho with rfl | rfl | rfl | rfl | rfl | rfl | rfl | rfl | rfl | rfl | rfl | rfl | rfl <;> exact ⟨by decide +kernel, by decide +kernel, fun Z => by kernel_rfl, fun Z => by kernel_rfl⟩
def nx_ : List UInt8 := [120, 95]
def ny_ : List UInt8 := [121, 95]
def textO (o : List UInt8) : List UInt8 := [120, 95, 32] ++ o ++ [32, 121, 95]
theorem opfile : ∀ o ∈ opsX, fileS (textA (textO o)) = .ok [] [recS] ((CE.bin o (.name nx_) (.name ny_)).flat 0) [bytesT 2] := by
 intro o ho
 simp only [opsX, List.mem_cons, List.not_mem_nil, or_false] at ho
 rcases ho with rfl | rfl | rfl | rfl | rfl | rfl | rfl | rfl | rfl | rfl | rfl | rfl | rfl <;> decide +kernel
theorem opeval (o : List UInt8) (x y : Nat) : evalE (((CE.bin o (.name nx_) (.name ny_)).flat 0).map EX.ei) 2 [(nx_, x), (ny_, y)] = opW o x y := by
 have h := flat_eval (CE.bin o (.name nx_) (.name ny_)) [(nx_, x), (ny_, y)]
 rw [show (CE.bin o (.name nx_) (.name ny_)).ix 0 = 2 from rfl] at h
 rw [h]
 rfl
structure XF (c : CE) : Prop where
 n : XsOk ((c.flat 0).map EX.ei)
 k : ∀ x ∈ (c.flat 0).map EX.ei, x.kids.length ≤ 1000000
 l : ((c.flat 0).map EX.ei).length ≤ 1000000
 z : -9223372036854775808 ≤ c.ix 0 ∧ c.ix 0 ≤ 9223372036854775807
theorem xf_of {c : CE} {s : List UInt8} (h : IsX c (fileS s)) : XF c := by
 obtain ⟨h1, -, h2, h3, h4⟩ := file_expr h
 have := h4 _ List.mem_cons_self
 have h5 : -1 ≤ c.ix 0 ∧ c.ix 0 ≤ 100000 := this
 exact ⟨h2, h3, by rw [List.length_map]; omega, by omega⟩
def fileC (c : CE) : List D := fileD [] [recS] (c.flat 0) [bytesT (c.ix 0)]
theorem evalX {c : CE} (hF : XF c) {A : EV} (hA : A.length ≤ 1000000) (hAn : EnvOk A) : CallsA Tryz.prog ΓL 11 [.c (.eptr (fileC c)), c1 (di (c.ix 0)), c1 (.sl 2 (A.map evD))] (owT (evalT A c.tree)) := by
 have h := (eval_c ((c.flat 0).map EX.ei) A (.sl 2 ([].map coD)) (.sl 3 ([recS].map rcD)) (.sl 8 ([bytesT (c.ix 0)].map tyD)) (c.ix 0) hF.n hAn hA hF.l hF.k hF.z).gL
 rw [flat_eval, ← exD_map] at h
 exact h
theorem numX {c : CE} (hF : XF c) {A : EV} (hAn : EnvOk A) : (evalT A c.tree).1 < 18446744073709551616 := by
 have h := flat_tree c []
 exact evalT_lt hAn _ (exprE_num hF.n c.tree (0 + c.sz - 1) h)
theorem ofX {c : CE} {s : List UInt8} (hs : s.length ≤ 1000000) (h : IsX c (fileS (textA s))) : CallsA Tryz.prog ΓL 13 [c1 (ds (bs s))] (.tup [.c (.eptr (fileC c)), c1 (di (c.ix 0))]) :=
 of_ok s hs h (by decide)
def isOk : FR → Bool
 | .ok _ _ _ _ => true
 | .err _ _ _ => false
theorem isOk_ex {R : FR} (h : isOk R = true) : ∃ cs rs xs ts, R = .ok cs rs xs ts := by
 cases R with
 | ok cs rs xs ts => exact ⟨_, _, _, _, rfl⟩
 | err l c e => cases h
theorem bin_eval (A : EV) (o : List UInt8) (c0 c1' : CE) : evalT A (CE.bin o (.par c0) (.par c1')).tree = (if (evalT A c0.tree).2 = 0 then (if (evalT A c1'.tree).2 = 0 then opW o (evalT A c0.tree).1 (evalT A c1'.tree).1 else evalT A c1'.tree) else evalT A c0.tree) := rfl
set_option maxHeartbeats 8000000 in
theorem exprParts_of (hw : CallsA Tryz.prog ΓL 9 [] (Tb true)) (s0 s1 : List UInt8) (h0 : s0.length ≤ 9223372036854775807) (h1 : s1.length ≤ 9223372036854775807) (k : Nat) (hk : k ≤ 255) (e : EV) (hel : e.length ≤ 9223372036854775807) (hE : EnvOk e) :
  CallsA Tryz.prog ΓL 4 [gD [ds (bs s0), ds (bs s1)], c1 (.v (.int .u8 k)), c1 (.sl 2 (e.map evD))] (Tb true) := by
 have hv := (envs_c e hel).gL
 have hAn : EnvOk (e.take 20) := fun p hp => hE p (List.mem_of_mem_take hp)
 have hAl : (e.take 20).length ≤ 20 := by rw [List.length_take]; omega
 generalize e.take 20 = A at *
 obtain ⟨q, hq⟩ : ∃ q, k % 13 = q := ⟨_, rfl⟩
 have hq13 : q < 13 := by omega
 have hql : q < opsX.length := hq13
 have ho : opsX[q]? = some opsX[q] := at_some hql
 have hom : opsX[q] ∈ opsX := List.getElem_mem hql
 have hol : opsX[q].length ≤ 2 := by
  have : ∀ o ∈ opsX, o.length ≤ 2 := by decide
  exact this _ hom
 have hop := opx _ hom
 have hof := opfile _ hom
 have hoe := opeval opsX[q]
 have hrow : (opsX.map fun o => [ds (bs o)])[((q : Nat) : Int).toNat]? = some [ds (bs opsX[q])] := by rw [Int.toNat_natCast, List.getElem?_map, ho]; rfl
 generalize opsX[q] = o at *
 have key : ∀ s : List UInt8, s.length ≤ 9223372036854775807 → ∃ (a : Nat) (T : List UInt8), (if (200 : Int) < ((bs s).size : Nat) then (200 : Int) else ((bs s).size : Nat)) = (a : Nat) ∧ (bs s).extract (Int.toNat 0) ((a : Nat) : Int).toNat = bs T ∧ T.length ≤ 200 ∧ a ≤ (bs s).size := fun s hs => by
  obtain ⟨a, ha⟩ : ∃ a, min s.length 200 = a := ⟨_, rfl⟩
  have hsz := bs_size s
  refine ⟨a, s.take a, by split <;> omega, ext_take s a, by rw [List.length_take]; omega, by omega⟩
 obtain ⟨a0, T0, m0, e0, l0, b0⟩ := key s0 h0
 obtain ⟨a1, T1, m1, e1, l1, b1⟩ := key s1 h1
 have hsz0 := bs_size s0
 have hsz1 := bs_size s1
 have ht0 := bs_size T0
 have ht1 := bs_size T1
 have hto := bs_size o
 have hpp : ∀ T : List UInt8, CallsA Tryz.prog ΓL 7 [c1 (ds (bs preA ++ bs T ++ bs postA))] (parT (fileS (textA T))) := fun T => by
  rw [bs_app, bs_app]
  exact Parse_c (textA T)
 have hp0 := hpp T0
 have hp1 := hpp T1
 have hpw : CallsA Tryz.prog ΓL 7 [c1 (ds (bs (preA ++ [40]) ++ bs T0 ++ bs [41, 32] ++ bs o ++ bs [32, 40] ++ bs T1 ++ bs ([41] ++ postA)))] (parT (fileS (textB o T0 T1))) := by
  have : textB o T0 T1 = preA ++ [40] ++ T0 ++ [41, 32] ++ o ++ [32, 40] ++ T1 ++ ([41] ++ postA) := by simp [textB]
  rw [bs_app, bs_app, bs_app, bs_app, bs_app, bs_app, this]
  exact Parse_c _
 have q1 : ∀ T : List UInt8, T.length ≤ 200 → (bs preA).size + (bs T).size ≤ 9223372036854775807 := fun T hT => by
  rw [bs_size]
  show 20 + T.length ≤ _
  omega
 have q2 : ∀ T : List UInt8, T.length ≤ 200 → (bs preA ++ bs T).size + (bs postA).size ≤ 9223372036854775807 := fun T hT => by
  rw [ByteArray.size_append, bs_size]
  show 20 + T.length + 4 ≤ _
  omega
 obtain ⟨R0, hR0⟩ : ∃ R, fileS (textA T0) = R := ⟨_, rfl⟩
 obtain ⟨R1, hR1⟩ : ∃ R, fileS (textA T1) = R := ⟨_, rfl⟩
 rw [hR0] at hp0
 rw [hR1] at hp1
 have q10 := q1 T0 l0
 have q20 := q2 T0 l0
 have q11 := q1 T1 l1
 have q21 := q2 T1 l1
 rw [← e0] at hp0 q10 q20
 rw [← e1] at hp1 q11 q21
 refine fn_rule (C := ⟨Tryz.prog, layF, Tryz.f4.ntmps, ΓL, 0, [], []⟩) layF_ok mixed Tryz.func4 rfl (by kernel_rfl) rfl rfl rfl ?_
 repeat' (first | refine qgs ?_ | refine eD ?_ ?_ <;> intro)
 refine ex_is ((q : Nat) : Int) (by rw [← hq]; exact (Int.ofNat_tmod k 13).symm) ?_
 repeat' (first | refine qgs ?_ | refine eD ?_ ?_ <;> intro)
 refine ⟨(by show ((q : Nat) : Int).toNat < 13; omega), rfl, ?_⟩
 repeat' (first | refine qgs ?_ | refine eD ?_ ?_ <;> intro)
 refine ⟨[ds (bs o)], hrow, ?_⟩
 repeat' (first | refine qgs ?_ | refine eD ?_ ?_ <;> intro)
 clear hrow
 refine ex_loop (X := Nat × ByteArray × ByteArray) (fun ⟨i, a, b⟩ => ⟨[(2, .o (c1 (.sl 2 (e.map evD)))), (3, .o (.c (.ptr 0 0))), (6, Tb false), (7, .o (c1 (ds (bs o)))), (36, Ti i)], [(0, .obj [.d (ds a), .d (ds b)])], 1⟩) (fun x => 2 - x.1) (fun ⟨i, a, b⟩ => (i = 0 ∧ a = bs s0 ∧ b = bs s1) ∨ (i = 1 ∧ a = bs T0 ∧ b = bs s1 ∧ isOk R0 = true) ∨ (i = 2 ∧ a = bs T0 ∧ b = bs T1 ∧ isOk R0 = true ∧ isOk R1 = true)) (0, bs s0, bs s1) (.inl ⟨rfl, rfl, rfl⟩) sS ?_
 rintro ⟨i, a, b⟩ hcl
 rcases hcl with ⟨rfl, rfl, rfl⟩ | ⟨rfl, rfl, rfl, g0⟩ | ⟨rfl, rfl, rfl, g0, g1⟩
 ·cases R0 with
  | ok cs rs xs ts =>
   have hp0 : CallsA Tryz.prog ΓL 7 [c1 (ds (bs preA ++ (bs s0).extract (Int.toNat 0) ((a0 : Nat) : Int).toNat ++ bs postA))] (.tup [.c (.eptr (fileD cs rs xs ts)), gD [di 0, di 0], c1 (di 0)]) := hp0
   repeat' (first | refine qgs ?_ | refine eD ?_ ?_ <;> intro)
   refine ex_is _ m0 ?_
   repeat' (first | refine qgs ?_ | refine eD ?_ ?_ <;> intro)
   refine and_mk q10 ?_
   repeat' (first | refine qgs ?_ | refine eD ?_ ?_ <;> intro)
   refine and_mk q20 ?_
   repeat' (first | refine ex_call hp0 ?_ | refine qg1 ?_ | refine eD ?_ ?_ <;> intro)
   exact ex_round (1, (bs s0).extract (Int.toNat 0) ((a0 : Nat) : Int).toNat, bs s1) (.inr (.inl ⟨rfl, e0, rfl, rfl⟩)) (show 2 - 1 < 2 - 0 by decide) sS
  | err l c er =>
   have he := file_errA hR0
   have hp0 : CallsA Tryz.prog ΓL 7 [c1 (ds (bs preA ++ (bs s0).extract (Int.toNat 0) ((a0 : Nat) : Int).toNat ++ bs postA))] (.tup [c1 dnp, gD [di l, di c], c1 (di er)]) := hp0
   repeat' (first | refine qgs ?_ | refine eD ?_ ?_ <;> intro)
   refine ex_is _ m0 ?_
   repeat' (first | refine qgs ?_ | refine eD ?_ ?_ <;> intro)
   refine and_mk q10 ?_
   repeat' (first | refine qgs ?_ | refine eD ?_ ?_ <;> intro)
   refine and_mk q20 ?_
   repeat' (first | refine ex_call hw ?_ | refine ex_call hp0 ?_ | refine qg1 ?_ | refine eD ?_ ?_ <;> intro)
   exact TLe.rfl
 ·cases R1 with
  | ok cs rs xs ts =>
   have hp1 : CallsA Tryz.prog ΓL 7 [c1 (ds (bs preA ++ (bs s1).extract (Int.toNat 0) ((a1 : Nat) : Int).toNat ++ bs postA))] (.tup [.c (.eptr (fileD cs rs xs ts)), gD [di 0, di 0], c1 (di 0)]) := hp1
   repeat' (first | refine qgs ?_ | refine eD ?_ ?_ <;> intro)
   refine ex_is _ m1 ?_
   repeat' (first | refine qgs ?_ | refine eD ?_ ?_ <;> intro)
   refine and_mk q11 ?_
   repeat' (first | refine qgs ?_ | refine eD ?_ ?_ <;> intro)
   refine and_mk q21 ?_
   repeat' (first | refine ex_call hp1 ?_ | refine qg1 ?_ | refine eD ?_ ?_ <;> intro)
   exact ex_round (2, bs T0, (bs s1).extract (Int.toNat 0) ((a1 : Nat) : Int).toNat) (.inr (.inr ⟨rfl, rfl, e1, g0, rfl⟩)) (show 2 - 2 < 2 - 1 by decide) sS
  | err l c er =>
   have he := file_errA hR1
   have hp1 : CallsA Tryz.prog ΓL 7 [c1 (ds (bs preA ++ (bs s1).extract (Int.toNat 0) ((a1 : Nat) : Int).toNat ++ bs postA))] (.tup [c1 dnp, gD [di l, di c], c1 (di er)]) := hp1
   repeat' (first | refine qgs ?_ | refine eD ?_ ?_ <;> intro)
   refine ex_is _ m1 ?_
   repeat' (first | refine qgs ?_ | refine eD ?_ ?_ <;> intro)
   refine and_mk q11 ?_
   repeat' (first | refine qgs ?_ | refine eD ?_ ?_ <;> intro)
   refine and_mk q21 ?_
   repeat' (first | refine ex_call hw ?_ | refine ex_call hp1 ?_ | refine qg1 ?_ | refine eD ?_ ?_ <;> intro)
   exact TLe.rfl
 clear hp0 hp1 q10 q20 q11 q21 hpp q1 q2
 have w1 : (bs (preA ++ [40])).size + (bs T0).size ≤ 9223372036854775807 := by
  rw [ht0]; show 21 + _ ≤ _; omega
 have w2 : (bs (preA ++ [40]) ++ bs T0).size + (bs [41, 32]).size ≤ 9223372036854775807 := by
  rw [ByteArray.size_append, ht0]; show 21 + _ + 2 ≤ _; omega
 have w3 : (bs (preA ++ [40]) ++ bs T0 ++ bs [41, 32]).size + (bs o).size ≤ 9223372036854775807 := by
  rw [ByteArray.size_append, ByteArray.size_append, ht0, hto]; show 21 + _ + 2 + _ ≤ _; omega
 have w4 : (bs (preA ++ [40]) ++ bs T0 ++ bs [41, 32] ++ bs o).size + (bs [32, 40]).size ≤ 9223372036854775807 := by
  rw [ByteArray.size_append, ByteArray.size_append, ByteArray.size_append, ht0, hto]; show 21 + _ + 2 + _ + 2 ≤ _; omega
 have w5 : (bs (preA ++ [40]) ++ bs T0 ++ bs [41, 32] ++ bs o ++ bs [32, 40]).size + (bs T1).size ≤ 9223372036854775807 := by
  rw [ByteArray.size_append, ByteArray.size_append, ByteArray.size_append, ByteArray.size_append, ht0, hto, ht1]; show 21 + _ + 2 + _ + 2 + _ ≤ _; omega
 have w6 : (bs (preA ++ [40]) ++ bs T0 ++ bs [41, 32] ++ bs o ++ bs [32, 40] ++ bs T1).size + (bs ([41] ++ postA)).size ≤ 9223372036854775807 := by
  rw [ByteArray.size_append, ByteArray.size_append, ByteArray.size_append, ByteArray.size_append, ByteArray.size_append, ht0, hto, ht1]; show 21 + _ + 2 + _ + 2 + _ + 5 ≤ _; omega
 obtain ⟨R, hR⟩ : ∃ R, fileS (textB o T0 T1) = R := ⟨_, rfl⟩
 rw [hR] at hpw
 cases R with
 | err l c er =>
  have he := file_errA hR
  have hpw : CallsA Tryz.prog ΓL 7 [c1 (ds (bs (preA ++ [40]) ++ bs T0 ++ bs [41, 32] ++ bs o ++ bs [32, 40] ++ bs T1 ++ bs ([41] ++ postA)))] (.tup [c1 dnp, gD [di l, di c], c1 (di er)]) := hpw
  repeat' (first | refine qgs ?_ | refine eD ?_ ?_ <;> intro)
  refine and_mk w1 ?_
  repeat' (first | refine qgs ?_ | refine eD ?_ ?_ <;> intro)
  refine and_mk w2 ?_
  repeat' (first | refine qgs ?_ | refine eD ?_ ?_ <;> intro)
  refine and_mk w3 ?_
  repeat' (first | refine qgs ?_ | refine eD ?_ ?_ <;> intro)
  refine and_mk w4 ?_
  repeat' (first | refine qgs ?_ | refine eD ?_ ?_ <;> intro)
  refine and_mk w5 ?_
  repeat' (first | refine qgs ?_ | refine eD ?_ ?_ <;> intro)
  refine and_mk w6 ?_
  repeat' (first | refine ex_call hw ?_ | refine ex_call hpw ?_ | refine qg1 ?_ | refine eD ?_ ?_ <;> intro)
  exact TLe.rfl
 | ok cs rs xs ts =>
  obtain ⟨c0, c1', i0, i1, iw⟩ := parts_plain hop (hR0 ▸ isOk_ex g0) (hR1 ▸ isOk_ex g1) ⟨cs, rs, xs, ts, hR⟩
  have hF0 := xf_of i0
  have hF1 := xf_of i1
  have hFw := xf_of iw
  have hpw : CallsA Tryz.prog ΓL 7 [c1 (ds (bs (preA ++ [40]) ++ bs T0 ++ bs [41, 32] ++ bs o ++ bs [32, 40] ++ bs T1 ++ bs ([41] ++ postA)))] (.tup [.c (.eptr (fileC (.bin o (.par c0) (.par c1')))), gD [di 0, di 0], c1 (di 0)]) := by
   have e : FR.ok cs rs xs ts = .ok [] [recS] ((CE.bin o (.par c0) (.par c1')).flat 0) [bytesT ((CE.bin o (.par c0) (.par c1')).ix 0)] := hR.symm.trans iw
   rw [e] at hpw
   exact hpw
  have ho0 := ofX (s := T0) (by omega) i0
  have ho1 := ofX (s := T1) (by omega) i1
  have hv0 := evalX hF0 (A := A) (by omega) hAn
  have hv1 := evalX hF1 (A := A) (by omega) hAn
  have hvw := evalX hFw (A := A) (by omega) hAn
  have hn0 := numX hF0 hAn
  have hn1 := numX hF1 hAn
  rw [bin_eval] at hvw
  have hoO : CallsA Tryz.prog ΓL 13 [c1 (ds (bs (textO o)))] (.tup [.c (.eptr (fileC (.bin o (.name nx_) (.name ny_)))), c1 (di 2)]) := ofX (c := .bin o (.name nx_) (.name ny_)) (by unfold textO; rw [List.length_append, List.length_append]; show 3 + _ + 3 ≤ _; omega) hof
  have hFo : XF (.bin o (.name nx_) (.name ny_)) := xf_of (s := textA (textO o)) hof
  have hvo : ∀ x y : Nat, x < 18446744073709551616 → y < 18446744073709551616 → CallsA Tryz.prog ΓL 11 [.c (.eptr (fileC (.bin o (.name nx_) (.name ny_)))), c1 (di 2), c1 (.sl 2 ([(nx_, x), (ny_, y)].map evD))] (owT (opW o x y)) := fun x y hx hy => by
   have h := evalX hFo (A := [(nx_, x), (ny_, y)]) (by show 2 ≤ _; omega) (by
    intro p hp
    rcases List.mem_cons.1 hp with rfl | hp
    ·exact hx
    ·rw [List.mem_singleton.1 hp]; exact hy)
   exact h
  obtain ⟨⟨x, p⟩, hx⟩ : ∃ v, evalT A c0.tree = v := ⟨_, rfl⟩
  obtain ⟨⟨y, p2⟩, hy⟩ : ∃ v, evalT A c1'.tree = v := ⟨_, rfl⟩
  rw [hx] at hv0 hn0 hvw
  rw [hy] at hv1 hn1 hvw
  have hm : ([bytesT ((CE.bin o (.par c0) (.par c1')).ix 0)].map tyD).length = 1 := rfl
  by_cases hp0 : p = 0
  ·subst hp0
   rw [if_pos rfl] at hvw
   by_cases hp2 : p2 = 0
   ·subst hp2
    rw [if_pos rfl] at hvw
    have hvo := hvo x y hn0 hn1
    obtain ⟨⟨n, r⟩, hr⟩ : ∃ v, opW o x y = v := ⟨_, rfl⟩
    have hvw : CallsA Tryz.prog ΓL 11 _ (owT (opW o x y)) := hvw
    rw [hr] at hvw hvo
    repeat' (first | refine qgs ?_ | refine eD ?_ ?_ <;> intro)
    refine and_mk w1 ?_
    repeat' (first | refine qgs ?_ | refine eD ?_ ?_ <;> intro)
    refine and_mk w2 ?_
    repeat' (first | refine qgs ?_ | refine eD ?_ ?_ <;> intro)
    refine and_mk w3 ?_
    repeat' (first | refine qgs ?_ | refine eD ?_ ?_ <;> intro)
    refine and_mk w4 ?_
    repeat' (first | refine qgs ?_ | refine eD ?_ ?_ <;> intro)
    refine and_mk w5 ?_
    repeat' (first | refine qgs ?_ | refine eD ?_ ?_ <;> intro)
    refine and_mk w6 ?_
    repeat' (first | refine ex_call ho1 ?_ | refine ex_call ho0 ?_ | refine ex_call hv ?_ | refine ex_call hw ?_ | refine ex_call hpw ?_ | refine (ex_is _ hm) ?_ | refine (ex_pn (by kernel_rfl) false (fun _ _ => by kernel_rfl)) ?_ | refine qg1 ?_ | refine eD ?_ ?_ <;> intro)
    refine ex_callM (hv0.toM (by kernel_rfl) (by kernel_rfl) _) ?_
    repeat' (first | refine qgs ?_ | refine eD ?_ ?_ <;> intro)
    refine ex_callM (hv1.toM (by kernel_rfl) (by kernel_rfl) _) ?_
    repeat' (first | refine (ex_row (l := [bytesT ((CE.bin o (.par c0) (.par c1')).ix 0)]) 0 _ rfl rfl) ?_ | refine (ex_is _ hm) ?_ | refine qg1 ?_ | refine eD ?_ ?_ <;> intro)
    refine ex_callM (hvw.toM (by kernel_rfl) (by kernel_rfl) _) ?_
    have v1 : (bs [120, 95, 32]).size + (bs o).size ≤ 9223372036854775807 := by
     rw [hto]; show 3 + _ ≤ _; omega
    have v2 : (bs [120, 95, 32] ++ bs o).size + (bs [32, 121, 95]).size ≤ 9223372036854775807 := by
     rw [ByteArray.size_append, hto]; show 3 + _ + 3 ≤ _; omega
    have hoO : CallsA Tryz.prog ΓL 13 [c1 (ds (bs [120, 95, 32] ++ bs o ++ bs [32, 121, 95]))] (.tup [.c (.eptr (fileC (.bin o (.name nx_) (.name ny_)))), c1 (di 2)]) := by
     rw [bs_app, bs_app]
     exact hoO
    repeat' (first | refine ex_call hoO ?_ | refine qg1 ?_ | refine eD ?_ ?_ <;> intro)
    refine ex_callM (hvo.toM (by kernel_rfl) (by kernel_rfl) _) ?_
    repeat' (first | refine ex_call hw ?_ | refine qg1 ?_ | refine eD ?_ ?_ <;> intro)
    exact TLe.rfl
   ·rw [if_neg hp2] at hvw
    repeat' (first | refine qgs ?_ | refine eD ?_ ?_ <;> intro)
    refine and_mk w1 ?_
    repeat' (first | refine qgs ?_ | refine eD ?_ ?_ <;> intro)
    refine and_mk w2 ?_
    repeat' (first | refine qgs ?_ | refine eD ?_ ?_ <;> intro)
    refine and_mk w3 ?_
    repeat' (first | refine qgs ?_ | refine eD ?_ ?_ <;> intro)
    refine and_mk w4 ?_
    repeat' (first | refine qgs ?_ | refine eD ?_ ?_ <;> intro)
    refine and_mk w5 ?_
    repeat' (first | refine qgs ?_ | refine eD ?_ ?_ <;> intro)
    refine and_mk w6 ?_
    repeat' (first | refine ex_call ho1 ?_ | refine ex_call ho0 ?_ | refine ex_call hv ?_ | refine ex_call hw ?_ | refine ex_call hpw ?_ | refine (ex_is _ hm) ?_ | refine (ex_pn (by kernel_rfl) false (fun _ _ => by kernel_rfl)) ?_ | refine qg1 ?_ | refine eD ?_ ?_ <;> intro)
    refine ex_callM (hv0.toM (by kernel_rfl) (by kernel_rfl) _) ?_
    repeat' (first | refine qgs ?_ | refine eD ?_ ?_ <;> intro)
    refine ex_callM (hv1.toM (by kernel_rfl) (by kernel_rfl) _) ?_
    repeat' (first | refine (ex_row (l := [bytesT ((CE.bin o (.par c0) (.par c1')).ix 0)]) 0 _ rfl rfl) ?_ | refine (ex_is _ hm) ?_ | refine qg1 ?_ | refine eD ?_ ?_ <;> intro)
    refine ex_callM (hvw.toM (by kernel_rfl) (by kernel_rfl) _) ?_
    repeat' (first | refine ex_call hw ?_ | refine qg1 ?_ | refine eD ?_ ?_ <;> intro)
    exact TLe.rfl
  ·rw [if_neg hp0] at hvw
   repeat' (first | refine qgs ?_ | refine eD ?_ ?_ <;> intro)
   refine and_mk w1 ?_
   repeat' (first | refine qgs ?_ | refine eD ?_ ?_ <;> intro)
   refine and_mk w2 ?_
   repeat' (first | refine qgs ?_ | refine eD ?_ ?_ <;> intro)
   refine and_mk w3 ?_
   repeat' (first | refine qgs ?_ | refine eD ?_ ?_ <;> intro)
   refine and_mk w4 ?_
   repeat' (first | refine qgs ?_ | refine eD ?_ ?_ <;> intro)
   refine and_mk w5 ?_
   repeat' (first | refine qgs ?_ | refine eD ?_ ?_ <;> intro)
   refine and_mk w6 ?_
   repeat' (first | refine ex_call ho1 ?_ | refine ex_call ho0 ?_ | refine ex_call hv ?_ | refine ex_call hw ?_ | refine ex_call hpw ?_ | refine (ex_is _ hm) ?_ | refine (ex_pn (by kernel_rfl) false (fun _ _ => by kernel_rfl)) ?_ | refine qg1 ?_ | refine eD ?_ ?_ <;> intro)
   refine ex_callM (hv0.toM (by kernel_rfl) (by kernel_rfl) _) ?_
   repeat' (first | refine qgs ?_ | refine eD ?_ ?_ <;> intro)
   refine ex_callM (hv1.toM (by kernel_rfl) (by kernel_rfl) _) ?_
   repeat' (first | refine (ex_row (l := [bytesT ((CE.bin o (.par c0) (.par c1')).ix 0)]) 0 _ rfl rfl) ?_ | refine (ex_is _ hm) ?_ | refine qg1 ?_ | refine eD ?_ ?_ <;> intro)
   refine ex_callM (hvw.toM (by kernel_rfl) (by kernel_rfl) _) ?_
   repeat' (first | refine ex_call hw ?_ | refine qg1 ?_ | refine eD ?_ ?_ <;> intro)
   exact TLe.rfl
end Go.Proofs.YtoingpafcodojaaGreatDoor

namespace Go.Proofs.YtoingpafcodojaaGreatDoor
open Go.RowKit

def cutK (x : EI) : EI := { x with kids := x.kids.take 4 }
def fxD (xs : List EI) : List D := [dnil, dnil, .sl 5 (xs.map eiD), dnil]
end Go.Proofs.YtoingpafcodojaaGreatDoor

namespace Go.Proofs.YtoingpafcodojaaGreatDoor
open Go.RowKit Go.Shelf

def zqO : List UInt8 := [122, 113, 95, 111, 116, 104, 101, 114]
def zqL : List UInt8 := [122, 113, 95, 108, 97, 115, 116]
def MoreOk (A M : EV) : Prop := ∀ p ∈ M, (p.1 = zqO ∨ ∃ r ∈ A, r.1 = p.1) ∧ p.2 < 18446744073709551616
end Go.Proofs.YtoingpafcodojaaGreatDoor

namespace Go.Proofs.YtoingpafcodojaaGreatDoor
open Go.RowKit

def ΓW : Glob := ⟨ΓL.G, ΓL.mono, [15], ΓL.gl, ΓL.gok⟩
end Go.Proofs.YtoingpafcodojaaGreatDoor

namespace Go.Proofs.YtoingpafcodojaaGreatDoor
open Go.RowKit
section
variable {P : Program}
def EqT (P : Program) (d : Nat) (t : TypeId) (x y : Value) (c : Bool) : Prop := ∀ w, (Op.equalIn d t x y).run P w = .ok c w
def EqFs (P : Program) (d : Nat) (xs ys : List Value) (fs : List Field) (c : Bool) : Prop := ∀ w, (Op.eqFields d xs.toArray ys.toArray fs).run P w = .ok c w
def PartI (P : Program) (t : TypeId) (xs : List Value) (off : Nat) (x : Value) : Prop := ∀ w, (part t xs.toArray off).run P w = .ok x w
def fieldsK (P : Program) (t : TypeId) : List (Bool × Nat × Nat) := (P.fieldsOf t).toList.map fun f => (f.name != "_", f.type, f.offset)
def EqKs (P : Program) (d : Nat) (xs ys : List Value) (ks : List (Bool × Nat × Nat)) (c : Bool) : Prop := ∀ fs : List Field, fs.map (fun f => (f.name != "_", f.type, f.offset)) = ks → EqFs P d xs ys fs c
def isAggB (P : Program) (t : TypeId) : Bool := match P.underlying t with
 | some (.struct _) | some (.array _ _) => true
 | _ => false
def leafI (xs ys : List Value) : Option Bool := match xs, ys with
 | [.int k a], [.int k' b] => if k = k' then some (decide (a = b)) else none
 | _, _ => none
def leafS (xs ys : List Value) : Option Bool := match xs, ys with
 | [.string a], [.string b] => some (decide (a = b))
 | _, _ => none
def leafB (xs ys : List Value) : Option Bool := match xs, ys with
 | [.bool a], [.bool b] => some (decide (a = b))
 | _, _ => none
def eqV (P : Program) : Nat → TypeId → List Value → List Value → Option Bool
 | 0, _, _, _ => none
 | d + 1, t, xs, ys => match P.underlying t with
  | some (.int _) => leafI xs ys
  | some .string => leafS xs ys
  | some .bool => leafB xs ys
  | some (.struct fs) => match P.stoodInHeld t, P.info? t with
   | false, some _ => fs.toList.foldr (fun f r => match f.name != "_", eqV P d f.type ((xs.drop f.offset).take (P.cellsOf f.type)) ((ys.drop f.offset).take (P.cellsOf f.type)), r with
    | true, some b, some c => some (b && c)
    | _, _, _ => none) (some true)
   | _, _ => none
  | some (.array n e) => match P.info? e, P.info? t with
   | some _, some _ => (List.range n).foldr (fun i r => match eqV P d e ((xs.drop (i * P.cellsOf e)).take (P.cellsOf e)) ((ys.drop (i * P.cellsOf e)).take (P.cellsOf e)), r with
    | some b, some c => some (b && c)
    | _, _ => none) (some true)
   | _, _ => none
  | _ => none
def packV (P : Program) (t : TypeId) (xs : List Value) : Value := match isAggB P t with
 | true => .agg xs.toArray
 | false => xs.headD undef
end
end Go.Proofs.YtoingpafcodojaaGreatDoor

namespace Go.Proofs.YtoingpafcodojaaGreatDoor
open Go.RowKit

end Go.Proofs.YtoingpafcodojaaGreatDoor

namespace Go.Proofs.YtoingpafcodojaaGreatDoor
open Go.ChangeShapes Go.WideShapes Go.ChangeAt Go.RowKit

def tilesF (P : Program) : Nat → List Field → Nat → Bool
 | o, [], n => Nat.beq o n
 | o, f :: fs, n => Nat.beq f.offset o && tilesF P (o + P.cellsOf f.type) fs n
def okT (P : Program) : Nat → TypeId → Bool
 | 0, _ => false
 | d + 1, t => match P.underlying t with
  | some .bool | some (.int _) | some .string => true
  | some (.slice e) => Nat.blt 0 (P.cellsOf e) && okT P d e
  | some (.array n e) => Nat.beq (n * P.cellsOf e) (P.cellsOf t) && okT P d e
  | some (.struct fs) => tilesF P 0 fs.toList (P.cellsOf t) && fs.toList.all fun f => okT P d f.type
  | _ => false
def DT (P : Program) : Nat → TypeId → List D → Prop
 | 0, _, _ => False
 | d + 1, t, ds => match P.underlying t with
  | some .bool => ∃ b, ds = [.v (.bool b)]
  | some (.int k) => ∃ z, ds = [.v (.int k z)] ∧ (Lit.int k z).wf = true
  | some .string => ∃ s, ds = [.v (.string s)] ∧ s.size ≤ maxLen
  | some (.slice e) => ∃ rows, ds = [.sl (P.cellsOf e) rows] ∧ rows.length ≤ maxLen ∧ ∀ r ∈ rows, DT P d e r
  | some (.array n e) => ∃ ps : List (List D), ps.length = n ∧ ds = ps.flatten ∧ ∀ p ∈ ps, DT P d e p
  | some (.struct fs) => ∃ ps : List (List D), ds = ps.flatten ∧ All2 (fun (f : Field) p => DT P d f.type p) fs.toList ps
  | _ => False
theorem choose_list {α : Type} {Q : Nat → α → Prop} : ∀ {n : Nat}, (∀ i, i < n → ∃ a, Q i a) → ∃ L : List α, L.length = n ∧ ∀ i a, L[i]? = some a → Q i a
 | 0, _ => ⟨[], rfl, fun i a h => by simp at h⟩
 | n + 1, h => by
  obtain ⟨L, h1, h2⟩ := choose_list (n := n) (fun i hi => h i (by omega))
  obtain ⟨a, ha⟩ := h n (by omega)
  refine ⟨L ++ [a], by simp [h1], fun i b hb => ?_⟩
  rw [List.getElem?_append] at hb
  split at hb
  ·exact h2 i b hb
  ·rename_i hlt
   have hi : i - L.length = 0 := by
    rcases Nat.eq_zero_or_pos (i - L.length) with h | h
    ·exact h
    ·rw [List.getElem?_eq_none (by simp; omega)] at hb; cases hb
   rw [hi] at hb
   simp at hb
   obtain rfl : i = n := by omega
   rw [← hb]; exact ha
theorem flatten_at {α : Type} {size : Nat} (h0 : 0 < size) : ∀ {rows : List (List α)} (_ : ∀ r ∈ rows, r.length = size) {j : Nat} {d : α}, rows.flatten[j]? = some d → ∃ r, rows[j / size]? = some r ∧ r[j % size]? = some d
 | [], _, j, d, h => by simp at h
 | a :: rows, hr, j, d, h => by
  have ha := hr a (by simp)
  by_cases hj : j < size
  ·rw [List.flatten_cons, List.getElem?_append_left (by omega)] at h
   rw [Nat.div_eq_of_lt hj, Nat.mod_eq_of_lt hj]
   exact ⟨a, rfl, h⟩
  ·rw [List.flatten_cons, List.getElem?_append_right (by omega), ha] at h
   obtain ⟨r, h1, h2⟩ := flatten_at h0 (fun r hr' => hr r (by simp [hr'])) h
   refine ⟨r, ?_, ?_⟩
   ·rw [show j / size = (j - size) / size + 1 by rw [Nat.div_eq_sub_div h0 (by omega)]]
    simpa using h1
   ·rw [Nat.mod_eq_sub_mod (by omega)]; exact h2
def Sall (w : World) : Nat → Prop := fun b => b < w.heap.size
theorem cell_lt {w : World} {a : Addr} {u : Value} (h : w.cell? a = some u) : a.block < w.heap.size ∧ a.spot = none := by
 unfold World.cell? at h
 split at h
 ·rename_i c t f hc
  refine ⟨(Array.getElem?_eq_some_iff.1 hc).1, ?_⟩
  split at h
  ·cases h
  ·rename_i hs
   cases hsp : a.spot with
   | none => rfl
   | some k => rw [hsp] at hs; simp at hs
 ·cases h
theorem cells_get {w : World} {base : Nat} {a : Addr} {n : Nat} {cs : List Value} (h : w.cells? base a n = some cs) : cs.length = n ∧ ∀ i, i < n → w.cell? (a.add i) = cs[i]? := by
 unfold World.cells? at h
 split at h
 ·obtain ⟨h1, h2⟩ := mapM_isSome h
  rw [List.length_range] at h1
  refine ⟨h1.symm, fun i hi => ?_⟩
  obtain ⟨b, hb1, hb2⟩ := h2 i i (by simp [hi])
  rw [hb1, hb2]
 ·cases h
section
variable {H : Type} {enc : TypeId × Value → H} {P : Program} {w : World} {base : Nat} {sp : Nat → Bool} {held : Bool}
theorem parts_all {R : D → Value → Prop} {T : Field → List D → Prop} : ∀ (fs : List Field) (o : Nat) (cs : List Value) (n : Nat), cs.length = n → tilesF P o fs n = true → o ≤ n →
  (∀ f ∈ fs, ∃ ds, T f ds ∧ All2 R ds ((cs.drop f.offset).take (P.cellsOf f.type))) → ∃ ps : List (List D), All2 T fs ps ∧ All2 R ps.flatten (cs.drop o)
 | [], o, cs, n, hl, ht, _, _ => by
  have : o = n := Nat.eq_of_beq_eq_true ht
  exact ⟨[], .nil, by rw [List.drop_of_length_le (by omega)]; exact .nil⟩
 | f :: fs, o, cs, n, hl, ht, ho, h => by
  simp only [tilesF, Bool.and_eq_true] at ht
  have ho' : f.offset = o := Nat.eq_of_beq_eq_true ht.1
  obtain ⟨ds, h1, h2⟩ := h f (by simp)
  have hle : o + P.cellsOf f.type ≤ n := by
   have key : ∀ (fs : List Field) (o : Nat), tilesF P o fs n = true → o ≤ n := fun fs => by
    induction fs with
    | nil => intro o h; exact Nat.le_of_eq (Nat.eq_of_beq_eq_true h)
    | cons g gs ih =>
     intro o h
     simp only [tilesF, Bool.and_eq_true] at h
     have := ih _ h.2
     omega
   exact key fs _ ht.2
  obtain ⟨ps, h3, h4⟩ := parts_all fs _ cs n hl ht.2 hle (fun g hg => h g (by simp [hg]))
  refine ⟨ds :: ps, .cons h1 h3, ?_⟩
  rw [List.flatten_cons, ho'] at *
  have := h2.append h4
  rwa [← List.drop_drop, List.take_append_drop] at this
theorem trod_dt : ∀ (d fuel : Nat) (t : TypeId) (cs : List Value) (x : DataW H × List MemPlace), okT P d t = true → DataW.trod enc P w base sp held fuel t cs = some x → ∃ ds, DT P d t ds ∧ All2 (Imm (Sall w) w) ds cs
 | 0, _, _, _, _, h, _ => by cases h
 | d + 1, fuel, t, cs, x, hok, h => by
  unfold okT at hok
  unfold DT
  split at hok
  ·rename_i hu
   obtain ⟨b, rfl, _⟩ := DataW.trod_bool hu h
   exact ⟨_, ⟨b, rfl⟩, .cons (Imm.v rfl) .nil⟩
  ·rename_i k hu
   obtain ⟨n, rfl, _, hw⟩ := DataW.trod_int hu h
   exact ⟨_, ⟨n, rfl, hw⟩, .cons (Imm.v rfl) .nil⟩
  ·rename_i hu
   obtain ⟨s, rfl, _, hs⟩ := DataW.trod_string hu h
   exact ⟨_, ⟨s, rfl, hs⟩, .cons (Imm.v rfl) .nil⟩
  ·rename_i e hu
   simp only [Bool.and_eq_true] at hok
   have h0 : 0 < P.cellsOf e := Nat.lt_of_succ_le (Nat.le_of_ble_eq_true hok.1)
   rcases DataW.trod_slice hu h with ⟨rfl, _⟩ | ⟨a, len, cap, elems, rest, n, _, rfl, _, _, hlc, hcm, hel, hel2, _⟩
   ·exact ⟨_, ⟨[], rfl, by simp, by simp⟩, .cons Imm.nil .nil⟩
   ·have hone : ∀ i, i < len → ∃ ds, DT P d e ds ∧ ∃ cs', w.cells? base (a.add (i * P.cellsOf e)) (P.cellsOf e) = some cs' ∧ All2 (Imm (Sall w) w) ds cs' := fun i hi => by
     have h1 := hel2 i hi
     rw [List.getElem?_eq_getElem (by omega)] at h1
     obtain ⟨cs', h2, h3⟩ := Option.bind_eq_some_iff.1 h1
     obtain ⟨ds, h4, h5⟩ := trod_dt d n e cs' _ hok.2 h3
     exact ⟨ds, h4, cs', h2, h5⟩
    obtain ⟨rows, hr1, hr2⟩ := choose_list hone
    have hrm : ∀ r ∈ rows, ∃ i, i < len ∧ rows[i]? = some r := fun r hr => by
     obtain ⟨i, hi⟩ := List.getElem?_of_mem hr
     exact ⟨i, by have := (List.getElem?_eq_some_iff.1 hi).1; omega, hi⟩
    have hdt : ∀ r ∈ rows, DT P d e r := fun r hr => by
     obtain ⟨i, _, hi⟩ := hrm r hr
     exact (hr2 i r hi).1
    have hrl : ∀ r ∈ rows, r.length = P.cellsOf e := fun r hr => by
     obtain ⟨i, _, hi⟩ := hrm r hr
     obtain ⟨_, cs', h2, h3⟩ := hr2 i r hi
     rw [h3.len, (cells_get h2).1]
    refine ⟨_, ⟨rows, rfl, by omega, hdt⟩, .cons ?_ .nil⟩
    by_cases hz : len = 0
    ·subst hz
     obtain rfl := List.eq_nil_of_length_eq_zero hr1
     exact Imm.sl0
    ·obtain ⟨r0, _, cs0, h2, _⟩ := hone 0 (by omega)
     have h3 := (cells_get h2).2 0 h0
     rw [Nat.zero_mul] at h3
     have e0 : (a.add 0).add 0 = a := rfl
     rw [e0, List.getElem?_eq_getElem (by rw [(cells_get h2).1]; exact h0)] at h3
     obtain ⟨hb, hs⟩ := cell_lt h3
     obtain ⟨g, f, spot⟩ := a
     simp only at hs hb
     subst hs
     rw [← hr1]
     have hat : ∀ j dd, rows.flatten[j]? = some dd → ∃ u, w.cell? ⟨g, f + j, none⟩ = some u ∧ Imm (Sall w) w dd u := fun j dd hj => by
      obtain ⟨r, e1, e2⟩ := flatten_at h0 hrl hj
      obtain ⟨_, cs', e3, e4⟩ := hr2 _ r e1
      obtain ⟨u, e5, e6⟩ := e4.at_left e2
      refine ⟨u, ?_, e6⟩
      have e7 := (cells_get e3).2 (j % P.cellsOf e) (Nat.mod_lt _ h0)
      rw [Addr.add_lit, Addr.add_lit, e5] at e7
      rw [← e7]
      congr 2
      rw [Nat.add_assoc, Nat.mul_comm, Nat.div_add_mod]
     refine Imm.sl (fun j => (w.cell? ⟨g, f + j, none⟩).getD undef) hb (by omega) hrl (fun j dd hj => ?_) (fun j dd hj => ?_)
     ·obtain ⟨u, e1, _⟩ := hat j dd hj
      rw [e1]; rfl
     ·obtain ⟨u, e1, e2⟩ := hat j dd hj
      rw [e1]; exact e2
  ·rename_i n e hu
   simp only [Bool.and_eq_true] at hok
   have hn : n * P.cellsOf e = P.cellsOf t := Nat.eq_of_beq_eq_true hok.1
   obtain ⟨xs, m, _, _, hl, hx, hall⟩ := DataW.trod_array hu h
   have hone : ∀ i, i < n → ∃ ds, DT P d e ds ∧ All2 (Imm (Sall w) w) ds ((cs.drop (i * P.cellsOf e)).take (P.cellsOf e)) := fun i hi => by
    have h1 := hall i hi
    rw [List.getElem?_eq_getElem (by omega)] at h1
    exact trod_dt d m e _ _ hok.2 h1
   obtain ⟨ps, hp1, hp2⟩ := choose_list hone
   refine ⟨ps.flatten, ⟨ps, hp1, rfl, fun p hp => ?_⟩, ?_⟩
   ·obtain ⟨i, hi⟩ := List.getElem?_of_mem hp
    exact (hp2 i p hi).1
   ·have key : ∀ (ps : List (List D)) (o : Nat), (∀ i p, ps[i]? = some p → All2 (Imm (Sall w) w) p ((cs.drop ((o + i) * P.cellsOf e)).take (P.cellsOf e))) → (o + ps.length) * P.cellsOf e = cs.length → All2 (Imm (Sall w) w) ps.flatten (cs.drop (o * P.cellsOf e)) := fun ps => by
     induction ps with
     | nil => intro o _ hlen; rw [List.drop_of_length_le (by simp at hlen; omega)]; exact .nil
     | cons p ps ih =>
      intro o hp hlen
      have h1 := hp 0 p rfl
      have h2 := ih (o + 1) (fun i q hq => by have := hp (i + 1) q (by simpa using hq); rwa [show o + 1 + i = o + (i + 1) by omega]) (by rw [← hlen, List.length_cons]; congr 1; omega)
      rw [List.flatten_cons]
      have := h1.append h2
      rwa [Nat.add_zero, Nat.add_mul, Nat.one_mul, ← List.drop_drop, List.take_append_drop] at this
    have := key ps 0 (fun i p hi => by rw [Nat.zero_add]; exact (hp2 i p hi).2) (by rw [Nat.zero_add, hp1, hn, hl])
    simpa using this
  ·rename_i fs hu
   simp only [Bool.and_eq_true] at hok
   obtain ⟨xs, m, _, _, hl, hx, hall⟩ := DataW.trod_struct hu h
   obtain ⟨ps, h1, h2⟩ := parts_all (R := Imm (Sall w) w) (T := fun f p => DT P d f.type p) fs.toList 0 cs _ hl hok.1 (Nat.zero_le _) (fun f hf => by
    obtain ⟨i, hi⟩ := List.getElem?_of_mem hf
    have hlt := (List.getElem?_eq_some_iff.1 hi).1
    have h1 := hall i f (by simpa using hi)
    rw [List.getElem?_eq_getElem (by simp at hlt; omega)] at h1
    exact trod_dt d m f.type _ _ (List.all_eq_true.1 hok.2 f hf) h1)
   exact ⟨ps.flatten, ⟨ps, rfl, h1⟩, by simpa using h2⟩
  ·cases hok
theorem open_dt {d : Nat} {r : Reach} {b0 : Nat} {t : TypeId} {v : Value} {dd : DataW H} {ps : List MemPlace} (hok : okT P d t = true) (hag : (P.underlying t).map aggD = some false) (hval : Value.okWide P w r b0 t v) (hd : DataW.Trod enc P w base sp held t v dd ps) :
  ∃ x, DT P d t [x] ∧ Imm (Sall w) w x v := by
 obtain ⟨fuel, hf⟩ := hd
 obtain ⟨ds, h1, h2⟩ := trod_dt d fuel t _ _ hok hf
 have hone : v.oneCell' = true := by
  cases d with
  | zero => cases hok
  | succ d =>
   unfold okT at hok
   split at hok
   ·rename_i hu; obtain ⟨b, rfl⟩ := okWide_bool hu hval; rfl
   ·rename_i hu; obtain ⟨n, rfl⟩ := okWide_int hu hval; rfl
   ·rename_i hu; obtain ⟨s, rfl⟩ := okWide_string hu hval; rfl
   ·rename_i hu; obtain ⟨a, l, c, rfl⟩ := okWide_slice hu hval; rfl
   ·rename_i hu; rw [hu] at hag; cases hag
   ·rename_i hu; rw [hu] at hag; cases hag
   ·cases hok
 rw [oneCell_cells hone] at h2
 have hl := h2.len
 match ds, h2, hl with
 | [x], h2, _ => exact ⟨x, h1, h2.head⟩
end
end Go.Proofs.YtoingpafcodojaaGreatDoor

namespace Go.Proofs.YtoingpafcodojaaGreatDoor
open Go.ChangeShapes Go.WideShapes Go.ChangeAt Go.RowKit Go.ChangeMaps


theorem iface_open {P : Program} {w : World} {base fuel : Nat} {sp : Nat → Bool} {held : Bool} {enc : TypeId × Value → Unit} {t : TypeId} {l : List Value} {x : DataW Unit × List MemPlace} {ms : Array (String × TypeId)} (hi : P.underlying t = some (.interface ms))
  (hd : DataW.trod enc P w base sp held fuel t l = some x) : l = [.nilIface] ∨ ∃ u v, l = [.iface u v] := by
 cases fuel with
 | zero => cases hd
 | succ f =>
  simp only [DataW.trod, hi] at hd
  split at hd <;> first | exact .inl rfl | exact .inr ⟨_, _, rfl⟩ | (cases hd; done) | (rename_i h1; cases h1; done) | (rename_i h1 h2; cases h1; done) | (rename_i h1 h2 h3; cases h1; done)
theorem errAt_of {W : World} {n : String} {g : Nat} {cs : Array Value} (hg : Tryz.prog.globalNamed n = some g) (hv : W.var? Tryz.prog n = some cs) (h : cs.toList = [.nilIface] ∨ ∃ u v, cs.toList = [.iface u v]) : ErrAt W g ∧ g < W.heap.size := by
 have hc : ∀ ev, cs.toList = [ev] → W.cell? ⟨g, 0, none⟩ = some ev := fun ev he => by
  rw [World.var?_cell hg hv 0]
  have : cs = #[ev] := by cases cs; simpa using he
  rw [this]; rfl
 refine ⟨?_, ?_⟩
 ·rcases h with h | ⟨u, v, h⟩
  ·exact ⟨_, hc _ h, .inl rfl⟩
  ·exact ⟨_, hc _ h, .inr ⟨u, v, rfl⟩⟩
 ·unfold World.var? at hv
  rw [hg] at hv
  simp only [Option.bind_some] at hv
  by_cases hl : g < W.heap.size
  ·exact hl
  ·rw [Array.getElem?_eq_none (by omega)] at hv; cases hv

theorem list_of {α : Type} {f : α → List D} {p : α → Prop} : ∀ {rows : List (List D)}, (∀ r ∈ rows, ∃ x, p x ∧ r = f x) → ∃ l : List α, rows = l.map f ∧ ∀ x ∈ l, p x
 | [], _ => ⟨[], rfl, by simp⟩
 | r :: rows, h => by
  obtain ⟨x, h1, h2⟩ := h r (by simp)
  obtain ⟨l, h3, h4⟩ := list_of (rows := rows) (f := f) (p := p) (fun q hq => h q (List.mem_cons_of_mem _ hq))
  refine ⟨x :: l, by rw [h2, h3]; rfl, fun y hy => ?_⟩
  rcases List.mem_cons.1 hy with rfl | hy
  ·exact h1
  ·exact h4 y hy
section
variable {P : Program} {d : Nat} {t : TypeId} {ds : List D}
theorem DT_int {k : IntKind} (hu : P.underlying t = some (.int k)) (h : DT P (d + 1) t ds) : ∃ z, ds = [.v (.int k z)] ∧ (Lit.int k z).wf = true := by
 unfold DT at h; rw [hu] at h; exact h
theorem DT_bool (hu : P.underlying t = some .bool) (h : DT P (d + 1) t ds) : ∃ b, ds = [.v (.bool b)] := by
 unfold DT at h; rw [hu] at h; exact h
theorem DT_str (hu : P.underlying t = some .string) (h : DT P (d + 1) t ds) : ∃ s, ds = [.v (.string s)] ∧ s.size ≤ maxLen := by
 unfold DT at h; rw [hu] at h; exact h
theorem DT_slice {e : TypeId} (hu : P.underlying t = some (.slice e)) (h : DT P (d + 1) t ds) : ∃ rows, ds = [.sl (P.cellsOf e) rows] ∧ rows.length ≤ maxLen ∧ ∀ r ∈ rows, DT P d e r := by
 unfold DT at h; rw [hu] at h; exact h
theorem DT_struct {fs : Array Field} (hu : P.underlying t = some (.struct fs)) (h : DT P (d + 1) t ds) : ∃ ps : List (List D), ds = ps.flatten ∧ All2 (fun (f : Field) p => DT P d f.type p) fs.toList ps := by
 unfold DT at h; rw [hu] at h; exact h
theorem DT_array {n : Nat} {e : TypeId} (hu : P.underlying t = some (.array n e)) (h : DT P (d + 1) t ds) : ∃ ps : List (List D), ps.length = n ∧ ds = ps.flatten ∧ ∀ p ∈ ps, DT P d e p := by
 unfold DT at h; rw [hu] at h; exact h
end
theorem cells_of_strs {H : Type} {enc : TypeId × Value → H} {P : Program} {w : World} {base : Nat} {sp : Nat → Bool} {held : Bool} {fuel : Nat} {t e : TypeId} {n : Nat} {cs : List Value} {zs : List (List UInt8)} {p : List MemPlace}
  (ht : P.underlying t = some (.array n e)) (he : P.underlying e = some .string) (hce : P.cellsOf e = 1) (hct : P.cellsOf t = n)
  (h : DataW.trod enc P w base sp held fuel t cs = some (.agg (zs.map fun z => .lit (.string z)), p)) : cs = zs.map fun z => Value.string (bs z) := by
 cases fuel with
 | zero => simp [DataW.trod] at h
 | succ fuel =>
  simp only [DataW.trod, ht, hce, hct, Nat.mul_one] at h
  split at h
  ·rename_i hl
   obtain ⟨xs, hm, hx⟩ := Option.map_eq_some_iff.1 h
   have hxs : xs.map (·.1) = zs.map fun z => (DataW.lit (.string z) : DataW H) := by
    have := congrArg Prod.fst hx
    simpa using this
   have hxl : xs.length = n := by simpa using Lib.mapM_length hm
   have hzl : zs.length = n := by
    have := congrArg List.length hxs
    simp at this
    omega
   apply List.ext_getElem?
   intro i
   by_cases hi : i < n
   ·obtain ⟨b, hb, hf⟩ := Lib.mapM_at hm i i (by simp [hi])
    obtain ⟨z, hc, rfl, _⟩ := DataW.trod_string he hf
    have h1 : cs[i]? = some (.string z) := by
     have := congrArg (·[0]?) hc
     simpa [List.getElem?_take, List.getElem?_drop] using this
    have h2 : (xs.map (·.1))[i]? = some (DataW.lit (.string z.data.toList) : DataW H) := by simp [hb]
    rw [hxs] at h2
    simp only [List.getElem?_map, Option.map_eq_some_iff, DataW.lit.injEq, Lit.string.injEq] at h2
    obtain ⟨z', hz', rfl⟩ := h2
    simp [h1, hz']
   ·rw [List.getElem?_eq_none (by omega), List.getElem?_eq_none (by simp; omega)]
  ·cases h
theorem glob_env {W : World} (h : laidMetH Tryz.prog Rows.exprEnvRow.laid W) (hs : W.ShapedOpen Tryz.prog) : ΓL.G (Sall W) W := by
 obtain ⟨m, hm⟩ := Tryz.laysM145.s1_3 W hs
 rw [MakeChecks.laidMetH_plain _ _ _ (by kernel_rfl)] at h
 obtain ⟨ps, h, -⟩ := h
 obtain ⟨g1, t1, c1, f1, p1, q1, -, -, -, -, h, -⟩ := h
 obtain ⟨g2, t2, c2, f2, p2, q2, -, -, -, -, h, -⟩ := h
 obtain ⟨g3, t3, c3, f3, p3, q3, -, -, -, -, h, -⟩ := h
 obtain ⟨g0, t0, c0, f0, p0, q0, -, -, -, -, h, -⟩ := h
 obtain ⟨g4, t4, c4, f4, p4, q4, hg4, ht4, hv4, hd4, h, -⟩ := h
 obtain ⟨g5, t5, c5, f5, p5, q5, hg5, ht5, hv5, hd5, h, -⟩ := h
 obtain ⟨g6, t6, c6, f6, p6, q6, hg6, ht6, hv6, hd6, h, -⟩ := h
 obtain rfl := Option.some.inj ((show Tryz.prog.globalNamed "strconv.ErrRange" = some 3 by kernel_rfl).symm.trans hg4)
 obtain rfl := Option.some.inj ((show Tryz.prog.globalNamed "strconv.ErrSyntax" = some 2 by kernel_rfl).symm.trans hg5)
 obtain rfl := Option.some.inj ((show Tryz.prog.globalNamed "calliper/lex.signs" = some 0 by kernel_rfl).symm.trans hg6)
 obtain rfl := Option.some.inj ((show (Tryz.prog.globals[3]?).map (·.type) = some 193 by kernel_rfl).symm.trans ht4)
 obtain rfl := Option.some.inj ((show (Tryz.prog.globals[2]?).map (·.type) = some 193 by kernel_rfl).symm.trans ht5)
 obtain rfl := Option.some.inj ((show (Tryz.prog.globals[0]?).map (·.type) = some 169 by kernel_rfl).symm.trans ht6)
 have e4 := errAt_of hg4 hv4 (iface_open Tryz.underlying193 hd4)
 have e5 := errAt_of hg5 hv5 (iface_open Tryz.underlying193 hd5)
 have hc := cells_of_strs (zs := signsL) (n := 29) (t := 169) (e := 9) (by kernel_rfl) (by kernel_rfl) (by kernel_rfl) (by kernel_rfl) hd6
 refine ⟨e5, e4, ⟨m, hm, (cell_lt hm).1⟩, fun j l hj => ?_, ?_⟩
 ·rw [World.var?_cell hg6 hv6 j]
  have : c6 = ⟨signsL.map fun z => Value.string (bs z)⟩ := by cases c6; simpa using hc
  rw [this]
  rw [show (⟨signsL.map fun z => Value.string (bs z)⟩ : Array Value) = (signsL.map fun z => Value.string (bs z)).toArray from rfl, List.getElem?_toArray, List.getElem?_map, hj]
  rfl
 ·have hv := hv6
  unfold World.var? at hv
  rw [hg6] at hv
  simp only [Option.bind_some] at hv
  show 0 < W.heap.size
  by_cases hl : 0 < W.heap.size
  ·exact hl
  ·rw [Array.getElem?_eq_none (by omega)] at hv; cases hv
theorem dt_vars {d : Nat} {x : D} (h : DT Tryz.prog (d + 3) 22 [x]) : ∃ l : EV, x = .sl 2 (l.map evD) ∧ l.length ≤ 9223372036854775807 ∧ ∀ p ∈ l, p.2 < 18446744073709551616 := by
 obtain ⟨rows, h1, h2, h3⟩ := DT_slice Tryz.underlying22 h
 obtain ⟨l, h4, h5⟩ := list_of (f := evD) (p := fun v : BV => v.2 < 18446744073709551616) (fun r hr => by
  obtain ⟨ps, e1, hp⟩ := DT_struct Tryz.underlying112 (h3 r hr)
  obtain ⟨p0, ps, rfl, q0, hp⟩ := hp.cons_left
  obtain ⟨p1, ps, rfl, q1, hp⟩ := hp.cons_left
  obtain rfl := hp.nil_left
  obtain ⟨s, rfl, -⟩ := DT_str Tryz.underlying9 q0
  obtain ⟨z3, rfl, w3⟩ := DT_int Tryz.underlying50 q1
  have h1 := wf_u64 w3
  obtain ⟨n, rfl⟩ := Int.eq_ofNat_of_zero_le h1.1
  refine ⟨⟨s.data.toList, n⟩, by have := h1.2; show n < _; omega, ?_⟩
  rw [e1]
  show _ = [ds (bs s.data.toList), du n]
  rw [show bs s.data.toList = s by simp [bs]]
  rfl)
 have e : Tryz.prog.cellsOf 112 = 2 := by kernel_rfl
 rw [e, h4] at h1
 cases h1
 rw [h4, List.length_map] at h2
 exact ⟨l, rfl, h2, h5⟩
theorem bs_list (s : ByteArray) : bs s.data.toList = s := by simp [bs]
end Go.Proofs.YtoingpafcodojaaGreatDoor

namespace Go.Proofs.YtoingpafcodojaaGreatDoor
open Go.ChangeShapes Go.WideShapes Go.ChangeAt Go.RowKit Go.ChangeMaps

theorem glob_only {W : World} (h : laidMetH Tryz.prog Rows.exprOnlyRow.laid W) (hs : W.ShapedOpen Tryz.prog) : ΓL.G (Sall W) W := glob_env h hs
theorem bs_back (s : ByteArray) : ds (bs s.data.toList) = D.v (.string s) := by rw [bs_list]
theorem dt_exprs {d : Nat} {x : D} (h : DT Tryz.prog (d + 4) 71 [x]) : ∃ l : List EI, x = .sl 5 (l.map eiD) ∧ l.length ≤ 9223372036854775807 ∧ (∀ v ∈ l, v.kids.length ≤ 9223372036854775807) ∧ XsOk l := by
 obtain ⟨rows, h1, h2, h3⟩ := DT_slice Tryz.underlying71 h
 obtain ⟨l, h4, h5⟩ := list_of (f := eiD) (p := fun v : EI => v.kids.length ≤ 9223372036854775807 ∧ v.n < 18446744073709551616) (fun r hr => by
  obtain ⟨ps, e1, hp⟩ := DT_struct Tryz.underlying126 (h3 r hr)
  obtain ⟨p0, ps, rfl, q0, hp⟩ := hp.cons_left
  obtain ⟨p1, ps, rfl, q1, hp⟩ := hp.cons_left
  obtain ⟨p2, ps, rfl, q2, hp⟩ := hp.cons_left
  obtain ⟨p3, ps, rfl, q3, hp⟩ := hp.cons_left
  obtain ⟨p4, ps, rfl, q4, hp⟩ := hp.cons_left
  obtain rfl := hp.nil_left
  obtain ⟨z0, rfl, w0⟩ := DT_int Tryz.underlying3 q0
  obtain ⟨s1, rfl, -⟩ := DT_str Tryz.underlying9 q1
  obtain ⟨z2, rfl, w2⟩ := DT_int Tryz.underlying50 q2
  obtain ⟨s3, rfl, -⟩ := DT_str Tryz.underlying9 q3
  obtain ⟨krows, rfl, k2, k3⟩ := DT_slice Tryz.underlying54 q4
  obtain ⟨ks, rfl, -⟩ := list_of (f := fun z => [di z]) (p := fun _ : Int => True) (rows := krows) (fun r hr => by
   obtain ⟨z, hz, hw⟩ := DT_int Tryz.underlying3 (k3 r hr)
   exact ⟨z, trivial, hz⟩)
  have g1 := wf_u64 w2
  obtain ⟨n, rfl⟩ := Int.eq_ofNat_of_zero_le g1.1
  rw [List.length_map] at k2
  refine ⟨⟨z0, s1.data.toList, n, s3.data.toList, ks⟩, ⟨k2, by have := g1.2; show n < _; omega⟩, ?_⟩
  rw [e1]
  have e : Tryz.prog.cellsOf 3 = 1 := by kernel_rfl
  rw [e]
  show _ = [di z0, ds (bs s1.data.toList), du n, ds (bs s3.data.toList), intsD ks]
  rw [bs_back, bs_back]
  rfl)
 have e : Tryz.prog.cellsOf 126 = 5 := by kernel_rfl
 rw [e, h4] at h1
 cases h1
 rw [h4, List.length_map] at h2
 exact ⟨l, rfl, h2, fun v hv => (h5 v hv).1, fun v hv => (h5 v hv).2⟩
end Go.Proofs.YtoingpafcodojaaGreatDoor

namespace Go.Proofs.YtoingpafcodojaaGreatDoor
open Go.ChangeShapes Go.WideShapes Go.ChangeAt Go.RowKit

theorem All2.d_left {α : Type} {Q : D → α → Prop} {R : CV → α → Prop} (hQ : ∀ d u, Q d u → R (.d d) u) {l : List D} {us : List α} (h : All2 Q l us) : All2 R (l.map .d) us := by
 refine ⟨by rw [List.length_map]; exact h.len, fun i a b ha hb => ?_⟩
 rw [List.getElem?_map] at ha
 cases hx : l[i]? with
 | none => rw [hx] at ha; cases ha
 | some x =>
  rw [hx] at ha
  cases ha
  exact hQ _ _ (h.get i x b hx hb)
section
variable {H : Type} {enc : TypeId × Value → H} {P : Program} {w : World} {base : Nat} {sp : Nat → Bool} {held : Bool}
theorem open_ag {d : Nat} {r : Reach} {b0 : Nat} {t : TypeId} {v : Value} {dd : DataW H} {ps : List MemPlace} (hok : okT P d t = true) (hag : (P.underlying t).map aggD = some true) (hval : Value.okWide P w r b0 t v) (hd : DataW.Trod enc P w base sp held t v dd ps) :
  ∃ x : List D, DT P d t x ∧ V1 ι0 (Sall w) w (gD x) v := by
 obtain ⟨fuel, hf⟩ := hd
 obtain ⟨ds, h1, h2⟩ := trod_dt d fuel t _ _ hok hf
 obtain ⟨cs, rfl⟩ : ∃ cs, v = .agg cs := by
  unfold Value.okWide at hval
  split at hval
  ·obtain ⟨cs, rfl, _⟩ := hval; exact ⟨cs, rfl⟩
  ·obtain ⟨cs, rfl, _⟩ := hval; exact ⟨cs, rfl⟩
  ·rename_i n1 n2
   exfalso
   cases hu : P.underlying t with
   | none => rw [hu] at hag; cases hag
   | some x =>
    rw [hu] at hag
    cases x <;> first | (cases hag; done) | exact n1 _ hu | exact n2 _ _ hu
 exact ⟨ds, h1, cs.toList, by simp, All2.d_left (fun _ _ h => h) h2⟩
end
end Go.Proofs.YtoingpafcodojaaGreatDoor

namespace Go.Proofs.YtoingpafcodojaaGreatDoor
open Go.ChangeShapes Go.WideShapes Go.ChangeAt Go.RowKit Go.ChangeMaps

theorem glob_parts {W : World} (h : laidMetH Tryz.prog Rows.exprPartsRow.laid W) (hs : W.ShapedOpen Tryz.prog) : ΓL.G (Sall W) W := glob_env h hs
theorem exprParts_a (x : List D) (hx : DT Tryz.prog 8 64 x) (n : Int) (hn : 0 ≤ n ∧ n ≤ 255) (y : D) (hy : DT Tryz.prog 8 22 [y]) : CallsA Tryz.prog ΓL 4 [gD x, c1 (.v (.int .u8 n)), c1 y] (.o (c1 (db true))) := by
 obtain ⟨e, rfl, h4, h5⟩ := dt_vars hy
 obtain ⟨ps, h1, rfl, h3⟩ := DT_array Tryz.underlying64 hx
 match ps, h1 with
 | [p0, p1], _ =>
  obtain ⟨s0, rfl, k0⟩ := DT_str Tryz.underlying9 (h3 p0 (by simp))
  obtain ⟨s1, rfl, k1⟩ := DT_str Tryz.underlying9 (h3 p1 (by simp))
  obtain ⟨k, rfl⟩ := Int.eq_ofNat_of_zero_le hn.1
  have := exprParts_of wakes10_c s0.data.toList s1.data.toList (by rw [Array.length_toList]; exact k0) (by rw [Array.length_toList]; exact k1) k (by omega) e h4 h5
  rw [bs_back, bs_back] at this
  exact this
namespace exprParts
set_option maxRecDepth 100000 in
theorem lifted (os : Os) (started : os.Started) (H : Type) (enc : TypeId × Value → H) :
  ReturnsInHanded {} Tryz.checked os 4 .any (fun w args => (Rows.exprPartsSpec.pre enc Tryz.prog Tryz.f4 Rows.exprPartsRow.domain false w args ∧ laidMetH Tryz.prog Rows.exprPartsRow.laid w) ∧ sizedMet enc Tryz.prog Tryz.f4 (OpenSpec.ofChange Rows.exprPartsSpec) false w args) (Rows.exprPartsSpec.post enc Tryz.prog Tryz.f4 false true false false) := by
 show ReturnsInHanded {} Tryz.checked os 4 .any ((OpenSpec.ofChange Rows.exprPartsSpec).preRow enc Tryz.prog Tryz.f4 Rows.exprPartsRow.domain false Rows.exprPartsRow.laid) (((OpenSpec.ofChange Rows.exprPartsSpec).at fun _ _ _ => 0).post enc Tryz.prog Tryz.f4 false true false false)
 refine returnsInHanded_of_row (C := Tryz.checked) own started (by kernel_rfl) Tryz.func4
  (ChangeSpec.witness_shaped (enc := enc) (C := Tryz.checked) (os := os) (X := fun w _ => laidMetH Tryz.prog Rows.exprPartsRow.laid w) false (World.laidAll Tryz.prog os Rows.exprPartsRow.laid) #[.agg #[.string ByteArray.empty, .string ByteArray.empty], .int .u8 0, .slice none 0 0] 8 (World.laidAll_os _ _ _) (World.shaped_of_ZipB (by kernel_rfl) (by kernel_rfl)) (by kernel_rfl) (by kernel_rfl) (by kernel_rfl)
   (by rw [MakeChecks.laidMetH_plain _ _ _ (by kernel_rfl)]; exact laidMet_laidAll _ (by kernel_rfl) (by kernel_rfl))) ?_
 intro W base args ds gs before hval0 hW _ _ hsz0 hLaid hShaped _
 have hsz : (DataW.weightsEach Tryz.prog (Tryz.f4.params.toList ++ Rows.exprPartsSpec.plain.varTypes Tryz.prog) (ds ++ gs)).all (· ≤ reachBytes) = true := hsz0
 have hval : ∀ (j : Nat) t v, Tryz.f4.params[j]? = some t → args[j]? = some v → Value.okWide Tryz.prog W .any base t v := hval0
 clear hsz0 hval0
 have hW' := hW
 obtain ⟨p, q, hA0, hV, rfl, hfz, hnd⟩ := hW
 have hA : DataW.TrodAll enc Tryz.prog W 0 (fun _ => true) true Tryz.f4.params.toList args.toList ds p := hA0
 clear hA0
 rw [Tryz.params4] at hA hval hsz
 obtain ⟨v0, vs0, d0, ds0, p0, q0, hargs, rfl, rfl, h0, r0⟩ := trodAll_cons hA
 obtain ⟨v1, vs1, d1, ds1, p1, q1, rfl, rfl, rfl, h1, r1⟩ := trodAll_cons r0
 obtain ⟨v2, vs2, d2, ds2, p2, q2, rfl, rfl, rfl, h2, r2⟩ := trodAll_cons r1
 obtain ⟨rfl, rfl, rfl⟩ := trodAll_nil r2
 obtain rfl : args = #[v0, v1, v2] := by cases args; simp_all
 obtain ⟨rfl, rfl⟩ := trodVars_none hV
 obtain ⟨s, s_, m0⟩ := open_ag (d := 8) (by kernel_rfl) (by kernel_rfl) (hval 0 64 v0 rfl rfl) h0
 obtain ⟨k, rfl, rfl, rfl, hw1⟩ := open_int Tryz.underlying5 (hval 1 5 v1 rfl rfl) h1
 have w_k := wf_u8 hw1
 obtain ⟨e, e_, m2⟩ := open_dt (d := 8) (by kernel_rfl) (by kernel_rfl) (hval 2 22 v2 rfl rfl) h2
 refine ((exprParts_a s s_ k w_k e e_).2 (Sall W) W [v0, .int .u8 k, v2] (fun _ h => h) (glob_parts hLaid hShaped) (.cons m0 (.cons (Imm.v rfl) (.cons m2 .nil)))).mono fun e W' ⟨xr, _, he, hb, _, _, _, hv⟩ => ?_
 obtain rfl := V_v hv
 subst he
 exact ⟨_, rfl, law_post (ds := [_, _, _]) laidOut hW' rfl (by kernel_rfl) rfl Tryz.underlying4 rfl rfl rfl hb⟩

theorem proved : Rows.ExprPartsSaid :=
 OpenClaim.holds_of_wide 4 Tryz.f4 rfl rfl rfl rfl rfl rfl rfl ⟨rfl, rfl, rfl, rfl, rfl⟩ rfl rfl rfl rfl rfl (by kernel_rfl) Tryz.func4 (by kernel_rfl)
  (of_decide_eq_true (by kernel_rfl)) (by unfold Func.isWrapper; first | (rw [if_pos (by decide +kernel)]; kernel_rfl) | (rw [if_neg (by decide +kernel)]; exact ⟨rfl, rfl⟩))
  (fun os started H enc _ => lifted os started H enc)
theorem card : Rows.ExprPartsCardSaid :=
 Claim7.holds_tied_plain_at .later [] [.data, .data, .data, .data, .sentinel, .sentinel, .data, .pinned] true (true, "17becb4bdc0081d553c93ea4c651e4f2393ed5a7f930a22c0fd518b66bd7328d") true proved (fun _ h => by cases h) (by kernel_rfl) (fun _ h => by cases h) exprParts_row_tie rfl ⟨rfl, rfl⟩ (by kernel_rfl) rfl
  (fun f fn hf hfn => by
   obtain rfl : f = 4 := Option.some.inj ((show Tryz.prog.funcNamed "calliper/calliperlaw10.ExprParts" = some 4 by kernel_rfl).symm.trans hf) |>.symm
   obtain rfl : fn = Tryz.f4 := (Option.some.inj (Tryz.func4.symm.trans hfn)).symm
   exact ⟨by kernel_rfl, fun j t ht => by
    rw [Tryz.params4] at ht
    have hm : t ∈ [64, 5, 22] := by simpa using Array.mem_of_getElem? ht
    have hall : ([64, 5, 22].all fun u => !Tryz.prog.wantsStandIn u) = true := by kernel_rfl
    exact (show Tryz.prog.wantsStandIn t = false by simpa using List.all_eq_true.1 hall t hm)⟩)
  (by kernel_rfl)
end exprParts
end Go.Proofs.YtoingpafcodojaaGreatDoor
