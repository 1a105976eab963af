/- CheckTells: the program's answers are the document's. Condition: the listed package variables hold what the program's text lays. -/
import Derived.Test.YtgfmbkbiingagaaGreatDoorRows
import Derived.WalkKit
import Derived.WalkSpells
import Derived.WalkLawsBesides
import Derived.BigQuiet
import Derived.Lib.Hide
import Derived.Handy
import Derived.StillTail
import Derived.Lib.ConvBytes
import Derived.ProofKit
import Derived.SizedLaws
import Derived.OpenShut
import Derived.MakeChecks
import Derived.Lib.LaidTab
import Derived.Test.YtgfmbkbiingagaaGreatDoorCards
import Derived.Test.YtgfmbkbiingagaaGreatDoorTie
import Derived.Lay
import Derived.SevenTiedAt
import Derived.Deep.DeepHandedRow
import Derived.Test.YtgfmbkbiingagaaGreatDoorZ1
import Derived.Test.YtgfmbkbiingagaaGreatDoorZ2
import Derived.Test.YtgfmbkbiingagaaGreatDoorZ3
import Derived.Test.YtgfmbkbiingagaaGreatDoorZ4
namespace Go.Proofs.YtgfmbkbiingagaaGreatDoor
set_option linter.unusedVariables false
set_option linter.unusedSimpArgs false
open Go.RowKit
set_option maxRecDepth 100000

theorem nodup_filter {l : List Int} (p : Int → Bool) (h : l.Nodup) : (l.filter p).Nodup := h.filter p
/-- What the rounds keep. -/
structure RI (fs : List FN) (cs : List IN) (fn : Nat) (fr tt : Int) (R : SG) (g : SG) (i : Int) : Prop where
  kn : KnOk cs.length g
  lt : LetG g
  lo : fr ≤ i
  hi : i ≤ tt
  ge : ∀ j ∈ g.lf, i ≤ j ∧ fr ≤ j ∧ j < tt
  run : ∀ N, g.rest cs.length < N → SG.run fs cs fn fr tt N g = R
set_option maxHeartbeats 8000000 in
theorem rfunction_c {fs : List FN} {cs : List IN} {fn : Nat} {f : FN} (h : FrOk fs cs fn f) (hft : f.e < toV fs cs fn) : CallsA Tryz.prog Γ0 8 [gD [.sl 3 (fs.map fnD), .sl 4 (cs.map inD)], c1 (di fn)] (.tup [c1 (di (functionV fs cs fn).1), c1 (di (functionV fs cs fn).2)]) := by
  obtain ⟨hF, hc, hf, hlo, hhi, hto⟩ := h
  have hlt : fn < fs.length := (List.getElem?_eq_some_iff.1 hf).1
  have hfl : fs.length ≤ 64 := hF.1
  have hfm : (fs.map fnD).length = fs.length := List.length_map _
  have hcm : (cs.map inD).length = cs.length := List.length_map _
  have hfe : fs.getD fn zF = f := by rw [List.getD, hf]; rfl
  obtain ⟨R, hR⟩ : ∃ R, R = SG.run fs cs fn f.e (toV fs cs fn) (2 * cs.length + 2) (SG.start f.e) := ⟨_, rfl⟩
  have hfv : functionV fs cs fn = (R.w, R.d) := by unfold functionV; rw [hfe, hR]
  rw [hfv]
  obtain ⟨hs1, hs2⟩ := SG.start_ok (n := cs.length) ⟨hlo, hhi⟩
  obtain ⟨fr, hfr⟩ : ∃ fr : Nat, f.e = fr := ⟨f.e.toNat, by omega⟩
  refine fn_rule (C := ⟨Tryz.prog, layF, Tryz.f8.ntmps, Γ0, 0, [], [5,21,29,31,33,47]⟩) layF_ok mixed Tryz.func8 rfl (by kernel_rfl) rfl rfl rfl ?_
  repeat' (first | refine (ex_is _ hcm) ?_ | refine (ex_is ([di f.e, di f.s, di f.p] : List D) rfl) ?_ | refine (ex_row fn f rfl hf) ?_ | refine ex_true (by first | decide | omega | assumption | (with_reducible exact rfl)) ?_ | refine ex_false (by first | decide | omega | assumption | exact (fun h => h rfl)) ?_ | refine ex_dec (fun _ => ?_) (fun _ => ?_) | refine ex_u8 _ rfl (by omega) (by omega) ?_ | refine ex_i64 _ rfl (by omega) (by omega) ?_ | refine ex_u64 _ rfl (by omega) (by omega) ?_ | refine and_mk (by first | omega | (with_reducible rfl) | (show drawOk _ _ _ = true; kernel_rfl)) ?_ | refine and_mk ⟨_, rfl⟩ ?_ | refine ex_is _ (List.length_map _) ?_ | refine ex_is _ List.length_nil ?_ | fail "no step")
  refine ex_join (X := Int) (fun z => ⟨[(1, Ti fn), (2, .o (.c (.ptr 0 0))), (6, Ti fr), (7, Ti z)], [(0, .obj [.d (.sl 3 (fs.map fnD)), .d (.sl 4 (cs.map inD))])], 1⟩) (fun z => z = toV fs cs fn) ?_ ?_
  · by_cases h2 : fn + 1 < fs.length
    · have hx : fs[fn + 1]? = some (fs[fn + 1]'h2) := at_some h2
      have htv : toV fs cs fn = (fs[fn + 1]'h2).e := by unfold toV; rw [if_pos h2, List.getD, hx]; rfl
      rw [htv]
      generalize fs[fn + 1]'h2 = f2 at *
      repeat' (first | refine ex_i64 ((fn + 1 : Nat) : Int) (by omega) (by omega) (by omega) ?_ | refine ex_u64 ((fn + 1 : Nat) : Int) (by omega) (by omega) (by omega) ?_ | refine ex_u8 ((fn + 1 : Nat) : Int) (by omega) (by omega) (by omega) ?_ | refine (ex_is _ hfm) ?_ | refine (ex_is ([di f2.e, di f2.s, di f2.p] : List D) rfl) ?_ | refine (ex_row (fn + 1) f2 rfl hx) ?_ | refine ex_true (by first | decide | omega | assumption | (with_reducible exact rfl)) ?_ | refine ex_false (by first | decide | omega | assumption | exact (fun h => h rfl)) ?_ | refine ex_dec (fun _ => ?_) (fun _ => ?_) | refine ex_u8 _ rfl (by omega) (by omega) ?_ | refine ex_i64 _ rfl (by omega) (by omega) ?_ | refine ex_u64 _ rfl (by omega) (by omega) ?_ | refine and_mk (by first | omega | (with_reducible rfl) | (show drawOk _ _ _ = true; kernel_rfl)) ?_ | refine and_mk ⟨_, rfl⟩ ?_ | refine ex_is _ (List.length_map _) ?_ | refine ex_is _ List.length_nil ?_ | fail "no step")
      rw [hfr]
      exact ex_meet _ rfl (SLe.of ⟨⟨rfl, rfl, rfl, rfl, trivial⟩, ⟨rfl, trivial⟩⟩)
    · have htv : toV fs cs fn = cs.length := by unfold toV; rw [if_neg h2]
      rw [htv]
      repeat' (first | refine ex_i64 ((fn + 1 : Nat) : Int) (by omega) (by omega) (by omega) ?_ | refine ex_u64 ((fn + 1 : Nat) : Int) (by omega) (by omega) (by omega) ?_ | refine ex_u8 ((fn + 1 : Nat) : Int) (by omega) (by omega) (by omega) ?_ | refine (ex_is _ hfm) ?_ | refine ex_true (by first | decide | omega | assumption | (with_reducible exact rfl)) ?_ | refine ex_false (by first | decide | omega | assumption | exact (fun h => h rfl)) ?_ | refine ex_dec (fun _ => ?_) (fun _ => ?_) | refine ex_u8 _ rfl (by omega) (by omega) ?_ | refine ex_i64 _ rfl (by omega) (by omega) ?_ | refine ex_u64 _ rfl (by omega) (by omega) ?_ | refine and_mk (by first | omega | (with_reducible rfl) | (show drawOk _ _ _ = true; kernel_rfl)) ?_ | refine and_mk ⟨_, rfl⟩ ?_ | refine ex_is _ (List.length_map _) ?_ | refine ex_is _ List.length_nil ?_ | fail "no step")
      rw [hfr]
      exact ex_meet _ rfl (SLe.of ⟨⟨rfl, rfl, rfl, rfl, trivial⟩, ⟨rfl, trivial⟩⟩)
  rintro z hz
  rw [← hz] at hR hto hft
  clear hfv
  have hn49 : ((cs.length : Nat) : Int).toNat * 49 ≤ 140737488355328 := by omega
  have hn2 : ((cs.length : Nat) : Int).toNat * 2 ≤ 140737488355328 := by omega
  have hrep : List.replicate ((cs.length : Nat) : Int).toNat [db false, di 0, dnil, db false, db false] = List.replicate cs.length (stK5 false ss0) := by rw [Int.toNat_natCast]; rfl
  have hrep2 : List.replicate ((cs.length : Nat) : Int).toNat [db false] = List.replicate cs.length [db false] := by rw [Int.toNat_natCast]
  have hfrl : fr < cs.length := by omega
  have hg1 : (List.replicate cs.length (stK5 false ss0))[((fr : Nat) : Int).toNat]? = some (stK5 false ss0) := by rw [Int.toNat_natCast, List.getElem?_replicate, if_pos hfrl]
  have hg2 : (List.replicate cs.length [db false])[((fr : Nat) : Int).toNat]? = some [db false] := by rw [Int.toNat_natCast, List.getElem?_replicate, if_pos hfrl]
  have hl1 : ((fr : Nat) : Int).toNat < (List.replicate cs.length (stK5 false ss0)).length := by rw [List.length_replicate]; omega
  have hl2 : ((fr : Nat) : Int).toNat < (List.replicate cs.length [db false]).length := by rw [List.length_replicate]; omega
  have hset1 : (List.replicate cs.length (stK5 false ss0)).set ((fr : Nat) : Int).toNat [db true, di 0, dnil, db false, db false] = (List.replicate cs.length (stK5 false ss0)).set fr (stK5 true ss0) := by rw [Int.toNat_natCast]; rfl
  have hset2 : (List.replicate cs.length [db false]).set ((fr : Nat) : Int).toNat [db true] = (List.replicate cs.length [db false]).set fr [db true] := by rw [Int.toNat_natCast]
  have hK0 : KR cs.length (SG.start fr) ((List.replicate cs.length (stK5 false ss0)).set fr (stK5 true ss0)) := by
    have h0 : KR cs.length ⟨[], [], 0, -1⟩ (List.replicate cs.length (stK5 false ss0)) := ⟨List.length_replicate, fun k hk => by rw [List.getElem?_replicate, if_pos hk]; rfl⟩
    exact h0.come (s := ss0) hfrl rfl
  have hB0 : BR cs.length (SG.start fr) ((List.replicate cs.length [db false]).set fr [db true]) := by
    have h0 : BR cs.length ⟨[], [], 0, -1⟩ (List.replicate cs.length [db false]) := ⟨List.length_replicate, fun k hk => by rw [List.getElem?_replicate, if_pos hk]; simp⟩
    exact h0.come (s := ss0) hfrl rfl
  rw [hfr] at hR hs1 hs2
  have hI0 : RI fs cs fn fr z R (SG.start fr) fr := by
    refine ⟨⟨hs1, by omega, fun p hp => ?_⟩, fun p hp => ?_, Int.le_refl _, ?_, fun j hj => ?_, fun N hN => ?_⟩
    · obtain rfl : p = ((fr : Int), ss0) := by simpa [SG.start] using hp
      exact ⟨Int.le_refl 0, by show (0 : Int) ≤ 512; decide, by show 0 + 1 ≤ 1; decide⟩
    · obtain rfl : p = ((fr : Int), ss0) := by simpa [SG.start] using hp
      intro c hc; cases hc
    · omega
    · obtain rfl : j = (fr : Int) := by simpa [SG.start] using hj
      exact ⟨Int.le_refl _, Int.le_refl _, by omega⟩
    · rw [hR]
      exact SG.run_end (by omega) hto fs fn N _ hs1 hN hs2
  generalize (List.replicate cs.length (stK5 false ss0)).set fr (stK5 true ss0) = K0 at *
  generalize (List.replicate cs.length [db false]).set fr [db true] = B0 at *
  repeat' (first | refine (ex_is _ hset2) ?_ | refine (ex_is _ hset1) ?_ | refine (ex_atR hg2) ?_ | refine (ex_atR hg1) ?_ | refine (and_mk hl2) ?_ | refine (and_mk hl1) ?_ | refine (ex_is _ hrep2) ?_ | refine (ex_is _ hrep) ?_ | refine (and_mk hn2) ?_ | refine (and_mk hn49) ?_ | refine (ex_is _ hcm) ?_ | refine ex_true (by first | decide | omega | assumption | (with_reducible exact rfl)) ?_ | refine ex_false (by first | decide | omega | assumption | exact (fun h => h rfl)) ?_ | refine ex_dec (fun _ => ?_) (fun _ => ?_) | refine ex_u8 _ rfl (by omega) (by omega) ?_ | refine ex_i64 _ rfl (by omega) (by omega) ?_ | refine ex_u64 _ rfl (by omega) (by omega) ?_ | refine and_mk (by first | omega | (with_reducible rfl) | (show drawOk _ _ _ = true; kernel_rfl)) ?_ | refine and_mk ⟨_, rfl⟩ ?_ | refine ex_is _ (List.length_map _) ?_ | refine ex_is _ List.length_nil ?_ | fail "no step")
  refine ex_loop (X := SG × Int × List (List D) × List (List D)) (fun ⟨g, i, K, B⟩ => ⟨[(1, Ti fn), (2, .o (.c (.ptr 0 0))), (6, Ti fr), (7, Ti z), (8, .o (.c (.row 1))), (9, .o (.c (.row 2))), (10, Ti g.w), (11, Ti g.d), (12, Ti i)], [(0, .obj [.d (.sl 3 (fs.map fnD)), .d (.sl 4 (cs.map inD))]), (1, .row 5 60 K), (2, .row 1 4 B)], 3⟩) (fun x => x.1.rest cs.length * (cs.length + 2) + (z - x.2.1).toNat) (fun ⟨g, i, K, B⟩ => RI fs cs fn fr z R g i ∧ KR cs.length g K ∧ BR cs.length g B) (SG.start fr, fr, K0, B0) ⟨hI0, hK0, hB0⟩ (SLe.of ⟨⟨rfl, rfl, rfl, rfl, rfl, rfl, rfl, rfl, rfl, trivial⟩, ⟨rfl, rfl, rfl, trivial⟩⟩) ?_
  rintro ⟨g, i, K, B⟩ ⟨⟨hkn, hlet, hlo', hhi', hge, hrun⟩, hK, hB⟩
  obtain ⟨i, rfl⟩ : ∃ k : Nat, i = k := ⟨i.toNat, by omega⟩
  by_cases hiz : (i : Int) < z
  · have hic : i < cs.length := by omega
    have hbi := hB.2 i hic
    have hBl : ((i : Nat) : Int).toNat < B.length := by rw [Int.toNat_natCast, hB.1]; exact hic
    by_cases hmem : (i : Int) ∈ g.lf
    · rw [decide_eq_true hmem] at hbi
      have hmin := min_is hmem (fun j hj => (hge j hj).1)
      have hne : g.lf ≠ [] := fun e => by rw [e] at hmem; cases hmem
      obtain ⟨s, hs⟩ := Option.isSome_iff_exists.1 (hkn.1.2.2 _ hmem)
      have hpb := hkn.2.2 _ (SG.at_mem hs)
      have hsl := hlet _ (SG.at_mem hs)
      dsimp only at hpb hsl
      have hknl := hkn.kn
      have hKi : K[((i : Nat) : Int).toNat]? = some (stK5 true s) := by rw [Int.toNat_natCast, hK.2 i hic, hs]; rfl
      have hKl : ((i : Nat) : Int).toNat < K.length := by rw [Int.toNat_natCast, hK.1]; exact hic
      have hci : cs[i]? = some (cs[i]'hic) := at_some hic
      obtain ⟨x, hx⟩ : ∃ x, x = cs[i]'hic := ⟨_, rfl⟩
      rw [← hx] at hci
      clear hx
      obtain ⟨q1, q2⟩ := SG.less_ok hkn.1 hne
      obtain ⟨p1, p2⟩ := SG.pull_ok hkn.1 hne (Int.natCast_nonneg fr) hto fs cs fn
      obtain ⟨g1, hg1⟩ : ∃ g1 : SG, g1 = { g with lf := g.lf.filter fun k => !decide (k = (i : Int)) } := ⟨_, rfl⟩
      have hpull : SG.pull fs cs fn fr z g = SG.step fs cs fn fr z g1 i := by unfold SG.pull; rw [hmin, hg1]
      have hg1k : KnOk cs.length g1 := by
        rw [hg1]
        rw [hmin] at q1 q2
        exact ⟨q1, by have := hkn.2.1; omega, hkn.2.2⟩
      have hs1' : g1.at i = some s := by rw [hg1]; exact hs
      have hB1 : BR cs.length g1 (B.set i [db false]) := by rw [hg1]; exact hB.less hic
      have hBset : B.set ((i : Nat) : Int).toNat [db false] = B.set i [db false] := by rw [Int.toNat_natCast]
      have hK1 : KR cs.length g1 K := by rw [hg1]; exact hK
      have hlf1 : ∀ j ∈ g1.lf, (i : Int) + 1 ≤ j ∧ (fr : Int) ≤ j ∧ j < z := fun j hj => by
        rw [hg1] at hj
        obtain ⟨h1, h2⟩ := List.mem_filter.1 hj
        have h3 : ¬ j = (i : Int) := by simpa using h2
        have := hge j h1
        omega
      have hg1l : LetG g1 := by rw [hg1]; exact hlet
      have hrn : ∀ N, (SG.pull fs cs fn fr z g).rest cs.length < N → SG.run fs cs fn fr z N (SG.pull fs cs fn fr z g) = R := fun N hN => by
        have := hrun (g.rest cs.length + 1) (by omega)
        rw [SG.run, if_neg hne] at this
        rw [← this]
        exact SG.run_end (Int.natCast_nonneg fr) hto fs fn N _ p1 hN p2
      obtain ⟨g2, hg2⟩ : ∃ g2 : SG, g2 = { g1 with d := max g1.d s.k } := ⟨_, rfl⟩
      have hst : SG.step fs cs fn fr z g1 i = if fitsV fs fn fr z x s = false then g2.fault i else (goesV x i).foldl (SG.go fr z i (nextV fs x s)) g2 := by
        unfold SG.step
        rw [Int.toNat_natCast, List.getD, hci, hs1', hg2]; rfl
      have e1 : g1.w = g.w := by rw [hg1]
      have e2 : g1.d = g.d := by rw [hg1]
      have e3 : g2.w = g.w := by rw [hg2]; exact e1
      have e4 : g2.d = max g.d s.k := by rw [hg2]; show max g1.d s.k = _; rw [e2]
      have hmxd : max g.d s.k = (if g.d < s.k then s.k else g.d) := by split <;> omega
      have hFit := rfits_c fs cs fn fr z hf (by omega) x s (by omega) hsl
      have hPO : KnOk cs.length (SG.pull fs cs fn fr z g) ∧ LetG (SG.pull fs cs fn fr z g) ∧ ∀ j ∈ (SG.pull fs cs fn fr z g).lf, j ∈ g1.lf ∨ placeV fr z j = true := by
        rw [hpull]
        refine ⟨hg1k.step (Int.natCast_nonneg fr) hto hF cs fn hs1', ?_, ?_⟩
        · rw [hst]
          split
          · rw [hg2]; exact hg1l
          · exact LetG.gos (g := g2) (by rw [hg2]; exact hg1l) (next_let hsl) (by rw [hg2]; exact hg1l)
        · rw [hst]
          intro j hj
          split at hj
          · rw [hg2] at hj; exact .inl hj
          · rcases gos_lf hj with h | h
            · rw [hg2] at h; exact .inl h
            · exact .inr h
      have hRI : ∀ i' : Int, (fr : Int) ≤ i' → i' ≤ z → (∀ j ∈ (SG.pull fs cs fn fr z g).lf, i' ≤ j) → RI fs cs fn fr z R (SG.pull fs cs fn fr z g) i' := fun i' h1 h2 h3 => ⟨hPO.1, hPO.2.1, h1, h2, fun j hj => by
        refine ⟨h3 j hj, ?_⟩
        rcases hPO.2.2 j hj with h | h
        · exact (hlf1 j h).2
        · have := of_decide_eq_true h; exact this, hrn⟩
      obtain ⟨o, a, b, n⟩ := x
      obtain ⟨k, so, m, w⟩ := s
      dsimp only at hmxd e4
      repeat' (first | refine (ex_atR hKi) ?_ | refine (and_mk hKl) ?_ | refine (ex_row i (⟨o, a, b, n⟩ : IN) rfl hci) ?_ | refine (ex_is _ hBset) ?_ | refine (ex_atR hbi) ?_ | refine (and_mk hBl) ?_ | refine ex_true (by first | decide | omega | assumption | (with_reducible exact rfl)) ?_ | refine ex_false (by first | decide | omega | assumption | exact (fun h => h rfl)) ?_ | refine ex_dec (fun _ => ?_) (fun _ => ?_) | refine ex_u8 _ rfl (by omega) (by omega) ?_ | refine ex_i64 _ rfl (by omega) (by omega) ?_ | refine ex_u64 _ rfl (by omega) (by omega) ?_ | refine and_mk (by first | omega | (with_reducible rfl) | (show drawOk _ _ _ = true; kernel_rfl)) ?_ | refine and_mk ⟨_, rfl⟩ ?_ | refine ex_is _ (List.length_map _) ?_ | refine ex_is _ List.length_nil ?_ | fail "no step")
      refine ex_join (X := Int) (fun dd => ⟨[(1, Ti fn), (2, .o (.c (.ptr 0 0))), (6, Ti fr), (7, Ti z), (8, .o (.c (.row 1))), (9, .o (.c (.row 2))), (10, Ti g.w), (11, Ti dd), (12, Ti i), (13, Ti i), (14, .o (.c (.ptr 3 0))), (15, .o (.c (.ptr 4 0)))], [(0, .obj [.d (.sl 3 (fs.map fnD)), .d (.sl 4 (cs.map inD))]), (1, .row 5 60 K), (2, .row 1 4 (B.set i [db false])), (3, .obj [.d (di o), .d (di a), .d (di b), .d (du n)]), (4, .obj [.d (db true), .d (di k), .d (opD so), .d (db m), .d (db w)])], 5⟩) (fun dd => dd = max g.d k) ?_ ?_
      · by_cases hdk : g.d < k
        · repeat' (first | refine ex_true (by first | decide | omega | assumption | (with_reducible exact rfl)) ?_ | refine ex_false (by first | decide | omega | assumption | exact (fun h => h rfl)) ?_ | refine ex_dec (fun _ => ?_) (fun _ => ?_) | refine ex_u8 _ rfl (by omega) (by omega) ?_ | refine ex_i64 _ rfl (by omega) (by omega) ?_ | refine ex_u64 _ rfl (by omega) (by omega) ?_ | refine and_mk (by first | omega | (with_reducible rfl) | (show drawOk _ _ _ = true; kernel_rfl)) ?_ | refine and_mk ⟨_, rfl⟩ ?_ | refine ex_is _ (List.length_map _) ?_ | refine ex_is _ List.length_nil ?_ | fail "no step")
          exact ex_meet k (by omega) (SLe.of ⟨⟨rfl, rfl, rfl, rfl, rfl, rfl, rfl, rfl, rfl, rfl, rfl, rfl, trivial⟩, ⟨rfl, rfl, rfl, rfl, rfl, trivial⟩⟩)
        · repeat' (first | refine ex_true (by first | decide | omega | assumption | (with_reducible exact rfl)) ?_ | refine ex_false (by first | decide | omega | assumption | exact (fun h => h rfl)) ?_ | refine ex_dec (fun _ => ?_) (fun _ => ?_) | refine ex_u8 _ rfl (by omega) (by omega) ?_ | refine ex_i64 _ rfl (by omega) (by omega) ?_ | refine ex_u64 _ rfl (by omega) (by omega) ?_ | refine and_mk (by first | omega | (with_reducible rfl) | (show drawOk _ _ _ = true; kernel_rfl)) ?_ | refine and_mk ⟨_, rfl⟩ ?_ | refine ex_is _ (List.length_map _) ?_ | refine ex_is _ List.length_nil ?_ | fail "no step")
          exact ex_meet g.d (by omega) (SLe.of ⟨⟨rfl, rfl, rfl, rfl, rfl, rfl, rfl, rfl, rfl, rfl, rfl, rfl, trivial⟩, ⟨rfl, rfl, rfl, rfl, rfl, trivial⟩⟩)
      rintro dd hdd
      rw [← e4] at hdd
      subst hdd
      repeat' (first | refine ex_call hFit ?_ | refine ex_true (by first | decide | omega | assumption | (with_reducible exact rfl)) ?_ | refine ex_false (by first | decide | omega | assumption | exact (fun h => h rfl)) ?_ | refine ex_dec (fun _ => ?_) (fun _ => ?_) | refine ex_u8 _ rfl (by omega) (by omega) ?_ | refine ex_i64 _ rfl (by omega) (by omega) ?_ | refine ex_u64 _ rfl (by omega) (by omega) ?_ | refine and_mk (by first | omega | (with_reducible rfl) | (show drawOk _ _ _ = true; kernel_rfl)) ?_ | refine and_mk ⟨_, rfl⟩ ?_ | refine ex_is _ (List.length_map _) ?_ | refine ex_is _ List.length_nil ?_ | fail "no step")
      refine ex_join (X := SG × Int × Int × List (List D) × List (List D)) (fun ⟨h, bz, ag, K', B'⟩ => ⟨[(1, Ti fn), (2, .o (.c (.ptr 0 0))), (6, Ti fr), (7, Ti z), (8, .o (.c (.row 1))), (9, .o (.c (.row 2))), (10, Ti h.w), (11, Ti h.d), (12, Ti i), (13, Ti bz), (17, Ti ag)], [(0, .obj [.d (.sl 3 (fs.map fnD)), .d (.sl 4 (cs.map inD))]), (1, .row 5 60 K'), (2, .row 1 4 (B'))], 3⟩) (fun ⟨h, bz, ag, K', B'⟩ => ∃ b : Bool, endR i (h, b) = SG.pull fs cs fn fr z g ∧ bz = (if b = true then (i : Int) else -1) ∧ KR cs.length h K' ∧ BR cs.length h B' ∧ (fr : Int) ≤ ag + 1 ∧ ag ≤ i ∧ ∀ j ∈ h.lf, ag + 1 ≤ j) ?_ ?_
      · cases hfit : fitsV fs fn fr z ⟨o, a, b, n⟩ ⟨k, so, m, w⟩ with
        | false =>
          rw [hfit] at hst
          rw [if_pos rfl] at hst
          repeat' (first | refine ex_true (by first | decide | omega | assumption | (with_reducible exact rfl)) ?_ | refine ex_false (by first | decide | omega | assumption | exact (fun h => h rfl)) ?_ | refine ex_dec (fun _ => ?_) (fun _ => ?_) | refine ex_u8 _ rfl (by omega) (by omega) ?_ | refine ex_i64 _ rfl (by omega) (by omega) ?_ | refine ex_u64 _ rfl (by omega) (by omega) ?_ | refine and_mk (by first | omega | (with_reducible rfl) | (show drawOk _ _ _ = true; kernel_rfl)) ?_ | refine and_mk ⟨_, rfl⟩ ?_ | refine ex_is _ (List.length_map _) ?_ | refine ex_is _ List.length_nil ?_ | fail "no step")
          rw [← e3]
          exact ex_meet (g2, (i : Int), (i : Int), K, B.set i [db false]) ⟨true, by rw [hpull, hst]; rfl, by simp, by rw [hg2]; exact hK1, by rw [hg2]; exact hB1, by omega, Int.le_refl _, fun j hj => by rw [hg2] at hj; exact (hlf1 j hj).1⟩ (SLe.of ⟨⟨rfl, rfl, rfl, rfl, rfl, rfl, rfl, rfl, rfl, rfl, rfl, trivial⟩, ⟨rfl, rfl, rfl, trivial⟩⟩)
        | true =>
          rw [hfit] at hst
          rw [if_neg (by simp)] at hst
          obtain ⟨hn1, hn2, hn3⟩ := fits_takes hfit
          obtain ⟨hz1, hz2⟩ := next_ok hF hfit
          have hto2 := takes_ok hF ⟨o, a, b, n⟩
          have hNx := rnext_c fs cs (f := fs.getD a.toNat zF) ⟨o, a, b, n⟩ ⟨k, so, m, w⟩ (fun h28 => by
            obtain ⟨h1, h2⟩ := numbers_call hn1 h28
            dsimp only at h1 h2
            refine ⟨a.toNat, by show a = _; omega, ?_⟩
            rw [List.getD, List.getElem?_eq_getElem (by omega)]; rfl) ⟨hpb.1, by omega⟩ ⟨hto2, hn2⟩ (Nat.le_trans (Nat.le_of_succ_le (Nat.le_trans hpb.2.2 hknl)) (by omega)) hsl hn3
          have htl : LetOk (nextV fs ⟨o, a, b, n⟩ ⟨k, so, m, w⟩).o := next_let hsl
          have hta := goes_tail ⟨o, a, b, n⟩ i
          have hgl := goes_lo (x := ⟨o, a, b, n⟩) (i := i) hlo' hn1
          have hln := goes_len ⟨o, a, b, n⟩ i
          have hto3 : (nextV fs ⟨o, a, b, n⟩ ⟨k, so, m, w⟩).o.length ≤ g2.kn.length := Nat.le_trans hz2 (by rw [hg2, hg1]; exact hpb.2.2)
          generalize nextV fs ⟨o, a, b, n⟩ ⟨k, so, m, w⟩ = t at *
          obtain ⟨L, hL⟩ : ∃ L, L = goesV ⟨o, a, b, n⟩ (i : Int) := ⟨_, rfl⟩
          rw [← hL] at hta hgl hln hst
          obtain ⟨tk, to', tm, tw⟩ := t
          dsimp only at hz1 hto3 htl
          repeat' (first | refine ex_call hNx ?_ | refine ex_true (by first | decide | omega | assumption | (with_reducible exact rfl)) ?_ | refine ex_false (by first | decide | omega | assumption | exact (fun h => h rfl)) ?_ | refine ex_dec (fun _ => ?_) (fun _ => ?_) | refine ex_u8 _ rfl (by omega) (by omega) ?_ | refine ex_i64 _ rfl (by omega) (by omega) ?_ | refine ex_u64 _ rfl (by omega) (by omega) ?_ | refine and_mk (by first | omega | (with_reducible rfl) | (show drawOk _ _ _ = true; kernel_rfl)) ?_ | refine and_mk ⟨_, rfl⟩ ?_ | refine ex_is _ (List.length_map _) ?_ | refine ex_is _ List.length_nil ?_ | fail "no step")
          have hL3 : L = ((if o = 20 ∨ o = 21 ∨ o = 22 then [a] else []) ++ (if o = 25 then [b] else [])) ++ (if o = 20 ∨ o = 29 ∨ o = 35 ∨ o = 31 then [] else [(i : Int) + 1]) := by
            rw [hL]
            unfold goesV
            dsimp only
            by_cases c1 : o = 20
            · simp [c1]
            by_cases c2 : o = 21
            · simp [c2]
            by_cases c3 : o = 22
            · simp [c3]
            by_cases c4 : o = 25
            · simp [c4]
            by_cases c5 : o = 29
            · simp [c5]
            by_cases c6 : o = 35
            · simp [c6]
            by_cases c7 : o = 31
            · simp [c7]
            simp [c1, c2, c3, c4, c5, c6, c7]
          clear hL
          refine ex_join (X := List Int) (fun A => ⟨[(1, Ti fn), (2, .o (.c (.ptr 0 0))), (6, Ti fr), (7, Ti z), (8, .o (.c (.row 1))), (9, .o (.c (.row 2))), (10, Ti g.w), (11, Ti g2.d), (12, Ti i), (13, Ti (-1)), (14, .o (.c (.ptr 3 0))), (17, Ti i), (18, .o (.c (.ptr 5 0))), (19, .o (.c (.row 6)))], [(0, .obj [.d (.sl 3 (fs.map fnD)), .d (.sl 4 (cs.map inD))]), (1, .row 5 60 K), (2, .row 1 4 (B.set i [db false])), (3, .obj [.d (di o), .d (di a), .d (di b), .d (du n)]), (5, .obj [.d (db true), .d (di tk), .d (opD to'), .d (db tm), .d (db tw)]), (6, .row 1 3 (dis A))], 7⟩) (fun A => A = (if o = 20 ∨ o = 21 ∨ o = 22 then [a] else [])) ?_ ?_
          · by_cases c1 : o = 20 ∨ o = 21 ∨ o = 22
            · rw [if_pos c1]
              rcases c1 with rfl | rfl | rfl
              all_goals (
                repeat' (first | refine (ex_is ([[di a]] : List (List D)) rfl) ?_ | refine (ex_app 0 1 100 rfl rfl rfl (by omega)) ?_ | refine ex_true (by first | decide | omega | assumption | (with_reducible exact rfl)) ?_ | refine ex_false (by first | decide | omega | assumption | exact (fun h => h rfl)) ?_ | refine ex_dec (fun _ => ?_) (fun _ => ?_) | refine ex_u8 _ rfl (by omega) (by omega) ?_ | refine ex_i64 _ rfl (by omega) (by omega) ?_ | refine ex_u64 _ rfl (by omega) (by omega) ?_ | refine and_mk (by first | omega | (with_reducible rfl) | (show drawOk _ _ _ = true; kernel_rfl)) ?_ | refine and_mk ⟨_, rfl⟩ ?_ | refine ex_is _ (List.length_map _) ?_ | refine ex_is _ List.length_nil ?_ | fail "no step")
                exact ex_meet [a] rfl (SLe.ren [(0, 0), (1, 1), (2, 2), (3, 3), (5, 5), (7, 6)] ⟨⟨rfl, rfl⟩, ⟨rfl, rfl⟩, ⟨rfl, rfl⟩, ⟨rfl, rfl⟩, ⟨rfl, rfl⟩, ⟨rfl, rfl⟩, ⟨rfl, rfl⟩, ⟨rfl, rfl⟩, ⟨rfl, rfl⟩, ⟨rfl, rfl⟩, ⟨rfl, rfl⟩, ⟨rfl, rfl⟩, ⟨rfl, rfl⟩, ⟨rfl, rfl⟩, trivial⟩ ⟨⟨rfl, rfl⟩, ⟨rfl, rfl⟩, ⟨rfl, rfl⟩, ⟨rfl, rfl⟩, ⟨rfl, rfl⟩, ⟨rfl, rfl⟩, trivial⟩ rfl)
                )
            · rw [if_neg c1]
              repeat' (first | refine ex_true (by first | decide | omega | assumption | (with_reducible exact rfl)) ?_ | refine ex_false (by first | decide | omega | assumption | exact (fun h => h rfl)) ?_ | refine ex_dec (fun _ => ?_) (fun _ => ?_) | refine ex_u8 _ rfl (by omega) (by omega) ?_ | refine ex_i64 _ rfl (by omega) (by omega) ?_ | refine ex_u64 _ rfl (by omega) (by omega) ?_ | refine and_mk (by first | omega | (with_reducible rfl) | (show drawOk _ _ _ = true; kernel_rfl)) ?_ | refine and_mk ⟨_, rfl⟩ ?_ | refine ex_is _ (List.length_map _) ?_ | refine ex_is _ List.length_nil ?_ | fail "no step")
              exact ex_meet [] rfl (SLe.trans (SLe.of ⟨⟨rfl, rfl, rfl, rfl, rfl, rfl, rfl, rfl, rfl, rfl, rfl, rfl, rfl, rfl, trivial⟩, ⟨rfl, rfl, rfl, rfl, rfl, rfl, trivial⟩⟩) (SLe.own 19 6 1 3 rfl rfl rfl rfl rfl))
          rintro A hA
          have hA1 : A.length ≤ 1 := by rw [hA]; split <;> simp
          have hAl : (dis A).length = A.length := List.length_map _
          rw [← hA] at hL3
          clear hA
          repeat' (first | refine ex_true (by first | decide | omega | assumption | (with_reducible exact rfl)) ?_ | refine ex_false (by first | decide | omega | assumption | exact (fun h => h rfl)) ?_ | refine ex_dec (fun _ => ?_) (fun _ => ?_) | refine ex_u8 _ rfl (by omega) (by omega) ?_ | refine ex_i64 _ rfl (by omega) (by omega) ?_ | refine ex_u64 _ rfl (by omega) (by omega) ?_ | refine and_mk (by first | omega | (with_reducible rfl) | (show drawOk _ _ _ = true; kernel_rfl)) ?_ | refine and_mk ⟨_, rfl⟩ ?_ | refine ex_is _ (List.length_map _) ?_ | refine ex_is _ List.length_nil ?_ | fail "no step")
          refine ex_join (X := List Int) (fun A' => ⟨[(1, Ti fn), (2, .o (.c (.ptr 0 0))), (6, Ti fr), (7, Ti z), (8, .o (.c (.row 1))), (9, .o (.c (.row 2))), (10, Ti g.w), (11, Ti g2.d), (12, Ti i), (13, Ti (-1)), (14, .o (.c (.ptr 3 0))), (17, Ti i), (18, .o (.c (.ptr 5 0))), (19, .o (.c (.row 6)))], [(0, .obj [.d (.sl 3 (fs.map fnD)), .d (.sl 4 (cs.map inD))]), (1, .row 5 60 K), (2, .row 1 4 (B.set i [db false])), (3, .obj [.d (di o), .d (di a), .d (di b), .d (du n)]), (5, .obj [.d (db true), .d (di tk), .d (opD to'), .d (db tm), .d (db tw)]), (6, .row 1 3 (dis A'))], 7⟩) (fun A' => A' = A ++ (if o = 25 then [b] else [])) ?_ ?_
          · by_cases c1 : o = 25
            · rw [if_pos c1]
              subst c1
              have hap : dis A ++ [[di b]] = dis (A ++ [b]) := by simp
              repeat' (first | refine (ex_is _ hap) ?_ | refine (ex_app A.length 1 100 hAl rfl rfl (by omega)) ?_ | refine ex_true (by first | decide | omega | assumption | (with_reducible exact rfl)) ?_ | refine ex_false (by first | decide | omega | assumption | exact (fun h => h rfl)) ?_ | refine ex_dec (fun _ => ?_) (fun _ => ?_) | refine ex_u8 _ rfl (by omega) (by omega) ?_ | refine ex_i64 _ rfl (by omega) (by omega) ?_ | refine ex_u64 _ rfl (by omega) (by omega) ?_ | refine and_mk (by first | omega | (with_reducible rfl) | (show drawOk _ _ _ = true; kernel_rfl)) ?_ | refine and_mk ⟨_, rfl⟩ ?_ | refine ex_is _ (List.length_map _) ?_ | refine ex_is _ List.length_nil ?_ | fail "no step")
              exact ex_meet (A ++ [b]) rfl (SLe.ren [(0, 0), (1, 1), (2, 2), (3, 3), (5, 5), (8, 6)] ⟨⟨rfl, rfl⟩, ⟨rfl, rfl⟩, ⟨rfl, rfl⟩, ⟨rfl, rfl⟩, ⟨rfl, rfl⟩, ⟨rfl, rfl⟩, ⟨rfl, rfl⟩, ⟨rfl, rfl⟩, ⟨rfl, rfl⟩, ⟨rfl, rfl⟩, ⟨rfl, rfl⟩, ⟨rfl, rfl⟩, ⟨rfl, rfl⟩, ⟨rfl, rfl⟩, trivial⟩ ⟨⟨rfl, rfl⟩, ⟨rfl, rfl⟩, ⟨rfl, rfl⟩, ⟨rfl, rfl⟩, ⟨rfl, rfl⟩, ⟨rfl, rfl⟩, trivial⟩ rfl)
            · rw [if_neg c1, List.append_nil]
              repeat' (first | refine ex_true (by first | decide | omega | assumption | (with_reducible exact rfl)) ?_ | refine ex_false (by first | decide | omega | assumption | exact (fun h => h rfl)) ?_ | refine ex_dec (fun _ => ?_) (fun _ => ?_) | refine ex_u8 _ rfl (by omega) (by omega) ?_ | refine ex_i64 _ rfl (by omega) (by omega) ?_ | refine ex_u64 _ rfl (by omega) (by omega) ?_ | refine and_mk (by first | omega | (with_reducible rfl) | (show drawOk _ _ _ = true; kernel_rfl)) ?_ | refine and_mk ⟨_, rfl⟩ ?_ | refine ex_is _ (List.length_map _) ?_ | refine ex_is _ List.length_nil ?_ | fail "no step")
              exact ex_meet A rfl (SLe.of ⟨⟨rfl, rfl, rfl, rfl, rfl, rfl, rfl, rfl, rfl, rfl, rfl, rfl, rfl, rfl, trivial⟩, ⟨rfl, rfl, rfl, rfl, rfl, rfl, trivial⟩⟩)
          rintro A' hA'
          have hA1' : A'.length ≤ 2 := by rw [hA', List.length_append]; split <;> simp <;> omega
          have hAl' : (dis A').length = A'.length := List.length_map _
          rw [← hA'] at hL3
          clear hA'
          repeat' (first | refine ex_true (by first | decide | omega | assumption | (with_reducible exact rfl)) ?_ | refine ex_false (by first | decide | omega | assumption | exact (fun h => h rfl)) ?_ | refine ex_dec (fun _ => ?_) (fun _ => ?_) | refine ex_u8 _ rfl (by omega) (by omega) ?_ | refine ex_i64 _ rfl (by omega) (by omega) ?_ | refine ex_u64 _ rfl (by omega) (by omega) ?_ | refine and_mk (by first | omega | (with_reducible rfl) | (show drawOk _ _ _ = true; kernel_rfl)) ?_ | refine and_mk ⟨_, rfl⟩ ?_ | refine ex_is _ (List.length_map _) ?_ | refine ex_is _ List.length_nil ?_ | fail "no step")
          refine ex_join (X := Unit) (fun _ => ⟨[(1, Ti fn), (2, .o (.c (.ptr 0 0))), (6, Ti fr), (7, Ti z), (8, .o (.c (.row 1))), (9, .o (.c (.row 2))), (10, Ti g.w), (11, Ti g2.d), (12, Ti i), (13, Ti (-1)), (17, Ti i), (18, .o (.c (.ptr 5 0))), (19, .o (.c (.row 6)))], [(0, .obj [.d (.sl 3 (fs.map fnD)), .d (.sl 4 (cs.map inD))]), (1, .row 5 60 K), (2, .row 1 4 (B.set i [db false])), (5, .obj [.d (db true), .d (di tk), .d (opD to'), .d (db tm), .d (db tw)]), (6, .row 1 3 (dis L))], 7⟩) (fun _ => True) ?_ ?_
          · by_cases c1 : o = 20 ∨ o = 29 ∨ o = 35 ∨ o = 31
            · rw [if_pos c1, List.append_nil] at hL3
              rw [hL3]
              repeat' (first | refine ex_true (by first | decide | omega | assumption | (with_reducible exact rfl)) ?_ | refine ex_false (by first | decide | omega | assumption | exact (fun h => h rfl)) ?_ | refine ex_dec (fun _ => ?_) (fun _ => ?_) | refine ex_u8 _ rfl (by omega) (by omega) ?_ | refine ex_i64 _ rfl (by omega) (by omega) ?_ | refine ex_u64 _ rfl (by omega) (by omega) ?_ | refine and_mk (by first | omega | (with_reducible rfl) | (show drawOk _ _ _ = true; kernel_rfl)) ?_ | refine and_mk ⟨_, rfl⟩ ?_ | refine ex_is _ (List.length_map _) ?_ | refine ex_is _ List.length_nil ?_ | fail "no step")
              all_goals exact ex_meet () trivial (SLe.of ⟨⟨rfl, rfl, rfl, rfl, rfl, rfl, rfl, rfl, rfl, rfl, rfl, rfl, rfl, trivial⟩, ⟨rfl, rfl, rfl, rfl, rfl, trivial⟩⟩)
            · rw [if_neg c1] at hL3
              have hap : dis A' ++ [[di ((i : Int) + 1)]] = dis L := by rw [hL3]; simp
              repeat' (first | refine ex_i64 ((i : Int) + 1) (by omega) (by omega) (by omega) ?_ | refine ex_u64 ((i : Int) + 1) (by omega) (by omega) (by omega) ?_ | refine ex_u8 ((i : Int) + 1) (by omega) (by omega) (by omega) ?_ | refine (ex_is _ hap) ?_ | refine (ex_app A'.length 1 100 hAl' rfl rfl (by omega)) ?_ | refine ex_true (by first | decide | omega | assumption | (with_reducible exact rfl)) ?_ | refine ex_false (by first | decide | omega | assumption | exact (fun h => h rfl)) ?_ | refine ex_dec (fun _ => ?_) (fun _ => ?_) | refine ex_u8 _ rfl (by omega) (by omega) ?_ | refine ex_i64 _ rfl (by omega) (by omega) ?_ | refine ex_u64 _ rfl (by omega) (by omega) ?_ | refine and_mk (by first | omega | (with_reducible rfl) | (show drawOk _ _ _ = true; kernel_rfl)) ?_ | refine and_mk ⟨_, rfl⟩ ?_ | refine ex_is _ (List.length_map _) ?_ | refine ex_is _ List.length_nil ?_ | fail "no step")
              all_goals exact ex_meet () trivial (SLe.ren [(0, 0), (1, 1), (2, 2), (5, 5), (8, 6)] ⟨⟨rfl, rfl⟩, ⟨rfl, rfl⟩, ⟨rfl, rfl⟩, ⟨rfl, rfl⟩, ⟨rfl, rfl⟩, ⟨rfl, rfl⟩, ⟨rfl, rfl⟩, ⟨rfl, rfl⟩, ⟨rfl, rfl⟩, ⟨rfl, rfl⟩, ⟨rfl, rfl⟩, ⟨rfl, rfl⟩, ⟨rfl, rfl⟩, trivial⟩ ⟨⟨rfl, rfl⟩, ⟨rfl, rfl⟩, ⟨rfl, rfl⟩, ⟨rfl, rfl⟩, ⟨rfl, rfl⟩, trivial⟩ rfl)
          rintro ⟨⟩ -
          have hLl : (dis L).length = L.length := List.length_map _
          have hg2k : KnOk cs.length g2 := by rw [hg2]; exact hg1k
          have hg2l : LetG g2 := by rw [hg2]; exact hg1l
          have hgR := fun q => KnOk.gosR (n := cs.length) (fr := fr) (tt := z) (s := ⟨tk, to', tm, tw⟩) (Int.natCast_nonneg fr) hto hz1 htl (L.take q) (g := (g2, false)) hg2k hto3 hg2l
          have hendL : endR i (L.foldl (goR fr z ⟨tk, to', tm, tw⟩) (g2, false)) = SG.pull fs cs fn fr z g := by rw [hpull, hst, gos_end (Int.natCast_nonneg fr) (Int.natCast_nonneg i)]; rfl
          have hg2i : (g2.at i).isSome = true := by rw [hg2]; show (g1.at i).isSome = true; rw [hs1']; rfl
          repeat' (first | refine ex_true (by first | decide | omega | assumption | (with_reducible exact rfl)) ?_ | refine ex_false (by first | decide | omega | assumption | exact (fun h => h rfl)) ?_ | refine ex_dec (fun _ => ?_) (fun _ => ?_) | refine ex_u8 _ rfl (by omega) (by omega) ?_ | refine ex_i64 _ rfl (by omega) (by omega) ?_ | refine ex_u64 _ rfl (by omega) (by omega) ?_ | refine and_mk (by first | omega | (with_reducible rfl) | (show drawOk _ _ _ = true; kernel_rfl)) ?_ | refine and_mk ⟨_, rfl⟩ ?_ | refine ex_is _ (List.length_map _) ?_ | refine ex_is _ List.length_nil ?_ | fail "no step")
          refine ex_loop (X := Nat × SG × Int × Int × List (List D) × List (List D)) (fun ⟨q, h, bz, ag, K', B'⟩ => ⟨[(1, Ti fn), (2, .o (.c (.ptr 0 0))), (6, Ti fr), (7, Ti z), (8, .o (.c (.row 1))), (9, .o (.c (.row 2))), (10, Ti h.w), (11, Ti g2.d), (12, Ti i), (13, Ti bz), (17, Ti ag), (18, .o (.c (.ptr 5 0))), (19, .o (.c (.row 6))), (20, Ti q)], [(0, .obj [.d (.sl 3 (fs.map fnD)), .d (.sl 4 (cs.map inD))]), (1, .row 5 60 K'), (2, .row 1 4 (B')), (5, .obj [.d (db true), .d (di tk), .d (opD to'), .d (db tm), .d (db tw)]), (6, .row 1 3 (dis L))], 7⟩) (fun x => L.length - x.1) (fun ⟨q, h, bz, ag, K', B'⟩ => q ≤ L.length ∧ ∃ bb : Bool, (h, bb) = (L.take q).foldl (goR fr z ⟨tk, to', tm, tw⟩) (g2, false) ∧ bz = (if bb = true then (i : Int) else -1) ∧ KR cs.length h K' ∧ BR cs.length h B' ∧ (fr : Int) ≤ ag + 1 ∧ ag ≤ i ∧ (q = 0 → ag = i) ∧ (∀ j ∈ h.lf, ag + 1 ≤ j) ∧ h.d = g2.d ∧ (h.at i).isSome = true)
            (0, g2, -1, (i : Int), K, B.set i [db false]) ⟨Nat.zero_le _, false, rfl, rfl, by rw [hg2]; exact hK1, by rw [hg2]; exact hB1, by omega, Int.le_refl _, fun _ => rfl, fun j hj => by rw [hg2] at hj; exact (hlf1 j hj).1, rfl, hg2i⟩ (by rw [← e3]; exact (SLe.of ⟨⟨rfl, rfl, rfl, rfl, rfl, rfl, rfl, rfl, rfl, rfl, rfl, rfl, rfl, rfl, trivial⟩, ⟨rfl, rfl, rfl, rfl, rfl, trivial⟩⟩)) ?_
          rintro ⟨q, h, bz, ag, K', B'⟩ ⟨hq, bb, hfold, hbz, hK', hB', ha1, ha2, ha3, hlf', hd', hat⟩
          obtain ⟨hkh, -, hlh⟩ := hgR q
          rw [← hfold] at hkh hlh
          dsimp only at hkh hlh
          by_cases hqL : q < L.length
          · have hx : L[q]? = some L[q] := at_some hqL
            have htk : L.take (q + 1) = L.take q ++ [L[q]] := by rw [List.take_add_one, hx]; rfl
            have hql : ((q : Nat) : Int).toNat < (dis L).length := by rw [Int.toNat_natCast, hLl]; exact hqL
            have hy1 := hgl L[q] (List.getElem_mem hqL)
            have hy2 : 1 ≤ q → L[q] = (i : Int) + 1 := fun h1 => hta q h1 _ hx
            generalize L[q] = y at *
            have hnxt : (L.take (q + 1)).foldl (goR fr z ⟨tk, to', tm, tw⟩) (g2, false) = goR fr z ⟨tk, to', tm, tw⟩ (h, bb) y := by rw [htk, List.foldl_append, ← hfold]; rfl
            by_cases hno : z ≤ y ∨ 512 < tk
            · have hgo : goR fr z ⟨tk, to', tm, tw⟩ (h, bb) y = (h, true) := by
                unfold goR
                rw [if_pos]
                rcases hno with h1 | h1
                · left
                  exact decide_eq_false (by omega)
                · exact .inr h1
              rw [hgo] at hnxt
              repeat' (first | refine ex_i64 ((q + 1 : Nat) : Int) (by omega) (by omega) (by omega) ?_ | refine ex_u64 ((q + 1 : Nat) : Int) (by omega) (by omega) (by omega) ?_ | refine ex_u8 ((q + 1 : Nat) : Int) (by omega) (by omega) (by omega) ?_ | refine (ex_at q y hx) ?_ | refine (and_mk hql) ?_ | refine (ex_is _ hLl) ?_ | refine ex_true (by first | decide | omega | assumption | (with_reducible exact rfl)) ?_ | refine ex_false (by first | decide | omega | assumption | exact (fun h => h rfl)) ?_ | refine ex_dec (fun _ => ?_) (fun _ => ?_) | refine ex_u8 _ rfl (by omega) (by omega) ?_ | refine ex_i64 _ rfl (by omega) (by omega) ?_ | refine ex_u64 _ rfl (by omega) (by omega) ?_ | refine and_mk (by first | omega | (with_reducible rfl) | (show drawOk _ _ _ = true; kernel_rfl)) ?_ | refine and_mk ⟨_, rfl⟩ ?_ | refine ex_is _ (List.length_map _) ?_ | refine ex_is _ List.length_nil ?_ | fail "no step")
              all_goals exact ex_round (q + 1, h, (i : Int), ag, K', B') ⟨by omega, true, hnxt.symm, rfl, hK', hB', ha1, ha2, fun h0 => by omega, hlf', hd', hat⟩ (by show _ - _ < _ - _; omega) (SLe.of ⟨⟨rfl, rfl, rfl, rfl, rfl, rfl, rfl, rfl, rfl, rfl, rfl, rfl, rfl, rfl, trivial⟩, ⟨rfl, rfl, rfl, rfl, rfl, trivial⟩⟩)
            · obtain ⟨Y, rfl⟩ : ∃ Y : Nat, y = Y := ⟨y.toNat, by omega⟩
              have hYn : Y < cs.length := by omega
              have hgo : goR fr z ⟨tk, to', tm, tw⟩ (h, bb) Y = (h.come Y ⟨tk, to', tm, tw⟩, bb) := by
                unfold goR
                rw [if_neg]
                rintro (h1 | h1)
                · have := of_decide_eq_false h1
                  omega
                · exact hno (.inr h1)
              rw [hgo] at hnxt
              have hKY := hK'.2 Y hYn
              have hKYl : ((Y : Nat) : Int).toNat < K'.length := by rw [Int.toNat_natCast, hK'.1]; exact hYn
              have hBYl : ((Y : Nat) : Int).toNat < B'.length := by rw [Int.toNat_natCast, hB'.1]; exact hYn
              cases hatY : h.at Y with
              | some t' =>
                rw [hatY] at hKY
                have hKY' : K'[((Y : Nat) : Int).toNat]? = some (stK5 true t') := by rw [Int.toNat_natCast, hKY]; rfl
                have hpb' := hkh.2.2 _ (SG.at_mem hatY)
                have hlt' := hlh _ (SG.at_mem hatY)
                dsimp only at hpb' hlt'
                have hkhn := hkh.kn
                have hsm := rsame_c true t' ⟨tk, to', tm, tw⟩ (by omega) (by have := hgR 0; have := hg2k.kn; show to'.length ≤ _; omega) hlt' htl
                have hat2 : ∀ h2 : SG, h2.kn = h.kn → (h2.at i).isSome = true := fun h2 e => by unfold SG.at; rw [e]; exact hat
                obtain ⟨k', so', m', w'⟩ := t'
                cases hsv : SS.same ⟨k', so', m', w'⟩ ⟨tk, to', tm, tw⟩ with
                | true =>
                  rw [hsv] at hsm
                  have hcm : h.come Y ⟨tk, to', tm, tw⟩ = h := by unfold SG.come; rw [hatY]; dsimp only; rw [if_pos hsv]
                  rw [hcm] at hnxt
                  repeat' (first | refine ex_call hsm ?_ | refine ex_i64 ((q + 1 : Nat) : Int) (by omega) (by omega) (by omega) ?_ | refine ex_u64 ((q + 1 : Nat) : Int) (by omega) (by omega) (by omega) ?_ | refine ex_u8 ((q + 1 : Nat) : Int) (by omega) (by omega) (by omega) ?_ | refine (ex_atR hKY') ?_ | refine (and_mk hKYl) ?_ | refine (ex_at q (Y : Int) hx) ?_ | refine (and_mk hql) ?_ | refine (ex_is _ hLl) ?_ | refine ex_true (by first | decide | omega | assumption | (with_reducible exact rfl)) ?_ | refine ex_false (by first | decide | omega | assumption | exact (fun h => h rfl)) ?_ | refine ex_dec (fun _ => ?_) (fun _ => ?_) | refine ex_u8 _ rfl (by omega) (by omega) ?_ | refine ex_i64 _ rfl (by omega) (by omega) ?_ | refine ex_u64 _ rfl (by omega) (by omega) ?_ | refine and_mk (by first | omega | (with_reducible rfl) | (show drawOk _ _ _ = true; kernel_rfl)) ?_ | refine and_mk ⟨_, rfl⟩ ?_ | refine ex_is _ (List.length_map _) ?_ | refine ex_is _ List.length_nil ?_ | fail "no step")
                  exact ex_round (q + 1, h, bz, ag, K', B') ⟨by omega, bb, hnxt.symm, hbz, hK', hB', ha1, ha2, fun h0 => by omega, hlf', hd', hat⟩ (by show _ - _ < _ - _; omega) (SLe.of ⟨⟨rfl, rfl, rfl, rfl, rfl, rfl, rfl, rfl, rfl, rfl, rfl, rfl, rfl, rfl, trivial⟩, ⟨rfl, rfl, rfl, rfl, rfl, trivial⟩⟩)
                | false =>
                  rw [hsv] at hsm
                  have hcm : h.come Y ⟨tk, to', tm, tw⟩ = h.fault Y := by unfold SG.come; rw [hatY]; dsimp only; rw [if_neg (by rw [hsv]; simp)]
                  rw [hcm] at hnxt
                  by_cases hwr : h.w < 0 ∨ (Y : Int) < h.w
                  · have hfw : h.fault Y = { h with w := (Y : Int) } := by unfold SG.fault faultV; rw [if_pos hwr]
                    rw [hfw] at hnxt
                    repeat' (first | refine ex_call hsm ?_ | refine ex_i64 ((q + 1 : Nat) : Int) (by omega) (by omega) (by omega) ?_ | refine ex_u64 ((q + 1 : Nat) : Int) (by omega) (by omega) (by omega) ?_ | refine ex_u8 ((q + 1 : Nat) : Int) (by omega) (by omega) (by omega) ?_ | refine (ex_atR hKY') ?_ | refine (and_mk hKYl) ?_ | refine (ex_at q (Y : Int) hx) ?_ | refine (and_mk hql) ?_ | refine (ex_is _ hLl) ?_ | refine ex_true (by first | decide | omega | assumption | (with_reducible exact rfl)) ?_ | refine ex_false (by first | decide | omega | assumption | exact (fun h => h rfl)) ?_ | refine ex_dec (fun _ => ?_) (fun _ => ?_) | refine ex_u8 _ rfl (by omega) (by omega) ?_ | refine ex_i64 _ rfl (by omega) (by omega) ?_ | refine ex_u64 _ rfl (by omega) (by omega) ?_ | refine and_mk (by first | omega | (with_reducible rfl) | (show drawOk _ _ _ = true; kernel_rfl)) ?_ | refine and_mk ⟨_, rfl⟩ ?_ | refine ex_is _ (List.length_map _) ?_ | refine ex_is _ List.length_nil ?_ | fail "no step")
                    all_goals exact ex_round (q + 1, { h with w := (Y : Int) }, bz, ag, K', B') ⟨by omega, bb, hnxt.symm, hbz, hK', hB', ha1, ha2, fun h0 => by omega, hlf', hd', hat2 _ rfl⟩ (by show _ - _ < _ - _; omega) (SLe.of ⟨⟨rfl, rfl, rfl, rfl, rfl, rfl, rfl, rfl, rfl, rfl, rfl, rfl, rfl, rfl, trivial⟩, ⟨rfl, rfl, rfl, rfl, rfl, trivial⟩⟩)
                  · have hfw : h.fault Y = h := by unfold SG.fault faultV; rw [if_neg hwr]
                    rw [hfw] at hnxt
                    repeat' (first | refine ex_call hsm ?_ | refine ex_i64 ((q + 1 : Nat) : Int) (by omega) (by omega) (by omega) ?_ | refine ex_u64 ((q + 1 : Nat) : Int) (by omega) (by omega) (by omega) ?_ | refine ex_u8 ((q + 1 : Nat) : Int) (by omega) (by omega) (by omega) ?_ | refine (ex_atR hKY') ?_ | refine (and_mk hKYl) ?_ | refine (ex_at q (Y : Int) hx) ?_ | refine (and_mk hql) ?_ | refine (ex_is _ hLl) ?_ | refine ex_true (by first | decide | omega | assumption | (with_reducible exact rfl)) ?_ | refine ex_false (by first | decide | omega | assumption | exact (fun h => h rfl)) ?_ | refine ex_dec (fun _ => ?_) (fun _ => ?_) | refine ex_u8 _ rfl (by omega) (by omega) ?_ | refine ex_i64 _ rfl (by omega) (by omega) ?_ | refine ex_u64 _ rfl (by omega) (by omega) ?_ | refine and_mk (by first | omega | (with_reducible rfl) | (show drawOk _ _ _ = true; kernel_rfl)) ?_ | refine and_mk ⟨_, rfl⟩ ?_ | refine ex_is _ (List.length_map _) ?_ | refine ex_is _ List.length_nil ?_ | fail "no step")
                    all_goals exact ex_round (q + 1, h, bz, ag, K', B') ⟨by omega, bb, hnxt.symm, hbz, hK', hB', ha1, ha2, fun h0 => by omega, hlf', hd', hat⟩ (by show _ - _ < _ - _; omega) (SLe.of ⟨⟨rfl, rfl, rfl, rfl, rfl, rfl, rfl, rfl, rfl, rfl, rfl, rfl, rfl, rfl, trivial⟩, ⟨rfl, rfl, rfl, rfl, rfl, trivial⟩⟩)
              | none =>
                rw [hatY] at hKY
                have hKY' : K'[((Y : Nat) : Int).toNat]? = some (stK5 false ss0) := by rw [Int.toNat_natCast, hKY]; rfl
                have hsm := rsame_c false ss0 ⟨tk, to', tm, tw⟩ (by decide) (by have := hg2k.kn; show to'.length ≤ _; omega) (by intro c hc; cases hc) htl
                generalize SS.same ss0 ⟨tk, to', tm, tw⟩ = al at *
                obtain ⟨hc1, hc2, hc3⟩ := come_lf (s := ⟨tk, to', tm, tw⟩) hatY
                have hKn := hK'.come hYn (s := ⟨tk, to', tm, tw⟩) hatY
                have hBn := hB'.come hYn (s := ⟨tk, to', tm, tw⟩) hatY
                have hcat : ((h.come Y ⟨tk, to', tm, tw⟩).at i).isSome = true := by
                  rw [SG.come_at _ hatY]
                  split
                  · rfl
                  · exact hat
                have hYi : (Y : Int) ≠ i := fun e => by rw [e] at hatY; rw [hatY] at hat; cases hat
                have hYag : ¬ (Y : Int) < ag → ag + 1 ≤ Y := fun h1 => by
                  by_cases hq0 : q = 0
                  · have := ha3 hq0; omega
                  · have := hy2 (by omega); omega
                have hsetK : K'.set ((Y : Nat) : Int).toNat [db true, di tk, opD to', db tm, db tw] = K'.set Y (stK5 true ⟨tk, to', tm, tw⟩) := by rw [Int.toNat_natCast]
                have hsetB : B'.set ((Y : Nat) : Int).toNat [db true] = B'.set Y [db true] := by rw [Int.toNat_natCast]
                have hBY' : B'[((Y : Nat) : Int).toNat]? = some [db (decide ((Y : Int) ∈ h.lf))] := by rw [Int.toNat_natCast, hB'.2 Y hYn]
                have hd2 : (h.come Y ⟨tk, to', tm, tw⟩).d = g2.d := by rw [hc3, hd']
                generalize h.come Y ⟨tk, to', tm, tw⟩ = hn at *
                generalize K'.set Y (stK5 true ⟨tk, to', tm, tw⟩) = Kn at *
                generalize B'.set Y [db true] = Bn at *
                by_cases hag : (Y : Int) < ag
                · repeat' (first | refine ex_call hsm ?_ | refine ex_i64 ((Y : Int) - 1) (by omega) (by omega) (by omega) ?_ | refine ex_u64 ((Y : Int) - 1) (by omega) (by omega) (by omega) ?_ | refine ex_u8 ((Y : Int) - 1) (by omega) (by omega) (by omega) ?_ | refine ex_i64 ((q + 1 : Nat) : Int) (by omega) (by omega) (by omega) ?_ | refine ex_u64 ((q + 1 : Nat) : Int) (by omega) (by omega) (by omega) ?_ | refine ex_u8 ((q + 1 : Nat) : Int) (by omega) (by omega) (by omega) ?_ | refine (ex_is _ hsetB) ?_ | refine (ex_is _ hsetK) ?_ | refine (ex_atR hBY') ?_ | refine (and_mk hBYl) ?_ | refine (ex_atR hKY') ?_ | refine (and_mk hKYl) ?_ | refine (ex_at q (Y : Int) hx) ?_ | refine (and_mk hql) ?_ | refine (ex_is _ hLl) ?_ | refine ex_true (by first | decide | omega | assumption | (with_reducible exact rfl)) ?_ | refine ex_false (by first | decide | omega | assumption | exact (fun h => h rfl)) ?_ | refine ex_dec (fun _ => ?_) (fun _ => ?_) | refine ex_u8 _ rfl (by omega) (by omega) ?_ | refine ex_i64 _ rfl (by omega) (by omega) ?_ | refine ex_u64 _ rfl (by omega) (by omega) ?_ | refine and_mk (by first | omega | (with_reducible rfl) | (show drawOk _ _ _ = true; kernel_rfl)) ?_ | refine and_mk ⟨_, rfl⟩ ?_ | refine ex_is _ (List.length_map _) ?_ | refine ex_is _ List.length_nil ?_ | fail "no step")
                  all_goals (
                    rw [← hc2]
                    exact ex_round (q + 1, hn, bz, (Y : Int) - 1, Kn, Bn) ⟨by omega, bb, hnxt.symm, hbz, hKn, hBn, by omega, by omega, fun h0 => by omega, fun j hj => by
                      rw [hc1] at hj
                      rcases List.mem_append.1 hj with hj | hj
                      · have := hlf' j hj
                        omega
                      · obtain rfl : j = (Y : Int) := by simpa using hj
                        omega, hd2, hcat⟩ (by show _ - _ < _ - _; omega) (SLe.of ⟨⟨rfl, rfl, rfl, rfl, rfl, rfl, rfl, rfl, rfl, rfl, rfl, rfl, rfl, rfl, trivial⟩, ⟨rfl, rfl, rfl, rfl, rfl, trivial⟩⟩)
                    )
                · repeat' (first | refine ex_call hsm ?_ | refine ex_i64 ((q + 1 : Nat) : Int) (by omega) (by omega) (by omega) ?_ | refine ex_u64 ((q + 1 : Nat) : Int) (by omega) (by omega) (by omega) ?_ | refine ex_u8 ((q + 1 : Nat) : Int) (by omega) (by omega) (by omega) ?_ | refine (ex_is _ hsetB) ?_ | refine (ex_is _ hsetK) ?_ | refine (ex_atR hBY') ?_ | refine (and_mk hBYl) ?_ | refine (ex_atR hKY') ?_ | refine (and_mk hKYl) ?_ | refine (ex_at q (Y : Int) hx) ?_ | refine (and_mk hql) ?_ | refine (ex_is _ hLl) ?_ | refine ex_true (by first | decide | omega | assumption | (with_reducible exact rfl)) ?_ | refine ex_false (by first | decide | omega | assumption | exact (fun h => h rfl)) ?_ | refine ex_dec (fun _ => ?_) (fun _ => ?_) | refine ex_u8 _ rfl (by omega) (by omega) ?_ | refine ex_i64 _ rfl (by omega) (by omega) ?_ | refine ex_u64 _ rfl (by omega) (by omega) ?_ | refine and_mk (by first | omega | (with_reducible rfl) | (show drawOk _ _ _ = true; kernel_rfl)) ?_ | refine and_mk ⟨_, rfl⟩ ?_ | refine ex_is _ (List.length_map _) ?_ | refine ex_is _ List.length_nil ?_ | fail "no step")
                  all_goals (
                    rw [← hc2]
                    exact ex_round (q + 1, hn, bz, ag, Kn, Bn) ⟨by omega, bb, hnxt.symm, hbz, hKn, hBn, by omega, by omega, fun h0 => by omega, fun j hj => by
                      rw [hc1] at hj
                      rcases List.mem_append.1 hj with hj | hj
                      · have := hlf' j hj
                        omega
                      · obtain rfl : j = (Y : Int) := by simpa using hj
                        omega, hd2, hcat⟩ (by show _ - _ < _ - _; omega) (SLe.of ⟨⟨rfl, rfl, rfl, rfl, rfl, rfl, rfl, rfl, rfl, rfl, rfl, rfl, rfl, rfl, trivial⟩, ⟨rfl, rfl, rfl, rfl, rfl, trivial⟩⟩)
                    )
          · obtain rfl : q = L.length := by omega
            rw [List.take_length] at hfold
            repeat' (first | refine (ex_is _ hLl) ?_ | refine ex_true (by first | decide | omega | assumption | (with_reducible exact rfl)) ?_ | refine ex_false (by first | decide | omega | assumption | exact (fun h => h rfl)) ?_ | refine ex_dec (fun _ => ?_) (fun _ => ?_) | refine ex_u8 _ rfl (by omega) (by omega) ?_ | refine ex_i64 _ rfl (by omega) (by omega) ?_ | refine ex_u64 _ rfl (by omega) (by omega) ?_ | refine and_mk (by first | omega | (with_reducible rfl) | (show drawOk _ _ _ = true; kernel_rfl)) ?_ | refine and_mk ⟨_, rfl⟩ ?_ | refine ex_is _ (List.length_map _) ?_ | refine ex_is _ List.length_nil ?_ | fail "no step")
            rw [← hd']
            exact ex_meet (h, bz, ag, K', B') ⟨bb, by rw [hfold]; exact hendL, hbz, hK', hB', ha1, ha2, hlf'⟩ (SLe.of ⟨⟨rfl, rfl, rfl, rfl, rfl, rfl, rfl, rfl, rfl, rfl, rfl, trivial⟩, ⟨rfl, rfl, rfl, trivial⟩⟩)
      rintro ⟨h, bz, ag, K', B'⟩ ⟨bb, hend, hbz, hK', hB', ha1, ha2, hlf'⟩
      have hlf2 : (SG.pull fs cs fn fr z g).lf = h.lf := by rw [← hend]; unfold endR; split <;> rfl
      have hd2 : (SG.pull fs cs fn fr z g).d = h.d := by rw [← hend]; unfold endR; split <;> rfl
      have hK2 : KR cs.length (SG.pull fs cs fn fr z g) K' := by rw [← hend]; unfold endR; split <;> exact hK'
      have hB2 : BR cs.length (SG.pull fs cs fn fr z g) B' := by rw [← hend]; unfold endR; split <;> exact hB'
      have hri := hRI (ag + 1) (by omega) (by omega) (fun j hj => by rw [hlf2] at hj; exact hlf' j hj)
      have hmu : (SG.pull fs cs fn fr z g).rest cs.length * (cs.length + 2) + (z - (ag + 1)).toNat < g.rest cs.length * (cs.length + 2) + (z - (i : Int)).toNat := mu_lt p2 (by omega)
      have hw2 : (SG.pull fs cs fn fr z g).w = if bb = true then faultV h.w i else h.w := by rw [← hend]; unfold endR; split <;> rfl
      generalize SG.pull fs cs fn fr z g = gp at *
      cases bb with
      | false =>
        have hbz' : bz = -1 := hbz
        subst hbz'
        rw [if_neg (by simp)] at hw2
        by_cases hag : ag < i
        · repeat' (first | refine ex_i64 (ag + 1) (by omega) (by omega) (by omega) ?_ | refine ex_u64 (ag + 1) (by omega) (by omega) (by omega) ?_ | refine ex_u8 (ag + 1) (by omega) (by omega) (by omega) ?_ | refine ex_true (by first | decide | omega | assumption | (with_reducible exact rfl)) ?_ | refine ex_false (by first | decide | omega | assumption | exact (fun h => h rfl)) ?_ | refine ex_dec (fun _ => ?_) (fun _ => ?_) | refine ex_u8 _ rfl (by omega) (by omega) ?_ | refine ex_i64 _ rfl (by omega) (by omega) ?_ | refine ex_u64 _ rfl (by omega) (by omega) ?_ | refine and_mk (by first | omega | (with_reducible rfl) | (show drawOk _ _ _ = true; kernel_rfl)) ?_ | refine and_mk ⟨_, rfl⟩ ?_ | refine ex_is _ (List.length_map _) ?_ | refine ex_is _ List.length_nil ?_ | fail "no step")
          all_goals (
            rw [← hd2, ← hw2]
            exact ex_round (gp, ag + 1, K', B') ⟨hri, hK2, hB2⟩ hmu (SLe.of ⟨⟨rfl, rfl, rfl, rfl, rfl, rfl, rfl, rfl, rfl, trivial⟩, ⟨rfl, rfl, rfl, trivial⟩⟩)
            )
        · obtain rfl : ag = i := by omega
          repeat' (first | refine ex_i64 ((i : Int) + 1) (by omega) (by omega) (by omega) ?_ | refine ex_u64 ((i : Int) + 1) (by omega) (by omega) (by omega) ?_ | refine ex_u8 ((i : Int) + 1) (by omega) (by omega) (by omega) ?_ | refine ex_true (by first | decide | omega | assumption | (with_reducible exact rfl)) ?_ | refine ex_false (by first | decide | omega | assumption | exact (fun h => h rfl)) ?_ | refine ex_dec (fun _ => ?_) (fun _ => ?_) | refine ex_u8 _ rfl (by omega) (by omega) ?_ | refine ex_i64 _ rfl (by omega) (by omega) ?_ | refine ex_u64 _ rfl (by omega) (by omega) ?_ | refine and_mk (by first | omega | (with_reducible rfl) | (show drawOk _ _ _ = true; kernel_rfl)) ?_ | refine and_mk ⟨_, rfl⟩ ?_ | refine ex_is _ (List.length_map _) ?_ | refine ex_is _ List.length_nil ?_ | fail "no step")
          all_goals (
            rw [← hd2, ← hw2]
            exact ex_round (gp, (i : Int) + 1, K', B') ⟨hri, hK2, hB2⟩ hmu (SLe.of ⟨⟨rfl, rfl, rfl, rfl, rfl, rfl, rfl, rfl, rfl, trivial⟩, ⟨rfl, rfl, rfl, trivial⟩⟩)
            )
      | true =>
        have hbz' : bz = i := hbz
        subst hbz'
        rw [if_pos rfl] at hw2
        by_cases hwr : h.w < 0 ∨ (i : Int) < h.w
        · have hfw : gp.w = i := by rw [hw2]; unfold faultV; rw [if_pos hwr]
          obtain ⟨gk, gl, gd, gw⟩ := gp
          dsimp only at hfw hd2
          subst hfw
          subst hd2
          by_cases hag : ag < i
          · repeat' (first | refine ex_i64 (ag + 1) (by omega) (by omega) (by omega) ?_ | refine ex_u64 (ag + 1) (by omega) (by omega) (by omega) ?_ | refine ex_u8 (ag + 1) (by omega) (by omega) (by omega) ?_ | refine ex_true (by first | decide | omega | assumption | (with_reducible exact rfl)) ?_ | refine ex_false (by first | decide | omega | assumption | exact (fun h => h rfl)) ?_ | refine ex_dec (fun _ => ?_) (fun _ => ?_) | refine ex_u8 _ rfl (by omega) (by omega) ?_ | refine ex_i64 _ rfl (by omega) (by omega) ?_ | refine ex_u64 _ rfl (by omega) (by omega) ?_ | refine and_mk (by first | omega | (with_reducible rfl) | (show drawOk _ _ _ = true; kernel_rfl)) ?_ | refine and_mk ⟨_, rfl⟩ ?_ | refine ex_is _ (List.length_map _) ?_ | refine ex_is _ List.length_nil ?_ | fail "no step")
            all_goals exact ex_round (⟨gk, gl, h.d, (i : Int)⟩, ag + 1, K', B') ⟨hri, hK2, hB2⟩ hmu (SLe.of ⟨⟨rfl, rfl, rfl, rfl, rfl, rfl, rfl, rfl, rfl, trivial⟩, ⟨rfl, rfl, rfl, trivial⟩⟩)
          · obtain rfl : ag = i := by omega
            repeat' (first | refine ex_i64 ((i : Int) + 1) (by omega) (by omega) (by omega) ?_ | refine ex_u64 ((i : Int) + 1) (by omega) (by omega) (by omega) ?_ | refine ex_u8 ((i : Int) + 1) (by omega) (by omega) (by omega) ?_ | refine ex_true (by first | decide | omega | assumption | (with_reducible exact rfl)) ?_ | refine ex_false (by first | decide | omega | assumption | exact (fun h => h rfl)) ?_ | refine ex_dec (fun _ => ?_) (fun _ => ?_) | refine ex_u8 _ rfl (by omega) (by omega) ?_ | refine ex_i64 _ rfl (by omega) (by omega) ?_ | refine ex_u64 _ rfl (by omega) (by omega) ?_ | refine and_mk (by first | omega | (with_reducible rfl) | (show drawOk _ _ _ = true; kernel_rfl)) ?_ | refine and_mk ⟨_, rfl⟩ ?_ | refine ex_is _ (List.length_map _) ?_ | refine ex_is _ List.length_nil ?_ | fail "no step")
            all_goals exact ex_round (⟨gk, gl, h.d, (i : Int)⟩, (i : Int) + 1, K', B') ⟨hri, hK2, hB2⟩ hmu (SLe.of ⟨⟨rfl, rfl, rfl, rfl, rfl, rfl, rfl, rfl, rfl, trivial⟩, ⟨rfl, rfl, rfl, trivial⟩⟩)
        · have hfw : gp.w = h.w := by rw [hw2]; unfold faultV; rw [if_neg hwr]
          by_cases hag : ag < i
          · repeat' (first | refine ex_i64 (ag + 1) (by omega) (by omega) (by omega) ?_ | refine ex_u64 (ag + 1) (by omega) (by omega) (by omega) ?_ | refine ex_u8 (ag + 1) (by omega) (by omega) (by omega) ?_ | refine ex_true (by first | decide | omega | assumption | (with_reducible exact rfl)) ?_ | refine ex_false (by first | decide | omega | assumption | exact (fun h => h rfl)) ?_ | refine ex_dec (fun _ => ?_) (fun _ => ?_) | refine ex_u8 _ rfl (by omega) (by omega) ?_ | refine ex_i64 _ rfl (by omega) (by omega) ?_ | refine ex_u64 _ rfl (by omega) (by omega) ?_ | refine and_mk (by first | omega | (with_reducible rfl) | (show drawOk _ _ _ = true; kernel_rfl)) ?_ | refine and_mk ⟨_, rfl⟩ ?_ | refine ex_is _ (List.length_map _) ?_ | refine ex_is _ List.length_nil ?_ | fail "no step")
            all_goals (
              rw [← hd2, ← hfw]
              exact ex_round (gp, ag + 1, K', B') ⟨hri, hK2, hB2⟩ hmu (SLe.of ⟨⟨rfl, rfl, rfl, rfl, rfl, rfl, rfl, rfl, rfl, trivial⟩, ⟨rfl, rfl, rfl, trivial⟩⟩)
              )
          · obtain rfl : ag = i := by omega
            repeat' (first | refine ex_i64 ((i : Int) + 1) (by omega) (by omega) (by omega) ?_ | refine ex_u64 ((i : Int) + 1) (by omega) (by omega) (by omega) ?_ | refine ex_u8 ((i : Int) + 1) (by omega) (by omega) (by omega) ?_ | refine ex_true (by first | decide | omega | assumption | (with_reducible exact rfl)) ?_ | refine ex_false (by first | decide | omega | assumption | exact (fun h => h rfl)) ?_ | refine ex_dec (fun _ => ?_) (fun _ => ?_) | refine ex_u8 _ rfl (by omega) (by omega) ?_ | refine ex_i64 _ rfl (by omega) (by omega) ?_ | refine ex_u64 _ rfl (by omega) (by omega) ?_ | refine and_mk (by first | omega | (with_reducible rfl) | (show drawOk _ _ _ = true; kernel_rfl)) ?_ | refine and_mk ⟨_, rfl⟩ ?_ | refine ex_is _ (List.length_map _) ?_ | refine ex_is _ List.length_nil ?_ | fail "no step")
            all_goals (
              rw [← hd2, ← hfw]
              exact ex_round (gp, (i : Int) + 1, K', B') ⟨hri, hK2, hB2⟩ hmu (SLe.of ⟨⟨rfl, rfl, rfl, rfl, rfl, rfl, rfl, rfl, rfl, trivial⟩, ⟨rfl, rfl, rfl, trivial⟩⟩)
              )
    · rw [decide_eq_false hmem] at hbi
      repeat' (first | refine ex_i64 ((i + 1 : Nat) : Int) (by omega) (by omega) (by omega) ?_ | refine ex_u64 ((i + 1 : Nat) : Int) (by omega) (by omega) (by omega) ?_ | refine ex_u8 ((i + 1 : Nat) : Int) (by omega) (by omega) (by omega) ?_ | refine (ex_atR hbi) ?_ | refine (and_mk hBl) ?_ | refine ex_true (by first | decide | omega | assumption | (with_reducible exact rfl)) ?_ | refine ex_false (by first | decide | omega | assumption | exact (fun h => h rfl)) ?_ | refine ex_dec (fun _ => ?_) (fun _ => ?_) | refine ex_u8 _ rfl (by omega) (by omega) ?_ | refine ex_i64 _ rfl (by omega) (by omega) ?_ | refine ex_u64 _ rfl (by omega) (by omega) ?_ | refine and_mk (by first | omega | (with_reducible rfl) | (show drawOk _ _ _ = true; kernel_rfl)) ?_ | refine and_mk ⟨_, rfl⟩ ?_ | refine ex_is _ (List.length_map _) ?_ | refine ex_is _ List.length_nil ?_ | fail "no step")
      exact ex_round (g, ((i + 1 : Nat) : Int), K, B) ⟨⟨hkn, hlet, by omega, by omega, fun j hj => by
        have := hge j hj
        have hne : j ≠ (i : Int) := fun e => hmem (e ▸ hj)
        exact ⟨by omega, this.2⟩, hrun⟩, hK, hB⟩ (by show g.rest cs.length * (cs.length + 2) + (z - ((i + 1 : Nat) : Int)).toNat < g.rest cs.length * (cs.length + 2) + (z - ((i : Nat) : Int)).toNat; omega) (SLe.of ⟨⟨rfl, rfl, rfl, rfl, rfl, rfl, rfl, rfl, rfl, trivial⟩, ⟨rfl, rfl, rfl, trivial⟩⟩)
  · have hl0 : g.lf = [] := by
      cases hlf : g.lf with
      | nil => rfl
      | cons j l =>
        have := hge j (by rw [hlf]; simp)
        omega
    have hr := hrun (g.rest cs.length + 1) (by omega)
    rw [SG.run, if_pos hl0] at hr
    rw [← hr]
    repeat' (first | refine ex_true (by first | decide | omega | assumption | (with_reducible exact rfl)) ?_ | refine ex_false (by first | decide | omega | assumption | exact (fun h => h rfl)) ?_ | refine ex_dec (fun _ => ?_) (fun _ => ?_) | refine ex_u8 _ rfl (by omega) (by omega) ?_ | refine ex_i64 _ rfl (by omega) (by omega) ?_ | refine ex_u64 _ rfl (by omega) (by omega) ?_ | refine and_mk (by first | omega | (with_reducible rfl) | (show drawOk _ _ _ = true; kernel_rfl)) ?_ | refine and_mk ⟨_, rfl⟩ ?_ | refine ex_is _ (List.length_map _) ?_ | refine ex_is _ List.length_nil ?_ | fail "no step")
    exact TLe.rfl
end Go.Proofs.YtgfmbkbiingagaaGreatDoor

namespace Go.Proofs.YtgfmbkbiingagaaGreatDoor
set_option linter.unusedVariables false
set_option linter.unusedSimpArgs false
open Go.RowKit
set_option maxRecDepth 100000

theorem ok_fr {fs : List FN} {cs : List IN} (h : okFrames fs cs = true) (hf : fs.length ≤ 64) (hc : cs.length ≤ 8192) {fn : Nat} {f : FN} (hx : fs[fn]? = some f) : FrOk fs cs fn f := by
  unfold okFrames at h
  rw [Bool.and_eq_true] at h
  have hs := framesV_spec h.1 (Int.le_refl _) (Int.le_refl _) (by decide)
  refine ⟨⟨hf, fun f hm => ?_⟩, hc, hx, by have := hs fn f hx; omega, (hs fn f hx).2.1, ?_⟩
  · obtain ⟨i, hi⟩ := List.getElem?_of_mem hm
    have := hs i f hi
    omega
  · unfold toV
    split
    · rename_i hl
      have hx2 : fs[fn + 1]? = some fs[fn + 1] := at_some hl
      rw [List.getD, hx2]
      have := (hs _ _ hx2).2.1
      show fs[fn + 1].e ≤ _
      omega
    · exact Int.le_refl _
set_option maxHeartbeats 4000000 in
theorem frames_c {fs : List FN} {cs : List IN} (hf : fs.length ≤ 64) (hc : cs.length ≤ 8192) : CallsA Tryz.prog Γ0 10 [gD [.sl 3 (fs.map fnD), .sl 4 (cs.map inD)]] (Tb (okFrames fs cs)) := by
  have hfm : (fs.map fnD).length = fs.length := List.length_map _
  have hcm : (cs.map inD).length = cs.length := List.length_map _
  refine fn_rule (C := ⟨Tryz.prog, layF, Tryz.f10.ntmps, Γ0, 0, [], []⟩) layF_ok mixed Tryz.func10 rfl (by kernel_rfl) rfl rfl rfl ?_
  repeat' (first | refine (ex_is _ hfm) ?_ | refine ex_true (by first | decide | omega | assumption | (with_reducible exact rfl)) ?_ | refine ex_false (by first | decide | omega | assumption | exact (fun h => h rfl)) ?_ | refine ex_dec (fun _ => ?_) (fun _ => ?_) | refine ex_u8 _ rfl (by omega) (by omega) ?_ | refine ex_i64 _ rfl (by omega) (by omega) ?_ | refine ex_u64 _ rfl (by omega) (by omega) ?_ | refine and_mk (by first | omega | (with_reducible rfl) | (show drawOk _ _ _ = true; kernel_rfl)) ?_ | refine and_mk ⟨_, rfl⟩ ?_ | refine ex_is _ (List.length_map _) ?_ | refine ex_is _ List.length_nil ?_ | fail "no step")
  refine ex_loop (X := Nat × Int × Int) (fun ⟨q, sl, la⟩ => ⟨[(1, .o (.c (.ptr 0 0))), (3, Ti sl), (4, Ti la), (8, .o (c1 (.sl 3 (fs.map fnD)))), (9, Ti fs.length), (10, Ti q)], [(0, .obj [.d (.sl 3 (fs.map fnD)), .d (.sl 4 (cs.map inD))])], 1⟩) (fun x => fs.length - x.1) (fun ⟨q, sl, la⟩ => q ≤ fs.length ∧ 0 ≤ sl ∧ sl ≤ 4096 ∧ -1 ≤ la ∧ framesV fs cs.length 0 (-1) true = framesV (fs.drop q) cs.length sl la (decide (q = 0))) (0, 0, -1) ⟨Nat.zero_le _, by decide, by decide, by decide, rfl⟩ (SLe.of ⟨⟨rfl, rfl, rfl, rfl, rfl, rfl, trivial⟩, ⟨rfl, trivial⟩⟩) ?_
  rintro ⟨q, sl, la⟩ ⟨hq, hs1, hs2, hla, hfr⟩
  by_cases hql : q < fs.length
  · have hx : fs[q]? = some fs[q] := at_some hql
    have hd : fs.drop q = fs[q] :: fs.drop (q + 1) := List.drop_eq_getElem_cons hql
    rw [hd] at hfr
    generalize fs[q] = x at *
    rw [framesV] at hfr
    by_cases hbad : (decide (q = 0) = true ∧ x.e ≠ 0) ∨ x.e ≤ la ∨ (cs.length : Int) ≤ x.e ∨ x.p < 0 ∨ x.s < x.p ∨ 4096 - sl < x.s
    · rw [if_pos hbad] at hfr
      rw [decide_eq_true_eq] at hbad
      have hok : okFrames fs cs = false := by unfold okFrames; rw [hfr]; rfl
      rw [hok]
      repeat' (first | refine (ex_is _ hcm) ?_ | refine (ex_row q x rfl hx) ?_ | refine ex_true (by first | decide | omega | assumption | (with_reducible exact rfl)) ?_ | refine ex_false (by first | decide | omega | assumption | exact (fun h => h rfl)) ?_ | refine ex_dec (fun _ => ?_) (fun _ => ?_) | refine ex_u8 _ rfl (by omega) (by omega) ?_ | refine ex_i64 _ rfl (by omega) (by omega) ?_ | refine ex_u64 _ rfl (by omega) (by omega) ?_ | refine and_mk (by first | omega | (with_reducible rfl) | (show drawOk _ _ _ = true; kernel_rfl)) ?_ | refine and_mk ⟨_, rfl⟩ ?_ | refine ex_is _ (List.length_map _) ?_ | refine ex_is _ List.length_nil ?_ | fail "no step")
      all_goals exact TLe.rfl
    · rw [if_neg hbad] at hfr
      rw [decide_eq_true_eq] at hbad
      repeat' (first | refine ex_i64 ((q + 1 : Nat) : Int) (by omega) (by omega) (by omega) ?_ | refine ex_u64 ((q + 1 : Nat) : Int) (by omega) (by omega) (by omega) ?_ | refine ex_u8 ((q + 1 : Nat) : Int) (by omega) (by omega) (by omega) ?_ | refine (ex_is _ hcm) ?_ | refine (ex_row q x rfl hx) ?_ | refine ex_true (by first | decide | omega | assumption | (with_reducible exact rfl)) ?_ | refine ex_false (by first | decide | omega | assumption | exact (fun h => h rfl)) ?_ | refine ex_dec (fun _ => ?_) (fun _ => ?_) | refine ex_u8 _ rfl (by omega) (by omega) ?_ | refine ex_i64 _ rfl (by omega) (by omega) ?_ | refine ex_u64 _ rfl (by omega) (by omega) ?_ | refine and_mk (by first | omega | (with_reducible rfl) | (show drawOk _ _ _ = true; kernel_rfl)) ?_ | refine and_mk ⟨_, rfl⟩ ?_ | refine ex_is _ (List.length_map _) ?_ | refine ex_is _ List.length_nil ?_ | fail "no step")
      all_goals exact ex_round (q + 1, sl + x.s, x.e) ⟨by omega, by omega, by omega, by omega, by rw [hfr]; simp⟩ (by show _ - _ < _ - _; omega) (SLe.of ⟨⟨rfl, rfl, rfl, rfl, rfl, rfl, trivial⟩, ⟨rfl, trivial⟩⟩)
  · obtain rfl : q = fs.length := by omega
    rw [List.drop_length] at hfr
    have hok : okFrames fs cs = decide (0 < fs.length) := by
      unfold okFrames
      rw [hfr]
      cases fs <;> simp [framesV]
    rw [hok]
    repeat' (first | refine (ex_is _ hfm) ?_ | refine ex_true (by first | decide | omega | assumption | (with_reducible exact rfl)) ?_ | refine ex_false (by first | decide | omega | assumption | exact (fun h => h rfl)) ?_ | refine ex_dec (fun _ => ?_) (fun _ => ?_) | refine ex_u8 _ rfl (by omega) (by omega) ?_ | refine ex_i64 _ rfl (by omega) (by omega) ?_ | refine ex_u64 _ rfl (by omega) (by omega) ?_ | refine and_mk (by first | omega | (with_reducible rfl) | (show drawOk _ _ _ = true; kernel_rfl)) ?_ | refine and_mk ⟨_, rfl⟩ ?_ | refine ex_is _ (List.length_map _) ?_ | refine ex_is _ List.length_nil ?_ | fail "no step")
    all_goals first | exact TLe.eq (by rw [decide_eq_true (by omega)]; rfl) | exact TLe.eq (by rw [decide_eq_false (by omega)]; rfl)
end Go.Proofs.YtgfmbkbiingagaaGreatDoor

namespace Go.Proofs.YtgfmbkbiingagaaGreatDoor
set_option linter.unusedVariables false
set_option linter.unusedSimpArgs false
open Go.RowKit
set_option maxRecDepth 100000

theorem ok_ft {fs : List FN} {cs : List IN} (h : okFrames fs cs = true) {fn : Nat} {f : FN} (hx : fs[fn]? = some f) : f.e < toV fs cs fn := by
  unfold okFrames at h
  rw [Bool.and_eq_true] at h
  have hs := framesV_spec h.1 (Int.le_refl _) (Int.le_refl _) (by decide) fn f hx
  unfold toV
  split
  · rename_i hl
    have hx2 : fs[fn + 1]? = some fs[fn + 1] := at_some hl
    rw [List.getD, hx2]
    exact hs.2.2.2.2.2 (fn + 1) _ (Nat.lt_succ_self _) hx2
  · exact hs.2.1
set_option maxHeartbeats 4000000 in
theorem rframes_c {fs : List FN} {cs : List IN} (hf : fs.length ≤ 64) (hc : cs.length ≤ 8192) : CallsA Tryz.prog Γ0 12 [gD [.sl 3 (fs.map fnD), .sl 4 (cs.map inD)]] (Tb (okFrames fs cs)) := by
  have hfm : (fs.map fnD).length = fs.length := List.length_map _
  have hcm : (cs.map inD).length = cs.length := List.length_map _
  refine fn_rule (C := ⟨Tryz.prog, layF, Tryz.f12.ntmps, Γ0, 0, [], []⟩) layF_ok mixed Tryz.func12 rfl (by kernel_rfl) rfl rfl rfl ?_
  repeat' (first | refine ex_true (by first | decide | omega | assumption | (with_reducible exact rfl)) ?_ | refine ex_false (by first | decide | omega | assumption | exact (fun h => h rfl)) ?_ | refine ex_dec (fun _ => ?_) (fun _ => ?_) | refine ex_u8 _ rfl (by omega) (by omega) ?_ | refine ex_i64 _ rfl (by omega) (by omega) ?_ | refine ex_u64 _ rfl (by omega) (by omega) ?_ | refine and_mk (by first | omega | (with_reducible rfl) | (show drawOk _ _ _ = true; kernel_rfl)) ?_ | refine and_mk ⟨_, rfl⟩ ?_ | refine ex_is _ (List.length_map _) ?_ | refine ex_is _ List.length_nil ?_ | fail "no step")
  refine ex_loop (X := Nat × Int × Int) (fun ⟨q, sl, la⟩ => ⟨[(1, .o (.c (.ptr 0 0))), (3, Ti (4096 - sl)), (4, Ti q)], [(0, .obj [.d (.sl 3 (fs.map fnD)), .d (.sl 4 (cs.map inD))])], 1⟩) (fun x => fs.length - x.1) (fun ⟨q, sl, la⟩ => q ≤ fs.length ∧ 0 ≤ sl ∧ sl ≤ 4096 ∧ -1 ≤ la ∧ (q = 0 → la = -1) ∧ (∀ y, 0 < q → fs[q - 1]? = some y → y.e = la) ∧ framesV fs cs.length 0 (-1) true = framesV (fs.drop q) cs.length sl la (decide (q = 0))) (0, 0, -1) ⟨Nat.zero_le _, by decide, by decide, by decide, fun _ => rfl, fun y h => by omega, rfl⟩ (SLe.of ⟨⟨rfl, rfl, rfl, trivial⟩, ⟨rfl, trivial⟩⟩) ?_
  rintro ⟨q, sl, la⟩ ⟨hq, hs1, hs2, hla, hl0, hl1, hfr⟩
  by_cases hql : q < fs.length
  · have hx : fs[q]? = some fs[q] := at_some hql
    have hd : fs.drop q = fs[q] :: fs.drop (q + 1) := List.drop_eq_getElem_cons hql
    rw [hd] at hfr
    generalize fs[q] = x at *
    rw [framesV] at hfr
    by_cases hbad : (decide (q = 0) = true ∧ x.e ≠ 0) ∨ x.e ≤ la ∨ (cs.length : Int) ≤ x.e ∨ x.p < 0 ∨ x.s < x.p ∨ 4096 - sl < x.s
    · rw [if_pos hbad] at hfr
      rw [decide_eq_true_eq] at hbad
      have hok : okFrames fs cs = false := by unfold okFrames; rw [hfr]; rfl
      rw [hok]
      cases q with
      | zero =>
        have hla0 := hl0 rfl
        repeat' (first | refine (ex_is _ hcm) ?_ | refine (ex_is ([di x.e, di x.s, di x.p] : List D) rfl) ?_ | refine (ex_row 0 x rfl hx) ?_ | refine (ex_is _ hfm) ?_ | refine ex_true (by first | decide | omega | assumption | (with_reducible exact rfl)) ?_ | refine ex_false (by first | decide | omega | assumption | exact (fun h => h rfl)) ?_ | refine ex_dec (fun _ => ?_) (fun _ => ?_) | refine ex_u8 _ rfl (by omega) (by omega) ?_ | refine ex_i64 _ rfl (by omega) (by omega) ?_ | refine ex_u64 _ rfl (by omega) (by omega) ?_ | refine and_mk (by first | omega | (with_reducible rfl) | (show drawOk _ _ _ = true; kernel_rfl)) ?_ | refine and_mk ⟨_, rfl⟩ ?_ | refine ex_is _ (List.length_map _) ?_ | refine ex_is _ List.length_nil ?_ | fail "no step")
        all_goals exact TLe.rfl
      | succ r =>
        have hy : fs[r]? = some (fs[r]'(by omega)) := at_some (by omega)
        have hye := hl1 _ (Nat.succ_pos r) hy
        generalize fs[r]'(by omega) = y at *
        repeat' (first | refine ex_i64 (r : Int) (by omega) (by omega) (by omega) ?_ | refine ex_u64 (r : Int) (by omega) (by omega) (by omega) ?_ | refine ex_u8 (r : Int) (by omega) (by omega) (by omega) ?_ | refine (ex_is ([di y.e, di y.s, di y.p] : List D) rfl) ?_ | refine (ex_row r y rfl hy) ?_ | refine (ex_is _ hcm) ?_ | refine (ex_is ([di x.e, di x.s, di x.p] : List D) rfl) ?_ | refine (ex_row (r + 1) x rfl hx) ?_ | refine (ex_is _ hfm) ?_ | refine ex_true (by first | decide | omega | assumption | (with_reducible exact rfl)) ?_ | refine ex_false (by first | decide | omega | assumption | exact (fun h => h rfl)) ?_ | refine ex_dec (fun _ => ?_) (fun _ => ?_) | refine ex_u8 _ rfl (by omega) (by omega) ?_ | refine ex_i64 _ rfl (by omega) (by omega) ?_ | refine ex_u64 _ rfl (by omega) (by omega) ?_ | refine and_mk (by first | omega | (with_reducible rfl) | (show drawOk _ _ _ = true; kernel_rfl)) ?_ | refine and_mk ⟨_, rfl⟩ ?_ | refine ex_is _ (List.length_map _) ?_ | refine ex_is _ List.length_nil ?_ | fail "no step")
        all_goals exact TLe.rfl
    · rw [if_neg hbad] at hfr
      rw [decide_eq_true_eq] at hbad
      have hnx : (∀ y, 0 < q + 1 → fs[q + 1 - 1]? = some y → y.e = x.e) := fun y _ hy => by
        rw [Nat.add_sub_cancel, hx] at hy
        obtain rfl := Option.some.inj hy
        rfl
      cases q with
      | zero =>
        have hla0 := hl0 rfl
        repeat' (first | refine ex_i64 (4096 - (sl + x.s)) (by omega) (by omega) (by omega) ?_ | refine ex_u64 (4096 - (sl + x.s)) (by omega) (by omega) (by omega) ?_ | refine ex_u8 (4096 - (sl + x.s)) (by omega) (by omega) (by omega) ?_ | refine ex_i64 ((0 + 1 : Nat) : Int) (by omega) (by omega) (by omega) ?_ | refine ex_u64 ((0 + 1 : Nat) : Int) (by omega) (by omega) (by omega) ?_ | refine ex_u8 ((0 + 1 : Nat) : Int) (by omega) (by omega) (by omega) ?_ | refine (ex_is _ hcm) ?_ | refine (ex_is ([di x.e, di x.s, di x.p] : List D) rfl) ?_ | refine (ex_row 0 x rfl hx) ?_ | refine (ex_is _ hfm) ?_ | refine ex_true (by first | decide | omega | assumption | (with_reducible exact rfl)) ?_ | refine ex_false (by first | decide | omega | assumption | exact (fun h => h rfl)) ?_ | refine ex_dec (fun _ => ?_) (fun _ => ?_) | refine ex_u8 _ rfl (by omega) (by omega) ?_ | refine ex_i64 _ rfl (by omega) (by omega) ?_ | refine ex_u64 _ rfl (by omega) (by omega) ?_ | refine and_mk (by first | omega | (with_reducible rfl) | (show drawOk _ _ _ = true; kernel_rfl)) ?_ | refine and_mk ⟨_, rfl⟩ ?_ | refine ex_is _ (List.length_map _) ?_ | refine ex_is _ List.length_nil ?_ | fail "no step")
        all_goals exact ex_round (0 + 1, sl + x.s, x.e) ⟨by omega, by omega, by omega, by omega, fun h => by omega, hnx, by rw [hfr]; simp⟩ (by show _ - _ < _ - _; omega) (SLe.of ⟨⟨rfl, rfl, rfl, trivial⟩, ⟨rfl, trivial⟩⟩)
      | succ r =>
        have hy : fs[r]? = some (fs[r]'(by omega)) := at_some (by omega)
        have hye := hl1 _ (Nat.succ_pos r) hy
        generalize fs[r]'(by omega) = y at *
        repeat' (first | refine ex_i64 (r : Int) (by omega) (by omega) (by omega) ?_ | refine ex_u64 (r : Int) (by omega) (by omega) (by omega) ?_ | refine ex_u8 (r : Int) (by omega) (by omega) (by omega) ?_ | refine ex_i64 (4096 - (sl + x.s)) (by omega) (by omega) (by omega) ?_ | refine ex_u64 (4096 - (sl + x.s)) (by omega) (by omega) (by omega) ?_ | refine ex_u8 (4096 - (sl + x.s)) (by omega) (by omega) (by omega) ?_ | refine ex_i64 ((r + 1 + 1 : Nat) : Int) (by omega) (by omega) (by omega) ?_ | refine ex_u64 ((r + 1 + 1 : Nat) : Int) (by omega) (by omega) (by omega) ?_ | refine ex_u8 ((r + 1 + 1 : Nat) : Int) (by omega) (by omega) (by omega) ?_ | refine (ex_is ([di y.e, di y.s, di y.p] : List D) rfl) ?_ | refine (ex_row r y rfl hy) ?_ | refine (ex_is _ hcm) ?_ | refine (ex_is ([di x.e, di x.s, di x.p] : List D) rfl) ?_ | refine (ex_row (r + 1) x rfl hx) ?_ | refine (ex_is _ hfm) ?_ | refine ex_true (by first | decide | omega | assumption | (with_reducible exact rfl)) ?_ | refine ex_false (by first | decide | omega | assumption | exact (fun h => h rfl)) ?_ | refine ex_dec (fun _ => ?_) (fun _ => ?_) | refine ex_u8 _ rfl (by omega) (by omega) ?_ | refine ex_i64 _ rfl (by omega) (by omega) ?_ | refine ex_u64 _ rfl (by omega) (by omega) ?_ | refine and_mk (by first | omega | (with_reducible rfl) | (show drawOk _ _ _ = true; kernel_rfl)) ?_ | refine and_mk ⟨_, rfl⟩ ?_ | refine ex_is _ (List.length_map _) ?_ | refine ex_is _ List.length_nil ?_ | fail "no step")
        all_goals exact ex_round (r + 1 + 1, sl + x.s, x.e) ⟨by omega, by omega, by omega, by omega, fun h => by omega, hnx, by rw [hfr]; simp⟩ (by show _ - _ < _ - _; omega) (SLe.of ⟨⟨rfl, rfl, rfl, trivial⟩, ⟨rfl, trivial⟩⟩)
  · obtain rfl : q = fs.length := by omega
    rw [List.drop_length] at hfr
    have hok : okFrames fs cs = decide (0 < fs.length) := by
      unfold okFrames
      rw [hfr]
      cases fs <;> simp [framesV]
    rw [hok]
    repeat' (first | refine (ex_is _ hfm) ?_ | refine ex_true (by first | decide | omega | assumption | (with_reducible exact rfl)) ?_ | refine ex_false (by first | decide | omega | assumption | exact (fun h => h rfl)) ?_ | refine ex_dec (fun _ => ?_) (fun _ => ?_) | refine ex_u8 _ rfl (by omega) (by omega) ?_ | refine ex_i64 _ rfl (by omega) (by omega) ?_ | refine ex_u64 _ rfl (by omega) (by omega) ?_ | refine and_mk (by first | omega | (with_reducible rfl) | (show drawOk _ _ _ = true; kernel_rfl)) ?_ | refine and_mk ⟨_, rfl⟩ ?_ | refine ex_is _ (List.length_map _) ?_ | refine ex_is _ List.length_nil ?_ | fail "no step")
    all_goals first | exact TLe.eq (by rw [decide_eq_true (by omega)]; rfl) | exact TLe.eq (by rw [decide_eq_false (by omega)]; rfl)
theorem rcheck_c {fs : List FN} {cs : List IN} (hf : fs.length ≤ 64) (hc : cs.length ≤ 8192) : CallsA Tryz.prog Γ0 6 [gD [.sl 3 (fs.map fnD), .sl 4 (cs.map inD)]] (.tup [c1 (di (checkV fs cs).1), c1 (di (checkV fs cs).2)]) := by
  have hfm : (fs.map fnD).length = fs.length := List.length_map _
  have hcm : (cs.map inD).length = cs.length := List.length_map _
  have hfr := rframes_c hf hc
  unfold checkV
  cases hok : okFrames fs cs with
  | false =>
    rw [hok] at hfr
    rw [if_pos rfl]
    refine fn_rule (C := ⟨Tryz.prog, layF, Tryz.f6.ntmps, Γ0, 0, [], []⟩) layF_ok mixed Tryz.func6 rfl (by kernel_rfl) rfl rfl rfl ?_
    repeat' (first | refine ex_call hfr ?_ | refine (ex_is _ hcm) ?_ | refine (ex_is _ hfm) ?_ | refine ex_true (by first | decide | omega | assumption | (with_reducible exact rfl)) ?_ | refine ex_false (by first | decide | omega | assumption | exact (fun h => h rfl)) ?_ | refine ex_dec (fun _ => ?_) (fun _ => ?_) | refine ex_u8 _ rfl (by omega) (by omega) ?_ | refine ex_i64 _ rfl (by omega) (by omega) ?_ | refine ex_u64 _ rfl (by omega) (by omega) ?_ | refine and_mk (by first | omega | (with_reducible rfl) | (show drawOk _ _ _ = true; kernel_rfl)) ?_ | refine and_mk ⟨_, rfl⟩ ?_ | refine ex_is _ (List.length_map _) ?_ | refine ex_is _ List.length_nil ?_ | fail "no step")
    exact TLe.rfl
  | true =>
    rw [hok] at hfr
    rw [if_neg (by simp)]
    refine fn_rule (C := ⟨Tryz.prog, layF, Tryz.f6.ntmps, Γ0, 0, [], []⟩) layF_ok mixed Tryz.func6 rfl (by kernel_rfl) rfl rfl rfl ?_
    repeat' (first | refine ex_call hfr ?_ | refine (ex_is _ hcm) ?_ | refine (ex_is _ hfm) ?_ | refine ex_true (by first | decide | omega | assumption | (with_reducible exact rfl)) ?_ | refine ex_false (by first | decide | omega | assumption | exact (fun h => h rfl)) ?_ | refine ex_dec (fun _ => ?_) (fun _ => ?_) | refine ex_u8 _ rfl (by omega) (by omega) ?_ | refine ex_i64 _ rfl (by omega) (by omega) ?_ | refine ex_u64 _ rfl (by omega) (by omega) ?_ | refine and_mk (by first | omega | (with_reducible rfl) | (show drawOk _ _ _ = true; kernel_rfl)) ?_ | refine and_mk ⟨_, rfl⟩ ?_ | refine ex_is _ (List.length_map _) ?_ | refine ex_is _ List.length_nil ?_ | fail "no step")
    refine ex_loop (X := Nat) (fun q => ⟨[(1, .o (.c (.ptr 0 0))), (5, Ti q)], [(0, .obj [.d (.sl 3 (fs.map fnD)), .d (.sl 4 (cs.map inD))])], 1⟩) (fun q => fs.length - q) (fun q => q ≤ fs.length ∧ badV fs cs fs.length 0 = badV fs cs (fs.length - q) q) 0 ⟨Nat.zero_le _, rfl⟩ (SLe.of ⟨⟨rfl, rfl, trivial⟩, ⟨rfl, trivial⟩⟩) ?_
    rintro q ⟨hq, hbd⟩
    by_cases hql : q < fs.length
    · have hx : fs[q]? = some fs[q] := at_some hql
      have hfn := rfunction_c (ok_fr hok hf hc hx) (ok_ft hok hx)
      rw [show fs.length - q = (fs.length - (q + 1)) + 1 by omega, badV] at hbd
      generalize functionV fs cs q = r at *
      obtain ⟨r1, r2⟩ := r
      dsimp only at hbd hfn
      by_cases h0 : 0 ≤ r1
      · rw [if_pos h0] at hbd
        rw [hbd]
        repeat' (first | refine ex_call hfn ?_ | refine (ex_is _ hfm) ?_ | refine ex_true (by first | decide | omega | assumption | (with_reducible exact rfl)) ?_ | refine ex_false (by first | decide | omega | assumption | exact (fun h => h rfl)) ?_ | refine ex_dec (fun _ => ?_) (fun _ => ?_) | refine ex_u8 _ rfl (by omega) (by omega) ?_ | refine ex_i64 _ rfl (by omega) (by omega) ?_ | refine ex_u64 _ rfl (by omega) (by omega) ?_ | refine and_mk (by first | omega | (with_reducible rfl) | (show drawOk _ _ _ = true; kernel_rfl)) ?_ | refine and_mk ⟨_, rfl⟩ ?_ | refine ex_is _ (List.length_map _) ?_ | refine ex_is _ List.length_nil ?_ | fail "no step")
        exact TLe.rfl
      · rw [if_neg h0] at hbd
        repeat' (first | refine ex_call hfn ?_ | refine ex_i64 ((q + 1 : Nat) : Int) (by omega) (by omega) (by omega) ?_ | refine ex_u64 ((q + 1 : Nat) : Int) (by omega) (by omega) (by omega) ?_ | refine ex_u8 ((q + 1 : Nat) : Int) (by omega) (by omega) (by omega) ?_ | refine (ex_is _ hfm) ?_ | refine ex_true (by first | decide | omega | assumption | (with_reducible exact rfl)) ?_ | refine ex_false (by first | decide | omega | assumption | exact (fun h => h rfl)) ?_ | refine ex_dec (fun _ => ?_) (fun _ => ?_) | refine ex_u8 _ rfl (by omega) (by omega) ?_ | refine ex_i64 _ rfl (by omega) (by omega) ?_ | refine ex_u64 _ rfl (by omega) (by omega) ?_ | refine and_mk (by first | omega | (with_reducible rfl) | (show drawOk _ _ _ = true; kernel_rfl)) ?_ | refine and_mk ⟨_, rfl⟩ ?_ | refine ex_is _ (List.length_map _) ?_ | refine ex_is _ List.length_nil ?_ | fail "no step")
        exact ex_round (q + 1) ⟨by omega, hbd⟩ (by show _ - _ < _ - _; omega) (SLe.of ⟨⟨rfl, rfl, trivial⟩, ⟨rfl, trivial⟩⟩)
    · obtain rfl : q = fs.length := by omega
      rw [Nat.sub_self, badV] at hbd
      rw [hbd]
      repeat' (first | refine (ex_is _ hfm) ?_ | refine ex_true (by first | decide | omega | assumption | (with_reducible exact rfl)) ?_ | refine ex_false (by first | decide | omega | assumption | exact (fun h => h rfl)) ?_ | refine ex_dec (fun _ => ?_) (fun _ => ?_) | refine ex_u8 _ rfl (by omega) (by omega) ?_ | refine ex_i64 _ rfl (by omega) (by omega) ?_ | refine ex_u64 _ rfl (by omega) (by omega) ?_ | refine and_mk (by first | omega | (with_reducible rfl) | (show drawOk _ _ _ = true; kernel_rfl)) ?_ | refine and_mk ⟨_, rfl⟩ ?_ | refine ex_is _ (List.length_map _) ?_ | refine ex_is _ List.length_nil ?_ | fail "no step")
      exact TLe.rfl
end Go.Proofs.YtgfmbkbiingagaaGreatDoor

namespace Go.Proofs.YtgfmbkbiingagaaGreatDoor
set_option linter.unusedVariables false
set_option linter.unusedSimpArgs false
open Go.RowKit
set_option maxRecDepth 100000

theorem check_c {fs : List FN} {cs : List IN} (hf : fs.length ≤ 64) (hc : cs.length ≤ 8192) : CallsA Tryz.prog ΓH 5 [gD [.sl 3 (fs.map fnD), .sl 4 (cs.map inD)]] (.tup [c1 (di (checkV fs cs).1), c1 (di (checkV fs cs).2)]) := by
  have hfm : (fs.map fnD).length = fs.length := List.length_map _
  have hcm : (cs.map inD).length = cs.length := List.length_map _
  have hfr := (frames_c hf hc).of0 (Γ := ΓH)
  unfold checkV
  cases hok : okFrames fs cs with
  | false =>
    rw [hok] at hfr
    rw [if_pos rfl]
    refine fn_rule (C := ⟨Tryz.prog, layF, Tryz.f5.ntmps, ΓH, 0, [], []⟩) layF_ok mixed Tryz.func5 rfl (by kernel_rfl) rfl rfl rfl ?_
    repeat' (first | refine ex_call hfr ?_ | refine (ex_is _ hcm) ?_ | refine (ex_is _ hfm) ?_ | refine ex_true (by first | decide | omega | assumption | (with_reducible exact rfl)) ?_ | refine ex_false (by first | decide | omega | assumption | exact (fun h => h rfl)) ?_ | refine ex_dec (fun _ => ?_) (fun _ => ?_) | refine ex_u8 _ rfl (by omega) (by omega) ?_ | refine ex_i64 _ rfl (by omega) (by omega) ?_ | refine ex_u64 _ rfl (by omega) (by omega) ?_ | refine and_mk (by first | omega | (with_reducible rfl) | (show drawOk _ _ _ = true; kernel_rfl)) ?_ | refine and_mk ⟨_, rfl⟩ ?_ | refine ex_is _ (List.length_map _) ?_ | refine ex_is _ List.length_nil ?_ | fail "no step")
    exact TLe.rfl
  | true =>
    rw [hok] at hfr
    rw [if_neg (by simp)]
    refine fn_rule (C := ⟨Tryz.prog, layF, Tryz.f5.ntmps, ΓH, 0, [], []⟩) layF_ok mixed Tryz.func5 rfl (by kernel_rfl) rfl rfl rfl ?_
    repeat' (first | refine ex_call hfr ?_ | refine (ex_is _ hcm) ?_ | refine (ex_is _ hfm) ?_ | refine ex_true (by first | decide | omega | assumption | (with_reducible exact rfl)) ?_ | refine ex_false (by first | decide | omega | assumption | exact (fun h => h rfl)) ?_ | refine ex_dec (fun _ => ?_) (fun _ => ?_) | refine ex_u8 _ rfl (by omega) (by omega) ?_ | refine ex_i64 _ rfl (by omega) (by omega) ?_ | refine ex_u64 _ rfl (by omega) (by omega) ?_ | refine and_mk (by first | omega | (with_reducible rfl) | (show drawOk _ _ _ = true; kernel_rfl)) ?_ | refine and_mk ⟨_, rfl⟩ ?_ | refine ex_is _ (List.length_map _) ?_ | refine ex_is _ List.length_nil ?_ | fail "no step")
    refine ex_loop (X := Nat) (fun q => ⟨[(1, .o (.c (.ptr 0 0))), (24, Ti fs.length), (25, Ti q)], [(0, .obj [.d (.sl 3 (fs.map fnD)), .d (.sl 4 (cs.map inD))])], 1⟩) (fun q => fs.length - q) (fun q => q ≤ fs.length ∧ badV fs cs fs.length 0 = badV fs cs (fs.length - q) q) 0 ⟨Nat.zero_le _, rfl⟩ (SLe.of ⟨⟨rfl, rfl, rfl, trivial⟩, ⟨rfl, trivial⟩⟩) ?_
    rintro q ⟨hq, hbd⟩
    by_cases hql : q < fs.length
    · have hx : fs[q]? = some fs[q] := at_some hql
      have hfn := function_c (ok_fr hok hf hc hx)
      rw [show fs.length - q = (fs.length - (q + 1)) + 1 by omega, badV] at hbd
      generalize functionV fs cs q = r at *
      obtain ⟨r1, r2⟩ := r
      dsimp only at hbd hfn
      by_cases h0 : 0 ≤ r1
      · rw [if_pos h0] at hbd
        rw [hbd]
        repeat' (first | refine ex_call hfn ?_ | refine ex_true (by first | decide | omega | assumption | (with_reducible exact rfl)) ?_ | refine ex_false (by first | decide | omega | assumption | exact (fun h => h rfl)) ?_ | refine ex_dec (fun _ => ?_) (fun _ => ?_) | refine ex_u8 _ rfl (by omega) (by omega) ?_ | refine ex_i64 _ rfl (by omega) (by omega) ?_ | refine ex_u64 _ rfl (by omega) (by omega) ?_ | refine and_mk (by first | omega | (with_reducible rfl) | (show drawOk _ _ _ = true; kernel_rfl)) ?_ | refine and_mk ⟨_, rfl⟩ ?_ | refine ex_is _ (List.length_map _) ?_ | refine ex_is _ List.length_nil ?_ | fail "no step")
        exact TLe.rfl
      · rw [if_neg h0] at hbd
        repeat' (first | refine ex_call hfn ?_ | refine ex_i64 ((q + 1 : Nat) : Int) (by omega) (by omega) (by omega) ?_ | refine ex_u64 ((q + 1 : Nat) : Int) (by omega) (by omega) (by omega) ?_ | refine ex_u8 ((q + 1 : Nat) : Int) (by omega) (by omega) (by omega) ?_ | refine ex_true (by first | decide | omega | assumption | (with_reducible exact rfl)) ?_ | refine ex_false (by first | decide | omega | assumption | exact (fun h => h rfl)) ?_ | refine ex_dec (fun _ => ?_) (fun _ => ?_) | refine ex_u8 _ rfl (by omega) (by omega) ?_ | refine ex_i64 _ rfl (by omega) (by omega) ?_ | refine ex_u64 _ rfl (by omega) (by omega) ?_ | refine and_mk (by first | omega | (with_reducible rfl) | (show drawOk _ _ _ = true; kernel_rfl)) ?_ | refine and_mk ⟨_, rfl⟩ ?_ | refine ex_is _ (List.length_map _) ?_ | refine ex_is _ List.length_nil ?_ | fail "no step")
        exact ex_round (q + 1) ⟨by omega, hbd⟩ (by show _ - _ < _ - _; omega) (SLe.of ⟨⟨rfl, rfl, rfl, trivial⟩, ⟨rfl, trivial⟩⟩)
    · obtain rfl : q = fs.length := by omega
      rw [Nat.sub_self, badV] at hbd
      rw [hbd]
      repeat' (first | refine ex_true (by first | decide | omega | assumption | (with_reducible exact rfl)) ?_ | refine ex_false (by first | decide | omega | assumption | exact (fun h => h rfl)) ?_ | refine ex_dec (fun _ => ?_) (fun _ => ?_) | refine ex_u8 _ rfl (by omega) (by omega) ?_ | refine ex_i64 _ rfl (by omega) (by omega) ?_ | refine ex_u64 _ rfl (by omega) (by omega) ?_ | refine and_mk (by first | omega | (with_reducible rfl) | (show drawOk _ _ _ = true; kernel_rfl)) ?_ | refine and_mk ⟨_, rfl⟩ ?_ | refine ex_is _ (List.length_map _) ?_ | refine ex_is _ List.length_nil ?_ | fail "no step")
      exact TLe.rfl
theorem deepest_c {fs : List FN} {cs : List IN} (hf : fs.length ≤ 64) (hc : cs.length ≤ 8192) (fn : Int) : CallsA Tryz.prog ΓH 9 [gD [.sl 3 (fs.map fnD), .sl 4 (cs.map inD)], c1 (di fn)] (Ti (deepestV fs cs fn)) := by
  have hfm : (fs.map fnD).length = fs.length := List.length_map _
  have hck := check_c hf hc
  unfold deepestV
  by_cases h : (checkV fs cs).2 ≠ 0 ∨ fn < 0 ∨ (fs.length : Int) ≤ fn
  · rw [if_pos h]
    generalize checkV fs cs = r at *
    obtain ⟨r1, r2⟩ := r
    dsimp only at h hck
    refine fn_rule (C := ⟨Tryz.prog, layF, Tryz.f9.ntmps, ΓH, 0, [], []⟩) layF_ok mixed Tryz.func9 rfl (by kernel_rfl) rfl rfl rfl ?_
    repeat' (first | refine ex_call hck ?_ | refine (ex_is _ hfm) ?_ | refine ex_true (by first | decide | omega | assumption | (with_reducible exact rfl)) ?_ | refine ex_false (by first | decide | omega | assumption | exact (fun h => h rfl)) ?_ | refine ex_dec (fun _ => ?_) (fun _ => ?_) | refine ex_u8 _ rfl (by omega) (by omega) ?_ | refine ex_i64 _ rfl (by omega) (by omega) ?_ | refine ex_u64 _ rfl (by omega) (by omega) ?_ | refine and_mk (by first | omega | (with_reducible rfl) | (show drawOk _ _ _ = true; kernel_rfl)) ?_ | refine and_mk ⟨_, rfl⟩ ?_ | refine ex_is _ (List.length_map _) ?_ | refine ex_is _ List.length_nil ?_ | fail "no step")
    all_goals exact TLe.rfl
  · rw [if_neg h]
    have hok : okFrames fs cs = true := by
      cases hv : okFrames fs cs with
      | true => rfl
      | false => exact absurd (.inl (by unfold checkV; rw [hv, if_pos rfl]; exact (by decide : (2 : Nat) ≠ 0))) h
    obtain ⟨k, rfl⟩ : ∃ k : Nat, fn = k := ⟨fn.toNat, by omega⟩
    have hx : fs[k]? = some (fs[k]'(by omega)) := at_some (by omega)
    have hfn := function_c (ok_fr hok hf hc hx)
    clear hx
    rw [Int.toNat_natCast]
    generalize checkV fs cs = r at *
    obtain ⟨r1, r2⟩ := r
    dsimp only at h hck
    refine fn_rule (C := ⟨Tryz.prog, layF, Tryz.f9.ntmps, ΓH, 0, [], []⟩) layF_ok mixed Tryz.func9 rfl (by kernel_rfl) rfl rfl rfl ?_
    repeat' (first | refine ex_call hfn ?_ | refine ex_call hck ?_ | refine (ex_is _ hfm) ?_ | refine ex_true (by first | decide | omega | assumption | (with_reducible exact rfl)) ?_ | refine ex_false (by first | decide | omega | assumption | exact (fun h => h rfl)) ?_ | refine ex_dec (fun _ => ?_) (fun _ => ?_) | refine ex_u8 _ rfl (by omega) (by omega) ?_ | refine ex_i64 _ rfl (by omega) (by omega) ?_ | refine ex_u64 _ rfl (by omega) (by omega) ?_ | refine and_mk (by first | omega | (with_reducible rfl) | (show drawOk _ _ _ = true; kernel_rfl)) ?_ | refine and_mk ⟨_, rfl⟩ ?_ | refine ex_is _ (List.length_map _) ?_ | refine ex_is _ List.length_nil ?_ | fail "no step")
    exact TLe.rfl
end Go.Proofs.YtgfmbkbiingagaaGreatDoor

namespace Go.Proofs.YtgfmbkbiingagaaGreatDoor
set_option linter.unusedVariables false
set_option linter.unusedSimpArgs false
open Go.RowKit
set_option maxRecDepth 100000

theorem TLe.nilc {s : Nat} {l : List T1} : TLe (.tup (c1 (.v (.slice none 0 0)) :: l)) (.tup (c1 (.sl s []) :: l)) := fun ι S w v ⟨us, hu, h⟩ => by
  have h : All2 (V1 ι S w) (c1 (.v (.slice none 0 0)) :: l) us := h
  obtain ⟨u, us, rfl, e, h⟩ := h.cons_left
  exact ⟨u :: us, hu, .cons (TLe.nil ι S w u e) h⟩
theorem bs_inj {a b : List UInt8} : bs a = bs b ↔ a = b := ⟨fun h => by have := congrArg (fun x : ByteArray => x.data.toList) h; simpa using this, fun h => by rw [h]⟩
/-- The number that Atoi tells. -/
def numZ (s : List UInt8) : Int := match Lib.atoiAll s with
  | .ok u => u
  | .range => Lib.atoiSat s
  | _ => 0
theorem numZ_of {s : List UInt8} {z : Int} (h : intF s = some z) : numZ s = z := by
  obtain ⟨⟨h1, h2⟩, h3⟩ := intF_iff.1 h
  unfold numZ
  rw [← h3, atoi_itoa z h1 h2]
theorem number_c (s : List UInt8) (hs : s.length ≤ 1048576) : CallsA Tryz.prog ΓC 63 [c1 (ds (bs s))] (.tup [c1 (di (numZ s)), c1 (db (intF s).isSome)]) := by
  have ha := atoi_c (bs s) (by rw [bs_size]; exact hs)
  rw [show (bs s).data.toList = s by simp] at ha
  unfold atT at ha
  unfold numZ intF
  cases hp : Lib.atoiAll s with
  | ok u =>
    rw [hp] at ha
    have hb := Lib.atoiAll_bounds hp
    have hi := itoa_c u hb.1 hb.2
    dsimp only
    by_cases he : Lib.itoa u = s
    · rw [if_pos he]
      have he2 : bs (Lib.itoa u) = bs s := bs_inj.2 he
      refine fn_rule (C := ⟨Tryz.prog, layF, Tryz.f63.ntmps, ΓC, 0, [], []⟩) layF_ok mixed Tryz.func63 rfl (by kernel_rfl) rfl rfl rfl ?_
      repeat' (first | refine ex_call hi ?_ | refine ex_call ha ?_ | refine ex_true (by first | decide | omega | assumption | (with_reducible exact rfl)) ?_ | refine ex_false (by first | decide | omega | assumption | exact (fun h => h rfl)) ?_ | refine ex_dec (fun _ => ?_) (fun _ => ?_) | refine ex_u8 _ rfl (by omega) (by omega) ?_ | refine ex_i64 _ rfl (by omega) (by omega) ?_ | refine ex_u64 _ rfl (by omega) (by omega) ?_ | refine and_mk (by first | omega | (with_reducible rfl) | (show drawOk _ _ _ = true; kernel_rfl)) ?_ | refine and_mk ⟨_, rfl⟩ ?_ | refine ex_is _ (List.length_map _) ?_ | refine ex_is _ List.length_nil ?_ | fail "no step")
      exact TLe.rfl
    · rw [if_neg he]
      have he2 : ¬ bs (Lib.itoa u) = bs s := fun e => he (bs_inj.1 e)
      refine fn_rule (C := ⟨Tryz.prog, layF, Tryz.f63.ntmps, ΓC, 0, [], []⟩) layF_ok mixed Tryz.func63 rfl (by kernel_rfl) rfl rfl rfl ?_
      repeat' (first | refine ex_call hi ?_ | refine ex_call ha ?_ | refine ex_true (by first | decide | omega | assumption | (with_reducible exact rfl)) ?_ | refine ex_false (by first | decide | omega | assumption | exact (fun h => h rfl)) ?_ | refine ex_dec (fun _ => ?_) (fun _ => ?_) | refine ex_u8 _ rfl (by omega) (by omega) ?_ | refine ex_i64 _ rfl (by omega) (by omega) ?_ | refine ex_u64 _ rfl (by omega) (by omega) ?_ | refine and_mk (by first | omega | (with_reducible rfl) | (show drawOk _ _ _ = true; kernel_rfl)) ?_ | refine and_mk ⟨_, rfl⟩ ?_ | refine ex_is _ (List.length_map _) ?_ | refine ex_is _ List.length_nil ?_ | fail "no step")
      exact TLe.rfl
  | range =>
    rw [hp] at ha
    dsimp only at ha ⊢
    generalize Lib.atoiSat s = z at *
    refine fn_rule (C := ⟨Tryz.prog, layF, Tryz.f63.ntmps, ΓC, 0, [], []⟩) layF_ok mixed Tryz.func63 rfl (by kernel_rfl) rfl rfl rfl ?_
    repeat' (first | refine ex_call ha ?_ | refine ex_true (by first | decide | omega | assumption | (with_reducible exact rfl)) ?_ | refine ex_false (by first | decide | omega | assumption | exact (fun h => h rfl)) ?_ | refine ex_dec (fun _ => ?_) (fun _ => ?_) | refine ex_u8 _ rfl (by omega) (by omega) ?_ | refine ex_i64 _ rfl (by omega) (by omega) ?_ | refine ex_u64 _ rfl (by omega) (by omega) ?_ | refine and_mk (by first | omega | (with_reducible rfl) | (show drawOk _ _ _ = true; kernel_rfl)) ?_ | refine and_mk ⟨_, rfl⟩ ?_ | refine ex_is _ (List.length_map _) ?_ | refine ex_is _ List.length_nil ?_ | fail "no step")
    exact TLe.rfl
  | _ =>
    rw [hp] at ha
    dsimp only at ha ⊢
    refine fn_rule (C := ⟨Tryz.prog, layF, Tryz.f63.ntmps, ΓC, 0, [], []⟩) layF_ok mixed Tryz.func63 rfl (by kernel_rfl) rfl rfl rfl ?_
    repeat' (first | refine ex_call ha ?_ | refine ex_true (by first | decide | omega | assumption | (with_reducible exact rfl)) ?_ | refine ex_false (by first | decide | omega | assumption | exact (fun h => h rfl)) ?_ | refine ex_dec (fun _ => ?_) (fun _ => ?_) | refine ex_u8 _ rfl (by omega) (by omega) ?_ | refine ex_i64 _ rfl (by omega) (by omega) ?_ | refine ex_u64 _ rfl (by omega) (by omega) ?_ | refine and_mk (by first | omega | (with_reducible rfl) | (show drawOk _ _ _ = true; kernel_rfl)) ?_ | refine and_mk ⟨_, rfl⟩ ?_ | refine ex_is _ (List.length_map _) ?_ | refine ex_is _ List.length_nil ?_ | fail "no step")
    exact TLe.rfl
theorem numbers_c (l : List (List UInt8)) (hl : l.length ≤ 1048577) (hb : ∀ s ∈ l, s.length ≤ 1048576) : CallsA Tryz.prog ΓC 48 [c1 (dss l)] (.tup [c1 (dint ((intsF l).getD [])), c1 (db (intsF l).isSome)]) := by
  obtain ⟨R, hR⟩ : ∃ R, intsF l = R := ⟨_, rfl⟩
  rw [hR]
  refine fn_rule (C := ⟨Tryz.prog, layF, Tryz.f48.ntmps, ΓC, 0, [], []⟩) layF_ok mixed Tryz.func48 rfl (by kernel_rfl) rfl rfl rfl ?_
  repeat' (first | refine ex_true (by first | decide | omega | assumption | (with_reducible exact rfl)) ?_ | refine ex_false (by first | decide | omega | assumption | exact (fun h => h rfl)) ?_ | refine ex_dec (fun _ => ?_) (fun _ => ?_) | refine ex_u8 _ rfl (by omega) (by omega) ?_ | refine ex_i64 _ rfl (by omega) (by omega) ?_ | refine ex_u64 _ rfl (by omega) (by omega) ?_ | refine and_mk (by first | omega | (with_reducible rfl) | (show drawOk _ _ _ = true; kernel_rfl)) ?_ | refine and_mk ⟨_, rfl⟩ ?_ | refine ex_is _ (List.length_map _) ?_ | refine ex_is _ List.length_nil ?_ | fail "no step")
  refine ex_loop (X := Nat × List Int) (fun ⟨q, a⟩ => ⟨[(4, .o (.c (.row 0))), (9, .o (c1 (dss l))), (10, Ti l.length), (11, Ti q)], [(0, .row 1 3 (a.map fun z => [di z]))], 1⟩) (fun x => l.length - x.1) (fun ⟨q, a⟩ => q ≤ l.length ∧ a.length = q ∧ (intsF (l.drop q)).map (a ++ ·) = R) (0, []) ⟨Nat.zero_le _, rfl, by rw [List.drop_zero, hR]; cases R <;> rfl⟩ (SLe.trans (SLe.of ⟨⟨rfl, rfl, rfl, rfl, trivial⟩, ⟨rfl, trivial⟩⟩) (SLe.own 4 0 1 3 rfl rfl rfl rfl rfl)) ?_
  rintro ⟨q, a⟩ ⟨hq, ha, hs⟩
  refine ex_dec (fun h => ?_) (fun h => ?_)
  · have hql : q < l.length := by omega
    have hc : l[q]? = some l[q] := at_some hql
    have hbs := hb l[q] (List.getElem_mem hql)
    rw [List.drop_eq_getElem_cons hql, intsF] at hs
    generalize l[q] = s at *
    have hn := number_c s hbs
    cases hz : intF s with
    | none =>
      rw [hz] at hs hn
      dsimp only at hs
      subst hs
      repeat' (first | refine ex_call hn ?_ | refine (ex_row q s rfl hc) ?_ | refine ex_true (by first | decide | omega | assumption | (with_reducible exact rfl)) ?_ | refine ex_false (by first | decide | omega | assumption | exact (fun h => h rfl)) ?_ | refine ex_dec (fun _ => ?_) (fun _ => ?_) | refine ex_u8 _ rfl (by omega) (by omega) ?_ | refine ex_i64 _ rfl (by omega) (by omega) ?_ | refine ex_u64 _ rfl (by omega) (by omega) ?_ | refine and_mk (by first | omega | (with_reducible rfl) | (show drawOk _ _ _ = true; kernel_rfl)) ?_ | refine and_mk ⟨_, rfl⟩ ?_ | refine ex_is _ (List.length_map _) ?_ | refine ex_is _ List.length_nil ?_ | fail "no step")
      exact TLe.nilc
    | some z =>
      rw [hz] at hs hn
      rw [numZ_of hz] at hn
      dsimp only at hs
      repeat' (first | refine ex_call hn ?_ | refine (ex_row q s rfl hc) ?_ | refine ex_true (by first | decide | omega | assumption | (with_reducible exact rfl)) ?_ | refine ex_false (by first | decide | omega | assumption | exact (fun h => h rfl)) ?_ | refine ex_dec (fun _ => ?_) (fun _ => ?_) | refine ex_u8 _ rfl (by omega) (by omega) ?_ | refine ex_i64 _ rfl (by omega) (by omega) ?_ | refine ex_u64 _ rfl (by omega) (by omega) ?_ | refine and_mk (by first | omega | (with_reducible rfl) | (show drawOk _ _ _ = true; kernel_rfl)) ?_ | refine and_mk ⟨_, rfl⟩ ?_ | refine ex_is _ (List.length_map _) ?_ | refine ex_is _ List.length_nil ?_ | fail "no step")
      refine ex_app (q) (1) 1000 (by first | rfl | (simp; done) | (simp; omega)) (by first | rfl | (simp; done) | (simp; omega)) rfl (by omega) ?_
      refine ex_is (List.map (fun z => [di z]) (a ++ [z])) (by rw [List.map_append]; rfl) ?_
      repeat' (first | refine ex_i64 ((q + 1 : Nat) : Int) (by omega) (by omega) (by omega) ?_ | refine ex_u64 ((q + 1 : Nat) : Int) (by omega) (by omega) (by omega) ?_ | refine ex_u8 ((q + 1 : Nat) : Int) (by omega) (by omega) (by omega) ?_ | refine ex_true (by first | decide | omega | assumption | (with_reducible exact rfl)) ?_ | refine ex_false (by first | decide | omega | assumption | exact (fun h => h rfl)) ?_ | refine ex_dec (fun _ => ?_) (fun _ => ?_) | refine ex_u8 _ rfl (by omega) (by omega) ?_ | refine ex_i64 _ rfl (by omega) (by omega) ?_ | refine ex_u64 _ rfl (by omega) (by omega) ?_ | refine and_mk (by first | omega | (with_reducible rfl) | (show drawOk _ _ _ = true; kernel_rfl)) ?_ | refine and_mk ⟨_, rfl⟩ ?_ | refine ex_is _ (List.length_map _) ?_ | refine ex_is _ List.length_nil ?_ | fail "no step")
      exact ex_round (q + 1, a ++ [z]) ⟨by omega, by simp [ha], by rw [← hs]; cases intsF (l.drop (q + 1)) <;> simp⟩ (by show _ - _ < _ - _; omega) (SLe.ren [(2, 0)] ⟨⟨rfl, rfl⟩, ⟨rfl, rfl⟩, ⟨rfl, rfl⟩, ⟨rfl, rfl⟩, trivial⟩ ⟨⟨rfl, rfl⟩, trivial⟩ rfl)
  · have hq9 : q = l.length := by omega
    subst hq9
    rw [List.drop_length, intsF, Option.map_some, List.append_nil] at hs
    subst hs
    repeat' (first | refine ex_true (by first | decide | omega | assumption | (with_reducible exact rfl)) ?_ | refine ex_false (by first | decide | omega | assumption | exact (fun h => h rfl)) ?_ | refine ex_dec (fun _ => ?_) (fun _ => ?_) | refine ex_u8 _ rfl (by omega) (by omega) ?_ | refine ex_i64 _ rfl (by omega) (by omega) ?_ | refine ex_u64 _ rfl (by omega) (by omega) ?_ | refine and_mk (by first | omega | (with_reducible rfl) | (show drawOk _ _ _ = true; kernel_rfl)) ?_ | refine and_mk ⟨_, rfl⟩ ?_ | refine ex_is _ (List.length_map _) ?_ | refine ex_is _ List.length_nil ?_ | fail "no step")
    exact TLe.rfl
theorem findO_none {w : List UInt8} (h : ∀ j, j < 36 → (opsL.getD j noneR).1 ≠ w) : findO w = none := by
  unfold findO
  rw [List.findIdx?_eq_none_iff]
  intro r hr
  obtain ⟨j, hj⟩ := List.getElem?_of_mem hr
  have hlt := (List.getElem?_eq_some_iff.1 hj).1
  have := h j hlt
  rw [List.getD, hj] at this
  simpa using this
theorem findO_hit {w : List UInt8} {q : Nat} (hq : q < 36) (h : ∀ j, j < q → (opsL.getD j noneR).1 ≠ w) (he : (opsL.getD q noneR).1 = w) : findO w = some q := by
  have := (ops_facts ⟨q, hq⟩).2.2.2.2.1
  rw [← he]
  exact this
theorem find_c (w : List UInt8) : CallsA Tryz.prog ΓC 60 [c1 (ds (bs w))] (.tup [c1 (di ((findO w).getD 0 : Nat)), c1 (db (findO w).isSome)]) := by
  obtain ⟨R, hR⟩ : ∃ R, findO w = R := ⟨_, rfl⟩
  rw [hR]
  refine fn_rule (C := ⟨Tryz.prog, layF, Tryz.f60.ntmps, ΓC, 0, [], []⟩) layF_ok mixed Tryz.func60 rfl (by kernel_rfl) rfl rfl rfl ?_
  repeat' (first | refine ex_true (by first | decide | omega | assumption | (with_reducible exact rfl)) ?_ | refine ex_false (by first | decide | omega | assumption | exact (fun h => h rfl)) ?_ | refine ex_dec (fun _ => ?_) (fun _ => ?_) | refine ex_u8 _ rfl (by omega) (by omega) ?_ | refine ex_i64 _ rfl (by omega) (by omega) ?_ | refine ex_u64 _ rfl (by omega) (by omega) ?_ | refine and_mk (by first | omega | (with_reducible rfl) | (show drawOk _ _ _ = true; kernel_rfl)) ?_ | refine and_mk ⟨_, rfl⟩ ?_ | refine ex_is _ (List.length_map _) ?_ | refine ex_is _ List.length_nil ?_ | fail "no step")
  refine ex_loop (X := Nat) (fun q => ⟨[(0, Tstr (bs w)), (5, Ti q)], [], 0⟩) (fun q => 36 - q) (fun q => q ≤ 36 ∧ ∀ j, j < q → (opsL.getD j noneR).1 ≠ w) 0 ⟨Nat.zero_le _, fun j h => by omega⟩ (SLe.of ⟨⟨rfl, rfl, trivial⟩, trivial⟩) ?_
  rintro q ⟨hq, hs⟩
  refine ex_dec (fun h => ?_) (fun h => ?_)
  · have hq36 : q < 36 := by omega
    have h1 := shapes_at hq36
    have hne := (ops_facts ⟨q, hq36⟩).2.2.1
    dsimp only at hne
    have hhit := findO_hit hq36 hs
    generalize hr : opsL.getD q noneR = r at hne hhit h1
    by_cases hw : r.1 = w
    · have hw2 : bs r.1 = bs w := bs_inj.2 hw
      have hwe : ¬ bs w = ByteArray.empty := fun e => hne (by rw [hw]; exact bs_inj.1 e)
      rw [hhit hw] at hR
      subst hR
      repeat' (first | refine ex_true (by first | decide | omega | assumption | (with_reducible exact rfl)) ?_ | refine ex_false (by first | decide | omega | assumption | exact (fun h => h rfl)) ?_ | refine ex_dec (fun _ => ?_) (fun _ => ?_) | refine ex_u8 _ rfl (by omega) (by omega) ?_ | refine ex_i64 _ rfl (by omega) (by omega) ?_ | refine ex_u64 _ rfl (by omega) (by omega) ?_ | refine and_mk (by first | omega | (with_reducible rfl) | (show drawOk _ _ _ = true; kernel_rfl)) ?_ | refine and_mk ⟨_, rfl⟩ ?_ | refine ex_is _ (List.length_map _) ?_ | refine ex_is _ List.length_nil ?_ | fail "no step")
      refine ex_is _ h1 ?_
      repeat' (first | refine ex_true (by first | decide | omega | assumption | (with_reducible exact rfl)) ?_ | refine ex_false (by first | decide | omega | assumption | exact (fun h => h rfl)) ?_ | refine ex_dec (fun _ => ?_) (fun _ => ?_) | refine ex_u8 _ rfl (by omega) (by omega) ?_ | refine ex_i64 _ rfl (by omega) (by omega) ?_ | refine ex_u64 _ rfl (by omega) (by omega) ?_ | refine and_mk (by first | omega | (with_reducible rfl) | (show drawOk _ _ _ = true; kernel_rfl)) ?_ | refine and_mk ⟨_, rfl⟩ ?_ | refine ex_is _ (List.length_map _) ?_ | refine ex_is _ List.length_nil ?_ | fail "no step")
      exact TLe.rfl
    · have hw2 : ¬ bs r.1 = bs w := fun e => hw (bs_inj.1 e)
      have hnx : ∀ j, j < q + 1 → (opsL.getD j noneR).1 ≠ w := fun j hj => by
        by_cases hjq : j = q
        · subst hjq; rw [hr]; exact hw
        · exact hs j (by omega)
      by_cases hwe : w = []
      · subst hwe
        repeat' (first | refine ex_i64 ((q + 1 : Nat) : Int) (by omega) (by omega) (by omega) ?_ | refine ex_u64 ((q + 1 : Nat) : Int) (by omega) (by omega) (by omega) ?_ | refine ex_u8 ((q + 1 : Nat) : Int) (by omega) (by omega) (by omega) ?_ | refine ex_true (by first | decide | omega | assumption | (with_reducible exact rfl)) ?_ | refine ex_false (by first | decide | omega | assumption | exact (fun h => h rfl)) ?_ | refine ex_dec (fun _ => ?_) (fun _ => ?_) | refine ex_u8 _ rfl (by omega) (by omega) ?_ | refine ex_i64 _ rfl (by omega) (by omega) ?_ | refine ex_u64 _ rfl (by omega) (by omega) ?_ | refine and_mk (by first | omega | (with_reducible rfl) | (show drawOk _ _ _ = true; kernel_rfl)) ?_ | refine and_mk ⟨_, rfl⟩ ?_ | refine ex_is _ (List.length_map _) ?_ | refine ex_is _ List.length_nil ?_ | fail "no step")
        exact ex_round (q + 1) ⟨by omega, hnx⟩ (by show _ - _ < _ - _; omega) (SLe.of ⟨⟨rfl, rfl, trivial⟩, trivial⟩)
      · have hwe2 : ¬ bs w = ByteArray.empty := fun e => hwe (bs_inj.1 e)
        repeat' (first | refine ex_true (by first | decide | omega | assumption | (with_reducible exact rfl)) ?_ | refine ex_false (by first | decide | omega | assumption | exact (fun h => h rfl)) ?_ | refine ex_dec (fun _ => ?_) (fun _ => ?_) | refine ex_u8 _ rfl (by omega) (by omega) ?_ | refine ex_i64 _ rfl (by omega) (by omega) ?_ | refine ex_u64 _ rfl (by omega) (by omega) ?_ | refine and_mk (by first | omega | (with_reducible rfl) | (show drawOk _ _ _ = true; kernel_rfl)) ?_ | refine and_mk ⟨_, rfl⟩ ?_ | refine ex_is _ (List.length_map _) ?_ | refine ex_is _ List.length_nil ?_ | fail "no step")
        refine ex_is _ h1 ?_
        repeat' (first | refine ex_i64 ((q + 1 : Nat) : Int) (by omega) (by omega) (by omega) ?_ | refine ex_u64 ((q + 1 : Nat) : Int) (by omega) (by omega) (by omega) ?_ | refine ex_u8 ((q + 1 : Nat) : Int) (by omega) (by omega) (by omega) ?_ | refine ex_true (by first | decide | omega | assumption | (with_reducible exact rfl)) ?_ | refine ex_false (by first | decide | omega | assumption | exact (fun h => h rfl)) ?_ | refine ex_dec (fun _ => ?_) (fun _ => ?_) | refine ex_u8 _ rfl (by omega) (by omega) ?_ | refine ex_i64 _ rfl (by omega) (by omega) ?_ | refine ex_u64 _ rfl (by omega) (by omega) ?_ | refine and_mk (by first | omega | (with_reducible rfl) | (show drawOk _ _ _ = true; kernel_rfl)) ?_ | refine and_mk ⟨_, rfl⟩ ?_ | refine ex_is _ (List.length_map _) ?_ | refine ex_is _ List.length_nil ?_ | fail "no step")
        exact ex_round (q + 1) ⟨by omega, hnx⟩ (by show _ - _ < _ - _; omega) (SLe.of ⟨⟨rfl, rfl, trivial⟩, trivial⟩)
  · have hq9 : q = 36 := by omega
    subst hq9
    rw [findO_none hs] at hR
    subst hR
    repeat' (first | refine ex_true (by first | decide | omega | assumption | (with_reducible exact rfl)) ?_ | refine ex_false (by first | decide | omega | assumption | exact (fun h => h rfl)) ?_ | refine ex_dec (fun _ => ?_) (fun _ => ?_) | refine ex_u8 _ rfl (by omega) (by omega) ?_ | refine ex_i64 _ rfl (by omega) (by omega) ?_ | refine ex_u64 _ rfl (by omega) (by omega) ?_ | refine and_mk (by first | omega | (with_reducible rfl) | (show drawOk _ _ _ = true; kernel_rfl)) ?_ | refine and_mk ⟨_, rfl⟩ ?_ | refine ex_is _ (List.length_map _) ?_ | refine ex_is _ List.length_nil ?_ | fail "no step")
    exact TLe.rfl
theorem mem_cut {c : UInt8} : ∀ {s : List UInt8}, (cutL c s).length ≤ s.length + 1 ∧ ∀ l ∈ cutL c s, l.length ≤ s.length
  | [] => ⟨by simp [cutL], by simp [cutL]⟩
  | a :: r => by
    obtain ⟨h1, h2⟩ := mem_cut (c := c) (s := r)
    rw [cutL]
    split
    · exact ⟨by rw [List.length_cons, List.length_cons]; omega, fun l hl => by
        rcases List.mem_cons.1 hl with rfl | hl
        · simp
        · have := h2 l hl; rw [List.length_cons]; omega⟩
    · cases hc : cutL c r with
      | nil => exact absurd hc (cutL_ne c r)
      | cons x t =>
        rw [hc] at h1 h2
        refine ⟨by show (_ :: t).length ≤ _; rw [List.length_cons] at h1 ⊢; rw [List.length_cons]; omega, fun l hl => ?_⟩
        rcases List.mem_cons.1 hl with rfl | hl
        · have := h2 x (by simp); show (a :: x).length ≤ _; rw [List.length_cons, List.length_cons]; omega
        · have := h2 l (by simp [hl]); rw [List.length_cons]; omega
theorem findO_lt {w : List UInt8} {o : Nat} (h : findO w = some o) : o < 36 := by
  unfold findO at h
  exact (List.findIdx?_eq_some_iff_getElem.1 h).1
theorem parseM_lt : ∀ (l : List UInt8) (acc u : Nat), acc < 18446744073709551616 → Lib.parseUintM 18446744073709551615 acc l = .ok u → u < 18446744073709551616
  | [], acc, u, h, e => by simp only [Lib.parseUintM] at e; injection e with e; omega
  | c :: r, acc, u, h, e => by
    rw [Lib.parseUintM] at e
    split at e
    · split at e
      · cases e
      · split at e
        · cases e
        · exact parseM_lt r _ u (by omega) e
    · cases e
theorem parseB_lt {s : List UInt8} {u : Nat} (h : Lib.parseUintB 64 s = .ok u) : u < 18446744073709551616 := by
  unfold Lib.parseUintB at h
  split at h
  · cases h
  · exact parseM_lt _ _ _ (by omega) h
set_option maxHeartbeats 4000000 in
theorem instr_c (l : List (List UInt8)) (h0 : l ≠ []) (hl : l.length ≤ 1048577) (hb : ∀ s ∈ l, s.length ≤ 1048576) :
    ∃ x, (∀ y, instrF l = some y → x = y) ∧ CallsA Tryz.prog ΓC 47 [c1 (dss l)] (.tup [gD (inD x), c1 (db (instrF l).isSome)]) := by
  obtain ⟨w, t, rfl⟩ : ∃ w t, l = w :: t := by rcases l with _ | ⟨w, t⟩; exact absurd rfl h0; exact ⟨w, t, rfl⟩
  have hf := find_c w
  unfold instrF
  rw [List.headD_cons]
  cases ho : findO w with
  | none =>
    rw [ho] at hf
    refine ⟨⟨0, 0, 0, 0⟩, (fun y h => by cases h), ?_⟩
    refine fn_rule (C := ⟨Tryz.prog, layF, Tryz.f47.ntmps, ΓC, 0, [], []⟩) layF_ok mixed Tryz.func47 rfl (by kernel_rfl) rfl rfl rfl ?_
    repeat' (first | refine ex_call hf ?_ | refine (ex_row 0 w rfl rfl) ?_ | refine ex_true (by first | decide | omega | assumption | (with_reducible exact rfl)) ?_ | refine ex_false (by first | decide | omega | assumption | exact (fun h => h rfl)) ?_ | refine ex_dec (fun _ => ?_) (fun _ => ?_) | refine ex_u8 _ rfl (by omega) (by omega) ?_ | refine ex_i64 _ rfl (by omega) (by omega) ?_ | refine ex_u64 _ rfl (by omega) (by omega) ?_ | refine and_mk (by first | omega | (with_reducible rfl) | (show drawOk _ _ _ = true; kernel_rfl)) ?_ | refine and_mk ⟨_, rfl⟩ ?_ | refine ex_is _ (List.length_map _) ?_ | refine ex_is _ List.length_nil ?_ | fail "no step")
    exact TLe.rfl
  | some o =>
    have ho36 := findO_lt ho
    rw [ho] at hf
    have hf : CallsA Tryz.prog ΓC 60 [c1 (ds (bs w))] (.tup [c1 (di (o : Nat)), c1 (db true)]) := hf
    have h1 := shapes_at ho36
    have hop := opF_at ⟨o, ho36⟩
    have hfa := (ops_facts ⟨o, ho36⟩).2.2.2.2.2
    have h0a := (ops_facts ⟨0, by decide⟩).2.2.2.2.2.2.2
    dsimp only at hop hfa
    dsimp only
    rw [hop]
    have hr0 : o = 0 → (opsL.getD o noneR).2.1 = 1 := fun e => by rw [e]; exact h0a
    generalize opsL.getD o noneR = r at *
    obtain ⟨rw_, rh, rt, rp⟩ := r
    have h1 : (shapesV.map D.v).drop (o * 4) = ds (bs rw_) :: di (rh : Nat) :: di (rt : Nat) :: di (rp : Nat) :: (shapesV.map D.v).drop ((o + 1) * 4) := h1
    dsimp only at *
    have hlen : (w :: t).length = t.length + 1 := List.length_cons
    by_cases hn : (w :: t).length = 1 + rh
    · rw [if_pos hn]
      by_cases h0 : o = 0
      · subst h0
        rw [if_pos rfl]
        have hr1 := hr0 rfl
        obtain ⟨s, rfl⟩ : ∃ s, t = [s] := by
          rcases t with _ | ⟨s, _ | ⟨u, v⟩⟩
          · simp at hn; omega
          · exact ⟨s, rfl⟩
          · simp at hn; omega
        have hs := hb s (by simp)
        have hp : CallsA Tryz.prog ΓC 61 _ _ := (pu_c (bs s) (by rw [bs_size]; omega)).gC
        unfold puT at hp
        rw [show (bs s).data.toList = s by simp] at hp
        rw [show ([w, s] : List (List UInt8)).getD 1 [] = s from rfl]
        unfold natF
        cases hpu : Lib.parseUintB 64 s with
        | ok u =>
          rw [hpu] at hp
          dsimp only at hp ⊢
          have hu := parseB_lt hpu
          have hfm : CallsA Tryz.prog ΓC 62 [c1 (du u), c1 (di 10)] (Tstr (bs (Lib.decDigits u))) := (fmt_c u hu).gC
          by_cases he : Lib.decDigits u = s
          · rw [if_pos he]
            have he2 : bs (Lib.decDigits u) = bs s := bs_inj.2 he
            refine ⟨⟨0, 0, 0, u⟩, (fun y h => by injection h), ?_⟩
            refine fn_rule (C := ⟨Tryz.prog, layF, Tryz.f47.ntmps, ΓC, 0, [], []⟩) layF_ok mixed Tryz.func47 rfl (by kernel_rfl) rfl rfl rfl ?_
            repeat' (first | refine ex_call hfm ?_ | refine ex_call hp ?_ | refine ex_call hf ?_ | refine (ex_is _ h1) ?_ | refine (ex_row 1 s rfl rfl) ?_ | refine (ex_row 0 w rfl rfl) ?_ | refine ex_true (by first | decide | omega | assumption | (with_reducible exact rfl)) ?_ | refine ex_false (by first | decide | omega | assumption | exact (fun h => h rfl)) ?_ | refine ex_dec (fun _ => ?_) (fun _ => ?_) | refine ex_u8 _ rfl (by omega) (by omega) ?_ | refine ex_i64 _ rfl (by omega) (by omega) ?_ | refine ex_u64 _ rfl (by omega) (by omega) ?_ | refine and_mk (by first | omega | (with_reducible rfl) | (show drawOk _ _ _ = true; kernel_rfl)) ?_ | refine and_mk ⟨_, rfl⟩ ?_ | refine ex_is _ (List.length_map _) ?_ | refine ex_is _ List.length_nil ?_ | fail "no step")
            exact TLe.rfl
          · rw [if_neg he]
            have he2 : ¬ bs (Lib.decDigits u) = bs s := fun e => he (bs_inj.1 e)
            refine ⟨⟨0, 0, 0, u⟩, (fun y h => by cases h), ?_⟩
            refine fn_rule (C := ⟨Tryz.prog, layF, Tryz.f47.ntmps, ΓC, 0, [], []⟩) layF_ok mixed Tryz.func47 rfl (by kernel_rfl) rfl rfl rfl ?_
            repeat' (first | refine ex_call hfm ?_ | refine ex_call hp ?_ | refine ex_call hf ?_ | refine (ex_is _ h1) ?_ | refine (ex_row 1 s rfl rfl) ?_ | refine (ex_row 0 w rfl rfl) ?_ | refine ex_true (by first | decide | omega | assumption | (with_reducible exact rfl)) ?_ | refine ex_false (by first | decide | omega | assumption | exact (fun h => h rfl)) ?_ | refine ex_dec (fun _ => ?_) (fun _ => ?_) | refine ex_u8 _ rfl (by omega) (by omega) ?_ | refine ex_i64 _ rfl (by omega) (by omega) ?_ | refine ex_u64 _ rfl (by omega) (by omega) ?_ | refine and_mk (by first | omega | (with_reducible rfl) | (show drawOk _ _ _ = true; kernel_rfl)) ?_ | refine and_mk ⟨_, rfl⟩ ?_ | refine ex_is _ (List.length_map _) ?_ | refine ex_is _ List.length_nil ?_ | fail "no step")
            exact TLe.rfl
        | range =>
          rw [hpu] at hp
          dsimp only at hp ⊢
          refine ⟨⟨0, 0, 0, 18446744073709551615⟩, (fun y h => by cases h), ?_⟩
          refine fn_rule (C := ⟨Tryz.prog, layF, Tryz.f47.ntmps, ΓC, 0, [], []⟩) layF_ok mixed Tryz.func47 rfl (by kernel_rfl) rfl rfl rfl ?_
          repeat' (first | refine ex_call hp ?_ | refine ex_call hf ?_ | refine (ex_is _ h1) ?_ | refine (ex_row 1 s rfl rfl) ?_ | refine (ex_row 0 w rfl rfl) ?_ | refine ex_true (by first | decide | omega | assumption | (with_reducible exact rfl)) ?_ | refine ex_false (by first | decide | omega | assumption | exact (fun h => h rfl)) ?_ | refine ex_dec (fun _ => ?_) (fun _ => ?_) | refine ex_u8 _ rfl (by omega) (by omega) ?_ | refine ex_i64 _ rfl (by omega) (by omega) ?_ | refine ex_u64 _ rfl (by omega) (by omega) ?_ | refine and_mk (by first | omega | (with_reducible rfl) | (show drawOk _ _ _ = true; kernel_rfl)) ?_ | refine and_mk ⟨_, rfl⟩ ?_ | refine ex_is _ (List.length_map _) ?_ | refine ex_is _ List.length_nil ?_ | fail "no step")
          exact TLe.rfl
        | _ =>
          rw [hpu] at hp
          dsimp only at hp ⊢
          refine ⟨⟨0, 0, 0, 0⟩, (fun y h => by cases h), ?_⟩
          refine fn_rule (C := ⟨Tryz.prog, layF, Tryz.f47.ntmps, ΓC, 0, [], []⟩) layF_ok mixed Tryz.func47 rfl (by kernel_rfl) rfl rfl rfl ?_
          repeat' (first | refine ex_call hp ?_ | refine ex_call hf ?_ | refine (ex_is _ h1) ?_ | refine (ex_row 1 s rfl rfl) ?_ | refine (ex_row 0 w rfl rfl) ?_ | refine ex_true (by first | decide | omega | assumption | (with_reducible exact rfl)) ?_ | refine ex_false (by first | decide | omega | assumption | exact (fun h => h rfl)) ?_ | refine ex_dec (fun _ => ?_) (fun _ => ?_) | refine ex_u8 _ rfl (by omega) (by omega) ?_ | refine ex_i64 _ rfl (by omega) (by omega) ?_ | refine ex_u64 _ rfl (by omega) (by omega) ?_ | refine and_mk (by first | omega | (with_reducible rfl) | (show drawOk _ _ _ = true; kernel_rfl)) ?_ | refine and_mk ⟨_, rfl⟩ ?_ | refine ex_is _ (List.length_map _) ?_ | refine ex_is _ List.length_nil ?_ | fail "no step")
          exact TLe.rfl
      · rw [if_neg h0]
        have hnum := numbers_c t (by omega) (fun s hs => hb s (by simp [hs]))
        have hdr : (((w :: t).map fun x => [ds (bs x)]).take (((((w :: t).map fun x => [ds (bs x)]).length : Nat) : Int)).toNat).drop (1 : Int).toNat = t.map fun x => [ds (bs x)] := by
          rw [Int.toNat_natCast, List.take_length]; rfl
        have hlm : ((w :: t).map fun x => [ds (bs x)]).length = t.length + 1 := by rw [List.length_map, List.length_cons]
        rw [List.tail_cons]
        cases hk : intsF t with
        | none =>
          rw [hk] at hnum
          refine ⟨⟨o, 0, 0, 0⟩, (fun y h => by cases h), ?_⟩
          refine fn_rule (C := ⟨Tryz.prog, layF, Tryz.f47.ntmps, ΓC, 0, [], []⟩) layF_ok mixed Tryz.func47 rfl (by kernel_rfl) rfl rfl rfl ?_
          repeat' (first | refine ex_call hnum ?_ | refine ex_call hf ?_ | refine (ex_is _ hdr) ?_ | refine (ex_is _ h1) ?_ | refine (ex_row 0 w rfl rfl) ?_ | refine ex_true (by first | decide | omega | assumption | (with_reducible exact rfl)) ?_ | refine ex_false (by first | decide | omega | assumption | exact (fun h => h rfl)) ?_ | refine ex_dec (fun _ => ?_) (fun _ => ?_) | refine ex_u8 _ rfl (by omega) (by omega) ?_ | refine ex_i64 _ rfl (by omega) (by omega) ?_ | refine ex_u64 _ rfl (by omega) (by omega) ?_ | refine and_mk (by first | omega | (with_reducible rfl) | (show drawOk _ _ _ = true; kernel_rfl)) ?_ | refine and_mk ⟨_, rfl⟩ ?_ | refine ex_is _ (List.length_map _) ?_ | refine ex_is _ List.length_nil ?_ | fail "no step")
          exact TLe.rfl
        | some k =>
          have hkl := intsF_len hk
          rw [hk] at hnum
          refine ⟨⟨o, k.getD 0 0, k.getD 1 0, 0⟩, (fun y h => by injection h), ?_⟩
          have hk2 : k.length ≤ 2 := by omega
          rcases k with _ | ⟨a, _ | ⟨b, _ | ⟨c, d⟩⟩⟩
          · have hnum : CallsA Tryz.prog ΓC 48 [c1 (dss t)] (.tup [c1 (dint []), c1 (db true)]) := hnum
            refine fn_rule (C := ⟨Tryz.prog, layF, Tryz.f47.ntmps, ΓC, 0, [], []⟩) layF_ok mixed Tryz.func47 rfl (by kernel_rfl) rfl rfl rfl ?_
            repeat' (first | refine ex_call hnum ?_ | refine ex_call hf ?_ | refine (ex_false (show ¬ (1 : Int) < 0 by decide)) ?_ | refine (ex_false (show ¬ (0 : Int) < 0 by decide)) ?_ | refine (ex_is _ hdr) ?_ | refine (ex_is _ h1) ?_ | refine (ex_row 0 w rfl rfl) ?_ | refine ex_true (by first | decide | omega | assumption | (with_reducible exact rfl)) ?_ | refine ex_false (by first | decide | omega | assumption | exact (fun h => h rfl)) ?_ | refine ex_dec (fun _ => ?_) (fun _ => ?_) | refine ex_u8 _ rfl (by omega) (by omega) ?_ | refine ex_i64 _ rfl (by omega) (by omega) ?_ | refine ex_u64 _ rfl (by omega) (by omega) ?_ | refine and_mk (by first | omega | (with_reducible rfl) | (show drawOk _ _ _ = true; kernel_rfl)) ?_ | refine and_mk ⟨_, rfl⟩ ?_ | refine ex_is _ (List.length_map _) ?_ | refine ex_is _ List.length_nil ?_ | fail "no step")
            exact TLe.rfl
          · have hnum : CallsA Tryz.prog ΓC 48 [c1 (dss t)] (.tup [c1 (dint [a]), c1 (db true)]) := hnum
            refine fn_rule (C := ⟨Tryz.prog, layF, Tryz.f47.ntmps, ΓC, 0, [], []⟩) layF_ok mixed Tryz.func47 rfl (by kernel_rfl) rfl rfl rfl ?_
            repeat' (first | refine ex_call hnum ?_ | refine ex_call hf ?_ | refine (ex_false (show ¬ (1 : Int) < 1 by decide)) ?_ | refine (ex_true (show (0 : Int) < 1 by decide)) ?_ | refine (ex_row 0 a rfl rfl) ?_ | refine (ex_is _ hdr) ?_ | refine (ex_is _ h1) ?_ | refine (ex_row 0 w rfl rfl) ?_ | refine ex_true (by first | decide | omega | assumption | (with_reducible exact rfl)) ?_ | refine ex_false (by first | decide | omega | assumption | exact (fun h => h rfl)) ?_ | refine ex_dec (fun _ => ?_) (fun _ => ?_) | refine ex_u8 _ rfl (by omega) (by omega) ?_ | refine ex_i64 _ rfl (by omega) (by omega) ?_ | refine ex_u64 _ rfl (by omega) (by omega) ?_ | refine and_mk (by first | omega | (with_reducible rfl) | (show drawOk _ _ _ = true; kernel_rfl)) ?_ | refine and_mk ⟨_, rfl⟩ ?_ | refine ex_is _ (List.length_map _) ?_ | refine ex_is _ List.length_nil ?_ | fail "no step")
            exact TLe.rfl
          · have hnum : CallsA Tryz.prog ΓC 48 [c1 (dss t)] (.tup [c1 (dint [a, b]), c1 (db true)]) := hnum
            refine fn_rule (C := ⟨Tryz.prog, layF, Tryz.f47.ntmps, ΓC, 0, [], []⟩) layF_ok mixed Tryz.func47 rfl (by kernel_rfl) rfl rfl rfl ?_
            repeat' (first | refine ex_call hnum ?_ | refine ex_call hf ?_ | refine (ex_true (show (1 : Int) < 2 by decide)) ?_ | refine (ex_true (show (0 : Int) < 2 by decide)) ?_ | refine (ex_row 1 b rfl rfl) ?_ | refine (ex_row 0 a rfl rfl) ?_ | refine (ex_is _ hdr) ?_ | refine (ex_is _ h1) ?_ | refine (ex_row 0 w rfl rfl) ?_ | refine ex_true (by first | decide | omega | assumption | (with_reducible exact rfl)) ?_ | refine ex_false (by first | decide | omega | assumption | exact (fun h => h rfl)) ?_ | refine ex_dec (fun _ => ?_) (fun _ => ?_) | refine ex_u8 _ rfl (by omega) (by omega) ?_ | refine ex_i64 _ rfl (by omega) (by omega) ?_ | refine ex_u64 _ rfl (by omega) (by omega) ?_ | refine and_mk (by first | omega | (with_reducible rfl) | (show drawOk _ _ _ = true; kernel_rfl)) ?_ | refine and_mk ⟨_, rfl⟩ ?_ | refine ex_is _ (List.length_map _) ?_ | refine ex_is _ List.length_nil ?_ | fail "no step")
            exact TLe.rfl
          · simp at hk2
    · rw [if_neg hn]
      refine ⟨⟨0, 0, 0, 0⟩, (fun y h => by cases h), ?_⟩
      refine fn_rule (C := ⟨Tryz.prog, layF, Tryz.f47.ntmps, ΓC, 0, [], []⟩) layF_ok mixed Tryz.func47 rfl (by kernel_rfl) rfl rfl rfl ?_
      repeat' (first | refine ex_call hf ?_ | refine (ex_is _ h1) ?_ | refine (ex_row 0 w rfl rfl) ?_ | refine ex_true (by first | decide | omega | assumption | (with_reducible exact rfl)) ?_ | refine ex_false (by first | decide | omega | assumption | exact (fun h => h rfl)) ?_ | refine ex_dec (fun _ => ?_) (fun _ => ?_) | refine ex_u8 _ rfl (by omega) (by omega) ?_ | refine ex_i64 _ rfl (by omega) (by omega) ?_ | refine ex_u64 _ rfl (by omega) (by omega) ?_ | refine and_mk (by first | omega | (with_reducible rfl) | (show drawOk _ _ _ = true; kernel_rfl)) ?_ | refine and_mk ⟨_, rfl⟩ ?_ | refine ex_is _ (List.length_map _) ?_ | refine ex_is _ List.length_nil ?_ | fail "no step")
      exact TLe.rfl
end Go.Proofs.YtgfmbkbiingagaaGreatDoor

namespace Go.Proofs.YtgfmbkbiingagaaGreatDoor
set_option linter.unusedVariables false
set_option linter.unusedSimpArgs false
open Go.RowKit
set_option maxRecDepth 100000

abbrev TFn : TypeId := 44
abbrev TIn : TypeId := 50
abbrev Fr (fs : List FN) : Blk := .row 3 TFn (fs.map fnD)
abbrev Ir (cs : List IN) : Blk := .row 4 TIn (cs.map inD)
theorem put_code (s : List UInt8) (hs : s.length ≤ 1048576) (h : (cutL 32 s).headD [] ≠ funcS) (fs : List FN) (cs : List IN) (hcs : cs.length ≤ 8192) :
    ∃ x, (∀ y, instrF (cutL 32 s) = some y → x = y) ∧ CallsM Tryz.prog ΓC 36 [(0, .obj [.row 1, .row 2]), (1, Fr fs), (2, Ir cs)] 3 [.c (.ptr 0 0), c1 (ds (bs s))] (Tb (instrF (cutL 32 s)).isSome) [(0, .obj [.row 1, .row 3]), (1, Fr fs), (2, .dead)] [Ir (cs ++ [x])] := by
  obtain ⟨hm1, hm2⟩ := mem_cut (c := 32) (s := s)
  obtain ⟨x, hx, hi⟩ := instr_c (cutL 32 s) (cutL_ne 32 s) (by omega) (fun l hl => by have := hm2 l hl; omega)
  refine ⟨x, hx, ?_⟩
  have hsp := split_c s 32 hs
  generalize instrF (cutL 32 s) = R at *
  obtain ⟨w, t, hwt⟩ : ∃ w t, cutL 32 s = w :: t := by
    cases hc : cutL 32 s with
    | nil => exact absurd hc (cutL_ne 32 s)
    | cons w t => exact ⟨w, t, rfl⟩
  rw [hwt] at hsp hi h
  have hne : ¬ bs w = bs funcS := fun e => h (bs_inj.1 e)
  have hne2 : ¬ bs w = ⟨#[102, 117, 110, 99]⟩ := hne
  refine fn_ruleM (C := ⟨Tryz.prog, layF, Tryz.f36.ntmps, ΓC, 3, [], []⟩) layF_ok mixed Tryz.func36 rfl (by kernel_rfl) rfl rfl rfl ?_
  repeat' (first | refine ex_call hi ?_ | refine ex_call hsp ?_ | refine (ex_row 0 w rfl rfl) ?_ | refine ex_true (by first | decide | omega | assumption | (with_reducible exact rfl)) ?_ | refine ex_false (by first | decide | omega | assumption | exact (fun h => h rfl)) ?_ | refine ex_dec (fun _ => ?_) (fun _ => ?_) | refine ex_u8 _ rfl (by omega) (by omega) ?_ | refine ex_i64 _ rfl (by omega) (by omega) ?_ | refine ex_u64 _ rfl (by omega) (by omega) ?_ | refine and_mk (by first | omega | (with_reducible rfl) | (show drawOk _ _ _ = true; kernel_rfl)) ?_ | refine and_mk ⟨_, rfl⟩ ?_ | refine ex_is _ (List.length_map _) ?_ | refine ex_is _ List.length_nil ?_ | fail "no step")
  refine ex_app (cs.length) (1) 1000 (by first | rfl | (simp; done) | (simp; omega)) (by first | rfl | (simp; done) | (simp; omega)) rfl (by omega) ?_
  refine ex_is ((cs ++ [x]).map inD) (by rw [List.map_append]; rfl) ?_
  repeat' (first | refine ex_true (by first | decide | omega | assumption | (with_reducible exact rfl)) ?_ | refine ex_false (by first | decide | omega | assumption | exact (fun h => h rfl)) ?_ | refine ex_dec (fun _ => ?_) (fun _ => ?_) | refine ex_u8 _ rfl (by omega) (by omega) ?_ | refine ex_i64 _ rfl (by omega) (by omega) ?_ | refine ex_u64 _ rfl (by omega) (by omega) ?_ | refine and_mk (by first | omega | (with_reducible rfl) | (show drawOk _ _ _ = true; kernel_rfl)) ?_ | refine and_mk ⟨_, rfl⟩ ?_ | refine ex_is _ (List.length_map _) ?_ | refine ex_is _ List.length_nil ?_ | fail "no step")
  exact ⟨rfl, TLe.rfl, rfl, rfl⟩
theorem put_ok (s : List UInt8) (hs : s.length ≤ 1048576) (t : List (List UInt8)) (h : cutL 32 s = funcS :: t) (a b c : Int) (hk : intsF t = some [a, b, c]) (fs : List FN) (hfs : fs.length ≤ 8192) :
    CallsM Tryz.prog ΓC 36 [(0, .obj [.row 1, .row 2]), (1, Fr fs), (2, Ir [])] 3 [.c (.ptr 0 0), c1 (ds (bs s))] (Tb true) [(0, .obj [.row 3, .row 2]), (1, .dead), (2, Ir [])] [Fr (fs ++ [⟨a, b, c⟩])] := by
  obtain ⟨hm1, hm2⟩ := mem_cut (c := 32) (s := s)
  have hsp := split_c s 32 hs
  rw [h] at hsp hm1 hm2
  have hn : CallsA Tryz.prog ΓC 48 [c1 (dss t)] (.tup [c1 (dint [a, b, c]), c1 (db true)]) := by
    have := numbers_c t (by rw [List.length_cons] at hm1; omega) (fun l hl => by have := hm2 l (by simp [hl]); omega)
    rw [hk] at this
    exact this
  have hdr : (((funcS :: t).map fun x => [ds (bs x)]).take (((((funcS :: t).map fun x => [ds (bs x)]).length : Nat) : Int)).toNat).drop (1 : Int).toNat = t.map fun x => [ds (bs x)] := by
    rw [Int.toNat_natCast, List.take_length]; rfl
  have hlm : ((funcS :: t).map fun x => [ds (bs x)]).length = t.length + 1 := by rw [List.length_map, List.length_cons]
  have hfe : bs funcS = ⟨#[102, 117, 110, 99]⟩ := rfl
  refine fn_ruleM (C := ⟨Tryz.prog, layF, Tryz.f36.ntmps, ΓC, 3, [], []⟩) layF_ok mixed Tryz.func36 rfl (by kernel_rfl) rfl rfl rfl ?_
  repeat' (first | refine ex_call hn ?_ | refine ex_call hsp ?_ | refine (ex_false (show ¬ (0 : Int) < 0 by decide)) ?_ | refine (ex_false (show ¬ ((3 : Int) ≠ 3) by decide)) ?_ | refine (ex_row 2 c rfl rfl) ?_ | refine (ex_row 1 b rfl rfl) ?_ | refine (ex_row 0 a rfl rfl) ?_ | refine (ex_is _ hdr) ?_ | refine (ex_row 0 funcS rfl rfl) ?_ | refine ex_true (by first | decide | omega | assumption | (with_reducible exact rfl)) ?_ | refine ex_false (by first | decide | omega | assumption | exact (fun h => h rfl)) ?_ | refine ex_dec (fun _ => ?_) (fun _ => ?_) | refine ex_u8 _ rfl (by omega) (by omega) ?_ | refine ex_i64 _ rfl (by omega) (by omega) ?_ | refine ex_u64 _ rfl (by omega) (by omega) ?_ | refine and_mk (by first | omega | (with_reducible rfl) | (show drawOk _ _ _ = true; kernel_rfl)) ?_ | refine and_mk ⟨_, rfl⟩ ?_ | refine ex_is _ (List.length_map _) ?_ | refine ex_is _ List.length_nil ?_ | fail "no step")
  refine ex_app (fs.length) (1) 1000 (by first | rfl | (simp; done) | (simp; omega)) (by first | rfl | (simp; done) | (simp; omega)) rfl (by omega) ?_
  refine ex_is ((fs ++ [(⟨a, b, c⟩ : FN)]).map fnD) (by rw [List.map_append]; rfl) ?_
  repeat' (first | refine ex_true (by first | decide | omega | assumption | (with_reducible exact rfl)) ?_ | refine ex_false (by first | decide | omega | assumption | exact (fun h => h rfl)) ?_ | refine ex_dec (fun _ => ?_) (fun _ => ?_) | refine ex_u8 _ rfl (by omega) (by omega) ?_ | refine ex_i64 _ rfl (by omega) (by omega) ?_ | refine ex_u64 _ rfl (by omega) (by omega) ?_ | refine and_mk (by first | omega | (with_reducible rfl) | (show drawOk _ _ _ = true; kernel_rfl)) ?_ | refine and_mk ⟨_, rfl⟩ ?_ | refine ex_is _ (List.length_map _) ?_ | refine ex_is _ List.length_nil ?_ | fail "no step")
  exact ⟨rfl, TLe.rfl, rfl, rfl⟩
theorem put_no (s : List UInt8) (hs : s.length ≤ 1048576) (t : List (List UInt8)) (h : cutL 32 s = funcS :: t) (fs : List FN) (cs : List IN) (hcs : cs.length ≤ 8192) (hk : intsF t = none ∨ (∃ k, intsF t = some k ∧ k.length ≠ 3) ∨ cs ≠ []) :
    CallsM Tryz.prog ΓC 36 [(0, .obj [.row 1, .row 2]), (1, Fr fs), (2, Ir cs)] 3 [.c (.ptr 0 0), c1 (ds (bs s))] (Tb false) [(0, .obj [.row 1, .row 2]), (1, Fr fs), (2, Ir cs)] [] := by
  obtain ⟨hm1, hm2⟩ := mem_cut (c := 32) (s := s)
  have hsp := split_c s 32 hs
  rw [h] at hsp hm1 hm2
  have hn := numbers_c t (by rw [List.length_cons] at hm1; omega) (fun l hl => by have := hm2 l (by simp [hl]); omega)
  have hdr : (((funcS :: t).map fun x => [ds (bs x)]).take (((((funcS :: t).map fun x => [ds (bs x)]).length : Nat) : Int)).toNat).drop (1 : Int).toNat = t.map fun x => [ds (bs x)] := by
    rw [Int.toNat_natCast, List.take_length]; rfl
  have hlm : ((funcS :: t).map fun x => [ds (bs x)]).length = t.length + 1 := by rw [List.length_map, List.length_cons]
  have hfe : bs funcS = ⟨#[102, 117, 110, 99]⟩ := rfl
  cases hi : intsF t with
  | none =>
    rw [hi] at hn
    have hn : CallsA Tryz.prog ΓC 48 [c1 (dss t)] (.tup [c1 (dint []), c1 (db false)]) := hn
    refine fn_ruleM (C := ⟨Tryz.prog, layF, Tryz.f36.ntmps, ΓC, 3, [], []⟩) layF_ok mixed Tryz.func36 rfl (by kernel_rfl) rfl rfl rfl ?_
    repeat' (first | refine ex_call hn ?_ | refine ex_call hsp ?_ | refine (ex_is _ hdr) ?_ | refine (ex_row 0 funcS rfl rfl) ?_ | refine ex_true (by first | decide | omega | assumption | (with_reducible exact rfl)) ?_ | refine ex_false (by first | decide | omega | assumption | exact (fun h => h rfl)) ?_ | refine ex_dec (fun _ => ?_) (fun _ => ?_) | refine ex_u8 _ rfl (by omega) (by omega) ?_ | refine ex_i64 _ rfl (by omega) (by omega) ?_ | refine ex_u64 _ rfl (by omega) (by omega) ?_ | refine and_mk (by first | omega | (with_reducible rfl) | (show drawOk _ _ _ = true; kernel_rfl)) ?_ | refine and_mk ⟨_, rfl⟩ ?_ | refine ex_is _ (List.length_map _) ?_ | refine ex_is _ List.length_nil ?_ | fail "no step")
    exact ⟨rfl, TLe.rfl, rfl, rfl⟩
  | some k =>
    rw [hi] at hn hk
    have hn : CallsA Tryz.prog ΓC 48 [c1 (dss t)] (.tup [c1 (dint k), c1 (db true)]) := hn
    have hkk : k.length ≠ 3 ∨ (k.length = 3 ∧ cs.length ≠ 0) := by
      rcases hk with hk | ⟨k', h1, h2⟩ | hk
      · cases hk
      · injection h1 with h1; subst h1; exact .inl h2
      · by_cases h3 : k.length = 3
        · exact .inr ⟨h3, fun e => hk (List.eq_nil_of_length_eq_zero e)⟩
        · exact .inl h3
    have hkl : (k.map fun z => [di z]).length = k.length := List.length_map _
    have hcl : (cs.map inD).length = cs.length := List.length_map _
    rcases hkk with h3 | ⟨h3, h4⟩
    ·
      refine fn_ruleM (C := ⟨Tryz.prog, layF, Tryz.f36.ntmps, ΓC, 3, [], []⟩) layF_ok mixed Tryz.func36 rfl (by kernel_rfl) rfl rfl rfl ?_
      repeat' (first | refine ex_call hn ?_ | refine ex_call hsp ?_ | refine (ex_is _ hkl) ?_ | refine (ex_is _ hdr) ?_ | refine (ex_row 0 funcS rfl rfl) ?_ | refine ex_true (by first | decide | omega | assumption | (with_reducible exact rfl)) ?_ | refine ex_false (by first | decide | omega | assumption | exact (fun h => h rfl)) ?_ | refine ex_dec (fun _ => ?_) (fun _ => ?_) | refine ex_u8 _ rfl (by omega) (by omega) ?_ | refine ex_i64 _ rfl (by omega) (by omega) ?_ | refine ex_u64 _ rfl (by omega) (by omega) ?_ | refine and_mk (by first | omega | (with_reducible rfl) | (show drawOk _ _ _ = true; kernel_rfl)) ?_ | refine and_mk ⟨_, rfl⟩ ?_ | refine ex_is _ (List.length_map _) ?_ | refine ex_is _ List.length_nil ?_ | fail "no step")
      all_goals exact ⟨rfl, TLe.rfl, rfl, rfl⟩
    ·
      refine fn_ruleM (C := ⟨Tryz.prog, layF, Tryz.f36.ntmps, ΓC, 3, [], []⟩) layF_ok mixed Tryz.func36 rfl (by kernel_rfl) rfl rfl rfl ?_
      repeat' (first | refine ex_call hn ?_ | refine ex_call hsp ?_ | refine (ex_is _ hcl) ?_ | refine (ex_is _ hkl) ?_ | refine (ex_is _ hdr) ?_ | refine (ex_row 0 funcS rfl rfl) ?_ | refine ex_true (by first | decide | omega | assumption | (with_reducible exact rfl)) ?_ | refine ex_false (by first | decide | omega | assumption | exact (fun h => h rfl)) ?_ | refine ex_dec (fun _ => ?_) (fun _ => ?_) | refine ex_u8 _ rfl (by omega) (by omega) ?_ | refine ex_i64 _ rfl (by omega) (by omega) ?_ | refine ex_u64 _ rfl (by omega) (by omega) ?_ | refine and_mk (by first | omega | (with_reducible rfl) | (show drawOk _ _ _ = true; kernel_rfl)) ?_ | refine and_mk ⟨_, rfl⟩ ?_ | refine ex_is _ (List.length_map _) ?_ | refine ex_is _ List.length_nil ?_ | fail "no step")
      all_goals exact ⟨rfl, TLe.rfl, rfl, rfl⟩
end Go.Proofs.YtgfmbkbiingagaaGreatDoor

namespace Go.Proofs.YtgfmbkbiingagaaGreatDoor
set_option linter.unusedVariables false
set_option linter.unusedSimpArgs false
open Go.RowKit
set_option maxRecDepth 100000

/-- What Parse answers. -/
def poT : PO → TV
  | .ok p => .tup [gD [.sl 3 (p.1.map fnD), .sl 4 (p.2.map inD)], c1 (di 0), c1 (di 0)]
  | .err n e => .tup [gD [.sl 3 [], .sl 4 []], c1 (di n), c1 (di e)]
theorem TLe.gnil {s s' : Nat} {l : List T1} : TLe (.tup (gD [dnil, dnil] :: l)) (.tup (gD [.sl s [], .sl s' []] :: l)) := fun ι S w v ⟨us, hu, h⟩ => by
  have h : All2 (V1 ι S w) (gD [dnil, dnil] :: l) us := h
  obtain ⟨u, us, rfl, e, h2⟩ := h.cons_left
  obtain ⟨vs, rfl, e⟩ := e
  obtain ⟨a, vs, rfl, e1, e⟩ := e.cons_left
  obtain ⟨b, rfl, e2⟩ := e.one_left
  exact ⟨_ :: us, hu, .cons ⟨[a, b], Eq.refl _, .cons (CLe_nil (ι := ι) e1) (.cons (CLe_nil (ι := ι) e2) .nil)⟩ h2⟩
theorem lines_len {s : List UInt8} {l : List UInt8} (h : l ∈ linesF s) : l.length ≤ s.length := by
  by_cases h0 : s = []
  · subst h0; simp [linesF] at h
  · rw [← trim_lines s h0] at h
    have := (mem_cut (c := 10) (s := Lib.trimSuffix s [10])).2 l h
    have h2 : (Lib.trimSuffix s [10]).length ≤ s.length := by
      unfold Lib.trimSuffix
      split
      · rw [List.length_take]; omega
      · omega
    omega
theorem putL_code {p : PR} {l : List (List UInt8)} (h : l.headD [] ≠ funcS) : putL p l = (instrF l).map fun x => (p.1, p.2 ++ [x]) := by
  unfold putL; rw [if_neg h]
theorem putL_func {p : PR} {t : List (List UInt8)} : putL p (funcS :: t) = match intsF t, p.2 with
    | some [a, b, c], [] => some (p.1 ++ [⟨a, b, c⟩], [])
    | _, _ => none := by
  unfold putL; rw [List.headD_cons, if_pos rfl, List.tail_cons] <;> rfl
theorem putL_none {p : PR} {t : List (List UInt8)} (h : putL p (funcS :: t) = none) : intsF t = none ∨ (∃ k, intsF t = some k ∧ k.length ≠ 3) ∨ p.2 ≠ [] := by
  rw [putL_func] at h
  cases hk : intsF t with
  | none => exact .inl rfl
  | some k =>
    rw [hk] at h
    rcases hc : p.2 with _ | ⟨x, y⟩
    · rw [hc] at h
      refine .inr (.inl ⟨k, rfl, fun h3 => ?_⟩)
      match k, h3 with
      | [a, b, c], _ => cases h
    · exact .inr (.inr (by simp))
theorem Parse_c (s : List UInt8) (hs : s.length ≤ 1048576) : CallsA Tryz.prog ΓC 22 [c1 (ds (bs s))] (poT (parseV s)) := by
  have htr := trim_c ΓC s [10] hs
  have htl : (Lib.trimSuffix s [10]).length ≤ s.length := by
    unfold Lib.trimSuffix
    split
    · rw [List.length_take]; omega
    · omega
  have hsp := split_c (Lib.trimSuffix s [10]) 10 (by omega)
  by_cases h0 : s = []
  · subst h0
    refine fn_rule (C := ⟨Tryz.prog, layF, Tryz.f22.ntmps, ΓC, 0, [], []⟩) layF_ok mixed Tryz.func22 rfl (by kernel_rfl) rfl rfl rfl ?_
    repeat' (first | refine ex_call hsp ?_ | refine ex_call htr ?_ | refine ex_true (by first | decide | omega | assumption | (with_reducible exact rfl)) ?_ | refine ex_false (by first | decide | omega | assumption | exact (fun h => h rfl)) ?_ | refine ex_dec (fun _ => ?_) (fun _ => ?_) | refine ex_u8 _ rfl (by omega) (by omega) ?_ | refine ex_i64 _ rfl (by omega) (by omega) ?_ | refine ex_u64 _ rfl (by omega) (by omega) ?_ | refine and_mk (by first | omega | (with_reducible rfl) | (show drawOk _ _ _ = true; kernel_rfl)) ?_ | refine and_mk ⟨_, rfl⟩ ?_ | refine ex_is _ (List.length_map _) ?_ | refine ex_is _ List.length_nil ?_ | fail "no step")
    exact TLe.gnil
  · rw [trim_lines s h0] at hsp
    have hse : ¬ bs s = ByteArray.empty := fun e => h0 (bs_inj.1 e)
    have hll : ∀ l ∈ linesF s, l.length ≤ 1048576 := fun l hl => by have := lines_len hl; omega
    unfold parseV
    generalize linesF s = L at *
    have hlm : (L.map fun x => [ds (bs x)]).length = L.length := List.length_map _
    by_cases hlen : L.length ≤ 8192
    · rw [if_pos hlen]
      obtain ⟨R, hR⟩ : ∃ R, parseL L 1 ([], []) = R := ⟨_, rfl⟩
      rw [hR]
      refine fn_rule (C := ⟨Tryz.prog, layF, Tryz.f22.ntmps, ΓC, 0, [], []⟩) layF_ok mixed Tryz.func22 rfl (by kernel_rfl) rfl rfl rfl ?_
      repeat' (first | refine ex_call hsp ?_ | refine ex_call htr ?_ | refine (ex_is _ hlm) ?_ | refine ex_true (by first | decide | omega | assumption | (with_reducible exact rfl)) ?_ | refine ex_false (by first | decide | omega | assumption | exact (fun h => h rfl)) ?_ | refine ex_dec (fun _ => ?_) (fun _ => ?_) | refine ex_u8 _ rfl (by omega) (by omega) ?_ | refine ex_i64 _ rfl (by omega) (by omega) ?_ | refine ex_u64 _ rfl (by omega) (by omega) ?_ | refine and_mk (by first | omega | (with_reducible rfl) | (show drawOk _ _ _ = true; kernel_rfl)) ?_ | refine and_mk ⟨_, rfl⟩ ?_ | refine ex_is _ (List.length_map _) ?_ | refine ex_is _ List.length_nil ?_ | fail "no step")
      refine ex_loop (X := Nat × List FN × List IN) (fun ⟨q, fs, cs⟩ => ⟨[(2, .o (.c (.ptr 0 0))), (6, .o (.c (.ptr 1 0))), (21, .o (c1 (dss L))), (22, Ti L.length), (23, Ti q)], [(0, .obj [.d dnil, .d dnil]), (1, .obj [.row 2, .row 3]), (2, Fr fs), (3, Ir cs)], 4⟩) (fun x => L.length - x.1)
        (fun ⟨q, fs, cs⟩ => q ≤ L.length ∧ fs.length ≤ q ∧ cs.length ≤ q ∧ parseL (L.drop q) (q + 1) (fs, cs) = R) (0, [], []) ⟨Nat.zero_le _, Nat.le_refl _, Nat.le_refl _, by rw [List.drop_zero]; exact hR⟩ (SLe.trans (SLe.of ⟨⟨rfl, rfl, rfl, rfl, rfl, trivial⟩, ⟨rfl, rfl, rfl, rfl, trivial⟩⟩) (SLe.trans (SLe.ownCell 1 1 3 4 TIn rfl rfl rfl rfl rfl rfl) (SLe.ownCell 1 0 2 3 TFn rfl rfl rfl rfl rfl rfl))) ?_
      rintro ⟨q, fs, cs⟩ ⟨hq, hf, hc2, hr⟩
      refine ex_dec (fun h => ?_) (fun h => ?_)
      · have hql : q < L.length := by omega
        have hc : L[q]? = some L[q] := at_some hql
        have hl := hll L[q] (List.getElem_mem hql)
        rw [List.drop_eq_getElem_cons hql, parseL] at hr
        generalize L[q] = l at *
        repeat' (first | refine (ex_row q l rfl hc) ?_ | refine ex_true (by first | decide | omega | assumption | (with_reducible exact rfl)) ?_ | refine ex_false (by first | decide | omega | assumption | exact (fun h => h rfl)) ?_ | refine ex_dec (fun _ => ?_) (fun _ => ?_) | refine ex_u8 _ rfl (by omega) (by omega) ?_ | refine ex_i64 _ rfl (by omega) (by omega) ?_ | refine ex_u64 _ rfl (by omega) (by omega) ?_ | refine and_mk (by first | omega | (with_reducible rfl) | (show drawOk _ _ _ = true; kernel_rfl)) ?_ | refine and_mk ⟨_, rfl⟩ ?_ | refine ex_is _ (List.length_map _) ?_ | refine ex_is _ List.length_nil ?_ | fail "no step")
        by_cases hh : (cutL 32 l).headD [] ≠ funcS
        · obtain ⟨x, hx, hp⟩ := put_code l hl hh fs cs (by omega)
          rw [putL_code hh] at hr
          cases hi : instrF (cutL 32 l) with
          | none =>
            rw [hi] at hr hp
            dsimp only [Option.map_none] at hr
            subst hr
            refine ex_callM (CallsM.ren (hp) [1, 2, 3] 4 rfl rfl rfl rfl) ?_
            repeat' (first | refine ex_i64 ((q + 1 : Nat) : Int) (by omega) (by omega) (by omega) ?_ | refine ex_u64 ((q + 1 : Nat) : Int) (by omega) (by omega) (by omega) ?_ | refine ex_u8 ((q + 1 : Nat) : Int) (by omega) (by omega) (by omega) ?_ | refine ex_true (by first | decide | omega | assumption | (with_reducible exact rfl)) ?_ | refine ex_false (by first | decide | omega | assumption | exact (fun h => h rfl)) ?_ | refine ex_dec (fun _ => ?_) (fun _ => ?_) | refine ex_u8 _ rfl (by omega) (by omega) ?_ | refine ex_i64 _ rfl (by omega) (by omega) ?_ | refine ex_u64 _ rfl (by omega) (by omega) ?_ | refine and_mk (by first | omega | (with_reducible rfl) | (show drawOk _ _ _ = true; kernel_rfl)) ?_ | refine and_mk ⟨_, rfl⟩ ?_ | refine ex_is _ (List.length_map _) ?_ | refine ex_is _ List.length_nil ?_ | fail "no step")
            exact TLe.gnil
          | some y =>
            rw [hi] at hr hp
            obtain rfl := hx y hi
            dsimp only [Option.map_some] at hr
            refine ex_callM (CallsM.ren (hp) [1, 2, 3] 4 rfl rfl rfl rfl) ?_
            repeat' (first | refine ex_i64 ((q + 1 : Nat) : Int) (by omega) (by omega) (by omega) ?_ | refine ex_u64 ((q + 1 : Nat) : Int) (by omega) (by omega) (by omega) ?_ | refine ex_u8 ((q + 1 : Nat) : Int) (by omega) (by omega) (by omega) ?_ | refine ex_true (by first | decide | omega | assumption | (with_reducible exact rfl)) ?_ | refine ex_false (by first | decide | omega | assumption | exact (fun h => h rfl)) ?_ | refine ex_dec (fun _ => ?_) (fun _ => ?_) | refine ex_u8 _ rfl (by omega) (by omega) ?_ | refine ex_i64 _ rfl (by omega) (by omega) ?_ | refine ex_u64 _ rfl (by omega) (by omega) ?_ | refine and_mk (by first | omega | (with_reducible rfl) | (show drawOk _ _ _ = true; kernel_rfl)) ?_ | refine and_mk ⟨_, rfl⟩ ?_ | refine ex_is _ (List.length_map _) ?_ | refine ex_is _ List.length_nil ?_ | fail "no step")
            exact ex_round (q + 1, fs, cs ++ [x]) ⟨by omega, by show fs.length ≤ q + 1; omega, by rw [List.length_append]; simp; omega, hr⟩ (by show _ - _ < _ - _; omega) (SLe.ren [(0, 0), (1, 1), (2, 2), (4, 3)] ⟨⟨rfl, rfl⟩, ⟨rfl, rfl⟩, ⟨rfl, rfl⟩, ⟨rfl, rfl⟩, ⟨rfl, rfl⟩, trivial⟩ ⟨⟨rfl, rfl⟩, ⟨rfl, rfl⟩, ⟨rfl, rfl⟩, ⟨rfl, rfl⟩, trivial⟩ rfl)
        · obtain ⟨t, ht⟩ : ∃ t, cutL 32 l = funcS :: t := by
            cases hcc : cutL 32 l with
            | nil => exact absurd hcc (cutL_ne 32 l)
            | cons w t =>
              rw [hcc] at hh
              exact ⟨t, by rw [show w = funcS from Classical.byContradiction hh]⟩
          rw [ht] at hr
          cases hput : putL (fs, cs) (funcS :: t) with
          | none =>
            rw [hput] at hr
            dsimp only at hr
            subst hr
            have hp := put_no l hl t ht fs cs (by omega) (putL_none hput)
            refine ex_callM (CallsM.ren (hp) [1, 2, 3] 4 rfl rfl rfl rfl) ?_
            repeat' (first | refine ex_i64 ((q + 1 : Nat) : Int) (by omega) (by omega) (by omega) ?_ | refine ex_u64 ((q + 1 : Nat) : Int) (by omega) (by omega) (by omega) ?_ | refine ex_u8 ((q + 1 : Nat) : Int) (by omega) (by omega) (by omega) ?_ | refine ex_true (by first | decide | omega | assumption | (with_reducible exact rfl)) ?_ | refine ex_false (by first | decide | omega | assumption | exact (fun h => h rfl)) ?_ | refine ex_dec (fun _ => ?_) (fun _ => ?_) | refine ex_u8 _ rfl (by omega) (by omega) ?_ | refine ex_i64 _ rfl (by omega) (by omega) ?_ | refine ex_u64 _ rfl (by omega) (by omega) ?_ | refine and_mk (by first | omega | (with_reducible rfl) | (show drawOk _ _ _ = true; kernel_rfl)) ?_ | refine and_mk ⟨_, rfl⟩ ?_ | refine ex_is _ (List.length_map _) ?_ | refine ex_is _ List.length_nil ?_ | fail "no step")
            exact TLe.gnil
          | some p' =>
            rw [hput] at hr
            dsimp only at hr
            rw [putL_func] at hput
            split at hput
            · rename_i a b c hk hcs
              injection hput with hput
              subst hput
              dsimp only at hcs
              subst hcs
              have hp := put_ok l hl t ht a b c hk fs (by omega)
              refine ex_callM (CallsM.ren (hp) [1, 2, 3] 4 rfl rfl rfl rfl) ?_
              repeat' (first | refine ex_i64 ((q + 1 : Nat) : Int) (by omega) (by omega) (by omega) ?_ | refine ex_u64 ((q + 1 : Nat) : Int) (by omega) (by omega) (by omega) ?_ | refine ex_u8 ((q + 1 : Nat) : Int) (by omega) (by omega) (by omega) ?_ | refine ex_true (by first | decide | omega | assumption | (with_reducible exact rfl)) ?_ | refine ex_false (by first | decide | omega | assumption | exact (fun h => h rfl)) ?_ | refine ex_dec (fun _ => ?_) (fun _ => ?_) | refine ex_u8 _ rfl (by omega) (by omega) ?_ | refine ex_i64 _ rfl (by omega) (by omega) ?_ | refine ex_u64 _ rfl (by omega) (by omega) ?_ | refine and_mk (by first | omega | (with_reducible rfl) | (show drawOk _ _ _ = true; kernel_rfl)) ?_ | refine and_mk ⟨_, rfl⟩ ?_ | refine ex_is _ (List.length_map _) ?_ | refine ex_is _ List.length_nil ?_ | fail "no step")
              exact ex_round (q + 1, fs ++ [⟨a, b, c⟩], []) ⟨by omega, by rw [List.length_append]; simp; omega, Nat.zero_le _, hr⟩ (by show _ - _ < _ - _; omega) (SLe.ren [(0, 0), (1, 1), (4, 2), (3, 3)] ⟨⟨rfl, rfl⟩, ⟨rfl, rfl⟩, ⟨rfl, rfl⟩, ⟨rfl, rfl⟩, ⟨rfl, rfl⟩, trivial⟩ ⟨⟨rfl, rfl⟩, ⟨rfl, rfl⟩, ⟨rfl, rfl⟩, ⟨rfl, rfl⟩, trivial⟩ rfl)
            · cases hput
      · have hq9 : q = L.length := by omega
        subst hq9
        rw [List.drop_length, parseL] at hr
        subst hr
        repeat' (first | refine ex_true (by first | decide | omega | assumption | (with_reducible exact rfl)) ?_ | refine ex_false (by first | decide | omega | assumption | exact (fun h => h rfl)) ?_ | refine ex_dec (fun _ => ?_) (fun _ => ?_) | refine ex_u8 _ rfl (by omega) (by omega) ?_ | refine ex_i64 _ rfl (by omega) (by omega) ?_ | refine ex_u64 _ rfl (by omega) (by omega) ?_ | refine and_mk (by first | omega | (with_reducible rfl) | (show drawOk _ _ _ = true; kernel_rfl)) ?_ | refine and_mk ⟨_, rfl⟩ ?_ | refine ex_is _ (List.length_map _) ?_ | refine ex_is _ List.length_nil ?_ | fail "no step")
        exact TLe.rfl
    · rw [if_neg hlen]
      refine fn_rule (C := ⟨Tryz.prog, layF, Tryz.f22.ntmps, ΓC, 0, [], []⟩) layF_ok mixed Tryz.func22 rfl (by kernel_rfl) rfl rfl rfl ?_
      repeat' (first | refine ex_call hsp ?_ | refine ex_call htr ?_ | refine (ex_is _ hlm) ?_ | refine ex_true (by first | decide | omega | assumption | (with_reducible exact rfl)) ?_ | refine ex_false (by first | decide | omega | assumption | exact (fun h => h rfl)) ?_ | refine ex_dec (fun _ => ?_) (fun _ => ?_) | refine ex_u8 _ rfl (by omega) (by omega) ?_ | refine ex_i64 _ rfl (by omega) (by omega) ?_ | refine ex_u64 _ rfl (by omega) (by omega) ?_ | refine and_mk (by first | omega | (with_reducible rfl) | (show drawOk _ _ _ = true; kernel_rfl)) ?_ | refine and_mk ⟨_, rfl⟩ ?_ | refine ex_is _ (List.length_map _) ?_ | refine ex_is _ List.length_nil ?_ | fail "no step")
      exact TLe.gnil
end Go.Proofs.YtgfmbkbiingagaaGreatDoor

namespace Go.Proofs.YtgfmbkbiingagaaGreatDoor
set_option linter.unusedVariables false
set_option linter.unusedSimpArgs false
open Go.RowKit
set_option maxRecDepth 100000

abbrev TF3 : TypeId := 42
abbrev TRi : TypeId := 51
abbrev prD (fs : List FN) (l : List IN) : T1 := gD [.sl 3 (fs.map fnD), .sl 4 (l.map inD)]
set_option maxHeartbeats 4000000 in
theorem programs_c (fs : List FN) (l : List IN) (hf : fs.length ≤ 9223372036854775807) (hl : l.length ≤ 9223372036854775807) :
    CallsA Tryz.prog Γ0 4 [c1 (.sl 3 (fs.map fnD)), c1 (.sl 4 (l.map inD))] (.tup [prD (fs.take 10) (l.take 60), prD (fs.take 10) (l.take 60)]) := by
  have hcut : ∀ (α : Type) (k : Nat) (l : List α) (f : α → List D), ((l.map f).take ((min k l.length : Nat) : Int).toNat).drop (0 : Int).toNat = (l.take k).map f := fun α k l f => by
    rw [Int.toNat_natCast, show (0 : Int).toNat = 0 from rfl, List.drop_zero, ← List.map_take, ← List.take_eq_take_min]
  have hF := hcut FN 10 fs fnD
  have hL := hcut IN 60 l inD
  have hfm : (fs.map fnD).length = fs.length := List.length_map _
  have hlm : (l.map inD).length = l.length := List.length_map _
  have hF10 : (fs.take 10).length ≤ 10 := by rw [List.length_take]; omega
  have hL60 : (l.take 60).length ≤ 60 := by rw [List.length_take]; omega
  have hFm : ((fs.take 10).map fnD).length = (fs.take 10).length := List.length_map _
  have hLm : ((l.take 60).map inD).length = (l.take 60).length := List.length_map _
  refine fn_rule (C := ⟨Tryz.prog, layF, Tryz.f4.ntmps, Γ0, 0, [], []⟩) layF_ok mixed Tryz.func4 rfl (by kernel_rfl) rfl rfl rfl ?_
  repeat' (first | refine ex_true (by first | decide | omega | assumption | (with_reducible exact rfl)) ?_ | refine ex_false (by first | decide | omega | assumption | exact (fun h => h rfl)) ?_ | refine ex_dec (fun _ => ?_) (fun _ => ?_) | refine ex_u8 _ rfl (by omega) (by omega) ?_ | refine ex_i64 _ rfl (by omega) (by omega) ?_ | refine ex_u64 _ rfl (by omega) (by omega) ?_ | refine and_mk (by first | omega | (with_reducible rfl) | (show drawOk _ _ _ = true; kernel_rfl)) ?_ | refine and_mk ⟨_, rfl⟩ ?_ | refine ex_is _ (List.length_map _) ?_ | refine ex_is _ List.length_nil ?_ | fail "no step")
  refine ex_is ((min 10 fs.length : Nat) : Int) (by split <;> omega) ?_
  repeat' (first | refine ex_true (by first | decide | omega | assumption | (with_reducible exact rfl)) ?_ | refine ex_false (by first | decide | omega | assumption | exact (fun h => h rfl)) ?_ | refine ex_dec (fun _ => ?_) (fun _ => ?_) | refine ex_u8 _ rfl (by omega) (by omega) ?_ | refine ex_i64 _ rfl (by omega) (by omega) ?_ | refine ex_u64 _ rfl (by omega) (by omega) ?_ | refine and_mk (by first | omega | (with_reducible rfl) | (show drawOk _ _ _ = true; kernel_rfl)) ?_ | refine and_mk ⟨_, rfl⟩ ?_ | refine ex_is _ (List.length_map _) ?_ | refine ex_is _ List.length_nil ?_ | fail "no step")
  refine ex_is _ hF ?_
  generalize fs.take 10 = F at *
  repeat' (first | refine (ex_is _ hFm) ?_ | refine ex_true (by first | decide | omega | assumption | (with_reducible exact rfl)) ?_ | refine ex_false (by first | decide | omega | assumption | exact (fun h => h rfl)) ?_ | refine ex_dec (fun _ => ?_) (fun _ => ?_) | refine ex_u8 _ rfl (by omega) (by omega) ?_ | refine ex_i64 _ rfl (by omega) (by omega) ?_ | refine ex_u64 _ rfl (by omega) (by omega) ?_ | refine and_mk (by first | omega | (with_reducible rfl) | (show drawOk _ _ _ = true; kernel_rfl)) ?_ | refine and_mk ⟨_, rfl⟩ ?_ | refine ex_is _ (List.length_map _) ?_ | refine ex_is _ List.length_nil ?_ | fail "no step")
  refine ex_loop (X := Nat × List FN) (fun ⟨q, A⟩ => ⟨[(1, .o (c1 (.sl 4 (l.map inD)))), (4, .o (.c (.ptr 0 0))), (5, .o (.c (.ptr 1 0))), (6, .o (.c (.ptr 2 0))), (7, .o (.c (.ptr 3 0))), (16, .o (c1 (.sl 3 (F.map fnD)))), (17, Ti F.length), (18, Ti q)], [(0, .obj [.d dnil, .d dnil]), (1, .obj [.d dnil, .d dnil]), (2, .obj [.row 4, .d dnil]), (3, .obj [.row 5, .d dnil]), (4, .row 3 TFn (A.map fnD)), (5, .row 3 TF3 (A.map fnD))], 6⟩) (fun x => F.length - x.1) (fun ⟨q, A⟩ => q ≤ F.length ∧ A = F.take q) (0, []) ⟨Nat.zero_le _, rfl⟩ (SLe.trans (SLe.of ⟨⟨rfl, rfl, rfl, rfl, rfl, rfl, rfl, rfl, trivial⟩, ⟨rfl, rfl, rfl, rfl, rfl, rfl, trivial⟩⟩) (SLe.trans (SLe.ownCell 3 0 5 3 TF3 rfl rfl rfl rfl rfl rfl) (SLe.ownCell 2 0 4 3 TFn rfl rfl rfl rfl rfl rfl))) ?_
  rintro ⟨q, A⟩ ⟨hq, hA⟩
  refine ex_dec (fun h => ?_) (fun h => ?_)
  · have hql : q < F.length := by omega
    have hc : F[q]? = some F[q] := at_some hql
    have htk : F.take (q + 1) = F.take q ++ [F[q]] := by rw [List.take_add_one, hc]; rfl
    have htl : A.length = q := by rw [hA, List.length_take]; omega
    have hap : A.map fnD ++ [fnD F[q]] = (F.take (q + 1)).map fnD := by rw [htk, List.map_append, hA]; rfl
    generalize F[q] = f at *
    repeat' (first | refine (ex_row q f rfl hc) ?_ | refine ex_true (by first | decide | omega | assumption | (with_reducible exact rfl)) ?_ | refine ex_false (by first | decide | omega | assumption | exact (fun h => h rfl)) ?_ | refine ex_dec (fun _ => ?_) (fun _ => ?_) | refine ex_u8 _ rfl (by omega) (by omega) ?_ | refine ex_i64 _ rfl (by omega) (by omega) ?_ | refine ex_u64 _ rfl (by omega) (by omega) ?_ | refine and_mk (by first | omega | (with_reducible rfl) | (show drawOk _ _ _ = true; kernel_rfl)) ?_ | refine and_mk ⟨_, rfl⟩ ?_ | refine ex_is _ (List.length_map _) ?_ | refine ex_is _ List.length_nil ?_ | fail "no step")
    refine ex_app (q) (1) 1000 (by first | rfl | (simp; done) | (simp; omega)) (by first | rfl | (simp; done) | (simp; omega)) rfl (by omega) ?_
    refine ex_is _ hap ?_
    repeat' (first | refine ex_true (by first | decide | omega | assumption | (with_reducible exact rfl)) ?_ | refine ex_false (by first | decide | omega | assumption | exact (fun h => h rfl)) ?_ | refine ex_dec (fun _ => ?_) (fun _ => ?_) | refine ex_u8 _ rfl (by omega) (by omega) ?_ | refine ex_i64 _ rfl (by omega) (by omega) ?_ | refine ex_u64 _ rfl (by omega) (by omega) ?_ | refine and_mk (by first | omega | (with_reducible rfl) | (show drawOk _ _ _ = true; kernel_rfl)) ?_ | refine and_mk ⟨_, rfl⟩ ?_ | refine ex_is _ (List.length_map _) ?_ | refine ex_is _ List.length_nil ?_ | fail "no step")
    refine ex_app (q) (1) 1000 (by first | rfl | (simp; done) | (simp; omega)) (by first | rfl | (simp; done) | (simp; omega)) rfl (by omega) ?_
    refine ex_is _ hap ?_
    repeat' (first | refine ex_i64 ((q + 1 : Nat) : Int) (by omega) (by omega) (by omega) ?_ | refine ex_u64 ((q + 1 : Nat) : Int) (by omega) (by omega) (by omega) ?_ | refine ex_u8 ((q + 1 : Nat) : Int) (by omega) (by omega) (by omega) ?_ | refine ex_true (by first | decide | omega | assumption | (with_reducible exact rfl)) ?_ | refine ex_false (by first | decide | omega | assumption | exact (fun h => h rfl)) ?_ | refine ex_dec (fun _ => ?_) (fun _ => ?_) | refine ex_u8 _ rfl (by omega) (by omega) ?_ | refine ex_i64 _ rfl (by omega) (by omega) ?_ | refine ex_u64 _ rfl (by omega) (by omega) ?_ | refine and_mk (by first | omega | (with_reducible rfl) | (show drawOk _ _ _ = true; kernel_rfl)) ?_ | refine and_mk ⟨_, rfl⟩ ?_ | refine ex_is _ (List.length_map _) ?_ | refine ex_is _ List.length_nil ?_ | fail "no step")
    exact ex_round (q + 1, F.take (q + 1)) ⟨by omega, rfl⟩ (by show _ - _ < _ - _; omega) (SLe.ren [(0, 0), (1, 1), (2, 2), (3, 3), (8, 4), (10, 5)] ⟨⟨rfl, rfl⟩, ⟨rfl, rfl⟩, ⟨rfl, rfl⟩, ⟨rfl, rfl⟩, ⟨rfl, rfl⟩, ⟨rfl, rfl⟩, ⟨rfl, rfl⟩, ⟨rfl, rfl⟩, trivial⟩ ⟨⟨rfl, rfl⟩, ⟨rfl, rfl⟩, ⟨rfl, rfl⟩, ⟨rfl, rfl⟩, ⟨rfl, rfl⟩, ⟨rfl, rfl⟩, trivial⟩ rfl)
  · have hq9 : q = F.length := by omega
    subst hq9
    rw [List.take_length] at hA
    subst hA
    repeat' (first | refine ex_true (by first | decide | omega | assumption | (with_reducible exact rfl)) ?_ | refine ex_false (by first | decide | omega | assumption | exact (fun h => h rfl)) ?_ | refine ex_dec (fun _ => ?_) (fun _ => ?_) | refine ex_u8 _ rfl (by omega) (by omega) ?_ | refine ex_i64 _ rfl (by omega) (by omega) ?_ | refine ex_u64 _ rfl (by omega) (by omega) ?_ | refine and_mk (by first | omega | (with_reducible rfl) | (show drawOk _ _ _ = true; kernel_rfl)) ?_ | refine and_mk ⟨_, rfl⟩ ?_ | refine ex_is _ (List.length_map _) ?_ | refine ex_is _ List.length_nil ?_ | fail "no step")
    refine ex_is ((min 60 l.length : Nat) : Int) (by split <;> omega) ?_
    repeat' (first | refine ex_true (by first | decide | omega | assumption | (with_reducible exact rfl)) ?_ | refine ex_false (by first | decide | omega | assumption | exact (fun h => h rfl)) ?_ | refine ex_dec (fun _ => ?_) (fun _ => ?_) | refine ex_u8 _ rfl (by omega) (by omega) ?_ | refine ex_i64 _ rfl (by omega) (by omega) ?_ | refine ex_u64 _ rfl (by omega) (by omega) ?_ | refine and_mk (by first | omega | (with_reducible rfl) | (show drawOk _ _ _ = true; kernel_rfl)) ?_ | refine and_mk ⟨_, rfl⟩ ?_ | refine ex_is _ (List.length_map _) ?_ | refine ex_is _ List.length_nil ?_ | fail "no step")
    refine ex_is _ hL ?_
    generalize l.take 60 = G at *
    repeat' (first | refine (ex_is _ hLm) ?_ | refine ex_true (by first | decide | omega | assumption | (with_reducible exact rfl)) ?_ | refine ex_false (by first | decide | omega | assumption | exact (fun h => h rfl)) ?_ | refine ex_dec (fun _ => ?_) (fun _ => ?_) | refine ex_u8 _ rfl (by omega) (by omega) ?_ | refine ex_i64 _ rfl (by omega) (by omega) ?_ | refine ex_u64 _ rfl (by omega) (by omega) ?_ | refine and_mk (by first | omega | (with_reducible rfl) | (show drawOk _ _ _ = true; kernel_rfl)) ?_ | refine and_mk ⟨_, rfl⟩ ?_ | refine ex_is _ (List.length_map _) ?_ | refine ex_is _ List.length_nil ?_ | fail "no step")
    refine ex_loop (X := Nat × List IN) (fun ⟨q, B⟩ => ⟨[(4, .o (.c (.ptr 0 0))), (5, .o (.c (.ptr 1 0))), (6, .o (.c (.ptr 2 0))), (7, .o (.c (.ptr 3 0))), (45, .o (c1 (.sl 4 (G.map inD)))), (46, Ti G.length), (47, Ti q)], [(0, .obj [.d dnil, .d dnil]), (1, .obj [.d dnil, .d dnil]), (2, .obj [.row 4, .row 6]), (3, .obj [.row 5, .row 7]), (4, .row 3 TFn (A.map fnD)), (5, .row 3 TF3 (A.map fnD)), (6, .row 4 TIn (B.map inD)), (7, .row 4 TRi (B.map inD))], 8⟩) (fun x => G.length - x.1) (fun ⟨q, B⟩ => q ≤ G.length ∧ B = G.take q) (0, []) ⟨Nat.zero_le _, rfl⟩ (SLe.trans (SLe.of ⟨⟨rfl, rfl, rfl, rfl, rfl, rfl, rfl, trivial⟩, ⟨rfl, rfl, rfl, rfl, rfl, rfl, rfl, rfl, trivial⟩⟩) (SLe.trans (SLe.ownCell 3 1 7 4 TRi rfl rfl rfl rfl rfl rfl) (SLe.ownCell 2 1 6 4 TIn rfl rfl rfl rfl rfl rfl))) ?_
    rintro ⟨q, B⟩ ⟨hq, hB⟩
    refine ex_dec (fun h => ?_) (fun h => ?_)
    · have hql : q < G.length := by omega
      have hc : G[q]? = some G[q] := at_some hql
      have htk : G.take (q + 1) = G.take q ++ [G[q]] := by rw [List.take_add_one, hc]; rfl
      have htl : B.length = q := by rw [hB, List.length_take]; omega
      have hap : B.map inD ++ [inD G[q]] = (G.take (q + 1)).map inD := by rw [htk, List.map_append, hB]; rfl
      generalize G[q] = x at *
      repeat' (first | refine (ex_row q x rfl hc) ?_ | refine ex_true (by first | decide | omega | assumption | (with_reducible exact rfl)) ?_ | refine ex_false (by first | decide | omega | assumption | exact (fun h => h rfl)) ?_ | refine ex_dec (fun _ => ?_) (fun _ => ?_) | refine ex_u8 _ rfl (by omega) (by omega) ?_ | refine ex_i64 _ rfl (by omega) (by omega) ?_ | refine ex_u64 _ rfl (by omega) (by omega) ?_ | refine and_mk (by first | omega | (with_reducible rfl) | (show drawOk _ _ _ = true; kernel_rfl)) ?_ | refine and_mk ⟨_, rfl⟩ ?_ | refine ex_is _ (List.length_map _) ?_ | refine ex_is _ List.length_nil ?_ | fail "no step")
      refine ex_app (q) (1) 1000 (by first | rfl | (simp; done) | (simp; omega)) (by first | rfl | (simp; done) | (simp; omega)) rfl (by omega) ?_
      refine ex_is _ hap ?_
      repeat' (first | refine ex_true (by first | decide | omega | assumption | (with_reducible exact rfl)) ?_ | refine ex_false (by first | decide | omega | assumption | exact (fun h => h rfl)) ?_ | refine ex_dec (fun _ => ?_) (fun _ => ?_) | refine ex_u8 _ rfl (by omega) (by omega) ?_ | refine ex_i64 _ rfl (by omega) (by omega) ?_ | refine ex_u64 _ rfl (by omega) (by omega) ?_ | refine and_mk (by first | omega | (with_reducible rfl) | (show drawOk _ _ _ = true; kernel_rfl)) ?_ | refine and_mk ⟨_, rfl⟩ ?_ | refine ex_is _ (List.length_map _) ?_ | refine ex_is _ List.length_nil ?_ | fail "no step")
      refine ex_app (q) (1) 1000 (by first | rfl | (simp; done) | (simp; omega)) (by first | rfl | (simp; done) | (simp; omega)) rfl (by omega) ?_
      refine ex_is _ hap ?_
      repeat' (first | refine ex_i64 ((q + 1 : Nat) : Int) (by omega) (by omega) (by omega) ?_ | refine ex_u64 ((q + 1 : Nat) : Int) (by omega) (by omega) (by omega) ?_ | refine ex_u8 ((q + 1 : Nat) : Int) (by omega) (by omega) (by omega) ?_ | refine ex_true (by first | decide | omega | assumption | (with_reducible exact rfl)) ?_ | refine ex_false (by first | decide | omega | assumption | exact (fun h => h rfl)) ?_ | refine ex_dec (fun _ => ?_) (fun _ => ?_) | refine ex_u8 _ rfl (by omega) (by omega) ?_ | refine ex_i64 _ rfl (by omega) (by omega) ?_ | refine ex_u64 _ rfl (by omega) (by omega) ?_ | refine and_mk (by first | omega | (with_reducible rfl) | (show drawOk _ _ _ = true; kernel_rfl)) ?_ | refine and_mk ⟨_, rfl⟩ ?_ | refine ex_is _ (List.length_map _) ?_ | refine ex_is _ List.length_nil ?_ | fail "no step")
      exact ex_round (q + 1, G.take (q + 1)) ⟨by omega, rfl⟩ (by show _ - _ < _ - _; omega) (SLe.ren [(0, 0), (1, 1), (2, 2), (3, 3), (4, 4), (5, 5), (10, 6), (12, 7)] ⟨⟨rfl, rfl⟩, ⟨rfl, rfl⟩, ⟨rfl, rfl⟩, ⟨rfl, rfl⟩, ⟨rfl, rfl⟩, ⟨rfl, rfl⟩, ⟨rfl, rfl⟩, trivial⟩ ⟨⟨rfl, rfl⟩, ⟨rfl, rfl⟩, ⟨rfl, rfl⟩, ⟨rfl, rfl⟩, ⟨rfl, rfl⟩, ⟨rfl, rfl⟩, ⟨rfl, rfl⟩, ⟨rfl, rfl⟩, trivial⟩ rfl)
    · have hq9 : q = G.length := by omega
      subst hq9
      rw [List.take_length] at hB
      subst hB
      repeat' (first | refine ex_true (by first | decide | omega | assumption | (with_reducible exact rfl)) ?_ | refine ex_false (by first | decide | omega | assumption | exact (fun h => h rfl)) ?_ | refine ex_dec (fun _ => ?_) (fun _ => ?_) | refine ex_u8 _ rfl (by omega) (by omega) ?_ | refine ex_i64 _ rfl (by omega) (by omega) ?_ | refine ex_u64 _ rfl (by omega) (by omega) ?_ | refine and_mk (by first | omega | (with_reducible rfl) | (show drawOk _ _ _ = true; kernel_rfl)) ?_ | refine and_mk ⟨_, rfl⟩ ?_ | refine ex_is _ (List.length_map _) ?_ | refine ex_is _ List.length_nil ?_ | fail "no step")
      exact TLe.rfl
theorem int1 (d : Nat) (h : d < 10) : Lib.itoa (d : Int) = [UInt8.ofNat (48 + d)] := by
  unfold Lib.itoa
  rw [if_neg (by omega), Int.toNat_natCast, Lib.decDigits_one h]
theorem intF1 (d : Nat) (h : d < 10) : intF [UInt8.ofNat (48 + d)] = some (d : Int) := intF_iff.2 ⟨⟨by omega, by omega⟩, int1 d h⟩
theorem natF7 : natF [55] = some 7 := natF_iff.2 ⟨by decide, Lib.decDigits_one (by decide)⟩
def wk1S : List UInt8 := [102, 117, 110, 99, 32, 48, 32, 48, 32, 48, 10, 110, 111, 110, 101, 10, 101, 110, 100]
def wk1F : List FN := [⟨0, 0, 0⟩]
def wk1I : List IN := [⟨13, 0, 0, 0⟩, ⟨35, 0, 0, 0⟩]
theorem wk1_parse : parseV wk1S = .ok (wk1F, wk1I) := by
  have i0 : intF [48] = some 0 := intF1 0 (by decide)
  have n0 : natF [48] = some 0 := natF_iff.2 ⟨by decide, Lib.decDigits_one (by decide)⟩
  have L : linesF wk1S = [[102, 117, 110, 99, 32, 48, 32, 48, 32, 48], [110, 111, 110, 101], [101, 110, 100]] := by decide
  have r0 : putL ([], []) (cutL 32 [102, 117, 110, 99, 32, 48, 32, 48, 32, 48]) = some (wk1F, []) := by
    rw [show cutL 32 [102, 117, 110, 99, 32, 48, 32, 48, 32, 48] = funcS :: [[48], [48], [48]] from by decide, putL_func, show intsF [[48], [48], [48]] = some [0, 0, 0] by simp [intsF, i0]]
    rfl
  have r1 : instrF (cutL 32 [110, 111, 110, 101]) = some ⟨13, 0, 0, 0⟩ := by
    rw [show cutL 32 [110, 111, 110, 101] = [[110, 111, 110, 101]] from by decide]
    unfold instrF
    rw [show findO (([[110, 111, 110, 101]] : List (List UInt8)).headD []) = some 13 from by decide]
    dsimp only
    rw [if_pos (by decide), if_neg (by decide)]
    rfl
  have r2 : instrF (cutL 32 [101, 110, 100]) = some ⟨35, 0, 0, 0⟩ := by
    rw [show cutL 32 [101, 110, 100] = [[101, 110, 100]] from by decide]
    unfold instrF
    rw [show findO (([[101, 110, 100]] : List (List UInt8)).headD []) = some 35 from by decide]
    dsimp only
    rw [if_pos (by decide), if_neg (by decide)]
    rfl
  unfold parseV
  rw [L, if_pos (by decide), parseL, r0]
  dsimp only
  rw [parseL, putL_code (by decide), r1, Option.map_some]
  dsimp only
  rw [parseL, putL_code (by decide), r2, Option.map_some]
  rfl
def wk2S : List UInt8 := [102, 117, 110, 99, 32, 48, 32, 48, 32, 48, 10, 101, 110, 100]
def wk2F : List FN := [⟨0, 0, 0⟩]
def wk2I : List IN := [⟨35, 0, 0, 0⟩]
theorem wk2_parse : parseV wk2S = .ok (wk2F, wk2I) := by
  have i0 : intF [48] = some 0 := intF1 0 (by decide)
  have n0 : natF [48] = some 0 := natF_iff.2 ⟨by decide, Lib.decDigits_one (by decide)⟩
  have L : linesF wk2S = [[102, 117, 110, 99, 32, 48, 32, 48, 32, 48], [101, 110, 100]] := by decide
  have r0 : putL ([], []) (cutL 32 [102, 117, 110, 99, 32, 48, 32, 48, 32, 48]) = some (wk2F, []) := by
    rw [show cutL 32 [102, 117, 110, 99, 32, 48, 32, 48, 32, 48] = funcS :: [[48], [48], [48]] from by decide, putL_func, show intsF [[48], [48], [48]] = some [0, 0, 0] by simp [intsF, i0]]
    rfl
  have r1 : instrF (cutL 32 [101, 110, 100]) = some ⟨35, 0, 0, 0⟩ := by
    rw [show cutL 32 [101, 110, 100] = [[101, 110, 100]] from by decide]
    unfold instrF
    rw [show findO (([[101, 110, 100]] : List (List UInt8)).headD []) = some 35 from by decide]
    dsimp only
    rw [if_pos (by decide), if_neg (by decide)]
    rfl
  unfold parseV
  rw [L, if_pos (by decide), parseL, r0]
  dsimp only
  rw [parseL, putL_code (by decide), r1, Option.map_some]
  rfl
def wk3S : List UInt8 := [102, 117, 110, 99, 32, 48, 32, 49, 32, 48, 10, 111, 112, 101, 110, 32, 48, 10, 105, 110, 116, 32, 49, 32, 48, 10, 115, 116, 111, 114, 101, 32, 48, 10, 112, 117, 115, 104, 32, 49, 10, 112, 117, 115, 104, 32, 50, 10, 97, 108, 117, 32, 48, 10, 100, 114, 111, 112, 10, 99, 108, 111, 115, 101, 10, 101, 110, 100]
def wk3F : List FN := [⟨0, 1, 0⟩]
def wk3I : List IN := [⟨14, 0, 0, 0⟩, ⟨6, 1, 0, 0⟩, ⟨2, 0, 0, 0⟩, ⟨0, 0, 0, 1⟩, ⟨0, 0, 0, 2⟩, ⟨4, 0, 0, 0⟩, ⟨3, 0, 0, 0⟩, ⟨15, 0, 0, 0⟩, ⟨35, 0, 0, 0⟩]
theorem wk3_parse : parseV wk3S = .ok (wk3F, wk3I) := by
  have i0 : intF [48] = some 0 := intF1 0 (by decide)
  have n0 : natF [48] = some 0 := natF_iff.2 ⟨by decide, Lib.decDigits_one (by decide)⟩
  have i1 : intF [49] = some 1 := intF1 1 (by decide)
  have n1 : natF [49] = some 1 := natF_iff.2 ⟨by decide, Lib.decDigits_one (by decide)⟩
  have i2 : intF [50] = some 2 := intF1 2 (by decide)
  have n2 : natF [50] = some 2 := natF_iff.2 ⟨by decide, Lib.decDigits_one (by decide)⟩
  have L : linesF wk3S = [[102, 117, 110, 99, 32, 48, 32, 49, 32, 48], [111, 112, 101, 110, 32, 48], [105, 110, 116, 32, 49, 32, 48], [115, 116, 111, 114, 101, 32, 48], [112, 117, 115, 104, 32, 49], [112, 117, 115, 104, 32, 50], [97, 108, 117, 32, 48], [100, 114, 111, 112], [99, 108, 111, 115, 101], [101, 110, 100]] := by decide
  have r0 : putL ([], []) (cutL 32 [102, 117, 110, 99, 32, 48, 32, 49, 32, 48]) = some (wk3F, []) := by
    rw [show cutL 32 [102, 117, 110, 99, 32, 48, 32, 49, 32, 48] = funcS :: [[48], [49], [48]] from by decide, putL_func, show intsF [[48], [49], [48]] = some [0, 1, 0] by simp [intsF, i0, i1]]
    rfl
  have r1 : instrF (cutL 32 [111, 112, 101, 110, 32, 48]) = some ⟨14, 0, 0, 0⟩ := by
    rw [show cutL 32 [111, 112, 101, 110, 32, 48] = [[111, 112, 101, 110], [48]] from by decide]
    unfold instrF
    rw [show findO (([[111, 112, 101, 110], [48]] : List (List UInt8)).headD []) = some 14 from by decide]
    dsimp only
    rw [if_pos (by decide), if_neg (by decide), show ([[111, 112, 101, 110], [48]] : List (List UInt8)).tail = [[48]] from rfl, show intsF [[48]] = some [0] by simp [intsF, i0]]
    rfl
  have r2 : instrF (cutL 32 [105, 110, 116, 32, 49, 32, 48]) = some ⟨6, 1, 0, 0⟩ := by
    rw [show cutL 32 [105, 110, 116, 32, 49, 32, 48] = [[105, 110, 116], [49], [48]] from by decide]
    unfold instrF
    rw [show findO (([[105, 110, 116], [49], [48]] : List (List UInt8)).headD []) = some 6 from by decide]
    dsimp only
    rw [if_pos (by decide), if_neg (by decide), show ([[105, 110, 116], [49], [48]] : List (List UInt8)).tail = [[49], [48]] from rfl, show intsF [[49], [48]] = some [1, 0] by simp [intsF, i0, i1]]
    rfl
  have r3 : instrF (cutL 32 [115, 116, 111, 114, 101, 32, 48]) = some ⟨2, 0, 0, 0⟩ := by
    rw [show cutL 32 [115, 116, 111, 114, 101, 32, 48] = [[115, 116, 111, 114, 101], [48]] from by decide]
    unfold instrF
    rw [show findO (([[115, 116, 111, 114, 101], [48]] : List (List UInt8)).headD []) = some 2 from by decide]
    dsimp only
    rw [if_pos (by decide), if_neg (by decide), show ([[115, 116, 111, 114, 101], [48]] : List (List UInt8)).tail = [[48]] from rfl, show intsF [[48]] = some [0] by simp [intsF, i0]]
    rfl
  have r4 : instrF (cutL 32 [112, 117, 115, 104, 32, 49]) = some ⟨0, 0, 0, 1⟩ := by
    rw [show cutL 32 [112, 117, 115, 104, 32, 49] = [[112, 117, 115, 104], [49]] from by decide]
    unfold instrF
    rw [show findO (([[112, 117, 115, 104], [49]] : List (List UInt8)).headD []) = some 0 from by decide]
    dsimp only
    rw [if_pos (by decide), if_pos rfl, show ([[112, 117, 115, 104], [49]] : List (List UInt8)).getD 1 [] = [49] from rfl, n1]
    rfl
  have r5 : instrF (cutL 32 [112, 117, 115, 104, 32, 50]) = some ⟨0, 0, 0, 2⟩ := by
    rw [show cutL 32 [112, 117, 115, 104, 32, 50] = [[112, 117, 115, 104], [50]] from by decide]
    unfold instrF
    rw [show findO (([[112, 117, 115, 104], [50]] : List (List UInt8)).headD []) = some 0 from by decide]
    dsimp only
    rw [if_pos (by decide), if_pos rfl, show ([[112, 117, 115, 104], [50]] : List (List UInt8)).getD 1 [] = [50] from rfl, n2]
    rfl
  have r6 : instrF (cutL 32 [97, 108, 117, 32, 48]) = some ⟨4, 0, 0, 0⟩ := by
    rw [show cutL 32 [97, 108, 117, 32, 48] = [[97, 108, 117], [48]] from by decide]
    unfold instrF
    rw [show findO (([[97, 108, 117], [48]] : List (List UInt8)).headD []) = some 4 from by decide]
    dsimp only
    rw [if_pos (by decide), if_neg (by decide), show ([[97, 108, 117], [48]] : List (List UInt8)).tail = [[48]] from rfl, show intsF [[48]] = some [0] by simp [intsF, i0]]
    rfl
  have r7 : instrF (cutL 32 [100, 114, 111, 112]) = some ⟨3, 0, 0, 0⟩ := by
    rw [show cutL 32 [100, 114, 111, 112] = [[100, 114, 111, 112]] from by decide]
    unfold instrF
    rw [show findO (([[100, 114, 111, 112]] : List (List UInt8)).headD []) = some 3 from by decide]
    dsimp only
    rw [if_pos (by decide), if_neg (by decide)]
    rfl
  have r8 : instrF (cutL 32 [99, 108, 111, 115, 101]) = some ⟨15, 0, 0, 0⟩ := by
    rw [show cutL 32 [99, 108, 111, 115, 101] = [[99, 108, 111, 115, 101]] from by decide]
    unfold instrF
    rw [show findO (([[99, 108, 111, 115, 101]] : List (List UInt8)).headD []) = some 15 from by decide]
    dsimp only
    rw [if_pos (by decide), if_neg (by decide)]
    rfl
  have r9 : instrF (cutL 32 [101, 110, 100]) = some ⟨35, 0, 0, 0⟩ := by
    rw [show cutL 32 [101, 110, 100] = [[101, 110, 100]] from by decide]
    unfold instrF
    rw [show findO (([[101, 110, 100]] : List (List UInt8)).headD []) = some 35 from by decide]
    dsimp only
    rw [if_pos (by decide), if_neg (by decide)]
    rfl
  unfold parseV
  rw [L, if_pos (by decide), parseL, r0]
  dsimp only
  rw [parseL, putL_code (by decide), r1, Option.map_some]
  dsimp only
  rw [parseL, putL_code (by decide), r2, Option.map_some]
  dsimp only
  rw [parseL, putL_code (by decide), r3, Option.map_some]
  dsimp only
  rw [parseL, putL_code (by decide), r4, Option.map_some]
  dsimp only
  rw [parseL, putL_code (by decide), r5, Option.map_some]
  dsimp only
  rw [parseL, putL_code (by decide), r6, Option.map_some]
  dsimp only
  rw [parseL, putL_code (by decide), r7, Option.map_some]
  dsimp only
  rw [parseL, putL_code (by decide), r8, Option.map_some]
  dsimp only
  rw [parseL, putL_code (by decide), r9, Option.map_some]
  rfl
theorem of_c (s : List UInt8) (hs : s.length ≤ 1048576) (p : PR) (h : parseV s = .ok p) : CallsA Tryz.prog ΓH 13 [c1 (ds (bs s))] (.o (prD p.1 p.2)) := by
  have hp := (Parse_c s hs).gH
  rw [h] at hp
  refine fn_rule (C := ⟨Tryz.prog, layF, Tryz.f13.ntmps, ΓH, 0, [], []⟩) layF_ok mixed Tryz.func13 rfl (by kernel_rfl) rfl rfl rfl ?_
  repeat' (first | refine ex_call hp ?_ | refine ex_true (by first | decide | omega | assumption | (with_reducible exact rfl)) ?_ | refine ex_false (by first | decide | omega | assumption | exact (fun h => h rfl)) ?_ | refine ex_dec (fun _ => ?_) (fun _ => ?_) | refine ex_u8 _ rfl (by omega) (by omega) ?_ | refine ex_i64 _ rfl (by omega) (by omega) ?_ | refine ex_u64 _ rfl (by omega) (by omega) ?_ | refine and_mk (by first | omega | (with_reducible rfl) | (show drawOk _ _ _ = true; kernel_rfl)) ?_ | refine and_mk ⟨_, rfl⟩ ?_ | refine ex_is _ (List.length_map _) ?_ | refine ex_is _ List.length_nil ?_ | fail "no step")
  exact TLe.rfl
theorem wakes_c : CallsA Tryz.prog ΓH 7 [] (Tb true) := by
  have o1 := of_c wk1S (by decide) _ wk1_parse
  have o2 := of_c wk2S (by decide) _ wk2_parse
  have o3 := of_c wk3S (by decide) _ wk3_parse
  have c1' := check_c (fs := wk1F) (cs := wk1I) (by decide) (by decide)
  have c2' := check_c (fs := wk2F) (cs := wk2I) (by decide) (by decide)
  have c3' := check_c (fs := wk3F) (cs := wk3I) (by decide) (by decide)
  have d3 := deepest_c (fs := wk3F) (cs := wk3I) (by decide) (by decide) 0
  rw [show checkV wk1F wk1I = (0, 0) by decide +kernel] at c1'
  rw [show checkV wk2F wk2I = (0, 4) by decide +kernel] at c2'
  rw [show checkV wk3F wk3I = (0, 0) by decide +kernel] at c3'
  rw [show deepestV wk3F wk3I 0 = 2 by decide +kernel] at d3
  refine fn_rule (C := ⟨Tryz.prog, layF, Tryz.f7.ntmps, ΓH, 0, [], []⟩) layF_ok mixed Tryz.func7 rfl (by kernel_rfl) rfl rfl rfl ?_
  repeat' (first | refine ex_call d3 ?_ | refine ex_call c3' ?_ | refine ex_call c2' ?_ | refine ex_call c1' ?_ | refine ex_call o3 ?_ | refine ex_call o2 ?_ | refine ex_call o1 ?_ | refine ex_true (by first | decide | omega | assumption | (with_reducible exact rfl)) ?_ | refine ex_false (by first | decide | omega | assumption | exact (fun h => h rfl)) ?_ | refine ex_dec (fun _ => ?_) (fun _ => ?_) | refine ex_u8 _ rfl (by omega) (by omega) ?_ | refine ex_i64 _ rfl (by omega) (by omega) ?_ | refine ex_u64 _ rfl (by omega) (by omega) ?_ | refine and_mk (by first | omega | (with_reducible rfl) | (show drawOk _ _ _ = true; kernel_rfl)) ?_ | refine and_mk ⟨_, rfl⟩ ?_ | refine ex_is _ (List.length_map _) ?_ | refine ex_is _ List.length_nil ?_ | fail "no step")
  exact TLe.rfl
end Go.Proofs.YtgfmbkbiingagaaGreatDoor

namespace Go.Proofs.YtgfmbkbiingagaaGreatDoor
set_option linter.unusedVariables false
set_option linter.unusedSimpArgs false
open Go.RowKit
set_option maxRecDepth 100000

set_option maxHeartbeats 4000000 in
theorem checkTells_c (fs : List FN) (l : List IN) (hf : fs.length ≤ 9223372036854775807) (hl : l.length ≤ 9223372036854775807) :
    CallsA Tryz.prog ΓH 3 [c1 (.sl 3 (fs.map fnD)), c1 (.sl 4 (l.map inD))] (Tb true) := by
  have hp := (programs_c fs l hf hl).of0 (Γ := ΓH)
  have hw := wakes_c
  have h1 : (fs.take 10).length ≤ 10 := by rw [List.length_take]; omega
  have h2 : (l.take 60).length ≤ 60 := by rw [List.length_take]; omega
  generalize fs.take 10 = F at *
  generalize l.take 60 = L at *
  have hFm : (F.map fnD).length = F.length := List.length_map _
  have hck := check_c (fs := F) (cs := L) (by omega) (by omega)
  have hrk := (rcheck_c (fs := F) (cs := L) (by omega) (by omega)).of0 (Γ := ΓH)
  have hd1 := deepest_c (fs := F) (cs := L) (by omega) (by omega) (-1)
  have hd2 := deepest_c (fs := F) (cs := L) (by omega) (by omega) (F.length : Int)
  rw [show deepestV F L (-1) = 0 from if_pos (.inr (.inl (by decide)))] at hd1
  rw [show deepestV F L (F.length : Int) = 0 from if_pos (.inr (.inr (Int.le_refl _)))] at hd2
  have hdq := fun q : Nat => deepest_c (fs := F) (cs := L) (by omega) (by omega) (q : Int)
  have hrq : (checkV F L).2 = 0 → ∀ (q : Nat) (x : FN), F[q]? = some x → CallsA Tryz.prog ΓH 8 [gD [.sl 3 (F.map fnD), .sl 4 (L.map inD)], c1 (di q)] (.tup [c1 (di (functionV F L q).1), c1 (di (functionV F L q).2)]) := fun he q x hx => by
    obtain ⟨ho, -, -⟩ := check_ok he
    exact (rfunction_c (ok_fr ho (by omega) (by omega) hx) (ok_ft ho hx)).of0 (Γ := ΓH)
  have hde : ∀ q : Nat, q < F.length → deepestV F L q = if (checkV F L).2 = 0 then (functionV F L q).2 else 0 := fun q hq => by
    unfold deepestV
    by_cases he : (checkV F L).2 = 0
    · rw [if_neg (by omega), if_pos he, Int.toNat_natCast]
    · rw [if_pos (.inl he), if_neg he]
  generalize checkV F L = r at *
  obtain ⟨e1, e2⟩ := r
  dsimp only at hck hrk hrq hde
  refine fn_rule (C := ⟨Tryz.prog, layF, Tryz.f3.ntmps, ΓH, 0, [], []⟩) layF_ok mixed Tryz.func3 rfl (by kernel_rfl) rfl rfl rfl ?_
  repeat' (first | refine ex_call hw ?_ | refine ex_call hrk ?_ | refine ex_call hck ?_ | refine ex_call hp ?_ | refine (ex_is _ hFm) ?_ | refine ex_true (by first | decide | omega | assumption | (with_reducible exact rfl)) ?_ | refine ex_false (by first | decide | omega | assumption | exact (fun h => h rfl)) ?_ | refine ex_dec (fun _ => ?_) (fun _ => ?_) | refine ex_u8 _ rfl (by omega) (by omega) ?_ | refine ex_i64 _ rfl (by omega) (by omega) ?_ | refine ex_u64 _ rfl (by omega) (by omega) ?_ | refine and_mk (by first | omega | (with_reducible rfl) | (show drawOk _ _ _ = true; kernel_rfl)) ?_ | refine and_mk ⟨_, rfl⟩ ?_ | refine ex_is _ (List.length_map _) ?_ | refine ex_is _ List.length_nil ?_ | fail "no step")
  refine ex_loop (X := Nat) (fun q => ⟨[(5, .o (.c (.ptr 0 0))), (6, .o (.c (.ptr 1 0))), (10, Ti (e2 : Int)), (43, Ti F.length), (44, Ti q)], [(0, .obj [.d (.sl 3 (F.map fnD)), .d (.sl 4 (L.map inD))]), (1, .obj [.d (.sl 3 (F.map fnD)), .d (.sl 4 (L.map inD))])], 2⟩) (fun q => F.length - q) (fun q => q ≤ F.length) 0 (Nat.zero_le _) (SLe.of ⟨⟨rfl, rfl, rfl, rfl, rfl, trivial⟩, ⟨rfl, rfl, trivial⟩⟩) ?_
  rintro q hq
  by_cases hqF : q < F.length
  · have hd := hdq q
    rw [hde q hqF] at hd
    by_cases he : e2 = 0
    · have hr := hrq he q _ (at_some hqF)
      rw [if_pos he] at hd
      generalize (functionV F L q).2 = d at *
      repeat' (first | refine ex_call hd ?_ | refine ex_call hr ?_ | refine ex_i64 ((q + 1 : Nat) : Int) (by omega) (by omega) (by omega) ?_ | refine ex_u64 ((q + 1 : Nat) : Int) (by omega) (by omega) (by omega) ?_ | refine ex_u8 ((q + 1 : Nat) : Int) (by omega) (by omega) (by omega) ?_ | refine ex_true (by first | decide | omega | assumption | (with_reducible exact rfl)) ?_ | refine ex_false (by first | decide | omega | assumption | exact (fun h => h rfl)) ?_ | refine ex_dec (fun _ => ?_) (fun _ => ?_) | refine ex_u8 _ rfl (by omega) (by omega) ?_ | refine ex_i64 _ rfl (by omega) (by omega) ?_ | refine ex_u64 _ rfl (by omega) (by omega) ?_ | refine and_mk (by first | omega | (with_reducible rfl) | (show drawOk _ _ _ = true; kernel_rfl)) ?_ | refine and_mk ⟨_, rfl⟩ ?_ | refine ex_is _ (List.length_map _) ?_ | refine ex_is _ List.length_nil ?_ | fail "no step")
      exact ex_round (q + 1) (by show _ ≤ _; omega) (by show _ - _ < _ - _; omega) (SLe.of ⟨⟨rfl, rfl, rfl, rfl, rfl, trivial⟩, ⟨rfl, rfl, trivial⟩⟩)
    · rw [if_neg he] at hd
      repeat' (first | refine ex_call hd ?_ | refine ex_i64 ((q + 1 : Nat) : Int) (by omega) (by omega) (by omega) ?_ | refine ex_u64 ((q + 1 : Nat) : Int) (by omega) (by omega) (by omega) ?_ | refine ex_u8 ((q + 1 : Nat) : Int) (by omega) (by omega) (by omega) ?_ | refine ex_true (by first | decide | omega | assumption | (with_reducible exact rfl)) ?_ | refine ex_false (by first | decide | omega | assumption | exact (fun h => h rfl)) ?_ | refine ex_dec (fun _ => ?_) (fun _ => ?_) | refine ex_u8 _ rfl (by omega) (by omega) ?_ | refine ex_i64 _ rfl (by omega) (by omega) ?_ | refine ex_u64 _ rfl (by omega) (by omega) ?_ | refine and_mk (by first | omega | (with_reducible rfl) | (show drawOk _ _ _ = true; kernel_rfl)) ?_ | refine and_mk ⟨_, rfl⟩ ?_ | refine ex_is _ (List.length_map _) ?_ | refine ex_is _ List.length_nil ?_ | fail "no step")
      exact ex_round (q + 1) (by show _ ≤ _; omega) (by show _ - _ < _ - _; omega) (SLe.of ⟨⟨rfl, rfl, rfl, rfl, rfl, trivial⟩, ⟨rfl, rfl, trivial⟩⟩)
  · obtain rfl : q = F.length := Nat.le_antisymm hq (by omega)
    repeat' (first | refine ex_call hd2 ?_ | refine ex_call hd1 ?_ | refine (ex_is _ hFm) ?_ | refine ex_true (by first | decide | omega | assumption | (with_reducible exact rfl)) ?_ | refine ex_false (by first | decide | omega | assumption | exact (fun h => h rfl)) ?_ | refine ex_dec (fun _ => ?_) (fun _ => ?_) | refine ex_u8 _ rfl (by omega) (by omega) ?_ | refine ex_i64 _ rfl (by omega) (by omega) ?_ | refine ex_u64 _ rfl (by omega) (by omega) ?_ | refine and_mk (by first | omega | (with_reducible rfl) | (show drawOk _ _ _ = true; kernel_rfl)) ?_ | refine and_mk ⟨_, rfl⟩ ?_ | refine ex_is _ (List.length_map _) ?_ | refine ex_is _ List.length_nil ?_ | fail "no step")
    exact TLe.rfl
end Go.Proofs.YtgfmbkbiingagaaGreatDoor

namespace Go.Proofs.YtgfmbkbiingagaaGreatDoor
set_option linter.unusedVariables false
set_option linter.unusedSimpArgs false
open Go.RowKit

theorem ret_bool {a b : Bool} (h : a = b) : Ending.returned (.bool a) = .returned (.bool b) := by rw [h]
theorem ret_int {k : IntKind} {a b : Int} (h : a = b) : Ending.returned (.int k a) = .returned (.int k b) := by rw [h]

/-- A world that extends W: of what was there nothing has turned. -/
structure Ext (W : World) where
  w : World
  b : Below W.heap.size W w

instance {W : World} : Nonempty (Ext W) := ⟨⟨W, Below.refl _ _⟩⟩
instance {W : World} : Inhabited (Ext W) := ⟨⟨W, Below.refl _ _⟩⟩

/-! ### What the walk asks of blocks' numbers, found by instances: however long the chain of worlds is -/
class ExtC (W : outParam World) (w : World) : Prop where
  b : Below W.heap.size W w
class LtC (n m : Nat) : Prop where
  h : n < m
class LeC (n m : Nat) : Prop where
  h : n ≤ m
instance (priority := 2000) (n : Nat) : LeC n n := ⟨Nat.le_refl _⟩
instance (priority := 1900) (n m : Nat) [LeC n m] : LeC n (m + 1) := ⟨Nat.le_succ_of_le LeC.h⟩
instance (priority := 1800) (n m : Nat) [LeC n m] : LeC (n + 1) (m + 1) := ⟨Nat.succ_le_succ LeC.h⟩
instance (n : Nat) (w : World) (o : Obj) [LeC n (w.heap.size + 1)] : LeC n (w.alloc o).heap.size := ⟨by rw [World.size_alloc]; exact LeC.h⟩
instance (n : Nat) (w : World) (a : Addr) (v : Value) [LeC n w.heap.size] : LeC n (w.setCell a v).heap.size := ⟨by simp only [World.setCell, Array.size_modify]; exact LeC.h⟩
instance (n : Nat) (w : World) [LeC n w.heap.size] : LeC n w.drew.heap.size := ⟨(LeC.h : n ≤ w.heap.size)⟩
instance (n : Nat) (W w : World) [h : ExtC W w] [LeC n W.heap.size] : LeC n w.heap.size := ⟨Nat.le_trans LeC.h h.b.size⟩
instance (priority := 2000) (n : Nat) : LtC n (n + 1) := ⟨Nat.lt_succ_self _⟩
instance (priority := 1900) (n m : Nat) [LtC n m] : LtC n (m + 1) := ⟨Nat.lt_succ_of_lt LtC.h⟩
instance (priority := 1800) (n m : Nat) [LtC n m] : LtC (n + 1) (m + 1) := ⟨Nat.succ_lt_succ LtC.h⟩
instance (n : Nat) (w : World) (o : Obj) [LtC n (w.heap.size + 1)] : LtC n (w.alloc o).heap.size := ⟨by rw [World.size_alloc]; exact LtC.h⟩
instance (n : Nat) (w : World) (a : Addr) (v : Value) [LtC n w.heap.size] : LtC n (w.setCell a v).heap.size := ⟨by simp only [World.setCell, Array.size_modify]; exact LtC.h⟩
instance (n : Nat) (w : World) [LtC n w.heap.size] : LtC n w.drew.heap.size := ⟨(LtC.h : n < w.heap.size)⟩
instance (n : Nat) (W w : World) [h : ExtC W w] [LtC n W.heap.size] : LtC n w.heap.size := ⟨Nat.lt_of_lt_of_le LtC.h h.b.size⟩
instance {W : World} (x : Ext W) : ExtC W x.w := ⟨x.b⟩

/-- Block b reads in w as in W. -/
class AtC (w : World) (b : Nat) (W : outParam World) : Prop where
  h : w.heap[b]? = W.heap[b]?
instance {W w : World} (b : Nat) [h : ExtC W w] [LtC b W.heap.size] : AtC w b W := ⟨h.b.block b LtC.h⟩
/-- (Named so that simp doesn't take 'cellI' for a mere renaming.) -/
def cellOf (W : World) (b o : Nat) : Option Value := W.cell? ⟨b, o, none⟩
def frozenOf (W : World) (b o : Nat) : Bool := W.frozen? ⟨b, o, none⟩
theorem cellOf_is (W : World) (b o : Nat) : cellOf W b o = W.cell? ⟨b, o, none⟩ := rfl
theorem frozenOf_is (W : World) (b o : Nat) : frozenOf W b o = W.frozen? ⟨b, o, none⟩ := rfl
theorem cellI {W w : World} (b o : Nat) [h : AtC w b W] : w.cell? ⟨b, o, none⟩ = cellOf W b o := World.cell?_of_block (w := W) (a := ⟨b, o, none⟩) h.h
theorem frozenI {W w : World} (b o : Nat) [h : AtC w b W] : w.frozen? ⟨b, o, none⟩ = frozenOf W b o := World.frozen?_of_block (w := W) (a := ⟨b, o, none⟩) h.h
theorem cellA {w : World} (O : Obj) (b o : Nat) [LtC b w.heap.size] : (w.alloc O).cell? ⟨b, o, none⟩ = w.cell? ⟨b, o, none⟩ := World.cell?_alloc_past O b o LtC.h
theorem frozenA {w : World} (O : Obj) (b o : Nat) [LtC b w.heap.size] : (w.alloc O).frozen? ⟨b, o, none⟩ = w.frozen? ⟨b, o, none⟩ := World.frozen?_alloc_past O b o LtC.h
theorem setCellA {w : World} (O : Obj) (b o : Nat) (v : Value) [LtC b w.heap.size] : (w.alloc O).setCell ⟨b, o, none⟩ v = (w.setCell ⟨b, o, none⟩ v).alloc O := World.setCell_alloc_past O b o v LtC.h

theorem below_step {B : Nat} {w W w1 : World} (h : Below B w W) (hb : Below W.heap.size W w1) (hB : B ≤ W.heap.size) : Below B w w1 := h.trans (hb.mono hB)
theorem leC {n m : Nat} [h : LeC n m] : n ≤ m := h.h

theorem below_draw (W : World) : Below W.heap.size W { W with drawn := W.drawn + 1 } := ⟨rfl, rfl, rfl, Nat.le_refl _, fun _ _ => rfl⟩

/-- A region that draws its order, every operation a read or a call that only makes memory: one walk in the text's order. -/
theorem steady_region {P : Program} {id : Nat} {Q : Exit → Act → World → Prop} {a : Act} {W : World} {l : List Oper} (hm : P.follows .mixedOrders = true) (hB : Region.lexB .any l.toArray = true)
    (h : wpQuiet P l.toArray (fun w' => ∃ x : Ext W, w' = x.w) (fun a' => ∀ w', (∃ x : Ext W, w' = x.w) → Q .normal a' w') l a) : (Code.region id l.toArray true).wp P Q a W :=
  wp_region_quiet (C := fun w' => ∃ x : Ext W, w' = x.w) hm hB ⟨⟨_, below_draw W⟩, rfl⟩ (by simpa using h)

/-- The same, the class that of an earlier world which the present one extends. -/
theorem steady_from {P : Program} {id : Nat} {Q : Exit → Act → World → Prop} {a : Act} {W w : World} {l : List Oper} (hbw : Below W.heap.size W w) (hm : P.follows .mixedOrders = true) (hB : Region.lexB .any l.toArray = true)
    (h : wpQuiet P l.toArray (fun w' => ∃ x : Ext W, w' = x.w) (fun a' => ∀ w', (∃ x : Ext W, w' = x.w) → Q .normal a' w') l a) : (Code.region id l.toArray true).wp P Q a w :=
  wp_region_quiet (C := fun w' => ∃ x : Ext W, w' = x.w) hm hB ⟨⟨_, hbw.trans ((below_draw w).mono hbw.size)⟩, rfl⟩ (by simpa using h)

/-- A callee's contract, met in a world of the class. -/
theorem Calls.steady {P : Program} {f : FuncId} {args : Array Value} {W : World} {x : Ext W} {v : Value}
    (h : Calls P f args x.w fun e w' => e = .returned v ∧ Below x.w.heap.size x.w w') : Calls P f args x.w fun e w'' => e = .returned v ∧ ∃ y : Ext W, w'' = y.w :=
  h.mono fun _ w' ⟨he, hb⟩ => ⟨he, ⟨w', x.b.trans (hb.mono x.b.size)⟩, rfl⟩


section
variable {P : Program} {ops : Array Oper} {md : Region.Mode} {C : World → Prop}

/-- Every edge that binds leads back. -/
def backB (md : Region.Mode) (ops : Array Oper) : Bool :=
  (List.range ops.size).all fun i => match ops[i]? with
    | some o => o.after.all fun e => !Region.binds md e || decide (e.on < i)
    | none => true
/-- From number n on each operation waits for all of the first n. -/
def tailB (md : Region.Mode) (ops : Array Oper) (n : Nat) : Bool :=
  (List.range ops.size).all fun t => decide (t < n) || (List.range n).all fun i => Region.waitsFor md ops t i
/-- The guards of the first n operations lie among them. -/
def guardB (ops : Array Oper) (n : Nat) : Bool :=
  (List.range n).all fun i => match ops[i]? with
    | some o => match o.guard with
      | some (j, _) => decide (j < n)
      | none => true
    | none => true

theorem backB_spec (h : backB md ops = true) {i : Nat} {o : Oper} (ho : ops[i]? = some o) {e : Edge} (he : e ∈ o.after) (hb : Region.binds md e = true) : e.on < i := by
  have h1 := List.all_eq_true.1 h i (List.mem_range.2 (Array.getElem?_eq_some_iff.1 ho).1)
  simp only [ho] at h1
  have h2 := Array.all_eq_true_iff_forall_mem.1 h1 e he
  simpa [hb] using h2

theorem tailB_spec {n : Nat} (h : tailB md ops n = true) {t i : Nat} (ht : n ≤ t) (hts : t < ops.size) (hi : i < n) : ∃ o, ops[t]? = some o ∧ ∃ e ∈ o.after, Region.binds md e = true ∧ e.on = i := by
  have h1 := List.all_eq_true.1 h t (List.mem_range.2 hts)
  simp only [Bool.or_eq_true, decide_eq_true_eq] at h1
  rcases h1 with h1 | h1
  · omega
  · exact Region.waitsFor_spec (List.all_eq_true.1 h1 i (List.mem_range.2 hi))

/-- More fuel does no harm. -/
theorem wpAny_more {Q : Exit → Act → World → Prop} : ∀ (f : Nat) (listed : Array Bool) (a : Act) (w : World), wpAny P md ops Q f listed a w → wpAny P md ops Q (f + 1) listed a w
  | 0, _, _, _, h => ⟨fun _ => h.2, fun i hi => by rw [h.1] at hi; cases hi⟩
  | f + 1, _, _, _, h => ⟨h.1, fun i hi => wpOp_mono (fun a' w' => wpAny_more f _ a' w') (h.2 i hi)⟩
theorem wpAny_moreN {Q : Exit → Act → World → Prop} (f : Nat) {listed : Array Bool} {a : Act} {w : World} (h : wpAny P md ops Q f listed a w) : ∀ k, wpAny P md ops Q (f + k) listed a w
  | 0 => h
  | k + 1 => wpAny_more _ _ _ _ (wpAny_moreN f h k)

theorem take_get {l : List Oper} {n i : Nat} (h : i < n) : (l.take n).toArray[i]? = l.toArray[i]? := by simp [h]
theorem take_none {l : List Oper} {n i : Nat} (h : n ≤ i) : (l.take n).toArray[i]? = none := by
  simp only [List.getElem?_toArray, List.getElem?_take]
  rw [if_neg (by omega)]

theorem wanted_take {l : List Oper} {n i : Nat} {o : Oper} (hg : guardB l.toArray n = true) (hi : i < n) (ho : l.toArray[i]? = some o) (tmps : Array Value) :
    Region.wanted o (yielded (l.take n).toArray tmps) = Region.wanted o (yielded l.toArray tmps) := by
  have h1 := List.all_eq_true.1 hg i (List.mem_range.2 hi)
  simp only [ho] at h1
  unfold Region.wanted
  cases hgd : o.guard with
  | none => rfl
  | some p =>
    obtain ⟨j, want⟩ := p
    simp only [hgd, decide_eq_true_eq] at h1
    simp only [yielded, take_get h1]

/-- While one of the first n has not come up, what may come up is what may come up among them. -/
theorem ready_take {l : List Oper} {n : Nat} {listed : Array Bool} (ht : tailB md l.toArray n = true) {i : Nat} (hi : i < n) (hun : listed.getD i true = false) {j : Nat}
    (hj : j ∈ Region.ready md l.toArray listed) : j < n ∧ j ∈ Region.ready md (l.take n).toArray listed := by
  have hil : listed.getD i false = false := getD_both hun
  obtain ⟨h0, o, ho, hall⟩ := mem_ready.1 hj
  have hjn : j < n := by
    rcases Nat.lt_or_ge j n with h | h
    · exact h
    · obtain ⟨o', ho', e, he, hb, hon⟩ := tailB_spec ht h (Array.getElem?_eq_some_iff.1 ho).1 hi
      have : o = o' := Option.some.inj (ho.symm.trans ho')
      subst this
      have := hall e he hb
      rw [hon, hil] at this
      cases this
  exact ⟨hjn, mem_ready.2 ⟨h0, o, by rw [take_get hjn]; exact ho, hall⟩⟩

/-- If nothing may come up among the first n, all of them have come up. -/
theorem all_listed {l : List Oper} {n : Nat} {listed : Array Bool} (hb : backB md l.toArray = true) (hs : listed.size = l.toArray.size) (hn : n ≤ l.length)
    (h : Region.ready md (l.take n).toArray listed = []) : ∀ i, i < n → listed.getD i true = true := by
  intro i
  induction i using Nat.strongRecOn with
  | _ i ih =>
    intro hi
    cases hl : listed.getD i true with
    | true => rfl
    | false =>
      have hil : i < l.toArray.size := by simp; omega
      have ho : l.toArray[i]? = some l.toArray[i] := by simp
      have : i ∈ Region.ready md (l.take n).toArray listed := mem_ready.2 ⟨hl, _, by rw [take_get hi]; exact ho, fun e he hbd => by
        have hlt := backB_spec hb ho he hbd
        have h1 := ih e.on hlt (by omega)
        have hes : e.on < listed.size := by omega
        simp only [Array.getD, hes, dite_true] at h1 ⊢
        exact h1⟩
      rw [h] at this
      cases this

def fullTo (n m : Nat) : Array Bool := ((List.range m).map fun i => decide (i < n)).toArray

/-- The first n operations in any order, then the rest one behind the other. -/
theorem wpAny_of_head_tail {l : List Oper} {n : Nat} {Q : Act → Prop} {Q' : Exit → Act → World → Prop} (hn : n ≤ l.length) (hb : backB md l.toArray = true) (ht : tailB md l.toArray n = true) (hg : guardB l.toArray n = true)
    (hseq : Region.seqB md l.toArray (l.length - n) n (fullTo n l.length) = true)
    (hQ : ∀ a w, C w → Q a → wpList P l.toArray Q' (l.drop n) a w) :
    ∀ (f : Nat) (listed : Array Bool) (a : Act) (w : World), listed.size = l.toArray.size → (∀ t, n ≤ t → t < l.length → listed.getD t true = false) → C w →
      wpAnyQ P md (l.take n).toArray C Q f listed a → wpAny P md l.toArray Q' ((l.length - n) + f) listed a w := by
  have fin : ∀ (listed : Array Bool) (a : Act) (w : World), listed.size = l.toArray.size → (∀ t, n ≤ t → t < l.length → listed.getD t true = false) → C w → Q a →
      Region.ready md (l.take n).toArray listed = [] → wpAny P md l.toArray Q' (l.length - n) listed a w := fun listed a w hs hu hw hq hr => by
    have hall := all_listed hb hs hn hr
    have hfull : listed = fullTo n l.length := by
      apply Array.ext
      · simp [fullTo, hs]
      · intro i h1 h2
        have h3 : i < l.length := by simpa [hs] using h1
        simp only [fullTo, List.getElem_toArray, List.getElem_map, List.getElem_range]
        rcases Nat.lt_or_ge i n with h | h
        · have := hall i h
          simp only [Array.getD, h1, dite_true] at this
          simpa [h] using this
        · have := hu i h h3
          simp only [Array.getD, h1, dite_true] at this
          have hni : ¬ i < n := by omega
          simpa [hni] using this
    subst hfull
    have := wpAny_of_seq (P := P) (md := md) (Q' := Q') (l.drop n) n (fullTo n l.length) a w (fun j => by simp [List.getElem?_drop]) (by rw [List.length_drop]; exact hseq) (hQ a w hw hq)
    rwa [List.length_drop] at this
  intro f
  induction f with
  | zero => exact fun listed a w hs hu hw h => fin listed a w hs hu hw h.2 h.1
  | succ f ih =>
    intro listed a w hs hu hw h
    by_cases hr : Region.ready md (l.take n).toArray listed = []
    · exact wpAny_moreN _ (fin listed a w hs hu hw (h.1 hr) hr) _
    · obtain ⟨i, hi⟩ : ∃ i, i ∈ Region.ready md (l.take n).toArray listed := by
        cases hl : Region.ready md (l.take n).toArray listed with
        | nil => exact absurd hl hr
        | cons x xs => exact ⟨x, by simp⟩
      have hin : i < n := by
        rcases Nat.lt_or_ge i n with h' | h'
        · exact h'
        · obtain ⟨_, o, ho, _⟩ := mem_ready.1 hi
          rw [take_none h'] at ho
          cases ho
      have hun := (mem_ready.1 hi).1
      have hrr : Region.ready md l.toArray listed ≠ [] := fun h0 => by
        obtain ⟨h1, o, ho, hall⟩ := mem_ready.1 hi
        have : i ∈ Region.ready md l.toArray listed := mem_ready.2 ⟨h1, o, by rw [← take_get hin]; exact ho, hall⟩
        rw [h0] at this
        cases this
      refine ⟨fun h0 => absurd h0 hrr, fun j hj => ?_⟩
      obtain ⟨hjn, hj'⟩ := ready_take ht hin hun hj
      have hq := h.2 j hj'
      have hq2 : qOp P l.toArray C j (wpAnyQ P md (l.take n).toArray C Q f (listed.setIfInBounds j true)) a := by
        unfold qOp at hq ⊢
        rw [take_get hjn] at hq
        cases ho : l.toArray[j]? with
        | none => simp only [ho] at hq ⊢; exact hq
        | some o =>
          simp only [ho] at hq ⊢
          rw [wanted_take hg hjn ho] at hq
          exact hq
      refine wpOp_of_qOp hw (fun a' w' hw' hk => ih _ a' w' (by simp [hs]) (fun t ht' htl => ?_) hw' hk) hq2
      rw [getD_set_ne true (by omega)]
      exact hu t ht' htl

/-- A region that draws its order: the first n operations read or call, in any order; the rest (stores, mostly) waits for all of them. -/
theorem wp_region_tail {id : Nat} {Q : Exit → Act → World → Prop} {a : Act} {w : World} {l : List Oper} (n : Nat) (hm : P.follows .mixedOrders = true)
    (hB : (decide (n ≤ l.length) && (Region.noSelect (l.take n).toArray && Region.lexFrom .any (l.take n).toArray n 0 (Array.replicate l.toArray.size false)) && backB .any l.toArray && tailB .any l.toArray n && guardB l.toArray n && Region.seqB .any l.toArray (l.length - n) n (fullTo n l.length)) = true)
    (hC : C { w with drawn := w.drawn + 1 })
    (h : wpQuiet P (l.take n).toArray C (fun a' => ∀ w', C w' → wpList P l.toArray Q (l.drop n) a' w') (l.take n) a) : (Code.region id l.toArray true).wp P Q a w := by
  simp only [Bool.and_eq_true, decide_eq_true_eq] at hB
  obtain ⟨⟨⟨⟨⟨hn, hlex⟩, hb⟩, ht⟩, hg⟩, hseq⟩ := hB
  refine wp_region_any hm ?_
  have hlen : (l.take n).length = n := by simp; omega
  have H := wpAnyQ_lex (C := C) (md := .any) hlex.1 (l.take n) 0 (Array.replicate l.toArray.size false) a (by simp) (by rw [hlen]; exact hlex.2) h
  rw [hlen] at H
  have := wpAny_of_head_tail (Q' := Q) hn hb ht hg hseq (fun a w hw hq => hq w hw) n _ a _ (by simp) (fun t _ htl => getD_in (by simpa using htl) (getD_replicate_false _ _)) hC H
  rw [show l.length - n + n = l.toArray.size by simp; omega] at this
  exact this
end

theorem steady_tail {P : Program} {id : Nat} {Q : Exit → Act → World → Prop} {a : Act} {W : World} {l : List Oper} (n : Nat) (hm : P.follows .mixedOrders = true)
    (hB : (decide (n ≤ l.length) && (Region.noSelect (l.take n).toArray && Region.lexFrom .any (l.take n).toArray n 0 (Array.replicate l.toArray.size false)) && backB .any l.toArray && tailB .any l.toArray n && guardB l.toArray n && Region.seqB .any l.toArray (l.length - n) n (fullTo n l.length)) = true)
    (h : wpQuiet P (l.take n).toArray (fun w' => ∃ x : Ext W, w' = x.w) (fun a' => ∀ w', (∃ x : Ext W, w' = x.w) → wpList P l.toArray Q (l.drop n) a' w') (l.take n) a) : (Code.region id l.toArray true).wp P Q a W :=
  wp_region_tail (C := fun w' => ∃ x : Ext W, w' = x.w) n hm hB ⟨⟨_, below_draw W⟩, rfl⟩ h

theorem steady_tail_from {P : Program} {id : Nat} {Q : Exit → Act → World → Prop} {a : Act} {W w : World} {l : List Oper} (hbw : Below W.heap.size W w) (n : Nat) (hm : P.follows .mixedOrders = true)
    (hB : (decide (n ≤ l.length) && (Region.noSelect (l.take n).toArray && Region.lexFrom .any (l.take n).toArray n 0 (Array.replicate l.toArray.size false)) && backB .any l.toArray && tailB .any l.toArray n && guardB l.toArray n && Region.seqB .any l.toArray (l.length - n) n (fullTo n l.length)) = true)
    (h : wpQuiet P (l.take n).toArray (fun w' => ∃ x : Ext W, w' = x.w) (fun a' => ∀ w', (∃ x : Ext W, w' = x.w) → wpList P l.toArray Q (l.drop n) a' w') (l.take n) a) : (Code.region id l.toArray true).wp P Q a w :=
  wp_region_tail (C := fun w' => ∃ x : Ext W, w' = x.w) n hm hB ⟨⟨_, hbw.trans ((below_draw w).mono hbw.size)⟩, rfl⟩ h

theorem bcell {W w1 : World} (hb : Below W.heap.size W w1) : (∀ b o, b < W.heap.size → w1.cell? ⟨b, o, none⟩ = W.cell? ⟨b, o, none⟩) ∧ (∀ b o, b < W.heap.size → w1.frozen? ⟨b, o, none⟩ = W.frozen? ⟨b, o, none⟩) :=
  ⟨fun b o h => hb.cell (p := ⟨b, o, none⟩) h, fun b o h => hb.frozen (p := ⟨b, o, none⟩) h⟩

/-! ### A slice of the call's own that grows -/

/-- 'out = append(out, x)', x laid into a block of its own by the operation ahead. -/
theorem wpList_append1 {P : Program} {ops : Array Oper} {rest : List Oper} {o : Oper} {a : Act} {Q : Exit → Act → World → Prop} {w : World} (hgd : o.guard = none) (s x : Operand) (t : TypeId)
    (ho : o.op = .call { callee := .builtin .append, args := #[s, x], argTypes := #[t, t] })
    (base : Nat) (e : TypeId) (i : TypeInfo) (z : Value) (size bytes : Nat) (ht : P.underlying t = some (.slice e)) (hi : P.info? e = some i) (hz : i.zero = some z)
    (hsize : i.size = size) (hby : i.bytes = bytes) (hzs : z.cells.size = size) (hsz : 0 < size)
    (v : Value) (n : Nat) (xs : List Value) (hs : a.eval s = v) (hown : w.ownsRow base e size v n xs) (cs : List Value)
    (hx : a.eval x = .slice (some ⟨w.heap.size, 0, none⟩) 1 1) (hl : cs.length = size) (h1 : ∀ u ∈ cs, u.oneCell' = true)
    (h63 : n + 1 ≤ maxLen) (hbytes : (n + 1) * bytes ≤ 140737488355328) (hbase : base ≤ w.heap.size)
    (h : ∀ v' w', w'.ownsRow base e size v' (n + 1) (xs ++ cs) → w.grownBy w' v.ownBlock → Below base w w' → wpList P ops Q rest (a.put o.dst v') w') :
    wpList P ops Q (o :: rest) a (w.alloc (.cells cs.toArray e)) := by
  refine wpList_append_own (w := w.alloc (.cells cs.toArray e)) hgd s x t ho base e i z size bytes ht hi hz hsize hby hzs hsz v n xs hs (hown.alloc _) ⟨w.heap.size, 0, none⟩ 1 1 cs hx (by simpa using hl) ?_ h1 h63 hbytes (by simp; omega) ?_
  · intro j u hj
    have hc : (w.alloc (.cells cs.toArray e)).cell? ⟨w.heap.size, j, none⟩ = cs[j]? := by
      rw [cell_of_row _ _ _ _ _ _ (heap_alloc_new w _)]
      simp
    simp only [Addr.add_lit, Nat.zero_add]
    rw [hc]; exact hj
  · intro v' w' h2 h3 _
    have hlt := hown.lt
    refine h v' w' h2 ⟨h3.os, h3.tape, h3.output, Nat.le_trans (by simp) h3.size, fun k hk hne => ?_⟩ ⟨h3.os, h3.tape, h3.output, Nat.le_trans (by simp) h3.size, fun k hk => ?_⟩
    · rw [h3.block k (by simp; omega) hne]
      exact Below.heap_alloc _ _ _ hk
    · rw [h3.block k (by simp; omega) (fun e => by have := hlt k e.symm; omega)]
      exact Below.heap_alloc _ _ _ (by omega)

/-- The cells of bytes. -/
def bcells (l : List UInt8) : List Value := l.map fun b => .int .u8 (b.toNat : Int)

theorem push_foldl (l : List UInt8) : ∀ s : ByteArray, (l.map fun b : UInt8 => (b.toNat : Int)).foldl (fun r n => r.push (UInt8.ofNat n.toNat)) s = ⟨s.data ++ l.toArray⟩ := by
  induction l with
  | nil => intro s; simp
  | cons b l ih =>
    intro s
    simp only [List.map_cons, List.foldl_cons]
    rw [ih]
    simp [ByteArray.push]

/-- 'string(b)', b a slice of bytes of the call's own. -/
theorem run_string_own {P : Program} {w : World} {base : Nat} {src dst e : TypeId} {v : Value} {n : Nat} {l : List UInt8} (hown : w.ownsRow base e 1 v n (bcells l))
    (hs : P.underlying src = some (.slice e)) (he : P.underlying e = some (.int .u8)) (hd : P.underlying dst = some .string) : (convert src dst v).run P w = .ok (.string ⟨l.toArray⟩) w := by
  have hlen : (bcells l).length = n := by simpa using hown.1
  have hln : l.length = n := by simpa [bcells] using hlen
  rcases hown.2 with ⟨rfl, hn⟩ | ⟨g, cap, cur, rfl, _, hg, _, _, _, _⟩
  · have : l = [] := List.eq_nil_of_length_eq_zero (by omega)
    subst this
    rw [run_convert_bytes_string w src dst e _ _ _ hs he hd]
    simp only [Conv.bytesToString, Sem.run_pure]
    rfl
  · rw [run_convert_bytes_string w src dst e _ _ _ hs he hd]
    have hb : bcells l = (l.map fun b : UInt8 => (b.toNat : Int)).map (Value.int .u8) := by simp [bcells]
    have := run_bytesToString (P := P) w ⟨g, 0, none⟩ n cap (l.map fun b : UInt8 => (b.toNat : Int)) (by
      rw [← hb]
      rw [← hlen]
      refine run_loadCells_list (w := w) _ (bcells l) fun j u hj => ?_
      exact hown.cells rfl j u hj)
    rw [this, push_foldl]
    simp

theorem below_bytes (w : World) (e : TypeId) (s : ByteArray) : Below w.heap.size w (Lib.bytesWorld w e s) :=
  ⟨rfl, rfl, rfl, by rw [Lib.bytesWorld_size]; omega, fun k hk => Lib.bytesWorld_at_old w e s k hk⟩

theorem bsize {W w1 : World} (hb : Below W.heap.size W w1) : ∀ b, b < W.heap.size → b < w1.heap.size := fun _ h => Nat.lt_of_lt_of_le h hb.size

end Go.Proofs.YtgfmbkbiingagaaGreatDoor

namespace Go.Proofs.YtgfmbkbiingagaaGreatDoor
set_option linter.unusedVariables false
set_option linter.unusedSimpArgs false
open Go.ChangeShapes Go.WideShapes Go.ChangeAt Go.RowKit

theorem own : ownKnob Tryz.prog.godebug = none := by kernel_rfl
theorem laidOut : laidOutB Tryz.prog = true := by kernel_rfl

section
variable {H : Type} {enc : TypeId × Value → H} {P : Program} {W W' : World}

theorem trodAll_below (hl : laidOutB P = true) (hb : Below W.heap.size W W') : ∀ (ts : List TypeId) (vs : List Value) (ds : List (DataW H)) (ps : List MemPlace), (∀ t ∈ ts, P.readableRec t = true ∧ t < P.types.size) →
    DataW.TrodAll enc P W 0 (fun _ => true) true ts vs ds ps → (∀ x ∈ ps, x.block < W.heap.size) → DataW.TrodAll enc P W' 0 (fun b => decide (b < W.heap.size)) true ts vs ds ps
  | [], [], [], _, _, h, _ => h
  | t :: ts, v :: vs, d :: ds, ps, hr, h, hlt => by
    obtain ⟨p, q, h1, h2, rfl⟩ := h
    have ht := hr t (by simp)
    exact ⟨p, q, Below.trod hl ht.1 ht.2 h1 hb (fun x hx => hlt x (by simp [hx])), trodAll_below hl hb ts vs ds q (fun t' h' => hr t' (by simp [h'])) h2 (fun x hx => hlt x (by simp [hx])), rfl⟩
  | [], [], _ :: _, _, _, h, _ => h.elim
  | [], _ :: _, _, _, _, h, _ => h.elim
  | _ :: _, [], _, _, _, h, _ => h.elim
  | _ :: _, _ :: _, [], _, _, h, _ => h.elim

/-- A law's row: true, and every argument reads as it did. -/
theorem law_post {f : Func} {s : ChangeSpec} {args : Array Value} {ds : List (DataW H)} {before : List MemPlace} {tb : TypeId} (hl : laidOutB P = true)
    (hW : DataW.Whole enc P f.params.toList s.vars false W args.toList ds [] before) (hsv : s.vars = []) (hr0 : (f.params.toList.all fun t => P.readableRec t && decide (t < P.types.size)) = true)
    (hrt : f.resultTypes = #[tb]) (htb : P.underlying tb = some .bool) (h1 : (s.fn H (ds ++ [])).results = [.lit (.bool true)]) (h2 : (s.fn H (ds ++ [])).args = ds) (h3 : (s.fn H (ds ++ [])).vars = [])
    (hb : Below W.heap.size W W') : s.post enc P f false true false false W args (.bool true) W' := by
  have hr : ∀ t ∈ f.params.toList, P.readableRec t = true ∧ t < P.types.size := fun t ht => by simpa using List.all_eq_true.1 hr0 t ht
  have hlt : ∀ p ∈ before, p.block < W.heap.size := fun p hp => hW.lt p hp
  have hW0 := hW
  obtain ⟨p, q, hA, hV, rfl, _, _⟩ := hW0
  rw [hsv] at hV
  obtain rfl : q = [] := hV
  refine ⟨ds, [], _, [], p, [], hW, ?_, ?_, ?_, hb.frame _, fun h => by cases h⟩
  · rw [h1, hrt]
    exact trodAll_mk1 (shut_bool htb true)
  · rw [h2]
    exact trodAll_below hl hb _ _ _ _ hr hA (fun x hx => hlt x (by simp [hx]))
  · rw [h3, hsv]; rfl
end

section
variable {H : Type} {enc : TypeId × Value → H} {P : Program} {w : World} {base : Nat} {sp : Nat → Bool} {held : Bool}

theorem okWide_array {r : Reach} {b : Nat} {t e : TypeId} {n : Nat} {v : Value} (ht : P.underlying t = some (.array n e)) (h : Value.okWide P w r b t v) : ∃ cs, v = .agg cs ∧ cs.size = P.cellsOf t := by
  simp only [Value.okWide, ht] at h
  obtain ⟨cs, h1, h2, _⟩ := h
  exact ⟨cs, h1, h2⟩

/-- An array of integers by value. -/
theorem open_int_array {r : Reach} {b0 : Nat} {t e : TypeId} {n : Nat} {k : IntKind} {v : Value} {d : DataW H} {ps : List MemPlace} (ht : P.underlying t = some (.array n e)) (he : P.underlying e = some (.int k)) (hc : P.cellsOf e = 1) (hn : P.cellsOf t = n)
    (hval : Value.okWide P w r b0 t v) (hd : DataW.Trod enc P w base sp held t v d ps) : ∃ zs : List Int, zs.length = n ∧ v = .agg (zs.map (Value.int k)).toArray ∧ ∀ z ∈ zs, (Lit.int k z).wf = true := by
  obtain ⟨cs, rfl, hs⟩ := okWide_array ht hval
  obtain ⟨fuel, hf⟩ := hd
  obtain ⟨xs, m, _, _, hl, hx, hall⟩ := DataW.trod_array ht hf
  have hcs : (Value.agg cs).cells.toList = cs.toList := rfl
  rw [hcs] at hl hall
  have hlen : cs.toList.length = n := by rw [hl, hn]
  have key : ∀ i, (h : i < cs.toList.length) → ∃ z, cs.toList[i] = .int k z ∧ (Lit.int k z).wf = true := by
    intro i h
    have h1 := hall i (by omega)
    rw [hc, Nat.mul_one, List.take_one, List.head?_drop, List.getElem?_eq_getElem h, List.getElem?_eq_getElem (by omega)] at h1
    obtain ⟨z, hz, _, hw⟩ := DataW.trod_int he h1
    exact ⟨z, by simpa using hz, hw⟩
  have all : ∀ l : List Value, (∀ i, (h : i < l.length) → ∃ z, l[i] = .int k z ∧ (Lit.int k z).wf = true) → ∃ zs : List Int, zs.length = l.length ∧ l = zs.map (Value.int k) ∧ ∀ z ∈ zs, (Lit.int k z).wf = true := by
    intro l
    induction l with
    | nil => exact fun _ => ⟨[], rfl, rfl, by simp⟩
    | cons c l ih =>
      intro h
      obtain ⟨z, hz, hw⟩ := h 0 (by simp)
      obtain ⟨zs, h1, h2, h3⟩ := ih (fun i hi => by obtain ⟨z', h', w'⟩ := h (i + 1) (by simpa using hi); exact ⟨z', h', w'⟩)
      refine ⟨z :: zs, by simp [h1], ?_, ?_⟩
      · simp only [List.map_cons]
        rw [← h2, ← hz]; rfl
      · intro y hy
        rcases List.mem_cons.1 hy with rfl | hy
        · exact hw
        · exact h3 y hy
  obtain ⟨zs, h1, h2, h3⟩ := all cs.toList key
  exact ⟨zs, by rw [h1, hlen], by rw [← h2], h3⟩

theorem len2 {zs : List Int} (h : zs.length = 2) : ∃ a b, zs = [a, b] := by
  match zs, h with
  | [a, b], _ => exact ⟨a, b, rfl⟩
theorem len3 {zs : List Int} (h : zs.length = 3) : ∃ a b c, zs = [a, b, c] := by
  match zs, h with
  | [a, b, c], _ => exact ⟨a, b, c, rfl⟩
theorem len4 {zs : List Int} (h : zs.length = 4) : ∃ a b c d, zs = [a, b, c, d] := by
  match zs, h with
  | [a, b, c, d], _ => exact ⟨a, b, c, d, rfl⟩

theorem wf_i64 {n : Int} (h : (Lit.int .i64 n).wf = true) : -9223372036854775808 ≤ n ∧ n ≤ 9223372036854775807 := by
  have h1 : IntKind.i64.min = -9223372036854775808 := rfl
  have h2 : IntKind.i64.max = 9223372036854775807 := rfl
  simpa [Lit.wf, h1, h2] using h
theorem wf_u64 {n : Int} (h : (Lit.int .u64 n).wf = true) : 0 ≤ n ∧ n ≤ 18446744073709551615 := by
  have h1 : IntKind.u64.min = 0 := rfl
  have h2 : IntKind.u64.max = 18446744073709551615 := rfl
  simpa [Lit.wf, h1, h2] using h
theorem wf_u32 {n : Int} (h : (Lit.int .u32 n).wf = true) : 0 ≤ n ∧ n ≤ 4294967295 := by
  have h1 : IntKind.u32.min = 0 := rfl
  have h2 : IntKind.u32.max = 4294967295 := rfl
  simpa [Lit.wf, h1, h2] using h
theorem wf_u16 {n : Int} (h : (Lit.int .u16 n).wf = true) : 0 ≤ n ∧ n ≤ 65535 := by
  have h1 : IntKind.u16.min = 0 := rfl
  have h2 : IntKind.u16.max = 65535 := rfl
  simpa [Lit.wf, h1, h2] using h
theorem wf_u8 {n : Int} (h : (Lit.int .u8 n).wf = true) : 0 ≤ n ∧ n ≤ 255 := by
  have h1 : IntKind.u8.min = 0 := rfl
  have h2 : IntKind.u8.max = 255 := rfl
  simpa [Lit.wf, h1, h2] using h
end
end Go.Proofs.YtgfmbkbiingagaaGreatDoor

namespace Go.Proofs.YtgfmbkbiingagaaGreatDoor
set_option linter.unusedVariables false
set_option linter.unusedSimpArgs false
open Go.ChangeShapes Go.WideShapes Go.ChangeAt Go.RowKit

def tilesF (P : Program) : Nat → List Field → Nat → Bool
  | o, [], n => Nat.beq o n
  | o, f :: fs, n => Nat.beq f.offset o && tilesF P (o + P.cellsOf f.type) fs n
/-- Is a type one that is read, to so many levels? -/
def okT (P : Program) : Nat → TypeId → Bool
  | 0, _ => false
  | d + 1, t => match P.underlying t with
    | some .bool | some (.int _) | some .string => true
    | some (.slice e) => Nat.blt 0 (P.cellsOf e) && okT P d e
    | some (.array n e) => Nat.beq (n * P.cellsOf e) (P.cellsOf t) && okT P d e
    | some (.struct fs) => tilesF P 0 fs.toList (P.cellsOf t) && fs.toList.all fun f => okT P d f.type
    | _ => false
/-- What the cells of a value of a type read as. -/
def DT (P : Program) : Nat → TypeId → List D → Prop
  | 0, _, _ => False
  | d + 1, t, ds => match P.underlying t with
    | some .bool => ∃ b, ds = [.v (.bool b)]
    | some (.int k) => ∃ z, ds = [.v (.int k z)] ∧ (Lit.int k z).wf = true
    | some .string => ∃ s, ds = [.v (.string s)] ∧ s.size ≤ maxLen
    | some (.slice e) => ∃ rows, ds = [.sl (P.cellsOf e) rows] ∧ rows.length ≤ maxLen ∧ ∀ r ∈ rows, DT P d e r
    | some (.array n e) => ∃ ps : List (List D), ps.length = n ∧ ds = ps.flatten ∧ ∀ p ∈ ps, DT P d e p
    | some (.struct fs) => ∃ ps : List (List D), ds = ps.flatten ∧ All2 (fun (f : Field) p => DT P d f.type p) fs.toList ps
    | _ => False
theorem choose_list {α : Type} {Q : Nat → α → Prop} : ∀ {n : Nat}, (∀ i, i < n → ∃ a, Q i a) → ∃ L : List α, L.length = n ∧ ∀ i a, L[i]? = some a → Q i a
  | 0, _ => ⟨[], rfl, fun i a h => by simp at h⟩
  | n + 1, h => by
    obtain ⟨L, h1, h2⟩ := choose_list (n := n) (fun i hi => h i (by omega))
    obtain ⟨a, ha⟩ := h n (by omega)
    refine ⟨L ++ [a], by simp [h1], fun i b hb => ?_⟩
    rw [List.getElem?_append] at hb
    split at hb
    · exact h2 i b hb
    · rename_i hlt
      have hi : i - L.length = 0 := by
        rcases Nat.eq_zero_or_pos (i - L.length) with h | h
        · exact h
        · rw [List.getElem?_eq_none (by simp; omega)] at hb; cases hb
      rw [hi] at hb
      simp at hb
      obtain rfl : i = n := by omega
      rw [← hb]; exact ha
theorem flatten_at {α : Type} {size : Nat} (h0 : 0 < size) : ∀ {rows : List (List α)} (_ : ∀ r ∈ rows, r.length = size) {j : Nat} {d : α}, rows.flatten[j]? = some d → ∃ r, rows[j / size]? = some r ∧ r[j % size]? = some d
  | [], _, j, d, h => by simp at h
  | a :: rows, hr, j, d, h => by
    have ha := hr a (by simp)
    by_cases hj : j < size
    · rw [List.flatten_cons, List.getElem?_append_left (by omega)] at h
      rw [Nat.div_eq_of_lt hj, Nat.mod_eq_of_lt hj]
      exact ⟨a, rfl, h⟩
    · rw [List.flatten_cons, List.getElem?_append_right (by omega), ha] at h
      obtain ⟨r, h1, h2⟩ := flatten_at h0 (fun r hr' => hr r (by simp [hr'])) h
      refine ⟨r, ?_, ?_⟩
      · rw [show j / size = (j - size) / size + 1 by rw [Nat.div_eq_sub_div h0 (by omega)]]
        simpa using h1
      · rw [Nat.mod_eq_sub_mod (by omega)]; exact h2
/-- All memory of a world. -/
def Sall (w : World) : Nat → Prop := fun b => b < w.heap.size
theorem cell_lt {w : World} {a : Addr} {u : Value} (h : w.cell? a = some u) : a.block < w.heap.size ∧ a.spot = none := by
  unfold World.cell? at h
  split at h
  · rename_i c t f hc
    refine ⟨(Array.getElem?_eq_some_iff.1 hc).1, ?_⟩
    split at h
    · cases h
    · rename_i hs
      cases hsp : a.spot with
      | none => rfl
      | some k => rw [hsp] at hs; simp at hs
  · cases h
theorem cells_get {w : World} {base : Nat} {a : Addr} {n : Nat} {cs : List Value} (h : w.cells? base a n = some cs) : cs.length = n ∧ ∀ i, i < n → w.cell? (a.add i) = cs[i]? := by
  unfold World.cells? at h
  split at h
  · obtain ⟨h1, h2⟩ := mapM_isSome h
    rw [List.length_range] at h1
    refine ⟨h1.symm, fun i hi => ?_⟩
    obtain ⟨b, hb1, hb2⟩ := h2 i i (by simp [hi])
    rw [hb1, hb2]
  · cases h
section
variable {H : Type} {enc : TypeId × Value → H} {P : Program} {w : World} {base : Nat} {sp : Nat → Bool} {held : Bool}
theorem parts_all {R : D → Value → Prop} {T : Field → List D → Prop} : ∀ (fs : List Field) (o : Nat) (cs : List Value) (n : Nat), cs.length = n → tilesF P o fs n = true → o ≤ n →
    (∀ f ∈ fs, ∃ ds, T f ds ∧ All2 R ds ((cs.drop f.offset).take (P.cellsOf f.type))) → ∃ ps : List (List D), All2 T fs ps ∧ All2 R ps.flatten (cs.drop o)
  | [], o, cs, n, hl, ht, _, _ => by
    have : o = n := Nat.eq_of_beq_eq_true ht
    exact ⟨[], .nil, by rw [List.drop_of_length_le (by omega)]; exact .nil⟩
  | f :: fs, o, cs, n, hl, ht, ho, h => by
    simp only [tilesF, Bool.and_eq_true] at ht
    have ho' : f.offset = o := Nat.eq_of_beq_eq_true ht.1
    obtain ⟨ds, h1, h2⟩ := h f (by simp)
    have hle : o + P.cellsOf f.type ≤ n := by
      have key : ∀ (fs : List Field) (o : Nat), tilesF P o fs n = true → o ≤ n := fun fs => by
        induction fs with
        | nil => intro o h; exact Nat.le_of_eq (Nat.eq_of_beq_eq_true h)
        | cons g gs ih =>
          intro o h
          simp only [tilesF, Bool.and_eq_true] at h
          have := ih _ h.2
          omega
      exact key fs _ ht.2
    obtain ⟨ps, h3, h4⟩ := parts_all fs _ cs n hl ht.2 hle (fun g hg => h g (by simp [hg]))
    refine ⟨ds :: ps, .cons h1 h3, ?_⟩
    rw [List.flatten_cons, ho'] at *
    have := h2.append h4
    rwa [← List.drop_drop, List.take_append_drop] at this
theorem trod_dt : ∀ (d fuel : Nat) (t : TypeId) (cs : List Value) (x : DataW H × List MemPlace), okT P d t = true → DataW.trod enc P w base sp held fuel t cs = some x → ∃ ds, DT P d t ds ∧ All2 (Imm (Sall w) w) ds cs
  | 0, _, _, _, _, h, _ => by cases h
  | d + 1, fuel, t, cs, x, hok, h => by
    unfold okT at hok
    unfold DT
    split at hok
    · rename_i hu
      obtain ⟨b, rfl, _⟩ := DataW.trod_bool hu h
      exact ⟨_, ⟨b, rfl⟩, .cons (Imm.v rfl) .nil⟩
    · rename_i k hu
      obtain ⟨n, rfl, _, hw⟩ := DataW.trod_int hu h
      exact ⟨_, ⟨n, rfl, hw⟩, .cons (Imm.v rfl) .nil⟩
    · rename_i hu
      obtain ⟨s, rfl, _, hs⟩ := DataW.trod_string hu h
      exact ⟨_, ⟨s, rfl, hs⟩, .cons (Imm.v rfl) .nil⟩
    · rename_i e hu
      simp only [Bool.and_eq_true] at hok
      have h0 : 0 < P.cellsOf e := Nat.lt_of_succ_le (Nat.le_of_ble_eq_true hok.1)
      rcases DataW.trod_slice hu h with ⟨rfl, _⟩ | ⟨a, len, cap, elems, rest, n, _, rfl, _, _, hlc, hcm, hel, hel2, _⟩
      · exact ⟨_, ⟨[], rfl, by simp, by simp⟩, .cons Imm.nil .nil⟩
      · have hone : ∀ i, i < len → ∃ ds, DT P d e ds ∧ ∃ cs', w.cells? base (a.add (i * P.cellsOf e)) (P.cellsOf e) = some cs' ∧ All2 (Imm (Sall w) w) ds cs' := fun i hi => by
          have h1 := hel2 i hi
          rw [List.getElem?_eq_getElem (by omega)] at h1
          obtain ⟨cs', h2, h3⟩ := Option.bind_eq_some_iff.1 h1
          obtain ⟨ds, h4, h5⟩ := trod_dt d n e cs' _ hok.2 h3
          exact ⟨ds, h4, cs', h2, h5⟩
        obtain ⟨rows, hr1, hr2⟩ := choose_list hone
        have hrm : ∀ r ∈ rows, ∃ i, i < len ∧ rows[i]? = some r := fun r hr => by
          obtain ⟨i, hi⟩ := List.getElem?_of_mem hr
          exact ⟨i, by have := (List.getElem?_eq_some_iff.1 hi).1; omega, hi⟩
        have hdt : ∀ r ∈ rows, DT P d e r := fun r hr => by
          obtain ⟨i, _, hi⟩ := hrm r hr
          exact (hr2 i r hi).1
        have hrl : ∀ r ∈ rows, r.length = P.cellsOf e := fun r hr => by
          obtain ⟨i, _, hi⟩ := hrm r hr
          obtain ⟨_, cs', h2, h3⟩ := hr2 i r hi
          rw [h3.len, (cells_get h2).1]
        refine ⟨_, ⟨rows, rfl, by omega, hdt⟩, .cons ?_ .nil⟩
        by_cases hz : len = 0
        · subst hz
          obtain rfl := List.eq_nil_of_length_eq_zero hr1
          exact Imm.sl0
        · obtain ⟨r0, _, cs0, h2, _⟩ := hone 0 (by omega)
          have h3 := (cells_get h2).2 0 h0
          rw [Nat.zero_mul] at h3
          have e0 : (a.add 0).add 0 = a := rfl
          rw [e0, List.getElem?_eq_getElem (by rw [(cells_get h2).1]; exact h0)] at h3
          obtain ⟨hb, hs⟩ := cell_lt h3
          obtain ⟨g, f, spot⟩ := a
          simp only at hs hb
          subst hs
          rw [← hr1]
          have hat : ∀ j dd, rows.flatten[j]? = some dd → ∃ u, w.cell? ⟨g, f + j, none⟩ = some u ∧ Imm (Sall w) w dd u := fun j dd hj => by
            obtain ⟨r, e1, e2⟩ := flatten_at h0 hrl hj
            obtain ⟨_, cs', e3, e4⟩ := hr2 _ r e1
            obtain ⟨u, e5, e6⟩ := e4.at_left e2
            refine ⟨u, ?_, e6⟩
            have e7 := (cells_get e3).2 (j % P.cellsOf e) (Nat.mod_lt _ h0)
            rw [Addr.add_lit, Addr.add_lit, e5] at e7
            rw [← e7]
            congr 2
            rw [Nat.add_assoc, Nat.mul_comm, Nat.div_add_mod]
          refine Imm.sl (fun j => (w.cell? ⟨g, f + j, none⟩).getD undef) hb (by omega) hrl (fun j dd hj => ?_) (fun j dd hj => ?_)
          · obtain ⟨u, e1, _⟩ := hat j dd hj
            rw [e1]; rfl
          · obtain ⟨u, e1, e2⟩ := hat j dd hj
            rw [e1]; exact e2
    · rename_i n e hu
      simp only [Bool.and_eq_true] at hok
      have hn : n * P.cellsOf e = P.cellsOf t := Nat.eq_of_beq_eq_true hok.1
      obtain ⟨xs, m, _, _, hl, hx, hall⟩ := DataW.trod_array hu h
      have hone : ∀ i, i < n → ∃ ds, DT P d e ds ∧ All2 (Imm (Sall w) w) ds ((cs.drop (i * P.cellsOf e)).take (P.cellsOf e)) := fun i hi => by
        have h1 := hall i hi
        rw [List.getElem?_eq_getElem (by omega)] at h1
        exact trod_dt d m e _ _ hok.2 h1
      obtain ⟨ps, hp1, hp2⟩ := choose_list hone
      refine ⟨ps.flatten, ⟨ps, hp1, rfl, fun p hp => ?_⟩, ?_⟩
      · obtain ⟨i, hi⟩ := List.getElem?_of_mem hp
        exact (hp2 i p hi).1
      · have key : ∀ (ps : List (List D)) (o : Nat), (∀ i p, ps[i]? = some p → All2 (Imm (Sall w) w) p ((cs.drop ((o + i) * P.cellsOf e)).take (P.cellsOf e))) → (o + ps.length) * P.cellsOf e = cs.length → All2 (Imm (Sall w) w) ps.flatten (cs.drop (o * P.cellsOf e)) := fun ps => by
          induction ps with
          | nil => intro o _ hlen; rw [List.drop_of_length_le (by simp at hlen; omega)]; exact .nil
          | cons p ps ih =>
            intro o hp hlen
            have h1 := hp 0 p rfl
            have h2 := ih (o + 1) (fun i q hq => by have := hp (i + 1) q (by simpa using hq); rwa [show o + 1 + i = o + (i + 1) by omega]) (by rw [← hlen, List.length_cons]; congr 1; omega)
            rw [List.flatten_cons]
            have := h1.append h2
            rwa [Nat.add_zero, Nat.add_mul, Nat.one_mul, ← List.drop_drop, List.take_append_drop] at this
        have := key ps 0 (fun i p hi => by rw [Nat.zero_add]; exact (hp2 i p hi).2) (by rw [Nat.zero_add, hp1, hn, hl])
        simpa using this
    · rename_i fs hu
      simp only [Bool.and_eq_true] at hok
      obtain ⟨xs, m, _, _, hl, hx, hall⟩ := DataW.trod_struct hu h
      obtain ⟨ps, h1, h2⟩ := parts_all (R := Imm (Sall w) w) (T := fun f p => DT P d f.type p) fs.toList 0 cs _ hl hok.1 (Nat.zero_le _) (fun f hf => by
        obtain ⟨i, hi⟩ := List.getElem?_of_mem hf
        have hlt := (List.getElem?_eq_some_iff.1 hi).1
        have h1 := hall i f (by simpa using hi)
        rw [List.getElem?_eq_getElem (by simp at hlt; omega)] at h1
        exact trod_dt d m f.type _ _ (List.all_eq_true.1 hok.2 f hf) h1)
      exact ⟨ps.flatten, ⟨ps, rfl, h1⟩, by simpa using h2⟩
    · cases hok
/-- An argument that came in reads as data of its type. -/
theorem open_dt {d : Nat} {r : Reach} {b0 : Nat} {t : TypeId} {v : Value} {dd : DataW H} {ps : List MemPlace} (hok : okT P d t = true) (hag : (P.underlying t).map aggD = some false) (hval : Value.okWide P w r b0 t v) (hd : DataW.Trod enc P w base sp held t v dd ps) :
    ∃ x, DT P d t [x] ∧ Imm (Sall w) w x v := by
  obtain ⟨fuel, hf⟩ := hd
  obtain ⟨ds, h1, h2⟩ := trod_dt d fuel t _ _ hok hf
  have hone : v.oneCell' = true := by
    cases d with
    | zero => cases hok
    | succ d =>
      unfold okT at hok
      split at hok
      · rename_i hu; obtain ⟨b, rfl⟩ := okWide_bool hu hval; rfl
      · rename_i hu; obtain ⟨n, rfl⟩ := okWide_int hu hval; rfl
      · rename_i hu; obtain ⟨s, rfl⟩ := okWide_string hu hval; rfl
      · rename_i hu; obtain ⟨a, l, c, rfl⟩ := okWide_slice hu hval; rfl
      · rename_i hu; rw [hu] at hag; cases hag
      · rename_i hu; rw [hu] at hag; cases hag
      · cases hok
  rw [oneCell_cells hone] at h2
  have hl := h2.len
  match ds, h2, hl with
  | [x], h2, _ => exact ⟨x, h1, h2.head⟩
end
end Go.Proofs.YtgfmbkbiingagaaGreatDoor

namespace Go.Proofs.YtgfmbkbiingagaaGreatDoor
set_option linter.unusedVariables false
set_option linter.unusedSimpArgs false
open Go.ChangeShapes Go.WideShapes Go.ChangeAt Go.RowKit

inductive FlatX {H : Type} : DataW H → List Value → Prop
  | lit {l : Lit} : FlatX (.lit l) [l.value]
  | agg {ps : List (DataW H)} {vss : List (List Value)} (hl : ps.length = vss.length) (h : ∀ (i : Nat) p vs, ps[i]? = some p → vss[i]? = some vs → FlatX p vs) : FlatX (.agg ps) vss.flatten
theorem FlatX.of {H : Type} {α : Type} {f : α → DataW H} {g : α → List Value} (l : List α) (h : ∀ a ∈ l, FlatX (f a) (g a)) : FlatX (.agg (l.map f)) (l.flatMap g) := by
  rw [List.flatMap_def]
  refine .agg (by simp) (fun i p vs hp hv => ?_)
  rw [List.getElem?_map] at hp hv
  cases hi : l[i]? with
  | none => rw [hi] at hp; cases hp
  | some a =>
    rw [hi] at hp hv
    cases hp; cases hv
    exact h a (List.mem_of_getElem? hi)
section
variable {H : Type} {enc : TypeId × Value → H} {P : Program} {w : World} {base : Nat} {sp : Nat → Bool} {held : Bool}
theorem tile_eq {cs : List Value} {n : Nat} (hl : cs.length = n) : ∀ (fs : List Field) (vss : List (List Value)) (o : Nat), tilesF P o fs n = true → o ≤ n → fs.length = vss.length →
    (∀ (i : Nat) f vs, fs[i]? = some f → vss[i]? = some vs → (cs.drop f.offset).take (P.cellsOf f.type) = vs) → cs.drop o = vss.flatten
  | [], [], o, ht, _, _, _ => by
    have : o = n := Nat.eq_of_beq_eq_true ht
    rw [List.drop_of_length_le (by omega)]; rfl
  | [], _ :: _, _, _, _, h, _ => by simp at h
  | _ :: _, [], _, _, _, h, _ => by simp at h
  | f :: fs, vs :: vss, o, ht, ho, hlen, h => by
    simp only [tilesF, Bool.and_eq_true] at ht
    have ho' : f.offset = o := Nat.eq_of_beq_eq_true ht.1
    have h1 := h 0 f vs rfl rfl
    have hle : o + P.cellsOf f.type ≤ n := by
      have key : ∀ (fs : List Field) (o : Nat), tilesF P o fs n = true → o ≤ n := fun fs => by
        induction fs with
        | nil => intro o h; exact Nat.le_of_eq (Nat.eq_of_beq_eq_true h)
        | cons g gs ih =>
          intro o h
          simp only [tilesF, Bool.and_eq_true] at h
          have := ih _ h.2
          omega
      exact key fs _ ht.2
    have h2 := tile_eq hl fs vss _ ht.2 hle (by simpa using hlen) (fun i g us hg hu => h (i + 1) g us hg hu)
    rw [ho'] at h1
    rw [List.flatten_cons, ← h2, ← h1, ← List.drop_drop, List.take_append_drop]
theorem tile_arr {cs : List Value} {k : Nat} : ∀ (vss : List (List Value)) (o : Nat), (∀ (i : Nat) vs, vss[i]? = some vs → (cs.drop ((o + i) * k)).take k = vs) → (o + vss.length) * k = cs.length → cs.drop (o * k) = vss.flatten
  | [], o, _, hl => by rw [List.drop_of_length_le (by simp at hl; omega)]; rfl
  | vs :: vss, o, h, hl => by
    have h1 := h 0 vs rfl
    have h2 := tile_arr vss (o + 1) (fun i us hu => by have := h (i + 1) us (by simpa using hu); rwa [show o + 1 + i = o + (i + 1) by omega]) (by rw [← hl, List.length_cons]; congr 1; omega)
    rw [Nat.add_zero] at h1
    rw [List.flatten_cons, ← h2, ← h1, Nat.add_mul, Nat.one_mul, ← List.drop_drop, List.take_append_drop]
theorem trod_flat : ∀ (d fuel : Nat) (t : TypeId) (cs : List Value) (x : DataW H × List MemPlace) (vs : List Value), okT P d t = true → DataW.trod enc P w base sp held fuel t cs = some x → FlatX x.1 vs → cs = vs
  | 0, _, _, _, _, _, h, _, _ => by cases h
  | d + 1, fuel, t, cs, x, vs, hok, h, hf => by
    unfold okT at hok
    split at hok
    · rename_i hu
      obtain ⟨b, rfl, hx⟩ := DataW.trod_bool hu h
      rw [hx] at hf
      cases hf
      rfl
    · rename_i k hu
      obtain ⟨n, rfl, hx, hw⟩ := DataW.trod_int hu h
      rw [hx] at hf
      cases hf
      rfl
    · rename_i hu
      obtain ⟨s, rfl, hx, hs⟩ := DataW.trod_string hu h
      rw [hx] at hf
      cases hf
      simp [Lit.value]
    · rename_i e hu
      rcases DataW.trod_slice hu h with ⟨_, hx⟩ | ⟨a, len, cap, elems, rest, n, _, _, hx, _⟩
      · rw [hx] at hf; cases hf
      · rw [hx] at hf; cases hf
    · rename_i n e hu
      simp only [Bool.and_eq_true] at hok
      have hn : n * P.cellsOf e = P.cellsOf t := Nat.eq_of_beq_eq_true hok.1
      obtain ⟨xs, m, hm, hx, hl, hxx, hall⟩ := DataW.trod_array hu h
      rw [hx] at hf
      generalize hps : xs.map (·.1) = ps at hf
      cases hf with
      | @agg _ vss hlen hf =>
        subst hps
        rw [List.length_map] at hlen
        have := tile_arr (cs := cs) (k := P.cellsOf e) vss 0 (fun i vs hv => by
          rw [Nat.zero_add]
          have hi := (List.getElem?_eq_some_iff.1 hv).1
          have h1 := hall i (by omega)
          have hxi : xs[i]? = some xs[i] := List.getElem?_eq_getElem (by omega)
          rw [hxi] at h1
          exact trod_flat d m e _ _ vs hok.2 h1 (hf i _ vs (by rw [List.getElem?_map, hxi]; rfl) hv)) (by rw [Nat.zero_add, ← hlen, hxx, hn, hl])
        simpa using this
    · rename_i fs hu
      simp only [Bool.and_eq_true] at hok
      obtain ⟨xs, m, hm, hx, hl, hxx, hall⟩ := DataW.trod_struct hu h
      rw [hx] at hf
      generalize hps : xs.map (·.1) = ps at hf
      cases hf with
      | @agg _ vss hlen hf =>
        subst hps
        rw [List.length_map] at hlen
        have hxx : xs.length = fs.toList.length := by simpa using hxx
        have := tile_eq (P := P) hl fs.toList vss 0 hok.1 (Nat.zero_le _) (by omega) (fun i f vs hi hv => by
          have hlt := (List.getElem?_eq_some_iff.1 hi).1
          have h1 := hall i f (by simpa using hi)
          have hxi : xs[i]? = some xs[i] := List.getElem?_eq_getElem (by omega)
          rw [hxi] at h1
          exact trod_flat d m f.type _ _ vs (List.all_eq_true.1 hok.2 f (List.mem_of_getElem? hi)) h1 (hf i _ vs (by rw [List.getElem?_map, hxi]; rfl) hv))
        simpa using this
    · cases hok
end
end Go.Proofs.YtgfmbkbiingagaaGreatDoor

namespace Go.Proofs.YtgfmbkbiingagaaGreatDoor
set_option linter.unusedVariables false
set_option linter.unusedSimpArgs false
open Go.ChangeShapes Go.WideShapes Go.ChangeAt Go.RowKit
set_option maxRecDepth 100000

set_option maxRecDepth 100000

theorem iface_open {P : Program} {w : World} {base fuel : Nat} {sp : Nat → Bool} {held : Bool} {enc : TypeId × Value → Unit} {t : TypeId} {l : List Value} {x : DataW Unit × List MemPlace} {ms : Array (String × TypeId)} (hi : P.underlying t = some (.interface ms))
    (hd : DataW.trod enc P w base sp held fuel t l = some x) : l = [.nilIface] ∨ ∃ u v, l = [.iface u v] := by
  cases fuel with
  | zero => cases hd
  | succ f =>
    simp only [DataW.trod, hi] at hd
    split at hd <;> first | exact .inl rfl | exact .inr ⟨_, _, rfl⟩ | (cases hd; done) | (rename_i h1; cases h1; done) | (rename_i h1 h2; cases h1; done) | (rename_i h1 h2 h3; cases h1; done)
theorem errAt_of {W : World} {n : String} {g : Nat} {cs : Array Value} (hg : Tryz.prog.globalNamed n = some g) (hv : W.var? Tryz.prog n = some cs) (h : cs.toList = [.nilIface] ∨ ∃ u v, cs.toList = [.iface u v]) : ErrAt W g ∧ g < W.heap.size := by
  have hc : ∀ ev, cs.toList = [ev] → W.cell? ⟨g, 0, none⟩ = some ev := fun ev he => by
    rw [World.var?_cell hg hv 0]
    have : cs = #[ev] := by cases cs; simpa using he
    rw [this]; rfl
  refine ⟨?_, ?_⟩
  · rcases h with h | ⟨u, v, h⟩
    · exact ⟨_, hc _ h, .inl rfl⟩
    · exact ⟨_, hc _ h, .inr ⟨u, v, rfl⟩⟩
  · unfold World.var? at hv
    rw [hg] at hv
    simp only [Option.bind_some] at hv
    by_cases hl : g < W.heap.size
    · exact hl
    · rw [Array.getElem?_eq_none (by omega)] at hv; cases hv
set_option maxRecDepth 100000

theorem list_of {α : Type} {f : α → List D} {p : α → Prop} : ∀ {rows : List (List D)}, (∀ r ∈ rows, ∃ x, p x ∧ r = f x) → ∃ l : List α, rows = l.map f ∧ ∀ x ∈ l, p x
  | [], _ => ⟨[], rfl, by simp⟩
  | r :: rows, h => by
    obtain ⟨x, h1, h2⟩ := h r (by simp)
    obtain ⟨l, h3, h4⟩ := list_of (rows := rows) (f := f) (p := p) (fun q hq => h q (List.mem_cons_of_mem _ hq))
    refine ⟨x :: l, by rw [h2, h3]; rfl, fun y hy => ?_⟩
    rcases List.mem_cons.1 hy with rfl | hy
    · exact h1
    · exact h4 y hy
section
variable {P : Program} {d : Nat} {t : TypeId} {ds : List D}
theorem DT_int {k : IntKind} (hu : P.underlying t = some (.int k)) (h : DT P (d + 1) t ds) : ∃ z, ds = [.v (.int k z)] ∧ (Lit.int k z).wf = true := by
  unfold DT at h; rw [hu] at h; exact h
theorem DT_bool (hu : P.underlying t = some .bool) (h : DT P (d + 1) t ds) : ∃ b, ds = [.v (.bool b)] := by
  unfold DT at h; rw [hu] at h; exact h
theorem DT_str (hu : P.underlying t = some .string) (h : DT P (d + 1) t ds) : ∃ s, ds = [.v (.string s)] ∧ s.size ≤ maxLen := by
  unfold DT at h; rw [hu] at h; exact h
theorem DT_slice {e : TypeId} (hu : P.underlying t = some (.slice e)) (h : DT P (d + 1) t ds) : ∃ rows, ds = [.sl (P.cellsOf e) rows] ∧ rows.length ≤ maxLen ∧ ∀ r ∈ rows, DT P d e r := by
  unfold DT at h; rw [hu] at h; exact h
theorem DT_struct {fs : Array Field} (hu : P.underlying t = some (.struct fs)) (h : DT P (d + 1) t ds) : ∃ ps : List (List D), ds = ps.flatten ∧ All2 (fun (f : Field) p => DT P d f.type p) fs.toList ps := by
  unfold DT at h; rw [hu] at h; exact h
theorem DT_array {n : Nat} {e : TypeId} (hu : P.underlying t = some (.array n e)) (h : DT P (d + 1) t ds) : ∃ ps : List (List D), ps.length = n ∧ ds = ps.flatten ∧ ∀ p ∈ ps, DT P d e p := by
  unfold DT at h; rw [hu] at h; exact h
end
theorem var_lt {W : World} {n : String} {g : Nat} {cs : Array Value} (hg : Tryz.prog.globalNamed n = some g) (hv : W.var? Tryz.prog n = some cs) : g < W.heap.size := by
  unfold World.var? at hv
  rw [hg] at hv
  simp only [Option.bind_some] at hv
  by_cases hl : g < W.heap.size
  · exact hl
  · rw [Array.getElem?_eq_none (by omega)] at hv; cases hv
theorem glob_code {W : World} {laid : List (String × DataW Unit)} (hl : laid = Rows.checkTellsRow.laid) (h : laidMetH Tryz.prog laid W) (hs : W.ShapedOpen Tryz.prog) : ΓC.G (Sall W) W := by
  obtain ⟨m, hm⟩ := Tryz.laysM146.s1_3 W hs
  subst hl
  rw [MakeChecks.laidMetH_plain _ _ _ (by kernel_rfl)] at h
  obtain ⟨ps, h, -⟩ := h
  obtain ⟨g1, t1, c1, f1, p1, q1, -, -, -, -, h, -⟩ := h
  obtain ⟨g2, t2, c2, f2, p2, q2, -, -, -, -, h, -⟩ := h
  obtain ⟨g3, t3, c3, f3, p3, q3, hg3, ht3, hv3, hd3, h, -⟩ := h
  obtain ⟨g0, t0, c0, f0, p0, q0, -, -, -, -, h, -⟩ := h
  obtain ⟨g4, t4, c4, f4, p4, q4, hg4, ht4, hv4, hd4, h, -⟩ := h
  obtain ⟨g5, t5, c5, f5, p5, q5, hg5, ht5, hv5, hd5, h, -⟩ := h
  obtain ⟨g6, t6, c6, f6, p6, q6, hg6, ht6, hv6, hd6, h, -⟩ := h
  have hT : Lib.TabIs Tryz.prog W "internal/strconv.uint64pow10" .u64 Lib.pow10Tab := by
    obtain rfl := Option.some.inj ((show Tryz.prog.globalNamed "internal/strconv.uint64pow10" = some 6 by kernel_rfl).symm.trans hg3)
    obtain rfl := Option.some.inj ((show (Tryz.prog.globals[6]?).map (·.type) = some 160 by kernel_rfl).symm.trans ht3)
    unfold Lib.TabIs
    rw [hv3, ← Lib.cells_of_tab Tryz.underlying160 Tryz.underlying45 (by kernel_rfl) (by kernel_rfl) (k := .u64) (zs := Lib.pow10Tab) hd3]
  obtain rfl := Option.some.inj ((show Tryz.prog.globalNamed "strconv.ErrRange" = some 5 by kernel_rfl).symm.trans hg4)
  obtain rfl := Option.some.inj ((show Tryz.prog.globalNamed "strconv.ErrSyntax" = some 4 by kernel_rfl).symm.trans hg5)
  obtain rfl := Option.some.inj ((show Tryz.prog.globalNamed "calliper/code.shapes" = some 0 by kernel_rfl).symm.trans hg6)
  obtain rfl := Option.some.inj ((show (Tryz.prog.globals[5]?).map (·.type) = some 119 by kernel_rfl).symm.trans ht4)
  obtain rfl := Option.some.inj ((show (Tryz.prog.globals[4]?).map (·.type) = some 119 by kernel_rfl).symm.trans ht5)
  obtain rfl := Option.some.inj ((show (Tryz.prog.globals[0]?).map (·.type) = some 117 by kernel_rfl).symm.trans ht6)
  have e4 := errAt_of hg4 hv4 (iface_open Tryz.underlying119 hd4)
  have e5 := errAt_of hg5 hv5 (iface_open Tryz.underlying119 hd5)
  have hc : c6.toList = shapesV := trod_flat 6 _ _ _ _ shapesV (by kernel_rfl) hd6 (FlatX.of (f := fun r : OpR => .agg [.lit (.string r.1), .lit (.int .i64 r.2.1), .lit (.int .i64 r.2.2.1), .lit (.int .i64 r.2.2.2)]) (g := fun r : OpR => [.string (bs r.1), .int .i64 r.2.1, .int .i64 r.2.2.1, .int .i64 r.2.2.2]) opsL (fun r _ =>
    .agg (vss := [[.string (bs r.1)], [.int .i64 r.2.1], [.int .i64 r.2.2.1], [.int .i64 r.2.2.2]]) rfl (fun i p vs hp hv => by
      match i with
      | 0 => cases hp; cases hv; exact .lit
      | 1 => cases hp; cases hv; exact .lit
      | 2 => cases hp; cases hv; exact .lit
      | 3 => cases hp; cases hv; exact .lit
      | i + 4 => cases hp)))
  refine ⟨⟨⟨⟨hT, fun g hg => var_lt hg hv3⟩, e5, e4⟩, ⟨m, hm⟩, (cell_lt hm).1⟩, fun j v hj => ?_, var_lt hg6 hv6⟩
  rw [World.var?_cell hg6 hv6 j]
  rw [← hc] at hj
  rw [← Array.getElem?_toList]; exact hj
theorem dt_funcs {d : Nat} {x : D} (h : DT Tryz.prog (d + 3) 22 [x]) : ∃ fs : List FN, x = .sl 3 (fs.map fnD) ∧ fs.length ≤ 9223372036854775807 ∧ ∀ f ∈ fs, I64 f.e ∧ I64 f.s ∧ I64 f.p := by
  obtain ⟨rows, h1, h2, h3⟩ := DT_slice Tryz.underlying22 h
  obtain ⟨l, h4, h5⟩ := list_of (f := fnD) (p := fun f : FN => I64 f.e ∧ I64 f.s ∧ I64 f.p) (fun r hr => by
    obtain ⟨ps, hl, e1, hp⟩ := DT_array Tryz.underlying42 (h3 r hr)
    match ps, hl with
    | [a, b, c], _ =>
      obtain ⟨z0, rfl, w0⟩ := DT_int Tryz.underlying3 (hp a (by simp))
      obtain ⟨z1, rfl, w1⟩ := DT_int Tryz.underlying3 (hp b (by simp))
      obtain ⟨z2, rfl, w2⟩ := DT_int Tryz.underlying3 (hp c (by simp))
      exact ⟨⟨z0, z1, z2⟩, ⟨wf_i64 w0, wf_i64 w1, wf_i64 w2⟩, e1⟩)
  have e : Tryz.prog.cellsOf 42 = 3 := by kernel_rfl
  rw [e, h4] at h1
  cases h1
  rw [h4, List.length_map] at h2
  exact ⟨l, rfl, h2, h5⟩
theorem dt_instrs {d : Nat} {x : D} (h : DT Tryz.prog (d + 3) 23 [x]) : ∃ l : List IN, x = .sl 4 (l.map inD) ∧ l.length ≤ 9223372036854775807 ∧ ∀ v ∈ l, I64 v.o ∧ I64 v.a ∧ I64 v.b ∧ v.n < 18446744073709551616 := by
  obtain ⟨rows, h1, h2, h3⟩ := DT_slice Tryz.underlying23 h
  obtain ⟨l, h4, h5⟩ := list_of (f := inD) (p := fun v : IN => I64 v.o ∧ I64 v.a ∧ I64 v.b ∧ v.n < 18446744073709551616) (fun r hr => by
    obtain ⟨ps, e1, hp⟩ := DT_struct Tryz.underlying47 (h3 r hr)
    obtain ⟨p0, ps, rfl, q0, hp⟩ := hp.cons_left
    obtain ⟨p1, ps, rfl, q1, hp⟩ := hp.cons_left
    obtain ⟨p2, ps, rfl, q2, hp⟩ := hp.cons_left
    obtain ⟨p3, ps, rfl, q3, hp⟩ := hp.cons_left
    obtain rfl := hp.nil_left
    obtain ⟨z0, rfl, w0⟩ := DT_int Tryz.underlying3 q0
    obtain ⟨z1, rfl, w1⟩ := DT_int Tryz.underlying3 q1
    obtain ⟨z2, rfl, w2⟩ := DT_int Tryz.underlying3 q2
    obtain ⟨z3, rfl, w3⟩ := DT_int Tryz.underlying45 q3
    have h1 := wf_u64 w3
    obtain ⟨n, rfl⟩ := Int.eq_ofNat_of_zero_le h1.1
    exact ⟨⟨z0, z1, z2, n⟩, ⟨wf_i64 w0, wf_i64 w1, wf_i64 w2, by have := h1.2; show n < _; omega⟩, e1⟩)
  have e : Tryz.prog.cellsOf 47 = 4 := by kernel_rfl
  rw [e, h4] at h1
  cases h1
  rw [h4, List.length_map] at h2
  exact ⟨l, rfl, h2, h5⟩
end Go.Proofs.YtgfmbkbiingagaaGreatDoor

namespace Go.Proofs.YtgfmbkbiingagaaGreatDoor
set_option linter.unusedVariables false
set_option linter.unusedSimpArgs false
open Go.ChangeShapes Go.WideShapes Go.ChangeAt Go.RowKit Go.ChangeMaps
set_option maxRecDepth 100000

theorem checkTells_a (x : D) (hx : DT Tryz.prog 8 22 [x]) (y : D) (hy : DT Tryz.prog 8 23 [y]) : CallsA Tryz.prog ΓC 3 [c1 x, c1 y] (.o (c1 (db true))) := by
  obtain ⟨fs, rfl, h1, -⟩ := dt_funcs hx
  obtain ⟨l, rfl, h2, -⟩ := dt_instrs hy
  exact (checkTells_c fs l h1 h2).ofH
namespace checkTells
set_option maxRecDepth 100000 in
theorem lifted (os : Os) (started : os.Started) (H : Type) (enc : TypeId × Value → H) :
    ReturnsInHanded {} Tryz.checked os 3 .any (fun w args => (Rows.checkTellsSpec.pre enc Tryz.prog Tryz.f3 Rows.checkTellsRow.domain false w args ∧ laidMetH Tryz.prog Rows.checkTellsRow.laid w) ∧ sizedMet enc Tryz.prog Tryz.f3 (OpenSpec.ofChange Rows.checkTellsSpec) false w args) (Rows.checkTellsSpec.post enc Tryz.prog Tryz.f3 false true false false) := by
  show ReturnsInHanded {} Tryz.checked os 3 .any ((OpenSpec.ofChange Rows.checkTellsSpec).preRow enc Tryz.prog Tryz.f3 Rows.checkTellsRow.domain false Rows.checkTellsRow.laid) (((OpenSpec.ofChange Rows.checkTellsSpec).at fun _ _ _ => 0).post enc Tryz.prog Tryz.f3 false true false false)
  refine returnsInHanded_of_row (C := Tryz.checked) own started (by kernel_rfl) Tryz.func3
    (ChangeSpec.witness_shaped (enc := enc) (C := Tryz.checked) (os := os) (X := fun w _ => laidMetH Tryz.prog Rows.checkTellsRow.laid w) false (World.laidAll Tryz.prog os Rows.checkTellsRow.laid) #[.slice none 0 0, .slice none 0 0] 8 (World.laidAll_os _ _ _) (World.shaped_of_ZipB (by kernel_rfl) (by kernel_rfl)) (by kernel_rfl) (by kernel_rfl) (by kernel_rfl)
      (by rw [MakeChecks.laidMetH_plain _ _ _ (by kernel_rfl)]; exact laidMet_laidAll _ (by kernel_rfl) (by kernel_rfl))) ?_
  intro W base args ds gs before hval0 hW _ _ hsz0 hLaid hShaped _
  have hsz : (DataW.weightsEach Tryz.prog (Tryz.f3.params.toList ++ Rows.checkTellsSpec.plain.varTypes Tryz.prog) (ds ++ gs)).all (· ≤ reachBytes) = true := hsz0
  have hval : ∀ (j : Nat) t v, Tryz.f3.params[j]? = some t → args[j]? = some v → Value.okWide Tryz.prog W .any base t v := hval0
  clear hsz0 hval0
  have hW' := hW
  obtain ⟨p, q, hA0, hV, rfl, hfz, hnd⟩ := hW
  have hA : DataW.TrodAll enc Tryz.prog W 0 (fun _ => true) true Tryz.f3.params.toList args.toList ds p := hA0
  clear hA0
  rw [Tryz.params3] at hA hval hsz
  obtain ⟨v0, vs0, d0, ds0, p0, q0, hargs, rfl, rfl, h0, r0⟩ := trodAll_cons hA
  obtain ⟨v1, vs1, d1, ds1, p1, q1, rfl, rfl, rfl, h1, r1⟩ := trodAll_cons r0
  obtain ⟨rfl, rfl, rfl⟩ := trodAll_nil r1
  obtain rfl : args = #[v0, v1] := by cases args; simp_all
  obtain ⟨rfl, rfl⟩ := trodVars_none hV
  obtain ⟨funcs, funcs_, m0⟩ := open_dt (d := 8) (by kernel_rfl) (by kernel_rfl) (hval 0 22 v0 rfl rfl) h0
  obtain ⟨l, l_, m1⟩ := open_dt (d := 8) (by kernel_rfl) (by kernel_rfl) (hval 1 23 v1 rfl rfl) h1
  refine ((checkTells_a funcs funcs_ l l_).2 (Sall W) W [v0, v1] (fun _ h => h) (glob_code rfl hLaid hShaped) (.cons m0 (.cons m1 .nil))).mono fun e W' ⟨xr, _, he, hb, _, _, _, hv⟩ => ?_
  obtain rfl := V_v hv
  subst he
  exact ⟨_, rfl, law_post (ds := [_, _]) laidOut hW' rfl (by kernel_rfl) rfl Tryz.underlying4 rfl rfl rfl hb⟩

theorem proved : Rows.CheckTellsSaid :=
  OpenClaim.holds_of_wide 3 Tryz.f3 rfl rfl rfl rfl rfl rfl rfl ⟨rfl, rfl, rfl, rfl, rfl⟩ rfl rfl rfl rfl rfl (by kernel_rfl) Tryz.func3 (by kernel_rfl)
    (of_decide_eq_true (by kernel_rfl)) (by unfold Func.isWrapper; first | (rw [if_pos (by decide +kernel)]; kernel_rfl) | (rw [if_neg (by decide +kernel)]; exact ⟨rfl, rfl⟩))
    (fun os started H enc _ => lifted os started H enc)
theorem card : Rows.CheckTellsCardSaid :=
  Claim7.holds_tied_plain_at .later [] [.data, .data, .data, .data, .sentinel, .sentinel, .data, .pinned] true (true, "a147d60f1743b63fa6266b4d7e7b89e952d223e840ca73f626fd27512cd0ee7d") true proved (fun _ h => by cases h) (by kernel_rfl) (fun _ h => by cases h) checkTells_row_tie rfl ⟨rfl, rfl⟩ (by kernel_rfl) rfl
    (fun f fn hf hfn => by
      obtain rfl : f = 3 := Option.some.inj ((show Tryz.prog.funcNamed "calliper/calliperlaw15.CheckTells" = some 3 by kernel_rfl).symm.trans hf) |>.symm
      obtain rfl : fn = Tryz.f3 := (Option.some.inj (Tryz.func3.symm.trans hfn)).symm
      exact ⟨by kernel_rfl, fun j t ht => by
        rw [Tryz.params3] at ht
        have hm : t ∈ [22, 23] := by simpa using Array.mem_of_getElem? ht
        have hall : ([22, 23].all fun u => !Tryz.prog.wantsStandIn u) = true := by kernel_rfl
        exact (show Tryz.prog.wantsStandIn t = false by simpa using List.all_eq_true.1 hall t hm)⟩)
    (by kernel_rfl)
end checkTells
end Go.Proofs.YtgfmbkbiingagaaGreatDoor
