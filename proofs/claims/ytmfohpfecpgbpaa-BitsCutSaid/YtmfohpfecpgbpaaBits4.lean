/- The contract of Lay. No condition. -/
import Derived.Test.YtmfohpfecpgbpaaBits3
import Derived.Test.YtmfohpfecpgbpaaRows1
namespace Go.Proofs.Ytmfohpfecpgbpaa
open Go.RowKit
attribute [local go_sem] cellI frozenI cellOf_is frozenOf_is cellA frozenA setCellA

def layL : Int → List Int → List (Int × Int)
  | _, [] => []
  | t, x :: xs => (t - x, x) :: layL (t - x) xs
def fcells (l : List (Int × Int)) : List Value := l.flatMap fun p => [.int .i64 p.1, .int .i64 p.2]
/-- What Lay answers. -/
def LayIs (W : World) (total : Int) (xs : List Int) (v : Value) (w : World) : Prop := ∃ r, 
  (goesV total xs = false ∧ v = .tuple #[.slice none 0 0, .int .i64 2]) ∨ (goesV total xs = true ∧ v = .tuple #[r, .int .i64 0] ∧ w.ownsRow W.heap.size 30 2 r xs.length (fcells (layL total xs)))

theorem infoField : ∃ i, Try.prog.info? 30 = some i ∧ i.zero = some (.agg #[.int .i64 0, .int .i64 0]) ∧ i.size = 2 ∧ i.bytes = 16 := info_parts (by kernel_rfl)
theorem fcells_snoc (l : List (Int × Int)) (a b : Int) : fcells (l ++ [(a, b)]) = fcells l ++ [.int .i64 a, .int .i64 b] := by simp [fcells]
theorem goesL_cons {t x : Int} {xs : List Int} (h : goesL t (x :: xs) = true) : 1 ≤ x ∧ x ≤ t ∧ goesL (t - x) xs = true := by
  simp only [goesL] at h
  split at h
  · cases h
  · exact ⟨by omega, by omega, h⟩
theorem goesV_split {t : Int} {xs : List Int} (h : goesV t xs = true) : 0 ≤ t ∧ t ≤ 64 ∧ goesL t xs = true := by
  simp only [goesV, Bool.and_eq_true] at h
  rcases (total_iff t).1 h.1 with rfl | rfl | rfl | rfl | rfl <;> exact ⟨by omega, by omega, h.2⟩
theorem lay_any (total : Int) (v : Value) (xs : List Int) (w : World) (h : IntsArg .i64 w v xs) :
    Calls Try.prog 8 #[.int .i64 total, v] w (Ret (LayIs w total xs) w) := by
  cases hg : goesV total xs
  ·
    go_enter Try.func8, Try.ntmps8
    go_wp2_with (go_at_call 20; fail)
    refine (goes_any total v xs w h).mono ?_
    rintro e w1 ⟨rfl, hb1⟩
    haveI hx1 := ExtC.mk hb1
    rw [hg]
    go_wp2
    refine bodyPost_ret (v := (.tuple #[.slice none 0 0, .int .i64 2])) (by simp (maxDischargeDepth := 6) [results, Try.results8, go_sem]) rfl ⟨_, rfl, by (repeat' (first | (with_reducible exact Below.refl _ _) | (with_reducible refine Below.alloc ?_ ?_ _) | (with_reducible refine Below.setCell ?_ ?_ _) | (with_reducible refine Below.drew ?_) | (with_reducible refine below_step ?_ (by assumption) ?_) | (with_reducible exact leC) | go_size)), ?_⟩
    exact ⟨.slice none 0 0, Or.inl ⟨hg, rfl⟩⟩
  · obtain ⟨ht0, ht1, hgl⟩ := goesV_split hg
    obtain ⟨o, cap, rfl, hl1, hl2, ho, hcell⟩ := RowIs.of_ints h
    obtain ⟨i0, hi, hz0, hz1, hz2⟩ := infoField
    go_enter Try.func8, Try.ntmps8
    go_wp2_with (go_at_call 20; fail)
    refine (goes_any total _ xs w h).mono ?_
    rintro e w1 ⟨rfl, hb1⟩
    haveI hx1 := ExtC.mk hb1
    rw [hg]
    replace hg := Lib.hid hg
    replace hgl := Lib.hid hgl
    go_wp2
    go_loopw [0, 6, 15] (fun tv r i wr => ∃ (k : Nat) (T : Int) (L : List (Int × Int)), k ≤ xs.length ∧ 0 ≤ T ∧ T + k ≤ 64 ∧ tv = .int .i64 T ∧ i = .int .i64 k ∧ Hid (goesL T (xs.drop k) = true) ∧ Hid (layL total xs = L ++ layL T (xs.drop k)) ∧
      wr.ownsRow w.heap.size 30 2 r k (fcells L) ∧ Below w.heap.size w wr) (fun _ _ i _ => xs.length - (intOf i).toNat)
    case atStart => exact ⟨0, total, [], by omega, ht0, by omega, rfl, rfl, hgl, rfl, World.ownsRow_nil _ _ _ _, hb1⟩
    case round =>
      obtain ⟨k, T, L, hk, hT0, hTk, rfl, rfl, hgk, hlk, hown, hb2⟩ := hrel
      haveI hx2 := ExtC.mk hb2
      have hs2 := hb2.size
      by_cases hlt : k < xs.length
      · obtain ⟨g, f, rfl⟩ := RowIs.addr ho k hlt
        have hc := hb2.cell (Go.block_lt_of_cell (ints_cell (hcell g f rfl) k hlt)) |>.trans (ints_cell (hcell g f rfl) k hlt)
        have hdr := List.drop_eq_getElem_cons hlt
        rw [hdr] at hgk hlk
        generalize xs[k] = x at *
        obtain ⟨hx1, hx2, hgn⟩ := goesL_cons hgk.out
        replace hgn := Lib.hid hgn
        clear hcell hdr hgk
        go_wp2_with (at_builtin; refine wpList_append1 rfl _ _ 24 rfl w.heap.size 30 i0 _ 2 16 Try.underlying24 hi hz0 hz1 hz2 rfl (by decide) _ k _ rfl hown [.int .i64 (T - x), .int .i64 x] rfl rfl (by simp [Value.oneCell']) (by unfold maxLen; omega) (by omega) hs2 ?_; intro v' w3 hown3 hg3 hb3)
        go_roundw
        case rel => exact ⟨k + 1, T - x, L ++ [(T - x, x)], by omega, by omega, by omega, rfl, by go_num, hgn, hlk.out.trans (by simp [layL]), by rw [fcells_snoc]; exact hown3, hb2.trans (hb3.mono (by omega))⟩
        case measure => simp [intOf]; omega
      · obtain rfl : k = xs.length := by omega
        have hL := hlk.out
        rw [List.drop_length] at hL
        simp only [layL, List.append_nil] at hL
        replace hL := Lib.hid hL
        go_wp2

        refine bodyPost_ret (v := (.tuple #[u6, .int .i64 0])) (by simp (maxDischargeDepth := 6) [results, Try.results8, go_sem]) rfl ⟨_, rfl, by (repeat' (first | (with_reducible exact Below.refl _ _) | (with_reducible refine Below.alloc ?_ ?_ _) | (with_reducible refine Below.setCell ?_ ?_ _) | (with_reducible refine Below.drew ?_) | (with_reducible refine below_step ?_ (by assumption) ?_) | (with_reducible exact leC) | go_size)), ?_⟩
        exact ⟨u6, Or.inr ⟨hg.out, rfl, by rw [hL.out]; exact hown⟩⟩
end Go.Proofs.Ytmfohpfecpgbpaa
