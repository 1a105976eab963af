/- The walk of SumsTurn. Condition: both strings take at most 2^47 bytes. -/
import Derived.Test.YtnpikkghgflefaaTurnL
import Derived.Test.YtnpikkghgflefaaSumsA
namespace Go.Proofs.Ytnpikkghgflefaa
open Go.RowKit
attribute [local go_sem] cellI frozenI cellOf_is frozenOf_is cellA frozenA setCellA
attribute [-go_sem] run_min_int2

theorem bytes_frozen (w : World) (e : TypeId) (s : ByteArray) (j : Nat) (hj : j < s.size) : (Lib.bytesWorld w e s).frozen? ⟨w.heap.size, j, none⟩ = false := by
  have : s.size ≤ (Lib.bytesCells w e s).size := by simp [Lib.bytesCells]
  simp [World.frozen?, Lib.bytesWorld_at_new]
  omega
/-- The world behind two conversions to bytes. -/
theorem two_bytes (w : World) (S T : ByteArray) (m : Nat) (hS : S.size = m) (hT : T.size = m) : ∃ W5 W6 capA capB gA gB,
    (convert 9 33 (.string S)).run Try.prog w = .ok (.slice (some ⟨gA, 0, none⟩) m capA) W5 ∧ (convert 9 33 (.string T)).run Try.prog W5 = .ok (.slice (some ⟨gB, 0, none⟩) m capB) W6 ∧
    Below w.heap.size w W6 ∧ gA = w.heap.size ∧ gB = w.heap.size + 1 ∧ W6.heap.size = w.heap.size + 2 ∧
    (∀ j, j < m → W6.cell? ⟨gA, j, none⟩ = some (.int .u8 (S.data.toList.getD j 0).toNat)) ∧ (∀ j, j < m → W6.cell? ⟨gB, j, none⟩ = some (.int .u8 (T.data.toList.getD j 0).toNat)) ∧
    (∀ j, j < m → W6.frozen? ⟨gA, j, none⟩ = false) ∧ (∀ j, j < m → W6.frozen? ⟨gB, j, none⟩ = false) ∧ (∃ C f, W6.heap[gA]? = some (.cells C 5 f)) ∧ (∃ C f, W6.heap[gB]? = some (.cells C 5 f)) := by
  have hcv := fun w s => Lib.run_convert_string_bytes (P := Try.prog) w 9 33 5 s Try.underlying9 Try.underlying33 Try.underlying5
  have h1 := hcv w S
  have h2 := hcv (Lib.bytesWorld w 5 S) T
  have hz1 := Lib.bytesWorld_size w 5 S
  have hz2 := Lib.bytesWorld_size (Lib.bytesWorld w 5 S) 5 T
  have b1 := below_bytes w 5 S
  have b2 := below_bytes (Lib.bytesWorld w 5 S) 5 T
  have c1 := fun j hj => Lib.bytesWorld_cell w 5 S j hj
  have c2 := fun j hj => Lib.bytesWorld_cell (Lib.bytesWorld w 5 S) 5 T j hj
  have f1 := fun j hj => bytes_frozen w 5 S j hj
  have f2 := fun j hj => bytes_frozen (Lib.bytesWorld w 5 S) 5 T j hj
  rw [hz1] at h2 hz2 c2 f2
  rw [hS] at h1 c1 f1
  rw [hT] at h2 c2 f2
  exact ⟨_, _, _, _, _, _, h1, h2, b1.trans (b2.mono b1.size), rfl, rfl, hz2, fun j hj => (b2.cell (p := ⟨w.heap.size, j, none⟩) (by rw [hz1]; exact Nat.lt_succ_self _)).trans (c1 j hj), c2, fun j hj => (b2.frozen (p := ⟨w.heap.size, j, none⟩) (by rw [hz1]; exact Nat.lt_succ_self _)).trans (f1 j hj), f2, ⟨_, _, (b2.block w.heap.size (by rw [hz1]; exact Nat.lt_succ_self _)).trans (Lib.bytesWorld_at_new w 5 S)⟩, ⟨_, _, by have := Lib.bytesWorld_at_new (Lib.bytesWorld w 5 S) 5 T; rw [hz1] at this; exact this⟩⟩

theorem set_row (w : World) (g i : Nat) (C : Array Value) (e : TypeId) (f : Nat × Nat) (v : Value) (h : w.heap[g]? = some (.cells C e f)) : (w.setCell ⟨g, i, none⟩ v).heap[g]? = some (.cells (C.setIfInBounds i v) e f) := by
  rw [setCell_eq_setRow w g i C e f v h]
  exact setRow_heap w g C _ e f h
theorem turn_string (w : World) (g m i cap x : Nat) (C : Array Value) (f : Nat × Nat) (S : ByteArray) (hS : S.size = m) (hi : i < m) (hx : x < 256)
    (hc : ∀ j, j < m → C[j]? = some (.int .u8 (S.data.toList.getD j 0).toNat)) (h : w.heap[g]? = some (.cells (C.setIfInBounds i (.int .u8 (((S.data.toList.getD i 0).toNat ^^^ x : Nat) : Int))) 5 f)) :
    (convert 33 9 (.slice (some ⟨g, 0, none⟩) m cap)).run Try.prog w = .ok (.string ⟨(turnAt S.data.toList i x).toArray⟩) w := by
  have hl : (turnAt S.data.toList i x).length = m := by simp [turnAt, hS]
  have hlt : (S.data.toList.getD i 0).toNat ^^^ x < 2 ^ 8 := Nat.xor_lt_two_pow (S.data.toList.getD i 0).toNat_lt hx
  have key := run_convert_bytes_back (P := Try.prog) w 33 9 5 ⟨g, 0, none⟩ cap (turnAt S.data.toList i x) Try.underlying33 Try.underlying5 Try.underlying9 (fun j hj => by
    have hjm : j < m := by omega
    have hadd : (⟨g, 0, none⟩ : Addr).add j = ⟨g, j, none⟩ := by unfold Addr.add; split <;> simp_all
    rw [hadd, Go.cell_of_row w g j _ _ _ h]
    have hCs : j < C.size := by
      have := hc j hjm
      exact (Array.getElem?_eq_some_iff.1 this).1
    rw [Array.getElem?_setIfInBounds]
    by_cases he : i = j
    · subst he
      rw [if_pos rfl, if_pos hCs]
      simp only [turnAt, List.getElem_set_self]
      exact congrArg (fun z : Nat => some (Value.int .u8 (z : Int))) (UInt8.toNat_ofNat_of_lt hlt).symm
    · rw [if_neg he, hc j hjm]
      have hjs : j < S.data.toList.length := by simp; omega
      simp only [turnAt]
      rw [List.getElem_set_ne he]
      rw [show S.data.toList.getD j 0 = S.data.toList[j] from by rw [List.getD, List.getElem?_eq_getElem hjs]; rfl])
  rw [hl] at key
  exact key

set_option maxRecDepth 100000 in
theorem turnW_any (s t : ByteArray) (x0 x1 : Nat) (w : World) (hs : s.size ≤ 140737488355328) (ht : t.size ≤ 140737488355328) (h0 : x0 < 256) (h1 : x1 < 256) :
    Calls Try.prog 5 #[.string s, .string t, .agg #[.int .u8 x0, .int .u8 x1]] w fun e w' => e = .returned (.bool true) ∧ Below w.heap.size w w' := by
  obtain ⟨m1, l1, l2, hm1⟩ : ∃ m1 : Nat, m1 ≤ s.size ∧ m1 ≤ 100 ∧ ∀ (w : World) (ts : Array TypeId) (t : TypeId), (Builtin.min_ ts t #[.int .i64 s.size, .int .i64 100]).run Try.prog w = .ok (.int .i64 m1) w := ⟨min s.size 100, by omega, by omega, fun w ts t => by rw [run_min_int2]; congr 2; split <;> omega⟩
  obtain ⟨m2, l3, l4, hm2⟩ : ∃ m2 : Nat, m2 ≤ t.size ∧ m2 ≤ 100 ∧ ∀ (w : World) (ts : Array TypeId) (ty : TypeId), (Builtin.min_ ts ty #[.int .i64 t.size, .int .i64 100]).run Try.prog w = .ok (.int .i64 m2) w := ⟨min t.size 100, by omega, by omega, fun w ts t => by rw [run_min_int2]; congr 2; split <;> omega⟩
  go_enter Try.func5, Try.ntmps5
  go_wp2
  refine steady_region (by kernel_rfl) (by kernel_rfl) ?_
  repeat (first | go_big_quiet_skip | (go_big_quiet_want; go_big_quiet_op; first | go_big_quiet_on | (apply Exists.intro; refine ⟨fun _ => ?_, ?_⟩; (focus ((fail))); go_big_quiet_on)))
  refine wpQuiet_nil ?_
  rintro w1 ⟨⟨_, hb1⟩, rfl⟩
  haveI hx1 := ExtC.mk hb1
  try dsimp only
  go_wp2
  have e1 : (s.extract 0 m1).size = m1 := by rw [ByteArray.size_extract]; omega
  have e2 : (t.extract 0 m2).size = m2 := by rw [ByteArray.size_extract]; omega
  generalize s.extract 0 m1 = S1 at *
  generalize t.extract 0 m2 = T1 at *
  obtain ⟨m3, l5, l6, hm3⟩ : ∃ m3 : Nat, m3 ≤ S1.size ∧ m3 ≤ T1.size ∧ ∀ (w : World) (ts : Array TypeId) (ty : TypeId), (Builtin.min_ ts ty #[.int .i64 m1, .int .i64 m2]).run Try.prog w = .ok (.int .i64 m3) w := ⟨min m1 m2, by omega, by omega, fun w ts t => by rw [run_min_int2]; congr 2; split <;> omega⟩
  refine steady_region (by kernel_rfl) (by kernel_rfl) ?_
  repeat (first | go_big_quiet_skip | (go_big_quiet_want; go_big_quiet_op; first | go_big_quiet_on | (apply Exists.intro; refine ⟨fun _ => ?_, ?_⟩; (focus ((fail))); go_big_quiet_on)))
  refine wpQuiet_nil ?_
  rintro w2 ⟨⟨_, hb2⟩, rfl⟩
  haveI hx2 := ExtC.mk hb2
  try dsimp only
  go_wp2_with (go_at_call 11; fail)
  have e3 : (S1.extract 0 m3).size = m3 := by rw [ByteArray.size_extract]; omega
  have e4 : (T1.extract 0 m3).size = m3 := by rw [ByteArray.size_extract]; omega
  generalize S1.extract 0 m3 = S at *
  generalize T1.extract 0 m3 = T at *
  refine (wakes_any w2).mono ?_
  rintro e w3 ⟨rfl, hb3⟩
  haveI hx3 := ExtC.mk hb3
  have l7 : m3 ≤ 100 := by omega
  clear hm1 hm2 hm3
  by_cases hz : m3 = 0
  · go_wp2_with ((go_at_call 11; (first | (with_reducible refine (wakes_any _).mono ?_)); rintro e w9 ⟨rfl, hb9⟩; haveI hx9 := ExtC.mk hb9))
    exact bodyPost_ret (v := (.bool true)) (by simp (maxDischargeDepth := 6) [results, Try.results5, go_sem]) rfl ⟨rfl, by (repeat' (first | (with_reducible exact Below.refl _ _) | (with_reducible refine Below.alloc ?_ ?_ _) | (with_reducible refine Below.setCell ?_ ?_ _) | (with_reducible refine Below.drew ?_) | (with_reducible refine below_step ?_ (by assumption) ?_) | (with_reducible exact leC) | go_size))⟩
  by_cases hz1 : x1 = 0
  · go_wp2_with ((go_at_call 11; (first | (with_reducible refine (wakes_any _).mono ?_)); rintro e w9 ⟨rfl, hb9⟩; haveI hx9 := ExtC.mk hb9))
    exact bodyPost_ret (v := (.bool true)) (by simp (maxDischargeDepth := 6) [results, Try.results5, go_sem]) rfl ⟨rfl, by (repeat' (first | (with_reducible exact Below.refl _ _) | (with_reducible refine Below.alloc ?_ ?_ _) | (with_reducible refine Below.setCell ?_ ?_ _) | (with_reducible refine Below.drew ?_) | (with_reducible refine below_step ?_ (by assumption) ?_) | (with_reducible exact leC) | go_size))⟩
  have hd0 : ((m3 : Int) == 0) = false := by simpa using hz
  have hd1 : ((x1 : Int) == 0) = false := by simpa using hz1
  have hX : w3.cell? ⟨w.heap.size, 1, none⟩ = some (.int .u8 x1) := by
    rw [hb3.cell (p := ⟨w.heap.size, 1, none⟩) (LtC.h), hb2.cell (p := ⟨w.heap.size, 1, none⟩) (LtC.h), hb1.cell (p := ⟨w.heap.size, 1, none⟩) (LtC.h)]
    simp
  obtain ⟨W5, W6, capA, capB, gA, gB, hcvA, hcvB, hb6, hgA, hgB, hz6, hcA, hcB, hfA, hfB, ⟨CA, fA, hRA⟩, ⟨CB, fB, hRB⟩⟩ := two_bytes w3 S T m3 e3 e4
  have hX6 := (hb6.cell (p := ⟨w.heap.size, 1, none⟩) (LtC.h)).trans hX
  haveI : LtC gA W6.heap.size := ⟨by omega⟩
  haveI : LtC gB W6.heap.size := ⟨by omega⟩
  haveI : LtC w.heap.size W6.heap.size := ⟨by have : w.heap.size < w3.heap.size := LtC.h; omega⟩
  obtain ⟨i, hix, hi⟩ : ∃ i : Nat, (x0 : Int) % (m3 : Int) = (i : Int) ∧ i < m3 := ⟨x0 % m3, by omega, Nat.mod_lt _ (by omega)⟩
  obtain ⟨a, ha, hal, hA⟩ : ∃ a : Nat, Hid (a = (S.data.toList.getD i 0).toNat) ∧ a < 2 ^ 8 ∧ W6.cell? ⟨gA, i, none⟩ = some (.int .u8 a) := ⟨_, rfl, (S.data.toList.getD i 0).toNat_lt, hcA i hi⟩
  obtain ⟨b, hb, hbl, hB⟩ : ∃ b : Nat, Hid (b = (T.data.toList.getD i 0).toNat) ∧ b < 2 ^ 8 ∧ W6.cell? ⟨gB, i, none⟩ = some (.int .u8 b) := ⟨_, rfl, (T.data.toList.getD i 0).toNat_lt, hcB i hi⟩
  obtain ⟨va, hva, hxa⟩ : ∃ va : Nat, Hid (va = a ^^^ x1) ∧ bits .xor .u8 (a : Int) (x1 : Int) = (va : Int) := ⟨_, rfl, u8_xor a x1 hal h1⟩
  obtain ⟨vb, hvb, hxb⟩ : ∃ vb : Nat, Hid (vb = b ^^^ x1) ∧ bits .xor .u8 (b : Int) (x1 : Int) = (vb : Int) := ⟨_, rfl, u8_xor b x1 hbl h1⟩
  have hfA1 := hfA i hi
  have hfB1 := hfB i hi
  replace hcA := Lib.hid hcA
  replace hcB := Lib.hid hcB
  replace hfA := Lib.hid hfA
  replace hfB := Lib.hid hfB
  replace hgA := Lib.hid hgA
  replace hgB := Lib.hid hgB
  replace hz6 := Lib.hid hz6
  go_wp2
  refine steady_tail 8 (by kernel_rfl) (by kernel_rfl) ?_
  simp only [List.take_succ_cons, List.take_zero, List.drop_succ_cons, List.drop_zero]
  repeat (first | go_big_quiet_skip | (go_big_quiet_want; go_big_quiet_op; first | go_big_quiet_on | (apply Exists.intro; refine ⟨fun _ => ?_, ?_⟩; (focus ((fail))); go_big_quiet_on)))
  refine wpQuiet_nil ?_
  rintro w4 ⟨⟨_, hb4⟩, rfl⟩
  haveI hx4 := ExtC.mk hb4
  try dsimp only
  go_wp2
  have hne : gA ≠ gB := by have := hgA.out; have := hgB.out; omega
  have hlX : w.heap.size < gA := by rw [hgA.out]; exact LtC.h
  have lA : gA < W6.heap.size := LtC.h
  have lB : gB < W6.heap.size := LtC.h
  have hR4 := (hb4.block gA lA).trans hRA
  have hR7 := set_row w4 gA i _ _ _ (.int .u8 va) hR4
  have hRB7 := ((Go.heap_setCell_other w4 ⟨gA, i, none⟩ gB (.int .u8 va) (Ne.symm hne)).trans (hb4.block gB lB)).trans hRB
  have hX7 : (w4.setCell ⟨gA, i, none⟩ (.int .u8 va)).cell? ⟨w.heap.size, 1, none⟩ = some (.int .u8 x1) := by
    rw [World.cell?_of_block (w := w4) (a := ⟨w.heap.size, 1, none⟩) (Go.heap_setCell_other w4 ⟨gA, i, none⟩ w.heap.size (.int .u8 va) (by show w.heap.size ≠ gA; omega)), hb4.cell (p := ⟨w.heap.size, 1, none⟩) (by show w.heap.size < _; omega)]
    exact hX6
  have hB7 : (w4.setCell ⟨gA, i, none⟩ (.int .u8 va)).cell? ⟨gB, i, none⟩ = some (.int .u8 b) := by
    rw [World.cell?_of_block (w := w4) (a := ⟨gB, i, none⟩) (Go.heap_setCell_other w4 ⟨gA, i, none⟩ gB (.int .u8 va) (Ne.symm hne)), hb4.cell (p := ⟨gB, i, none⟩) lB]
    exact hB
  have hF7 : (w4.setCell ⟨gA, i, none⟩ (.int .u8 va)).frozen? ⟨gB, i, none⟩ = false := by
    rw [World.frozen?_of_block (w := W6) (a := ⟨gB, i, none⟩) ((Go.heap_setCell_other w4 ⟨gA, i, none⟩ gB (.int .u8 va) (Ne.symm hne)).trans (hb4.block gB lB))]
    exact hfB1
  have hb7 : Below w3.heap.size w3 (w4.setCell ⟨gA, i, none⟩ (.int .u8 va)) := Below.setCell (hb6.trans (hb4.mono hb6.size)) (by show w3.heap.size ≤ gA; rw [hgA.out]; exact Nat.le_refl _) _
  have hs7 : W6.heap.size ≤ (w4.setCell ⟨gA, i, none⟩ (.int .u8 va)).heap.size := by simp only [World.setCell, Array.size_modify]; exact hb4.size
  clear hA hB hfA1 hfB1 hX6 hx4 hb4 hR4
  generalize w4.setCell ⟨gA, i, none⟩ (.int .u8 va) = W7 at *
  haveI : LtC gB W7.heap.size := ⟨Nat.lt_of_lt_of_le lB hs7⟩
  haveI : LtC w.heap.size W7.heap.size := ⟨by omega⟩
  refine steady_tail 8 (by kernel_rfl) (by kernel_rfl) ?_
  simp only [List.take_succ_cons, List.take_zero, List.drop_succ_cons, List.drop_zero]
  repeat (first | go_big_quiet_skip | (go_big_quiet_want; go_big_quiet_op; first | go_big_quiet_on | (apply Exists.intro; refine ⟨fun _ => ?_, ?_⟩; (focus ((fail))); go_big_quiet_on)))
  refine wpQuiet_nil ?_
  rintro w8 ⟨⟨_, hb8⟩, rfl⟩
  haveI hx8 := ExtC.mk hb8
  try dsimp only
  go_wp2
  have hRA9 := ((Go.heap_setCell_other w8 ⟨gB, i, none⟩ gA (.int .u8 vb) hne).trans (hb8.block gA (Nat.lt_of_lt_of_le lA hs7))).trans hR7
  have hRB9 := set_row w8 gB i _ _ _ (.int .u8 vb) ((hb8.block gB (Nat.lt_of_lt_of_le lB hs7)).trans hRB7)
  have hb9 : Below w3.heap.size w3 (w8.setCell ⟨gB, i, none⟩ (.int .u8 vb)) := Below.setCell (hb7.trans (hb8.mono hb7.size)) (by show w3.heap.size ≤ gB; rw [hgB.out]; omega) _
  have hs9 : W7.heap.size ≤ (w8.setCell ⟨gB, i, none⟩ (.int .u8 vb)).heap.size := by simp only [World.setCell, Array.size_modify]; exact hb8.size
  generalize w8.setCell ⟨gB, i, none⟩ (.int .u8 vb) = W9 at *
  have lA9 : gA < W9.heap.size := by omega
  have lB9 : gB < W9.heap.size := by omega
  have hCA : ∀ j, j < m3 → CA[j]? = some (.int .u8 (S.data.toList.getD j 0).toNat) := fun j hj => (Go.cell_of_row W6 gA j _ _ _ hRA).symm.trans (hcA.out j hj)
  have hCB : ∀ j, j < m3 → CB[j]? = some (.int .u8 (T.data.toList.getD j 0).toNat) := fun j hj => (Go.cell_of_row W6 gB j _ _ _ hRB).symm.trans (hcB.out j hj)
  obtain ⟨d, cS, cA, cT, cB, SA, TB, kS, kT, kA, kB, hdne, hxS, hxT, hstrA, hstrB⟩ : ∃ (d cS cA cT cB : Nat) (SA TB : ByteArray),
      (∀ w, Calls Try.prog 12 #[.string S] w fun e w' => e = .returned (.int .u32 cS) ∧ Below w.heap.size w w') ∧
      (∀ w, Calls Try.prog 12 #[.string T] w fun e w' => e = .returned (.int .u32 cT) ∧ Below w.heap.size w w') ∧
      (∀ w, Calls Try.prog 12 #[.string SA] w fun e w' => e = .returned (.int .u32 cA) ∧ Below w.heap.size w w') ∧
      (∀ w, Calls Try.prog 12 #[.string TB] w fun e w' => e = .returned (.int .u32 cB) ∧ Below w.heap.size w w') ∧
      d ≠ 0 ∧ bits .xor .u32 (cS : Int) (cA : Int) = (d : Int) ∧ bits .xor .u32 (cT : Int) (cB : Int) = (d : Int) ∧
      (∀ w' [ExtC W9 w'], (convert 33 9 (.slice (some ⟨gA, 0, none⟩) m3 capA)).run Try.prog w' = .ok (.string SA) w') ∧
      (∀ w' [ExtC W9 w'], (convert 33 9 (.slice (some ⟨gB, 0, none⟩) m3 capB)).run Try.prog w' = .ok (.string TB) w') := by
    have hlS : S.data.toList.length = m3 := by simpa using e3
    have hlT : T.data.toList.length = m3 := by simpa using e4
    have hzl : ∀ l : List UInt8, l.length = m3 → (ByteArray.mk (turnAt l i x1).toArray).size ≤ 281474976710656 := fun l hl => by
      show (turnAt l i x1).toArray.size ≤ _
      simp only [turnAt, List.size_toArray, List.length_set]
      omega
    refine ⟨turned (m3 - (i + 1)) x1, _, _, _, _, _, _, fun w => crc_any S w (by omega), fun w => crc_any T w (by omega), fun w => crc_any ⟨(turnAt S.data.toList i x1).toArray⟩ w (hzl _ hlS), fun w => crc_any ⟨(turnAt T.data.toList i x1).toArray⟩ w (hzl _ hlT), turned_ne _ _ h1 hz1, ?_, ?_, ?_, ?_⟩
    · rw [u32_xor _ _ (crc32_lt _) (crc32_lt _), crc_turnAt _ _ _ (by omega) h1, hlS]
    · rw [u32_xor _ _ (crc32_lt _) (crc32_lt _), crc_turnAt _ _ _ (by omega) h1, hlT]
    · intro w' hx
      refine turn_string w' gA m3 i capA x1 CA fA S e3 hi h1 hCA ((hx.b.block gA lA9).trans ?_)
      rw [hRA9, hva.out, ha.out]
    · intro w' hx
      refine turn_string w' gB m3 i capB x1 CB fB T e4 hi h1 hCB ((hx.b.block gB lB9).trans ?_)
      rw [hRB9, hvb.out, hb.out]
  have hde : ((d : Int) == 0) = false := by simpa using hdne
  have hde2 : ((d : Int) != 0) = true := by simpa using hdne
  have hde3 : (!((d : Int) == 0)) = true := by simpa using hdne
  have hde4 : decide ((d : Int) = 0) = false := decide_eq_false (by omega)
  clear hRA9 hRB9 hCA hCB hR7 hRB7 hRA hRB
  haveI : LtC w.heap.size W9.heap.size := ⟨by omega⟩
  haveI : LeC w.heap.size W9.heap.size := ⟨by omega⟩
  have hb10 : Below w.heap.size w W9 := by (repeat' (first | (with_reducible exact Below.refl _ _) | (with_reducible refine Below.alloc ?_ ?_ _) | (with_reducible refine Below.setCell ?_ ?_ _) | (with_reducible refine Below.drew ?_) | (with_reducible refine below_step ?_ (by assumption) ?_) | (with_reducible exact leC) | go_size))
  refine steady_region (by kernel_rfl) (by kernel_rfl) ?_
  repeat (first | go_big_quiet_skip | (go_big_quiet_want; go_big_quiet_op; first | go_big_quiet_on | (apply Exists.intro; refine ⟨fun _ => ?_, ?_⟩; (focus ((go_at_call 12; (first | with_reducible exact Calls.steady (kS _) | with_reducible exact Calls.steady (kA _))))); go_big_quiet_on)))
  refine wpQuiet_nil ?_
  rintro w12 ⟨⟨_, hb12⟩, rfl⟩
  haveI hx12 := ExtC.mk hb12
  try dsimp only
  replace hstrB : ∀ w' [ExtC w12 w'], (convert 33 9 (.slice (some ⟨gB, 0, none⟩) m3 capB)).run Try.prog w' = .ok (.string TB) w' := fun w' hx => @hstrB w' ⟨hb12.trans (hx.b.mono hb12.size)⟩
  go_wp2
  refine steady_region (by kernel_rfl) (by kernel_rfl) ?_
  repeat (first | go_big_quiet_skip | (go_big_quiet_want; go_big_quiet_op; first | go_big_quiet_on | (apply Exists.intro; refine ⟨fun _ => ?_, ?_⟩; (focus ((go_at_call 12; (first | with_reducible exact Calls.steady (kT _) | with_reducible exact Calls.steady (kB _))))); go_big_quiet_on)))
  refine wpQuiet_nil ?_
  rintro w13 ⟨⟨_, hb13⟩, rfl⟩
  haveI hx13 := ExtC.mk hb13
  try dsimp only
  go_wp2
  exact bodyPost_ret (v := (.bool true)) (by simp (maxDischargeDepth := 6) [results, Try.results5, go_sem]) rfl ⟨rfl, by (repeat' (first | (with_reducible exact Below.refl _ _) | (with_reducible refine Below.alloc ?_ ?_ _) | (with_reducible refine Below.setCell ?_ ?_ _) | (with_reducible refine Below.drew ?_) | (with_reducible refine below_step ?_ (by assumption) ?_) | (with_reducible exact leC) | go_size))⟩
end Go.Proofs.Ytnpikkghgflefaa
