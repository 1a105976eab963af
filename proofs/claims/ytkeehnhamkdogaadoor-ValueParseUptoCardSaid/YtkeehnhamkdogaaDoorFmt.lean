/- strconv.FormatUint at base 10 (the shelf's FormatInt turned), strings.IndexByte, strconv.ParseUint as contracts over data; what is known of the program's variables. Conditions: FormatUint: a uint64; ParseUint: at most 2^48 bytes. -/
import Derived.Test.YtkeehnhamkdogaaDoorShelf
import Derived.Test.YtkeehnhamkdogaaDoorE15
import Derived.Lib.AppendIntMem
namespace Go.Proofs.YtkeehnhamkdogaaDoor
set_option linter.unusedVariables false
set_option linter.unusedSimpArgs false
open Go.RowKit Go.Sort Go.Lib
set_option maxRecDepth 100000

set_option maxHeartbeats 6400000 in
theorem ifmt (n : Nat) (h1 : n < 18446744073709551616) (w : World) (htab : Lib.TabIs Tryd.prog w "internal/strconv.uint64pow10" .u64 Lib.pow10Tab) :
    Calls Tryd.prog 69 #[.int .u64 n, .int .i64 10] w fun e w' => e = .returned (.string ⟨(Lib.decDigits n).toArray⟩) ∧ Below w.heap.size w w' := by
  by_cases hs : n < 100
  · have hw : IntKind.i64.wrap (n : Int) = n := by rw [IntKind.wrap_i64]; omega
    go_enter Tryd.func69, Tryd.ntmps69
    go_wp2_with (go_at_call 81; refine (Tryd.internal_strconv_small n hs _).mono ?_; rintro e w' ⟨rfl, rfl⟩)
    go_ret
    exact ⟨rfl, Below.refl _ _⟩
  · have hu1 : 1 ≤ n := by omega
    have hnd20 : Lib.nDigits n ≤ 20 := by have := Lib.numDigits_eq n hu1 h1; split at this <;> omega
    have hb3 : Lib.nDigits n ≤ 24 := by omega
    have hal : Tryd.prog.arrayLen 120 = 24 := by kernel_rfl
    have hsl1 : ∀ W, (Instr.sliceAt 120 (.pointer (some ⟨w.heap.size, 0, none⟩)) none (some (.int .i64 (Lib.nDigits n : Int))) none).run Tryd.prog W = .ok (.slice (some ⟨w.heap.size, 0, none⟩) (Lib.nDigits n) 24) W := fun W => by
      rw [run_sliceAt_array_h W 120 ⟨w.heap.size, 0, none⟩ (by kernel_rfl) .i64 (Lib.nDigits n : Int) (by omega) (by rw [hal]; omega)]
      go_simp
    have hH0 : Holds (fun (b : UInt8) => Value.int .u8 (b.toNat : Int)) (w.alloc (.cells Lib.zeros24 120)) w.heap.size 0 (Array.replicate (Lib.nDigits n) 0) := fun j hj => by
      have hj' : j < Lib.nDigits n := by simpa using hj
      refine ⟨?_, World.frozen?_alloc_new _ _ _ _⟩
      rw [World.cell?_alloc_new, Lib.zeros24_at _ (by omega), getElem!_pos _ j hj]
      simp
    have hfmt := Tryd.internal_strconv_formatBase10 w.heap.size 0 24 n (Array.replicate (Lib.nDigits n) 0) (w.alloc (.cells Lib.zeros24 120)) hH0 (by rw [Array.size_replicate]; exact Lib.lt_pow_nDigits n) h1 (by rw [Array.size_replicate]; omega)
    rw [Array.size_replicate] at hfmt
    have HH0 := Lib.hid hH0
    clear hH0 hal
    go_enter Tryd.func69, Tryd.ntmps69
    go_wp2_with (first
      | (go_at_call 82; refine (Tryd.internal_strconv_numDigits n hu1 h1 _ (Lib.tabIs_alloc htab _)).mono ?_; rintro e w' ⟨rfl, rfl⟩))
    go_at_call 83
    refine hfmt.mono ?_
    rintro e w' ⟨rfl, k, v', dk, rfl, hF⟩
    have hcv : (convert 63 9 (.slice (some ⟨w.heap.size, 0, none⟩) (Lib.nDigits n) 24)).run Tryd.prog ((putRow (fun (b : UInt8) => Value.int .u8 (b.toNat : Int)) (w.alloc (.cells Lib.zeros24 120)) w.heap.size 0 dk).drewN k) = .ok (.string ⟨(Lib.decDigits n).toArray⟩) ((putRow (fun (b : UInt8) => Value.int .u8 (b.toNat : Int)) (w.alloc (.cells Lib.zeros24 120)) w.heap.size 0 dk).drewN k) := by
      have h := run_convert_bytes_back (P := Tryd.prog) ((putRow (fun (b : UInt8) => Value.int .u8 (b.toNat : Int)) (w.alloc (.cells Lib.zeros24 120)) w.heap.size 0 dk).drewN k) 63 9 5 ⟨w.heap.size, 0, none⟩ 24 (Lib.decDigits n) (by kernel_rfl) (by kernel_rfl) (by kernel_rfl) (fun j hj => by
        rw [Lib.row_is_numeral hF j hj, Lib.add_plain, World.cell?_drewN]
        exact cell?_putRow (fun (b : UInt8) => Value.int .u8 (b.toNat : Int)) _ w.heap.size 0 _ dk HH0.out (by rw [hF.size, Array.size_replicate]) j (by rw [hF.size]; rw [Lib.decDigits_length] at hj; exact hj))
      rw [Lib.decDigits_length] at h
      exact h
    go_wp2
    go_ret
    obtain ⟨os, eo⟩ := Lib.fin_at w (.cells Lib.zeros24 120) dk k 0
    rw [eo]
    exact ⟨rfl, Lib.below_grow _ _ (Nat.le_refl _) _ _⟩
theorem fmt (n : Nat) (h1 : n < 18446744073709551616) (w : World) (htab : Lib.TabIs Tryd.prog w "internal/strconv.uint64pow10" .u64 Lib.pow10Tab) :
    Calls Tryd.prog 49 #[.int .u64 n, .int .i64 10] w fun e w' => e = .returned (.string ⟨(Lib.decDigits n).toArray⟩) ∧ Below w.heap.size w w' := by
  go_enter Tryd.func49, Tryd.ntmps49
  go_wp2_with (go_at_call 69; refine (ifmt n h1 _ htab).mono ?_; rintro e w' ⟨rfl, hb⟩)
  go_ret
  exact ⟨rfl, hb⟩
/-- What is known of the program's variables: the powers of ten, and the errors of strconv. -/
def ErrAt (w : World) (b : Nat) : Prop := ∃ ev, w.cell? ⟨b, 0, none⟩ = some ev ∧ (ev = .nilIface ∨ ∃ te pe, ev = .iface te pe)
def ΓS : Glob := ⟨fun S w => (Lib.TabIs Tryd.prog w "internal/strconv.uint64pow10" .u64 Lib.pow10Tab ∧ ∀ g, Tryd.prog.globalNamed "internal/strconv.uint64pow10" = some g → S g) ∧ (ErrAt w 4 ∧ S 4) ∧ ErrAt w 5 ∧ S 5,
  fun {S S' w w'} hw hS ⟨⟨h1, h2⟩, ⟨h3, h4⟩, h5, h6⟩ => ⟨⟨by
    unfold Lib.TabIs World.var? at h1 ⊢
    cases hg : Tryd.prog.globalNamed "internal/strconv.uint64pow10" with
    | none => rw [hg] at h1; cases h1
    | some g =>
      rw [hg] at h1
      simp only [Option.bind_some] at h1 ⊢
      rw [hw g (h2 g hg)]
      exact h1, fun g hg => hS g (h2 g hg)⟩, ⟨by
    obtain ⟨ev, he, hk⟩ := h3
    exact ⟨ev, by rw [cell_same (hw _ h4)]; exact he, hk⟩, hS _ h4⟩, by
    obtain ⟨ev, he, hk⟩ := h5
    exact ⟨ev, by rw [cell_same (hw _ h6)]; exact he, hk⟩, hS _ h6⟩⟩
theorem one_arg {S : Nat → Prop} {w : World} {a : T1} {vs : List Value} (h : All2 (V1 ι0 S w) [a] vs) : ∃ u, vs = [u] ∧ V1 ι0 S w a u := by
  obtain ⟨u, rfl, e⟩ := h.one_left
  exact ⟨u, rfl, e⟩
theorem two_args {S : Nat → Prop} {w : World} {a b : T1} {vs : List Value} (h : All2 (V1 ι0 S w) [a, b] vs) : ∃ u v, vs = [u, v] ∧ V1 ι0 S w a u ∧ V1 ι0 S w b v := by
  obtain ⟨u, vs, rfl, e0, h⟩ := h.cons_left
  obtain ⟨v, rfl, e1⟩ := h.one_left
  exact ⟨u, v, rfl, e0, e1⟩
theorem open_v {S : Nat → Prop} {w : World} {v u : Value} (h : V1 ι0 S w (c1 (.v v)) u) : u = v := by
  have h' : Imm S w _ u := h
  cases h'; rfl
theorem fmt_c (n : Nat) (h1 : n < 18446744073709551616) : CallsA Tryd.prog ΓS 49 [c1 (du n), c1 (di 10)] (.o (c1 (ds ⟨(Lib.decDigits n).toArray⟩))) :=
  ⟨⟨_, Tryd.func49, by kernel_rfl, rfl⟩, fun S w vs hS hG hvs => by
    obtain ⟨u, v, rfl, e1, e2⟩ := two_args hvs
    obtain rfl := open_v e1
    obtain rfl := open_v e2
    exact (fmt n h1 w hG.1.1).mono fun e w' ⟨he, hb⟩ => by subst he; exact flat_end hS hb (Imm.v rfl)⟩
theorem index_c (Γ : Glob) (s : ByteArray) (c : Int) : CallsA Tryd.prog Γ 52 [c1 (ds s), c1 (.v (.int .u8 c))] (Ti (Lib.indexByte s.data.toList c.toNat.toUInt8)) :=
  ⟨⟨_, Tryd.func52, by kernel_rfl, rfl⟩, fun S w vs hS hG hvs => by
    obtain ⟨u, v, rfl, e1, e2⟩ := two_args hvs
    obtain rfl := open_v e1
    obtain rfl := open_v e2
    exact (Tryd.strings_IndexByte s c w).mono fun e w' ⟨he, hb⟩ => by subst he; subst hb; exact flat_end hS (Below.refl _ _) (Imm.v rfl)⟩
/-- What ParseUint answers, at base 10: the number, and is there an error? -/
def puT (s : ByteArray) : TV := match Lib.parseUintB 64 s.data.toList with
  | .ok u => .tup [c1 (du u), c1 (.v .nilIface)]
  | .range => .tup [c1 (du 18446744073709551615), c1 .err]
  | _ => .tup [c1 (du 0), c1 .err]
theorem three_args {S : Nat → Prop} {w : World} {a b c : T1} {vs : List Value} (h : All2 (V1 ι0 S w) [a, b, c] vs) : ∃ u v x, vs = [u, v, x] ∧ V1 ι0 S w a u ∧ V1 ι0 S w b v ∧ V1 ι0 S w c x := by
  obtain ⟨u, vs, rfl, e0, h⟩ := h.cons_left
  obtain ⟨v, x, rfl, e1, e2⟩ := two_args h
  exact ⟨u, v, x, rfl, e0, e1, e2⟩
theorem pu_c (s : ByteArray) (hs : s.size ≤ 281474976710656) : CallsA Tryd.prog ΓS 71 [c1 (ds s), c1 (di 10), c1 (di 64)] (puT s) :=
  ⟨⟨_, Tryd.func71, by kernel_rfl, rfl⟩, fun S w vs hS hG hvs => by
    obtain ⟨u, v, x, rfl, e1, e2, e3⟩ := three_args hvs
    obtain rfl := open_v e1
    obtain rfl := open_v e2
    obtain rfl := open_v e3
    unfold puT
    obtain ⟨-, ⟨⟨ev, h1, h2⟩, -⟩, ⟨er, h3, h4⟩, -⟩ := hG
    cases hp : Lib.parseUintB 64 s.data.toList with
    | ok u =>
      refine (Tryd.strconv_ParseUint_10_at64_ok s (by omega) u hp w).mono fun e w' ⟨he, hb⟩ => ?_
      subst he
      exact flat_end hS (by rcases hb with rfl | rfl; exact Below.refl _ _; exact Lib.bytesWorld_below _ _ _) ⟨[_, _], rfl, .cons (Imm.v rfl) (.cons (Imm.v rfl) .nil)⟩
    | range =>
      refine (Tryd.strconv_ParseUint_10_at64_range s hs hp er w h3 h4).mono fun e w' ⟨N, he, _, _, hb⟩ => ?_
      subst he
      exact flat_end hS hb ⟨[_, _], rfl, .cons (Imm.v rfl) (.cons Imm.err .nil)⟩
    | _ =>
      refine (Any.strconv_ParseUint_10_at64_syntax Tryd.laysPu14 s hs hp ev w h1 h2).mono fun e w' ⟨N, he, _, _, hb⟩ => ?_
      subst he
      exact flat_end hS hb ⟨[_, _], rfl, .cons (Imm.v rfl) (.cons Imm.err .nil)⟩⟩
end Go.Proofs.YtkeehnhamkdogaaDoor
