/- strings.Builder: copyCheck, WriteString, WriteByte, String, over objects. Conditions: at most 2^47 bytes; String: at least one. -/
import Derived.Test.YtkeehnhamkdogaaDoorE15
import Derived.Test.YtkeehnhamkdogaaDoorBase
import Derived.Lib.Builder
namespace Go.Proofs.YtkeehnhamkdogaaDoor
set_option linter.unusedVariables false
set_option linter.unusedSimpArgs false
open Go.RowKit
set_option maxRecDepth 100000

abbrev Tbld : TypeId := 65
theorem under_pb : Tryd.prog.underlying 62 = some (.pointer Tbld) := by kernel_rfl
theorem under_up : Tryd.prog.underlying 115 = some .unsafePointer := by kernel_rfl
theorem size_bld : (Tryd.prog.info? Tbld).map (·.size) = some 2 := by kernel_rfl
theorem lies_bld : liesAt Tryd.prog Tryd.prog.depth Tbld (2 / Tryd.prog.cellsOf Tbld) 0 Tbld 1 = true := by kernel_rfl
theorem cc_used (b : Nat) (w : World) (h0 : w.cell? ⟨b, 0, none⟩ = some (.pointer (some ⟨b, 0, none⟩))) :
    Calls Tryd.prog 61 #[.pointer (some ⟨b, 0, none⟩)] w fun e w' => e = .returned (.tuple #[]) ∧ w' = w := by
  obtain ⟨j, hj, _⟩ := Option.map_eq_some_iff.1 size_bld
  go_enter Tryd.func61, Tryd.ntmps61
  go_wp2
  rw [Lib.run_neq_ptr_same w _ under_pb hj]
  go_wp2
  go_end0
  exact ⟨rfl, rfl⟩
theorem cc_fresh (b : Nat) (w : World) (h0 : w.cell? ⟨b, 0, none⟩ = some (.pointer none)) (hsh : w.shape? b = some (Tbld, 2)) (hfz : w.frozen? ⟨b, 0, none⟩ = false) :
    Calls Tryd.prog 61 #[.pointer (some ⟨b, 0, none⟩)] w fun e w' => e = .returned (.tuple #[]) ∧ w' = w.setCell ⟨b, 0, none⟩ (.pointer (some ⟨b, 0, none⟩)) := by
  obtain ⟨j, hj, hjs⟩ := Option.map_eq_some_iff.1 size_bld
  go_enter Tryd.func61, Tryd.ntmps61
  go_wp2
  rw [Lib.run_to_unsafe w ⟨b, 0, none⟩ under_pb under_up hj (by rw [hjs]; decide) hsh (Nat.zero_lt_succ 1)]
  simp only [Result.andThen]
  rw [Oper.upon_value]
  go_wp2
  rw [run_callFunc_extern Tryd.func75 (by kernel_rfl) (by kernel_rfl) (by kernel_rfl) (e := Extern.AbiNoEscape.same) (by kernel_rfl)]
  rw [Lib.run_noEscape]
  simp only [Result.andThen]
  rw [Oper.upon_value]
  go_wp2
  rw [Lib.run_from_unsafe w ⟨b, 0, none⟩ under_up under_pb hj hsh lies_bld]
  simp only [Result.andThen]
  rw [Oper.upon_value]
  go_wp2
  go_end0
  exact ⟨rfl, rfl⟩
theorem open_bld {ι : Nat → Value} {S : Nat → Prop} {w : World} {a x : CV} (h : BlkOk ι S w 0 (.obj [a, x] Tbld)) : ∃ b u0 u1, ι 0 = .pointer (some ⟨b, 0, none⟩) ∧ w.heap[b]? = some (.cells #[u0, u1] Tbld (0, 0)) ∧ VC ι S w a u0 ∧ VC ι S w x u1 ∧ ¬ S b := by
  obtain ⟨b, arr, ty, h1, h2, h3, h4⟩ := h
  obtain ⟨u0, l, e0, e1, h3⟩ := h3.cons_left
  obtain ⟨u1, rfl, e2⟩ := h3.one_left
  have hty : ty.1 = Tbld := by
    rcases ty.2 with h | h
    · exact absurd h (by decide)
    · exact h
  rw [hty] at h2
  refine ⟨b, u0, u1, h1, ?_, e1, e2, h4⟩
  rw [h2]
  congr 2
  apply Array.ext'
  rw [e0]
theorem bld_arg {ι : Nat → Value} {S : Nat → Prop} {w : World} {b : Nat} {vs : List Value} (h1 : ι 0 = .pointer (some ⟨b, 0, none⟩)) (h : All2 (V1 ι S w) [.c (.ptr 0 0)] vs) : vs = [.pointer (some ⟨b, 0, none⟩)] := by
  obtain ⟨v, rfl, b', e1, e2⟩ := h.one_left
  rw [h1] at e1
  cases e1
  rw [e2]
theorem copyCheck_used (x : CV) (nx : Nat) : CallsM Tryd.prog Γ0 61 [(0, .obj [.ptr 0 0, x] Tbld)] nx [.c (.ptr 0 0)] (.tup []) [(0, .obj [.ptr 0 0, x] Tbld)] [] := by
  refine ⟨⟨_, Tryd.func61, by kernel_rfl, rfl⟩, fun ι S w vs hs _ hblk hdst hvs => ?_⟩
  have hb := hblk _ (List.mem_singleton.2 rfl)
  obtain ⟨b, u0, u1, h1, h2, h3, h4, h5⟩ := open_bld hb
  obtain rfl := bld_arg h1 hvs
  obtain ⟨b', e1, rfl⟩ := h3
  rw [h1] at e1
  cases e1
  refine (cc_used b w (by simp [World.cell?, h2])).mono fun e w' ⟨he, hw⟩ => ?_
  subst he; subst hw
  refine .inl ⟨_, ι, S, rfl, ⟨[], rfl, .nil⟩, fun _ _ => rfl, fun _ h => h, fun _ h => .inl h, hs, rfl, rfl, rfl, Nat.le_refl _, fun _ _ _ => rfl, fun k b hk => ?_, (fun _ _ h => by simp at h), (fun _ _ h => by simp at h), (fun _ _ _ _ _ h => by simp at h)⟩
  simp only [List.mem_singleton, Prod.mk.injEq] at hk
  obtain ⟨rfl, rfl⟩ := hk
  exact hb
theorem copyCheck_fresh (x : CV) (nx : Nat) : CallsM Tryd.prog Γ0 61 [(0, .obj [.d (.v (.pointer none)), x] Tbld)] nx [.c (.ptr 0 0)] (.tup []) [(0, .obj [.ptr 0 0, x] Tbld)] [] := by
  refine ⟨⟨_, Tryd.func61, by kernel_rfl, rfl⟩, fun ι S w vs hs _ hblk hdst hvs => ?_⟩
  obtain ⟨b, u0, u1, h1, h2, h3, h4, h5⟩ := open_bld (hblk _ (List.mem_singleton.2 rfl))
  obtain rfl := bld_arg h1 hvs
  obtain rfl : u0 = .pointer none := by have h' : Imm S w _ u0 := h3; cases h'; rfl
  refine (cc_fresh b w (by simp [World.cell?, h2]) (by simp [World.shape?, h2]) (by simp [World.frozen?, h2])).mono fun e w' ⟨he, hw⟩ => ?_
  subst he; subst hw
  have hother : ∀ b', b' ≠ b → (w.setCell ⟨b, 0, none⟩ (.pointer (some ⟨b, 0, none⟩))).heap[b']? = w.heap[b']? := fun b' hb' => Go.heap_setCell_other w _ _ _ hb'
  have hown := Go.heap_setCell_same w b 0 _ _ (.pointer (some ⟨b, 0, none⟩)) h2
  refine .inl ⟨_, ι, S, rfl, ⟨[], rfl, .nil⟩, fun _ _ => rfl, fun _ h => h, fun _ h => .inl h, (fun b' hb' => by have := hs b' hb'; simpa using this), rfl, rfl, rfl, by simp, fun b' _ hne => hother b' (fun e => ?_), fun k b' hk => ?_, (fun _ _ h => by simp at h), (fun _ _ h => by simp at h), (fun _ _ _ _ _ h => by simp at h)⟩
  · subst e
    exact hne 0 (by simp) (by rw [h1]; rfl)
  · simp only [List.mem_singleton, Prod.mk.injEq] at hk
    obtain ⟨rfl, rfl⟩ := hk
    exact ⟨b, _, ⟨Tbld, .inr rfl⟩, h1, hown, .cons ⟨b, h1, rfl⟩ (.cons (VC.mono (fun b' hb' => hother b' (fun e => by subst e; exact h5 hb')) (fun _ h => h) (fun _ _ => rfl) h4) .nil), h5⟩
abbrev Tu8 : TypeId := 5
theorem u8_info : InfoU8 Tryd.prog Tu8 := by
  have h : ∃ i, Tryd.prog.info? Tu8 = some i ∧ i.zero = some (.int .u8 0) ∧ i.size = 1 ∧ i.bytes = 1 := info_parts (by kernel_rfl)
  exact h
abbrev Brow (l : List UInt8) : Blk := .row 1 Tu8 (byteRows l)
theorem byteRows_app (l m : List UInt8) : byteRows l ++ byteRows m = byteRows (l ++ m) := by simp [byteRows]
theorem byteRows_len (l : List UInt8) : (byteRows l).length = l.length := by simp [byteRows]
theorem cc_row (a : CV) (ha : a = .d (.v (.pointer none)) ∨ a = .ptr 0 0) (l : List UInt8) : CallsM Tryd.prog Γ0 61 [(0, .obj [a, .row 1] Tbld), (1, Brow l)] 2 [.c (.ptr 0 0)] (.tup []) [(0, .obj [.ptr 0 0, .row 1] Tbld)] [] := by
  rcases ha with rfl | rfl
  · exact CallsM.more (copyCheck_fresh (.row 1) 2) (by simp)
  · exact CallsM.more (copyCheck_used (.row 1) 2) (by simp)
theorem WriteString_c (a : CV) (ha : a = .d (.v (.pointer none)) ∨ a = .ptr 0 0) (l : List UInt8) (s : ByteArray) (h : l.length + s.size ≤ 140737488355328) :
    CallsM Tryd.prog Γ0 43 [(0, .obj [a, .row 1] Tbld), (1, Brow l)] 2 [.c (.ptr 0 0), c1 (ds s)] (.tup [c1 (di s.size), c1 (.v .nilIface)]) [(0, .obj [.ptr 0 0, .row 2] Tbld), (1, .dead)] [Brow (l ++ s.data.toList)] := by
  have hcc := cc_row a ha l
  have e := byteRows_app l s.data.toList
  have hl : (byteRows l).length + s.size ≤ 140737488355328 := by rw [byteRows_len]; exact h
  rcases ha with rfl | rfl
  all_goals
    refine fn_ruleM (C := ⟨Tryd.prog, layF, Tryd.f43.ntmps, Γ0, 2, [], []⟩) layF_ok mixed Tryd.func43 rfl (by kernel_rfl) rfl rfl rfl ?_
    refine ex_callM hcc ?_
    refine ⟨u8_info, hl, ?_⟩
    refine ex_is _ e ?_
    exact ⟨rfl, TLe.rfl, rfl, rfl⟩
end Go.Proofs.YtkeehnhamkdogaaDoor
