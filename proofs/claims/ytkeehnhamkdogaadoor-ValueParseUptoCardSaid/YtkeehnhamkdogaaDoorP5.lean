/- Parse's deferred closure, and Parse. Conditions: as in P1. -/
import Derived.Test.YtkeehnhamkdogaaDoorP4
import Derived.Test.YtkeehnhamkdogaaDoorE16
import Derived.WalkKit
namespace Go.Proofs.YtkeehnhamkdogaaDoor
set_option linter.unusedVariables false
set_option linter.unusedSimpArgs false
open Go.RowKit
set_option maxRecDepth 100000

theorem nil_eq (w : World) : (binOp BinOp.eql 20 .nilIface .nilIface).run Tryd.prog w = .ok (.bool true) w := by kernel_rfl
theorem iface_eq (t : TypeId) (v : Value) (w : World) : (binOp BinOp.eql 20 (.iface t v) .nilIface).run Tryd.prog w = .ok (.bool false) w := by rfl
theorem catch_idle (x y z : Value) (w : World) :
    CallsD Tryd.prog 34 #[x, y, z] .returning w fun e u' w' => e = .returned (.tuple #[]) ∧ u' = .returning ∧ w' = w := by
  refine callsD_of_wpS Tryd.func34 rfl fun c₀ cs hu => ?_
  apply wpS_seq
  apply wpS_region
  simp [wpOpsS, go_sem, recoverD, hu, Tryd.ntmps34, Exit.thenS]
  refine wpS_of_wp ?_
  refine wp_block ?_
  apply wp_seq
  apply wp_region
  simp [wpOps, go_sem, nil_eq, Exit.then]
  repeat apply Or.inl
  refine Go.wp_cond_true ?hc ?h
  · simp [Act.eval]
  apply wp_region
  simp [wpOps, go_sem, Exit.inBlock]
  repeat apply Or.inl
  cases c₀
  simp_all [bodyPostS, results, Tryd.results34, Exit.thenS]
theorem assert_ok (v : Value) (w : World) : (Instr.typeAssert (.iface 72 v) 20 72 true).run Tryd.prog w = .ok (.tuple #[v, .bool true]) w := by
  simp [Instr.typeAssert, run_underlying, Tryd.underlying72]
abbrev pv (a : Nat) (e : Int) (r : Bool) : List PanicEntry := [{ v := flt a e, recovered := r }]
def hitM (d0 d1 d2 d3 x0 y0 : D) : List (Nat × Blk) := [(0, .obj [.d d0, .d d1, .d d2, .d d3]), (1, .obj [.d x0]), (2, .obj [.d y0])]
theorem catch_hit (a : Nat) (e : Int) (d0 d1 d2 d3 x0 y0 : D) {ι : Nat → Value} {S : Nat → Prop} {w : World} (hS : ∀ b, S b → b < w.heap.size) (hG : ΓS.G S w) (hblk : ∀ p ∈ hitM d0 d1 d2 d3 x0 y0, BlkOk ι S w p.1 p.2)
    (hdst : ∀ p ∈ hitM d0 d1 d2 d3 x0 y0, ∀ q ∈ hitM d0 d1 d2 d3 x0 y0, ∀ g, p.2.live = true → q.2.live = true → blkOf (ι p.1) = some g → blkOf (ι q.1) = some g → p.1 = q.1) :
    CallsD Tryd.prog 34 #[ι 0, ι 1, ι 2] (.panicking (pv a e false)) w fun e' u' w' => e' = .returned (.tuple #[]) ∧ u' = .panicking (pv a e true) ∧ ∃ ι' S', After ι S w 3 ⟨.und, [0, 1, 2], hitM (di 0) (du 0) (ds ⟨#[]⟩) dnil (di a) (di e), []⟩ undef ι' S' w' := by
  have hp : ∀ k, k < 3 → ∃ b, ι k = .pointer (some ⟨b, 0, none⟩) := fun k hk => by
    match k, hk with
    | 0, _ => obtain ⟨b, arr, ty, h1, _⟩ := hblk _ (List.mem_cons_self ..); exact ⟨b, h1⟩
    | 1, _ => obtain ⟨b, arr, ty, h1, _⟩ := hblk _ (List.mem_cons_of_mem _ (List.mem_cons_self ..)); exact ⟨b, h1⟩
    | 2, _ => obtain ⟨b, arr, ty, h1, _⟩ := hblk _ (List.mem_cons_of_mem _ (List.mem_cons_of_mem _ (List.mem_cons_self ..))); exact ⟨b, h1⟩
  obtain ⟨b0, hb0⟩ := hp 0 (by omega)
  obtain ⟨b1, hb1⟩ := hp 1 (by omega)
  obtain ⟨b2, hb2⟩ := hp 2 (by omega)
  refine callsD_of_wpS Tryd.func34 rfl fun c₀ cs hu => ?_
  apply wpS_seq
  apply wpS_region
  simp [wpOpsS, go_sem, recoverD, hu, Tryd.ntmps34, Exit.thenS]
  refine wpS_of_wp ?_
  refine wp_block ?_
  apply wp_seq
  apply wp_region
  simp [wpOps, go_sem, iface_eq, Exit.then]
  apply Or.inl
  refine Go.wp_cond_false ?hc ?h
  · simp [Act.eval]
  apply wp_seq
  apply wp_region
  simp [wpOps, go_sem, assert_ok, Exit.then]
  iterate 3 apply Or.inl
  refine Go.wp_cond_true ?hc2 ?h2
  · simp [Act.eval]
  refine Code.wp_mono (fun e1 a1 w1 h => ?_) (code_after (C := ⟨Tryd.prog, layF, Tryd.f34.ntmps, ΓS, 3, [], []⟩) (tm := [(0, .o (.c (.ptr 0 0))), (1, .o (.c (.ptr 1 0))), (2, .o (.c (.ptr 2 0))), (11, .o (gD [di a, di e]))]) (m := hitM d0 d1 d2 d3 x0 y0) (upd := hitM (di 0) (du 0) (ds ⟨#[]⟩) dnil (di a) (di e)) (new := []) layF_ok mixed rfl ?hvc hS hG hblk hdst ?htm (by simp [Tryd.ntmps34]) rfl)
  case hvc =>
    refine ⟨by kernel_rfl, ?_⟩
    exact ⟨rfl, rfl, rfl⟩
  case htm =>
    intro t tv ht
    simp only [findL] at ht
    split at ht
    · rename_i h; subst h; cases ht
      exact ⟨b0, hb0, by simp [hb0]⟩
    · split at ht
      · rename_i h; subst h; cases ht
        exact ⟨b1, hb1, by simp [hb1]⟩
      · split at ht
        · rename_i h; subst h; cases ht
          exact ⟨b2, hb2, by simp [hb2]⟩
        · split at ht
          · rename_i h; subst h; cases ht
            exact ⟨[.int .i64 a, .int .i64 e], by simp, .cons (Imm.v rfl) (.cons (Imm.v rfl) .nil)⟩
          · cases ht
  obtain ⟨rfl, h1, ι', S', A⟩ := h
  simp only [Exit.inBlock, bodyPostS]
  exact ⟨h1, .panicking (pv a e true), rfl, .tuple #[], by simp [results, Tryd.results34], rfl, rfl, ι', S', A⟩
end Go.Proofs.YtkeehnhamkdogaaDoor
