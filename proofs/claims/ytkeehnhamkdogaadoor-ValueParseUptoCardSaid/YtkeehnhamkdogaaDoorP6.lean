/- Parse. Conditions: as in P1. -/
import Derived.Test.YtkeehnhamkdogaaDoorP5
namespace Go.Proofs.YtkeehnhamkdogaaDoor
set_option linter.unusedVariables false
set_option linter.unusedSimpArgs false
open Go.RowKit
set_option maxRecDepth 100000

def parseV (s : ByteArray) : PV × Int × Int := match valV s 1200 0 with
  | .err a e => (.mk 0 0 ⟨#[]⟩ [], a, e)
  | .ok v a => if passV s a < s.size then (.mk 0 0 ⟨#[]⟩ [], passV s a, 4) else (v, 0, 0)
def HitP (v : Value) (st : St) (upd : List (Nat × Blk)) : Prop := ∃ (a : Nat) (e : Int) (d0 d1 d2 d3 x0 y0 : D), v = flt a e ∧ upd = hitM (di 0) (du 0) (ds ⟨#[]⟩) dnil (di a) (di e) ∧
  findL st.mem 0 = some (.obj [.d d0, .d d1, .d d2, .d d3]) ∧ findL st.mem 1 = some (.obj [.d x0]) ∧ findL st.mem 2 = some (.obj [.d y0])
theorem hitP_ok (v : Value) (st : St) (upd : List (Nat × Blk)) (h : HitP v st upd) (ι : Nat → Value) (S : Nat → Prop) (w : World) (hS : ∀ b, S b → b < w.heap.size) (hG : ΓS.G S w) (hblk : ∀ k b, findL st.mem k = some b → BlkOk ι S w k b)
    (hdst : ∀ k k' b b' g, findL st.mem k = some b → findL st.mem k' = some b' → b.live = true → b'.live = true → blkOf (ι k) = some g → blkOf (ι k') = some g → k = k') :
    CallsD Tryd.prog 34 ([0, 1, 2].map ι).toArray (.panicking (panE v)) w fun e' u' w' => e' = .returned (.tuple #[]) ∧ u' = .panicking [{ v, recovered := true }] ∧ ∃ ι' S', After ι S w st.nx ⟨.und, [], upd, []⟩ undef ι' S' w' := by
  obtain ⟨a, e, d0, d1, d2, d3, x0, y0, rfl, rfl, h0, h1, h2⟩ := h
  have hf : ∀ p ∈ hitM d0 d1 d2 d3 x0 y0, findL st.mem p.1 = some p.2 := fun p hp => by
    simp only [hitM, List.mem_cons, List.not_mem_nil, or_false] at hp
    rcases hp with rfl | rfl | rfl
    · exact h0
    · exact h1
    · exact h2
  refine (catch_hit a e d0 d1 d2 d3 x0 y0 hS hG (fun p hp => hblk _ _ (hf p hp)) (fun p hp q hq g => hdst _ _ _ _ g (hf p hp) (hf q hq))).mono ?_
  rintro e' u' w' ⟨he, hu, ι', S', A⟩
  refine ⟨he, hu, ι', S', ⟨A.val, fun k _ => A.keep k (by show k < 3 ∨ 3 + 0 ≤ k; omega), A.smono, A.sgrow, A.slt, A.os, A.tape, A.output, A.size, A.heap, A.updok, fun i b hb => by simp at hb, fun i b hb => by simp at hb, fun i j b b' g hb => by simp at hb⟩⟩
theorem TLe.tup1 {a b c : D} {s : Nat} {l : List T1} : TLe (.tup (gD [a, b, c, dnil] :: l)) (.tup (gD [a, b, c, .sl s []] :: l)) := fun ι S w v ⟨us, hu, h⟩ => by
  have h : All2 (V1 ι S w) (gD [a, b, c, dnil] :: l) us := h
  obtain ⟨u, us, rfl, e, h⟩ := h.cons_left
  exact ⟨u :: us, hu, .cons (TLe.nil4 ι S w u e) h⟩
theorem Parse_c (s : ByteArray) (hs : s.size ≤ 16777216) : CallsA Tryd.prog ΓS 17 [c1 (ds s)] (.tup [gD (drow (parseV s).1), c1 (di (parseV s).2.1), c1 (di (parseV s).2.2)]) := by
  have hv := value_c s hs 1200 (by omega) 0 (by omega)
  obtain ⟨T, hT⟩ : ∃ T, parseV s = T := ⟨_, rfl⟩
  rw [hT]
  refine fn_ruleD (C := ⟨Tryd.prog, layF, Tryd.f17.ntmps, ΓS, 0, [], []⟩) (g := 34) (t9 := 9) (nx2 := 3) (caps := [2, 3, 4]) (capN := [0, 1, 2]) layF_ok mixed Tryd.func17 rfl (by kernel_rfl) rfl rfl rfl HitP ?hdef ?henter ?hidle rfl hitP_ok ?h
  case hdef =>
    intro a w Q hsz h
    have h9 : 9 < a.tmps.size := by rw [hsz]; decide
    apply wp_region
    simp [wpOps, go_sem, h9]
    refine .inl (.inl ?_)
    simpa [Oper.upon, Act.put] using h (.func (.func 34) #[] #[a.tmps[2]?.getD undef, a.tmps[3]?.getD undef, a.tmps[4]?.getD undef])
  case henter =>
    intro vs w
    kernel_rfl
  case hidle =>
    intro vs w hl
    match vs, hl with
    | [x, y, z], _ => exact catch_idle x y z w
  unfold parseV at hT
  refine ⟨⟨rfl, rfl, rfl, trivial⟩, rfl, ?_⟩
  cases hval : valV s 1200 0 with
  | err a e =>
    rw [hval] at hv hT
    simp only at hT
    subst hT
    refine ex_callM (CallsM.ren (hv) [3] 4 rfl rfl rfl rfl) ?_
    refine ⟨flt a e, _, rfl, ⟨a, e, _, _, _, _, _, _, rfl, rfl, rfl, rfl, rfl⟩, rfl, rfl, ?_⟩
    show TLe _ (.tup [gD (drow _), _, _])
    rw [drow_mk]
    exact TLe.tup1
  | ok v a =>
    rw [hval] at hv hT
    simp only at hT
    have hvo := valV_ok s 1200 _ _ _ (by omega) hval
    have hp := pass_c s a hvo.2 hs
    refine ex_callM (CallsM.ren (hv) [3] 4 rfl rfl rfl rfl) ?_
    refine ex_callM (CallsM.ren (hp) [3] 4 rfl rfl rfl rfl) ?_
    refine ex_dec (fun h1 => ?_) (fun h1 => ?_)
    · rw [if_pos (by omega)] at hT
      subst hT
      refine ex_callM (CallsM.ren ((fail_c s (passV s a) 4)) [3] 4 rfl rfl rfl rfl) ?_
      refine ⟨flt (passV s a) 4, _, rfl, ⟨passV s a, 4, _, _, _, _, _, _, rfl, rfl, rfl, rfl, rfl⟩, rfl, rfl, ?_⟩
      show TLe _ (.tup [gD (drow _), _, _])
      rw [drow_mk]
      exact TLe.tup1
    · rw [if_neg (by omega)] at hT
      subst hT
      exact TLe.rfl
end Go.Proofs.YtkeehnhamkdogaaDoor
