/- Functions with pointers to objects: their contracts, under other names, and from their code. No condition. -/
import Derived.Test.YtkeehnhamkdogaaDoorE12
namespace Go.Proofs.YtkeehnhamkdogaaDoor
set_option linter.unusedVariables false
set_option linter.unusedSimpArgs false
open Go.RowKit

/-! ### Other names -/
def CV.ren (ρ : Nat → Nat) : CV → CV
  | .d x => .d x
  | .ptr k o => .ptr (ρ k) o
  | .eptr cs => .eptr cs
  | .rptr k s i j => .rptr (ρ k) s i j
  | .row k => .row (ρ k)
def T1.ren (ρ : Nat → Nat) : T1 → T1
  | .c x => .c (x.ren ρ)
  | .g l => .g (l.map (CV.ren ρ))
def TV.ren (ρ : Nat → Nat) : TV → TV
  | .no => .no
  | .und => .und
  | .o x => .o (x.ren ρ)
  | .tup l => .tup (l.map (T1.ren ρ))
  | .pan v => .pan v
def Blk.ren (ρ : Nat → Nat) : Blk → Blk
  | .obj l tg => .obj (l.map (CV.ren ρ)) tg
  | .row s e rows => .row s e rows
  | .dead => .dead
theorem Blk.live_ren (ρ : Nat → Nat) (b : Blk) : (b.ren ρ).live = b.live := by cases b <;> rfl
theorem All2.map_iff {α β γ : Type} {R : α → β → Prop} {f : γ → α} {l : List γ} {m : List β} : All2 R (l.map f) m ↔ All2 (fun c b => R (f c) b) l m := ⟨All2.of_map_left, All2.map_left⟩
section
variable {ι ι' : Nat → Value} {S : Nat → Prop} {w : World} {ρ : Nat → Nat} (h : ∀ k, ι' (ρ k) = ι k)
include h
theorem VC_ren {x : CV} {u : Value} : VC ι' S w (x.ren ρ) u ↔ VC ι S w x u := by
  cases x <;> simp only [CV.ren, VC, h]
theorem V1_ren {x : T1} {u : Value} : V1 ι' S w (x.ren ρ) u ↔ V1 ι S w x u := by
  cases x with
  | c x => exact VC_ren h
  | g l =>
    simp only [T1.ren, V1, All2.map_iff]
    exact ⟨fun ⟨us, h1, h2⟩ => ⟨us, h1, h2.mono fun _ _ q => (VC_ren h).1 q⟩, fun ⟨us, h1, h2⟩ => ⟨us, h1, h2.mono fun _ _ q => (VC_ren h).2 q⟩⟩
theorem V_ren {x : TV} {u : Value} : V ι' S w (x.ren ρ) u ↔ V ι S w x u := by
  cases x with
  | no => exact Iff.rfl
  | und => exact Iff.rfl
  | pan v => exact Iff.rfl
  | o x => exact V1_ren h
  | tup l =>
    simp only [TV.ren, V, All2.map_iff]
    exact ⟨fun ⟨us, h1, h2⟩ => ⟨us, h1, h2.mono fun _ _ q => (V1_ren h).1 q⟩, fun ⟨us, h1, h2⟩ => ⟨us, h1, h2.mono fun _ _ q => (V1_ren h).2 q⟩⟩
theorem BlkOk_ren {k : Nat} {b : Blk} : BlkOk ι' S w (ρ k) (b.ren ρ) ↔ BlkOk ι S w k b := by
  cases b with
  | dead => exact Iff.rfl
  | obj l =>
    simp only [Blk.ren, BlkOk, All2.map_iff, h]
    exact ⟨fun ⟨b, arr, ty, h1, h2, h3, h4⟩ => ⟨b, arr, ty, h1, h2, h3.mono fun _ _ q => (VC_ren h).1 q, h4⟩, fun ⟨b, arr, ty, h1, h2, h3, h4⟩ => ⟨b, arr, ty, h1, h2, h3.mono fun _ _ q => (VC_ren h).2 q, h4⟩⟩
  | row s e rows => simp only [Blk.ren, BlkOk, h]
end
/-- Names 0, 1, .. become those of the list; those from its length on stand behind nx. -/
def renN (ρs : List Nat) (nx : Nat) (k : Nat) : Nat := match ρs[k]? with
  | some k' => k'
  | none => nx + (k - ρs.length)
def renM (ρ : Nat → Nat) (m : List (Nat × Blk)) : List (Nat × Blk) := m.map fun p => (ρ p.1, p.2.ren ρ)
theorem CallsM.ren {P : Program} {Γ : Glob} {f : FuncId} {m : List (Nat × Blk)} {nx : Nat} {xs : List T1} {r : TV} {upd : List (Nat × Blk)} {new : List Blk} (h : CallsM P Γ f m nx xs r upd new) (ρs : List Nat) (nx' : Nat) (hl : ρs.length = nx)
    (hlt : (ρs.all fun k => Nat.blt k nx') = true) (hnd : nodupB ρs = true) (hm : (m.all fun p => Nat.blt p.1 nx) = true) :
    CallsM P Γ f (renM (renN ρs nx') m) nx' (xs.map (T1.ren (renN ρs nx'))) (r.ren (renN ρs nx')) (renM (renN ρs nx') upd) (new.map (Blk.ren (renN ρs nx'))) := by
  subst hl
  obtain ⟨hcb, h⟩ := h
  refine ⟨hcb, fun ι S w vs hs hG hblk hdst hvs => ?_⟩
  have hlow : ∀ k, k < ρs.length → renN ρs nx' k < nx' := fun k hk => by
    have h1 : ρs[k]? = some ρs[k] := List.getElem?_eq_getElem hk
    unfold renN
    rw [h1]
    have := List.all_eq_true.1 hlt ρs[k] (List.getElem_mem hk)
    exact Nat.lt_of_succ_le (Nat.le_of_ble_eq_true this)
  have hhigh : ∀ k, ρs.length ≤ k → renN ρs nx' k = nx' + (k - ρs.length) := fun k hk => by
    unfold renN
    rw [List.getElem?_eq_none hk]
  have h1 : ∀ k, ι (renN ρs nx' k) = (fun k => ι (renN ρs nx' k)) k := fun _ => rfl
  have hmlt : ∀ p ∈ m, p.1 < ρs.length := fun p hp => Nat.lt_of_succ_le (Nat.le_of_ble_eq_true (List.all_eq_true.1 hm p hp))
  have hin : ∀ p ∈ m, (renN ρs nx' p.1, p.2.ren (renN ρs nx')) ∈ renM (renN ρs nx') m := fun p hp => List.mem_map.2 ⟨p, hp, rfl⟩
  have conv : ∀ (tv : TV) (x : Value) (ι1 : Nat → Value) (S' : Nat → Prop) (w' : World), After (fun k => ι (renN ρs nx' k)) S w ρs.length ⟨tv, m.map (·.1), upd, new⟩ x ι1 S' w' → ∃ ι', After ι S w nx' ⟨tv.ren (renN ρs nx'), (renM (renN ρs nx') m).map (·.1), renM (renN ρs nx') upd, new.map (Blk.ren (renN ρs nx'))⟩ x ι' S' w' := fun tv x ι1 S' w' A => by
    obtain ⟨ι', hι'⟩ : ∃ ι' : Nat → Value, ∀ k, ι' k = if nx' ≤ k ∧ k < nx' + new.length then ι1 (ρs.length + (k - nx')) else ι k := ⟨_, fun _ => rfl⟩
    have h2 : ∀ k, ι' (renN ρs nx' k) = ι1 k := fun k => by
      rw [hι']
      by_cases hk : k < ρs.length
      · have := hlow k hk
        rw [if_neg (by omega)]
        exact (A.keep k (.inl hk)).symm
      · have hk' := hhigh k (by omega)
        rw [hk']
        by_cases hn : k - ρs.length < new.length
        · rw [if_pos (by omega)]
          congr 1
          omega
        · rw [if_neg (by omega), A.keep k (.inr (by simp only; omega))]
          exact (congrArg ι hk').symm
    refine ⟨ι', (V_ren h2).2 A.val, fun k hk => (hι' k).trans (if_neg (by simp only [List.length_map] at hk; omega)), A.smono, fun b hb => ?_, A.slt, A.os, A.tape, A.output, A.size, fun b hb hne => A.heap b hb fun k hk => ?_, fun k b hk => ?_, fun i b hb => ?_, fun i b hb hl g hg => ?_, fun i j b b' g hb hb' hl hl' hg hg' => ?_⟩
    · rcases A.sgrow b hb with h | h | ⟨k, hk, h⟩
      · exact .inl h
      · exact .inr (.inl h)
      · exact .inr (.inr ⟨renN ρs nx' k, List.mem_map.2 ⟨(k, .dead), hk, rfl⟩, h⟩)
    · obtain ⟨p, hp, rfl⟩ := List.mem_map.1 hk
      exact hne _ (List.mem_map.2 ⟨_, List.mem_map.2 ⟨p, hp, rfl⟩, rfl⟩)
    · obtain ⟨p, hp, he⟩ := List.mem_map.1 hk
      cases he
      exact (BlkOk_ren h2).2 (A.updok p.1 p.2 hp)
    · simp only [List.getElem?_map] at hb
      obtain ⟨b0, hb0, rfl⟩ := Option.map_eq_some_iff.1 hb
      have := (BlkOk_ren h2).2 (A.newok i b0 hb0)
      rwa [hhigh _ (by omega), show ρs.length + i - ρs.length = i by omega] at this
    · simp only [List.getElem?_map] at hb
      obtain ⟨b0, hb0, rfl⟩ := Option.map_eq_some_iff.1 hb
      rw [Blk.live_ren] at hl
      have e := h2 (ρs.length + i)
      rw [hhigh _ (by omega), show ρs.length + i - ρs.length = i by omega] at e
      rw [e] at hg
      obtain ⟨g1, g2⟩ := A.newblk i b0 hb0 hl g hg
      refine ⟨g1, ?_⟩
      rcases g2 with g2 | ⟨k, hk, g2⟩
      · exact .inl g2
      · exact .inr ⟨renN ρs nx' k, List.mem_map.2 ⟨(k, .dead), hk, rfl⟩, g2⟩
    · simp only [List.getElem?_map] at hb hb'
      obtain ⟨b0, hb0, rfl⟩ := Option.map_eq_some_iff.1 hb
      obtain ⟨b1, hb1, rfl⟩ := Option.map_eq_some_iff.1 hb'
      rw [Blk.live_ren] at hl hl'
      have e' : ∀ i, ι' (nx' + i) = ι1 (ρs.length + i) := fun i => by
        have := h2 (ρs.length + i)
        rwa [hhigh _ (by omega), show ρs.length + i - ρs.length = i by omega] at this
      rw [e'] at hg hg'
      exact A.newdst i j b0 b1 g hb0 hb1 hl hl' hg hg'
  refine (h (fun k => ι (renN ρs nx' k)) S w vs hs hG (fun p hp => (BlkOk_ren h1).1 (hblk _ (hin p hp))) (fun p hp q hq g hl hl' hg hg' => ?_) (hvs.of_map_left.mono fun _ _ hv => (V1_ren h1).1 hv)).mono fun e w' hX => ?_
  · have hn := hdst _ (hin p hp) _ (hin q hq) g (by rw [Blk.live_ren]; exact hl) (by rw [Blk.live_ren]; exact hl') hg hg'
    have e1 : ρs[p.1]? = some (renN ρs nx' p.1) := by
      have h1 := List.getElem?_eq_getElem (hmlt p hp)
      unfold renN; rw [h1]
    have e2 : ρs[q.1]? = some (renN ρs nx' q.1) := by
      have h1 := List.getElem?_eq_getElem (hmlt q hq)
      unfold renN; rw [h1]
    simp only at hn
    rw [← hn] at e2
    exact nodupB_at hnd _ _ _ e1 e2
  · rcases hX with ⟨x, ι1, S', he, A⟩ | ⟨v, ι1, S', hr, he, A⟩
    · obtain ⟨ι', A'⟩ := conv r x ι1 S' w' A
      exact .inl ⟨x, ι', S', he, A'⟩
    · obtain ⟨ι', A'⟩ := conv .und undef ι1 S' w' A
      exact .inr ⟨v, ι', S', by rw [hr]; rfl, he, A'⟩
end Go.Proofs.YtkeehnhamkdogaaDoor
