/- A function with pointers to objects, from its code. No condition. -/
import Derived.Test.YtkeehnhamkdogaaDoorE13
namespace Go.Proofs.YtkeehnhamkdogaaDoor
set_option linter.unusedVariables false
set_option linter.unusedSimpArgs false
open Go.RowKit

theorem BlkOk.own {ι : Nat → Value} {S : Nat → Prop} {w : World} {k : Nat} {b : Blk} (h : BlkOk ι S w k b) (hl : b.live = true) {g : Nat} (hg : blkOf (ι k) = some g) : ¬ S g ∧ g < w.heap.size := by
  cases b with
  | dead => cases hl
  | obj cells =>
    obtain ⟨b2, arr, ty, h1, h2, _, h4⟩ := h
    rw [h1] at hg; cases hg
    exact ⟨h4, (Array.getElem?_eq_some_iff.1 h2).1⟩
  | row size e rows => exact ⟨(row_lt h g hg).2, (row_lt h g hg).1⟩
theorem VC_to {ι ι' : Nat → Value} {S : Nat → Prop} {w : World} {ρ : Nat → Nat} {x : CV} {u : Value} (h : ∀ k, x.men k = true → ι' (ρ k) = ι k) (hv : VC ι S w x u) : VC ι' S w (x.ren ρ) u := by
  cases x with
  | d x => exact hv
  | ptr k o => obtain ⟨b, h1, h2⟩ := hv; exact ⟨b, (h k (by simp [CV.men])).trans h1, h2⟩
  | eptr cs => exact hv
  | rptr k s i j => obtain ⟨b, n, c, h1, h2⟩ := hv; exact ⟨b, n, c, (h k (by simp [CV.men])).trans h1, h2⟩
  | row k => exact ⟨hv.1.trans (h k (by simp [CV.men])).symm, hv.2⟩
theorem BlkOk_to {ι ι' : Nat → Value} {S : Nat → Prop} {w : World} {ρ : Nat → Nat} {k : Nat} {b : Blk} (hk : b.live = true → ι' (ρ k) = ι k) (h : ∀ n, b.men n = true → ι' (ρ n) = ι n) (hv : BlkOk ι S w k b) : BlkOk ι' S w (ρ k) (b.ren ρ) := by
  cases b with
  | dead => trivial
  | obj l =>
    obtain ⟨b, arr, ty, h1, h2, h3, h4⟩ := hv
    exact ⟨b, arr, ty, (hk rfl).trans h1, h2, All2.map_left (h3.mono_mem fun a u ha hau => VC_to (fun n hn => h n (List.any_eq_true.2 ⟨a, ha, hn⟩)) hau), h4⟩
  | row s e rows =>
    obtain ⟨cs, h1, h2⟩ := hv
    exact ⟨cs, by rw [hk rfl]; exact h1, by rw [hk rfl]; exact h2⟩
/-! ### The same state under other names -/
def mpN (ps : List (Nat × Nat)) (k : Nat) : Nat := match findL ps k with
  | some k' => k'
  | none => k
def invN : List (Nat × Nat) → Nat → Option Nat
  | [], _ => none
  | (k, k') :: l, n => if k' = n then some k else invN l n
/-- Every name that is mentioned is one of the list. -/
def CV.inN (ps : List (Nat × Nat)) : CV → Bool
  | .ptr k _ | .rptr k _ _ _ | .row k => (findL ps k).isSome
  | _ => true
def T1.inN (ps : List (Nat × Nat)) : T1 → Bool
  | .c x => x.inN ps
  | .g l => l.all (CV.inN ps)
def TV.inN (ps : List (Nat × Nat)) : TV → Bool
  | .no => true
  | .und => true
  | .pan _ => true
  | .o x => x.inN ps
  | .tup l => l.all (T1.inN ps)
def Blk.inN (ps : List (Nat × Nat)) : Blk → Bool
  | .obj l _ => l.all (CV.inN ps)
  | _ => true
def leTR (ps : List (Nat × Nat)) : List (Nat × TV) → List (Nat × TV) → Prop
  | [], _ => True
  | (k, v) :: l, m => (match findL m k with
    | some v' => v'.inN ps = true ∧ v'.ren (mpN ps) = v
    | none => False) ∧ leTR ps l m
def leMR (ps : List (Nat × Nat)) : List (Nat × Blk) → List (Nat × Blk) → Prop
  | [], _ => True
  | (k, b) :: l, m => (match invN ps k with
    | some k' => match findL m k' with
      | some b' => b'.inN ps = true ∧ b'.ren (mpN ps) = b
      | none => False
    | none => False) ∧ leMR ps l m
def renChk (nx0 : Nat) (ps : List (Nat × Nat)) : Bool := nodupB (ps.map (·.1)) && nodupB (ps.map (·.2)) && ps.all fun p => Nat.ble nx0 p.2 || Nat.beq p.1 p.2
theorem invN_at : ∀ {ps : List (Nat × Nat)} {n k : Nat}, invN ps n = some k → (k, n) ∈ ps
  | (a, b) :: l, n, k, h => by
    simp only [invN] at h
    split at h
    · rename_i e; cases h; subst e; simp
    · exact List.mem_cons_of_mem _ (invN_at h)
theorem pair_uniq : ∀ {ps : List (Nat × Nat)}, nodupB (ps.map (·.1)) = true → ∀ {k n n' : Nat}, (k, n) ∈ ps → (k, n') ∈ ps → n = n' := fun {ps} h {k n n'} h1 h2 => by
  obtain ⟨i, hi⟩ := List.getElem?_of_mem h1
  obtain ⟨j, hj⟩ := List.getElem?_of_mem h2
  have := nodupB_at h i j k (by simp [hi]) (by simp [hj])
  subst this
  rw [hi] at hj; cases hj; rfl
theorem pair_uniq' : ∀ {ps : List (Nat × Nat)}, nodupB (ps.map (·.2)) = true → ∀ {k k' n : Nat}, (k, n) ∈ ps → (k', n) ∈ ps → k = k' := fun {ps} h {k k' n} h1 h2 => by
  obtain ⟨i, hi⟩ := List.getElem?_of_mem h1
  obtain ⟨j, hj⟩ := List.getElem?_of_mem h2
  have := nodupB_at h i j n (by simp [hi]) (by simp [hj])
  subst this
  rw [hi] at hj; cases hj; rfl
theorem CV.in_men {ps : List (Nat × Nat)} {x : CV} (h : x.inN ps = true) {k : Nat} (hk : x.men k = true) : (findL ps k).isSome = true := by
  cases x <;> simp_all [CV.inN, CV.men]
theorem T1.in_men {ps : List (Nat × Nat)} {x : T1} (h : x.inN ps = true) {k : Nat} (hk : x.men k = true) : (findL ps k).isSome = true := by
  cases x with
  | c x => exact CV.in_men h hk
  | g l =>
    obtain ⟨y, hy, hm⟩ := List.any_eq_true.1 hk
    exact CV.in_men (List.all_eq_true.1 h y hy) hm
theorem V1_to {ι ι' : Nat → Value} {S : Nat → Prop} {w : World} {ρ : Nat → Nat} {x : T1} {u : Value} (h : ∀ k, x.men k = true → ι' (ρ k) = ι k) (hv : V1 ι S w x u) : V1 ι' S w (x.ren ρ) u := by
  cases x with
  | c x => exact VC_to h hv
  | g l =>
    obtain ⟨us, h1, h2⟩ := hv
    exact ⟨us, h1, All2.map_left (h2.mono_mem fun a u ha hau => VC_to (fun n hn => h n (List.any_eq_true.2 ⟨a, ha, hn⟩)) hau)⟩
theorem V_to {ι ι' : Nat → Value} {S : Nat → Prop} {w : World} {ρ : Nat → Nat} {x : TV} {u : Value} (h : ∀ k, x.men k = true → ι' (ρ k) = ι k) (hv : V ι S w x u) : V ι' S w (x.ren ρ) u := by
  cases x with
  | no => trivial
  | und => exact hv
  | pan v => exact hv
  | o x => exact V1_to h hv
  | tup l =>
    obtain ⟨us, h1, h2⟩ := hv
    exact ⟨us, h1, All2.map_left (h2.mono_mem fun a u ha hau => V1_to (fun n hn => h n (List.any_eq_true.2 ⟨a, ha, hn⟩)) hau)⟩
theorem leTR_ok {ps : List (Nat × Nat)} : ∀ {l m : List (Nat × TV)}, leTR ps l m → ∀ k v, findL l k = some v → ∃ v', findL m k = some v' ∧ v'.inN ps = true ∧ v'.ren (mpN ps) = v
  | [], _, _, k, v, h => by cases h
  | (a, b) :: l, m, hl, k, v, h => by
    simp only [findL] at h
    split at h
    · rename_i e
      cases h; subst e
      have := hl.1
      split at this
      · rename_i v' hv'; exact ⟨v', hv', this⟩
      · exact this.elim
    · exact leTR_ok hl.2 k v h
theorem leMR_ok {ps : List (Nat × Nat)} : ∀ {l m : List (Nat × Blk)}, leMR ps l m → ∀ k b, findL l k = some b → ∃ k' b', (k', k) ∈ ps ∧ findL m k' = some b' ∧ b'.inN ps = true ∧ b'.ren (mpN ps) = b
  | [], _, _, k, v, h => by cases h
  | (a, b) :: l, m, hl, k, v, h => by
    simp only [findL] at h
    split at h
    · rename_i e
      cases h; subst e
      have := hl.1
      split at this
      · rename_i k' hk'
        split at this
        · rename_i b' hb'; exact ⟨k', b', invN_at hk', hb', this⟩
        · exact this.elim
      · exact this.elim
    · exact leMR_ok hl.2 k v h
theorem SLe.ren {nx0 : Nat} (ps : List (Nat × Nat)) {s t : St} (h1 : leTR ps s.tm t.tm) (h2 : leMR ps s.mem t.mem) (hc : renChk nx0 ps = true) : SLe nx0 s t := fun E a w he ⟨ι, S, I⟩ => by
  unfold renChk at hc
  simp only [Bool.and_eq_true] at hc
  obtain ⟨⟨c1, c2⟩, c3⟩ := hc
  obtain ⟨ι', hι'⟩ : ∃ ι' : Nat → Value, ∀ n, ι' n = match invN ps n with
    | some k => ι k
    | none => ι n := ⟨_, fun _ => rfl⟩
  have hρ : ∀ k n, (k, n) ∈ ps → ι' n = ι k := fun k n h => by
    rw [hι']
    cases hi : invN ps n with
    | none =>
      exfalso
      have key : ∀ (l : List (Nat × Nat)), (k, n) ∈ l → invN l n ≠ none := fun l => by
        induction l with
        | nil => intro h; cases h
        | cons p l ih =>
          obtain ⟨a, b⟩ := p
          intro h
          simp only [invN]
          split
          · simp
          · rename_i e
            rcases List.mem_cons.1 h with h | h
            · cases h; exact absurd rfl e
            · exact ih h
      exact key ps h hi
    | some k' => rw [pair_uniq' c2 h (invN_at hi)]
  have hmp : ∀ k, (findL ps k).isSome = true → ι' (mpN ps k) = ι k := fun k hk => by
    obtain ⟨n, hn⟩ := Option.isSome_iff_exists.1 hk
    unfold mpN
    rw [hn]
    exact hρ k n (findL_mem hn)
  have hmp' : ∀ k n, (k, n) ∈ ps → mpN ps k = n := fun k n h => by
    have hs : (findL ps k).isSome = true := by
      cases hf : findL ps k with
      | some _ => rfl
      | none => exact absurd (List.mem_map.2 ⟨_, h, rfl⟩) (findL_none hf)
    obtain ⟨n', hn'⟩ := Option.isSome_iff_exists.1 hs
    unfold mpN
    rw [hn']
    exact pair_uniq c1 (findL_mem hn') h
  refine ⟨ι', S, I.os, I.tape, I.output, I.size, I.old, I.slt, I.s0, I.sg, fun k tv hk => ?_, fun n b hn => ?_, fun n b hn hl g hg => ?_, fun n n' b b' g hn hn' hl hl' hg hg' => ?_, I.dn, I.sz, I.gl, fun n hn => ?_⟩
  · obtain ⟨v', e1, e2, rfl⟩ := leTR_ok h1 k tv hk
    refine V_to (fun j hj => hmp j ?_) (I.tms k v' e1)
    cases v' with
    | no => cases hj
    | und => cases hj
    | pan v => cases hj
    | o x => exact T1.in_men e2 hj
    | tup l =>
      obtain ⟨y, hy, hm⟩ := List.any_eq_true.1 hj
      exact T1.in_men (List.all_eq_true.1 e2 y hy) hm
  · obtain ⟨k, b', e0, e1, e2, rfl⟩ := leMR_ok h2 n b hn
    rw [← hmp' k n e0]
    refine BlkOk_to (fun _ => by rw [hmp' k n e0]; exact hρ k n e0) (fun j hj => hmp j ?_) (I.blk k b' e1)
    cases b' with
    | obj l =>
      obtain ⟨y, hy, hm⟩ := List.any_eq_true.1 hj
      exact CV.in_men (List.all_eq_true.1 e2 y hy) hm
    | _ => cases hj
  · obtain ⟨k, b', e0, e1, e2, rfl⟩ := leMR_ok h2 n b hn
    rw [Blk.live_ren] at hl
    rw [hρ k n e0] at hg
    exact I.mutb k b' e1 hl g hg
  · obtain ⟨k, b1, e0, e1, e2, rfl⟩ := leMR_ok h2 n b hn
    obtain ⟨k', b2, q0, q1, q2, rfl⟩ := leMR_ok h2 n' b' hn'
    rw [Blk.live_ren] at hl hl'
    rw [hρ k n e0] at hg
    rw [hρ k' n' q0] at hg'
    have := I.dst k k' b1 b2 g e1 q1 hl hl' hg hg'
    subst this
    exact pair_uniq c1 e0 q0
  · rw [hι', ← I.ik n hn]
    cases hi : invN ps n with
    | none => rfl
    | some k =>
      have hm := invN_at hi
      have := List.all_eq_true.1 c3 _ hm
      simp only [Bool.or_eq_true] at this
      rcases this with h | h
      · have := Nat.le_of_ble_eq_true h; omega
      · have e : k = n := Nat.eq_of_beq_eq_true h
        rw [e]
/-- A nil slice in an object's cell may be taken for an own row without elements. -/
theorem SLe.ownCell {nx0 : Nat} {s : St} (k0 j k size : Nat) (e : TypeId) {cells : List CV} {tg : TypeId} (ht : findL s.mem k0 = some (.obj cells tg)) (hj : cells[j]? = some (.d (.v (.slice none 0 0)))) (hk : findL s.mem k = none) (h1 : (s.tm.all fun p => !p.2.men k) = true) (h2 : (s.mem.all fun p => !p.2.men k) = true) (hn : Nat.ble nx0 k = true) :
    SLe nx0 ⟨s.tm, (k0, .obj (cells.set j (.row k)) tg) :: (k, .row size e []) :: s.mem, k + 1⟩ s := fun E a w he ⟨ι, S, I⟩ => by
  have hn' : E.nx0 ≤ k := by rw [he]; exact Nat.le_of_ble_eq_true hn
  obtain ⟨ι', hι'⟩ : ∃ ι' : Nat → Value, ∀ j, ι' j = if j = k then .slice none 0 0 else ι j := ⟨_, fun _ => rfl⟩
  have hk' : ι' k = .slice none 0 0 := by rw [hι', if_pos rfl]
  have ho : ∀ j, j ≠ k → ι' j = ι j := fun j hj => by rw [hι', if_neg hj]
  have hmt : ∀ t tv, findL s.tm t = some tv → ∀ j, tv.men j = true → ι' j = ι j := fun t tv ht j hj => ho j fun e => by
    subst e
    have := List.all_eq_true.1 h1 _ (findL_mem ht)
    rw [hj] at this; cases this
  have hmm : ∀ n b, findL s.mem n = some b → ∀ j, b.men j = true → ι' j = ι j := fun n b hb j hj => ho j fun e => by
    subst e
    have := List.all_eq_true.1 h2 _ (findL_mem hb)
    rw [hj] at this; cases this
  have hne : ∀ n b, findL s.mem n = some b → n ≠ k := fun n b hb e => by subst e; rw [hk] at hb; cases hb
  have hold : ∀ n b, findL s.mem n = some b → BlkOk ι' S w n b := fun n b hb => by
    have hb0 := I.blk n b hb
    exact BlkOk.mono (fun _ _ => rfl) (fun _ h => h) (fun _ => ho n (hne n b hb)) (hmm n b hb) (fun hl g hg => ⟨rfl, (hb0.own hl hg).1⟩) hb0
  have hcase : ∀ n b, findL ((k0, Blk.obj (cells.set j (.row k)) tg) :: (k, Blk.row size e []) :: s.mem) n = some b → (n = k0 ∧ b = .obj (cells.set j (.row k)) tg) ∨ (n = k ∧ b = .row size e []) ∨ findL s.mem n = some b := fun n b hb => by
    simp only [findL] at hb
    split at hb
    · rename_i e; cases hb; exact .inl ⟨e.symm, rfl⟩
    · split at hb
      · rename_i e; cases hb; exact .inr (.inl ⟨e.symm, rfl⟩)
      · exact .inr (.inr hb)
  refine ⟨ι', S, I.os, I.tape, I.output, I.size, I.old, I.slt, I.s0, I.sg, fun t' tv ht' => V.mono (fun _ _ => rfl) (fun _ h => h) (hmt t' tv ht') (I.tms t' tv ht'), fun n b hb => ?_, fun n b hb hl g hg => ?_, fun n n' b b' g hb hb' hl hl' hg hg' => ?_, I.dn, I.sz, I.gl, fun j hj => (ho j (by omega)).trans (I.ik j hj)⟩
  · rcases hcase n b hb with ⟨rfl, rfl⟩ | ⟨rfl, rfl⟩ | hb
    · obtain ⟨b, arr, ty, e1, e2, e3, e4⟩ := hold _ _ ht
      obtain ⟨u, hu, huv⟩ := e3.at_left hj
      have hun : u = .slice none 0 0 := by have h' : Imm S w _ u := huv; cases h'; rfl
      refine ⟨b, arr, ty, e1, e2, ⟨by simpa using e3.len, fun i a u' ha hu' => ?_⟩, e4⟩
      rw [List.getElem?_set] at ha
      split at ha
      · rename_i ei
        subst ei
        split at ha
        · cases ha
          rw [hu] at hu'
          cases hu'
          exact ⟨hun.trans hk'.symm, none, 0, 0, hun⟩
        · cases ha
      · exact e3.get i a u' ha hu'
    · exact nil_row hk'
    · exact hold n b hb
  · rcases hcase n b hb with ⟨rfl, rfl⟩ | ⟨rfl, rfl⟩ | hb
    · rw [ho _ (hne _ _ ht)] at hg; exact I.mutb _ _ ht rfl g hg
    · rw [hk'] at hg; cases hg
    · rw [ho n (hne n b hb)] at hg; exact I.mutb n b hb hl g hg
  · have key : ∀ n b, findL ((k0, Blk.obj (cells.set j (.row k)) tg) :: (k, Blk.row size e []) :: s.mem) n = some b → b.live = true → blkOf (ι' n) = some g → ∃ b', findL s.mem n = some b' ∧ b'.live = true ∧ blkOf (ι n) = some g := fun n b hb hl hg => by
      rcases hcase n b hb with ⟨rfl, rfl⟩ | ⟨rfl, rfl⟩ | hb
      · exact ⟨_, ht, rfl, by rw [← ho _ (hne _ _ ht)]; exact hg⟩
      · rw [hk'] at hg; cases hg
      · exact ⟨b, hb, hl, by rw [← ho n (hne n b hb)]; exact hg⟩
    obtain ⟨c, hc1, hc2, hc3⟩ := key n b hb hl hg
    obtain ⟨c', hc1', hc2', hc3'⟩ := key n' b' hb' hl' hg'
    exact I.dst n n' c c' g hc1 hc1' hc2 hc2' hc3 hc3'
def idxN : List Nat → Nat → Nat
  | [], _ => 0
  | x :: l, k => if x = k then 0 else idxN l k + 1
theorem idxN_at : ∀ {l : List Nat} {k : Nat}, k ∈ l → l[idxN l k]? = some k ∧ idxN l k < l.length
  | [], k, h => by cases h
  | x :: l, k, h => by
    simp only [idxN]
    split
    · rename_i e; subst e; simp
    · rename_i e
      have : k ∈ l := by
        rcases List.mem_cons.1 h with h | h
        · exact absurd h.symm e
        · exact h
      obtain ⟨h1, h2⟩ := idxN_at this
      exact ⟨by simpa using h1, by simp; omega⟩
def expN (nx : Nat) (src : List Nat) (k : Nat) : Nat := match Nat.blt k nx with
  | true => k
  | false => nx + idxN src k
def expo (st : St) (ns : List Nat) (nx : Nat) : Option (List (Nat × Blk) × List (Nat × Blk) × List Nat) :=
  match subMem (findL st.mem) ns, subMem (findL st.mem) ((reach (findL st.mem) 40 ns []).filter (fun k => Nat.ble nx k)) with
  | some u, some n => some (u, n, (reach (findL st.mem) 40 ns []).filter (fun k => Nat.ble nx k))
  | _, _ => none
def closB (nx : Nat) (src : List Nat) (l : List (Nat × Blk)) : Bool := l.all fun p => (refsB p.2).all fun k => Nat.blt k nx || src.any (Nat.beq k)
def retOkM (L : Nat → Option Lay) (rs : List ResultVar) (ns : List Nat) (nx : Nat) (r : TV) (upd : List (Nat × Blk)) (new : List Blk) (st : St) : Prop :=
  match eatT (findL st.mem) (rs.map (resC L st)), expo st ns nx with
  | some (ys, ks), some (u, n, src) => (nodupB src && disj ks src && (ks.all fun k => Nat.ble nx k) && (src.all fun k => Nat.ble nx k) && closB nx src u && closB nx src n) = true ∧ TLe (retT ys) r ∧ renM (expN nx src) u = upd ∧ (n.map fun p => p.2.ren (expN nx src)) = new
  | _, _ => False
/-- The memory behind a panic. -/
def retOkP (ns : List Nat) (nx : Nat) (upd : List (Nat × Blk)) (new : List Blk) (st : St) : Prop :=
  match expo st ns nx with
  | some (u, n, src) => (nodupB src && disj [] src && (([] : List Nat).all fun k => Nat.ble nx k) && (src.all fun k => Nat.ble nx k) && closB nx src u && closB nx src n) = true ∧ renM (expN nx src) u = upd ∧ (n.map fun p => p.2.ren (expN nx src)) = new
  | none => False
def panIs (r : TV) (ch : List PanicEntry) : Prop := ∃ v, r = .pan v ∧ ch = panE v
def fnQM (L : Nat → Option Lay) (rs : List ResultVar) (ns : List Nat) (nx : Nat) (r : TV) (upd : List (Nat × Blk)) (new : List Blk) : Exit → St → Prop
  | .normal, st | .ret, st => retOkM L rs ns nx r upd new st
  | .panic ch, st => panIs r ch ∧ retOkP ns nx upd new st
  | _, _ => False
theorem men_refs {b : Blk} {k : Nat} (h : b.men k = true) : k ∈ refsB b := by
  cases b with
  | obj l =>
    obtain ⟨x, hx, hm⟩ := List.any_eq_true.1 h
    refine List.mem_filterMap.2 ⟨x, hx, ?_⟩
    cases x <;> simp_all [CV.men]
  | row => cases h
  | dead => cases h
/-- The values of all results, at the end of the code. -/
theorem results_ok {P : Program} {L : Nat → Option Lay} (hL : LOk P L) {E : Env} {ι : Nat → Value} {S : Nat → Prop} {st : St} {a : Act} {w : World} (I : Inv E ι S (findL st.tm) (findL st.mem) a w) {fn : Func} {ys : List T1} {ks : List Nat}
    (hy : eatT (findL st.mem) (fn.results.toList.map (resC L st)) = some (ys, ks)) : ∃ v, (results fn a.tmps).run P w = .ok v w ∧ (∀ k ∈ ks, ∃ size e rows, findL st.mem k = some (.row size e rows) ∧ BlkOk ι S w k (.row size e rows)) ∧ ∀ ι', V ι' (giveUp ι S ks) w (retT ys) v := by
  have hone : ∀ rv tv, resC L st rv = some tv → ∃ v, (resF a.tmps rv).run P w = .ok v w ∧ V ι S w tv v := fun rv tv hrv => by
    cases rv with
    | tmp t => exact ⟨_, rfl, I.tms t tv hrv⟩
    | cell b t =>
      simp only [resC] at hrv
      split at hrv
      · rename_i l k off hl hb
        split at hrv
        · rename_i cells tg hk
          split at hrv
          · rename_i hle
            obtain ⟨bk, hb1, hb2⟩ := I.tms b _ hb
            obtain ⟨b', arr, ty, h3, h4, h5, _⟩ := I.blk k _ hk
            obtain rfl : bk = b' := by rw [hb1] at h3; cases h3; rfl
            have hlen := h5.len
            have hle' := Nat.le_of_ble_eq_true hle
            have hr := run_load_range (P := P) (layOf_ok (hL _ _ hl)) (w := w) (g := bk) (f := off) (us := (arr.toList.drop off).take l.size) (by simp at hlen ⊢; omega) (fun j u hj => by
              obtain ⟨hj1, _⟩ := drop_take_get hj
              rw [cell_of_row w bk (off + j) arr ty.1 (0, 0) h4]
              simpa using hj1)
            rcases V_ofCells hrv ((h5.drop off).take l.size) with ⟨ha, hV⟩ | ⟨ha, u, hu, hV⟩
            · exact ⟨_, by simp only [resF, hb2]; simp [asAddr, hr.1 ha], hV⟩
            · exact ⟨_, by simp only [resF, hb2]; simp [asAddr, hr.2 ha u hu], hV⟩
          · cases hrv
        · cases hrv
      · cases hrv
  have hvals : ∀ (l : List ResultVar) (ys : List T1) (ks : List Nat), eatT (findL st.mem) (l.map (resC L st)) = some (ys, ks) → ∃ vs, All2 (fun rv v => (resF a.tmps rv).run P w = .ok v w) l vs ∧ All2 (fun (a : Option TV) u => ∀ tv, a = some tv → V ι S w tv u) (l.map (resC L st)) vs := fun l => by
    induction l with
    | nil => intro ys ks _; exact ⟨[], .nil, .nil⟩
    | cons rv l ih =>
      intro ys ks h
      simp only [List.map_cons] at h
      cases hrv : resC L st rv with
      | none => rw [hrv] at h; simp [eatT] at h
      | some tv =>
        rw [hrv] at h
        cases tv with
        | no => simp [eatT] at h
        | und => simp [eatT] at h
        | tup l => simp [eatT] at h
        | pan v => simp [eatT] at h
        | o x =>
          simp only [eatT] at h
          split at h
          · rename_i y k1 ys' k2 h1 h2
            obtain ⟨vs, g1, g2⟩ := ih ys' k2 h2
            obtain ⟨v, e1, e2⟩ := hone rv _ hrv
            refine ⟨v :: vs, .cons e1 g1, ?_⟩
            simp only [List.map_cons]
            refine .cons (fun tv htv => ?_) g2
            rw [hrv] at htv; cases htv
            exact e2
          · cases h
  obtain ⟨vs, g1, g2⟩ := hvals _ ys ks hy
  have hrows : ∀ k ∈ ks, ∃ size e rows, findL st.mem k = some (.row size e rows) ∧ BlkOk ι S w k (.row size e rows) := fun k hk => by
    obtain ⟨size, e, rows, hm⟩ := eatT_rows hy k hk
    exact ⟨size, e, rows, hm, I.blk k _ hm⟩
  have hres : (results fn a.tmps).run P w = .ok (if h : vs.toArray.size = 1 then vs.toArray[0] else .tuple vs.toArray) w := by
    have h1 := mapM_run _ _ _ g1
    rw [results_F, Sem.run_bind, Array.mapM_eq_mapM_toList, run_map, h1]
    rfl
  refine ⟨_, hres, hrows, fun ι' => ?_⟩
  have hall := eatT_ok (ι' := ι') (S' := giveUp ι S ks) (fun b hb => .inl hb) hy g2 (fun k hk b hb => I.blk k b hb) (fun k hk g hg => .inr ⟨k, hk, hg⟩)
  match ys, vs, hall with
  | [y], vs, hall =>
    obtain ⟨v, rfl, hv⟩ := hall.one_left
    exact hv
  | [], vs, hall =>
    obtain rfl := hall.nil_left
    exact ⟨[], rfl, .nil⟩
  | y :: z :: ys, vs, hall =>
    have : ¬ vs.toArray.size = 1 := by have := hall.len; simp at this ⊢; omega
    rw [dif_neg this]
    exact ⟨vs, rfl, hall⟩
/-- From the state at the end to what the caller may know. -/
theorem core_after {C : Ctx} {m : List (Nat × Blk)} {upd : List (Nat × Blk)} {new : List Blk} {ι : Nat → Value} {S : Nat → Prop} {w w' : World} {st : St} {a : Act} {dd : List Deferred} {en : Nat} (hmlt : ∀ p ∈ m, p.1 < C.nx0) : ∀ (ι1 : Nat → Value) (S1 : Nat → Prop) (tv : TV) (x : Value) (ks : List Nat) (u n : List (Nat × Blk)) (src : List Nat), Inv ⟨w, fun g => ∃ p ∈ m, p.2.live = true ∧ blkOf (ι p.1) = some g, S, en, C.Γ, ι, C.nx0, dd⟩ ι1 S1 (findL st.tm) (findL st.mem) a w' →
      expo st (m.map (·.1)) C.nx0 = some (u, n, src) → (nodupB src && disj ks src && (ks.all fun k => Nat.ble C.nx0 k) && (src.all fun k => Nat.ble C.nx0 k) && closB C.nx0 src u && closB C.nx0 src n) = true → renM (expN C.nx0 src) u = upd → (n.map fun p => p.2.ren (expN C.nx0 src)) = new →
      (∀ k ∈ ks, ∃ size e rows, findL st.mem k = some (.row size e rows) ∧ BlkOk ι1 S1 w' k (.row size e rows)) → (∀ ι', V ι' (giveUp ι1 S1 ks) w' tv x) → ∃ ι' S', After ι S w C.nx0 ⟨tv, m.map (·.1), upd, new⟩ x ι' S' w' := fun ι1 S1 tv x ks u n src I hex hchk hu hnw hrows hval => by
      simp only [Bool.and_eq_true] at hchk
      obtain ⟨⟨⟨⟨⟨c1, c2⟩, c3⟩, c4⟩, c5⟩, c6⟩ := hchk
      obtain ⟨hu0, hn0⟩ : subMem (findL st.mem) (m.map (·.1)) = some u ∧ subMem (findL st.mem) src = some n := by
        unfold expo at hex
        split at hex
        · rename_i h1 h2; cases hex; exact ⟨h1, h2⟩
        · cases hex
      obtain ⟨u1, u2⟩ := subMem_ok hu0
      obtain ⟨n1, n2⟩ := subMem_ok hn0
      have hks : ∀ k ∈ ks, C.nx0 ≤ k := fun k hk => Nat.le_of_ble_eq_true (List.all_eq_true.1 c3 k hk)
      have hsrc : ∀ k ∈ src, C.nx0 ≤ k := fun k hk => Nat.le_of_ble_eq_true (List.all_eq_true.1 c4 k hk)
      have hult : ∀ p ∈ u, p.1 < C.nx0 := fun p hp => by
        have : p.1 ∈ m.map (·.1) := by rw [← u1]; exact List.mem_map.2 ⟨p, hp, rfl⟩
        obtain ⟨q, hq, he⟩ := List.mem_map.1 this
        rw [← he]; exact hmlt q hq
      have hexp : ∀ k, k < C.nx0 → expN C.nx0 src k = k := fun k hk => by
        unfold expN
        have : Nat.blt k C.nx0 = true := by simpa [Nat.blt_eq] using hk
        rw [this]
      have hexs : ∀ k, C.nx0 ≤ k → expN C.nx0 src k = C.nx0 + idxN src k := fun k hk => by
        unfold expN
        have : Nat.blt k C.nx0 = false := by
          cases hb : Nat.blt k C.nx0 with
          | false => rfl
          | true => rw [Nat.blt_eq] at hb; omega
        rw [this]
      have hnl : new.length = src.length := by rw [← hnw, List.length_map, ← n1, List.length_map]
      obtain ⟨ι', hι'⟩ : ∃ ι' : Nat → Value, ∀ k, ι' k = if C.nx0 ≤ k ∧ k < C.nx0 + new.length then ι1 (src.getD (k - C.nx0) 0) else ι k := ⟨_, fun _ => rfl⟩
      have hlow : ∀ k, k < C.nx0 → ι' k = ι1 k := fun k hk => by rw [hι', if_neg (by omega), I.ik k hk]
      have hρ : ∀ k, (k < C.nx0 ∨ k ∈ src) → ι' (expN C.nx0 src k) = ι1 k := fun k hk => by
        by_cases hlt : k < C.nx0
        · rw [hexp k hlt]; exact hlow k hlt
        · have hks : k ∈ src := by rcases hk with h | h; exact absurd h hlt; exact h
          obtain ⟨i1, i2⟩ := idxN_at hks
          rw [hexs k (by omega), hι', if_pos (by omega), show C.nx0 + idxN src k - C.nx0 = idxN src k by omega]
          simp [List.getD, i1]
      have hclos : ∀ {l : List (Nat × Blk)}, closB C.nx0 src l = true → ∀ p ∈ l, ∀ k, p.2.men k = true → k < C.nx0 ∨ k ∈ src := fun {l} hl p hp k hk => by
        have := List.all_eq_true.1 (List.all_eq_true.1 hl p hp) k (men_refs hk)
        rcases (by simpa only [Bool.or_eq_true] using this : _ ∨ _) with h | h
        · left; rw [Nat.blt_eq] at h; exact h
        · right
          obtain ⟨k', hk', e⟩ := List.any_eq_true.1 h
          rw [Nat.eq_of_beq_eq_true e]; exact hk'
      have hI := I
      -- a block of what the caller handed in belongs to a name that has been given up, if it isn't that name's own any more
      have hM : ∀ g, (∃ p ∈ m, p.2.live = true ∧ blkOf (ι p.1) = some g) → (∃ k, (k, Blk.dead) ∈ upd ∧ blkOf (ι k) = some g) ∨ ∃ p ∈ u, p.2.live = true ∧ blkOf (ι1 p.1) = some g := fun g ⟨p, hp, hl, hg⟩ => by
        obtain ⟨q, hq, he⟩ : ∃ q ∈ u, q.1 = p.1 := by
          have : p.1 ∈ u.map (·.1) := by rw [u1]; exact List.mem_map.2 ⟨p, hp, rfl⟩
          obtain ⟨q, hq, he⟩ := List.mem_map.1 this
          exact ⟨q, hq, he⟩
        cases hql : q.2.live with
        | true => exact .inr ⟨q, hq, hql, by rw [I.ik q.1 (hult q hq), he]; exact hg⟩
        | false =>
          refine .inl ⟨q.1, ?_, by rw [he]; exact hg⟩
          rw [← hu]
          refine List.mem_map.2 ⟨q, hq, ?_⟩
          rw [hexp q.1 (hult q hq)]
          have : q.2 = .dead := by cases hb : q.2 <;> simp_all [Blk.live]
          rw [this]; rfl
      have hnoS : ∀ p : Nat × Blk, findL st.mem p.1 = some p.2 → p.2.live = true → (p.1 < C.nx0 ∨ p.1 ∈ src) → ∀ g, blkOf (ι1 p.1) = some g → ¬ giveUp ι1 S1 ks g := fun p hp hl hpk g hg hgu => by
        rcases hgu with h | ⟨k, hk, h⟩
        · exact ((I.blk p.1 p.2 hp).own hl hg).1 h
        · obtain ⟨size, e, rows, hmk, _⟩ := hrows k hk
          have := I.dst p.1 k p.2 _ g hp hmk hl rfl hg h
          rcases hpk with hpk | hpk
          · have := hks k hk; omega
          · rw [this] at hpk
            exact disj_spec c2 hk hpk
      have hok : ∀ {l : List (Nat × Blk)}, (∀ p ∈ l, findL st.mem p.1 = some p.2) → closB C.nx0 src l = true → (∀ p ∈ l, p.1 < C.nx0 ∨ p.1 ∈ src) → ∀ p ∈ l, BlkOk ι' (giveUp ι1 S1 ks) w' (expN C.nx0 src p.1) (p.2.ren (expN C.nx0 src)) := fun {l} h1 h2 h3 p hp => by
        refine BlkOk_to (ι := ι1) (fun _ => hρ _ (h3 p hp)) (fun k hk => hρ k (hclos h2 p hp k hk)) ?_
        exact BlkOk.mono (fun _ _ => rfl) (fun b hb => .inl hb) (fun _ => rfl) (fun _ _ => rfl) (fun hl g hg => ⟨rfl, hnoS p (h1 p hp) hl (h3 p hp) g hg⟩) (I.blk p.1 p.2 (h1 p hp))
      have hsn : ∀ p ∈ n, p.1 ∈ src := fun p hp => by rw [← n1]; exact List.mem_map.2 ⟨p, hp, rfl⟩
      have hnew : ∀ i b, new[i]? = some b → ∃ p, n[i]? = some p ∧ p ∈ n ∧ src[i]? = some p.1 ∧ b = p.2.ren (expN C.nx0 src) ∧ ι' (C.nx0 + i) = ι1 p.1 := fun i b hb => by
        rw [← hnw, List.getElem?_map] at hb
        obtain ⟨p, hp, rfl⟩ := Option.map_eq_some_iff.1 hb
        have hsi : src[i]? = some p.1 := by rw [← n1, List.getElem?_map, hp]; rfl
        have hlt := (List.getElem?_eq_some_iff.1 hsi).1
        refine ⟨p, hp, List.mem_of_getElem? hp, hsi, rfl, ?_⟩
        rw [hι', if_pos (by omega), show C.nx0 + i - C.nx0 = i by omega]
        simp [List.getD, hsi]
      have hMg : ∀ (g : Nat) (p : Nat × Blk), findL st.mem p.1 = some p.2 → p.2.live = true → p.1 ∈ src → blkOf (ι1 p.1) = some g → (∃ q ∈ m, q.2.live = true ∧ blkOf (ι q.1) = some g) → ∃ k, (k, Blk.dead) ∈ upd ∧ blkOf (ι k) = some g := fun g p hp hl hps hg hMM => by
        rcases hM g hMM with h | ⟨q, hq, hql, hqg⟩
        · exact h
        · have := I.dst p.1 q.1 p.2 q.2 g hp (u2 q hq) hl hql hg hqg
          have h1 := hsrc _ hps
          have h2 := hult q hq
          omega
      refine ⟨ι', giveUp ι1 S1 ks, hval ι', fun k hk => (hι' k).trans (if_neg (by simp only at hk; omega)), fun b hb => .inl (I.s0 b hb), fun b hb => ?_, fun b hb => ?_, I.os, I.tape, I.output, I.size, fun b hb hne => I.old b hb fun ⟨p, hp, _, hg⟩ => ?_, fun k b hk => ?_, fun i b hb => ?_, fun i b hb hl g hg => ?_, fun i j b b' g hb hb' hl hl' hg hg' => ?_⟩
      · have fin : (∃ p ∈ m, p.2.live = true ∧ blkOf (ι p.1) = some b) → (∀ p ∈ u, p.2.live = true → blkOf (ι1 p.1) = some b → False) → S b ∨ w.heap.size ≤ b ∨ ∃ k, (k, Blk.dead) ∈ upd ∧ blkOf (ι k) = some b := fun hMM hno => by
          rcases hM b hMM with h | ⟨p, hp, hl, hg⟩
          · exact .inr (.inr h)
          · exact (hno p hp hl hg).elim
        rcases hb with hb | ⟨k, hk, hb⟩
        · rcases I.sg b hb with h | h | h
          · exact .inl h
          · exact .inr (.inl h)
          · exact fin h fun p hp hl hg => ((I.blk p.1 p.2 (u2 p hp)).own hl hg).1 hb
        · obtain ⟨size, e, rows, hmk, _⟩ := hrows k hk
          rcases I.mutb k _ hmk rfl b hb with h | h
          · exact fin h fun p hp hl hg => by
              have h1 := I.dst p.1 k p.2 _ b (u2 p hp) hmk hl rfl hg hb
              have h2 := hks k hk
              have h3 := hult p hp
              omega
          · exact .inr (.inl h)
      · rcases hb with hb | ⟨k, hk, hb⟩
        · exact I.slt b hb
        · obtain ⟨size, e, rows, _, hr⟩ := hrows k hk
          exact (row_lt hr b hb).1
      · refine hne p.1 ?_ hg
        rw [← hu]
        have : p.1 ∈ u.map (·.1) := by rw [u1]; exact List.mem_map.2 ⟨p, hp, rfl⟩
        obtain ⟨q, hq, he⟩ := List.mem_map.1 this
        refine List.mem_map.2 ⟨_, List.mem_map.2 ⟨q, hq, rfl⟩, ?_⟩
        simp only
        rw [hexp q.1 (hult q hq)]
        exact he
      · rw [← hu] at hk
        obtain ⟨p, hp, he⟩ := List.mem_map.1 hk
        cases he
        exact hok u2 c5 (fun p hp => .inl (hult p hp)) p hp
      · obtain ⟨p, h1, h2, h3, rfl, h5⟩ := hnew i b hb
        have := hok n2 c6 (fun p hp => .inr (hsn p hp)) p h2
        have hidx : expN C.nx0 src p.1 = C.nx0 + i := by
          rw [hexs _ (hsrc _ (hsn p h2))]
          obtain ⟨i1, i2⟩ := idxN_at (hsn p h2)
          rw [nodupB_at c1 _ _ _ i1 h3]
        rwa [hidx] at this
      · obtain ⟨p, h1, h2, h3, rfl, h5⟩ := hnew i b hb
        rw [Blk.live_ren] at hl
        rw [h5] at hg
        have hp := n2 p h2
        refine ⟨fun hS => ((I.blk p.1 p.2 hp).own hl hg).1 (I.s0 g hS), ?_⟩
        rcases I.mutb p.1 p.2 hp hl g hg with h | h
        · exact .inr (hMg g p hp hl (hsn p h2) hg h)
        · exact .inl h
      · obtain ⟨p, h1, h2, h3, rfl, h5⟩ := hnew i b hb
        obtain ⟨q, q1, q2, q3, rfl, q5⟩ := hnew j b' hb'
        rw [Blk.live_ren] at hl hl'
        rw [h5] at hg
        rw [q5] at hg'
        have := I.dst p.1 q.1 p.2 q.2 g (n2 p h2) (n2 q q2) hl hl' hg hg'
        rw [← this] at q3
        exact nodupB_at c1 _ _ _ h3 q3
theorem fn_ruleM {C : Ctx} {f : FuncId} {fn : Func} {c : Code} (hL : LOk C.P C.L) (hm : C.P.follows .mixedOrders = true) (hf : C.P.funcs[f]? = some fn) (hb : fn.body = some c) (hname : (fn.name == "runtime.NumGoroutine") = false)
    (hn : fn.ntmps = C.n) {xs : List T1} (hx : Nat.ble xs.length C.n = true) {m : List (Nat × Blk)} (hml : (m.all fun p => Nat.blt p.1 C.nx0) = true) {r : TV} {upd : List (Nat × Blk)} {new : List Blk}
    (h : vc C c ⟨argTm 0 xs, m, C.nx0⟩ (fnQM C.L fn.results.toList (m.map (·.1)) C.nx0 r upd new)) : CallsM C.P C.Γ f m C.nx0 xs r upd new := by
  refine ⟨⟨fn, hf, hname, by rw [hb]; rfl⟩, fun ι S w vs hS hG hblk hdst hvs => ?_⟩
  have hxl := Nat.le_of_ble_eq_true hx
  have hlen := hvs.len
  have hmlt : ∀ p ∈ m, p.1 < C.nx0 := fun p hp => Nat.lt_of_succ_le (Nat.le_of_ble_eq_true (List.all_eq_true.1 hml p hp))
  refine calls_of_wp hf hb ?_
  have hR : RS ⟨w, fun g => ∃ p ∈ m, p.2.live = true ∧ blkOf (ι p.1) = some g, S, C.n, C.Γ, ι, C.nx0, []⟩ ⟨argTm 0 xs, m, C.nx0⟩ { tmps := vs.toArray ++ Array.replicate (fn.ntmps - vs.toArray.size) undef, defers := [] } w := by
    refine ⟨ι, S, rfl, rfl, rfl, Nat.le_refl _, fun _ _ _ => rfl, hS, fun _ h => h, fun _ h => .inl h, fun t tv ht => ?_, fun k b hk => hblk _ (findL_mem hk), fun k b hk hl g hg => .inl ⟨(k, b), findL_mem hk, hl, hg⟩, fun k k' b b' g hk hk' hl hl' hg hg' => hdst _ (findL_mem hk) _ (findL_mem hk') g hl hl' hg hg', rfl, ?_, hG, fun _ _ => rfl⟩
    · obtain ⟨x, rfl, _, hx⟩ := argTm_find xs 0 t tv ht
      rw [Nat.sub_zero] at hx
      obtain ⟨u, hu, hv⟩ := hvs.at_left hx
      have hlt := (List.getElem?_eq_some_iff.1 hu).1
      have : (vs.toArray ++ Array.replicate (fn.ntmps - vs.toArray.size) undef).getD t undef = u := by
        simp [Array.getElem?_append, hlt, hu]
        have h2 := (List.getElem?_eq_some_iff.1 hu).2
        exact h2
      show V ι S w (.o x) _
      dsimp only
      rw [this]
      exact hv
    · simp; omega
  refine Code.wp_mono (fun e a w' hq => ?_) (vc_ok hL ⟨rfl, rfl, rfl⟩ hm c _ _ _ w h hR)
  obtain ⟨st, hR', hq⟩ := hq
  have core := core_after (C := C) (m := m) (upd := upd) (new := new) (ι := ι) (S := S) (w := w) (w' := w') (st := st) (a := a) (dd := []) (en := C.n) hmlt
  have key : retOkM C.L fn.results.toList (m.map (·.1)) C.nx0 r upd new st → a.defers = [] ∧ ∃ v, (results fn a.tmps).run C.P w' = .ok v w' ∧ ((∃ x ι' S', Ending.returned v = .returned x ∧ After ι S w C.nx0 ⟨r, m.map (·.1), upd, new⟩ x ι' S' w') ∨ ∃ v0 ι' S', r = .pan v0 ∧ Ending.returned v = .panicked (panE v0) ∧ After ι S w C.nx0 ⟨.und, m.map (·.1), upd, new⟩ undef ι' S' w') := fun hret => by
    obtain ⟨ι1, S1, I⟩ := hR'
    unfold retOkM at hret
    split at hret
    · rename_i ys ks u n src hy hex
      obtain ⟨hchk, hr, hu, hnw⟩ := hret
      obtain ⟨v, hres, hrows, hval⟩ := results_ok hL I hy
      obtain ⟨ι', S', A⟩ := core ι1 S1 r v ks u n src I hex hchk hu hnw hrows (fun ι' => hr _ _ _ _ (hval ι'))
      exact ⟨I.dn, v, hres, .inl ⟨v, ι', S', rfl, A⟩⟩
    · exact hret.elim
  cases e with
  | normal => exact key hq
  | ret => exact key hq
  | panic ch =>
    obtain ⟨⟨v0, hr0, rfl⟩, hret⟩ := hq
    obtain ⟨ι1, S1, I⟩ := hR'
    unfold retOkP at hret
    split at hret
    · rename_i u n src hex
      obtain ⟨hchk, hu, hnw⟩ := hret
      obtain ⟨ι', S', A⟩ := core ι1 S1 .und undef [] u n src I hex hchk hu hnw (by simp) (fun _ => rfl)
      exact ⟨I.dn, .inr ⟨v0, ι', S', hr0, rfl, A⟩⟩
    · exact hret.elim
  | _ => exact hq.elim
end Go.Proofs.YtkeehnhamkdogaaDoor
