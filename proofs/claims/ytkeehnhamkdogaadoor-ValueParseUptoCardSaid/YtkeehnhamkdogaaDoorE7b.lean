/- Strings to bytes and back. No condition. -/
import Derived.Test.YtkeehnhamkdogaaDoorE7
import Derived.Lib.ConvBytes
namespace Go.Proofs.YtkeehnhamkdogaaDoor
set_option linter.unusedVariables false
set_option linter.unusedSimpArgs false
open Go.RowKit

def byteRows (l : List UInt8) : List (List D) := l.map fun b => [.v (.int .u8 b.toNat)]
theorem byteRows_flat (l : List UInt8) : (byteRows l).flatten = l.map fun b => D.v (.int .u8 b.toNat) := by
  induction l with
  | nil => rfl
  | cons b l ih => simp only [byteRows, List.map_cons, List.flatten_cons] at ih ⊢; rw [ih]; rfl
theorem bytes_push (l : List UInt8) : ∀ s : ByteArray, (l.map fun b : UInt8 => (b.toNat : Int)).foldl (fun r n => r.push (UInt8.ofNat n.toNat)) s = ⟨s.data ++ l.toArray⟩ := by
  induction l with
  | nil => intro s; simp
  | cons b l ih =>
    intro s
    simp only [List.map_cons, List.foldl_cons]
    rw [ih]
    simp [ByteArray.push]
section
variable {P : Program} {Γ : Glob} {L : Nat → Option Lay} {o : Oper} {ev : Operand → Option TV} {mem : Nat → Option Blk} {nx : Nat} {K : Res → Prop}
def exConvB (L : Nat → Option Lay) (ev : Operand → Option TV) (mem : Nat → Option Blk) (src dst : TypeId) (x : Operand) (K : Res → Prop) : Prop :=
  match L src, L dst with
  | some _, some ⟨_, _, _, .sl e⟩ => match L e, ev x with
    | some ⟨_, _, _, .int .u8⟩, some (.o (.c (.d (.v (.string s))))) => K (pureR (Tsl 1 (byteRows s.data.toList)))
    | _, _ => False
  | some ⟨_, _, _, .sl e⟩, some ⟨_, _, _, .str⟩ => match L e, srcRows ev mem 1 x with
    | some ⟨_, _, _, .int .u8⟩, some (rows, ks) => ∃ l, rows = byteRows l ∧ K ⟨Tstr ⟨l.toArray⟩, ks, [], []⟩
    | _, _ => False
  | _, _ => exConv L ev src dst x K
theorem exConvB_ok (hL : LOk P L) {src dst : TypeId} {x : Operand} (ho : o.op = .convert src dst x) (h : exConvB L ev mem src dst x K) : ∃ r, Spec P Γ o ev mem nx r ∧ K r := by
  unfold exConvB at h
  split at h
  · rename_i l1 _ _ _ e hs hd
    obtain ⟨i1, d1, z1, _, hu1, _⟩ := (layOf_ok (hL _ _ hs)).ex
    have hu := ((layOf_ok (hL _ _ hd)).under rfl).1 e rfl
    split at h
    · rename_i _ _ _ s he hx
      have hue := ((layOf_ok (hL _ _ he)).under rfl).2.2.2.1 .u8 rfl
      refine ⟨_, spec_gen fun ι S A w hs q1 q2 => ?_, h⟩
      have ex := V_v (q1 x (by simp [ho, Op.operands]) _ hx)
      refine ⟨.slice (some ⟨w.heap.size, 0, none⟩) s.size (grownCap w s.size 0 e), Lib.bytesWorld w e s, ι, fun b => S b ∨ b = w.heap.size, .inl ?_, ?_⟩
      · have := Lib.run_convert_string_bytes w src dst e s hu1 hu hue
        simp only [execOp, ho, ex]
        rw [Sem.run_bind, this]
        rfl
      · refine ⟨?_, fun _ _ => rfl, fun b hb => .inl hb, fun b hb => ?_, fun b hb => ?_, rfl, rfl, rfl, by rw [Lib.bytesWorld_size]; omega, fun b hb _ => Lib.bytesWorld_at_old w e s b hb, (fun _ _ h => by simp at h), (fun _ _ h => by simp at h), (fun _ _ h => by simp at h), (fun _ _ _ _ _ h => by simp at h)⟩
        · have hlen : s.size = (byteRows s.data.toList).length := by simp [byteRows]
          have hflat := byteRows_flat s.data.toList
          show Imm _ _ (.sl 1 (byteRows s.data.toList)) (.slice (some ⟨w.heap.size, 0, none⟩) s.size (grownCap w s.size 0 e))
          have hcap := grownCap_ge w s.size 0 e
          rw [hlen] at hcap ⊢
          refine Imm.sl (fun j => .int .u8 ((s.data.toList.getD j 0).toNat : Int)) (.inr rfl) hcap (fun r hr => ?_) (fun j d hj => ?_) (fun j d hj => ?_)
          · obtain ⟨b, _, rfl⟩ := List.mem_map.1 hr; rfl
          · have hj' := (List.getElem?_eq_some_iff.1 hj).1
            rw [hflat, List.length_map] at hj'
            rw [Nat.zero_add, Lib.bytesWorld_cell w e s j (by simpa using hj')]
          · rw [hflat, List.getElem?_map] at hj
            obtain ⟨b, hb, rfl⟩ := Option.map_eq_some_iff.1 hj
            have : s.data.toList.getD j 0 = b := by simp only [List.getD, hb, Option.getD_some]
            rw [this]
            exact Imm.v rfl
        · rcases hb with hb | hb
          · exact .inl hb
          · exact .inr (.inl (by omega))
        · rw [Lib.bytesWorld_size]
          rcases hb with hb | hb
          · have := hs b hb; omega
          · omega
    · exact h.elim
  · rename_i e _ _ _ hs hd
    have hu1 := ((layOf_ok (hL _ _ hs)).under rfl).1 e rfl
    have hu := ((layOf_ok (hL _ _ hd)).under rfl).2.1 rfl
    split at h
    · rename_i _ _ _ rows ks he hsrc
      have hue := ((layOf_ok (hL _ _ he)).under rfl).2.2.2.1 .u8 rfl
      obtain ⟨l, rfl, h⟩ := h
      refine ⟨_, spec_val fun ι S A w q1 q2 => ⟨.string ⟨l.toArray⟩, ?_, V_mk rfl⟩, h⟩
      rcases srcRows_ok hsrc (A := A) (fun tv htv => q1 x (by simp [ho, Op.operands]) tv htv) (fun k hk b hb => q2 k hk b hb) with ⟨hn, hx⟩ | ⟨a, c, us, hx, hcell, hall, _⟩
      · have hl : l = [] := by simpa [byteRows] using hn
        subst hl
        simp only [execOp, ho, hx]
        rw [Sem.run_bind, run_convert_bytes_string w src dst e _ _ _ hu1 hue hu]
        rfl
      · rw [byteRows_flat] at hall
        have hus : us = (l.map fun b : UInt8 => (b.toNat : Int)).map (Value.int .u8) := by
          rw [List.map_map]
          apply List.ext_getElem?
          intro j
          rw [List.getElem?_map]
          cases hb : l[j]? with
          | none =>
            have : us.length ≤ j := by rw [← hall.len, List.length_map]; simpa using hb
            simp [List.getElem?_eq_none this]
          | some b =>
            obtain ⟨u, hu1, hu2⟩ := hall.at_left (i := j) (a := D.v (.int .u8 b.toNat)) (by simp [hb])
            cases hu2
            rw [hu1]; rfl
        have hlen : us.length = (byteRows l).length := by rw [← hall.len]; simp [byteRows]
        have hload := run_loadCells_list (P := P) w a us hcell
        rw [hlen, hus] at hload
        have hb := run_bytesToString (P := P) w a (byteRows l).length c _ hload
        rw [bytes_push] at hb
        simp only [execOp, ho, hx]
        rw [Sem.run_bind, run_convert_bytes_string w src dst e _ _ _ hu1 hue hu, hb]
        simp
    · exact h.elim
  · exact exConv_ok hL ho h
end
end Go.Proofs.YtkeehnhamkdogaaDoor
