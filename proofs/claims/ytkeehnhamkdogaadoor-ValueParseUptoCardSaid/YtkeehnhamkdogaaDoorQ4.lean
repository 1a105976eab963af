/- The reference's read. Conditions: at most 2^24 bytes. -/
import Derived.Test.YtkeehnhamkdogaaDoorQ3
namespace Go.Proofs.YtkeehnhamkdogaaDoor
set_option linter.unusedVariables false
set_option linter.unusedSimpArgs false
open Go.RowKit
set_option maxRecDepth 100000

def loopQ (s : ByteArray) (f : Nat → Q) (e : UInt8) (k : Int) : Nat → Nat → List PV → Q
  | 0, _, _ => .err 0 0 zeroV 0
  | n + 1, a, acc => match f a with
    | .err p c g b => .err p c (.mk k 0 ⟨#[]⟩ (acc ++ [g])) (passV s b + 1)
    | .ok v b => if nextV s (passV s b) = e then .ok (.mk k 0 ⟨#[]⟩ (acc ++ [v])) (passV s b + 1) else
      if nextV s (passV s b) = 44 then loopQ s f e k n (passV s b + 1) (acc ++ [v]) else .err (passV s b) 4 (.mk k 0 ⟨#[]⟩ (acc ++ [v])) (passV s b + 1)
def listQ (s : ByteArray) (f : Nat → Q) (k : Int) (a : Nat) : Q :=
  if nextV s (passV s a) = endV k then .ok (.mk k 0 ⟨#[]⟩ []) (passV s a + 1) else loopQ s f (endV k) k (s.size + 1) (passV s a) []
def atQ (s : ByteArray) (a : Nat) (deep : Bool) (f : Nat → Q) : Q :=
  if s.data.toList[a]? = some 91 then (if deep then .err a 8 zeroV a else listQ s f 3 (a + 1)) else
  if s.data.toList[a]? = some 123 then (if deep then .err a 8 zeroV a else listQ s f 4 (a + 1)) else
  if anyV s a digL = true then (if deep then .err a 8 zeroV a else numQ s a) else
  if s.data.toList[a]? = some 45 then (if deep then .err a 8 zeroV a else .ok zeroV (a + 1)) else
  if s.data.toList[a]? = some 120 then (if deep then .err a 8 zeroV a else (bytV s (a + 1)).q) else .err a 4 zeroV a
def valQ (s : ByteArray) : Nat → Nat → Q
  | 0, a => atQ s (passV s a) true fun _ => .err 0 0 zeroV 0
  | n + 1, a => atQ s (passV s a) false (valQ s n)
theorem next_some {s : ByteArray} {a : Nat} {c : UInt8} (hc : c ≠ 0) : nextV s a = c ↔ s.data.toList[a]? = some c :=
  ⟨fun h => (next_lt h hc).2, fun h => by unfold nextV; rw [h]; rfl⟩
theorem loopQ_r {s : ByteArray} {f : Nat → Q} {f' : Nat → R PV} (hf : ∀ a, (f a).r = f' a) (e : UInt8) (k : Int) : ∀ n a acc, (loopQ s f e k n a acc).r = loopV s f' e k n a acc
  | 0, a, acc => rfl
  | n + 1, a, acc => by
    rw [loopQ, loopV, ← hf a]
    cases f a with
    | err p c g b => rfl
    | ok v b =>
      simp only [Q.r]
      by_cases h1 : nextV s (passV s b) = e
      · rw [if_pos h1, if_pos h1]
      · rw [if_neg h1, if_neg h1]
        by_cases h2 : nextV s (passV s b) = 44
        · rw [if_pos h2, show mustV s (passV s b) 44 = .ok () (passV s b + 1) from if_pos ((next_some (by decide)).1 h2)]
          exact loopQ_r hf e k n _ _
        · rw [if_neg h2, show mustV s (passV s b) 44 = .err (passV s b) 4 from if_neg fun h => h2 ((next_some (by decide)).2 h)]
theorem listQ_r {s : ByteArray} {f : Nat → Q} {f' : Nat → R PV} (hf : ∀ a, (f a).r = f' a) (k : Int) (a : Nat) : (listQ s f k a).r = listV s f' k a := by
  unfold listQ listV
  split
  · rfl
  · exact loopQ_r hf _ _ _ _ _
theorem atQ_r {s : ByteArray} {f : Nat → Q} {f' : Nat → R PV} (hf : ∀ a, (f a).r = f' a) (a : Nat) (d : Bool) : (atQ s a d f).r = atV s a d f' := by
  unfold atQ atV
  cases d <;> (repeat' split) <;> first | rfl | exact listQ_r hf _ _ | exact numQ_r _ _ | exact rq _ | contradiction
theorem valQ_r (s : ByteArray) : ∀ n a, (valQ s n a).r = valV s n a
  | 0, a => atQ_r (fun _ => rfl) _ _
  | n + 1, a => atQ_r (valQ_r s n) _ _
/-- Where the reading stands behind it. -/
def Q.at : Q → Nat
  | .ok _ a => a
  | .err _ _ _ a => a
theorem pass_max (s : ByteArray) (b m : Nat) (h1 : s.size ≤ m) (h2 : b ≤ m) : passV s b ≤ m := by
  by_cases h : b ≤ s.size
  · exact Nat.le_trans (passV_le s h) h1
  · rw [passV_stop (by rw [s_none (by omega)]; simp)]; exact h2
theorem loopQ_le {s : ByteArray} {f : Nat → Q} {m : Nat} (hm : s.size ≤ m) (hf : ∀ a, a ≤ s.size → (f a).at ≤ m) (e : UInt8) (k : Int) : ∀ n a acc, a ≤ s.size → (loopQ s f e k n a acc).at ≤ m + 1
  | 0, a, acc, _ => Nat.zero_le _
  | n + 1, a, acc, ha => by
    have h1 := hf a ha
    rw [loopQ]
    cases hfa : f a with
    | err p c g b =>
      rw [hfa] at h1
      have := pass_max s b m hm h1
      show passV s b + 1 ≤ _; omega
    | ok v b =>
      rw [hfa] at h1
      have hp := pass_max s b m hm h1
      simp only
      split
      · show passV s b + 1 ≤ _; omega
      · split
        · rename_i h44
          exact loopQ_le hm hf e k n _ _ (next_lt h44 (by decide)).1
        · show passV s b + 1 ≤ _; omega
theorem listQ_le {s : ByteArray} {f : Nat → Q} {m : Nat} (hm : s.size ≤ m) (hf : ∀ a, a ≤ s.size → (f a).at ≤ m) (k : Int) (a : Nat) (ha : a ≤ s.size) : (listQ s f k a).at ≤ m + 1 := by
  have := passV_le s ha
  unfold listQ
  split
  · show passV s a + 1 ≤ _; omega
  · exact loopQ_le hm hf _ _ _ _ _ this
theorem numQ_le (s : ByteArray) (a : Nat) (ha : a ≤ s.size) : (numQ s a).at ≤ s.size + 1 := by
  have := digs_le s ha
  unfold numQ
  split
  · show a + 1 ≤ _; omega
  · split
    · show a + _ ≤ _; omega
    · show a + _ ≤ _; omega
theorem hexV_at {s : ByteArray} : ∀ (n a : Nat) (acc : List UInt8), (hexV s n a acc).at ≤ s.size + 1 ∨ (hexV s n a acc).at ≤ a
  | 0, a, acc => .inl (Nat.zero_le _)
  | n + 1, a, acc => by
    rw [hexV]
    split
    · rename_i h
      have := (next_lt h (by decide)).1
      exact .inl (by show a + 1 ≤ _; omega)
    · have hd := digV_next s a
      split
      · rename_i b e h1
        rw [h1] at hd
        split at hd
        · cases hd
        · cases hd; exact .inr (Nat.le_refl _)
      · rename_i x b h1
        obtain ⟨rfl, _, h2⟩ := digV_ok h1
        have hd2 := digV_next s (a + 1)
        split
        · rename_i c e h3
          rw [h3] at hd2
          split at hd2
          · cases hd2
          · cases hd2; exact .inl (by show a + 1 ≤ _; omega)
        · rename_i y c h3
          obtain ⟨rfl, _, h4⟩ := digV_ok h3
          rcases hexV_at (s := s) n (a + 1 + 1) (acc ++ [UInt8.ofNat (16 * x + y)]) with h | h
          · exact .inl h
          · exact .inl (by omega)
theorem qat (r : R PV) : r.q.at = r.at := by cases r <;> rfl
theorem bytV_at (s : ByteArray) (a : Nat) (ha : a ≤ s.size) : (bytV s a).at ≤ s.size + 1 := by
  unfold bytV
  split
  · rename_i b e h
    unfold mustV at h
    split at h
    · cases h
    · cases h; show a ≤ _; omega
  · rename_i u b h
    obtain ⟨rfl, _, h2⟩ := must_ok h
    rcases hexV_at (s := s) (s.size + 1) (a + 1) [] with h | h
    · exact h
    · omega
theorem atQ_le {s : ByteArray} {f : Nat → Q} {m : Nat} (hm : s.size ≤ m) (hf : ∀ a, a ≤ s.size → (f a).at ≤ m) (a : Nat) (ha : a ≤ s.size) (d : Bool) : (atQ s a d f).at ≤ m + 1 := by
  have hz : (Q.err a 8 zeroV a).at ≤ m + 1 := by show a ≤ _; omega
  have hz4 : (Q.err a 4 zeroV a).at ≤ m + 1 := by show a ≤ _; omega
  have hn := numQ_le s a ha
  unfold atQ
  split
  · rename_i h; have := at_lt h
    split
    · exact hz
    · exact listQ_le hm hf _ _ (by omega)
  · split
    · rename_i h; have := at_lt h
      split
      · exact hz
      · exact listQ_le hm hf _ _ (by omega)
    · split
      · split
        · exact hz
        · omega
      · split
        · split
          · exact hz
          · show a + 1 ≤ _; omega
        · split
          · rename_i h; have := at_lt h
            split
            · exact hz
            · rw [qat]
              have := bytV_at s (a + 1) (by omega)
              omega
          · exact hz4
theorem valQ_le (s : ByteArray) : ∀ n a, a ≤ s.size → (valQ s n a).at ≤ s.size + 1 + n
  | 0, a, ha => atQ_le (Nat.le_refl _) (fun _ _ => Nat.zero_le _) _ (passV_le s ha) _
  | n + 1, a, ha => by
    have := atQ_le (m := s.size + 1 + n) (by omega) (fun b hb => valQ_le s n b hb) _ (passV_le s ha) false
    rw [valQ]; omega
end Go.Proofs.YtkeehnhamkdogaaDoor
