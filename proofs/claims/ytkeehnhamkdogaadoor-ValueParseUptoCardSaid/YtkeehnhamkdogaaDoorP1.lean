/- The parser's small functions over its object. Conditions: at most 2^24 bytes; the place within the signs. -/
import Derived.Test.YtkeehnhamkdogaaDoorFmt
import Derived.Test.YtkeehnhamkdogaaDoorB3
import Derived.Lib.IndexAny
namespace Go.Proofs.YtkeehnhamkdogaaDoor
set_option linter.unusedVariables false
set_option linter.unusedSimpArgs false
open Go.RowKit
set_option maxRecDepth 100000

/-- The parser's object. -/
abbrev Par (s : ByteArray) (a : Nat) : Blk := .obj [.d (ds s), .d (di a)]
/-- What a parser fails with. -/
abbrev flt (a : Nat) (e : Int) : Value := .iface 72 (.agg #[.int .i64 a, .int .i64 e])
theorem fail_c (s : ByteArray) (a : Nat) (e : Int) :
    CallsM Tryd.prog ΓS 37 [(0, Par s a)] 1 [.c (.ptr 0 0), c1 (di e)] (.pan (flt a e)) [(0, Par s a)] [] := by
  refine fn_ruleM (C := ⟨Tryd.prog, layF, Tryd.f37.ntmps, ΓS, 1, [], []⟩) layF_ok mixed Tryd.func37 rfl (by kernel_rfl) rfl rfl rfl ?_
  exact ⟨⟨_, rfl, rfl⟩, rfl, rfl, rfl⟩
theorem s_at {s : ByteArray} {a : Nat} (h : a < s.size) : s.data.toList[a]? = some (s.data.toList[a]'(by simpa using h)) := List.getElem?_eq_getElem _
theorem s_none {s : ByteArray} {a : Nat} (h : s.size ≤ a) : s.data.toList[a]? = none := List.getElem?_eq_none (by simpa using h)
def nextV (s : ByteArray) (a : Nat) : UInt8 := (s.data.toList[a]?).getD 0
theorem next_c (s : ByteArray) (a : Nat) (ha : a ≤ s.size) (hs : s.size ≤ 16777216) :
    CallsM Tryd.prog ΓS 53 [(0, Par s a)] 1 [.c (.ptr 0 0)] (.o (c1 (.v (.int .u8 (nextV s a).toNat)))) [(0, Par s a)] [] := by
  refine fn_ruleM (C := ⟨Tryd.prog, layF, Tryd.f53.ntmps, ΓS, 1, [], []⟩) layF_ok mixed Tryd.func53 rfl (by kernel_rfl) rfl rfl rfl ?_
  refine ex_dec (fun h => ?_) (fun h => ?_)
  ·
    refine ⟨by kernel_rfl, ?_⟩
    rw [show nextV s a = 0 by unfold nextV; rw [s_none (by omega)]; rfl]
    exact ⟨rfl, TLe.rfl, rfl, rfl⟩
  ·
    refine ⟨by kernel_rfl, ?_⟩
    refine ex_chr a _ rfl (s_at (by omega)) ?_
    refine ⟨by kernel_rfl, ?_⟩
    rw [show nextV s a = s.data.toList[a]'(by simp; omega) by unfold nextV; rw [s_at (by omega)]; rfl]
    exact ⟨rfl, TLe.rfl, rfl, rfl⟩
/-- Is the sign one of some? -/
def anyV (s : ByteArray) (a : Nat) (of : List UInt8) : Bool := match s.data.toList[a]? with
  | some c => of.contains c
  | none => false
theorem any_c (s : ByteArray) (a : Nat) (of : ByteArray) (ha : a ≤ s.size) (hs : s.size ≤ 16777216) :
    CallsM Tryd.prog ΓS 54 [(0, Par s a)] 1 [.c (.ptr 0 0), c1 (ds of)] (Tb (anyV s a of.data.toList)) [(0, Par s a)] [] := by
  refine fn_ruleM (C := ⟨Tryd.prog, layF, Tryd.f54.ntmps, ΓS, 1, [], []⟩) layF_ok mixed Tryd.func54 rfl (by kernel_rfl) rfl rfl rfl ?_
  refine ex_dec (fun h => ?_) (fun h => ?_)
  · refine ex_chr a _ rfl (s_at (by omega)) ?_
    refine ex_call (index_c _ _ _) ?_
    refine ex_is (anyV s a of.data.toList) (by unfold anyV; rw [s_at (by omega)]; show _ = List.contains _ _; rw [Lib.contains_iff_indexByte]; simp) ?_
    refine ⟨by kernel_rfl, ?_⟩
    exact ⟨rfl, TLe.rfl, rfl, rfl⟩
  ·
    refine ⟨by kernel_rfl, ?_⟩
    rw [show anyV s a of.data.toList = false by unfold anyV; rw [s_none (by omega)]]
    exact ⟨rfl, TLe.rfl, rfl, rfl⟩
def skipB : List UInt8 → Nat
  | [] => 0
  | c :: l => if c = 32 then skipB l + 1 else 0
theorem skipB_le : ∀ l : List UInt8, skipB l ≤ l.length
  | [] => Nat.le_refl _
  | c :: l => by
    have := skipB_le l
    rw [skipB, List.length_cons]
    split <;> omega
/-- The place behind blanks. -/
def passV (s : ByteArray) (a : Nat) : Nat := a + skipB (s.data.toList.drop a)
theorem passV_le (s : ByteArray) {a : Nat} (h : a ≤ s.size) : passV s a ≤ s.size := by
  have := skipB_le (s.data.toList.drop a)
  rw [List.length_drop, show s.data.toList.length = s.size by simp] at this
  unfold passV; omega
theorem passV_ge (s : ByteArray) (a : Nat) : a ≤ passV s a := Nat.le_add_right _ _
theorem passV_blank {s : ByteArray} {a : Nat} (h : s.data.toList[a]? = some 32) : passV s (a + 1) = passV s a := by
  obtain ⟨hl, hc⟩ := List.getElem?_eq_some_iff.1 h
  unfold passV
  rw [List.drop_eq_getElem_cons hl, hc, skipB, if_pos rfl]; omega
theorem passV_stop {s : ByteArray} {a : Nat} (h : s.data.toList[a]? ≠ some 32) : passV s a = a := by
  unfold passV
  by_cases hl : a < s.data.toList.length
  · rw [List.drop_eq_getElem_cons hl, skipB, if_neg (fun hc => h (by rw [List.getElem?_eq_getElem hl, hc])), Nat.add_zero]
  · rw [List.drop_eq_nil_of_le (by omega)]; rfl
theorem passV_at {s : ByteArray} {a : Nat} : s.data.toList[passV s a]? ≠ some 32 := by
  unfold passV
  have key : ∀ l : List UInt8, l[skipB l]? ≠ some 32 := by
    intro l
    induction l with
    | nil => simp
    | cons c l ih =>
      rw [skipB]
      split
      · simpa using ih
      · rename_i h; simpa using h
  have := key (s.data.toList.drop a)
  rwa [List.getElem?_drop] at this
theorem passV_pass (s : ByteArray) (a : Nat) : passV s (passV s a) = passV s a := passV_stop passV_at
theorem u8_eq {a b : UInt8} : ((a.toNat : Nat) : Int) = ((b.toNat : Nat) : Int) ↔ a = b := by
  rw [Int.ofNat_inj]
  exact ⟨fun h => UInt8.toNat_inj.1 h, fun h => h ▸ rfl⟩
theorem pass_c (s : ByteArray) (a : Nat) (ha : a ≤ s.size) (hs : s.size ≤ 16777216) :
    CallsM Tryd.prog ΓS 36 [(0, Par s a)] 1 [.c (.ptr 0 0)] (.tup []) [(0, Par s (passV s a))] [] := by
  obtain ⟨R, hR⟩ : ∃ R, passV s a = R := ⟨_, rfl⟩
  rw [hR]
  refine fn_ruleM (C := ⟨Tryd.prog, layF, Tryd.f36.ntmps, ΓS, 1, [], []⟩) layF_ok mixed Tryd.func36 rfl (by kernel_rfl) rfl rfl rfl ?_
  refine ex_loop (X := Nat) (fun q => ⟨[(0, .o (.c (.ptr 0 0)))], [(0, Par s q)], 1⟩) (fun q => s.size - q) (fun q => q ≤ s.size ∧ passV s q = R) a ⟨ha, hR⟩ (SLe.of ⟨⟨rfl, trivial⟩, ⟨rfl, trivial⟩⟩) ?_
  rintro q ⟨hq, hg⟩
  refine ex_dec (fun h => ?_) (fun h => ?_)
  · refine ex_chr q _ rfl (s_at (by omega)) ?_
    refine ex_chr 0 32 rfl rfl ?_
    refine ex_dec (fun h2 => ?_) (fun h2 => ?_)
    · have hc : s.data.toList[q]? = some 32 := by rw [s_at (by omega)]; exact congrArg some (u8_eq.1 h2)
      refine ⟨by kernel_rfl, ?_⟩
      refine ex_i64 (((q + 1 : Nat) : Int)) (by first | rfl | omega | simp) (by omega) (by omega) ?_
      exact ex_round (q + 1) ⟨by omega, by rw [passV_blank hc, hg]⟩ (by show _ - _ < _ - _; omega) (SLe.of ⟨⟨rfl, trivial⟩, ⟨rfl, trivial⟩⟩)
    · have hc : s.data.toList[q]? ≠ some 32 := by rw [s_at (by omega)]; exact fun hc => h2 (u8_eq.2 (Option.some.inj hc))
      rw [passV_stop hc] at hg
      subst hg
      refine ⟨by kernel_rfl, ?_⟩
      exact ⟨rfl, TLe.rfl, rfl, rfl⟩
  · rw [passV_stop (by rw [s_none (by omega)]; simp)] at hg
    subst hg
    refine ⟨by kernel_rfl, ?_⟩
    exact ⟨rfl, TLe.rfl, rfl, rfl⟩
/-- What a step of the parser gives. -/
inductive R (α : Type)
  | ok (x : α) (a : Nat)
  | err (a : Nat) (e : Int)
def R.at {α : Type} : R α → Nat
  | .ok _ a => a
  | .err a _ => a
def R.tv {α : Type} (f : α → TV) : R α → TV
  | .ok x _ => f x
  | .err a e => .pan (flt a e)
def mustV (s : ByteArray) (a : Nat) (c : UInt8) : R Unit := if s.data.toList[a]? = some c then .ok () (a + 1) else .err a 4
theorem must_c (s : ByteArray) (a : Nat) (c : UInt8) (ha : a ≤ s.size) (hs : s.size ≤ 16777216) :
    CallsM Tryd.prog ΓS 57 [(0, Par s a)] 1 [.c (.ptr 0 0), c1 (.v (.int .u8 c.toNat))] ((mustV s a c).tv fun _ => .tup []) [(0, Par s (mustV s a c).at)] [] := by
  refine fn_ruleM (C := ⟨Tryd.prog, layF, Tryd.f57.ntmps, ΓS, 1, [], []⟩) layF_ok mixed Tryd.func57 rfl (by kernel_rfl) rfl rfl rfl ?_
  refine ex_dec (fun h => ?_) (fun h => ?_)
  · rw [show mustV s a c = .err a 4 from if_neg (by rw [s_none (by omega)]; simp)]
    refine ⟨by kernel_rfl, ?_⟩
    refine ex_callM (fail_c s a 4) ?_
    exact ⟨⟨_, rfl, rfl⟩, rfl, rfl, rfl⟩
  · refine ex_chr a _ rfl (s_at (by omega)) ?_
    refine ex_dec (fun h2 => ?_) (fun h2 => ?_)
    · rw [show mustV s a c = .err a 4 from if_neg (by rw [s_at (by omega)]; exact fun hc => h2 (u8_eq.2 (Option.some.inj hc)))]
      refine ⟨by kernel_rfl, ?_⟩
      refine ex_callM (fail_c s a 4) ?_
      exact ⟨⟨_, rfl, rfl⟩, rfl, rfl, rfl⟩
    · rw [show mustV s a c = .ok () (a + 1) from if_pos (by rw [s_at (by omega)]; exact congrArg some (u8_eq.1 (by simpa using h2)))]
      refine ⟨by kernel_rfl, ?_⟩
      refine ex_i64 (((a + 1 : Nat) : Int)) (by first | rfl | omega | simp) (by omega) (by omega) ?_
      exact ⟨rfl, TLe.rfl, rfl, rfl⟩
end Go.Proofs.YtkeehnhamkdogaaDoor
