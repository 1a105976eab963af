/- The parser's list and value. Conditions: as in P1; at most 1200 lists in one another. -/
import Derived.Test.YtkeehnhamkdogaaDoorP2
namespace Go.Proofs.YtkeehnhamkdogaaDoor
set_option linter.unusedVariables false
set_option linter.unusedSimpArgs false
open Go.RowKit
set_option maxRecDepth 100000

def loopV (s : ByteArray) (f : Nat → R PV) (e : UInt8) (k : Int) : Nat → Nat → List PV → R PV
  | 0, _, _ => .err 0 0
  | n + 1, a, acc => match f a with
    | .err b c => .err b c
    | .ok v b => if nextV s (passV s b) = e then .ok (.mk k 0 ⟨#[]⟩ (acc ++ [v])) (passV s b + 1) else match mustV s (passV s b) 44 with
      | .err c d => .err c d
      | .ok _ c => loopV s f e k n c (acc ++ [v])
def endV (k : Int) : UInt8 := if k = 3 then 93 else 125
def listV (s : ByteArray) (f : Nat → R PV) (k : Int) (a : Nat) : R PV :=
  if nextV s (passV s a) = endV k then .ok (.mk k 0 ⟨#[]⟩ []) (passV s a + 1) else loopV s f (endV k) k (s.size + 1) (passV s a) []
/-- A value at a place without a blank. -/
def atV (s : ByteArray) (a : Nat) (deep : Bool) (f : Nat → R PV) : R PV :=
  if s.data.toList[a]? = some 91 then (if deep then .err a 8 else listV s f 3 (a + 1)) else
  if s.data.toList[a]? = some 123 then (if deep then .err a 8 else listV s f 4 (a + 1)) else
  if anyV s a digL = true then (if deep then .err a 8 else numV s a) else
  if s.data.toList[a]? = some 45 then (if deep then .err a 8 else .ok (.mk 0 0 ⟨#[]⟩ []) (a + 1)) else
  if s.data.toList[a]? = some 120 then (if deep then .err a 8 else bytV s (a + 1)) else .err a 4
/-- A value, in which so many may stand in one another. -/
def valV (s : ByteArray) : Nat → Nat → R PV
  | 0, a => atV s (passV s a) true fun _ => .err 0 0
  | n + 1, a => atV s (passV s a) false (valV s n)

theorem next_lt {s : ByteArray} {a : Nat} {c : UInt8} (h : nextV s a = c) (hc : c ≠ 0) : a < s.size ∧ s.data.toList[a]? = some c := by
  unfold nextV at h
  cases ha : s.data.toList[a]? with
  | none => rw [ha] at h; exact absurd h.symm hc
  | some d =>
    rw [ha] at h
    have := (List.getElem?_eq_some_iff.1 ha).1
    exact ⟨by simpa using this, by rw [← h]; rfl⟩
theorem at_lt {s : ByteArray} {a : Nat} {c : UInt8} (h : s.data.toList[a]? = some c) : a < s.size := by
  have := (List.getElem?_eq_some_iff.1 h).1
  simpa using this
theorem must_ok {s : ByteArray} {a b : Nat} {c : UInt8} {u : Unit} (h : mustV s a c = .ok u b) : b = a + 1 ∧ s.data.toList[a]? = some c ∧ a < s.size := by
  unfold mustV at h
  split at h
  · rename_i hc; cases h; exact ⟨rfl, hc, at_lt hc⟩
  · cases h
theorem hexV_ok {s : ByteArray} {v : PV} : ∀ {n a b : Nat} {acc : List UInt8}, hexV s n a acc = .ok v b → a < b ∧ b ≤ s.size
  | 0, a, b, acc, h => by cases h
  | n + 1, a, b, acc, h => by
    rw [hexV] at h
    split at h
    · rename_i h34
      cases h
      have := (next_lt h34 (by decide)).1
      omega
    · split at h
      · cases h
      · rename_i x b' h1
        split at h
        · cases h
        · rename_i y c h2
          have := digV_ok h1
          have := digV_ok h2
          have := hexV_ok h
          omega
theorem bytV_ok {s : ByteArray} {v : PV} {a b : Nat} (h : bytV s a = .ok v b) : a < b ∧ b ≤ s.size := by
  unfold bytV at h
  split at h
  · cases h
  · rename_i u c h1
    have := must_ok h1
    have := hexV_ok h
    omega
theorem numV_ok {s : ByteArray} {v : PV} {a b : Nat} (ha : a ≤ s.size) (hd : anyV s a digL = true) (h : numV s a = .ok v b) : a < b ∧ b ≤ s.size := by
  have h1 := any_dig s a 0 (by omega)
  rw [Nat.add_zero, hd] at h1
  have h1 := of_decide_eq_true h1.symm
  have h2 := digs_le s ha
  unfold numV at h
  split at h
  · cases h
  · split at h
    · cases h; omega
    · cases h
def FOk (s : ByteArray) (f : Nat → R PV) : Prop := ∀ a v b, a ≤ s.size → f a = .ok v b → a < b ∧ b ≤ s.size
theorem loopV_ok {s : ByteArray} {f : Nat → R PV} {e : UInt8} {k : Int} (he : e ≠ 0) (hf : FOk s f) {v : PV} : ∀ {n a b : Nat} {acc : List PV}, a ≤ s.size → loopV s f e k n a acc = .ok v b → a < b ∧ b ≤ s.size
  | 0, a, b, acc, _, h => by cases h
  | n + 1, a, b, acc, ha, h => by
    rw [loopV] at h
    split at h
    · cases h
    · rename_i x b' h1
      have h1 := hf _ _ _ ha h1
      have h2 := passV_ge s b'
      split at h
      · rename_i hn
        cases h
        have := (next_lt hn he).1
        omega
      · split at h
        · cases h
        · rename_i u c h3
          have h3 := must_ok h3
          have := loopV_ok he hf (by omega) h
          omega
theorem endV_ne (k : Int) : endV k ≠ 0 := by unfold endV; split <;> decide
theorem listV_ok {s : ByteArray} {f : Nat → R PV} {k : Int} (hf : FOk s f) {v : PV} {a b : Nat} (ha : a ≤ s.size) (h : listV s f k a = .ok v b) : a < b ∧ b ≤ s.size := by
  unfold listV at h
  have h2 := passV_ge s a
  split at h
  · rename_i hn
    cases h
    have := (next_lt hn (endV_ne k)).1
    omega
  · have := loopV_ok (endV_ne k) hf (passV_le s ha) h
    omega
theorem atV_ok {s : ByteArray} {f : Nat → R PV} {d : Bool} (hf : FOk s f) {v : PV} {a b : Nat} (ha : a ≤ s.size) (h : atV s a d f = .ok v b) : a < b ∧ b ≤ s.size := by
  unfold atV at h
  split at h
  · rename_i hc
    have := at_lt hc
    split at h
    · cases h
    · have := listV_ok hf (by omega) h; omega
  · split at h
    · rename_i hc
      have := at_lt hc
      split at h
      · cases h
      · have := listV_ok hf (by omega) h; omega
    · split at h
      · rename_i hc
        split at h
        · cases h
        · exact numV_ok ha hc h
      · split at h
        · rename_i hc
          have := at_lt hc
          split at h
          · cases h
          · cases h; omega
        · split at h
          · split at h
            · cases h
            · have := bytV_ok h; omega
          · cases h
theorem valV_ok (s : ByteArray) : ∀ n, FOk s (valV s n)
  | 0 => fun a v b ha h => by
    rw [valV] at h
    have h1 := passV_ge s a
    have := atV_ok (fun _ _ _ _ h => by cases h) (passV_le s ha) h
    omega
  | n + 1 => fun a v b ha h => by
    rw [valV] at h
    have h1 := passV_ge s a
    have := atV_ok (valV_ok s n) (passV_le s ha) h
    omega
abbrev Vtv (r : R PV) : TV := r.tv fun v => .o (gD (drow v))
abbrev Tval : TypeId := 27
theorem list_c (s : ByteArray) (hs : s.size ≤ 16777216) (n : Nat) (f : Nat → R PV) (hf : FOk s f) (k : Int) (hk : k = 3 ∨ k = 4)
    (ih : ∀ a, a ≤ s.size → CallsM Tryd.prog ΓS 35 [(0, Par s a)] 1 [.c (.ptr 0 0), c1 (di n)] (Vtv (f a)) [(0, Par s (f a).at)] []) (a : Nat) (ha : a ≤ s.size) :
    CallsM Tryd.prog ΓS 55 [(0, Par s a)] 1 [.c (.ptr 0 0), c1 (di k), c1 (di n)] (Vtv (listV s f k a)) [(0, Par s (listV s f k a).at)] [] := by
  have hp := pass_c s a ha hs
  have hpl := passV_le s ha
  have hn := next_c s (passV s a) hpl hs
  have hb : CallsA Tryd.prog ΓS 51 [c1 (di k)] (.o (c1 (ds ⟨if k = 3 then #[91, 93] else #[123, 125]⟩))) := (brackets_c k).of0
  have hbr : (⟨if k = 3 then #[91, 93] else #[123, 125]⟩ : ByteArray).data.toList[1]? = some (endV k) := by
    unfold endV
    split <;> rfl
  obtain ⟨T, hT⟩ : ∃ T, listV s f k a = T := ⟨_, rfl⟩
  rw [hT]
  unfold listV at hT
  refine fn_ruleM (C := ⟨Tryd.prog, layF, Tryd.f55.ntmps, ΓS, 1, [], []⟩) layF_ok mixed Tryd.func55 rfl (by kernel_rfl) rfl rfl rfl ?_
  refine ex_call (hb) ?_
  refine ex_chr 1 (endV k) rfl hbr ?_
  refine ex_callM (CallsM.ren (hp) [0] 3 rfl rfl rfl rfl) ?_
  refine ex_callM (CallsM.ren (hn) [0] 3 rfl rfl rfl rfl) ?_
  refine ex_dec (fun h1 => ?_) (fun h1 => ?_)
  · rw [if_pos (u8_eq.1 h1)] at hT
    subst hT
    refine ex_i64 (((passV s a + 1 : Nat) : Int)) (by first | rfl | omega | simp) (by omega) (by omega) ?_
    exact ⟨rfl, by show TLe _ (.o (gD (drow _))); rw [drow_mk]; exact TLe.nil4, rfl, rfl⟩
  · rw [if_neg (fun h => h1 (by rw [h]))] at hT
    refine ex_loop (X := Nat × Nat × List PV) (fun x => ⟨[(0, .o (.c (.ptr 0 0))), (2, Ti n), (6, .o (.c (.ptr 1 0))), (7, .o (.c (.ptr 2 0))), (8, .o (c1 (.v (.int .u8 (endV k).toNat))))],
        [(2, .obj [.d (di k), .d (du 0), .d (ds ⟨#[]⟩), .row 3]), (3, .row 4 Tval (x.2.2.map drow)), (0, Par s x.2.1), (1, .obj [.d (di 0), .d (du 0), .d (ds ⟨#[]⟩), .d dnil])], 4⟩) (fun x => s.size - x.2.1)
      (fun x => x.2.1 ≤ s.size ∧ s.size < x.2.1 + x.1 ∧ x.2.2.length ≤ x.2.1 ∧ loopV s f (endV k) k x.1 x.2.1 x.2.2 = T) (s.size + 1, passV s a, []) ⟨hpl, by show s.size < passV s a + (s.size + 1); omega, by show 0 ≤ _; omega, hT⟩ (SLe.trans (SLe.of ⟨⟨rfl, rfl, rfl, rfl, rfl, trivial⟩, ⟨rfl, rfl, rfl, rfl, trivial⟩⟩) (SLe.ownCell 2 3 3 4 Tval rfl rfl rfl rfl rfl rfl)) ?_
    rintro ⟨m, q, acc⟩ ⟨hq, hm, hac, hg⟩
    simp only at hq hm hac hg
    obtain ⟨m, rfl⟩ : ∃ m', m = m' + 1 := ⟨m - 1, by omega⟩
    rw [loopV] at hg
    have hv := ih q hq
    cases hfq : f q with
    | err b c =>
      rw [hfq] at hv hg
      simp only at hg
      subst hg
      refine ex_callM (CallsM.ren (hv) [0] 4 rfl rfl rfl rfl) ?_
      refine ⟨by kernel_rfl, ?_⟩
      exact ⟨⟨_, rfl, rfl⟩, rfl, rfl, rfl⟩
    | ok v b =>
      rw [hfq] at hv hg
      simp only at hg
      have hvb := hf _ _ _ hq hfq
      have hpb := passV_le s hvb.2
      have hpg := passV_ge s b
      have hp2 := pass_c s b hvb.2 hs
      have hn2 := next_c s (passV s b) hpb hs
      refine ex_callM (CallsM.ren (hv) [0] 4 rfl rfl rfl rfl) ?_
      refine ex_app acc.length 1 1000 (by simp) rfl rfl (by omega) ?_
      refine ex_is ((acc ++ [v]).map drow) (by rw [List.map_append]; rfl) ?_
      refine ⟨by kernel_rfl, ?_⟩
      refine ex_callM (CallsM.ren (hp2) [0] 6 rfl rfl rfl rfl) ?_
      refine ex_callM (CallsM.ren (hn2) [0] 6 rfl rfl rfl rfl) ?_
      refine ex_dec (fun h2 => ?_) (fun h2 => ?_)
      · rw [if_pos (u8_eq.1 h2)] at hg
        subst hg
        refine ex_i64 (((passV s b + 1 : Nat) : Int)) (by first | rfl | omega | simp) (by omega) (by omega) ?_
        exact ⟨rfl, by show TLe _ (.o (gD (drow _))); rw [drow_mk]; exact TLe.rfl, rfl, rfl⟩
      · rw [if_neg (fun h => h2 (by rw [h]))] at hg
        have hmu := must_c s (passV s b) 44 hpb hs
        cases hm4 : mustV s (passV s b) 44 with
        | err c d =>
          rw [hm4] at hmu hg
          simp only at hg
          subst hg
          refine ex_callM (CallsM.ren (hmu) [0] 6 rfl rfl rfl rfl) ?_
          exact ⟨⟨_, rfl, rfl⟩, rfl, rfl, rfl⟩
        | ok u c =>
          rw [hm4] at hmu hg
          simp only at hg
          have hmo := must_ok hm4
          refine ex_callM (CallsM.ren (hmu) [0] 6 rfl rfl rfl rfl) ?_
          obtain ⟨rfl, -, hcl⟩ := hmo
          refine ex_round (m, passV s b + 1, acc ++ [v]) ⟨hcl, by show s.size < passV s b + 1 + m; omega, by show (acc ++ [v]).length ≤ passV s b + 1; rw [List.length_append, List.length_cons, List.length_nil]; omega, hg⟩ (by show s.size - (passV s b + 1) < s.size - q; omega) (SLe.ren [(2, 2), (5, 3), (0, 0), (1, 1)] ⟨⟨rfl, rfl⟩, ⟨rfl, rfl⟩, ⟨rfl, rfl⟩, ⟨rfl, rfl⟩, ⟨rfl, rfl⟩, trivial⟩ ⟨⟨rfl, rfl⟩, ⟨rfl, rfl⟩, ⟨rfl, rfl⟩, ⟨rfl, rfl⟩, trivial⟩ rfl)
end Go.Proofs.YtkeehnhamkdogaaDoor
