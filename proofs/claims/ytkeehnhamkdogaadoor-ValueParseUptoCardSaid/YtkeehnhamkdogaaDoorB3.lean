/- value.write and Text over data. Conditions: at most 2^46 bytes; of each number in it, what FormatUint gives. -/
import Derived.Test.YtkeehnhamkdogaaDoorB2
import Derived.Test.YtkeehnhamkdogaaDoorFmt
import Derived.Test.YtkeehnhamkdogaaDoorV2
namespace Go.Proofs.YtkeehnhamkdogaaDoor
set_option linter.unusedVariables false
set_option linter.unusedSimpArgs false
open Go.RowKit
set_option maxRecDepth 100000

def hexL : List UInt8 := [48, 49, 50, 51, 52, 53, 54, 55, 56, 57, 97, 98, 99, 100, 101, 102]
def hx (c : UInt8) : List UInt8 := [hexL.getD (c.toNat / 16) 0, hexL.getD (c.toNat % 16) 0]
mutual
/-- A value's signs. -/
def txP : PV → List UInt8
  | .mk k n b l => if k = 0 then [45] else if k = 1 then Lib.decDigits n else if k = 2 then [120, 34] ++ b.data.toList.flatMap hx ++ [34] else
    if k = 3 then [91] ++ txL true l ++ [93] else [123] ++ txL true l ++ [125]
def txL : Bool → List PV → List UInt8
  | _, [] => []
  | f, t :: ts => (if f then [] else [44, 32]) ++ txP t ++ txL false ts
end
theorem brackets_c (k : Int) : CallsA Tryd.prog Γ0 51 [c1 (di k)] (.o (c1 (ds ⟨if k = 3 then #[91, 93] else #[123, 125]⟩))) := by
  refine fn_rule (C := ⟨Tryd.prog, layF, Tryd.f51.ntmps, Γ0, 0, [], []⟩) layF_ok mixed Tryd.func51 rfl (by kernel_rfl) rfl rfl rfl ?_
  refine ex_dec (fun h => ?_) (fun h => ?_)
  · rw [if_pos h]
    exact TLe.rfl
  · rw [if_neg h]
    exact TLe.rfl
/-- What FormatUint gives of a number. -/
def FmtOk (n : Nat) : Prop := CallsA Tryd.prog ΓS 49 [c1 (du n), c1 (di 10)] (.o (c1 (ds ⟨(Lib.decDigits n).toArray⟩)))
mutual
def AllN (p : Nat → Prop) : PV → Prop
  | .mk k n _ l => (k = 1 → p n) ∧ AllNL p l
def AllNL (p : Nat → Prop) : List PV → Prop
  | [] => True
  | t :: ts => AllN p t ∧ AllNL p ts
end
def WrC (t : PV) : Prop := ∀ (a : CV) (_ : a = .d (.v (.pointer none)) ∨ a = .ptr 0 0) (l : List UInt8), l.length + (txP t).length ≤ 70368744177600 →
  CallsM Tryd.prog ΓS 31 [(0, .obj [a, .row 1] Tbld), (1, Brow l)] 2 [gD (drow t), .c (.ptr 0 0)] (.tup []) [(0, .obj [.ptr 0 0, .row 2] Tbld), (1, .dead)] [Brow (l ++ txP t)]
theorem WrC0 (n : Nat) (b : ByteArray) (kids : List PV) : WrC (.mk 0 n b kids) := by
  intro a ha l hl
  have e : txP (.mk 0 n b kids) = [45] := by rw [txP, if_pos rfl]
  rw [e, drow_mk]
  rw [e] at hl
  have hw := WriteString_c a ha l ⟨#[45]⟩ (by simp at hl; simp only [ByteArray.size]; simp; omega)
  rcases ha with rfl | rfl
  all_goals
    refine fn_ruleM (C := ⟨Tryd.prog, layF, Tryd.f31.ntmps, ΓS, 2, [], []⟩) layF_ok mixed Tryd.func31 rfl (by kernel_rfl) rfl rfl rfl ?_
    refine ex_true rfl ?_
    refine ex_callM (CallsM.ren (hw.of0) [0, 1] 3 rfl rfl rfl rfl) ?_
    exact ⟨rfl, TLe.rfl, rfl, rfl⟩
theorem ex_byte {bs : List UInt8} {n : Int} (i : Nat) (x : UInt8) (hn : n = i) (hx : bs[i]? = some x) {K : List D → Prop} (h : K [.v (.int .u8 x.toNat)]) : ∃ r, 0 ≤ n ∧ (byteRows bs)[n.toNat]? = some r ∧ K r := by
  subst hn
  exact ⟨_, by omega, by simp [byteRows, hx], h⟩
theorem hx_len (bs : List UInt8) : (bs.flatMap hx).length = 2 * bs.length := by
  induction bs with
  | nil => rfl
  | cons b l ih => simp only [List.flatMap_cons, List.length_append, ih, List.length_cons]; simp [hx]; omega
theorem WrC1 (n : Nat) (b : ByteArray) (kids : List PV) (hF : FmtOk n) : WrC (.mk 1 n b kids) := by
  intro a ha l hl
  have e : txP (.mk 1 n b kids) = Lib.decDigits n := by rw [txP, if_neg (by decide), if_pos rfl]
  rw [e, drow_mk]
  rw [e] at hl
  have hw := WriteString_c a ha l ⟨(Lib.decDigits n).toArray⟩ (by simp only [ByteArray.size, List.size_toArray]; omega)
  rcases ha with rfl | rfl
  all_goals
    refine fn_ruleM (C := ⟨Tryd.prog, layF, Tryd.f31.ntmps, ΓS, 2, [], []⟩) layF_ok mixed Tryd.func31 rfl (by kernel_rfl) rfl rfl rfl ?_
    refine ex_false (by decide) ?_
    refine ex_true rfl ?_
    refine ex_call (hF) ?_
    refine ex_callM (CallsM.ren (hw.of0) [0, 1] 3 rfl rfl rfl rfl) ?_
    exact ⟨rfl, TLe.rfl, rfl, rfl⟩
theorem hi4 (c : UInt8) : ((c.toNat : Nat) : Int).fdiv (2 ^ min (Int.toNat 4) IntKind.u8.bits) = ((c.toNat / 16 : Nat) : Int) := by
  have : min (Int.toNat 4) IntKind.u8.bits = 4 := by rfl
  rw [this, Int.fdiv_eq_ediv_of_nonneg _ (by decide)]
  rfl
theorem lo4 (c : UInt8) : IntKind.u8.wrap ((BitVec.ofInt IntKind.u8.bits (c.toNat : Nat) &&& BitVec.ofInt IntKind.u8.bits 15).toNat : Nat) = ((c.toNat % 16 : Nat) : Int) := by
  have h : ∀ k : Fin 256, IntKind.u8.wrap ((BitVec.ofInt IntKind.u8.bits (k.val : Nat) &&& BitVec.ofInt IntKind.u8.bits 15).toNat : Nat) = ((k.val % 16 : Nat) : Int) := by decide +kernel
  exact h ⟨c.toNat, c.toNat_lt⟩
theorem hex_at (k : Nat) (h : k < 16) : hexL[k]? = some (hexL.getD k 0) := by
  simp only [List.getD]
  rw [List.getElem?_eq_getElem (by simpa [hexL] using h)]
  rfl
theorem WrC2 (n : Nat) (b : ByteArray) (kids : List PV) : WrC (.mk 2 n b kids) := by
  intro a ha l hl
  obtain ⟨bs, hbs⟩ : ∃ bs, b.data.toList = bs := ⟨_, rfl⟩
  have e : txP (.mk 2 n b kids) = [120, 34] ++ bs.flatMap hx ++ [34] := by rw [txP, if_neg (by decide), if_neg (by decide), if_pos rfl, hbs]
  rw [e, drow_mk]
  rw [e] at hl
  have hlen : l.length + (2 * bs.length + 3) ≤ 70368744177600 := by simp only [List.length_append, hx_len, List.length_cons, List.length_nil] at hl; omega
  have hw := WriteString_c a ha l ⟨#[120, 34]⟩ (by simp only [ByteArray.size]; simp; omega)
  rcases ha with rfl | rfl
  all_goals
    refine fn_ruleM (C := ⟨Tryd.prog, layF, Tryd.f31.ntmps, ΓS, 2, [], []⟩) layF_ok mixed Tryd.func31 rfl (by kernel_rfl) rfl rfl rfl ?_
    refine ex_false (by decide) ?_
    refine ex_false (by decide) ?_
    refine ex_true rfl ?_
    refine ex_callM (CallsM.ren (hw.of0) [0, 1] 3 rfl rfl rfl rfl) ?_
    refine ex_is bs.length (by simp [byteRows, hbs]) ?_
    refine ex_loop (X := Nat × List UInt8) (fun ⟨q, m⟩ => ⟨[(1, .o (.c (.ptr 0 0))), (55, .o (c1 (.sl 1 (byteRows b.data.toList)))), (56, Ti bs.length), (57, Ti q)], [(0, .obj [.ptr 0 0, .row 3] Tbld), (1, .dead), (3, Brow m)], 4⟩) (fun x => bs.length - x.1)
      (fun ⟨q, m⟩ => q ≤ bs.length ∧ m = l ++ [120, 34] ++ (bs.take q).flatMap hx) (0, l ++ [120, 34]) ⟨by omega, by simp⟩ (SLe.of ⟨⟨rfl, rfl, rfl, rfl, trivial⟩, ⟨rfl, rfl, rfl, trivial⟩⟩) ?_
    rintro ⟨q, m⟩ ⟨hq, hm⟩
    refine ex_dec (fun h5 => ?_) (fun h5 => ?_)
    · have hql : q < bs.length := by omega
      refine ex_byte q bs[q] rfl (by rw [hbs]; exact at_some hql) ?_
      have hbl : m.length = l.length + 2 + 2 * q := by
        have := hx_len (bs.take q)
        rw [List.length_take] at this
        rw [hm]
        simp only [List.length_append, List.length_cons, List.length_nil, this]
        omega
      have hc : bs[q]? = some bs[q] := at_some hql
      generalize bs[q] = c at *
      refine ⟨by decide, ?_⟩
      refine ex_is ((c.toNat / 16 : Nat) : Int) (hi4 c) ?_
      refine ex_chr (c.toNat / 16) (hexL.getD (c.toNat / 16) 0) rfl (hex_at _ (by have := c.toNat_lt; omega)) ?_
      refine ex_callM (CallsM.ren (((WriteByte_c (.ptr 0 0) (.inr rfl) m (hexL.getD (c.toNat / 16) 0) (by omega)).of0)) [0, 3] 4 rfl rfl rfl rfl) ?_
      refine ex_is ((c.toNat % 16 : Nat) : Int) (lo4 c) ?_
      refine ex_chr (c.toNat % 16) (hexL.getD (c.toNat % 16) 0) rfl (hex_at _ (by omega)) ?_
      refine ex_callM (CallsM.ren (((WriteByte_c (.ptr 0 0) (.inr rfl) (m ++ [hexL.getD (c.toNat / 16) 0]) (hexL.getD (c.toNat % 16) 0) (by rw [List.length_append]; simp; omega)).of0)) [0, 4] 5 rfl rfl rfl rfl) ?_
      refine ex_i64 (((q + 1 : Nat) : Int)) (by first | rfl | omega | simp) (by omega) (by omega) ?_
      refine ex_round (q + 1, m ++ [hexL.getD (c.toNat / 16) 0] ++ [hexL.getD (c.toNat % 16) 0]) ⟨hql, ?_⟩ (by show _ - _ < _ - _; omega) (SLe.ren [(0, 0), (1, 1), (5, 3)] ⟨⟨rfl, rfl⟩, ⟨rfl, rfl⟩, ⟨rfl, rfl⟩, ⟨rfl, rfl⟩, trivial⟩ ⟨⟨rfl, rfl⟩, ⟨rfl, rfl⟩, ⟨rfl, rfl⟩, trivial⟩ rfl)
      rw [List.take_add_one, hc, List.flatMap_append, hm]
      simp [hx]
    · obtain rfl : q = bs.length := by omega
      rw [List.take_length] at hm
      have hbl : m.length = l.length + 2 + 2 * bs.length := by
        rw [hm]
        simp only [List.length_append, List.length_cons, List.length_nil, hx_len]
      refine ex_callM (CallsM.ren (((WriteString_c (.ptr 0 0) (.inr rfl) m ⟨#[34]⟩ (by simp only [ByteArray.size]; simp; omega)).of0)) [0, 3] 4 rfl rfl rfl rfl) ?_
      exact ⟨rfl, TLe.rfl, rfl, by rw [hm]; simp only [List.append_assoc]; rfl⟩
theorem dec_pos (n : Nat) : 1 ≤ (Lib.decDigits n).length := by
  rw [Lib.decDigits]
  split <;> simp
mutual
theorem txP_pos : ∀ t : PV, 1 ≤ (txP t).length
  | .mk k n b l => by
    rw [txP]
    have := dec_pos n
    repeat' split
    all_goals first | exact this | (simp; done) | (simp only [List.length_append, List.length_cons]; omega)
end
theorem txL_len : ∀ (f : Bool) (l : List PV), l.length ≤ (txL f l).length
  | _, [] => by simp
  | f, t :: ts => by
    have := txP_pos t
    have := txL_len false ts
    rw [txL]
    simp only [List.length_append, List.length_cons]
    omega
def opn (k : Int) : UInt8 := if k = 3 then 91 else 123
def cls (k : Int) : UInt8 := if k = 3 then 93 else 125
theorem txP_list (k : Int) (n : Nat) (b : ByteArray) (l : List PV) (h0 : k ≠ 0) (h1 : k ≠ 1) (h2 : k ≠ 2) : txP (.mk k n b l) = [opn k] ++ txL true l ++ [cls k] := by
  rw [txP, if_neg h0, if_neg h1, if_neg h2, opn, cls]
  split <;> rfl
theorem brk_at (k : Int) : (⟨if k = 3 then #[91, 93] else #[123, 125]⟩ : ByteArray).data.toList = [opn k, cls k] := by
  unfold opn cls
  split <;> rfl
theorem WrCL (k : Int) (n : Nat) (b : ByteArray) (kids : List PV) (h0 : k ≠ 0) (h1 : k ≠ 1) (h2 : k ≠ 2) (ih : ∀ t ∈ kids, WrC t) : WrC (.mk k n b kids) := by
  intro a ha l hl
  have e : txP (.mk k n b kids) = [opn k] ++ txL true kids ++ [cls k] := txP_list k n b kids h0 h1 h2
  rw [e, drow_mk]
  rw [e] at hl
  obtain ⟨T, hT⟩ : ∃ T, l ++ [opn k] ++ txL true kids = T := ⟨_, rfl⟩
  have hTl : T.length + 1 ≤ 70368744177600 := by rw [← hT]; simp only [List.length_append, List.length_cons, List.length_nil] at hl ⊢; omega
  have hkl : kids.length ≤ 70368744177600 := by have := txL_len true kids; rw [← hT] at hTl; simp only [List.length_append] at hTl; omega
  have hend : l ++ ([opn k] ++ txL true kids ++ [cls k]) = T ++ [cls k] := by rw [← hT]; simp only [List.append_assoc]
  rw [hend]
  have hll : l.length + 1 ≤ 70368744177600 := by rw [← hT] at hTl; simp only [List.length_append, List.length_cons, List.length_nil] at hTl; omega
  clear hl hend e
  have hw0 := WriteByte_c a ha l (opn k) (by omega)
  rcases ha with rfl | rfl
  all_goals
    refine fn_ruleM (C := ⟨Tryd.prog, layF, Tryd.f31.ntmps, ΓS, 2, [], []⟩) layF_ok mixed Tryd.func31 rfl (by kernel_rfl) rfl rfl rfl ?_
    refine ex_false h0 ?_
    refine ex_false h1 ?_
    refine ex_false h2 ?_
    refine ex_call ((brackets_c k).of0) ?_
    refine ex_chr 0 (opn k) rfl (by rw [brk_at]; rfl) ?_
    refine ex_callM (CallsM.ren (hw0.of0) [0, 1] 3 rfl rfl rfl rfl) ?_
    refine ex_is (kids.length) (by simp) ?_
    refine ex_loop (X := Nat × List UInt8) (fun ⟨q, m⟩ => ⟨[(1, .o (.c (.ptr 0 0))), (2, .o (.c (.ptr 2 0))), (17, .o (c1 (.sl 4 (kids.map drow)))), (18, Ti kids.length), (19, Ti q)], [(0, .obj [.ptr 0 0, .row 3] Tbld), (1, .dead), (2, .obj [.d (di k), .d (du n), .d (ds b), .d (.sl 4 (kids.map drow))]), (3, Brow m)], 4⟩) (fun x => kids.length - x.1)
      (fun ⟨q, m⟩ => q ≤ kids.length ∧ m ++ txL (decide (q = 0)) (kids.drop q) = T) (0, l ++ [opn k]) ⟨by omega, by simpa using hT⟩ (SLe.of ⟨⟨rfl, rfl, rfl, rfl, rfl, trivial⟩, ⟨rfl, rfl, rfl, rfl, trivial⟩⟩) ?_
    rintro ⟨q, m⟩ ⟨hq, hm⟩
    refine ex_dec (fun h5 => ?_) (fun h5 => ?_)
    · have hql : q < kids.length := by omega
      rw [List.drop_eq_getElem_cons hql, txL] at hm
      have hw := ih kids[q] (List.getElem_mem hql)
      refine ex_row (q) _ (by first | rfl | omega | simp) (at_some (hql)) ?_
      generalize kids[q] = x at *
      have hml := congrArg List.length hm
      simp only [List.length_append] at hml
      refine ex_dec (fun h6 => ?_) (fun h6 => ?_)
      · have hq0 : decide (q = 0) = false := by simp; omega
        rw [if_neg (by simp; omega)] at hm
        refine ex_callM (CallsM.ren (((WriteString_c (.ptr 0 0) (.inr rfl) m ⟨#[44, 32]⟩ (by simp only [ByteArray.size]; simp; omega)).of0)) [0, 3] 5 rfl rfl rfl rfl) ?_
        refine ex_callM (CallsM.ren ((hw (.ptr 0 0) (.inr rfl) (m ++ [44, 32]) (by simp only [List.length_append, List.length_cons, List.length_nil]; simp only [hq0] at hml; simp at hml; omega))) [0, 5] 6 rfl rfl rfl rfl) ?_
        refine ex_i64 (((q + 1 : Nat) : Int)) (by first | rfl | omega | simp) (by omega) (by omega) ?_
        refine ex_round (q + 1, m ++ [44, 32] ++ txP x) ⟨hql, ?_⟩ (by show _ - _ < _ - _; omega) (SLe.ren [(0, 0), (1, 1), (2, 2), (6, 3)] ⟨⟨rfl, rfl⟩, ⟨rfl, rfl⟩, ⟨rfl, rfl⟩, ⟨rfl, rfl⟩, ⟨rfl, rfl⟩, trivial⟩ ⟨⟨rfl, rfl⟩, ⟨rfl, rfl⟩, ⟨rfl, rfl⟩, ⟨rfl, rfl⟩, trivial⟩ rfl)
        rw [← hm]
        simp
      · rw [if_pos (by simp; omega)] at hm
        refine ex_callM (CallsM.ren ((hw (.ptr 0 0) (.inr rfl) m (by omega))) [0, 3] 5 rfl rfl rfl rfl) ?_
        refine ex_i64 (((q + 1 : Nat) : Int)) (by first | rfl | omega | simp) (by omega) (by omega) ?_
        refine ex_round (q + 1, m ++ txP x) ⟨hql, ?_⟩ (by show _ - _ < _ - _; omega) (SLe.ren [(0, 0), (1, 1), (2, 2), (5, 3)] ⟨⟨rfl, rfl⟩, ⟨rfl, rfl⟩, ⟨rfl, rfl⟩, ⟨rfl, rfl⟩, ⟨rfl, rfl⟩, trivial⟩ ⟨⟨rfl, rfl⟩, ⟨rfl, rfl⟩, ⟨rfl, rfl⟩, ⟨rfl, rfl⟩, trivial⟩ rfl)
        rw [← hm]
        simp
    · obtain rfl : q = kids.length := by omega
      rw [List.drop_length, txL, List.append_nil] at hm
      subst hm
      refine ex_call ((brackets_c k).of0) ?_
      refine ex_chr 1 (cls k) rfl (by rw [brk_at]; rfl) ?_
      refine ex_callM (CallsM.ren (((WriteByte_c (.ptr 0 0) (.inr rfl) m (cls k) (by omega)).of0)) [0, 3] 4 rfl rfl rfl rfl) ?_
      exact ⟨rfl, TLe.rfl, rfl, rfl⟩
mutual
theorem WrC_all : ∀ t : PV, AllN FmtOk t → WrC t
  | .mk k n b l, h => by
    rw [AllN] at h
    by_cases h0 : k = 0
    · subst h0; exact WrC0 n b l
    by_cases h1 : k = 1
    · subst h1; exact WrC1 n b l (h.1 rfl)
    by_cases h2 : k = 2
    · subst h2; exact WrC2 n b l
    exact WrCL k n b l h0 h1 h2 (WrC_allL l h.2)
theorem WrC_allL : ∀ l : List PV, AllNL FmtOk l → ∀ t ∈ l, WrC t
  | [], _ => by simp
  | x :: xs, h => by
    rw [AllNL] at h
    intro t ht
    rcases List.mem_cons.1 ht with e | ht
    · rw [e]; exact WrC_all x h.1
    · exact WrC_allL xs h.2 t ht
end
/-- A value's signs; none, if it isn't good. -/
def txV (t : PV) : List UInt8 := if goodP t then txP t else []
theorem Text_c (t : PV) (ht : t.num ≤ 4611686018427387904) (hF : AllN FmtOk t) (hs : (txP t).length ≤ 70368744177600) :
    CallsA Tryd.prog ΓS 14 [gD (drow t)] (.o (c1 (ds ⟨(txV t).toArray⟩))) := by
  have hg := Good_c t ht
  have hw := WrC_all t hF (.d (.v (.pointer none))) (.inl rfl) [] (by simpa using hs)
  have hne : txP t ≠ [] := by have := txP_pos t; intro e; rw [e] at this; simp at this
  unfold txV
  cases hgd : goodP t
  · rw [hgd] at hg
    rw [if_neg (by simp)]
    refine fn_rule (C := ⟨Tryd.prog, layF, Tryd.f14.ntmps, ΓS, 0, [], []⟩) layF_ok mixed Tryd.func14 rfl (by kernel_rfl) rfl rfl rfl ?_
    refine ex_call (hg.of0) ?_
    exact TLe.rfl
  · rw [hgd] at hg
    rw [if_pos rfl]
    refine fn_rule (C := ⟨Tryd.prog, layF, Tryd.f14.ntmps, ΓS, 0, [3], []⟩) layF_ok mixed Tryd.func14 rfl (by kernel_rfl) rfl rfl rfl ?_
    refine ex_call (hg.of0) ?_
    refine ex_join (X := Unit) (fun _ => ⟨[(1, .o (.c (.ptr 0 0))), (3, .o (.c (.ptr 1 0)))], [(1, .obj [.d (.v (.pointer none)), .row 2] Tbld), (2, Brow []), (0, .obj ((drow t).map .d))], 3⟩) (fun _ => True) ?_ ?_
    · exact ex_meet () trivial (SLe.trans (SLe.of ⟨⟨rfl, rfl, trivial⟩, ⟨rfl, rfl, rfl, trivial⟩⟩) (SLe.ownCell 1 1 2 1 Tu8 rfl rfl rfl rfl rfl rfl))
    · intro _ _
      refine ex_callM (CallsM.ren (hw) [1, 2] 3 rfl rfl rfl rfl) ?_
      refine ex_callM (CallsM.ren (((String_c (txP t) hne).of0)) [1, 3] 4 rfl rfl rfl rfl) ?_
      exact TLe.rfl
end Go.Proofs.YtkeehnhamkdogaaDoor
