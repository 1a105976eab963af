/- TopBlanks: a description whose tokens stand otherwise, with any blanks and comments between them, is the same one. Condition: the listed package variables hold what the program's text lays. -/
import Derived.Laws.StructEq
import Derived.ChangeKeysEq
import Derived.Lib.LaidTab
import Derived.Test.YtidnlfkakhmadaaGreatDoorRows
import Derived.Lay
import Derived.MakeChecks
import Derived.Test.YtidnlfkakhmadaaGreatDoorCards
import Derived.Test.YtidnlfkakhmadaaGreatDoorTie
import Derived.SevenTiedAt
import Derived.Deep.DeepHandedRow
import Derived.Test.YtidnlfkakhmadaaGreatDoorBnd1
import Derived.Test.YtidnlfkakhmadaaGreatDoorBnd2
import Derived.Test.YtidnlfkakhmadaaGreatDoorBnd3
import Derived.Test.YtidnlfkakhmadaaGreatDoorBnd4
import Derived.Test.YtidnlfkakhmadaaGreatDoorBnd5
set_option linter.unusedVariables false
set_option linter.unusedSimpArgs false
set_option maxRecDepth 100000
namespace Go.Proofs.YtidnlfkakhmadaaGreatDoor
open Go.RowKit

def strR : List CD → List CR
 | [] => []
 | .con _ _ _ :: l => strR l
 | .str r :: l => r :: strR l
def rTx : List CR → List UInt8
 | [] => []
 | r :: l => r.norm.tx ++ rTx l
def coX (c : CO) : List UInt8 := w_const ++ 32 :: (c.nm ++ 32 :: 61 :: 32 :: (Lib.decDigits c.n ++ [59, 10]))
def conX : List CO → List UInt8
 | [] => []
 | c :: l => coX c ++ conX l
def rRc : List CR → Nat → Nat → List RC
 | [], _, _ => []
 | r :: l, o, p => r.rc o p :: rRc l (o + itSx r.its) (p + itSt r.its)
def rX : List CR → Nat → List EX
 | [], _ => []
 | r :: l, o => itX r.its o ++ rX l (o + itSx r.its)
def rY : List CR → Nat → Nat → List TY
 | [], _, _ => []
 | r :: l, o, p => itY r.its o p ++ rY l (o + itSx r.its) (p + itSt r.its)
def rSz : List CR → Nat
 | [] => 0
 | r :: l => itSx r.its + itSt r.its + rSz l
theorem dR_s : ∀ (l : List CD) (o p : Nat), dR l o p = rRc (strR l) o p
 | [], _, _ => rfl
 | .con _ _ _ :: l, o, p => dR_s l o p
 | .str r :: l, o, p => by rw [dR, dR_s l]; rfl
theorem dX_s : ∀ (l : List CD) (o : Nat), dX l o = rX (strR l) o
 | [], _ => rfl
 | .con _ _ _ :: l, o => dX_s l o
 | .str r :: l, o => by rw [dX, dX_s l]; rfl
theorem dY_s : ∀ (l : List CD) (o p : Nat), dY l o p = rY (strR l) o p
 | [], _, _ => rfl
 | .con _ _ _ :: l, o, p => dY_s l o p
 | .str r :: l, o, p => by rw [dY, dY_s l]; rfl
theorem r_sz : ∀ (l : List CR) (o p : Nat), (rX l o).length + (rY l o p).length = rSz l
 | [], _, _ => rfl
 | r :: l, o, p => by
  have := r_sz l (o + itSx r.its) (p + itSt r.its)
  rw [rX, rY, List.length_append, List.length_append, itX_len, itY_len]
  show _ = itSx r.its + itSt r.its + rSz l
  omega
theorem dTx_app : ∀ a b : List CD, dTx (a ++ b) = dTx a ++ dTx b
 | [], _ => rfl
 | d :: a, b => by rw [List.cons_append, dTx, dTx_app a b, dTx, List.append_assoc]
theorem nCon_tx : ∀ l : List CD, dTx ((l.filter CD.isC).map CD.norm) = conX (dC l)
 | [] => rfl
 | .con nm t n :: l => by
  have := nCon_tx l
  show (CD.con nm (Lib.decDigits n) n).tx ++ dTx ((l.filter CD.isC).map CD.norm) = coX ⟨nm, n⟩ ++ conX (dC l)
  rw [this]; rfl
 | .str r :: l => nCon_tx l
theorem nStr_tx : ∀ l : List CD, dTx ((l.filter fun d => !d.isC).map CD.norm) = rTx (strR l)
 | [] => rfl
 | .con nm t n :: l => nStr_tx l
 | .str r :: l => by
  have := nStr_tx l
  show r.norm.tx ++ dTx ((l.filter fun d => !d.isC).map CD.norm) = r.norm.tx ++ rTx (strR l)
  rw [this]
theorem norm_dTx (l : List CD) : dTx (normD l) = conX (dC l) ++ rTx (strR l) := by
 unfold normD
 rw [dTx_app, nCon_tx, nStr_tx]
theorem sR_mem : ∀ (l : List CD) (r : CR), r ∈ strR l → CD.str r ∈ l
 | .con _ _ _ :: l, r, h => List.mem_cons_of_mem _ (sR_mem l r h)
 | .str q :: l, r, h => by
  rcases List.mem_cons.1 h with rfl | h
  ·exact List.mem_cons_self
  ·exact List.mem_cons_of_mem _ (sR_mem l r h)
theorem dC_mem : ∀ (l : List CD) (c : CO), c ∈ dC l → ∃ t, CD.con c.nm t c.n ∈ l
 | .con nm t n :: l, c, h => by
  rcases List.mem_cons.1 h with rfl | h
  ·exact ⟨t, List.mem_cons_self⟩
  ·obtain ⟨t, h⟩ := dC_mem l c h
   exact ⟨t, List.mem_cons_of_mem _ h⟩
 | .str q :: l, c, h => by
  obtain ⟨t, h⟩ := dC_mem l c h
  exact ⟨t, List.mem_cons_of_mem _ h⟩
theorem coX_pos (c : CO) : 0 < (coX c).length := by unfold coX; rw [List.length_append, List.length_cons]; omega
theorem rtx_pos (r : CR) : 0 < r.norm.tx.length := by show 0 < (w_struct ++ 32 :: _).length; rw [List.length_append, List.length_cons]; omega
theorem String_0 :
  CallsM Tryz.prog ΓV 9 [(0, .obj [.d (.v (.pointer none)), .d (.v (.slice none 0 0))] Tbld)] 1 [.c (.ptr 0 0)] (Tstr (bs [])) [(0, .obj [.d (.v (.pointer none)), .d (.v (.slice none 0 0))] Tbld)] [] := by
 refine fn_ruleM (C := ⟨Tryz.prog, layF, Tryz.f9.ntmps, ΓV, 1, [], []⟩) layF_ok mixed Tryz.func9 rfl (by kernel_rfl) rfl rfl rfl ?_
 refine ⟨rfl, rfl, ?_⟩
 repeat' (first | refine qgs ?_ | refine eD ?_ ?_ <;> intro)
 exact ⟨rfl, TLe.rfl, rfl, rfl⟩
theorem con_cnt : ∀ l : List CO, l.length ≤ (conX l).length
 | [] => Nat.le_refl _
 | c :: l => by
  have := con_cnt l
  have := coX_pos c
  rw [conX, List.length_append, List.length_cons]
  omega
theorem rtx_cnt : ∀ l : List CR, l.length ≤ (rTx l).length
 | [] => Nat.le_refl _
 | c :: l => by
  have := rtx_cnt l
  have := rtx_pos c
  rw [rTx, List.length_append, List.length_cons]
  omega
theorem rRc_len : ∀ (l : List CR) (o p : Nat), (rRc l o p).length = l.length
 | [], _, _ => rfl
 | c :: l, o, p => by rw [rRc, List.length_cons, List.length_cons, rRc_len l]
section
set_option maxHeartbeats 8000000 in
theorem all_0 : CallsM Tryz.prog ΓV 40 (PrM (fileD [] [] [] []) 0) 1 [.c (.ptr 0 0)] (Tstr (bs [])) (PrM (fileD [] [] [] []) 0) [] := by
 show CallsM _ _ _ [(0, .obj [.eptr [.sl 2 [], .sl 3 [], .sl 5 [], .sl 8 []], _, _])] _ _ _ [(0, .obj [.eptr [.sl 2 [], .sl 3 [], .sl 5 [], .sl 8 []], _, _])] _
 refine fn_ruleM (C := ⟨Tryz.prog, layF, Tryz.f40.ntmps, ΓV, 1, [], []⟩) layF_ok mixed Tryz.func40 rfl (by kernel_rfl) rfl rfl rfl ?_
 repeat' (first | refine qgs ?_ | refine eD ?_ ?_ <;> intro)
 refine ex_loop (X := Unit) (fun _ => ⟨[(0, .o (.c (.ptr 0 0))), (3, .o (.c (.ptr 1 0))), (14, .o (c1 (.sl 2 []))), (15, Ti 0), (16, Ti 0)], [(1, .obj [.d (.v (.pointer none)), .d (.v (.slice none 0 0))] Tbld), (0, .obj [.eptr [.sl 2 [], .sl 3 [], .sl 5 [], .sl 8 []], .d (di 0), .d (db false)])], 2⟩) (fun _ => 0) (fun _ => True) () trivial sS ?_
 rintro - -
 refine ex_dec (fun hh => ?_) (fun hh => ?_)
 ·omega
 ·repeat' (first | refine qgs ?_ | refine eD ?_ ?_ <;> intro)
  refine ex_loop (X := Unit) (fun _ => ⟨[(3, .o (.c (.ptr 1 0))), (38, .o (c1 (.sl 3 []))), (39, Ti 0), (40, Ti 0)], [(1, .obj [.d (.v (.pointer none)), .d (.v (.slice none 0 0))] Tbld), (0, .obj [.eptr [.sl 2 [], .sl 3 [], .sl 5 [], .sl 8 []], .d (di 0), .d (db false)])], 2⟩) (fun _ => 0) (fun _ => True) () trivial sS ?_
  rintro - -
  refine ex_dec (fun hh => ?_) (fun hh => ?_)
  ·omega
  ·repeat' (first | refine qgs ?_ | refine eD ?_ ?_ <;> intro)
   refine sC (CallsM.ren (String_0) [1] 2 rfl rfl rfl rfl) ?_
   repeat' (first | refine qgs ?_ | refine eD ?_ ?_ <;> intro)
   exact ⟨rfl, TLe.rfl, rfl, rfl⟩
set_option maxHeartbeats 8000000 in
theorem all_c (l : List CD) (hne : l ≠ []) (hok : DsOk l) (hn : ∀ d ∈ l, d.nums) (hx : (dX l 0).length ≤ 1000000) (ht : (dY l 0 0).length ≤ 1000000) (hs : (dTx (normD l)).length ≤ 1000000000) :
  CallsM Tryz.prog ΓV 40 (PrM (fileD (dC l) (dR l 0 0) (dX l 0) (dY l 0 0)) (rSz (strR l))) 1 [.c (.ptr 0 0)] (Tstr (bs (dTx (normD l)))) (PrM (fileD (dC l) (dR l 0 0) (dX l 0) (dY l 0 0)) 0) [] := by
 have hrok : ∀ r ∈ strR l, r.ok ∧ ∀ c ∈ r.its, c.nums := fun r h => ⟨hok _ (sR_mem l r h), hn _ (sR_mem l r h)⟩
 have hcok : ∀ c ∈ dC l, c.n < 18446744073709551616 := fun c h => by
  obtain ⟨t, h⟩ := dC_mem l c h
  exact hn _ h
 have hpos : 0 < (dTx (normD l)).length := by
  rw [norm_dTx]
  cases l with
  | nil => exact absurd rfl hne
  | cons d l =>
   cases d with
   | con nm t n =>
    show 0 < (coX ⟨nm, n⟩ ++ conX (dC l) ++ _).length
    have := coX_pos ⟨nm, n⟩
    rw [List.length_append, List.length_append]
    omega
   | str r =>
    show 0 < (_ ++ (r.norm.tx ++ rTx (strR l))).length
    have := rtx_pos r
    rw [List.length_append, List.length_append]
    omega
 have hsz := r_sz (strR l) 0 0
 rw [← dX_s, ← dY_s] at hsz
 obtain ⟨xs, hxs⟩ : ∃ xs, dX l 0 = xs := ⟨_, rfl⟩
 obtain ⟨ts, hts⟩ : ∃ ts, dY l 0 0 = ts := ⟨_, rfl⟩
 have hX : Lys xs (rX (strR l) 0) 0 := ⟨[], [], by rw [← hxs, dX_s]; simp, rfl⟩
 have hY : Lys ts (rY (strR l) 0 0) 0 := ⟨[], [], by rw [← hts, dY_s]; simp, rfl⟩
 rw [norm_dTx] at hs hpos ⊢
 rw [dR_s]
 rw [hxs] at hx hsz ⊢
 rw [hts] at ht hsz ⊢
 clear hxs hts hok hn hne
 generalize dC l = cs at *
 generalize strR l = rs at *
 obtain ⟨R0, hR0⟩ : ∃ q, rRc rs 0 0 = q := ⟨_, rfl⟩
 obtain ⟨TT, hTT⟩ : ∃ q, conX cs ++ rTx rs = q := ⟨_, rfl⟩
 have hTL : cs.length + rs.length ≤ TT.length := by rw [← hTT, List.length_append]; exact Nat.add_le_add (con_cnt cs) (rtx_cnt rs)
 rw [hTT] at hs hpos ⊢
 rw [hR0]
 have hmc : (cs.map coD).length = cs.length := List.length_map _
 show CallsM _ _ _ (PrM [.sl 2 (cs.map coD), .sl 3 (R0.map rcD), .sl 5 (xs.map exD), .sl 8 (ts.map tyD)] (rSz rs)) _ _ _ (PrM [.sl 2 (cs.map coD), .sl 3 (R0.map rcD), .sl 5 (xs.map exD), .sl 8 (ts.map tyD)] 0) _
 refine fn_ruleM (C := ⟨Tryz.prog, layF, Tryz.f40.ntmps, ΓV, 1, [], []⟩) layF_ok mixed Tryz.func40 rfl (by kernel_rfl) rfl rfl rfl ?_
 repeat' (first | refine (ex_is _ hmc) ?_ | refine qg1 ?_ | refine eD ?_ ?_ <;> intro)
 refine ex_loop (X := Nat × CV × List UInt8) (fun ⟨q, a, m⟩ => ⟨[(0, .o (.c (.ptr 0 0))), (3, .o (.c (.ptr 1 0))), (14, .o (c1 (.sl 2 (cs.map coD)))), (15, Ti cs.length), (16, Ti q)], [(1, .obj [a, .row 2] Tbld), (2, Brow m), (0, .obj [.eptr [.sl 2 (cs.map coD), .sl 3 (R0.map rcD), .sl 5 (xs.map exD), .sl 8 (ts.map tyD)], .d (di (rSz rs)), .d (db false)])], 3⟩) (fun x => cs.length - x.1)
  (fun ⟨q, a, m⟩ => q ≤ cs.length ∧ ((a = .d (.v (.pointer none)) ∧ m = []) ∨ a = .ptr 1 0) ∧ m ++ conX (cs.drop q) ++ rTx rs = TT) (0, .d (.v (.pointer none)), []) ⟨Nat.zero_le _, .inl ⟨rfl, rfl⟩, hTT⟩ (SLe.trans sS (SLe.ownCell 1 1 2 1 Tu8 rfl rfl rfl rfl rfl rfl)) ?_
 rintro ⟨q, a, m⟩ ⟨hq, ha, hm⟩
 refine ex_dec (fun hh => ?_) (fun hh => ?_)
 ·have hql : q < cs.length := by omega
  have hcq : cs[q]? = some cs[q] := at_some hql
  rw [List.drop_eq_getElem_cons hql] at hm
  have hcn := hcok _ (List.getElem_mem hql)
  have hround : q + 1 ≤ cs.length := by omega
  generalize cs[q] = c at *
  obtain ⟨nm, n⟩ := c
  have hf := fmtV n hcn
  have hm : m ++ (coX ⟨nm, n⟩ ++ conX (cs.drop (q + 1))) ++ rTx rs = TT := hm
  have hm2 := congrArg List.length hm
  have hcl : (coX ⟨nm, n⟩).length = nm.length + (Lib.decDigits n).length + 11 := by
   show (w_const ++ 32 :: (nm ++ 32 :: 61 :: 32 :: (Lib.decDigits n ++ [59, 10]))).length = _
   have : w_const.length = 5 := rfl
   simp only [List.length_append, List.length_cons, List.length_nil]
   omega
  simp only [List.length_append] at hm2
  rw [hcl] at hm2
  have hct : coX ⟨nm, n⟩ = [99, 111, 110, 115, 116, 32] ++ nm ++ [32, 61, 32] ++ Lib.decDigits n ++ [59] ++ [10] := by
   show w_const ++ 32 :: (nm ++ 32 :: 61 :: 32 :: (Lib.decDigits n ++ [59, 10])) = _
   simp [w_const]
  rw [hct] at hm
  have p1 : (bs [99, 111, 110, 115, 116, 32]).size + (bs nm).size ≤ 9223372036854775807 := by simp only [bsz, List.length_cons, List.length_nil]; omega
  have p2 : (bs [99, 111, 110, 115, 116, 32] ++ bs nm).size + (bs [32, 61, 32]).size ≤ 9223372036854775807 := by simp only [ByteArray.size_append, bsz, List.length_cons, List.length_nil]; omega
  have p3 : (bs [99, 111, 110, 115, 116, 32] ++ bs nm ++ bs [32, 61, 32]).size + (bs (Lib.decDigits n)).size ≤ 9223372036854775807 := by simp only [ByteArray.size_append, bsz, List.length_cons, List.length_nil]; omega
  have p4 : (bs [99, 111, 110, 115, 116, 32] ++ bs nm ++ bs [32, 61, 32] ++ bs (Lib.decDigits n)).size + (bs [59]).size ≤ 9223372036854775807 := by simp only [ByteArray.size_append, bsz, List.length_cons, List.length_nil]; omega
  have p5 : (bs [99, 111, 110, 115, 116, 32] ++ bs nm ++ bs [32, 61, 32] ++ bs (Lib.decDigits n) ++ bs [59]).size + (bs [10]).size ≤ 9223372036854775807 := by simp only [ByteArray.size_append, bsz, List.length_cons, List.length_nil]; omega
  have p6 : bs [99, 111, 110, 115, 116, 32] ++ bs nm ++ bs [32, 61, 32] ++ bs (Lib.decDigits n) ++ bs [59] ++ bs [10] = bs ([99, 111, 110, 115, 116, 32] ++ nm ++ [32, 61, 32] ++ Lib.decDigits n ++ [59] ++ [10]) := by rw [bs_app, bs_app, bs_app, bs_app, bs_app]
  have hsl : m.length + (bs ([99, 111, 110, 115, 116, 32] ++ nm ++ [32, 61, 32] ++ Lib.decDigits n ++ [59] ++ [10])).size ≤ 140737488355328 := by rw [← hct, bsz, hcl]; first | done | omega
  have hw1 := (WriteString_c (.d (.v (.pointer none))) (.inl rfl) m _ hsl).of0 (Γ := ΓV)
  have hw2 := (WriteString_c (.ptr 0 0) (.inr rfl) m _ hsl).of0 (Γ := ΓV)
  rw [← p6] at hw1 hw2
  generalize hTX : [99, 111, 110, 115, 116, 32] ++ nm ++ [32, 61, 32] ++ Lib.decDigits n ++ [59] ++ [10] = tx at *
  have hd : (bs [99, 111, 110, 115, 116, 32] ++ bs nm ++ bs [32, 61, 32] ++ bs (Lib.decDigits n) ++ bs [59] ++ bs [10]).data.toList = tx := congrArg (fun b : ByteArray => b.data.toList) p6
  rw [hd] at hw1 hw2
  have hm3 : m ++ tx ++ conX (cs.drop (q + 1)) ++ rTx rs = TT := by rw [← hm]; simp
  clear hd hm2 hcok hrok
  rcases ha with ⟨rfl, -⟩ | rfl
  ·repeat' (first | refine ex_call hf ?_ | refine (ex_rowF q _ [ds (bs nm), du n] rfl hcq rfl) ?_ | refine (ex_is _ hmc) ?_ | refine qg1 ?_ | refine eD ?_ ?_ <;> intro)
   refine sC (CallsM.ren (hw1) [1, 2] 4 rfl rfl rfl rfl) ?_
   repeat' (first | refine aI ((q + 1 : Nat) : Int) ?_ | refine aU ((q + 1 : Nat) : Int) ?_ | refine aB ((q + 1 : Nat) : Int) ?_ | refine qg1 ?_ | refine eD ?_ ?_ <;> intro)
   exact ex_round (q + 1, CV.ptr 1 0, m ++ tx) ⟨hround, .inr rfl, hm3⟩ (by show _ - _ < _ - _; omega) (sR [(0, 0), (1, 1), (4, 2)])
  ·repeat' (first | refine ex_call hf ?_ | refine (ex_rowF q _ [ds (bs nm), du n] rfl hcq rfl) ?_ | refine (ex_is _ hmc) ?_ | refine qg1 ?_ | refine eD ?_ ?_ <;> intro)
   refine sC (CallsM.ren (hw2) [1, 2] 4 rfl rfl rfl rfl) ?_
   repeat' (first | refine aI ((q + 1 : Nat) : Int) ?_ | refine aU ((q + 1 : Nat) : Int) ?_ | refine aB ((q + 1 : Nat) : Int) ?_ | refine qg1 ?_ | refine eD ?_ ?_ <;> intro)
   exact ex_round (q + 1, CV.ptr 1 0, m ++ tx) ⟨hround, .inr rfl, hm3⟩ (by show _ - _ < _ - _; omega) (sR [(0, 0), (1, 1), (4, 2)])
 ·obtain rfl : q = cs.length := by omega
  rw [List.drop_length] at hm
  have hm : m ++ [] ++ rTx rs = TT := hm
  rw [List.append_nil] at hm
  have hmr : (R0.map rcD).length = rs.length := by rw [List.length_map, ← hR0, rRc_len]
  have hstep : ∀ {q : Nat} {l : List CR} {o p : Nat} {m : List UInt8} {k : Nat}, q < rs.length → rs.drop q = l → R0.drop q = rRc l o p → Lys xs (rX l o) o → Lys ts (rY l o p) p → m ++ rTx l = TT → k = rSz l → k ≤ 100000000 →
    ∃ (r : CR) (l' : List CR), R0[q]? = some (r.rc o p) ∧ rs.drop (q + 1) = l' ∧ R0.drop (q + 1) = rRc l' (o + itSx r.its) (p + itSt r.its) ∧ Lys xs (rX l' (o + itSx r.its)) (o + itSx r.its) ∧ Lys ts (rY l' (o + itSx r.its) (p + itSt r.its)) (p + itSt r.its) ∧ m ++ r.norm.tx ++ rTx l' = TT ∧ m.length + r.norm.tx.length ≤ 1000000000 ∧ rSz l' ≤ 100000000 ∧
     CallsM Tryz.prog ΓV 62 (PrM (GF (.sl 2 (cs.map coD)) (.sl 3 (R0.map rcD)) xs ts) k) 1 [.c (.ptr 0 0), gD (rcD (r.rc o p))] (Tstr (bs r.norm.tx)) (PrM (GF (.sl 2 (cs.map coD)) (.sl 3 (R0.map rcD)) xs ts) (rSz l')) [] := by
   intro q l o p m k hq hdl hdrop hX2 hY2 htx2 hk2 hk3
   have hql : q < R0.length := by rw [← hR0, rRc_len]; exact hq
   rw [List.drop_eq_getElem_cons hql] at hdrop
   rw [List.drop_eq_getElem_cons hq] at hdl
   have hcq := at_some hql
   have hmem : rs[q] ∈ rs := List.getElem_mem hq
   generalize rs[q] = r at *
   subst hdl
   obtain ⟨hd1, hd2⟩ := List.cons.inj hdrop
   have htx3 : m ++ (r.norm.tx ++ rTx (rs.drop (q + 1))) = TT := htx2
   have hlen2 := congrArg List.length htx3
   simp only [List.length_append] at hlen2
   have hXr := hX2.right
   rw [itX_len] at hXr
   have hYr := hY2.right
   rw [itY_len] at hYr
   have hk4 : k = itSx r.its + itSt r.its + rSz (rs.drop (q + 1)) := hk2
   have hrc := srecord_c (C := .sl 2 (cs.map coD)) (R := .sl 3 (R0.map rcD)) hx ht r o p (hrok r hmem).1 (hrok r hmem).2 hX2.left hY2.left (by omega) (rSz (rs.drop (q + 1))) (by omega)
   rw [show rSz (rs.drop (q + 1)) + (itSx r.its + itSt r.its) = k by omega] at hrc
   exact ⟨r, _, by rw [hcq, hd1], rfl, hd2, hXr, hYr, by rw [← htx3]; simp, by omega, by omega, hrc⟩
  repeat' (first | refine (ex_is _ hmr) ?_ | refine qg1 ?_ | refine eD ?_ ?_ <;> intro)
  refine ex_loop (X := Nat × List CR × Nat × Nat × CV × List UInt8 × Nat) (fun ⟨q, l, o, p, a, m, k⟩ => ⟨[(0, .o (.c (.ptr 0 0))), (3, .o (.c (.ptr 1 0))), (38, .o (c1 (.sl 3 (R0.map rcD)))), (39, Ti rs.length), (40, Ti q)], [(1, .obj [a, .row 2] Tbld), (2, Brow m), (0, .obj [.eptr [.sl 2 (cs.map coD), .sl 3 (R0.map rcD), .sl 5 (xs.map exD), .sl 8 (ts.map tyD)], .d (di k), .d (db false)])], 3⟩) (fun x => rs.length - x.1)
   (fun ⟨q, l, o, p, a, m, k⟩ => q ≤ rs.length ∧ rs.drop q = l ∧ R0.drop q = rRc l o p ∧ Lys xs (rX l o) o ∧ Lys ts (rY l o p) p ∧ m ++ rTx l = TT ∧ k = rSz l ∧ k ≤ 100000000 ∧ ((a = .d (.v (.pointer none)) ∧ m = []) ∨ a = .ptr 1 0)) (0, rs, 0, 0, a, m, rSz rs) ⟨Nat.zero_le _, rfl, hR0.symm, hX, hY, hm, rfl, by omega, ha⟩ sS ?_
  clear ha hX hY hmc
  rintro ⟨q, l, o, p, a, m, k⟩ ⟨hq, hdl, hdrop, hX, hY, hm, hk, hk3, ha⟩
  refine ex_dec (fun hh => ?_) (fun hh => ?_)
  ·obtain ⟨r, l', k1, k2, k3, k4, k5, k6, k7, k8, k9⟩ := hstep (by omega) hdl hdrop hX hY hm hk hk3
   have hw1 := (WriteString_c (.d (.v (.pointer none))) (.inl rfl) m (bs r.norm.tx) (by rw [bsz]; omega)).of0 (Γ := ΓV)
   have hw2 := (WriteString_c (.ptr 0 0) (.inr rfl) m (bs r.norm.tx) (by rw [bsz]; omega)).of0 (Γ := ΓV)
   have hd : (bs r.norm.tx).data.toList = r.norm.tx := rfl
   rw [hd] at hw1 hw2
   generalize r.rc o p = y at *
   obtain ⟨y1, y2, y3⟩ := y
   have k9 : CallsM Tryz.prog ΓV 62 _ 1 [.c (.ptr 0 0), gD [ds (bs y1), .sl 1 (y2.map fun p => [ds (bs p)]), .sl 9 (y3.map itD)]] _ _ _ := k9
   have hround : q + 1 ≤ rs.length := by omega
   clear hstep hd hrok hcok
   generalize hla : rSz l' = la at *
   rcases ha with ⟨rfl, -⟩ | rfl
   ·repeat' (first | refine (ex_rowF q _ [ds (bs y1), .sl 1 (y2.map fun p => [ds (bs p)]), .sl 9 (y3.map itD)] rfl k1 rfl) ?_ | refine (ex_is _ hmr) ?_ | refine qg1 ?_ | refine eD ?_ ?_ <;> intro)
    refine sC (CallsM.ren (k9) [0] 4 rfl rfl rfl rfl) ?_
    repeat' (first | refine qgs ?_ | refine eD ?_ ?_ <;> intro)
    refine sC (CallsM.ren (hw1) [1, 2] 4 rfl rfl rfl rfl) ?_
    repeat' (first | refine aI ((q + 1 : Nat) : Int) ?_ | refine aU ((q + 1 : Nat) : Int) ?_ | refine aB ((q + 1 : Nat) : Int) ?_ | refine qg1 ?_ | refine eD ?_ ?_ <;> intro)
    exact ex_round (q + 1, l', o + itSx r.its, p + itSt r.its, CV.ptr 1 0, m ++ r.norm.tx, la) ⟨hround, k2, k3, k4, k5, k6, hla.symm, k8, .inr rfl⟩ (by show _ - _ < _ - _; omega) (sR [(0, 0), (1, 1), (4, 2)])
   ·repeat' (first | refine (ex_rowF q _ [ds (bs y1), .sl 1 (y2.map fun p => [ds (bs p)]), .sl 9 (y3.map itD)] rfl k1 rfl) ?_ | refine (ex_is _ hmr) ?_ | refine qg1 ?_ | refine eD ?_ ?_ <;> intro)
    refine sC (CallsM.ren (k9) [0] 4 rfl rfl rfl rfl) ?_
    repeat' (first | refine qgs ?_ | refine eD ?_ ?_ <;> intro)
    refine sC (CallsM.ren (hw2) [1, 2] 4 rfl rfl rfl rfl) ?_
    repeat' (first | refine aI ((q + 1 : Nat) : Int) ?_ | refine aU ((q + 1 : Nat) : Int) ?_ | refine aB ((q + 1 : Nat) : Int) ?_ | refine qg1 ?_ | refine eD ?_ ?_ <;> intro)
    exact ex_round (q + 1, l', o + itSx r.its, p + itSt r.its, CV.ptr 1 0, m ++ r.norm.tx, la) ⟨hround, k2, k3, k4, k5, k6, hla.symm, k8, .inr rfl⟩ (by show _ - _ < _ - _; omega) (sR [(0, 0), (1, 1), (4, 2)])
  ·obtain rfl : q = rs.length := by omega
   rw [List.drop_length] at hdl
   subst hdl
   have hm : m ++ [] = TT := hm
   rw [List.append_nil] at hm
   subst hm
   obtain rfl : k = 0 := hk
   have hmne : m ≠ [] := fun e => by rw [e] at hpos; exact absurd hpos (by decide)
   rcases ha with ⟨-, rfl⟩ | rfl
   ·exact absurd rfl hmne
   ·repeat' (first | refine qgs ?_ | refine eD ?_ ?_ <;> intro)
    refine sC (CallsM.ren (((String_c m hmne).of0 (Γ := ΓV))) [1, 2] 3 rfl rfl rfl rfl) ?_
    repeat' (first | refine qgs ?_ | refine eD ?_ ?_ <;> intro)
    exact ⟨rfl, TLe.rfl, rfl, rfl⟩
end
end Go.Proofs.YtidnlfkakhmadaaGreatDoor

namespace Go.Proofs.YtidnlfkakhmadaaGreatDoor

theorem dec_len' (n : Nat) (h : n < 18446744073709551616) : (Lib.decDigits n).length ≤ 20 := by
 have key : ∀ (d m : Nat), m < 10 ^ (d + 1) → (Lib.decDigits m).length ≤ d + 1 := by
  intro d
  induction d with
  | zero => intro m hm; rw [Lib.decDigits, dif_pos (by omega)]; simp
  | succ d ih =>
   intro m hm
   rw [Lib.decDigits]
   split
   ·simp
   ·have := ih (m / 10) (by rw [Nat.pow_succ] at hm; omega)
    rw [List.length_append, List.length_singleton]; omega
 exact key 19 n (by omega)
theorem valF_lt' {base : Nat} : ∀ (l : List UInt8) (n m : Nat), n < 18446744073709551616 → valF base n l = some m → m < 18446744073709551616
 | [], n, m, h, e => by rw [valF] at e; injection e with e; omega
 | b :: r, n, m, h, e => by
  rw [valF] at e
  split at e
  ·exact valF_lt' r _ m (by assumption) e
  ·cases e
theorem numR_lt' {s t : List UInt8} {o : Option Nat} {k n : Nat} (ho : ∀ m, o = some m → m < 18446744073709551616) (h : numR s o = .ok k t n) : n < 18446744073709551616 := by
 cases o with
 | none => cases h
 | some m => cases h; exact ho _ rfl
theorem tokF_lt' {r t : List UInt8} {k n : Nat} (h : tokF r = .ok k t n) : n < 18446744073709551616 := by
 unfold tokF at h
 split at h
 ·split at h
  ·cases h
  ·cases h; decide
 ·split at h
  ·unfold numF at h
   split at h
   ·exact numR_lt' (fun m hm => valF_lt' _ 0 m (by decide) hm) h
   ·split at h
    ·exact numR_lt' (fun m hm => valF_lt' _ 0 m (by decide) hm) h
    ·cases h
  ·split at h
   ·cases h; decide
   ·cases h
def wt (k : Ky) : Nat := if k.1 = 3 then 0 else if k.1 = 1 then 40 else k.2.1.length + 40
def W : List Ky → Nat
 | [] => 0
 | k :: l => wt k + W l
theorem W_app : ∀ a b : List Ky, W (a ++ b) = W a + W b
 | [], b => (Nat.zero_add _).symm
 | k :: a, b => by show wt k + W (a ++ b) = wt k + W a + W b; rw [W_app a b, Nat.add_assoc]
theorem W_cons (k : Ky) (l : List Ky) : W (k :: l) = wt k + W l := rfl
theorem W_nil : W [] = 0 := rfl
theorem wt0 (w : List UInt8) (n : Nat) : wt (0, w, n) = w.length + 40 := rfl
theorem wt1 (w : List UInt8) (n : Nat) : wt (1, w, n) = 40 := rfl
theorem wt2 (w : List UInt8) (n : Nat) : wt (2, w, n) = w.length + 40 := rfl
theorem W_at {L : List TokP} [LexT L] : ∀ (K : List Ky) (i : Nat), AtK L i K → W K ≤ (L.length - i) * 72
 | [], i, _ => Nat.zero_le _
 | k :: K, i, ⟨h1, h2⟩ => by
  have ih := W_at K (i + 1) h2
  rw [W_cons]
  by_cases hi : i < L.length
  ·have : wt k ≤ 72 := by
    rw [← h1]
    rcases LexT.h (L := L) i with e | ⟨-, -, r, hr⟩
    ·rw [e]; decide
    ·unfold wt TokP.key
     dsimp only
     rcases tokF_cases hr with ⟨k2, h, -⟩ | ⟨k1, -⟩ | ⟨k0, -, h, -⟩
     ·have := (signs_len _ h).2.1
      rw [k2, if_neg (by decide), if_neg (by decide)]; omega
     ·rw [k1, if_neg (by decide), if_pos rfl]; decide
     ·rw [k0, if_neg (by decide), if_neg (by decide)]; omega
   omega
  ·have : wt k = 0 := by
    rw [← h1]
    unfold tk
    rw [List.getD_eq_getElem?_getD, List.getElem?_eq_none (by omega)]
    rfl
   omega
def NK : List Ky → Prop
 | [] => True
 | k :: l => k.2.2 < 18446744073709551616 ∧ NK l
theorem NK_app : ∀ {a b : List Ky}, NK (a ++ b) ↔ NK a ∧ NK b
 | [], b => ⟨fun h => ⟨trivial, h⟩, fun h => h.2⟩
 | k :: a, b => by
  show (k.2.2 < _ ∧ NK (a ++ b)) ↔ (k.2.2 < _ ∧ NK a) ∧ NK b
  rw [NK_app, and_assoc]
theorem NK_at {L : List TokP} [LexT L] : ∀ (K : List Ky) (i : Nat), AtK L i K → NK K
 | [], i, _ => trivial
 | k :: K, i, ⟨h1, h2⟩ => ⟨by
  rw [← h1]
  rcases LexT.h (L := L) i with e | ⟨-, -, r, hr⟩
  ·rw [e]; decide
  ·exact tokF_lt' hr, NK_at K (i + 1) h2⟩
theorem nk_ce : ∀ c : CE, NK c.toks → c.nums
 | .num t n, h => h.1
 | .name w, _ => trivial
 | .not a, h => nk_ce a h.2
 | .par a, h => nk_ce a (NK_app.1 h.2).1
 | .bin op a b, h => ⟨nk_ce a (NK_app.1 h).1, nk_ce b (NK_app.1 h).2.2⟩
theorem nk_l : ∀ l : List CE, NK (toksL l) → ∀ c ∈ l, c.nums
 | [], _, c, hc => by cases hc
 | d :: l, h, c, hc => by
  have h := NK_app.1 h.2
  rcases List.mem_cons.1 hc with rfl | hc
  ·exact nk_ce c h.1
  ·exact nk_l l h.2 c hc
mutual
theorem nk_ct : ∀ c : CT, NK c.toks → c.nums
 | .int _, _ => trivial
 | .ref _ [], _ => fun c hc => by cases hc
 | .ref _ (d :: l), h => fun c hc => by
  have h := NK_app.1 h.2.2
  rcases List.mem_cons.1 hc with rfl | hc
  ·exact nk_ce c h.1
  ·exact nk_l l (NK_app.1 h.2).1 c hc
 | .sized _ e, h => nk_ce e (NK_app.1 h.2.2).1
 | .over _ e i, h => ⟨nk_ce e (NK_app.1 h.2.2).1, nk_ct i (NK_app.1 h.2.2).2.2⟩
 | .rest i, h => nk_ct i h.2
 | .tail, _ => trivial
 | .none, _ => trivial
 | .arr b e, h => by
  have h := NK_app.1 h
  exact ⟨nk_ct b h.1, nk_ce e (NK_app.1 h.2.2).1⟩
 | .switch e cs, h => by
  have h := NK_app.1 h.2.2
  exact ⟨nk_ce e h.1, nk_cs cs (NK_app.1 h.2.2.2).1⟩
theorem nk_cs : ∀ c : CS, NK c.toks → c.nums
 | .fin, _ => trivial
 | .els i, h => nk_ct i (NK_app.1 h.2.2).1
 | .case t n i r, h => ⟨h.2.1, nk_ct i (NK_app.1 h.2.2.2).1, nk_cs r (NK_app.1 h.2.2.2).2.2⟩
end
theorem nk_ci (c : CI) (h : NK c.toks) : c.nums := by
 cases c with
 | field nm t d a b wh =>
  have h := NK_app.1 h.2.2
  refine ⟨nk_ct t h.1, fun e he => ?_⟩
  subst he
  exact nk_ce e (NK_app.1 (NK_app.1 h.2).2).1.2
 | pack w l => trivial
theorem nk_its : ∀ l : List CI, NK (itT l) → ∀ c ∈ l, c.nums
 | [], _, c, hc => by cases hc
 | d :: l, h, c, hc => by
  have h := NK_app.1 h
  rcases List.mem_cons.1 hc with rfl | hc
  ·exact nk_ci c h.1
  ·exact nk_its l h.2 c hc
theorem nk_ds : ∀ l : List CD, NK (dT l) → ∀ d ∈ l, d.nums
 | [], _, c, hc => by cases hc
 | d :: l, h, c, hc => by
  have h := NK_app.1 h
  rcases List.mem_cons.1 hc with rfl | hc
  ·cases c with
   | con nm t n => exact h.1.2.2.2.1
   | str r => exact nk_its r.its (NK_app.1 (NK_app.1 h.1.2.2).2.2).1
  ·exact nk_ds l h.2 c hc
theorem w_opd (lv : Nat) (c : CE) : (c.opd lv).tx.length ≤ c.tx.length + 2 := by
 unfold CE.opd
 split
 ·show (40 :: (c.tx ++ [41])).length ≤ _
  simp
 ·omega
theorem w_ce : ∀ c : CE, c.nums → c.norm.tx.length + 2 ≤ W c.toks
 | .num t n, h => by
  have := dec_len' n h
  show (Lib.decDigits n).length + 2 ≤ 40 + 0
  omega
 | .name w, h => by show w.length + 2 ≤ w.length + 40 + 0; omega
 | .not a, h => by
  have := w_ce a h
  have := w_opd 9 a.norm
  show (33 :: (a.norm.opd 9).tx).length + 2 ≤ W ((2, t_bang, 0) :: a.toks)
  rw [W_cons, wt2, List.length_cons]
  omega
 | .par a, h => by
  have := w_ce a h
  show a.norm.tx.length + 2 ≤ W ((2, t_lpar, 0) :: (a.toks ++ [(2, t_rpar, 0)]))
  rw [W_cons, W_app, wt2]
  omega
 | .bin op a b, h => by
  have h1 := w_ce a h.1
  have h2 := w_ce b h.2
  have h3 := w_opd (levelV op) a.norm
  have h4 := w_opd (levelV op + 1) b.norm
  show ((a.norm.opd (levelV op)).tx ++ 32 :: (op ++ 32 :: (b.norm.opd (levelV op + 1)).tx)).length + 2 ≤ W (a.toks ++ (2, op, 0) :: b.toks)
  rw [W_app, W_cons, wt2]
  simp only [List.length_append, List.length_cons]
  omega
theorem w_l : ∀ l : List CE, (∀ c ∈ l, c.nums) → (argX (l.map CE.norm)).length ≤ W (toksL l)
 | [], _ => Nat.le_refl _
 | c :: l, h => by
  have h1 := w_ce c (h c List.mem_cons_self)
  have h2 := w_l l fun d hd => h d (List.mem_cons_of_mem _ hd)
  show (44 :: 32 :: (c.norm.tx ++ argX (l.map CE.norm))).length ≤ W ((2, t_comma, 0) :: (c.toks ++ toksL l))
  rw [W_cons, W_app, wt2]
  simp only [List.length_append, List.length_cons]
  omega
mutual
theorem w_ct : ∀ c : CT, c.nums → c.norm.tx.length ≤ W c.toks
 | .int w, _ => by show w.length ≤ w.length + 40 + 0; omega
 | .ref nm [], _ => by show (nm ++ []).length ≤ nm.length + 40 + 0; rw [List.append_nil]; omega
 | .ref nm (c :: l), h => by
  have h1 := w_ce c (h c List.mem_cons_self)
  have h2 := w_l l fun d hd => h d (List.mem_cons_of_mem _ hd)
  show (nm ++ 40 :: (c.norm.tx ++ (argX (l.map CE.norm) ++ [41]))).length ≤ W ((0, nm, 0) :: (2, t_lpar, 0) :: (c.toks ++ (toksL l ++ [(2, t_rpar, 0)])))
  simp only [W_cons, W_app, wt0, wt2, List.length_append, List.length_cons, List.length_nil]
  omega
 | .sized w e, h => by
  have h1 := w_ce e h
  show (w ++ 91 :: (e.norm.tx ++ [93])).length ≤ W ((0, w, 0) :: (2, t_lsq, 0) :: (e.toks ++ [(2, t_rsq, 0)]))
  simp only [W_cons, W_app, wt0, wt2, List.length_append, List.length_cons, List.length_nil]
  omega
 | .over w e i, h => by
  have h1 := w_ce e h.1
  have h2 := w_ct i h.2
  show (w ++ 91 :: (e.norm.tx ++ 93 :: 32 :: i.norm.tx)).length ≤ W ((0, w, 0) :: (2, t_lsq, 0) :: (e.toks ++ (2, t_rsq, 0) :: i.toks))
  simp only [W_cons, W_app, wt0, wt2, List.length_append, List.length_cons, List.length_nil]
  omega
 | .rest i, h => by
  have h2 := w_ct i h
  show (w_rest ++ 32 :: i.norm.tx).length ≤ W ((0, w_rest, 0) :: i.toks)
  simp only [W_cons, W_app, wt0, wt2, List.length_append, List.length_cons, List.length_nil]
  omega
 | .tail, _ => by decide
 | .none, _ => by decide
 | .arr b e, h => by
  have h1 := w_ce e h.2
  have h2 := w_ct b h.1
  show (b.norm.tx ++ 91 :: (e.norm.tx ++ [93])).length ≤ W (b.toks ++ (2, t_lsq, 0) :: (e.toks ++ [(2, t_rsq, 0)]))
  simp only [W_cons, W_app, wt0, wt2, List.length_append, List.length_cons, List.length_nil]
  omega
 | .switch e cs, h => by
  have h1 := w_ce e h.1
  have h2 := w_cs cs h.2
  show (w_switch ++ 32 :: 40 :: (e.norm.tx ++ 41 :: 32 :: 123 :: (cs.norm.tx ++ [32, 125]))).length ≤ W ((0, w_switch, 0) :: (2, t_lpar, 0) :: (e.toks ++ (2, t_rpar, 0) :: (2, t_lcur, 0) :: (cs.toks ++ [(2, t_rcur, 0)])))
  simp only [W_cons, W_app, wt0, wt2, List.length_append, List.length_cons, List.length_nil]
  omega
theorem w_cs : ∀ c : CS, c.nums → c.norm.tx.length ≤ W c.toks
 | .fin, _ => Nat.le_refl _
 | .els i, h => by
  have h2 := w_ct i h
  show (32 :: (w_else ++ 58 :: 32 :: (i.norm.tx ++ [59]))).length ≤ W ((0, w_else, 0) :: (2, t_colon, 0) :: (i.toks ++ [(2, t_semi, 0)]))
  simp only [W_cons, W_app, wt0, wt2, List.length_append, List.length_cons, List.length_nil]
  omega
 | .case t n i r, h => by
  have h1 := dec_len' n h.1
  have h2 := w_ct i h.2.1
  have h3 := w_cs r h.2.2
  show (32 :: (w_case ++ 32 :: (Lib.decDigits n ++ 58 :: 32 :: (i.norm.tx ++ 59 :: r.norm.tx)))).length ≤ W ((0, w_case, 0) :: (1, t, n) :: (2, t_colon, 0) :: (i.toks ++ (2, t_semi, 0) :: r.toks))
  simp only [W_cons, W_app, wt0, wt1, wt2, List.length_append, List.length_cons, List.length_nil]
  omega
end
theorem w_subs : ∀ l : List CSb, (subX (l.map CSb.norm)).length ≤ W (subT l)
 | [] => Nat.le_refl _
 | b :: l => by
  have h1 := dec_len' (min b.n 1048576) (Nat.lt_of_le_of_lt (Nat.min_le_right _ _) (by decide))
  have h2 := w_subs l
  show (32 :: (b.nm ++ 58 :: 32 :: (Lib.decDigits (min b.n 1048576) ++ [59])) ++ subX (l.map CSb.norm)).length ≤ W ([(0, b.nm, 0), (2, t_colon, 0), (1, b.t, b.n), (2, t_semi, 0)] ++ subT l)
  simp only [W_cons, W_app, W_nil, wt0, wt1, wt2, List.length_append, List.length_cons, List.length_nil]
  omega
theorem w_der (d : Nat) (a b : List UInt8) : (derX d a b).length ≤ W (derT d a b) := by
 unfold derX derT
 by_cases h0 : d = 0
 ·rw [if_pos h0, if_pos h0]; exact Nat.le_refl _
 ·rw [if_neg h0, if_neg h0]
  by_cases h3 : 3 ≤ d
  ·rw [if_pos h3, if_pos h3]
   simp only [W_cons, W_app, W_nil, wt0, wt1, wt2, List.length_append, List.length_cons, List.length_nil]
   omega
  ·rw [if_neg h3, if_neg h3]
   simp only [W_cons, W_app, W_nil, wt0, wt1, wt2, List.length_append, List.length_cons, List.length_nil]
   omega
theorem w_ci (c : CI) (h : c.nums) : c.norm.tx.length + 10 ≤ W c.toks := by
 cases c with
 | field nm t d a b wh =>
  have h1 := w_ct t h.1
  have h2 := w_der d a b
  have h3 : (whX (wh.map CE.norm)).length ≤ W (whT wh) := by
   cases wh with
   | none => exact Nat.le_refl _
   | some e =>
    have h4 := w_ce e (h.2 e rfl)
    show (32 :: (w_where ++ 32 :: e.norm.tx)).length ≤ W ((0, w_where, 0) :: e.toks)
    simp only [W_cons, W_app, W_nil, wt0, wt1, wt2, List.length_append, List.length_cons, List.length_nil]
    omega
  show (nm ++ 58 :: 32 :: (t.norm.tx ++ (derX d a b ++ (whX (wh.map CE.norm) ++ [59])))).length + 10 ≤ W ((0, nm, 0) :: (2, t_colon, 0) :: (t.toks ++ (derT d a b ++ (whT wh ++ [(2, t_semi, 0)]))))
  simp only [W_cons, W_app, W_nil, wt0, wt1, wt2, List.length_append, List.length_cons, List.length_nil]
  omega
 | pack w l =>
  have h1 := w_subs l
  show (w_pack ++ 32 :: (w ++ 32 :: 123 :: (subX (l.map CSb.norm) ++ [32, 125]))).length + 10 ≤ W ((0, w_pack, 0) :: (0, w, 0) :: (2, t_lcur, 0) :: (subT l ++ [(2, t_rcur, 0)]))
  simp only [W_cons, W_app, W_nil, wt0, wt1, wt2, List.length_append, List.length_cons, List.length_nil]
  omega
theorem w_its : ∀ l : List CI, (∀ c ∈ l, c.nums) → (itTx (l.map CI.norm)).length ≤ W (itT l)
 | [], _ => Nat.le_refl _
 | c :: l, h => by
  have h1 := w_ci c (h c List.mem_cons_self)
  have h2 := w_its l fun d hd => h d (List.mem_cons_of_mem _ hd)
  show (32 :: 32 :: (c.norm.tx ++ 10 :: itTx (l.map CI.norm))).length ≤ W (c.toks ++ itT l)
  simp only [W_cons, W_app, W_nil, wt0, wt1, wt2, List.length_append, List.length_cons, List.length_nil]
  omega
theorem w_comma : ∀ l : List (List UInt8), (commaX l).length ≤ W (commaT l)
 | [] => Nat.le_refl _
 | p :: l => by
  have h2 := w_comma l
  show (44 :: 32 :: (p ++ commaX l)).length ≤ W ((2, t_comma, 0) :: (0, p, 0) :: commaT l)
  simp only [W_cons, W_app, W_nil, wt0, wt1, wt2, List.length_append, List.length_cons, List.length_nil]
  omega
theorem w_par (l : List (List UInt8)) : (parX l).length ≤ W (parT' l) := by
 cases l with
 | nil => exact Nat.le_refl _
 | cons p l =>
  have h2 := w_comma l
  show (40 :: (p ++ (commaX l ++ [41]))).length ≤ W ((2, t_lpar, 0) :: (0, p, 0) :: (commaT l ++ [(2, t_rpar, 0)]))
  simp only [W_cons, W_app, W_nil, wt0, wt1, wt2, List.length_append, List.length_cons, List.length_nil]
  omega
theorem w_cd (d : CD) (h : d.nums) : d.norm.tx.length ≤ W d.toks := by
 cases d with
 | con nm t n =>
  have h1 := dec_len' n h
  show (w_const ++ 32 :: (nm ++ 32 :: 61 :: 32 :: (Lib.decDigits n ++ [59, 10]))).length ≤ W [(0, w_const, 0), (0, nm, 0), (2, t_eq, 0), (1, t, n), (2, t_semi, 0)]
  simp only [W_cons, W_app, W_nil, wt0, wt1, wt2, List.length_append, List.length_cons, List.length_nil]
  omega
 | str r =>
  have h1 := w_its r.its h
  have h2 := w_par r.ps
  show (w_struct ++ 32 :: (r.nm ++ (parX r.ps ++ 32 :: 123 :: 10 :: (itTx (r.its.map CI.norm) ++ [125, 10])))).length ≤ W ((0, w_struct, 0) :: (0, r.nm, 0) :: (parT' r.ps ++ (2, t_lcur, 0) :: (itT r.its ++ [(2, t_rcur, 0)])))
  simp only [W_cons, W_app, W_nil, wt0, wt1, wt2, List.length_append, List.length_cons, List.length_nil]
  omega
theorem w_part (p q : CD → Bool) (hpq : ∀ d, q d = !p d) : ∀ l : List CD, (∀ d ∈ l, d.nums) → (dTx ((l.filter p).map CD.norm)).length + (dTx ((l.filter q).map CD.norm)).length ≤ W (dT l)
 | [], _ => Nat.le_refl _
 | d :: l, h => by
  have h1 := w_cd d (h d List.mem_cons_self)
  have h2 := w_part p q hpq l fun e he => h e (List.mem_cons_of_mem _ he)
  have e : W (dT (d :: l)) = W d.toks + W (dT l) := by rw [dT, W_app]
  rw [e, List.filter_cons, List.filter_cons, hpq d]
  cases p d
  ·show _ + (d.norm.tx ++ dTx ((l.filter q).map CD.norm)).length ≤ _
   rw [List.length_append]
   show (dTx ((l.filter p).map CD.norm)).length + _ ≤ _
   omega
  ·show (d.norm.tx ++ dTx ((l.filter p).map CD.norm)).length + _ ≤ _
   rw [List.length_append]
   show _ + (dTx ((l.filter q).map CD.norm)).length ≤ _
   omega
theorem dTx_app' : ∀ a b : List CD, dTx (a ++ b) = dTx a ++ dTx b
 | [], _ => rfl
 | d :: a, b => by rw [List.cons_append, dTx, dTx_app' a b, dTx, List.append_assoc]
theorem w_file (l : List CD) (h : ∀ d ∈ l, d.nums) : (dTx (normD l)).length ≤ W (dT l) := by
 unfold normD
 rw [dTx_app', List.length_append]
 exact w_part _ _ (fun _ => rfl) l h
end Go.Proofs.YtidnlfkakhmadaaGreatDoor

namespace Go.Proofs.YtidnlfkakhmadaaGreatDoor

theorem dC_app : ∀ a b : List CD, dC (a ++ b) = dC a ++ dC b
 | [], _ => rfl
 | .con _ _ _ :: a, b => by rw [List.cons_append, dC, dC_app a b, dC, List.cons_append]
 | .str _ :: a, b => by rw [List.cons_append, dC, dC_app a b, dC]
theorem dC_con : ∀ l : List CD, dC ((l.filter CD.isC).map CD.norm) = dC l
 | [] => rfl
 | .con nm t n :: l => by
  have := dC_con l
  show (⟨nm, n⟩ : CO) :: dC ((l.filter CD.isC).map CD.norm) = ⟨nm, n⟩ :: dC l
  rw [this]
 | .str r :: l => dC_con l
theorem dC_str : ∀ l : List CD, dC ((l.filter fun d => !d.isC).map CD.norm) = []
 | [] => rfl
 | .con nm t n :: l => dC_str l
 | .str r :: l => dC_str l
theorem itSx_n : ∀ l : List CI, itSx (l.map CI.norm) = itSx l
 | [] => rfl
 | c :: l => by show c.norm.sx + itSx (l.map CI.norm) = _; rw [nI_sx, itSx_n l]; rfl
theorem itSt_n : ∀ l : List CI, itSt (l.map CI.norm) = itSt l
 | [] => rfl
 | c :: l => by show c.norm.st + itSt (l.map CI.norm) = _; rw [nI_st, itSt_n l]; rfl
theorem itX_n : ∀ (l : List CI) (o : Nat), itX (l.map CI.norm) o = itX l o
 | [], _ => rfl
 | c :: l, o => by show c.norm.fx o ++ itX (l.map CI.norm) (o + c.norm.sx) = _; rw [nI_fx, nI_sx, itX_n l]; rfl
theorem itY_n : ∀ (l : List CI) (o p : Nat), itY (l.map CI.norm) o p = itY l o p
 | [], _, _ => rfl
 | c :: l, o, p => by show c.norm.ft o p ++ itY (l.map CI.norm) (o + c.norm.sx) (p + c.norm.st) = _; rw [nI_ft, nI_sx, nI_st, itY_n l]; rfl
theorem itI_n : ∀ (l : List CI) (o p : Nat), itI (l.map CI.norm) o p = itI l o p
 | [], _, _ => rfl
 | c :: l, o, p => by show c.norm.it o p :: itI (l.map CI.norm) (o + c.norm.sx) (p + c.norm.st) = _; rw [nI_it, nI_sx, nI_st, itI_n l]; rfl
theorem dR_con (b : List CD) (o p : Nat) : ∀ l : List CD, dR ((l.filter CD.isC).map CD.norm ++ b) o p = dR b o p
 | [] => rfl
 | .con nm t n :: l => dR_con b o p l
 | .str r :: l => dR_con b o p l
theorem dX_con (b : List CD) (o : Nat) : ∀ l : List CD, dX ((l.filter CD.isC).map CD.norm ++ b) o = dX b o
 | [] => rfl
 | .con nm t n :: l => dX_con b o l
 | .str r :: l => dX_con b o l
theorem dY_con (b : List CD) (o p : Nat) : ∀ l : List CD, dY ((l.filter CD.isC).map CD.norm ++ b) o p = dY b o p
 | [] => rfl
 | .con nm t n :: l => dY_con b o p l
 | .str r :: l => dY_con b o p l
theorem dR_str : ∀ (l : List CD) (o p : Nat), dR ((l.filter fun d => !d.isC).map CD.norm) o p = dR l o p
 | [], _, _ => rfl
 | .con nm t n :: l, o, p => dR_str l o p
 | .str r :: l, o, p => by
  show (⟨r.nm, r.ps, itI (r.its.map CI.norm) o p⟩ : RC) :: dR ((l.filter fun d => !d.isC).map CD.norm) (o + itSx (r.its.map CI.norm)) (p + itSt (r.its.map CI.norm)) = _
  rw [itI_n, itSx_n, itSt_n, dR_str l]; rfl
theorem dX_str : ∀ (l : List CD) (o : Nat), dX ((l.filter fun d => !d.isC).map CD.norm) o = dX l o
 | [], _ => rfl
 | .con nm t n :: l, o => dX_str l o
 | .str r :: l, o => by
  show itX (r.its.map CI.norm) o ++ dX ((l.filter fun d => !d.isC).map CD.norm) (o + itSx (r.its.map CI.norm)) = _
  rw [itX_n, itSx_n, dX_str l]; rfl
theorem dY_str : ∀ (l : List CD) (o p : Nat), dY ((l.filter fun d => !d.isC).map CD.norm) o p = dY l o p
 | [], _, _ => rfl
 | .con nm t n :: l, o, p => dY_str l o p
 | .str r :: l, o, p => by
  show itY (r.its.map CI.norm) o p ++ dY ((l.filter fun d => !d.isC).map CD.norm) (o + itSx (r.its.map CI.norm)) (p + itSt (r.its.map CI.norm)) = _
  rw [itY_n, itSx_n, itSt_n, dY_str l]; rfl
theorem normD_C (l : List CD) : dC (normD l) = dC l := by unfold normD; rw [dC_app, dC_con, dC_str, List.append_nil]
theorem normD_R (l : List CD) : dR (normD l) 0 0 = dR l 0 0 := by unfold normD; rw [dR_con, dR_str]
theorem normD_X (l : List CD) : dX (normD l) 0 = dX l 0 := by unfold normD; rw [dX_con, dX_str]
theorem normD_Y (l : List CD) : dY (normD l) 0 0 = dY l 0 0 := by unfold normD; rw [dY_con, dY_str]
theorem cd_ok (d : CD) (h : d.ok) (hn : d.nums) : d.norm.ok := by
 cases d with
 | con nm t n => exact ⟨h.1, _, tokF_dec n hn⟩
 | str r =>
  obtain ⟨h1, h2, h3, h4, h5⟩ := h
  refine ⟨h1, h2, h3, by show (r.its.map CI.norm).length ≤ 64; rw [List.length_map]; exact h4, fun c hc => ?_⟩
  obtain ⟨c', hc', rfl⟩ := List.mem_map.1 hc
  exact nI_ok c' (h5 c' hc') (hn c' hc')
theorem normD_mem {l : List CD} {d : CD} (h : d ∈ normD l) : ∃ e ∈ l, d = e.norm := by
 rcases List.mem_append.1 h with h | h
 ·obtain ⟨e, he, rfl⟩ := List.mem_map.1 h
  exact ⟨e, (List.mem_filter.1 he).1, rfl⟩
 ·obtain ⟨e, he, rfl⟩ := List.mem_map.1 h
  exact ⟨e, (List.mem_filter.1 he).1, rfl⟩
theorem normD_ok {l : List CD} (h : DsOk l) (hn : ∀ d ∈ l, d.nums) : DsOk (normD l) := fun d hd => by
 obtain ⟨e, he, rfl⟩ := normD_mem hd
 exact cd_ok e (h e he) (hn e he)
theorem atK_of' {L : List TokP} : ∀ {K : List Ky} {i : Nat}, (L.drop i).map TokP.key = K → AtK L i K
 | [], i, _ => trivial
 | k :: K, i, h => by
  rcases hd : L.drop i with _ | ⟨u, T⟩
  ·rw [hd] at h; cases h
  ·rw [hd, List.map_cons] at h
   injection h with h1 h2
   have hi : L[i]? = some u := by rw [← List.head?_drop, hd]; rfl
   refine ⟨by unfold tk; rw [List.getD_eq_getElem?_getD, hi]; exact h1, atK_of' ?_⟩
   rw [← List.drop_drop, hd]
   exact h2
theorem file_keys {l : List CD} (hok : DsOk l) (hc : (dC l).length ≤ 64) (hr : (dR l 0 0).length ≤ 64) {s : List UInt8} (hk : lexK s = some (dT l ++ [(3, [], 0)])) :
  fileS s = if s.length ≤ 16384 then .ok (dC l) (dR l 0 0) (dX l 0) (dY l 0 0) else .err 1 1 7 := by
 unfold fileS lexV
 by_cases hs : s.length ≤ 16384
 ·rw [if_pos hs, if_pos hs]
  unfold lexK at hk
  cases hL : lexF s 1 1 with
  | err l c e => rw [hL] at hk; cases hk
  | ok L =>
   rw [hL] at hk
   have hk : some (L.map TokP.key) = _ := hk
   injection hk with hk
   haveI := lexT_of hL
   exact fileV_ok hok hc hr hk (atK_of' hk)
 ·rw [if_neg hs, if_neg hs]; rfl
structure Reads (s : List UInt8) (l : List CD) : Prop where
 ok : DsOk l
 nums : ∀ d ∈ l, d.nums
 c : (dC l).length ≤ 64
 r : (dR l 0 0).length ≤ 64
 x : (dX l 0).length ≤ 100000
 t : (dY l 0 0).length ≤ 100000
 tx : (dTx (normD l)).length ≤ 2000000
 f : fileS s = .ok (dC l) (dR l 0 0) (dX l 0) (dY l 0 0)
theorem reads_of {s : List UInt8} {cs : List CO} {rs : List RC} {xs : List EX} {ts : List TY} (h : fileS s = .ok cs rs xs ts) : ∃ l, Reads s l ∧ cs = dC l ∧ rs = dR l 0 0 ∧ xs = dX l 0 ∧ ts = dY l 0 0 := by
 have h' := h
 unfold fileS at h
 cases hL : lexV s with
 | err l c e => rw [hL] at h; cases h
 | ok L =>
  rw [hL] at h
  obtain ⟨hT, hn⟩ := lexV_ok hL
  have hLx : lexF s 1 1 = .ok L := by
   unfold lexV at hL
   split at hL
   ·exact hL
   ·cases hL
  have hsl : s.length ≤ 16384 := by
   unfold lexV at hL
   split at hL
   ·assumption
   ·cases hL
  haveI := lexT_of hLx
  obtain ⟨l, b1, b2, b3, b4, rfl, rfl, rfl, rfl⟩ := fileV_inv hT.1 hT.2 h
  have hlen := lexN_len _ s 1 1 L (Nat.lt_succ_self _) hLx
  have hup : (dX l 0).length ≤ 100000 ∧ (dY l 0 0).length ≤ 100000 := by
   have := up_whole hT (L.length + 1) [] [] ⟨0, [], []⟩ 0 ⟨hT.1, by simp, by simp⟩
   unfold fileV at h
   dsimp only at h
   split at h
   ·rename_i c r s1 hw
    obtain ⟨-, -, g1, g2⟩ := FR.ok.inj h
    rw [hw] at this
    have := this.1
    have h1 := this.i
    have h2 := this.x
    have h3 := this.t
    rw [g1] at h2
    rw [g2] at h3
    omega
   ·cases h
  have hK := (atK_app.1 b4).1
  have hnum := nk_ds l (NK_at _ _ hK)
  have hW := W_at _ _ hK
  have hF := w_file l hnum
  exact ⟨l, ⟨b1, hnum, b2, b3, hup.1, hup.2, by omega, h'⟩, rfl, rfl, rfl, rfl⟩
theorem Reads.back {s : List UInt8} {l : List CD} (h : Reads s l) : fileS (dTx (normD l)) = if (dTx (normD l)).length ≤ 16384 then .ok (dC l) (dR l 0 0) (dX l 0) (dY l 0 0) else .err 1 1 7 := by
 have h1 := normD_ok h.ok h.nums
 have := file_keys (l := normD l) h1 (by rw [normD_C]; exact h.c) (by rw [normD_R]; exact h.r) (lexK_file h1)
 rw [normD_C, normD_R, normD_X, normD_Y] at this
 exact this
end Go.Proofs.YtidnlfkakhmadaaGreatDoor

namespace Go.Proofs.YtidnlfkakhmadaaGreatDoor

theorem ce_kids : ∀ (c : CE) (o : Nat), ∀ e ∈ c.flat o, e.kids.length ≤ 2
 | .num _ _, o, e, h => by rw [List.mem_singleton.1 h]; exact Nat.zero_le _
 | .name _, o, e, h => by rw [List.mem_singleton.1 h]; exact Nat.zero_le _
 | .not a, o, e, h => by
  rcases List.mem_append.1 h with h | h
  ·exact ce_kids a o e h
  ·rw [List.mem_singleton.1 h]; exact Nat.le_succ _
 | .par a, o, e, h => ce_kids a o e h
 | .bin _ a b, o, e, h => by
  rcases List.mem_append.1 h with h | h
  ·rcases List.mem_append.1 h with h | h
   ·exact ce_kids a o e h
   ·exact ce_kids b _ e h
  ·rw [List.mem_singleton.1 h]; exact Nat.le_refl _
theorem l_kids : ∀ (l : List CE) (o : Nat), ∀ e ∈ flatL l o, e.kids.length ≤ 2
 | [], _, _, h => by cases h
 | c :: l, o, e, h => by
  rcases List.mem_append.1 h with h | h
  ·exact ce_kids c o e h
  ·exact l_kids l _ e h
mutual
theorem ct_kids : ∀ (c : CT) (o : Nat), ∀ e ∈ c.fx o, e.kids.length ≤ 2
 | .int _, _, _, h => by cases h
 | .ref _ l, o, e, h => l_kids l o e h
 | .sized _ c, o, e, h => ce_kids c o e h
 | .over _ c i, o, e, h => by
  rcases List.mem_append.1 h with h | h
  ·exact ce_kids c o e h
  ·exact ct_kids i _ e h
 | .rest i, o, e, h => ct_kids i o e h
 | .tail, _, _, h => by cases h
 | .none, _, _, h => by cases h
 | .arr b c, o, e, h => by
  rcases List.mem_append.1 h with h | h
  ·exact ct_kids b o e h
  ·exact ce_kids c _ e h
 | .switch c cs, o, e, h => by
  rcases List.mem_append.1 h with h | h
  ·exact ce_kids c o e h
  ·exact cs_kids cs _ e h
theorem cs_kids : ∀ (c : CS) (o : Nat), ∀ e ∈ c.fx o, e.kids.length ≤ 2
 | .fin, _, _, h => by cases h
 | .els i, o, e, h => ct_kids i o e h
 | .case _ _ i r, o, e, h => by
  rcases List.mem_append.1 h with h | h
  ·exact ct_kids i o e h
  ·exact cs_kids r _ e h
end
theorem it_kids : ∀ (l : List CI) (o : Nat), ∀ e ∈ itX l o, e.kids.length ≤ 2
 | [], _, _, h => by cases h
 | c :: l, o, e, h => by
  rcases List.mem_append.1 h with h | h
  ·cases c with
   | field nm t d a b wh =>
    rcases List.mem_append.1 h with h | h
    ·exact ct_kids t o e h
    ·cases wh with
     | none => cases h
     | some x => exact ce_kids x _ e h
   | pack w l => cases h
  ·exact it_kids l _ e h
theorem d_kids : ∀ (l : List CD) (o : Nat), ∀ e ∈ dX l o, e.kids.length ≤ 2
 | [], _, _, h => by cases h
 | .con _ _ _ :: l, o, e, h => d_kids l o e h
 | .str r :: l, o, e, h => by
  rcases List.mem_append.1 h with h | h
  ·exact it_kids r.its o e h
  ·exact d_kids l _ e h
def tyZ (t : TY) : Prop := t.args.length ≤ 64 ∧ t.cases.length ≤ 64
theorem tyZ_0 {t : TY} (h1 : t.args = []) (h2 : t.cases = []) : tyZ t := by unfold tyZ; rw [h1, h2]; decide
mutual
theorem ct_z : ∀ (c : CT) (o p : Nat), c.ok → ∀ t ∈ c.ft o p, tyZ t
 | .int _, _, _, _, t, h => by rw [List.mem_singleton.1 h]; exact tyZ_0 rfl rfl
 | .ref _ l, o, p, hok, t, h => by
  rw [List.mem_singleton.1 h]
  exact ⟨by show (ixL l o).length ≤ 64; rw [ixL_len]; exact hok.2.2.2, Nat.zero_le _⟩
 | .sized _ c, o, p, _, t, h => by rw [List.mem_singleton.1 h]; exact tyZ_0 rfl rfl
 | .over _ c i, o, p, hok, t, h => by
  rcases List.mem_append.1 h with h | h
  ·exact ct_z i _ p hok.2.2 t h
  ·rw [List.mem_singleton.1 h]; exact tyZ_0 rfl rfl
 | .rest i, o, p, hok, t, h => by
  rcases List.mem_append.1 h with h | h
  ·exact ct_z i o p hok t h
  ·rw [List.mem_singleton.1 h]; exact tyZ_0 rfl rfl
 | .tail, _, _, _, t, h => by rw [List.mem_singleton.1 h]; exact tyZ_0 rfl rfl
 | .none, _, _, _, t, h => by rw [List.mem_singleton.1 h]; exact tyZ_0 rfl rfl
 | .arr b c, o, p, hok, t, h => by
  rcases List.mem_append.1 h with h | h
  ·exact ct_z b o p hok.1 t h
  ·rw [List.mem_singleton.1 h]; exact tyZ_0 rfl rfl
 | .switch c cs, o, p, hok, t, h => by
  rcases List.mem_append.1 h with h | h
  ·exact cs_z cs _ p hok.2.1 t h
  ·rw [List.mem_singleton.1 h]
   exact ⟨Nat.zero_le _, by show (cs.cases p).length ≤ 64; rw [cs.cases_len]; exact hok.2.2⟩
theorem cs_z : ∀ (c : CS) (o p : Nat), c.ok → ∀ t ∈ c.ft o p, tyZ t
 | .fin, _, _, _, _, h => by cases h
 | .els i, o, p, hok, t, h => ct_z i o p hok t h
 | .case _ _ i r, o, p, hok, t, h => by
  rcases List.mem_append.1 h with h | h
  ·exact ct_z i o p hok.2.1 t h
  ·exact cs_z r _ _ hok.2.2 t h
end
theorem it_z : ∀ (l : List CI) (o p : Nat), (∀ c ∈ l, c.ok) → ∀ t ∈ itY l o p, tyZ t
 | [], _, _, _, _, h => by cases h
 | c :: l, o, p, hok, t, h => by
  rcases List.mem_append.1 h with h | h
  ·cases c with
   | field nm k d a b wh => exact ct_z k o p (hok _ List.mem_cons_self).2.1 t h
   | pack w l => cases h
  ·exact it_z l _ _ (fun d hd => hok d (List.mem_cons_of_mem _ hd)) t h
theorem d_z : ∀ (l : List CD) (o p : Nat), DsOk l → ∀ t ∈ dY l o p, tyZ t
 | [], _, _, _, _, h => by cases h
 | .con _ _ _ :: l, o, p, hok, t, h => d_z l o p (fun d hd => hok d (List.mem_cons_of_mem _ hd)) t h
 | .str r :: l, o, p, hok, t, h => by
  rcases List.mem_append.1 h with h | h
  ·exact it_z r.its o p (hok _ List.mem_cons_self).2.2.2.2 t h
  ·exact d_z l _ _ (fun d hd => hok d (List.mem_cons_of_mem _ hd)) t h
def rcZ (r : RC) : Prop := r.ps.length ≤ 64 ∧ r.its.length ≤ 64 ∧ ∀ x ∈ r.its, x.subs.length ≤ 64
theorem its_z : ∀ (l : List CI) (o p : Nat), (∀ c ∈ l, c.ok) → (itI l o p).length = l.length ∧ ∀ x ∈ itI l o p, x.subs.length ≤ 64
 | [], _, _, _ => ⟨rfl, fun x h => by cases h⟩
 | c :: l, o, p, hok => by
  obtain ⟨h1, h2⟩ := its_z l (o + c.sx) (p + c.st) fun d hd => hok d (List.mem_cons_of_mem _ hd)
  refine ⟨by rw [itI, List.length_cons, List.length_cons, h1], fun x h => ?_⟩
  rcases List.mem_cons.1 h with rfl | h
  ·cases c with
   | field nm k d a b wh => exact Nat.zero_le _
   | pack w l => show (l.map CSb.sb).length ≤ 64; rw [List.length_map]; exact (hok _ List.mem_cons_self).2.2.1
  ·exact h2 x h
theorem d_rc : ∀ (l : List CD) (o p : Nat), DsOk l → ∀ r ∈ dR l o p, rcZ r
 | [], _, _, _, _, h => by cases h
 | .con _ _ _ :: l, o, p, hok, r, h => d_rc l o p (fun d hd => hok d (List.mem_cons_of_mem _ hd)) r h
 | .str q :: l, o, p, hok, r, h => by
  rcases List.mem_cons.1 h with rfl | h
  ·obtain ⟨-, -, h3, h4, h5⟩ := hok _ List.mem_cons_self
   obtain ⟨k1, k2⟩ := its_z q.its o p h5
   exact ⟨h3, by show (itI q.its o p).length ≤ 64; rw [k1]; exact h4, k2⟩
  ·exact d_rc l _ _ (fun d hd => hok d (List.mem_cons_of_mem _ hd)) r h
end Go.Proofs.YtidnlfkakhmadaaGreatDoor

namespace Go.Proofs.YtidnlfkakhmadaaGreatDoor
open Go.RowKit
section
variable {P : Program}
def EqT (P : Program) (d : Nat) (t : TypeId) (x y : Value) (c : Bool) : Prop := ∀ w, (Op.equalIn d t x y).run P w = .ok c w
def EqFs (P : Program) (d : Nat) (xs ys : List Value) (fs : List Field) (c : Bool) : Prop := ∀ w, (Op.eqFields d xs.toArray ys.toArray fs).run P w = .ok c w
def PartI (P : Program) (t : TypeId) (xs : List Value) (off : Nat) (x : Value) : Prop := ∀ w, (part t xs.toArray off).run P w = .ok x w
theorem EqT.int {d : Nat} {t : TypeId} {k k' : IntKind} {a b : Int} (h : P.underlying t = some (.int k')) : EqT P (d + 1) t (.int k a) (.int k b) (decide (a = b)) := fun w => by
 rw [run_equalIn_int w d t k k' a b h]
 rfl
theorem EqT.str {d : Nat} {t : TypeId} {a b : ByteArray} (h : P.underlying t = some .string) : EqT P (d + 1) t (.string a) (.string b) (decide (a = b)) := fun w => by
 rw [run_equalIn_string w d t a b h, bytes_eq]
theorem EqT.bool {d : Nat} {t : TypeId} {a b : Bool} (h : P.underlying t = some .bool) : EqT P (d + 1) t (.bool a) (.bool b) (decide (a = b)) := fun w => by
 rw [run_equalIn_bool' w d t a b h]
 cases a <;> cases b <;> rfl
theorem EqT.st {d : Nat} {t : TypeId} {fs : Array Field} {xs ys : List Value} {c : Bool} (hu : P.underlying t = some (.struct fs)) (hp : P.stoodInHeld t = false) (h : EqFs P d xs ys fs.toList c) : EqT P (d + 1) t (.agg xs.toArray) (.agg ys.toArray) c := fun w => by
 have hf : P.fieldsOf t = fs := by unfold Program.fieldsOf; rw [hu]
 rw [run_equalIn_struct w d t _ _ (by rw [hf]; exact hu) hp, hf]
 exact h w
def fieldsK (P : Program) (t : TypeId) : List (Bool × Nat × Nat) := (P.fieldsOf t).toList.map fun f => (f.name != "_", f.type, f.offset)
def EqKs (P : Program) (d : Nat) (xs ys : List Value) (ks : List (Bool × Nat × Nat)) (c : Bool) : Prop := ∀ fs : List Field, fs.map (fun f => (f.name != "_", f.type, f.offset)) = ks → EqFs P d xs ys fs c
theorem EqFs.cons {d : Nat} {xs ys : List Value} {f : Field} {fs : List Field} {x y : Value} {b c : Bool} (hn : (f.name != "_") = true) (hx : PartI P f.type xs f.offset x) (hy : PartI P f.type ys f.offset y) (h1 : EqT P d f.type x y b) (h2 : EqFs P d xs ys fs c) : EqFs P d xs ys (f :: fs) (b && c) := fun w => by
 have hn' : f.name ≠ "_" := by simpa using hn
 rw [Op.eqFields, if_pos hn']
 simp only [Sem.run_bind]
 rw [hx w, Result.andThen_ok, hy w, Result.andThen_ok, h1 w, Result.andThen_ok]
 cases b
 ·simp
 ·simp only [Bool.not_true, Bool.false_eq_true, if_false, Bool.true_and]
  exact h2 w
def isAggB (P : Program) (t : TypeId) : Bool := match P.underlying t with
 | some (.struct _) | some (.array _ _) => true
 | _ => false
theorem PartI.one {t : TypeId} {xs : List Value} {off : Nat} {x : Value} {dsc : TypeDesc} (hu : P.underlying t = some dsc) (ha : isAggB P t = false) (hx : xs[off]? = some x) : PartI P t xs off x := fun w => by
 unfold isAggB at ha
 rw [hu] at ha
 unfold part isAgg
 simp only [Sem.run_bind, run_underlying hu, Result.andThen_ok]
 cases dsc <;> first | (cases ha; done) | (simp [hx]; done)
theorem PartI.agg {t : TypeId} {xs : List Value} {off n : Nat} {ys : List Value} {dsc : TypeDesc} {i : TypeInfo} (hu : P.underlying t = some dsc) (ha : isAggB P t = true) (hi : P.info? t = some i) (hn : i.size = n) (hx : (xs.drop off).take n = ys) : PartI P t xs off (.agg ys.toArray) := fun w => by
 unfold isAggB at ha
 rw [hu] at ha
 have h1 : ∀ w, (isAgg t).run P w = .ok true w := fun w => by
  unfold isAgg
  simp only [Sem.run_bind, run_underlying hu, Result.andThen_ok]
  cases dsc <;> first | (cases ha; done) | rfl
 have h2 : ∀ w, (sizeOf t).run P w = .ok n w := fun w => by
  unfold sizeOf
  simp [typeInfo, hi, hn]
 unfold part
 simp only [Sem.run_bind, h1, h2, Result.andThen_ok, if_true]
 rw [← hx]
 simp [List.extract_eq_take_drop]
def leafI (xs ys : List Value) : Option Bool := match xs, ys with
 | [.int k a], [.int k' b] => if k = k' then some (decide (a = b)) else none
 | _, _ => none
def leafS (xs ys : List Value) : Option Bool := match xs, ys with
 | [.string a], [.string b] => some (decide (a = b))
 | _, _ => none
def leafB (xs ys : List Value) : Option Bool := match xs, ys with
 | [.bool a], [.bool b] => some (decide (a = b))
 | _, _ => none
theorem leafI_ok {xs ys : List Value} {c : Bool} (h : leafI xs ys = some c) : ∃ k a b, xs = [.int k a] ∧ ys = [.int k b] ∧ c = decide (a = b) := by
 unfold leafI at h
 split at h
 ·split at h
  ·rename_i e; subst e; injection h with h; exact ⟨_, _, _, rfl, rfl, h.symm⟩
  ·cases h
 ·cases h
theorem leafS_ok {xs ys : List Value} {c : Bool} (h : leafS xs ys = some c) : ∃ a b, xs = [.string a] ∧ ys = [.string b] ∧ c = decide (a = b) := by
 unfold leafS at h
 split at h
 ·injection h with h; exact ⟨_, _, rfl, rfl, h.symm⟩
 ·cases h
theorem leafB_ok {xs ys : List Value} {c : Bool} (h : leafB xs ys = some c) : ∃ a b, xs = [.bool a] ∧ ys = [.bool b] ∧ c = decide (a = b) := by
 unfold leafB at h
 split at h
 ·injection h with h; exact ⟨_, _, rfl, rfl, h.symm⟩
 ·cases h
def eqV (P : Program) : Nat → TypeId → List Value → List Value → Option Bool
 | 0, _, _, _ => none
 | d + 1, t, xs, ys => match P.underlying t with
  | some (.int _) => leafI xs ys
  | some .string => leafS xs ys
  | some .bool => leafB xs ys
  | some (.struct fs) => match P.stoodInHeld t, P.info? t with
   | false, some _ => fs.toList.foldr (fun f r => match f.name != "_", eqV P d f.type ((xs.drop f.offset).take (P.cellsOf f.type)) ((ys.drop f.offset).take (P.cellsOf f.type)), r with
    | true, some b, some c => some (b && c)
    | _, _, _ => none) (some true)
   | _, _ => none
  | some (.array n e) => match P.info? e, P.info? t with
   | some _, some _ => (List.range n).foldr (fun i r => match eqV P d e ((xs.drop (i * P.cellsOf e)).take (P.cellsOf e)) ((ys.drop (i * P.cellsOf e)).take (P.cellsOf e)), r with
    | some b, some c => some (b && c)
    | _, _ => none) (some true)
   | _, _ => none
  | _ => none
def packV (P : Program) (t : TypeId) (xs : List Value) : Value := match isAggB P t with
 | true => .agg xs.toArray
 | false => xs.headD undef
theorem part_pack {t : TypeId} {xs : List Value} {off : Nat} {dsc : TypeDesc} {i : TypeInfo} (hu : P.underlying t = some dsc) (hi : P.info? t = some i) (h1 : isAggB P t = true ∨ ((xs.drop off).take (P.cellsOf t)) ≠ []) : PartI P t xs off (packV P t ((xs.drop off).take (P.cellsOf t))) := by
 have hc : P.cellsOf t = i.size := by unfold Program.cellsOf; rw [hi]; rfl
 unfold packV
 cases ha : isAggB P t with
 | true => exact PartI.agg hu ha hi rfl (by rw [hc])
 | false =>
  refine PartI.one hu ha ?_
  rcases h1 with h1 | h1
  ·rw [ha] at h1; cases h1
  ·cases hd : xs.drop off with
   | nil => rw [hd] at h1; simp at h1
   | cons x l =>
    cases hn : P.cellsOf t with
    | zero => rw [hn] at h1; simp at h1
    | succ n =>
     have := congrArg (·[0]?) hd
     simpa using this
theorem eqV_some {d : Nat} {t : TypeId} {xs ys : List Value} {c : Bool} (h : eqV P d t xs ys = some c) : (∃ dsc i, P.underlying t = some dsc ∧ P.info? t = some i) ∧ (isAggB P t = true ∨ xs ≠ [] ∧ ys ≠ []) := by
 cases d with
 | zero => cases h
 | succ d =>
  have hinf : ∀ dsc, P.underlying t = some dsc → ∃ i, P.info? t = some i := fun dsc hu => info_of_underlying hu
  rw [eqV] at h
  split at h
  ·rename_i hu
   obtain ⟨i, hi⟩ := hinf _ hu
   refine ⟨⟨_, i, hu, hi⟩, .inr ?_⟩
   obtain ⟨_, _, _, rfl, rfl, -⟩ := leafI_ok h
   simp
  ·rename_i hu
   obtain ⟨i, hi⟩ := hinf _ hu
   refine ⟨⟨_, i, hu, hi⟩, .inr ?_⟩
   obtain ⟨_, _, rfl, rfl, -⟩ := leafS_ok h
   simp
  ·rename_i hu
   obtain ⟨i, hi⟩ := hinf _ hu
   refine ⟨⟨_, i, hu, hi⟩, .inr ?_⟩
   obtain ⟨_, _, rfl, rfl, -⟩ := leafB_ok h
   simp
  ·rename_i hu
   obtain ⟨i, hi⟩ := hinf _ hu
   exact ⟨⟨_, i, hu, hi⟩, .inl (by unfold isAggB; rw [hu])⟩
  ·rename_i hu
   obtain ⟨i, hi⟩ := hinf _ hu
   exact ⟨⟨_, i, hu, hi⟩, .inl (by unfold isAggB; rw [hu])⟩
  ·cases h
theorem eqV_ok : ∀ (d : Nat) (t : TypeId) (xs ys : List Value) (c : Bool), eqV P d t xs ys = some c → ∀ dd, d ≤ dd → EqT P dd t (packV P t xs) (packV P t ys) c
 | 0, _, _, _, _, h, _, _ => by cases h
 | d + 1, t, xs, ys, c, h, dd, hdd => by
  obtain ⟨dd, rfl⟩ : ∃ k, dd = k + 1 := ⟨dd - 1, by omega⟩
  have hd : d ≤ dd := by omega
  have step : ∀ (t : TypeId) (off : Nat) (c : Bool), eqV P d t ((xs.drop off).take (P.cellsOf t)) ((ys.drop off).take (P.cellsOf t)) = some c →
    ∃ x y, PartI P t xs off x ∧ PartI P t ys off y ∧ EqT P dd t x y c := fun t off c h => by
   obtain ⟨⟨dsc, i, hu, hi⟩, h2⟩ := eqV_some h
   exact ⟨_, _, part_pack hu hi (h2.imp id (·.1)), part_pack hu hi (h2.imp id (·.2)), eqV_ok d t _ _ c h dd hd⟩
  rw [eqV] at h
  split at h
  ·rename_i k hu
   have ha : isAggB P t = false := by unfold isAggB; rw [hu]
   obtain ⟨_, _, _, rfl, rfl, rfl⟩ := leafI_ok h
   unfold packV; rw [ha]
   exact EqT.int hu
  ·rename_i hu
   have ha : isAggB P t = false := by unfold isAggB; rw [hu]
   obtain ⟨_, _, rfl, rfl, rfl⟩ := leafS_ok h
   unfold packV; rw [ha]
   exact EqT.str hu
  ·rename_i hu
   have ha : isAggB P t = false := by unfold isAggB; rw [hu]
   obtain ⟨_, _, rfl, rfl, rfl⟩ := leafB_ok h
   unfold packV; rw [ha]
   exact EqT.bool hu
  ·rename_i fs hu
   have ha : isAggB P t = true := by unfold isAggB; rw [hu]
   unfold packV; rw [ha]
   split at h
   ·rename_i hp hi
    refine EqT.st hu hp ?_
    generalize fs.toList = l at h
    induction l generalizing c with
    | nil => injection h with h; subst h; exact fun w => rfl
    | cons f l ih =>
     rw [List.foldr_cons] at h
     split at h
     ·rename_i b c' hn hb hc
      injection h with h; subst h
      obtain ⟨x, y, h1, h2, h3⟩ := step f.type f.offset b hb
      exact EqFs.cons hn h1 h2 h3 (ih c' hc)
     ·cases h
   ·cases h
  ·rename_i n e hu
   have ha : isAggB P t = true := by unfold isAggB; rw [hu]
   unfold packV; rw [ha]
   split at h
   ·rename_i i i' hi hi'
    intro w
    rw [run_equalIn_array w dd xs.toArray ys.toArray hu hi]
    revert w
    generalize List.range n = l at h
    induction l generalizing c with
    | nil => injection h with h; subst h; exact fun w => rfl
    | cons j l ih =>
     intro w
     rw [List.foldr_cons] at h
     split at h
     ·rename_i b c' hb hc
      injection h with h; subst h
      obtain ⟨x, y, h1, h2, h3⟩ := step e (j * P.cellsOf e) b hb
      rw [Op.eqItems]
      simp only [Sem.run_bind]
      rw [h1 w, Result.andThen_ok, h2 w, Result.andThen_ok, h3 w, Result.andThen_ok]
      have := ih c' hc w
      cases b
      ·simp
      ·simpa using this
     ·cases h
   ·cases h
  ·cases h
theorem eqV_self : ∀ (d : Nat) (t : TypeId) (xs : List Value) (c : Bool), eqV P d t xs xs = some c → c = true
 | 0, _, _, _, h => by cases h
 | d + 1, t, xs, c, h => by
  rw [eqV] at h
  split at h
  ·obtain ⟨k, a, b, e1, e2, e3⟩ := leafI_ok h
   rw [e1] at e2
   cases e2
   rw [e3]; simp
  ·obtain ⟨a, b, e1, e2, e3⟩ := leafS_ok h
   rw [e1] at e2
   cases e2
   rw [e3]; simp
  ·obtain ⟨a, b, e1, e2, e3⟩ := leafB_ok h
   rw [e1] at e2
   cases e2
   rw [e3]; simp
  ·split at h
   ·rename_i fs _ _ _ _ _ _
    generalize fs.toList = l at h
    induction l generalizing c with
    | nil => injection h with h; exact h.symm
    | cons f l ih =>
     rw [List.foldr_cons] at h
     split at h
     ·rename_i b c' hn hb hc
      injection h with h
      rw [← h, eqV_self d _ _ _ hb, ih c' hc]; rfl
     ·cases h
   ·cases h
  ·split at h
   ·rename_i n e _ _ _ _ _ _ _
    generalize List.range n = l at h
    induction l generalizing c with
    | nil => injection h with h; exact h.symm
    | cons f l ih =>
     rw [List.foldr_cons] at h
     split at h
     ·rename_i b c' hb hc
      injection h with h
      rw [← h, eqV_self d _ _ _ hb, ih c' hc]; rfl
     ·cases h
   ·cases h
  ·cases h
theorem eq_two {t : TypeId} {xs ys : List Value} {c : Bool} (h : eqV P 20 t xs ys = some c) (ha : isAggB P t = true) : ∀ w, (Op.equal t (.agg xs.toArray) (.agg ys.toArray)).run P w = .ok c w := fun w => by
 have := eqV_ok 20 t xs ys c h 10000 (by omega) w
 unfold packV at this
 rw [ha] at this
 exact this
theorem eq_same {t : TypeId} {xs : List Value} (h : (eqV P 20 t xs xs).isSome = true) (ha : isAggB P t = true) : ∀ w, (Op.equal t (.agg xs.toArray) (.agg xs.toArray)).run P w = .ok true w := by
 obtain ⟨c, hc⟩ := Option.isSome_iff_exists.1 h
 have := eqV_self 20 t xs c hc
 subst this
 exact eq_two hc ha
end
theorem ex_agg {g : Prop} {Q K : Bool → Prop} (hg : g) (c : Bool) (he : Q c) (h : K c) : g ∧ ∃ c, Q c ∧ K c := ⟨hg, c, he, h⟩
end Go.Proofs.YtidnlfkakhmadaaGreatDoor

namespace Go.Proofs.YtidnlfkakhmadaaGreatDoor
open Go.RowKit
end Go.Proofs.YtidnlfkakhmadaaGreatDoor

namespace Go.Proofs.YtidnlfkakhmadaaGreatDoor
open Go.RowKit

theorem ex_pn {g : Prop} {Q K : Bool → Prop} (hg : g) (c : Bool) (he : Q c) (h : K c) : g ∧ ∃ c, Q c ∧ K c := ⟨hg, c, he, h⟩
abbrev fnD (f : FuncId) : D := .v (.func (.func f) #[] #[])
theorem fn_f {f : FuncId} {ι : Nat → Value} {S : Nat → Prop} {w : World} {u : Value} (h : V1 ι S w (c1 (fnD f)) u) : V1 ι S w (.f f 0 []) u := by
 obtain rfl := open_v h
 exact ⟨[], rfl, .nil⟩
theorem CallsA.fn3 {P : Program} {Γ : Glob} {g f : FuncId} {a b : T1} {r : TV} (h : CallsA P Γ g [a, b, .f f 0 []] r) : CallsA P Γ g [a, b, c1 (fnD f)] r :=
 h.args fun S w vs hv => by
  obtain ⟨u, vs, rfl, h1, hv⟩ := hv.cons_left
  obtain ⟨v, vs, rfl, h2, hv⟩ := hv.cons_left
  obtain ⟨x, rfl, h3⟩ := hv.one_left
  exact .cons h1 (.cons h2 (.cons (fn_f h3) .nil))
theorem eqInts_c (l : List Int) (hl : l.length ≤ 1000000) : CallsA Tryz.prog ΓV 45 [c1 (.sl 1 (l.map (fun k => [di k]))), c1 (.sl 1 (l.map (fun k => [di k])))] (Tb true) := by
 have hm : (l.map (fun k => [di k])).length = l.length := List.length_map _
 refine fn_rule (C := ⟨Tryz.prog, layF, Tryz.f45.ntmps, ΓV, 0, [], []⟩) layF_ok mixed Tryz.func45 rfl (by kernel_rfl) rfl rfl rfl ?_
 repeat' (first | refine (ex_is _ hm) ?_ | refine qg1 ?_ | refine eD ?_ ?_ <;> intro)
 refine ex_loop (X := Nat) (fun q => ⟨[(0, .o (c1 (.sl 1 (l.map (fun k => [di k]))))), (1, .o (c1 (.sl 1 (l.map (fun k => [di k]))))), (12, Ti l.length), (13, Ti q)], [], 0⟩) (fun q => l.length - q) (fun q => q ≤ l.length) 0 (Nat.zero_le _) sS ?_
 intro q hq
 refine ex_dec (fun h => ?_) (fun h => ?_)
 ·have hql : q < l.length := by omega
  have hx : l[q]? = some l[q] := at_some hql
  generalize l[q] = x at *
  repeat' (first | refine aI ((q + 1 : Nat) : Int) ?_ | refine aU ((q + 1 : Nat) : Int) ?_ | refine aB ((q + 1 : Nat) : Int) ?_ | refine (ex_row q x rfl hx) ?_ | refine qg1 ?_ | refine eD ?_ ?_ <;> intro)
  exact ex_round (q + 1) (by show q + 1 ≤ l.length; omega) (by show _ - _ < _ - _; omega) sS
 ·repeat' (first | refine qgs ?_ | refine eD ?_ ?_ <;> intro)
  exact TLe.rfl
theorem eqStrs_c (l : List (List UInt8)) (hl : l.length ≤ 1000000) : CallsA Tryz.prog ΓV 42 [c1 (.sl 1 (l.map (fun p => [ds (bs p)]))), c1 (.sl 1 (l.map (fun p => [ds (bs p)])))] (Tb true) := by
 have hm : (l.map (fun p => [ds (bs p)])).length = l.length := List.length_map _
 refine fn_rule (C := ⟨Tryz.prog, layF, Tryz.f42.ntmps, ΓV, 0, [], []⟩) layF_ok mixed Tryz.func42 rfl (by kernel_rfl) rfl rfl rfl ?_
 repeat' (first | refine (ex_is _ hm) ?_ | refine qg1 ?_ | refine eD ?_ ?_ <;> intro)
 refine ex_loop (X := Nat) (fun q => ⟨[(0, .o (c1 (.sl 1 (l.map (fun p => [ds (bs p)]))))), (1, .o (c1 (.sl 1 (l.map (fun p => [ds (bs p)]))))), (12, Ti l.length), (13, Ti q)], [], 0⟩) (fun q => l.length - q) (fun q => q ≤ l.length) 0 (Nat.zero_le _) sS ?_
 intro q hq
 refine ex_dec (fun h => ?_) (fun h => ?_)
 ·have hql : q < l.length := by omega
  have hx : l[q]? = some l[q] := at_some hql
  generalize l[q] = x at *
  repeat' (first | refine aI ((q + 1 : Nat) : Int) ?_ | refine aU ((q + 1 : Nat) : Int) ?_ | refine aB ((q + 1 : Nat) : Int) ?_ | refine (ex_row q x rfl hx) ?_ | refine qg1 ?_ | refine eD ?_ ?_ <;> intro)
  exact ex_round (q + 1) (by show q + 1 ≤ l.length; omega) (by show _ - _ < _ - _; omega) sS
 ·repeat' (first | refine qgs ?_ | refine eD ?_ ?_ <;> intro)
  exact TLe.rfl
theorem eqConst_c (l : List CO) (hl : l.length ≤ 1000000) : CallsA Tryz.prog ΓV 20 [c1 (.sl 2 (l.map coD)), c1 (.sl 2 (l.map coD))] (Tb true) := by
 have hm : (l.map coD).length = l.length := List.length_map _
 refine fn_rule (C := ⟨Tryz.prog, layF, Tryz.f20.ntmps, ΓV, 0, [], []⟩) layF_ok mixed Tryz.func20 rfl (by kernel_rfl) rfl rfl rfl ?_
 repeat' (first | refine (ex_is _ hm) ?_ | refine qg1 ?_ | refine eD ?_ ?_ <;> intro)
 refine ex_loop (X := Nat) (fun q => ⟨[(0, .o (c1 (.sl 2 (l.map coD)))), (1, .o (c1 (.sl 2 (l.map coD)))), (12, Ti l.length), (13, Ti q)], [], 0⟩) (fun q => l.length - q) (fun q => q ≤ l.length) 0 (Nat.zero_le _) sS ?_
 intro q hq
 refine ex_dec (fun h => ?_) (fun h => ?_)
 ·have hql : q < l.length := by omega
  have hx : l[q]? = some l[q] := at_some hql
  generalize l[q] = x at *
  obtain ⟨n, k⟩ := x
  repeat' (first | refine aI ((q + 1 : Nat) : Int) ?_ | refine aU ((q + 1 : Nat) : Int) ?_ | refine aB ((q + 1 : Nat) : Int) ?_ | refine (ex_agg (by kernel_rfl) true (eq_same (by kernel_rfl) (by kernel_rfl))) ?_ | refine (ex_row q (⟨n, k⟩ : CO) rfl hx) ?_ | refine qg1 ?_ | refine eD ?_ ?_ <;> intro)
  exact ex_round (q + 1) (by show q + 1 ≤ l.length; omega) (by show _ - _ < _ - _; omega) sS
 ·repeat' (first | refine qgs ?_ | refine eD ?_ ?_ <;> intro)
  exact TLe.rfl
theorem eqCase_c (l : List CA) (hl : l.length ≤ 1000000) : CallsA Tryz.prog ΓV 46 [c1 (.sl 2 (l.map caD)), c1 (.sl 2 (l.map caD))] (Tb true) := by
 have hm : (l.map caD).length = l.length := List.length_map _
 refine fn_rule (C := ⟨Tryz.prog, layF, Tryz.f46.ntmps, ΓV, 0, [], []⟩) layF_ok mixed Tryz.func46 rfl (by kernel_rfl) rfl rfl rfl ?_
 repeat' (first | refine (ex_is _ hm) ?_ | refine qg1 ?_ | refine eD ?_ ?_ <;> intro)
 refine ex_loop (X := Nat) (fun q => ⟨[(0, .o (c1 (.sl 2 (l.map caD)))), (1, .o (c1 (.sl 2 (l.map caD)))), (12, Ti l.length), (13, Ti q)], [], 0⟩) (fun q => l.length - q) (fun q => q ≤ l.length) 0 (Nat.zero_le _) sS ?_
 intro q hq
 refine ex_dec (fun h => ?_) (fun h => ?_)
 ·have hql : q < l.length := by omega
  have hx : l[q]? = some l[q] := at_some hql
  generalize l[q] = x at *
  obtain ⟨n, k⟩ := x
  repeat' (first | refine aI ((q + 1 : Nat) : Int) ?_ | refine aU ((q + 1 : Nat) : Int) ?_ | refine aB ((q + 1 : Nat) : Int) ?_ | refine (ex_agg (by kernel_rfl) true (eq_same (by kernel_rfl) (by kernel_rfl))) ?_ | refine (ex_row q (⟨n, k⟩ : CA) rfl hx) ?_ | refine qg1 ?_ | refine eD ?_ ?_ <;> intro)
  exact ex_round (q + 1) (by show q + 1 ≤ l.length; omega) (by show _ - _ < _ - _; omega) sS
 ·repeat' (first | refine qgs ?_ | refine eD ?_ ?_ <;> intro)
  exact TLe.rfl
theorem eqSub_c (l : List SB) (hl : l.length ≤ 1000000) : CallsA Tryz.prog ΓV 63 [c1 (.sl 2 (l.map sbD)), c1 (.sl 2 (l.map sbD))] (Tb true) := by
 have hm : (l.map sbD).length = l.length := List.length_map _
 refine fn_rule (C := ⟨Tryz.prog, layF, Tryz.f63.ntmps, ΓV, 0, [], []⟩) layF_ok mixed Tryz.func63 rfl (by kernel_rfl) rfl rfl rfl ?_
 repeat' (first | refine (ex_is _ hm) ?_ | refine qg1 ?_ | refine eD ?_ ?_ <;> intro)
 refine ex_loop (X := Nat) (fun q => ⟨[(0, .o (c1 (.sl 2 (l.map sbD)))), (1, .o (c1 (.sl 2 (l.map sbD)))), (12, Ti l.length), (13, Ti q)], [], 0⟩) (fun q => l.length - q) (fun q => q ≤ l.length) 0 (Nat.zero_le _) sS ?_
 intro q hq
 refine ex_dec (fun h => ?_) (fun h => ?_)
 ·have hql : q < l.length := by omega
  have hx : l[q]? = some l[q] := at_some hql
  generalize l[q] = x at *
  obtain ⟨n, k⟩ := x
  repeat' (first | refine aI ((q + 1 : Nat) : Int) ?_ | refine aU ((q + 1 : Nat) : Int) ?_ | refine aB ((q + 1 : Nat) : Int) ?_ | refine (ex_agg (by kernel_rfl) true (eq_same (by kernel_rfl) (by kernel_rfl))) ?_ | refine (ex_row q (⟨n, k⟩ : SB) rfl hx) ?_ | refine qg1 ?_ | refine eD ?_ ?_ <;> intro)
  exact ex_round (q + 1) (by show q + 1 ≤ l.length; omega) (by show _ - _ < _ - _; omega) sS
 ·repeat' (first | refine qgs ?_ | refine eD ?_ ?_ <;> intro)
  exact TLe.rfl
theorem sameExpr_c (x : EX) (hl : x.kids.length ≤ 1000000) : CallsA Tryz.prog ΓV 24 [gD (exD x), gD (exD x)] (Tb true) := by
 obtain ⟨k, op, n, nm, l⟩ := x
 have hl : l.length ≤ 1000000 := hl
 have hi := eqInts_c l hl
 unfold exD
 dsimp only
 refine fn_rule (C := ⟨Tryz.prog, layF, Tryz.f24.ntmps, ΓV, 0, [], []⟩) layF_ok mixed Tryz.func24 rfl (by kernel_rfl) rfl rfl rfl ?_
 repeat' (first | refine ex_call hi ?_ | refine qg1 ?_ | refine eD ?_ ?_ <;> intro)
 exact TLe.rfl
theorem eqfExpr_c (l : List EX) (hl : l.length ≤ 1000000) (hx : ∀ x ∈ l, x.kids.length ≤ 1000000) : CallsA Tryz.prog ΓV 23 [c1 (.sl 5 (l.map exD)), c1 (.sl 5 (l.map exD)), .f 24 0 []] (Tb true) := by
 have hm : (l.map exD).length = l.length := List.length_map _
 refine fn_rule (C := ⟨Tryz.prog, layF, Tryz.f23.ntmps, ΓV, 0, [], []⟩) layF_ok mixed Tryz.func23 rfl (by kernel_rfl) rfl rfl rfl ?_
 repeat' (first | refine (ex_is _ hm) ?_ | refine qg1 ?_ | refine eD ?_ ?_ <;> intro)
 refine ex_loop (X := Nat) (fun q => ⟨[(0, .o (c1 (.sl 5 (l.map exD)))), (1, .o (c1 (.sl 5 (l.map exD)))), (2, .o (.f 24 0 [])), (15, .o (c1 (.sl 5 (l.map exD)))), (16, Ti l.length), (17, Ti q)], [], 0⟩) (fun q => l.length - q) (fun q => q ≤ l.length) 0 (Nat.zero_le _) sS ?_
 intro q hq
 refine ex_dec (fun h => ?_) (fun h => ?_)
 ·have hql : q < l.length := by omega
  have he : l[q]? = some l[q] := at_some hql
  have hz := sameExpr_c l[q] (hx _ (List.getElem_mem hql))
  clear hx
  generalize l[q] = x at *
  obtain ⟨k, op, n, nm, l'⟩ := x
  have hz : CallsA Tryz.prog ΓV 24 [gD [di k, ds (bs op), du n, ds (bs nm), intsD l'], gD [di k, ds (bs op), du n, ds (bs nm), intsD l']] (Tb true) := hz
  repeat' (first | refine ex_call hz ?_ | refine aI ((q + 1 : Nat) : Int) ?_ | refine aU ((q + 1 : Nat) : Int) ?_ | refine aB ((q + 1 : Nat) : Int) ?_ | refine (ex_rowF q _ [di k, ds (bs op), du n, ds (bs nm), intsD l'] rfl he rfl) ?_ | refine qg1 ?_ | refine eD ?_ ?_ <;> intro)
  exact ex_round (q + 1) (by show q + 1 ≤ l.length; omega) (by show _ - _ < _ - _; omega) sS
 ·repeat' (first | refine qgs ?_ | refine eD ?_ ?_ <;> intro)
  exact TLe.rfl
theorem sameType_c (x : TY) (hl : x.args.length ≤ 1000000 ∧ x.cases.length ≤ 1000000) : CallsA Tryz.prog ΓV 26 [gD (tyD x), gD (tyD x)] (Tb true) := by
 obtain ⟨k, size, little, nm, args, ex, inn, l⟩ := x
 have hi := eqInts_c args hl.1
 have hc := eqCase_c l hl.2
 unfold tyD
 dsimp only
 refine fn_rule (C := ⟨Tryz.prog, layF, Tryz.f26.ntmps, ΓV, 0, [], []⟩) layF_ok mixed Tryz.func26 rfl (by kernel_rfl) rfl rfl rfl ?_
 repeat' (first | refine ex_call hc ?_ | refine ex_call hi ?_ | refine qg1 ?_ | refine eD ?_ ?_ <;> intro)
 exact TLe.rfl
theorem eqfType_c (l : List TY) (hl : l.length ≤ 1000000) (hx : ∀ x ∈ l, x.args.length ≤ 1000000 ∧ x.cases.length ≤ 1000000) : CallsA Tryz.prog ΓV 25 [c1 (.sl 8 (l.map tyD)), c1 (.sl 8 (l.map tyD)), .f 26 0 []] (Tb true) := by
 have hm : (l.map tyD).length = l.length := List.length_map _
 refine fn_rule (C := ⟨Tryz.prog, layF, Tryz.f25.ntmps, ΓV, 0, [], []⟩) layF_ok mixed Tryz.func25 rfl (by kernel_rfl) rfl rfl rfl ?_
 repeat' (first | refine (ex_is _ hm) ?_ | refine qg1 ?_ | refine eD ?_ ?_ <;> intro)
 refine ex_loop (X := Nat) (fun q => ⟨[(0, .o (c1 (.sl 8 (l.map tyD)))), (1, .o (c1 (.sl 8 (l.map tyD)))), (2, .o (.f 26 0 [])), (15, .o (c1 (.sl 8 (l.map tyD)))), (16, Ti l.length), (17, Ti q)], [], 0⟩) (fun q => l.length - q) (fun q => q ≤ l.length) 0 (Nat.zero_le _) sS ?_
 intro q hq
 refine ex_dec (fun h => ?_) (fun h => ?_)
 ·have hql : q < l.length := by omega
  have he : l[q]? = some l[q] := at_some hql
  have hz := sameType_c l[q] (hx _ (List.getElem_mem hql))
  clear hx
  generalize l[q] = x at *
  obtain ⟨k, size, little, nm, args, ex, inn, l'⟩ := x
  have hz : CallsA Tryz.prog ΓV 26 [gD [di k, di size, db little, ds (bs nm), intsD args, di ex, di inn, .sl 2 (l'.map caD)], gD [di k, di size, db little, ds (bs nm), intsD args, di ex, di inn, .sl 2 (l'.map caD)]] (Tb true) := hz
  repeat' (first | refine ex_call hz ?_ | refine aI ((q + 1 : Nat) : Int) ?_ | refine aU ((q + 1 : Nat) : Int) ?_ | refine aB ((q + 1 : Nat) : Int) ?_ | refine (ex_rowF q _ [di k, di size, db little, ds (bs nm), intsD args, di ex, di inn, .sl 2 (l'.map caD)] rfl he rfl) ?_ | refine qg1 ?_ | refine eD ?_ ?_ <;> intro)
  exact ex_round (q + 1) (by show q + 1 ≤ l.length; omega) (by show _ - _ < _ - _; omega) sS
 ·repeat' (first | refine qgs ?_ | refine eD ?_ ?_ <;> intro)
  exact TLe.rfl
theorem sameItem_c (x : IT) (hl : x.subs.length ≤ 1000000) : CallsA Tryz.prog ΓV 44 [gD (itD x), gD (itD x)] (Tb true) := by
 obtain ⟨nm, ty, der, a, b, wh, size, little, l⟩ := x
 have hc := eqSub_c l hl
 unfold itD
 dsimp only
 refine fn_rule (C := ⟨Tryz.prog, layF, Tryz.f44.ntmps, ΓV, 0, [], []⟩) layF_ok mixed Tryz.func44 rfl (by kernel_rfl) rfl rfl rfl ?_
 repeat' (first | refine ex_call hc ?_ | refine qg1 ?_ | refine eD ?_ ?_ <;> intro)
 exact TLe.rfl
theorem eqfItem_c (l : List IT) (hl : l.length ≤ 1000000) (hx : ∀ x ∈ l, x.subs.length ≤ 1000000) : CallsA Tryz.prog ΓV 43 [c1 (.sl 9 (l.map itD)), c1 (.sl 9 (l.map itD)), .f 44 0 []] (Tb true) := by
 have hm : (l.map itD).length = l.length := List.length_map _
 refine fn_rule (C := ⟨Tryz.prog, layF, Tryz.f43.ntmps, ΓV, 0, [], []⟩) layF_ok mixed Tryz.func43 rfl (by kernel_rfl) rfl rfl rfl ?_
 repeat' (first | refine (ex_is _ hm) ?_ | refine qg1 ?_ | refine eD ?_ ?_ <;> intro)
 refine ex_loop (X := Nat) (fun q => ⟨[(0, .o (c1 (.sl 9 (l.map itD)))), (1, .o (c1 (.sl 9 (l.map itD)))), (2, .o (.f 44 0 [])), (15, .o (c1 (.sl 9 (l.map itD)))), (16, Ti l.length), (17, Ti q)], [], 0⟩) (fun q => l.length - q) (fun q => q ≤ l.length) 0 (Nat.zero_le _) sS ?_
 intro q hq
 refine ex_dec (fun h => ?_) (fun h => ?_)
 ·have hql : q < l.length := by omega
  have he : l[q]? = some l[q] := at_some hql
  have hz := sameItem_c l[q] (hx _ (List.getElem_mem hql))
  clear hx
  generalize l[q] = x at *
  obtain ⟨nm, ty, der, a, b, wh, size, little, l'⟩ := x
  have hz : CallsA Tryz.prog ΓV 44 [gD [ds (bs nm), di ty, di der, ds (bs a), ds (bs b), di wh, di size, db little, .sl 2 (l'.map sbD)], gD [ds (bs nm), di ty, di der, ds (bs a), ds (bs b), di wh, di size, db little, .sl 2 (l'.map sbD)]] (Tb true) := hz
  repeat' (first | refine ex_call hz ?_ | refine aI ((q + 1 : Nat) : Int) ?_ | refine aU ((q + 1 : Nat) : Int) ?_ | refine aB ((q + 1 : Nat) : Int) ?_ | refine (ex_rowF q _ [ds (bs nm), di ty, di der, ds (bs a), ds (bs b), di wh, di size, db little, .sl 2 (l'.map sbD)] rfl he rfl) ?_ | refine qg1 ?_ | refine eD ?_ ?_ <;> intro)
  exact ex_round (q + 1) (by show q + 1 ≤ l.length; omega) (by show _ - _ < _ - _; omega) sS
 ·repeat' (first | refine qgs ?_ | refine eD ?_ ?_ <;> intro)
  exact TLe.rfl
theorem sameStruct_c (x : RC) (hl : x.ps.length ≤ 1000000 ∧ x.its.length ≤ 1000000 ∧ ∀ i ∈ x.its, i.subs.length ≤ 1000000) : CallsA Tryz.prog ΓV 22 [gD (rcD x), gD (rcD x)] (Tb true) := by
 obtain ⟨nm, ps, its⟩ := x
 have hp := eqStrs_c ps hl.1
 have hi := (eqfItem_c its hl.2.1 hl.2.2).fn3
 clear hl
 unfold rcD
 dsimp only
 refine fn_rule (C := ⟨Tryz.prog, layF, Tryz.f22.ntmps, ΓV, 0, [], []⟩) layF_ok mixed Tryz.func22 rfl (by kernel_rfl) rfl rfl rfl ?_
 repeat' (first | refine ex_call hi ?_ | refine ex_call hp ?_ | refine qg1 ?_ | refine eD ?_ ?_ <;> intro)
 exact TLe.rfl
theorem eqfStruct_c (l : List RC) (hl : l.length ≤ 1000000) (hx : ∀ x ∈ l, x.ps.length ≤ 1000000 ∧ x.its.length ≤ 1000000 ∧ ∀ i ∈ x.its, i.subs.length ≤ 1000000) : CallsA Tryz.prog ΓV 21 [c1 (.sl 3 (l.map rcD)), c1 (.sl 3 (l.map rcD)), .f 22 0 []] (Tb true) := by
 have hm : (l.map rcD).length = l.length := List.length_map _
 refine fn_rule (C := ⟨Tryz.prog, layF, Tryz.f21.ntmps, ΓV, 0, [], []⟩) layF_ok mixed Tryz.func21 rfl (by kernel_rfl) rfl rfl rfl ?_
 repeat' (first | refine (ex_is _ hm) ?_ | refine qg1 ?_ | refine eD ?_ ?_ <;> intro)
 refine ex_loop (X := Nat) (fun q => ⟨[(0, .o (c1 (.sl 3 (l.map rcD)))), (1, .o (c1 (.sl 3 (l.map rcD)))), (2, .o (.f 22 0 [])), (15, .o (c1 (.sl 3 (l.map rcD)))), (16, Ti l.length), (17, Ti q)], [], 0⟩) (fun q => l.length - q) (fun q => q ≤ l.length) 0 (Nat.zero_le _) sS ?_
 intro q hq
 refine ex_dec (fun h => ?_) (fun h => ?_)
 ·have hql : q < l.length := by omega
  have he : l[q]? = some l[q] := at_some hql
  have hz := sameStruct_c l[q] (hx _ (List.getElem_mem hql))
  clear hx
  generalize l[q] = x at *
  obtain ⟨nm, ps, its⟩ := x
  have hz : CallsA Tryz.prog ΓV 22 [gD [ds (bs nm), .sl 1 (ps.map fun p => [ds (bs p)]), .sl 9 (its.map itD)], gD [ds (bs nm), .sl 1 (ps.map fun p => [ds (bs p)]), .sl 9 (its.map itD)]] (Tb true) := hz
  repeat' (first | refine ex_call hz ?_ | refine aI ((q + 1 : Nat) : Int) ?_ | refine aU ((q + 1 : Nat) : Int) ?_ | refine aB ((q + 1 : Nat) : Int) ?_ | refine (ex_rowF q _ [ds (bs nm), .sl 1 (ps.map fun p => [ds (bs p)]), .sl 9 (its.map itD)] rfl he rfl) ?_ | refine qg1 ?_ | refine eD ?_ ?_ <;> intro)
  exact ex_round (q + 1) (by show q + 1 ≤ l.length; omega) (by show _ - _ < _ - _; omega) sS
 ·repeat' (first | refine qgs ?_ | refine eD ?_ ?_ <;> intro)
  exact TLe.rfl
theorem equal_c (cs : List CO) (rs : List RC) (xs : List EX) (ts : List TY) (hc : cs.length ≤ 1000000) (hr : rs.length ≤ 1000000) (hxl : xs.length ≤ 1000000) (htl : ts.length ≤ 1000000) (hx : ∀ x ∈ xs, x.kids.length ≤ 1000000) (ht : ∀ x ∈ ts, x.args.length ≤ 1000000 ∧ x.cases.length ≤ 1000000)
  (hrc : ∀ x ∈ rs, x.ps.length ≤ 1000000 ∧ x.its.length ≤ 1000000 ∧ ∀ i ∈ x.its, i.subs.length ≤ 1000000) :
  CallsA Tryz.prog ΓV 10 [.c (.eptr (fileD cs rs xs ts)), .c (.eptr (fileD cs rs xs ts))] (Tb true) := by
 have h1 := eqConst_c cs hc
 have h2 := (eqfStruct_c rs hr hrc).fn3
 have h3 := (eqfExpr_c xs hxl hx).fn3
 have h4 := (eqfType_c ts htl ht).fn3
 clear hx ht hrc
 show CallsA _ _ _ [.c (.eptr [.sl 2 (cs.map coD), .sl 3 (rs.map rcD), .sl 5 (xs.map exD), .sl 8 (ts.map tyD)]), .c (.eptr [.sl 2 (cs.map coD), .sl 3 (rs.map rcD), .sl 5 (xs.map exD), .sl 8 (ts.map tyD)])] _
 generalize cs.map coD = C0 at *
 generalize rs.map rcD = R0 at *
 generalize xs.map exD = X0 at *
 generalize ts.map tyD = T0 at *
 refine fn_rule (C := ⟨Tryz.prog, layF, Tryz.f10.ntmps, ΓV, 0, [], []⟩) layF_ok mixed Tryz.func10 rfl (by kernel_rfl) rfl rfl rfl ?_
 repeat' (first | refine ex_call h4 ?_ | refine ex_call h3 ?_ | refine ex_call h2 ?_ | refine ex_call h1 ?_ | refine (ex_pn (by kernel_rfl) false (fun _ _ => by kernel_rfl)) ?_ | refine qg1 ?_ | refine eD ?_ ?_ <;> intro)
 exact TLe.rfl
theorem equal_nil : CallsA Tryz.prog ΓV 10 [c1 dnp, c1 dnp] (Tb true) := by
 refine fn_rule (C := ⟨Tryz.prog, layF, Tryz.f10.ntmps, ΓV, 0, [], []⟩) layF_ok mixed Tryz.func10 rfl (by kernel_rfl) rfl rfl rfl ?_
 repeat' (first | refine (ex_pn (by kernel_rfl) true (fun _ => by kernel_rfl)) ?_ | refine qg1 ?_ | refine eD ?_ ?_ <;> intro)
 exact TLe.rfl
theorem Reads.equal {s : List UInt8} {l : List CD} (h : Reads s l) : CallsA Tryz.prog ΓV 10 [.c (.eptr (fileD (dC l) (dR l 0 0) (dX l 0) (dY l 0 0))), .c (.eptr (fileD (dC l) (dR l 0 0) (dX l 0) (dY l 0 0)))] (Tb true) :=
 equal_c _ _ _ _ (by have := h.c; omega) (by have := h.r; omega) (by have := h.x; omega) (by have := h.t; omega) (fun x hx => Nat.le_trans (d_kids l 0 x hx) (by decide))
  (fun x hx => by have := d_z l 0 0 h.ok x hx; unfold tyZ at this; omega) (fun x hx => by
   obtain ⟨h1, h2, h3⟩ := d_rc l 0 0 h.ok x hx
   exact ⟨by omega, by omega, fun i hi => Nat.le_trans (h3 i hi) (by decide)⟩)
end Go.Proofs.YtidnlfkakhmadaaGreatDoor

namespace Go.Proofs.YtidnlfkakhmadaaGreatDoor
open Go.RowKit

abbrev fdD (l : List CD) : List D := fileD (dC l) (dR l 0 0) (dX l 0) (dY l 0 0)
theorem all_r {s : List UInt8} {l : List CD} (h : Reads s l) :
  CallsM Tryz.prog ΓV 40 (PrM (fdD l) ((dX l 0).length + (dY l 0 0).length)) 1 [.c (.ptr 0 0)] (Tstr (bs (dTx (normD l)))) (PrM (fdD l) 0) [] := by
 have hsz := r_sz (strR l) 0 0
 rw [← dX_s, ← dY_s] at hsz
 rw [hsz]
 by_cases h0 : l = []
 ·subst h0; exact all_0
 ·exact all_c l h0 h.ok h.nums (by have := h.x; omega) (by have := h.t; omega) (by have := h.tx; omega)
theorem show_r {s : List UInt8} {l : List CD} (h : Reads s l) :
  CallsM Tryz.prog ΓV 39 [] 0 [.c (.eptr (fdD l))] (.o (.c (.ptr 0 0))) [] [.obj [.eptr (fdD l), .d (di ((dX l 0).length + (dY l 0 0).length : Nat)), .d (db false)]] :=
 show_c _ _ _ _ _ _ ⟨_, rfl, List.length_map _⟩ ⟨_, rfl, List.length_map _⟩ (by have := h.x; omega) (by have := h.t; omega)
theorem Text_c {s : List UInt8} {l : List CD} (h : Reads s l) :
  CallsA Tryz.prog ΓV 18 [.c (.eptr (fdD l))] (if (dTx (normD l)).length ≤ 16384 then .tup [c1 (ds (bs (dTx (normD l)))), c1 (di 0)] else .tup [c1 (ds (bs [])), c1 (di 4)]) := by
 have hs := show_r h
 have ha := all_r h
 have hp := (Parse_c (dTx (normD l))).gV
 have he := h.equal
 rw [h.back] at hp
 have hf : fdD l = [.sl 2 ((dC l).map coD), .sl 3 ((dR l 0 0).map rcD), .sl 5 ((dX l 0).map exD), .sl 8 ((dY l 0 0).map tyD)] := rfl
 generalize hn : (dX l 0).length + (dY l 0 0).length = n at *
 generalize dTx (normD l) = tx at *
 by_cases hl : tx.length ≤ 16384
 ·rw [if_pos hl] at hp ⊢
  have hp : CallsA Tryz.prog ΓV 6 [c1 (ds (bs tx))] (.tup [.c (.eptr (fdD l)), gD [di 0, di 0], c1 (di 0)]) := hp
  have he : CallsA Tryz.prog ΓV 10 [.c (.eptr (fdD l)), .c (.eptr (fdD l))] (Tb true) := he
  rw [hf] at *
  clear h hf
  generalize (dC l).map coD = C0 at *
  generalize (dR l 0 0).map rcD = R0 at *
  generalize (dX l 0).map exD = X0 at *
  generalize (dY l 0 0).map tyD = T0 at *
  refine fn_rule (C := ⟨Tryz.prog, layF, Tryz.f18.ntmps, ΓV, 0, [], []⟩) layF_ok mixed Tryz.func18 rfl (by kernel_rfl) rfl rfl rfl ?_
  repeat' (first | refine (ex_pn (by kernel_rfl) false (fun _ _ => by kernel_rfl)) ?_ | refine qg1 ?_ | refine eD ?_ ?_ <;> intro)
  refine sC (CallsM.ren (hs) [] 0 rfl rfl rfl rfl) ?_
  repeat' (first | refine qgs ?_ | refine eD ?_ ?_ <;> intro)
  refine sC (CallsM.ren (ha) [0] 1 rfl rfl rfl rfl) ?_
  repeat' (first | refine ex_call hp ?_ | refine qg1 ?_ | refine eD ?_ ?_ <;> intro)
  refine ex_callM (he.toM (by kernel_rfl) (by kernel_rfl) _) ?_
  repeat' (first | refine qgs ?_ | refine eD ?_ ?_ <;> intro)
  exact TLe.rfl
 ·rw [if_neg hl] at hp ⊢
  have hp : CallsA Tryz.prog ΓV 6 [c1 (ds (bs tx))] (.tup [c1 dnp, gD [di 1, di 1], c1 (di 7)]) := hp
  clear he
  rw [hf] at *
  clear h hf
  generalize (dC l).map coD = C0 at *
  generalize (dR l 0 0).map rcD = R0 at *
  generalize (dX l 0).map exD = X0 at *
  generalize (dY l 0 0).map tyD = T0 at *
  refine fn_rule (C := ⟨Tryz.prog, layF, Tryz.f18.ntmps, ΓV, 0, [], []⟩) layF_ok mixed Tryz.func18 rfl (by kernel_rfl) rfl rfl rfl ?_
  repeat' (first | refine (ex_pn (by kernel_rfl) false (fun _ _ => by kernel_rfl)) ?_ | refine qg1 ?_ | refine eD ?_ ?_ <;> intro)
  refine sC (CallsM.ren (hs) [] 0 rfl rfl rfl rfl) ?_
  repeat' (first | refine qgs ?_ | refine eD ?_ ?_ <;> intro)
  refine sC (CallsM.ren (ha) [0] 1 rfl rfl rfl rfl) ?_
  repeat' (first | refine ex_call hp ?_ | refine qg1 ?_ | refine eD ?_ ?_ <;> intro)
  exact TLe.rfl
end Go.Proofs.YtidnlfkakhmadaaGreatDoor

namespace Go.Proofs.YtidnlfkakhmadaaGreatDoor

def zT (u : TokP) : TokP := ⟨u.k, u.t, u.n, 0, 0⟩
def zL (L : List TokP) : List TokP := L.map zT
section
variable (L : List TokP)
theorem len_Z : (zL L).length = L.length := List.length_map _
theorem tk_Z (i : Nat) : tk (zL L) i = zT (tk L i) := by
 unfold tk zL
 rw [List.getD_eq_getElem?_getD, List.getD_eq_getElem?_getD, List.getElem?_map]
 cases L[i]? <;> rfl
theorem isV_Z (i : Nat) (t : List UInt8) : isV (zL L) i t = isV L i t := by unfold isV; rw [tk_Z]; rfl
theorem namedV_Z (i : Nat) : namedV (zL L) i = namedV L i := by unfold namedV; rw [tk_Z]; rfl
theorem beginsV_Z (i : Nat) : beginsV (zL L) i = beginsV L i := by unfold beginsV; rw [isV_Z, isV_Z, namedV_Z, tk_Z]; rfl
theorem startsV_Z (i : Nat) : startsV (zL L) i = startsV L i := by unfold startsV; rw [namedV_Z, tk_Z]; rfl
theorem opAt_Z (lv i : Nat) : opAt (zL L) lv i = opAt L lv i := by unfold opAt; rw [tk_Z]; rfl
theorem takeM_Z (t : List UInt8) : takeM (zL L) t = takeM L t := by funext s; unfold takeM; rw [isV_Z]
theorem nameM_Z : nameM (zL L) = nameM L := by funext s; unfold nameM; rw [namedV_Z, tk_Z]; rfl
theorem numberM_Z : numberM (zL L) = numberM L := by funext s; unfold numberM; rw [tk_Z]; rfl
theorem unF_Z (m : Nat) (u e : PM Int) : unF (zL L) m u e = unF L m u e := by
 unfold unF
 simp only [isV_Z, beginsV_Z, namedV_Z, takeM_Z, nameM_Z, numberM_Z]
theorem lineN_Z (lv : Nat) (x : PM Int) : ∀ (n : Nat) (k : Int), lineN (zL L) lv x n k = lineN L lv x n k
 | 0, _ => rfl
 | n + 1, k => by
  have e : ∀ i, (tk (zL L) i).t = (tk L i).t := fun i => by rw [tk_Z]; rfl
  rw [lineN, lineN]
  simp only [opAt_Z, e, lineN_Z lv x n]
  rfl
theorem lineJ_Z (u : PM Int) : ∀ j : Nat, lineJ (zL L) u j = lineJ L u j
 | 0 => rfl
 | j + 1 => by
  rw [lineJ, lineJ, lineJ_Z u j]
  simp only [lineN_Z, len_Z]
theorem unM_Z : ∀ m : Nat, unM (zL L) m = unM L m
 | 0 => by rw [unM, unM, unF_Z]
 | m + 1 => by rw [unM, unM, unF_Z, unM_Z m, lineJ_Z]
theorem exprM_Z (m : Nat) : exprM (zL L) m = exprM L m := by unfold exprM; rw [unM_Z, lineJ_Z]
theorem bracketM_Z (m : Nat) : bracketM (zL L) m = bracketM L m := by unfold bracketM; simp only [takeM_Z, exprM_Z]
theorem arrayM_Z (m : Nat) (t : TY) : arrayM (zL L) m t = arrayM L m t := by unfold arrayM; simp only [isV_Z, bracketM_Z]
theorem argsN_Z (m : Nat) : ∀ (n : Nat) (l : List Int), argsN (zL L) m n l = argsN L m n l
 | 0, _ => rfl
 | n + 1, l => by rw [argsN, argsN]; simp only [isV_Z, beginsV_Z, exprM_Z, argsN_Z m n]
theorem refM_Z (m : Nat) : refM (zL L) m = refM L m := by unfold refM; simp only [nameM_Z, isV_Z, exprM_Z, argsN_Z, takeM_Z, len_Z]
theorem innerM_Z (m : Nat) (kd : PM Int) : innerM (zL L) m kd = innerM L m kd := by unfold innerM; simp only [startsV_Z]
theorem casesN_Z (m : Nat) (kd : PM Int) : ∀ (n : Nat) (l : List CA), casesN (zL L) m kd n l = casesN L m kd n l
 | 0, _ => rfl
 | n + 1, l => by rw [casesN, casesN]; simp only [isV_Z, numberM_Z, takeM_Z, innerM_Z, casesN_Z m kd n]
theorem choiceM_Z (m : Nat) (kd : PM Int) : choiceM (zL L) m kd = choiceM L m kd := by unfold choiceM; simp only [takeM_Z, exprM_Z, casesN_Z, isV_Z, innerM_Z, len_Z]
theorem wordM_Z (m : Nat) (kd : PM Int) (w : List UInt8) : wordM (zL L) m kd w = wordM L m kd w := by unfold wordM; simp only [bracketM_Z, innerM_Z, choiceM_Z, arrayM_Z]
theorem kindF_Z (m : Nat) (kd : PM Int) : kindF (zL L) m kd = kindF L m kd := by
 have e : ∀ i, (tk (zL L) i).t = (tk L i).t := fun i => by rw [tk_Z]; rfl
 unfold kindF
 simp only [namedV_Z, refM_Z, arrayM_Z, startsV_Z, wordM_Z, e]
theorem kindM_Z : ∀ m : Nat, kindM (zL L) m = kindM L m
 | 0 => by rw [kindM, kindM, kindF_Z]
 | m + 1 => by rw [kindM, kindM, kindF_Z, kindM_Z m]
theorem derivedM_Z : derivedM (zL L) = derivedM L := by
 have e : ∀ i, (tk (zL L) i).t = (tk L i).t := fun i => by rw [tk_Z]; rfl
 have ek : ∀ i, (tk (zL L) i).k = (tk L i).k := fun i => by rw [tk_Z]; rfl
 unfold derivedM
 simp only [takeM_Z, nameM_Z, e, ek]
theorem fieldM_Z : fieldM (zL L) = fieldM L := by unfold fieldM; simp only [nameM_Z, takeM_Z, kindM_Z, isV_Z, derivedM_Z, exprM_Z]
theorem subsN_Z : ∀ (n : Nat) (l : List SB), subsN (zL L) n l = subsN L n l
 | 0, _ => rfl
 | n + 1, l => by rw [subsN, subsN]; simp only [namedV_Z, nameM_Z, takeM_Z, numberM_Z, subsN_Z n]
theorem packM_Z : packM (zL L) = packM L := by
 have e : ∀ i, (tk (zL L) i).t = (tk L i).t := fun i => by rw [tk_Z]; rfl
 have ek : ∀ i, (tk (zL L) i).k = (tk L i).k := fun i => by rw [tk_Z]; rfl
 unfold packM
 simp only [takeM_Z, e, ek, subsN_Z, len_Z]
theorem parsN_Z : ∀ (n : Nat) (l : List (List UInt8)), parsN (zL L) n l = parsN L n l
 | 0, _ => rfl
 | n + 1, l => by rw [parsN, parsN]; simp only [isV_Z, namedV_Z, nameM_Z, parsN_Z n]
theorem itemsN_Z : ∀ (n : Nat) (l : List IT), itemsN (zL L) n l = itemsN L n l
 | 0, _ => rfl
 | n + 1, l => by rw [itemsN, itemsN]; simp only [isV_Z, namedV_Z, packM_Z, fieldM_Z, itemsN_Z n]
theorem recordM_Z : recordM (zL L) = recordM L := by unfold recordM; simp only [takeM_Z, nameM_Z, isV_Z, parsN_Z, itemsN_Z, len_Z]
theorem constM_Z : constM (zL L) = constM L := by unfold constM; simp only [takeM_Z, nameM_Z, numberM_Z]
theorem wholeN_Z : ∀ (n : Nat) (cs : List CO) (rs : List RC), wholeN (zL L) n cs rs = wholeN L n cs rs
 | 0, _, _ => rfl
 | n + 1, cs, rs => by
  have ek : ∀ i, (tk (zL L) i).k = (tk L i).k := fun i => by rw [tk_Z]; rfl
  rw [wholeN, wholeN]
  simp only [isV_Z, constM_Z, recordM_Z, wholeN_Z n, ek]
end
theorem zL_eq {L L' : List TokP} (h : L.map TokP.key = L'.map TokP.key) : zL L = zL L' := by
 have : ∀ L : List TokP, zL L = (L.map TokP.key).map fun k => (⟨k.1, k.2.1, k.2.2, 0, 0⟩ : TokP) := fun L => by
  unfold zL
  rw [List.map_map]
  rfl
 rw [this, this, h]
def FR.alike : FR → FR → Prop
 | .ok cs rs xs ts, f => f = .ok cs rs xs ts
 | .err _ _ e, f => ∃ l c, f = .err l c e
theorem fileV_alike {L L' : List TokP} (h : L.map TokP.key = L'.map TokP.key) : (fileV (.ok L)).alike (fileV (.ok L')) := by
 have hz := zL_eq h
 have hl : L.length = L'.length := by
  have := congrArg List.length h
  rw [List.length_map, List.length_map] at this
  exact this
 have e : wholeN L (L.length + 1) [] [] = wholeN L' (L'.length + 1) [] [] := by rw [← wholeN_Z L, ← wholeN_Z L', hz, hl]
 unfold fileV
 dsimp only
 rw [e]
 cases wholeN L' (L'.length + 1) [] [] ⟨0, [], []⟩ with
 | ok v s => exact rfl
 | err i e => exact ⟨_, _, rfl⟩
def Gap (g : List UInt8) : Prop := (∀ X, lexK (g ++ X) = lexK X) ∧ (∀ X, HdA (g ++ X)) ∧ ∀ X, HdS (g ++ X)
def gapT : List TokP → List (List UInt8) → List UInt8
 | u :: L, g :: gs => u.t ++ (g ++ gapT L gs)
 | _, _ => []
theorem lex_gap : ∀ (us : List TokP) (gs : List (List UInt8)) (l c : Nat), us.length + 1 = gs.length → (∀ u ∈ us, GoodTok u) → (∀ g ∈ gs, Gap g) →
  lexK (gapT (us ++ [(⟨3, [], 0, l, c⟩ : TokP)]) gs) = some ((us ++ [(⟨3, [], 0, l, c⟩ : TokP)]).map TokP.key)
 | [], [g], l, c, _, _, hg => by
  show lexK ([] ++ (g ++ [])) = _
  rw [List.nil_append, (hg g List.mem_cons_self).1]
  rfl
 | u :: us, g :: gs, l, c, hl, hu, hg => by
  obtain ⟨h1, h2, h3⟩ := hg g List.mem_cons_self
  have ih := lex_gap us gs l c (by simp only [List.length_cons] at hl; omega) (fun v hv => hu v (List.mem_cons_of_mem _ hv)) (fun v hv => hg v (List.mem_cons_of_mem _ hv))
  obtain ⟨hk, hne, r, hr⟩ := hu u List.mem_cons_self
  show lexK (u.t ++ (g ++ gapT (us ++ [(⟨3, [], 0, l, c⟩ : TokP)]) gs)) = some (u.key :: (us ++ [(⟨3, [], 0, l, c⟩ : TokP)]).map TokP.key)
  have key : lexK (u.t ++ (g ++ gapT (us ++ [(⟨3, [], 0, l, c⟩ : TokP)]) gs)) = (lexK (g ++ gapT (us ++ [(⟨3, [], 0, l, c⟩ : TokP)]) gs)).map (u.key :: ·) := by
   rcases tokF_cases hr with ⟨k2, hs, n0⟩ | ⟨k1, -⟩ | ⟨k0, n0, -⟩
   ·have := lexK_sg hs (h3 (gapT (us ++ [(⟨3, [], 0, l, c⟩ : TokP)]) gs))
    rw [this]
    have e : u.key = (2, u.t, 0) := by unfold TokP.key; rw [k2, n0]
    rw [e]
   ·have := lexK_al hr (by rw [k1]; decide) (h2 (gapT (us ++ [(⟨3, [], 0, l, c⟩ : TokP)]) gs))
    rw [this]; rfl
   ·have := lexK_al hr (by rw [k0]; decide) (h2 (gapT (us ++ [(⟨3, [], 0, l, c⟩ : TokP)]) gs))
    rw [this]; rfl
  rw [key, h1, ih]
  rfl
 | [], [], _, _, h, _, _ => by cases h
 | [], _ :: _ :: _, _, _, h, _, _ => by simp at h
 | _ :: _, [], _, _, h, _, _ => by simp at h
theorem lexK_blk {b : UInt8} {w : List UInt8} (hb : blank b = true) (h : ∀ X, lexK (w ++ X) = lexK X) (X : List UInt8) : lexK (b :: w ++ X) = lexK X := by
 rw [List.cons_append, lexK_blank _ hb]; exact h X
theorem gap_of {b : UInt8} {w : List UInt8} (ha : alnum b = false) (hs : safe b = true) (h : ∀ X, lexK (b :: w ++ X) = lexK X) : Gap (b :: w) :=
 ⟨h, fun X => hdA_app ha w X, fun X => hdS_cons hs⟩
def fillL : List (List UInt8) := [[32], [10], [9, 32], [32, 47, 47, 32, 120, 10], [13, 10], [32, 32], [32, 47, 47, 10], [10, 10]]
theorem com_gap {w : List UInt8} (hw : ∀ c ∈ w, notNl c = true) (X : List UInt8) : lexK (47 :: 47 :: (w ++ 10 :: X)) = lexK X := by
 rw [lexK_com (by rfl)]
 have : (47 :: 47 :: (w ++ 10 :: X)).dropWhile notNl = 10 :: X := by
  rw [List.dropWhile_cons_of_pos (by decide), List.dropWhile_cons_of_pos (by decide), List.dropWhile_append_of_pos hw, List.dropWhile_cons_of_neg (by decide)]
 rw [this, lexK_blank _ (by decide)]
theorem gap_fill : ∀ g ∈ fillL, Gap g := by
 intro g hg
 have n0 : ∀ X, lexK (([] : List UInt8) ++ X) = lexK X := fun _ => rfl
 simp only [fillL, List.mem_cons, List.not_mem_nil, or_false] at hg
 rcases hg with rfl | rfl | rfl | rfl | rfl | rfl | rfl | rfl
 ·exact gap_of (by decide) (by decide +kernel) (lexK_blk (by decide) n0)
 ·exact gap_of (by decide) (by decide +kernel) (lexK_blk (by decide) n0)
 ·exact gap_of (by decide) (by decide +kernel) (lexK_blk (by decide) (lexK_blk (by decide) n0))
 ·exact gap_of (by decide) (by decide +kernel) (lexK_blk (by decide) fun X => com_gap (w := [32, 120]) (by decide) X)
 ·exact gap_of (by decide) (by decide +kernel) (lexK_blk (by decide) (lexK_blk (by decide) n0))
 ·exact gap_of (by decide) (by decide +kernel) (lexK_blk (by decide) (lexK_blk (by decide) n0))
 ·exact gap_of (by decide) (by decide +kernel) (lexK_blk (by decide) fun X => com_gap (w := []) (by decide) X)
 ·exact gap_of (by decide) (by decide +kernel) (lexK_blk (by decide) (lexK_blk (by decide) n0))
theorem gapT_len : ∀ (L : List TokP) (gs : List (List UInt8)), (∀ g ∈ gs, g.length ≤ 6) → (gapT L gs).length ≤ (L.map fun u => u.t.length + 6).sum
 | [], gs, _ => by cases gs <;> exact Nat.zero_le _
 | u :: L, [], _ => Nat.zero_le _
 | u :: L, g :: gs, h => by
  have h1 := h g List.mem_cons_self
  have h2 := gapT_len L gs fun v hv => h v (List.mem_cons_of_mem _ hv)
  show (u.t ++ (g ++ gapT L gs)).length ≤ u.t.length + 6 + (L.map fun u => u.t.length + 6).sum
  rw [List.length_append, List.length_append]
  omega
end Go.Proofs.YtidnlfkakhmadaaGreatDoor

namespace Go.Proofs.YtidnlfkakhmadaaGreatDoor
open Go.RowKit

theorem lexN_sum : ∀ (n : Nat) (r : List UInt8) (l c : Nat) (ts : List TokP), r.length < n → lexN n r l c = .ok ts → (ts.map fun u => u.t.length).sum ≤ r.length := by
 intro n
 induction n with
 | zero => intro r l c ts h; omega
 | succ n ih =>
  intro r l c ts hlen h
  rw [lexN] at h
  rcases hs : stp r l c with _ | ⟨r', l', c'⟩ | ⟨k, t, v⟩ | e <;> rw [hs] at h <;> dsimp only at h
  ·cases h; exact Nat.zero_le _
  ·have := stp_go hs
   have := ih r' l' c' ts (by omega) h
   omega
  ·have ht := stp_tok hs
   obtain ⟨⟨X, rfl⟩, h2, h3, -⟩ := tokF_ok ht
   have h4 : 0 < t.length := List.length_pos_iff.2 h2
   rw [List.drop_left] at h
   rw [List.length_append] at hlen ⊢
   rcases hr : lexN n X l (c + t.length) with ts' | _
   ·rw [hr] at h
    have h' : [⟨k, t, v, l, c⟩] ++ ts' = ts := by injection h
    have := ih X l (c + t.length) ts' (by omega) hr
    rw [← h']
    show t.length + (ts'.map fun u => u.t.length).sum ≤ _
    omega
   ·rw [hr] at h; cases h
  ·cases h
theorem sum_six : ∀ L : List TokP, (L.map fun u => u.t.length + 6).sum = (L.map fun u => u.t.length).sum + 6 * L.length
 | [] => rfl
 | u :: L => by
  show u.t.length + 6 + (L.map fun u => u.t.length + 6).sum = u.t.length + (L.map fun u => u.t.length).sum + 6 * (L.length + 1)
  rw [sum_six L]; omega
def gapOf (gl : List UInt8) (i : Nat) : List UInt8 := if gl = [] then [32] else fillL.getD ((gl.getD (i % gl.length) 0).toNat % 8) [32]
theorem gapOf_mem (gl : List UInt8) (i : Nat) : gapOf gl i ∈ fillL := by
 unfold gapOf
 split
 ·decide
 ·have h : (gl.getD (i % gl.length) 0).toNat % 8 < 8 := Nat.mod_lt _ (by decide)
  generalize (gl.getD (i % gl.length) 0).toNat % 8 = k at *
  match k, h with
  | 0, _ => decide
  | 1, _ => decide
  | 2, _ => decide
  | 3, _ => decide
  | 4, _ => decide
  | 5, _ => decide
  | 6, _ => decide
  | 7, _ => decide
def blkT (gl : List UInt8) : List TokP → Nat → List UInt8
 | [], _ => []
 | u :: L, i => u.t ++ gapOf gl i ++ blkT gl L (i + 1)
def gapsL (gl : List UInt8) : Nat → Nat → List (List UInt8)
 | 0, _ => []
 | n + 1, i => gapOf gl i :: gapsL gl n (i + 1)
theorem gapsL_len (gl : List UInt8) : ∀ n i, (gapsL gl n i).length = n
 | 0, _ => rfl
 | n + 1, i => by rw [gapsL, List.length_cons, gapsL_len gl n]
theorem gapsL_mem (gl : List UInt8) : ∀ n i, ∀ g ∈ gapsL gl n i, g ∈ fillL
 | 0, _, g, h => by cases h
 | n + 1, i, g, h => by
  rcases List.mem_cons.1 h with rfl | h
  ·exact gapOf_mem gl i
  ·exact gapsL_mem gl n _ g h
theorem blk_gap (gl : List UInt8) : ∀ (L : List TokP) (i : Nat), blkT gl L i = gapT L (gapsL gl L.length i)
 | [], _ => rfl
 | u :: L, i => by
  show u.t ++ gapOf gl i ++ blkT gl L (i + 1) = u.t ++ (gapOf gl i ++ gapT L (gapsL gl L.length (i + 1)))
  rw [blk_gap gl L, List.append_assoc]
theorem blanks_len {s : List UInt8} (hs : s.length ≤ 1500) {L : List TokP} (h : lexV s = .ok L) (gl : List UInt8) : (blkT gl L 0).length ≤ 16384 ∧ L.length ≤ 1501 := by
 have hF : lexF s 1 1 = .ok L := by
  unfold lexV at h
  split at h
  ·exact h
  ·cases h
 have h1 := lexN_len _ s 1 1 L (Nat.lt_succ_self _) hF
 have h2 := lexN_sum _ s 1 1 L (Nat.lt_succ_self _) hF
 have h3 := gapT_len L (gapsL gl L.length 0) (fun g hg => (by decide : ∀ g ∈ fillL, g.length ≤ 6) g (gapsL_mem gl _ _ g hg))
 rw [← blk_gap, sum_six] at h3
 omega
theorem blanks_law {s : List UInt8} (hs : s.length ≤ 1500) {L : List TokP} (h : lexV s = .ok L) (gl : List UInt8) : (fileS s).alike (fileS (blkT gl L 0)) := by
 obtain ⟨hl, -⟩ := blanks_len hs h gl
 have hF : lexF s 1 1 = .ok L := by
  unfold lexV at h
  split at h
  ·exact h
  ·cases h
 obtain ⟨us, l, c, rfl, hg⟩ := lexF_good hF
 have hk := lex_gap us (gapsL gl (us ++ [(⟨3, [], 0, l, c⟩ : TokP)]).length 0) l c (by rw [gapsL_len, List.length_append]; rfl) hg (fun g hg => gap_fill g (gapsL_mem gl _ _ g hg))
 rw [← blk_gap] at hk
 unfold fileS
 rw [h]
 unfold lexV
 rw [if_pos hl]
 unfold lexK at hk
 cases hL : lexF (blkT gl (us ++ [(⟨3, [], 0, l, c⟩ : TokP)]) 0) 1 1 with
 | err _ _ _ => rw [hL] at hk; cases hk
 | ok L' =>
  rw [hL] at hk
  have hk : some (L'.map TokP.key) = some _ := hk
  injection hk with hk
  exact fileV_alike hk.symm
def wkT : List UInt8 := [115, 116, 114, 117, 99, 116, 32, 83, 32, 123, 32, 110, 58, 32, 117, 56, 59, 32, 125]
def wkL : List CD := [.str ⟨[83], [], [.field [110] (.int [117, 56]) 0 [] [] none]⟩]
theorem wk_reads : Reads wkT wkL := by
 have hS : NameOk [83] := ⟨by decide +kernel, [83], okTR_eq (by decide +kernel)⟩
 have hn : NameOk [110] := ⟨by decide +kernel, [110], okTR_eq (by decide +kernel)⟩
 have hok : DsOk wkL := fun d hd => by
  rw [List.mem_singleton.1 hd]
  refine ⟨hS, fun p hp => (by cases hp), Nat.zero_le _, (by decide), fun c hc => ?_⟩
  rw [List.mem_singleton.1 hc]
  exact ⟨hn, (by show integerV [117, 56] ≠ none; decide +kernel), (by decide), .inl ⟨rfl, rfl, rfl⟩, fun e he => (by cases he)⟩
 have hk : lexK wkT = some (dT wkL ++ [(3, [], 0)]) := by decide +kernel
 refine ⟨hok, fun d hd => ?_, by decide, by decide, by decide, by decide, by decide +kernel, ?_⟩
 ·rw [List.mem_singleton.1 hd]
  intro c hc
  rw [List.mem_singleton.1 hc]
  exact ⟨trivial, fun e he => by cases he⟩
 ·have := file_keys hok (by decide) (by decide) hk
  rw [if_pos (by decide)] at this
  exact this
theorem wk_text : dTx (normD wkL) = [115, 116, 114, 117, 99, 116, 32, 83, 32, 123, 10, 32, 32, 110, 58, 32, 117, 56, 59, 10, 125, 10] := by decide +kernel
theorem wk_lex : ∃ L, lexV wkT = .ok L ∧ L.length = 9 := by
 have hk : lexK wkT = some (dT wkL ++ [(3, [], 0)]) := by decide +kernel
 unfold lexV
 rw [if_pos (by decide)]
 unfold lexK at hk
 cases hL : lexF wkT 1 1 with
 | err _ _ _ => rw [hL] at hk; cases hk
 | ok L =>
  rw [hL] at hk
  have hk : some (L.map TokP.key) = some _ := hk
  injection hk with hk
  refine ⟨L, rfl, ?_⟩
  have := congrArg List.length hk
  rw [List.length_map] at this
  exact this
theorem wakes08_c : CallsA Tryz.prog ΓV 7 [] (Tb true) := by
 obtain ⟨L, hL, hl⟩ := wk_lex
 have h1 := (lex_c wkT).gV
 rw [hL] at h1
 have h1 : CallsA Tryz.prog ΓV 5 [c1 (ds (bs wkT))] (.tup [c1 (.sl 5 (L.map tokD)), gD [di 0, di 0], c1 (di 0)]) := h1
 have h2 := (Parse_c wkT).gV
 rw [wk_reads.f] at h2
 have h2 : CallsA Tryz.prog ΓV 6 [c1 (ds (bs wkT))] (.tup [.c (.eptr (fdD wkL)), gD [di 0, di 0], c1 (di 0)]) := h2
 have h3 := Text_c wk_reads
 rw [if_pos (by decide +kernel), wk_text] at h3
 have hm : (L.map tokD).length = 9 := by rw [List.length_map, hl]
 generalize L.map tokD = X at *
 have hfd : ∃ a b c d, fdD wkL = [.sl 2 a, .sl 3 b, .sl 5 c, .sl 8 d] := ⟨_, _, _, _, rfl⟩
 obtain ⟨a, b, c, d, hfd⟩ := hfd
 rw [hfd] at h2 h3
 refine fn_rule (C := ⟨Tryz.prog, layF, Tryz.f7.ntmps, ΓV, 0, [], []⟩) layF_ok mixed Tryz.func7 rfl (by kernel_rfl) rfl rfl rfl ?_
 repeat' (first | refine ex_call h2 ?_ | refine ex_call h1 ?_ | refine (ex_is _ hm) ?_ | refine qg1 ?_ | refine eD ?_ ?_ <;> intro)
 refine ex_callM (h3.toM (by kernel_rfl) (by kernel_rfl) _) ?_
 repeat' (first | refine (ex_is _ hm) ?_ | refine qg1 ?_ | refine eD ?_ ?_ <;> intro)
 exact TLe.rfl
end Go.Proofs.YtidnlfkakhmadaaGreatDoor

namespace Go.Proofs.YtidnlfkakhmadaaGreatDoor
open Go.RowKit


theorem blk_pos (gl : List UInt8) (L : List TokP) (i : Nat) (h : 0 < L.length) : 0 < (blkT gl L i).length := by
 cases L with
 | nil => exact absurd h (by decide)
 | cons u L =>
  have := (by decide : ∀ g ∈ fillL, 0 < g.length) _ (gapOf_mem gl i)
  show 0 < (u.t ++ gapOf gl i ++ blkT gl L (i + 1)).length
  rw [List.length_append, List.length_append]
  omega
set_option maxHeartbeats 8000000 in
theorem topBlanks_c (s : List UInt8) (gl : List UInt8) (hs : s.length ≤ 9223372036854775807) (hg : gl.length ≤ 9223372036854775807) :
  CallsA Tryz.prog ΓV 3 [c1 (ds (bs s)), c1 (.sl 1 (byteRows gl))] (Tb true) := by
 have hw := wakes08_c
 have hss := bsz s
 obtain ⟨a, ha⟩ : ∃ a, min s.length 1500 = a := ⟨_, rfl⟩
 have e1 := ext_take s a
 obtain ⟨S, hS⟩ : ∃ S, s.take a = S := ⟨_, rfl⟩
 have hSl : S.length ≤ 1500 := by rw [← hS, List.length_take]; omega
 rw [hS] at e1
 have m1 : (if (1500 : Int) < ((bs s).size : Nat) then (1500 : Int) else ((bs s).size : Nat)) = (a : Nat) := by split <;> omega
 have e1 : (bs s).extract (Int.toNat 0) ((a : Nat) : Int).toNat = bs S := e1
 have h1 := (lex_c S).gV
 have h2 := (Parse_c S).gV
 have hmg : (byteRows gl).length = gl.length := byteRows_len gl
 rw [← e1] at h1 h2
 rcases hl : lexV S with L | ⟨l, c, e⟩ <;> rw [hl] at h1
 ·have h1 : CallsA Tryz.prog ΓV 5 [c1 (ds ((bs s).extract (Int.toNat 0) ((a : Nat) : Int).toNat))] (.tup [c1 (.sl 5 (L.map tokD)), gD [di 0, di 0], c1 (di 0)]) := h1
  obtain ⟨hTl, hLl⟩ := blanks_len hSl hl gl
  have hLp := (lexV_ok hl).1.1
  have hlaw := blanks_law hSl hl gl
  have h3 := (Parse_c (blkT gl L 0)).gV
  have hml : (L.map tokD).length = L.length := List.length_map _
  rcases hf : fileS S with ⟨cs, rs, xs, ts⟩ | ⟨l, c, e⟩ <;> rw [hf] at h2 hlaw
  ·have h2 : CallsA Tryz.prog ΓV 6 [c1 (ds ((bs s).extract (Int.toNat 0) ((a : Nat) : Int).toNat))] (.tup [.c (.eptr (fileD cs rs xs ts)), gD [di 0, di 0], c1 (di 0)]) := h2
   have hlaw : fileS (blkT gl L 0) = .ok cs rs xs ts := hlaw
   rw [hlaw] at h3
   have h3 : CallsA Tryz.prog ΓV 6 [c1 (ds (bs (blkT gl L 0)))] (.tup [.c (.eptr (fileD cs rs xs ts)), gD [di 0, di 0], c1 (di 0)]) := h3
   obtain ⟨d, hd, rfl, rfl, rfl, rfl⟩ := reads_of hf
   have heq := hd.equal
   obtain ⟨A, B, C, D', hfd⟩ : ∃ a b c d', fileD (dC d) (dR d 0 0) (dX d 0) (dY d 0 0) = [.sl 2 a, .sl 3 b, .sl 5 c, .sl 8 d'] := ⟨_, _, _, _, rfl⟩
   rw [hfd] at h2 h3 heq
   clear hd hlaw hf
   obtain ⟨TT, hTT⟩ : ∃ T, blkT gl L 0 = T := ⟨_, rfl⟩
   have hz := hTT
   have hTp : 0 < TT.length := by rw [← hTT]; exact blk_pos gl L 0 hLp
   rw [hTT] at h3 hTl
   refine fn_rule (C := ⟨Tryz.prog, layF, Tryz.f3.ntmps, ΓV, 0, [], []⟩) layF_ok mixed Tryz.func3 rfl (by kernel_rfl) rfl rfl rfl ?_
   repeat' (first | refine ex_call h2 ?_ | refine ex_call h1 ?_ | refine ex_call hw ?_ | refine (ex_is _ hml) ?_ | refine (ex_is ((a : Nat) : Int) m1) ?_ | refine qg1 ?_ | refine eD ?_ ?_ <;> intro)
   refine ex_loop (X := Nat × CV × List UInt8) (fun ⟨q, a, m⟩ => ⟨[(1, .o (c1 (.sl 1 (byteRows gl)))), (8, .o (.c (.eptr [.sl 2 A, .sl 3 B, .sl 5 C, .sl 8 D']))), (10, .o (c1 (di 0))), (11, .o (.c (.row 2))), (12, .o (.c (.ptr 3 0))), (43, .o (c1 (.sl 5 (L.map tokD)))), (44, Ti L.length), (45, Ti q)], [(3, .obj [a, .row 4] Tbld), (4, Brow m), (2, .row 1 9 (fillL.map fun s => [ds (bs s)]))], 5⟩) (fun x => L.length - x.1)
    (fun ⟨q, a, m⟩ => q ≤ L.length ∧ ((a = .d (.v (.pointer none)) ∧ m = []) ∨ a = .ptr 3 0) ∧ m ++ blkT gl (L.drop q) q = TT) (0, .d (.v (.pointer none)), []) ⟨Nat.zero_le _, .inl ⟨rfl, rfl⟩, hz⟩ (SLe.trans sS (SLe.ownCell 3 1 4 1 Tu8 rfl rfl rfl rfl rfl rfl)) ?_
   clear h1 h2 m1 e1 hw hs ha
   rintro ⟨q, a, m⟩ ⟨hq, ha, hm⟩
   refine ex_dec (fun hh => ?_) (fun hh => ?_)
   ·have hql : q < L.length := by omega
    have hu : L[q]? = some L[q] := at_some hql
    rw [List.drop_eq_getElem_cons hql] at hm
    generalize L[q] = u at *
    have hm : m ++ (u.t ++ gapOf gl q ++ blkT gl (L.drop (q + 1)) (q + 1)) = TT := hm
    have hml2 := congrArg List.length hm
    simp only [List.length_append] at hml2
    have hw1 := (WriteString_c (.d (.v (.pointer none))) (.inl rfl) m (bs u.t) (by rw [bsz]; omega)).of0 (Γ := ΓV)
    have hw2 := (WriteString_c (.ptr 0 0) (.inr rfl) m (bs u.t) (by rw [bsz]; omega)).of0 (Γ := ΓV)
    have hw3 := (WriteString_c (.ptr 0 0) (.inr rfl) (m ++ u.t) (bs (gapOf gl q)) (by rw [bsz, List.length_append]; omega)).of0 (Γ := ΓV)
    have hd1 : (bs u.t).data.toList = u.t := rfl
    have hd2 : (bs (gapOf gl q)).data.toList = gapOf gl q := rfl
    rw [hd1] at hw1 hw2
    rw [hd2] at hw3
    have hm3 : m ++ u.t ++ gapOf gl q ++ blkT gl (L.drop (q + 1)) (q + 1) = TT := by rw [← hm]; simp
    clear hd1 hd2 hm hml2 h3 heq hz
    have hg0 : gl = [] → gapOf gl q = [32] := fun h => by unfold gapOf; rw [if_pos h]
    have hg1 : gl ≠ [] → ∃ (j : Nat) (x : UInt8), q % gl.length = j ∧ gl[j]? = some x ∧ gapOf gl q = fillL.getD (x.toNat % 8) [32] := fun h => by
     have hj : q % gl.length < gl.length := Nat.mod_lt _ (List.length_pos_iff.2 h)
     refine ⟨_, gl[q % gl.length], rfl, at_some hj, ?_⟩
     unfold gapOf
     have e : gl.getD (q % gl.length) 0 = gl[q % gl.length] := by rw [List.getD_eq_getElem?_getD, at_some hj]; rfl
     rw [if_neg h, e]
    have hround : q + 1 ≤ L.length := by omega
    generalize gapOf gl q = gp at *
    by_cases hgl : gl = []
    ·have hgp := hg0 hgl
     have hgl0 : gl.length = 0 := by rw [hgl]; rfl
     subst hgp
     clear hg0 hg1
     rcases ha with ⟨rfl, -⟩ | rfl
     ·repeat' (first | refine (ex_is _ hmg) ?_ | refine (ex_rowF q _ [di u.k, ds (bs u.t), du u.n, di u.l, di u.c] rfl hu rfl) ?_ | refine (ex_is _ hml) ?_ | refine qg1 ?_ | refine eD ?_ ?_ <;> intro)
      refine sC (CallsM.ren (hw1) [3, 4] 6 rfl rfl rfl rfl) ?_
      repeat' (first | refine (ex_is _ hmg) ?_ | refine qg1 ?_ | refine eD ?_ ?_ <;> intro)
      refine sC (CallsM.ren (hw3) [3, 6] 7 rfl rfl rfl rfl) ?_
      repeat' (first | refine aI ((q + 1 : Nat) : Int) ?_ | refine aU ((q + 1 : Nat) : Int) ?_ | refine aB ((q + 1 : Nat) : Int) ?_ | refine qg1 ?_ | refine eD ?_ ?_ <;> intro)
      exact ex_round (q + 1, CV.ptr 3 0, m ++ u.t ++ [32]) ⟨hround, .inr rfl, hm3⟩ (by show _ - _ < _ - _; omega) (sR [(1, 1), (2, 2), (3, 3), (7, 4)])
     ·repeat' (first | refine (ex_is _ hmg) ?_ | refine (ex_rowF q _ [di u.k, ds (bs u.t), du u.n, di u.l, di u.c] rfl hu rfl) ?_ | refine (ex_is _ hml) ?_ | refine qg1 ?_ | refine eD ?_ ?_ <;> intro)
      refine sC (CallsM.ren (hw2) [3, 4] 6 rfl rfl rfl rfl) ?_
      repeat' (first | refine (ex_is _ hmg) ?_ | refine qg1 ?_ | refine eD ?_ ?_ <;> intro)
      refine sC (CallsM.ren (hw3) [3, 6] 7 rfl rfl rfl rfl) ?_
      repeat' (first | refine aI ((q + 1 : Nat) : Int) ?_ | refine aU ((q + 1 : Nat) : Int) ?_ | refine aB ((q + 1 : Nat) : Int) ?_ | refine qg1 ?_ | refine eD ?_ ?_ <;> intro)
      exact ex_round (q + 1, CV.ptr 3 0, m ++ u.t ++ [32]) ⟨hround, .inr rfl, hm3⟩ (by show _ - _ < _ - _; omega) (sR [(1, 1), (2, 2), (3, 3), (7, 4)])
    ·obtain ⟨j, x, hj, hx, hgp⟩ := hg1 hgl
     clear hg0 hg1
     have hgl0 : 0 < gl.length := List.length_pos_iff.2 hgl
     have r1 : ((q : Nat) : Int).tmod ((gl.length : Nat) : Int) = ((j : Nat) : Int) := by rw [Int.tmod_eq_emod_of_nonneg (by omega), ← hj]; rfl
     have hk8 : x.toNat % 8 < 8 := Nat.mod_lt _ (by decide)
     have r2 : ((x.toNat : Nat) : Int).tmod 8 = ((x.toNat % 8 : Nat) : Int) := by rw [Int.tmod_eq_emod_of_nonneg (by omega)]; rfl
     have hfk : fillL[x.toNat % 8]? = some gp := by
      rw [hgp, List.getD_eq_getElem?_getD]
      have : x.toNat % 8 < fillL.length := hk8
      rw [List.getElem?_eq_getElem this]; rfl
     generalize x.toNat % 8 = k8 at *
     have hkl : ((k8 : Nat) : Int).toNat < (fillL.map fun s => [ds (bs s)]).length := hk8
     rcases ha with ⟨rfl, -⟩ | rfl
     ·repeat' (first | refine (ex_is _ hmg) ?_ | refine (ex_rowF q _ [di u.k, ds (bs u.t), du u.n, di u.l, di u.c] rfl hu rfl) ?_ | refine (ex_is _ hml) ?_ | refine qg1 ?_ | refine eD ?_ ?_ <;> intro)
      refine sC (CallsM.ren (hw1) [3, 4] 6 rfl rfl rfl rfl) ?_
      repeat' (first | refine (ex_at k8 gp hfk) ?_ | refine (and_mk hkl) ?_ | refine (ex_is _ r2) ?_ | refine (ex_byte j x rfl hx) ?_ | refine (ex_is _ r1) ?_ | refine (ex_is _ hmg) ?_ | refine qg1 ?_ | refine eD ?_ ?_ <;> intro)
      refine sC (CallsM.ren (hw3) [3, 6] 7 rfl rfl rfl rfl) ?_
      repeat' (first | refine aI ((q + 1 : Nat) : Int) ?_ | refine aU ((q + 1 : Nat) : Int) ?_ | refine aB ((q + 1 : Nat) : Int) ?_ | refine qg1 ?_ | refine eD ?_ ?_ <;> intro)
      exact ex_round (q + 1, CV.ptr 3 0, m ++ u.t ++ gp) ⟨hround, .inr rfl, hm3⟩ (by show _ - _ < _ - _; omega) (sR [(1, 1), (2, 2), (3, 3), (7, 4)])
     ·repeat' (first | refine (ex_is _ hmg) ?_ | refine (ex_rowF q _ [di u.k, ds (bs u.t), du u.n, di u.l, di u.c] rfl hu rfl) ?_ | refine (ex_is _ hml) ?_ | refine qg1 ?_ | refine eD ?_ ?_ <;> intro)
      refine sC (CallsM.ren (hw2) [3, 4] 6 rfl rfl rfl rfl) ?_
      repeat' (first | refine (ex_at k8 gp hfk) ?_ | refine (and_mk hkl) ?_ | refine (ex_is _ r2) ?_ | refine (ex_byte j x rfl hx) ?_ | refine (ex_is _ r1) ?_ | refine (ex_is _ hmg) ?_ | refine qg1 ?_ | refine eD ?_ ?_ <;> intro)
      refine sC (CallsM.ren (hw3) [3, 6] 7 rfl rfl rfl rfl) ?_
      repeat' (first | refine aI ((q + 1 : Nat) : Int) ?_ | refine aU ((q + 1 : Nat) : Int) ?_ | refine aB ((q + 1 : Nat) : Int) ?_ | refine qg1 ?_ | refine eD ?_ ?_ <;> intro)
      exact ex_round (q + 1, CV.ptr 3 0, m ++ u.t ++ gp) ⟨hround, .inr rfl, hm3⟩ (by show _ - _ < _ - _; omega) (sR [(1, 1), (2, 2), (3, 3), (7, 4)])
   ·obtain rfl : q = L.length := by omega
    rw [List.drop_length] at hm
    have hm : m ++ [] = TT := hm
    rw [List.append_nil] at hm
    subst hm
    have hmne : m ≠ [] := fun e => by rw [e] at hTp; exact absurd hTp (by decide)
    rcases ha with ⟨-, rfl⟩ | rfl
    ·exact absurd rfl hmne
    ·repeat' (first | refine qgs ?_ | refine eD ?_ ?_ <;> intro)
     refine sC (CallsM.ren (((String_c m hmne).of0 (Γ := ΓV))) [3, 4] 5 rfl rfl rfl rfl) ?_
     repeat' (first | refine ex_call h3 ?_ | refine (ex_agg (by kernel_rfl) true (eqPosT _ _)) ?_ | refine qg1 ?_ | refine eD ?_ ?_ <;> intro)
     refine ex_callM (heq.toM (by kernel_rfl) (by kernel_rfl) _) ?_
     repeat' (first | refine qgs ?_ | refine eD ?_ ?_ <;> intro)
     exact TLe.rfl
  ·have h2 : CallsA Tryz.prog ΓV 6 [c1 (ds ((bs s).extract (Int.toNat 0) ((a : Nat) : Int).toNat))] (.tup [c1 dnp, gD [di l, di c], c1 (di e)]) := h2
   obtain ⟨l', c', hlaw⟩ := hlaw
   rw [hlaw] at h3
   have h3 : CallsA Tryz.prog ΓV 6 [c1 (ds (bs (blkT gl L 0)))] (.tup [c1 dnp, gD [di l', di c'], c1 (di e)]) := h3
   have heq := equal_nil
   clear hlaw hf
   obtain ⟨TT, hTT⟩ : ∃ T, blkT gl L 0 = T := ⟨_, rfl⟩
   have hz := hTT
   have hTp : 0 < TT.length := by rw [← hTT]; exact blk_pos gl L 0 hLp
   rw [hTT] at h3 hTl
   refine fn_rule (C := ⟨Tryz.prog, layF, Tryz.f3.ntmps, ΓV, 0, [], []⟩) layF_ok mixed Tryz.func3 rfl (by kernel_rfl) rfl rfl rfl ?_
   repeat' (first | refine ex_call h2 ?_ | refine ex_call h1 ?_ | refine ex_call hw ?_ | refine (ex_is _ hml) ?_ | refine (ex_is ((a : Nat) : Int) m1) ?_ | refine qg1 ?_ | refine eD ?_ ?_ <;> intro)
   refine ex_loop (X := Nat × CV × List UInt8) (fun ⟨q, a, m⟩ => ⟨[(1, .o (c1 (.sl 1 (byteRows gl)))), (8, .o (c1 dnp)), (10, .o (c1 (di e))), (11, .o (.c (.row 2))), (12, .o (.c (.ptr 3 0))), (43, .o (c1 (.sl 5 (L.map tokD)))), (44, Ti L.length), (45, Ti q)], [(3, .obj [a, .row 4] Tbld), (4, Brow m), (2, .row 1 9 (fillL.map fun s => [ds (bs s)]))], 5⟩) (fun x => L.length - x.1)
    (fun ⟨q, a, m⟩ => q ≤ L.length ∧ ((a = .d (.v (.pointer none)) ∧ m = []) ∨ a = .ptr 3 0) ∧ m ++ blkT gl (L.drop q) q = TT) (0, .d (.v (.pointer none)), []) ⟨Nat.zero_le _, .inl ⟨rfl, rfl⟩, hz⟩ (SLe.trans sS (SLe.ownCell 3 1 4 1 Tu8 rfl rfl rfl rfl rfl rfl)) ?_
   clear h1 h2 m1 e1 hw hs ha
   rintro ⟨q, a, m⟩ ⟨hq, ha, hm⟩
   refine ex_dec (fun hh => ?_) (fun hh => ?_)
   ·have hql : q < L.length := by omega
    have hu : L[q]? = some L[q] := at_some hql
    rw [List.drop_eq_getElem_cons hql] at hm
    generalize L[q] = u at *
    have hm : m ++ (u.t ++ gapOf gl q ++ blkT gl (L.drop (q + 1)) (q + 1)) = TT := hm
    have hml2 := congrArg List.length hm
    simp only [List.length_append] at hml2
    have hw1 := (WriteString_c (.d (.v (.pointer none))) (.inl rfl) m (bs u.t) (by rw [bsz]; omega)).of0 (Γ := ΓV)
    have hw2 := (WriteString_c (.ptr 0 0) (.inr rfl) m (bs u.t) (by rw [bsz]; omega)).of0 (Γ := ΓV)
    have hw3 := (WriteString_c (.ptr 0 0) (.inr rfl) (m ++ u.t) (bs (gapOf gl q)) (by rw [bsz, List.length_append]; omega)).of0 (Γ := ΓV)
    have hd1 : (bs u.t).data.toList = u.t := rfl
    have hd2 : (bs (gapOf gl q)).data.toList = gapOf gl q := rfl
    rw [hd1] at hw1 hw2
    rw [hd2] at hw3
    have hm3 : m ++ u.t ++ gapOf gl q ++ blkT gl (L.drop (q + 1)) (q + 1) = TT := by rw [← hm]; simp
    clear hd1 hd2 hm hml2 h3 heq hz
    have hg0 : gl = [] → gapOf gl q = [32] := fun h => by unfold gapOf; rw [if_pos h]
    have hg1 : gl ≠ [] → ∃ (j : Nat) (x : UInt8), q % gl.length = j ∧ gl[j]? = some x ∧ gapOf gl q = fillL.getD (x.toNat % 8) [32] := fun h => by
     have hj : q % gl.length < gl.length := Nat.mod_lt _ (List.length_pos_iff.2 h)
     refine ⟨_, gl[q % gl.length], rfl, at_some hj, ?_⟩
     unfold gapOf
     have e : gl.getD (q % gl.length) 0 = gl[q % gl.length] := by rw [List.getD_eq_getElem?_getD, at_some hj]; rfl
     rw [if_neg h, e]
    have hround : q + 1 ≤ L.length := by omega
    generalize gapOf gl q = gp at *
    by_cases hgl : gl = []
    ·have hgp := hg0 hgl
     have hgl0 : gl.length = 0 := by rw [hgl]; rfl
     subst hgp
     clear hg0 hg1
     rcases ha with ⟨rfl, -⟩ | rfl
     ·repeat' (first | refine (ex_is _ hmg) ?_ | refine (ex_rowF q _ [di u.k, ds (bs u.t), du u.n, di u.l, di u.c] rfl hu rfl) ?_ | refine (ex_is _ hml) ?_ | refine qg1 ?_ | refine eD ?_ ?_ <;> intro)
      refine sC (CallsM.ren (hw1) [3, 4] 6 rfl rfl rfl rfl) ?_
      repeat' (first | refine (ex_is _ hmg) ?_ | refine qg1 ?_ | refine eD ?_ ?_ <;> intro)
      refine sC (CallsM.ren (hw3) [3, 6] 7 rfl rfl rfl rfl) ?_
      repeat' (first | refine aI ((q + 1 : Nat) : Int) ?_ | refine aU ((q + 1 : Nat) : Int) ?_ | refine aB ((q + 1 : Nat) : Int) ?_ | refine qg1 ?_ | refine eD ?_ ?_ <;> intro)
      exact ex_round (q + 1, CV.ptr 3 0, m ++ u.t ++ [32]) ⟨hround, .inr rfl, hm3⟩ (by show _ - _ < _ - _; omega) (sR [(1, 1), (2, 2), (3, 3), (7, 4)])
     ·repeat' (first | refine (ex_is _ hmg) ?_ | refine (ex_rowF q _ [di u.k, ds (bs u.t), du u.n, di u.l, di u.c] rfl hu rfl) ?_ | refine (ex_is _ hml) ?_ | refine qg1 ?_ | refine eD ?_ ?_ <;> intro)
      refine sC (CallsM.ren (hw2) [3, 4] 6 rfl rfl rfl rfl) ?_
      repeat' (first | refine (ex_is _ hmg) ?_ | refine qg1 ?_ | refine eD ?_ ?_ <;> intro)
      refine sC (CallsM.ren (hw3) [3, 6] 7 rfl rfl rfl rfl) ?_
      repeat' (first | refine aI ((q + 1 : Nat) : Int) ?_ | refine aU ((q + 1 : Nat) : Int) ?_ | refine aB ((q + 1 : Nat) : Int) ?_ | refine qg1 ?_ | refine eD ?_ ?_ <;> intro)
      exact ex_round (q + 1, CV.ptr 3 0, m ++ u.t ++ [32]) ⟨hround, .inr rfl, hm3⟩ (by show _ - _ < _ - _; omega) (sR [(1, 1), (2, 2), (3, 3), (7, 4)])
    ·obtain ⟨j, x, hj, hx, hgp⟩ := hg1 hgl
     clear hg0 hg1
     have hgl0 : 0 < gl.length := List.length_pos_iff.2 hgl
     have r1 : ((q : Nat) : Int).tmod ((gl.length : Nat) : Int) = ((j : Nat) : Int) := by rw [Int.tmod_eq_emod_of_nonneg (by omega), ← hj]; rfl
     have hk8 : x.toNat % 8 < 8 := Nat.mod_lt _ (by decide)
     have r2 : ((x.toNat : Nat) : Int).tmod 8 = ((x.toNat % 8 : Nat) : Int) := by rw [Int.tmod_eq_emod_of_nonneg (by omega)]; rfl
     have hfk : fillL[x.toNat % 8]? = some gp := by
      rw [hgp, List.getD_eq_getElem?_getD]
      have : x.toNat % 8 < fillL.length := hk8
      rw [List.getElem?_eq_getElem this]; rfl
     generalize x.toNat % 8 = k8 at *
     have hkl : ((k8 : Nat) : Int).toNat < (fillL.map fun s => [ds (bs s)]).length := hk8
     rcases ha with ⟨rfl, -⟩ | rfl
     ·repeat' (first | refine (ex_is _ hmg) ?_ | refine (ex_rowF q _ [di u.k, ds (bs u.t), du u.n, di u.l, di u.c] rfl hu rfl) ?_ | refine (ex_is _ hml) ?_ | refine qg1 ?_ | refine eD ?_ ?_ <;> intro)
      refine sC (CallsM.ren (hw1) [3, 4] 6 rfl rfl rfl rfl) ?_
      repeat' (first | refine (ex_at k8 gp hfk) ?_ | refine (and_mk hkl) ?_ | refine (ex_is _ r2) ?_ | refine (ex_byte j x rfl hx) ?_ | refine (ex_is _ r1) ?_ | refine (ex_is _ hmg) ?_ | refine qg1 ?_ | refine eD ?_ ?_ <;> intro)
      refine sC (CallsM.ren (hw3) [3, 6] 7 rfl rfl rfl rfl) ?_
      repeat' (first | refine aI ((q + 1 : Nat) : Int) ?_ | refine aU ((q + 1 : Nat) : Int) ?_ | refine aB ((q + 1 : Nat) : Int) ?_ | refine qg1 ?_ | refine eD ?_ ?_ <;> intro)
      exact ex_round (q + 1, CV.ptr 3 0, m ++ u.t ++ gp) ⟨hround, .inr rfl, hm3⟩ (by show _ - _ < _ - _; omega) (sR [(1, 1), (2, 2), (3, 3), (7, 4)])
     ·repeat' (first | refine (ex_is _ hmg) ?_ | refine (ex_rowF q _ [di u.k, ds (bs u.t), du u.n, di u.l, di u.c] rfl hu rfl) ?_ | refine (ex_is _ hml) ?_ | refine qg1 ?_ | refine eD ?_ ?_ <;> intro)
      refine sC (CallsM.ren (hw2) [3, 4] 6 rfl rfl rfl rfl) ?_
      repeat' (first | refine (ex_at k8 gp hfk) ?_ | refine (and_mk hkl) ?_ | refine (ex_is _ r2) ?_ | refine (ex_byte j x rfl hx) ?_ | refine (ex_is _ r1) ?_ | refine (ex_is _ hmg) ?_ | refine qg1 ?_ | refine eD ?_ ?_ <;> intro)
      refine sC (CallsM.ren (hw3) [3, 6] 7 rfl rfl rfl rfl) ?_
      repeat' (first | refine aI ((q + 1 : Nat) : Int) ?_ | refine aU ((q + 1 : Nat) : Int) ?_ | refine aB ((q + 1 : Nat) : Int) ?_ | refine qg1 ?_ | refine eD ?_ ?_ <;> intro)
      exact ex_round (q + 1, CV.ptr 3 0, m ++ u.t ++ gp) ⟨hround, .inr rfl, hm3⟩ (by show _ - _ < _ - _; omega) (sR [(1, 1), (2, 2), (3, 3), (7, 4)])
   ·obtain rfl : q = L.length := by omega
    rw [List.drop_length] at hm
    have hm : m ++ [] = TT := hm
    rw [List.append_nil] at hm
    subst hm
    have hmne : m ≠ [] := fun e => by rw [e] at hTp; exact absurd hTp (by decide)
    rcases ha with ⟨-, rfl⟩ | rfl
    ·exact absurd rfl hmne
    ·repeat' (first | refine qgs ?_ | refine eD ?_ ?_ <;> intro)
     refine sC (CallsM.ren (((String_c m hmne).of0 (Γ := ΓV))) [3, 4] 5 rfl rfl rfl rfl) ?_
     repeat' (first | refine ex_call h3 ?_ | refine (ex_agg (by kernel_rfl) true (eqPosT _ _)) ?_ | refine qg1 ?_ | refine eD ?_ ?_ <;> intro)
     repeat' (first | refine ex_call heq ?_ | refine qg1 ?_ | refine eD ?_ ?_ <;> intro)
     exact TLe.rfl
 ·have hf : fileS S = .err l c e := by unfold fileS; rw [hl]; rfl
  rw [hf] at h2
  have he := lexV_err hl
  have h1 : CallsA Tryz.prog ΓV 5 [c1 (ds ((bs s).extract (Int.toNat 0) ((a : Nat) : Int).toNat))] (.tup [c1 (.sl 5 []), gD [di l, di c], c1 (di e)]) := h1
  have h2 : CallsA Tryz.prog ΓV 6 [c1 (ds ((bs s).extract (Int.toNat 0) ((a : Nat) : Int).toNat))] (.tup [c1 dnp, gD [di l, di c], c1 (di e)]) := h2
  refine fn_rule (C := ⟨Tryz.prog, layF, Tryz.f3.ntmps, ΓV, 0, [], []⟩) layF_ok mixed Tryz.func3 rfl (by kernel_rfl) rfl rfl rfl ?_
  repeat' (first | refine ex_call h2 ?_ | refine ex_call h1 ?_ | refine ex_call hw ?_ | refine (ex_is ((a : Nat) : Int) m1) ?_ | refine qg1 ?_ | refine eD ?_ ?_ <;> intro)
  exact TLe.rfl
end Go.Proofs.YtidnlfkakhmadaaGreatDoor

namespace Go.Proofs.YtidnlfkakhmadaaGreatDoor
open Go.ChangeShapes Go.WideShapes Go.ChangeAt Go.RowKit

def tilesF (P : Program) : Nat → List Field → Nat → Bool
 | o, [], n => Nat.beq o n
 | o, f :: fs, n => Nat.beq f.offset o && tilesF P (o + P.cellsOf f.type) fs n
def okT (P : Program) : Nat → TypeId → Bool
 | 0, _ => false
 | d + 1, t => match P.underlying t with
  | some .bool | some (.int _) | some .string => true
  | some (.slice e) => Nat.blt 0 (P.cellsOf e) && okT P d e
  | some (.array n e) => Nat.beq (n * P.cellsOf e) (P.cellsOf t) && okT P d e
  | some (.struct fs) => tilesF P 0 fs.toList (P.cellsOf t) && fs.toList.all fun f => okT P d f.type
  | _ => false
def DT (P : Program) : Nat → TypeId → List D → Prop
 | 0, _, _ => False
 | d + 1, t, ds => match P.underlying t with
  | some .bool => ∃ b, ds = [.v (.bool b)]
  | some (.int k) => ∃ z, ds = [.v (.int k z)] ∧ (Lit.int k z).wf = true
  | some .string => ∃ s, ds = [.v (.string s)] ∧ s.size ≤ maxLen
  | some (.slice e) => ∃ rows, ds = [.sl (P.cellsOf e) rows] ∧ rows.length ≤ maxLen ∧ ∀ r ∈ rows, DT P d e r
  | some (.array n e) => ∃ ps : List (List D), ps.length = n ∧ ds = ps.flatten ∧ ∀ p ∈ ps, DT P d e p
  | some (.struct fs) => ∃ ps : List (List D), ds = ps.flatten ∧ All2 (fun (f : Field) p => DT P d f.type p) fs.toList ps
  | _ => False
theorem choose_list {α : Type} {Q : Nat → α → Prop} : ∀ {n : Nat}, (∀ i, i < n → ∃ a, Q i a) → ∃ L : List α, L.length = n ∧ ∀ i a, L[i]? = some a → Q i a
 | 0, _ => ⟨[], rfl, fun i a h => by simp at h⟩
 | n + 1, h => by
  obtain ⟨L, h1, h2⟩ := choose_list (n := n) (fun i hi => h i (by omega))
  obtain ⟨a, ha⟩ := h n (by omega)
  refine ⟨L ++ [a], by simp [h1], fun i b hb => ?_⟩
  rw [List.getElem?_append] at hb
  split at hb
  ·exact h2 i b hb
  ·rename_i hlt
   have hi : i - L.length = 0 := by
    rcases Nat.eq_zero_or_pos (i - L.length) with h | h
    ·exact h
    ·rw [List.getElem?_eq_none (by simp; omega)] at hb; cases hb
   rw [hi] at hb
   simp at hb
   obtain rfl : i = n := by omega
   rw [← hb]; exact ha
theorem flatten_at {α : Type} {size : Nat} (h0 : 0 < size) : ∀ {rows : List (List α)} (_ : ∀ r ∈ rows, r.length = size) {j : Nat} {d : α}, rows.flatten[j]? = some d → ∃ r, rows[j / size]? = some r ∧ r[j % size]? = some d
 | [], _, j, d, h => by simp at h
 | a :: rows, hr, j, d, h => by
  have ha := hr a (by simp)
  by_cases hj : j < size
  ·rw [List.flatten_cons, List.getElem?_append_left (by omega)] at h
   rw [Nat.div_eq_of_lt hj, Nat.mod_eq_of_lt hj]
   exact ⟨a, rfl, h⟩
  ·rw [List.flatten_cons, List.getElem?_append_right (by omega), ha] at h
   obtain ⟨r, h1, h2⟩ := flatten_at h0 (fun r hr' => hr r (by simp [hr'])) h
   refine ⟨r, ?_, ?_⟩
   ·rw [show j / size = (j - size) / size + 1 by rw [Nat.div_eq_sub_div h0 (by omega)]]
    simpa using h1
   ·rw [Nat.mod_eq_sub_mod (by omega)]; exact h2
def Sall (w : World) : Nat → Prop := fun b => b < w.heap.size
theorem cell_lt {w : World} {a : Addr} {u : Value} (h : w.cell? a = some u) : a.block < w.heap.size ∧ a.spot = none := by
 unfold World.cell? at h
 split at h
 ·rename_i c t f hc
  refine ⟨(Array.getElem?_eq_some_iff.1 hc).1, ?_⟩
  split at h
  ·cases h
  ·rename_i hs
   cases hsp : a.spot with
   | none => rfl
   | some k => rw [hsp] at hs; simp at hs
 ·cases h
theorem cells_get {w : World} {base : Nat} {a : Addr} {n : Nat} {cs : List Value} (h : w.cells? base a n = some cs) : cs.length = n ∧ ∀ i, i < n → w.cell? (a.add i) = cs[i]? := by
 unfold World.cells? at h
 split at h
 ·obtain ⟨h1, h2⟩ := mapM_isSome h
  rw [List.length_range] at h1
  refine ⟨h1.symm, fun i hi => ?_⟩
  obtain ⟨b, hb1, hb2⟩ := h2 i i (by simp [hi])
  rw [hb1, hb2]
 ·cases h
section
variable {H : Type} {enc : TypeId × Value → H} {P : Program} {w : World} {base : Nat} {sp : Nat → Bool} {held : Bool}
theorem parts_all {R : D → Value → Prop} {T : Field → List D → Prop} : ∀ (fs : List Field) (o : Nat) (cs : List Value) (n : Nat), cs.length = n → tilesF P o fs n = true → o ≤ n →
  (∀ f ∈ fs, ∃ ds, T f ds ∧ All2 R ds ((cs.drop f.offset).take (P.cellsOf f.type))) → ∃ ps : List (List D), All2 T fs ps ∧ All2 R ps.flatten (cs.drop o)
 | [], o, cs, n, hl, ht, _, _ => by
  have : o = n := Nat.eq_of_beq_eq_true ht
  exact ⟨[], .nil, by rw [List.drop_of_length_le (by omega)]; exact .nil⟩
 | f :: fs, o, cs, n, hl, ht, ho, h => by
  simp only [tilesF, Bool.and_eq_true] at ht
  have ho' : f.offset = o := Nat.eq_of_beq_eq_true ht.1
  obtain ⟨ds, h1, h2⟩ := h f (by simp)
  have hle : o + P.cellsOf f.type ≤ n := by
   have key : ∀ (fs : List Field) (o : Nat), tilesF P o fs n = true → o ≤ n := fun fs => by
    induction fs with
    | nil => intro o h; exact Nat.le_of_eq (Nat.eq_of_beq_eq_true h)
    | cons g gs ih =>
     intro o h
     simp only [tilesF, Bool.and_eq_true] at h
     have := ih _ h.2
     omega
   exact key fs _ ht.2
  obtain ⟨ps, h3, h4⟩ := parts_all fs _ cs n hl ht.2 hle (fun g hg => h g (by simp [hg]))
  refine ⟨ds :: ps, .cons h1 h3, ?_⟩
  rw [List.flatten_cons, ho'] at *
  have := h2.append h4
  rwa [← List.drop_drop, List.take_append_drop] at this
theorem trod_dt : ∀ (d fuel : Nat) (t : TypeId) (cs : List Value) (x : DataW H × List MemPlace), okT P d t = true → DataW.trod enc P w base sp held fuel t cs = some x → ∃ ds, DT P d t ds ∧ All2 (Imm (Sall w) w) ds cs
 | 0, _, _, _, _, h, _ => by cases h
 | d + 1, fuel, t, cs, x, hok, h => by
  unfold okT at hok
  unfold DT
  split at hok
  ·rename_i hu
   obtain ⟨b, rfl, _⟩ := DataW.trod_bool hu h
   exact ⟨_, ⟨b, rfl⟩, .cons (Imm.v rfl) .nil⟩
  ·rename_i k hu
   obtain ⟨n, rfl, _, hw⟩ := DataW.trod_int hu h
   exact ⟨_, ⟨n, rfl, hw⟩, .cons (Imm.v rfl) .nil⟩
  ·rename_i hu
   obtain ⟨s, rfl, _, hs⟩ := DataW.trod_string hu h
   exact ⟨_, ⟨s, rfl, hs⟩, .cons (Imm.v rfl) .nil⟩
  ·rename_i e hu
   simp only [Bool.and_eq_true] at hok
   have h0 : 0 < P.cellsOf e := Nat.lt_of_succ_le (Nat.le_of_ble_eq_true hok.1)
   rcases DataW.trod_slice hu h with ⟨rfl, _⟩ | ⟨a, len, cap, elems, rest, n, _, rfl, _, _, hlc, hcm, hel, hel2, _⟩
   ·exact ⟨_, ⟨[], rfl, by simp, by simp⟩, .cons Imm.nil .nil⟩
   ·have hone : ∀ i, i < len → ∃ ds, DT P d e ds ∧ ∃ cs', w.cells? base (a.add (i * P.cellsOf e)) (P.cellsOf e) = some cs' ∧ All2 (Imm (Sall w) w) ds cs' := fun i hi => by
     have h1 := hel2 i hi
     rw [List.getElem?_eq_getElem (by omega)] at h1
     obtain ⟨cs', h2, h3⟩ := Option.bind_eq_some_iff.1 h1
     obtain ⟨ds, h4, h5⟩ := trod_dt d n e cs' _ hok.2 h3
     exact ⟨ds, h4, cs', h2, h5⟩
    obtain ⟨rows, hr1, hr2⟩ := choose_list hone
    have hrm : ∀ r ∈ rows, ∃ i, i < len ∧ rows[i]? = some r := fun r hr => by
     obtain ⟨i, hi⟩ := List.getElem?_of_mem hr
     exact ⟨i, by have := (List.getElem?_eq_some_iff.1 hi).1; omega, hi⟩
    have hdt : ∀ r ∈ rows, DT P d e r := fun r hr => by
     obtain ⟨i, _, hi⟩ := hrm r hr
     exact (hr2 i r hi).1
    have hrl : ∀ r ∈ rows, r.length = P.cellsOf e := fun r hr => by
     obtain ⟨i, _, hi⟩ := hrm r hr
     obtain ⟨_, cs', h2, h3⟩ := hr2 i r hi
     rw [h3.len, (cells_get h2).1]
    refine ⟨_, ⟨rows, rfl, by omega, hdt⟩, .cons ?_ .nil⟩
    by_cases hz : len = 0
    ·subst hz
     obtain rfl := List.eq_nil_of_length_eq_zero hr1
     exact Imm.sl0
    ·obtain ⟨r0, _, cs0, h2, _⟩ := hone 0 (by omega)
     have h3 := (cells_get h2).2 0 h0
     rw [Nat.zero_mul] at h3
     have e0 : (a.add 0).add 0 = a := rfl
     rw [e0, List.getElem?_eq_getElem (by rw [(cells_get h2).1]; exact h0)] at h3
     obtain ⟨hb, hs⟩ := cell_lt h3
     obtain ⟨g, f, spot⟩ := a
     simp only at hs hb
     subst hs
     rw [← hr1]
     have hat : ∀ j dd, rows.flatten[j]? = some dd → ∃ u, w.cell? ⟨g, f + j, none⟩ = some u ∧ Imm (Sall w) w dd u := fun j dd hj => by
      obtain ⟨r, e1, e2⟩ := flatten_at h0 hrl hj
      obtain ⟨_, cs', e3, e4⟩ := hr2 _ r e1
      obtain ⟨u, e5, e6⟩ := e4.at_left e2
      refine ⟨u, ?_, e6⟩
      have e7 := (cells_get e3).2 (j % P.cellsOf e) (Nat.mod_lt _ h0)
      rw [Addr.add_lit, Addr.add_lit, e5] at e7
      rw [← e7]
      congr 2
      rw [Nat.add_assoc, Nat.mul_comm, Nat.div_add_mod]
     refine Imm.sl (fun j => (w.cell? ⟨g, f + j, none⟩).getD undef) hb (by omega) hrl (fun j dd hj => ?_) (fun j dd hj => ?_)
     ·obtain ⟨u, e1, _⟩ := hat j dd hj
      rw [e1]; rfl
     ·obtain ⟨u, e1, e2⟩ := hat j dd hj
      rw [e1]; exact e2
  ·rename_i n e hu
   simp only [Bool.and_eq_true] at hok
   have hn : n * P.cellsOf e = P.cellsOf t := Nat.eq_of_beq_eq_true hok.1
   obtain ⟨xs, m, _, _, hl, hx, hall⟩ := DataW.trod_array hu h
   have hone : ∀ i, i < n → ∃ ds, DT P d e ds ∧ All2 (Imm (Sall w) w) ds ((cs.drop (i * P.cellsOf e)).take (P.cellsOf e)) := fun i hi => by
    have h1 := hall i hi
    rw [List.getElem?_eq_getElem (by omega)] at h1
    exact trod_dt d m e _ _ hok.2 h1
   obtain ⟨ps, hp1, hp2⟩ := choose_list hone
   refine ⟨ps.flatten, ⟨ps, hp1, rfl, fun p hp => ?_⟩, ?_⟩
   ·obtain ⟨i, hi⟩ := List.getElem?_of_mem hp
    exact (hp2 i p hi).1
   ·have key : ∀ (ps : List (List D)) (o : Nat), (∀ i p, ps[i]? = some p → All2 (Imm (Sall w) w) p ((cs.drop ((o + i) * P.cellsOf e)).take (P.cellsOf e))) → (o + ps.length) * P.cellsOf e = cs.length → All2 (Imm (Sall w) w) ps.flatten (cs.drop (o * P.cellsOf e)) := fun ps => by
     induction ps with
     | nil => intro o _ hlen; rw [List.drop_of_length_le (by simp at hlen; omega)]; exact .nil
     | cons p ps ih =>
      intro o hp hlen
      have h1 := hp 0 p rfl
      have h2 := ih (o + 1) (fun i q hq => by have := hp (i + 1) q (by simpa using hq); rwa [show o + 1 + i = o + (i + 1) by omega]) (by rw [← hlen, List.length_cons]; congr 1; omega)
      rw [List.flatten_cons]
      have := h1.append h2
      rwa [Nat.add_zero, Nat.add_mul, Nat.one_mul, ← List.drop_drop, List.take_append_drop] at this
    have := key ps 0 (fun i p hi => by rw [Nat.zero_add]; exact (hp2 i p hi).2) (by rw [Nat.zero_add, hp1, hn, hl])
    simpa using this
  ·rename_i fs hu
   simp only [Bool.and_eq_true] at hok
   obtain ⟨xs, m, _, _, hl, hx, hall⟩ := DataW.trod_struct hu h
   obtain ⟨ps, h1, h2⟩ := parts_all (R := Imm (Sall w) w) (T := fun f p => DT P d f.type p) fs.toList 0 cs _ hl hok.1 (Nat.zero_le _) (fun f hf => by
    obtain ⟨i, hi⟩ := List.getElem?_of_mem hf
    have hlt := (List.getElem?_eq_some_iff.1 hi).1
    have h1 := hall i f (by simpa using hi)
    rw [List.getElem?_eq_getElem (by simp at hlt; omega)] at h1
    exact trod_dt d m f.type _ _ (List.all_eq_true.1 hok.2 f hf) h1)
   exact ⟨ps.flatten, ⟨ps, rfl, h1⟩, by simpa using h2⟩
  ·cases hok
theorem open_dt {d : Nat} {r : Reach} {b0 : Nat} {t : TypeId} {v : Value} {dd : DataW H} {ps : List MemPlace} (hok : okT P d t = true) (hag : (P.underlying t).map aggD = some false) (hval : Value.okWide P w r b0 t v) (hd : DataW.Trod enc P w base sp held t v dd ps) :
  ∃ x, DT P d t [x] ∧ Imm (Sall w) w x v := by
 obtain ⟨fuel, hf⟩ := hd
 obtain ⟨ds, h1, h2⟩ := trod_dt d fuel t _ _ hok hf
 have hone : v.oneCell' = true := by
  cases d with
  | zero => cases hok
  | succ d =>
   unfold okT at hok
   split at hok
   ·rename_i hu; obtain ⟨b, rfl⟩ := okWide_bool hu hval; rfl
   ·rename_i hu; obtain ⟨n, rfl⟩ := okWide_int hu hval; rfl
   ·rename_i hu; obtain ⟨s, rfl⟩ := okWide_string hu hval; rfl
   ·rename_i hu; obtain ⟨a, l, c, rfl⟩ := okWide_slice hu hval; rfl
   ·rename_i hu; rw [hu] at hag; cases hag
   ·rename_i hu; rw [hu] at hag; cases hag
   ·cases hok
 rw [oneCell_cells hone] at h2
 have hl := h2.len
 match ds, h2, hl with
 | [x], h2, _ => exact ⟨x, h1, h2.head⟩
end
end Go.Proofs.YtidnlfkakhmadaaGreatDoor

namespace Go.Proofs.YtidnlfkakhmadaaGreatDoor
open Go.ChangeShapes Go.WideShapes Go.ChangeAt Go.RowKit Go.ChangeMaps


theorem iface_open {P : Program} {w : World} {base fuel : Nat} {sp : Nat → Bool} {held : Bool} {enc : TypeId × Value → Unit} {t : TypeId} {l : List Value} {x : DataW Unit × List MemPlace} {ms : Array (String × TypeId)} (hi : P.underlying t = some (.interface ms))
  (hd : DataW.trod enc P w base sp held fuel t l = some x) : l = [.nilIface] ∨ ∃ u v, l = [.iface u v] := by
 cases fuel with
 | zero => cases hd
 | succ f =>
  simp only [DataW.trod, hi] at hd
  split at hd <;> first | exact .inl rfl | exact .inr ⟨_, _, rfl⟩ | (cases hd; done) | (rename_i h1; cases h1; done) | (rename_i h1 h2; cases h1; done) | (rename_i h1 h2 h3; cases h1; done)
theorem errAt_of {W : World} {n : String} {g : Nat} {cs : Array Value} (hg : Tryz.prog.globalNamed n = some g) (hv : W.var? Tryz.prog n = some cs) (h : cs.toList = [.nilIface] ∨ ∃ u v, cs.toList = [.iface u v]) : ErrAt W g ∧ g < W.heap.size := by
 have hc : ∀ ev, cs.toList = [ev] → W.cell? ⟨g, 0, none⟩ = some ev := fun ev he => by
  rw [World.var?_cell hg hv 0]
  have : cs = #[ev] := by cases cs; simpa using he
  rw [this]; rfl
 refine ⟨?_, ?_⟩
 ·rcases h with h | ⟨u, v, h⟩
  ·exact ⟨_, hc _ h, .inl rfl⟩
  ·exact ⟨_, hc _ h, .inr ⟨u, v, rfl⟩⟩
 ·unfold World.var? at hv
  rw [hg] at hv
  simp only [Option.bind_some] at hv
  by_cases hl : g < W.heap.size
  ·exact hl
  ·rw [Array.getElem?_eq_none (by omega)] at hv; cases hv

theorem list_of {α : Type} {f : α → List D} {p : α → Prop} : ∀ {rows : List (List D)}, (∀ r ∈ rows, ∃ x, p x ∧ r = f x) → ∃ l : List α, rows = l.map f ∧ ∀ x ∈ l, p x
 | [], _ => ⟨[], rfl, by simp⟩
 | r :: rows, h => by
  obtain ⟨x, h1, h2⟩ := h r (by simp)
  obtain ⟨l, h3, h4⟩ := list_of (rows := rows) (f := f) (p := p) (fun q hq => h q (List.mem_cons_of_mem _ hq))
  refine ⟨x :: l, by rw [h2, h3]; rfl, fun y hy => ?_⟩
  rcases List.mem_cons.1 hy with rfl | hy
  ·exact h1
  ·exact h4 y hy
section
variable {P : Program} {d : Nat} {t : TypeId} {ds : List D}
theorem DT_int {k : IntKind} (hu : P.underlying t = some (.int k)) (h : DT P (d + 1) t ds) : ∃ z, ds = [.v (.int k z)] ∧ (Lit.int k z).wf = true := by
 unfold DT at h; rw [hu] at h; exact h
theorem DT_bool (hu : P.underlying t = some .bool) (h : DT P (d + 1) t ds) : ∃ b, ds = [.v (.bool b)] := by
 unfold DT at h; rw [hu] at h; exact h
theorem DT_str (hu : P.underlying t = some .string) (h : DT P (d + 1) t ds) : ∃ s, ds = [.v (.string s)] ∧ s.size ≤ maxLen := by
 unfold DT at h; rw [hu] at h; exact h
theorem DT_slice {e : TypeId} (hu : P.underlying t = some (.slice e)) (h : DT P (d + 1) t ds) : ∃ rows, ds = [.sl (P.cellsOf e) rows] ∧ rows.length ≤ maxLen ∧ ∀ r ∈ rows, DT P d e r := by
 unfold DT at h; rw [hu] at h; exact h
theorem DT_struct {fs : Array Field} (hu : P.underlying t = some (.struct fs)) (h : DT P (d + 1) t ds) : ∃ ps : List (List D), ds = ps.flatten ∧ All2 (fun (f : Field) p => DT P d f.type p) fs.toList ps := by
 unfold DT at h; rw [hu] at h; exact h
theorem DT_array {n : Nat} {e : TypeId} (hu : P.underlying t = some (.array n e)) (h : DT P (d + 1) t ds) : ∃ ps : List (List D), ps.length = n ∧ ds = ps.flatten ∧ ∀ p ∈ ps, DT P d e p := by
 unfold DT at h; rw [hu] at h; exact h
end
theorem cells_of_strs {H : Type} {enc : TypeId × Value → H} {P : Program} {w : World} {base : Nat} {sp : Nat → Bool} {held : Bool} {fuel : Nat} {t e : TypeId} {n : Nat} {cs : List Value} {zs : List (List UInt8)} {p : List MemPlace}
  (ht : P.underlying t = some (.array n e)) (he : P.underlying e = some .string) (hce : P.cellsOf e = 1) (hct : P.cellsOf t = n)
  (h : DataW.trod enc P w base sp held fuel t cs = some (.agg (zs.map fun z => .lit (.string z)), p)) : cs = zs.map fun z => Value.string (bs z) := by
 cases fuel with
 | zero => simp [DataW.trod] at h
 | succ fuel =>
  simp only [DataW.trod, ht, hce, hct, Nat.mul_one] at h
  split at h
  ·rename_i hl
   obtain ⟨xs, hm, hx⟩ := Option.map_eq_some_iff.1 h
   have hxs : xs.map (·.1) = zs.map fun z => (DataW.lit (.string z) : DataW H) := by
    have := congrArg Prod.fst hx
    simpa using this
   have hxl : xs.length = n := by simpa using Lib.mapM_length hm
   have hzl : zs.length = n := by
    have := congrArg List.length hxs
    simp at this
    omega
   apply List.ext_getElem?
   intro i
   by_cases hi : i < n
   ·obtain ⟨b, hb, hf⟩ := Lib.mapM_at hm i i (by simp [hi])
    obtain ⟨z, hc, rfl, _⟩ := DataW.trod_string he hf
    have h1 : cs[i]? = some (.string z) := by
     have := congrArg (·[0]?) hc
     simpa [List.getElem?_take, List.getElem?_drop] using this
    have h2 : (xs.map (·.1))[i]? = some (DataW.lit (.string z.data.toList) : DataW H) := by simp [hb]
    rw [hxs] at h2
    simp only [List.getElem?_map, Option.map_eq_some_iff, DataW.lit.injEq, Lit.string.injEq] at h2
    obtain ⟨z', hz', rfl⟩ := h2
    simp [h1, hz']
   ·rw [List.getElem?_eq_none (by omega), List.getElem?_eq_none (by simp; omega)]
  ·cases h
theorem var_lt {W : World} {n : String} {g : Nat} {cs : Array Value} (hg : Tryz.prog.globalNamed n = some g) (hv : W.var? Tryz.prog n = some cs) : g < W.heap.size := by
 unfold World.var? at hv
 rw [hg] at hv
 simp only [Option.bind_some] at hv
 by_cases hl : g < W.heap.size
 ·exact hl
 ·rw [Array.getElem?_eq_none (by omega)] at hv; cases hv
theorem glob_top {W : World} (h : laidMetH Tryz.prog Rows.topBlanksRow.laid W) (hs : W.ShapedOpen Tryz.prog) : ΓV.G (Sall W) W := by
 obtain ⟨m, hm⟩ : ∃ m, W.cell? ⟨1, 0, none⟩ = some (.int .i64 m) := Go.Proofs.cell_of_shapedOpen_int (zero := #[.int .i64 0]) (t := 3) hs (of_decide_eq_true (by kernel_rfl)) (by kernel_rfl) rfl (by kernel_rfl) (by kernel_rfl) Tryz.underlying3
 rw [MakeChecks.laidMetH_plain _ _ _ (by kernel_rfl)] at h
 obtain ⟨ps, h, -⟩ := h
 obtain ⟨g1, t1, c1, f1, p1, q1, -, -, -, -, h, -⟩ := h
 obtain ⟨g2, t2, c2, f2, p2, q2, -, -, -, -, h, -⟩ := h
 obtain ⟨g3, t3, c3, f3, p3, q3, hg3, ht3, hv3, hd3, h, -⟩ := h
 obtain ⟨g0, t0, c0, f0, p0, q0, -, -, -, -, h, -⟩ := h
 obtain ⟨g4, t4, c4, f4, p4, q4, hg4, ht4, hv4, hd4, h, -⟩ := h
 obtain ⟨g5, t5, c5, f5, p5, q5, hg5, ht5, hv5, hd5, h, -⟩ := h
 obtain ⟨g6, t6, c6, f6, p6, q6, hg6, ht6, hv6, hd6, h, -⟩ := h
 have hT : Lib.TabIs Tryz.prog W "internal/strconv.uint64pow10" .u64 Lib.pow10Tab := by
  obtain rfl := Option.some.inj ((show Tryz.prog.globalNamed "internal/strconv.uint64pow10" = some 4 by kernel_rfl).symm.trans hg3)
  obtain rfl := Option.some.inj ((show (Tryz.prog.globals[4]?).map (·.type) = some 188 by kernel_rfl).symm.trans ht3)
  unfold Lib.TabIs
  rw [hv3, ← Lib.cells_of_tab Tryz.underlying188 Tryz.underlying38 (by kernel_rfl) (by kernel_rfl) (k := .u64) (zs := Lib.pow10Tab) hd3]
 obtain rfl := Option.some.inj ((show Tryz.prog.globalNamed "strconv.ErrRange" = some 3 by kernel_rfl).symm.trans hg4)
 obtain rfl := Option.some.inj ((show Tryz.prog.globalNamed "strconv.ErrSyntax" = some 2 by kernel_rfl).symm.trans hg5)
 obtain rfl := Option.some.inj ((show Tryz.prog.globalNamed "calliper/lex.signs" = some 0 by kernel_rfl).symm.trans hg6)
 obtain rfl := Option.some.inj ((show (Tryz.prog.globals[3]?).map (·.type) = some 42 by kernel_rfl).symm.trans ht4)
 obtain rfl := Option.some.inj ((show (Tryz.prog.globals[2]?).map (·.type) = some 42 by kernel_rfl).symm.trans ht5)
 obtain rfl := Option.some.inj ((show (Tryz.prog.globals[0]?).map (·.type) = some 98 by kernel_rfl).symm.trans ht6)
 have e4 := errAt_of hg4 hv4 (iface_open Tryz.underlying42 hd4)
 have e5 := errAt_of hg5 hv5 (iface_open Tryz.underlying42 hd5)
 have hc := cells_of_strs (zs := signsL) (n := 29) (t := 98) (e := 9) (by kernel_rfl) (by kernel_rfl) (by kernel_rfl) (by kernel_rfl) hd6
 refine ⟨⟨e5, e4, ⟨m, hm, (cell_lt hm).1⟩, fun j l hj => ?_, ?_⟩, hT, fun g hg => var_lt hg hv3⟩
 ·rw [World.var?_cell hg6 hv6 j]
  have : c6 = ⟨signsL.map fun z => Value.string (bs z)⟩ := by cases c6; simpa using hc
  rw [this]
  rw [show (⟨signsL.map fun z => Value.string (bs z)⟩ : Array Value) = (signsL.map fun z => Value.string (bs z)).toArray from rfl, List.getElem?_toArray, List.getElem?_map, hj]
  rfl
 ·have hv := hv6
  unfold World.var? at hv
  rw [hg6] at hv
  simp only [Option.bind_some] at hv
  show 0 < W.heap.size
  by_cases hl : 0 < W.heap.size
  ·exact hl
  ·rw [Array.getElem?_eq_none (by omega)] at hv; cases hv
theorem dt_bytes {d : Nat} {x : D} (h : DT Tryz.prog (d + 2) 22 [x]) : ∃ l : List UInt8, x = .sl 1 (byteRows l) ∧ l.length ≤ 9223372036854775807 := by
 obtain ⟨rows, h1, h2, h3⟩ := DT_slice Tryz.underlying22 h
 obtain ⟨l, h4, -⟩ := list_of (f := fun c : UInt8 => [D.v (.int .u8 c.toNat)]) (p := fun _ => True) (fun r hr => by
  obtain ⟨z, e1, w3⟩ := DT_int Tryz.underlying5 (h3 r hr)
  have h1 := wf_u8 w3
  obtain ⟨n, rfl⟩ := Int.eq_ofNat_of_zero_le h1.1
  refine ⟨UInt8.ofNat n, trivial, ?_⟩
  rw [e1]
  have : (UInt8.ofNat n).toNat = n := by rw [UInt8.toNat_ofNat']; have := h1.2; omega
  rw [this])
 have e : Tryz.prog.cellsOf 5 = 1 := by kernel_rfl
 rw [e, h4] at h1
 cases h1
 rw [h4, List.length_map] at h2
 exact ⟨l, rfl, h2⟩
end Go.Proofs.YtidnlfkakhmadaaGreatDoor

namespace Go.Proofs.YtidnlfkakhmadaaGreatDoor
open Go.ChangeShapes Go.WideShapes Go.ChangeAt Go.RowKit Go.ChangeMaps

theorem topBlanks_a (s : ByteArray) (hs : s.size ≤ 140737488351232) (y : D) (hy : DT Tryz.prog 8 22 [y]) : CallsA Tryz.prog ΓV 3 [c1 (ds s), c1 y] (.o (c1 (db true))) := by
 obtain ⟨l, rfl, h1⟩ := dt_bytes hy
 have := topBlanks_c s.data.toList l (by rw [Array.length_toList]; exact Nat.le_trans hs (by decide)) h1
 rw [show bs s.data.toList = s by simp [bs]] at this
 exact this
namespace topBlanks
set_option maxRecDepth 100000 in
theorem lifted (os : Os) (started : os.Started) (H : Type) (enc : TypeId × Value → H) :
  ReturnsInHanded {} Tryz.checked os 3 .any (fun w args => (Rows.topBlanksSpec.pre enc Tryz.prog Tryz.f3 Rows.topBlanksRow.domain false w args ∧ laidMetH Tryz.prog Rows.topBlanksRow.laid w) ∧ sizedMet enc Tryz.prog Tryz.f3 (OpenSpec.ofChange Rows.topBlanksSpec) false w args) (Rows.topBlanksSpec.post enc Tryz.prog Tryz.f3 false true false false) := by
 show ReturnsInHanded {} Tryz.checked os 3 .any ((OpenSpec.ofChange Rows.topBlanksSpec).preRow enc Tryz.prog Tryz.f3 Rows.topBlanksRow.domain false Rows.topBlanksRow.laid) (((OpenSpec.ofChange Rows.topBlanksSpec).at fun _ _ _ => 0).post enc Tryz.prog Tryz.f3 false true false false)
 refine returnsInHanded_of_row (C := Tryz.checked) own started (by kernel_rfl) Tryz.func3
  (ChangeSpec.witness_shaped (enc := enc) (C := Tryz.checked) (os := os) (X := fun w _ => laidMetH Tryz.prog Rows.topBlanksRow.laid w) false (World.laidAll Tryz.prog os Rows.topBlanksRow.laid) #[.string ByteArray.empty, .slice none 0 0] 8 (World.laidAll_os _ _ _) (World.shaped_of_ZipB (by kernel_rfl) (by kernel_rfl)) (by kernel_rfl) (by kernel_rfl) (by kernel_rfl)
   (by rw [MakeChecks.laidMetH_plain _ _ _ (by kernel_rfl)]; exact laidMet_laidAll _ (by kernel_rfl) (by kernel_rfl))) ?_
 intro W base args ds gs before hval0 hW _ _ hsz0 hLaid hShaped _
 have hsz : (DataW.weightsEach Tryz.prog (Tryz.f3.params.toList ++ Rows.topBlanksSpec.plain.varTypes Tryz.prog) (ds ++ gs)).all (· ≤ reachBytes) = true := hsz0
 have hval : ∀ (j : Nat) t v, Tryz.f3.params[j]? = some t → args[j]? = some v → Value.okWide Tryz.prog W .any base t v := hval0
 clear hsz0 hval0
 have hW' := hW
 obtain ⟨p, q, hA0, hV, rfl, hfz, hnd⟩ := hW
 have hA : DataW.TrodAll enc Tryz.prog W 0 (fun _ => true) true Tryz.f3.params.toList args.toList ds p := hA0
 clear hA0
 rw [Tryz.params3] at hA hval hsz
 obtain ⟨v0, vs0, d0, ds0, p0, q0, hargs, rfl, rfl, h0, r0⟩ := trodAll_cons hA
 obtain ⟨v1, vs1, d1, ds1, p1, q1, rfl, rfl, rfl, h1, r1⟩ := trodAll_cons r0
 obtain ⟨rfl, rfl, rfl⟩ := trodAll_nil r1
 obtain rfl : args = #[v0, v1] := by cases args; simp_all
 obtain ⟨rfl, rfl⟩ := trodVars_none hV
 obtain ⟨s, rfl, rfl, rfl, hm0⟩ := open_string Tryz.underlying9 (hval 0 9 v0 rfl rfl) h0
 have w_s : s.size ≤ 140737488351232 := by simpa [reachBytes] using sized_string hsz (j := 0) rfl rfl
 obtain ⟨gaps, gaps_, m1⟩ := open_dt (d := 8) (by kernel_rfl) (by kernel_rfl) (hval 1 22 v1 rfl rfl) h1
 refine ((topBlanks_a s w_s gaps gaps_).2 (Sall W) W [.string s, v1] (fun _ h => h) (glob_top hLaid hShaped) (.cons (Imm.v rfl) (.cons m1 .nil))).mono fun e W' ⟨xr, _, he, hb, _, _, _, hv⟩ => ?_
 obtain rfl := V_v hv
 subst he
 exact ⟨_, rfl, law_post (ds := [_, _]) laidOut hW' rfl (by kernel_rfl) rfl Tryz.underlying4 rfl rfl rfl hb⟩

theorem proved : Rows.TopBlanksSaid :=
 OpenClaim.holds_of_wide 3 Tryz.f3 rfl rfl rfl rfl rfl rfl rfl ⟨rfl, rfl, rfl, rfl, rfl⟩ rfl rfl rfl rfl rfl (by kernel_rfl) Tryz.func3 (by kernel_rfl)
  (of_decide_eq_true (by kernel_rfl)) (by unfold Func.isWrapper; first | (rw [if_pos (by decide +kernel)]; kernel_rfl) | (rw [if_neg (by decide +kernel)]; exact ⟨rfl, rfl⟩))
  (fun os started H enc _ => lifted os started H enc)
theorem card : Rows.TopBlanksCardSaid :=
 Claim7.holds_tied_plain_at .later [] [.data, .data, .data, .data, .sentinel, .sentinel, .data, .pinned] true (true, "db101e772c0ae5dedf768837da098c9fe8ec3d5af7fdcaf0e1d1467bbdd14324") true proved (fun _ h => by cases h) (by kernel_rfl) (fun _ h => by cases h) topBlanks_row_tie rfl ⟨rfl, rfl⟩ (by kernel_rfl) rfl
  (fun f fn hf hfn => by
   obtain rfl : f = 3 := Option.some.inj ((show Tryz.prog.funcNamed "calliper/callipertop.TopBlanks" = some 3 by kernel_rfl).symm.trans hf) |>.symm
   obtain rfl : fn = Tryz.f3 := (Option.some.inj (Tryz.func3.symm.trans hfn)).symm
   exact ⟨by kernel_rfl, fun j t ht => by
    rw [Tryz.params3] at ht
    have hm : t ∈ [9, 22] := by simpa using Array.mem_of_getElem? ht
    have hall : ([9, 22].all fun u => !Tryz.prog.wantsStandIn u) = true := by kernel_rfl
    exact (show Tryz.prog.wantsStandIn t = false by simpa using List.all_eq_true.1 hall t hm)⟩)
  (by kernel_rfl)
end topBlanks
end Go.Proofs.YtidnlfkakhmadaaGreatDoor
