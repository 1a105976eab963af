/- ValueText, where what it reads is of bulk at most 1048576: which values are good, of how many they are made, and their signs, is the document's answer. Condition: the listed package variables hold what the program's text lays. -/
import Derived.ProofKit
import Derived.SizedLaws
import Derived.OpenShut
import Derived.Test.YtkeehnhamkdogaaDoorRows
import Derived.MakeChecks
import Derived.Lib.LaidTab
import Derived.Test.YtkeehnhamkdogaaDoorCards
import Derived.Test.YtkeehnhamkdogaaDoorTie
import Derived.Lay
import Derived.SevenTiedAt
import Derived.Deep.DeepHandedRow
import Derived.Test.YtkeehnhamkdogaaDoorZ1
import Derived.Test.YtkeehnhamkdogaaDoorZ2
import Derived.Test.YtkeehnhamkdogaaDoorZ3
namespace Go.Proofs.YtkeehnhamkdogaaDoor
set_option linter.unusedVariables false
set_option linter.unusedSimpArgs false
open Go.RowKit
set_option maxRecDepth 100000

abbrev fal (u : List Bool) : Nat := u.count false
theorem fal_set {u : List Bool} {a : Nat} (h : u[a]? = some false) : fal (u.set a true) + 1 = fal u := by
  obtain ⟨hlt, he⟩ := List.getElem?_eq_some_iff.1 h
  have h1 := List.count_set (l := u) (b := false) (a := true) hlt
  have h2 : 0 < u.count false := List.count_pos_iff.2 (he ▸ List.getElem_mem hlt)
  rw [he] at h1
  simp at h1
  show (u.set a true).count false + 1 = u.count false
  omega
theorem kidsV_num {n : Nat} {rc : Nat → List Bool → PV × List Bool} {a : Nat} (hr : ∀ k u, a < k → k < n → u[k]? = some false → (rc k u).1.num + fal (rc k u).2 ≤ fal u) : ∀ (ks : List Int) (u : List Bool) (acc : List PV), numL (kidsV n rc a ks u acc).1 + fal (kidsV n rc a ks u acc).2 ≤ numL acc + fal u
  | [], u, acc => Nat.le_refl _
  | k :: ks, u, acc => by
    rw [kidsV]
    split
    · rename_i h
      have h1 := hr k.toNat u (by omega) (by omega) h.2.2
      have h2 := kidsV_num hr ks (rc k.toNat u).2 (acc ++ [(rc k.toNat u).1])
      rw [numL_app, numL, numL] at h2
      omega
    · exact kidsV_num hr ks u acc
theorem buildV_num (l : List ND) : ∀ (f a : Nat) (u : List Bool), l.length ≤ a + f → a < l.length → u[a]? = some false → (buildV l f a u).1.num + fal (buildV l f a u).2 ≤ fal u
  | 0, a, u, h1, h2, _ => by omega
  | f + 1, a, u, h1, h2, h3 => by
    rw [buildV, at_some h2]
    have h4 := kidsV_num (n := l.length) (rc := buildV l f) (a := a) (fun k u hk hn hu => buildV_num l f k u (by omega) hn hu) l[a].kids (u.set a true) []
    have h5 := fal_set h3
    rw [numL] at h4
    show PV.num (.mk _ _ _ _) + fal (kidsV _ _ _ _ _ _).2 ≤ _
    rw [PV.num]
    omega
/-- What holds of a value's numbers and bytes. -/
structure NdOk (x : ND) : Prop where
  k0 : -9223372036854775808 ≤ x.k
  k1 : x.k ≤ 9223372036854775807
  n : x.n < 18446744073709551616
  b : x.b.size ≤ 1048576
  kids : x.kids.length ≤ 1048576
mutual
def AllP (p : Int → Nat → ByteArray → Prop) : PV → Prop
  | .mk k n b l => p k n b ∧ AllPL p l
def AllPL (p : Int → Nat → ByteArray → Prop) : List PV → Prop
  | [] => True
  | t :: ts => AllP p t ∧ AllPL p ts
end
theorem AllPL_app {p : Int → Nat → ByteArray → Prop} : ∀ {l m : List PV}, AllPL p l → AllPL p m → AllPL p (l ++ m)
  | [], m, _, h => h
  | t :: ts, m, h, h' => ⟨h.1, AllPL_app h.2 h'⟩
theorem AllPL_mem {p : Int → Nat → ByteArray → Prop} : ∀ {l : List PV}, AllPL p l → ∀ t ∈ l, AllP p t
  | t :: ts, h, x, hx => by
    rcases List.mem_cons.1 hx with rfl | hx
    · exact h.1
    · exact AllPL_mem h.2 x hx
theorem AllPL_of {p : Int → Nat → ByteArray → Prop} : ∀ {l : List PV}, (∀ t ∈ l, AllP p t) → AllPL p l
  | [], _ => trivial
  | t :: ts, h => ⟨h t (by simp), AllPL_of fun x hx => h x (List.mem_cons_of_mem _ hx)⟩
theorem AllP_mk {p : Int → Nat → ByteArray → Prop} {k : Int} {n : Nat} {b : ByteArray} {l : List PV} : AllP p (.mk k n b l) ↔ p k n b ∧ AllPL p l := by rw [AllP]
theorem kidsV_all {p : Int → Nat → ByteArray → Prop} {n : Nat} {rc : Nat → List Bool → PV × List Bool} {a : Nat} (hr : ∀ k u, AllP p (rc k u).1) : ∀ (ks : List Int) (u : List Bool) (acc : List PV), AllPL p acc → AllPL p (kidsV n rc a ks u acc).1
  | [], u, acc, h => h
  | k :: ks, u, acc, h => by
    rw [kidsV]
    split
    · exact kidsV_all hr ks _ _ (AllPL_app h ⟨hr _ _, trivial⟩)
    · exact kidsV_all hr ks u acc h
theorem buildV_all {p : Int → Nat → ByteArray → Prop} (hz : p 0 0 ⟨#[]⟩) (l : List ND) (h : ∀ x ∈ l, p x.k x.n x.b) : ∀ (f a : Nat) (u : List Bool), AllP p (buildV l f a u).1
  | 0, a, u => AllP_mk.2 ⟨hz, trivial⟩
  | f + 1, a, u => by
    rw [buildV]
    split
    · exact AllP_mk.2 ⟨hz, trivial⟩
    · rename_i x hx
      exact AllP_mk.2 ⟨h x (List.mem_of_getElem? hx), kidsV_all (buildV_all hz l h f) _ _ _ trivial⟩
theorem AllP.mono {p q : Int → Nat → ByteArray → Prop} (hpq : ∀ k n b, p k n b → q k n b) : ∀ {t : PV}, AllP p t → AllP q t
  | .mk k n b l, h => by
    rw [AllP_mk] at h ⊢
    refine ⟨hpq _ _ _ h.1, AllPL_of fun x hx => ?_⟩
    have := List.sizeOf_lt_of_mem hx
    exact AllP.mono hpq (AllPL_mem h.2 x hx)
termination_by t => SizeOf.sizeOf t
decreasing_by simp only [PV.mk.sizeOf_spec]; omega
/-- What a value that comes in is. -/
def PvOk (k : Int) (n : Nat) (b : ByteArray) : Prop := n < 18446744073709551616 ∧ b.size ≤ 1048576
theorem valuesV_num (l : List ND) : (valuesV l).num ≤ 60 := by
  unfold valuesV
  split
  · rw [PV.num, numL]; omega
  · have hm : 0 < (l.take 60).length := by rw [List.length_take]; omega
    have h1 := buildV_num (l.take 60) (l.take 60).length 0 (List.replicate (l.take 60).length false) (by omega) hm (by rw [List.getElem?_replicate, if_pos hm])
    have h2 : fal (List.replicate (l.take 60).length false) ≤ 60 := by
      show List.count _ _ ≤ _
      rw [List.count_replicate_self, List.length_take]; omega
    omega
theorem valuesV_all (l : List ND) (h : ∀ x ∈ l, NdOk x) : AllP PvOk (valuesV l) := by
  unfold valuesV
  split
  · exact AllP_mk.2 ⟨⟨by omega, by decide⟩, trivial⟩
  · exact buildV_all ⟨by omega, by decide⟩ _ (fun x hx => ⟨(h x (List.mem_of_mem_take hx)).n, (h x (List.mem_of_mem_take hx)).b⟩) _ _ _
theorem dec_len (n : Nat) (h : n < 18446744073709551616) : (Lib.decDigits n).length ≤ 20 := by
  have key : ∀ (d m : Nat), m < 10 ^ (d + 1) → (Lib.decDigits m).length ≤ d + 1 := by
    intro d
    induction d with
    | zero => intro m hm; rw [Lib.decDigits, dif_pos (by omega)]; simp
    | succ d ih =>
      intro m hm
      rw [Lib.decDigits]
      split
      · simp
      · rw [List.length_append]
        have := ih (m / 10) (by rw [Nat.pow_succ] at hm; omega)
        simp only [List.length_cons, List.length_nil]; omega
  exact key 19 n (by omega)
mutual
theorem txP_le' (B : Nat) (hB : 2097200 ≤ B) : ∀ (t : PV), AllP PvOk t → (txP t).length + 2 ≤ t.num * B
  | .mk k n b l, h => by
    rw [AllP_mk] at h
    have h1 := dec_len n h.1.1
    have h2 := h.1.2
    have h3 := txL_le' B hB true l h.2
    have h4 := hx_len b.data.toList
    have h5 : b.data.toList.length = b.size := rfl
    have h8 : (1 + numL l) * B = B + numL l * B := by rw [Nat.add_mul, Nat.one_mul]
    rw [txP, PV.num, h8]
    repeat' split
    all_goals try simp only [List.length_append, List.length_cons, List.length_nil]
    all_goals omega
theorem txL_le' (B : Nat) (hB : 2097200 ≤ B) : ∀ (f : Bool) (l : List PV), AllPL PvOk l → (txL f l).length ≤ numL l * B
  | f, [], _ => by simp [txL]
  | f, t :: ts, h => by
    rw [AllPL] at h
    have h1 := txP_le' B hB t h.1
    have h2 := txL_le' B hB false ts h.2
    rw [txL, numL, Nat.add_mul]
    cases f <;> simp only [List.length_append, List.length_cons, List.length_nil, if_true, Bool.false_eq_true, if_false] <;> omega
end
theorem AllNL_of {q : Nat → Prop} : ∀ {l : List PV}, (∀ t ∈ l, AllN q t) → AllNL q l
  | [], _ => trivial
  | t :: ts, h => ⟨h t (by simp), AllNL_of fun x hx => h x (List.mem_cons_of_mem _ hx)⟩
theorem allN_of {q : Nat → Prop} : ∀ {t : PV}, AllP (fun _ n _ => q n) t → AllN q t
  | .mk k n b l, h => by
    rw [AllP_mk] at h
    rw [AllN]
    refine ⟨fun _ => h.1, AllNL_of fun x hx => ?_⟩
    have := List.sizeOf_lt_of_mem hx
    exact allN_of (AllPL_mem h.2 x hx)
termination_by t => SizeOf.sizeOf t
decreasing_by simp only [PV.mk.sizeOf_spec]; omega
theorem fmt_all {t : PV} (h : AllP PvOk t) : AllN FmtOk t := allN_of (AllP.mono (fun k n b h => fmt_c n h.1) h)
end Go.Proofs.YtkeehnhamkdogaaDoor

namespace Go.Proofs.YtkeehnhamkdogaaDoor
set_option linter.unusedVariables false
set_option linter.unusedSimpArgs false
open Go.RowKit
set_option maxRecDepth 100000

abbrev bs (l : List UInt8) : ByteArray := ⟨l.toArray⟩
theorem bs_app (l m : List UInt8) : bs l ++ bs m = bs (l ++ m) := by
  apply ByteArray.ext
  rw [ByteArray.data_append]
  simp
theorem bs_size (l : List UInt8) : (bs l).size = l.length := by simp [ByteArray.size]
theorem dig_u8 (d : Nat) (h : d < 10) : IntKind.u8.wrap (48 + IntKind.u8.wrap (d : Nat)) = ((UInt8.ofNat (48 + d)).toNat : Int) := by
  rw [wrap_un (k := .u8) (n := (d : Int)) rfl (by omega) (by show _ < (256 : Int); omega), wrap_un (k := .u8) rfl (by omega) (by show _ < (256 : Int); omega)]
  rw [UInt8.toNat_ofNat']
  show _ = (((48 + d) % 256 : Nat) : Int)
  omega
theorem bs_cons (c : UInt8) (l : List UInt8) : bs [c] ++ bs l = bs (c :: l) := bs_app [c] l
theorem digits_c (n : Nat) (hn : n < 18446744073709551616) : CallsA Tryd.prog Γ0 33 [c1 (du n)] (.o (c1 (ds (bs (Lib.decDigits n))))) := by
  obtain ⟨T, hT⟩ : ∃ T, Lib.decDigits n = T := ⟨_, rfl⟩
  have hTl : T.length ≤ 20 := hT ▸ dec_len n hn
  rw [hT]
  refine fn_rule (C := ⟨Tryd.prog, layF, Tryd.f33.ntmps, Γ0, 0, [], []⟩) layF_ok mixed Tryd.func33 rfl (by kernel_rfl) rfl rfl rfl ?_
  refine ex_loop (X := Nat × ByteArray) (fun ⟨m, s⟩ => ⟨[(0, Tu m), (3, Tstr s)], [], 0⟩) (fun x => x.1)
    (fun ⟨m, s⟩ => m ≤ n ∧ ∃ l, s = bs l ∧ Lib.decDigits m ++ l = T) (n, bs []) ⟨Nat.le_refl _, [], rfl, by rw [List.append_nil]; exact hT⟩ (SLe.of ⟨⟨rfl, rfl, trivial⟩, trivial⟩) ?_
  rintro ⟨m, s⟩ ⟨hm, l, rfl, hs⟩
  have hsl : (Lib.decDigits m).length + l.length ≤ 20 := by have := congrArg List.length hs; rw [List.length_append] at this; omega
  rw [Lib.decDigits] at hs
  refine ex_dec (fun h1 => ?_) (fun h1 => ?_)
  · rw [dif_neg (by omega)] at hs
    refine ⟨by decide, ?_⟩
    refine ex_is (((m % 10 : Nat) : Int)) (by rw [Int.tmod_eq_emod_of_nonneg (by omega)]; rfl) ?_
    refine ex_is _ rfl ?_
    refine ex_is (((UInt8.ofNat (48 + m % 10)).toNat : Int)) (dig_u8 _ (by omega)) ?_
    refine ⟨[UInt8.ofNat (48 + m % 10)], rfl, ?_⟩
    refine ⟨by rw [bs_size, bs_size, List.length_cons, List.length_nil]; omega, ?_⟩
    refine ⟨by decide, ?_⟩
    refine ex_u64 ((m / 10 : Nat) : Int) (by rw [Int.tdiv_eq_ediv_of_nonneg (by omega)]; rfl) (by omega) (by omega) ?_
    exact ex_round (m / 10, _) ⟨by omega, UInt8.ofNat (48 + m % 10) :: l, bs_cons _ _, by rw [← hs, List.append_assoc]; rfl⟩ (by show m / 10 < m; omega) (SLe.of ⟨⟨rfl, rfl, trivial⟩, trivial⟩)
  · rw [dif_pos (by omega)] at hs
    refine ex_is _ rfl ?_
    refine ex_is (((UInt8.ofNat (48 + m)).toNat : Int)) (dig_u8 _ (by omega)) ?_
    refine ⟨[UInt8.ofNat (48 + m)], rfl, ?_⟩
    refine ⟨by rw [bs_size, bs_size, List.length_cons, List.length_nil]; omega, ?_⟩
    exact TLe.eq (by show Tstr (bs [_] ++ bs l) = Tstr (bs T); rw [bs_app, hs])
mutual
/-- How deep a value is; 0: one isn't such as may be. -/
def depthP : PV → Nat
  | .mk k n b l => if leanB k n b l.length = false then 0 else depthL l 0
def depthL : List PV → Nat → Nat
  | [], m => m + 1
  | x :: xs, m => if depthP x = 0 then 0 else depthL xs (if m < depthP x then depthP x else m)
end
mutual
theorem depthP_le : ∀ (t : PV), depthP t ≤ t.num
  | .mk k n b l => by
    rw [depthP, PV.num]
    split
    · omega
    · have := depthL_le l 0; omega
theorem depthL_le : ∀ (l : List PV) (m : Nat), depthL l m ≤ 1 + m + numL l
  | [], m => by rw [depthL, numL]; omega
  | x :: xs, m => by
    have h1 := depthP_le x
    rw [depthL, numL]
    split
    · omega
    · have h2 := depthL_le xs (if m < depthP x then depthP x else m)
      have h3 : (if m < depthP x then depthP x else m) ≤ m + x.num := by split <;> omega
      omega
end
theorem depth_c : ∀ (t : PV), t.num ≤ 4611686018427387904 → CallsA Tryd.prog Γ0 27 [gD (drow t)] (.o (c1 (di (depthP t))))
  | .mk k n b l, ht => by
    rw [PV.num] at ht
    have hll := numL_len l
    have ih : ∀ i (h : i < l.length), CallsA Tryd.prog Γ0 27 [gD (drow l[i])] (.o (c1 (di (depthP l[i])))) := fun i h => depth_c l[i] (by have := numL_at h; omega)
    obtain ⟨R, hR⟩ : ∃ R, depthP (.mk k n b l) = R := ⟨_, rfl⟩
    rw [hR, drow_mk]
    rw [depthP] at hR
    have key : leanB k n b l.length = decide ((0 ≤ k ∧ k < 5) ∧ (k = 1 ∨ n = 0) ∧ (k = 2 ∨ b = ⟨#[]⟩) ∧ (3 ≤ k ∨ l.length = 0)) := by simp only [leanB, Bool.decide_and, Bool.decide_or, Bool.and_assoc]
    refine fn_rule (C := ⟨Tryd.prog, layF, Tryd.f27.ntmps, Γ0, 0, [1], []⟩) layF_ok mixed Tryd.func27 rfl (by kernel_rfl) rfl rfl rfl ?_
    refine ex_join (X := Bool) (fun c => ⟨[(1, .o (.c (.ptr 0 0))), (44, Tb c)], [(0, .obj [.d (di k), .d (du n), .d (ds b), .d (.sl 4 (l.map drow))])], 1⟩) (fun c => leanB k n b l.length = !c) ?_ ?_
    · repeat' first
        | refine ex_is l.length (by simp) ?_
        | refine ex_dec (fun _ => ?_) (fun _ => ?_)
      all_goals first
        | exact ex_meet false (by rw [key]; exact decide_eq_true ⟨by omega, by omega, (by first | exact .inl (by omega) | (right; apply Classical.byContradiction; assumption)), by omega⟩) (SLe.of ⟨⟨rfl, rfl, trivial⟩, ⟨rfl, trivial⟩⟩)
        | exact ex_meet true (by rw [key]; exact decide_eq_false (by rintro ⟨h1, h2, h3 | h3, h4⟩ <;> first | omega | contradiction)) (SLe.of ⟨⟨rfl, rfl, trivial⟩, ⟨rfl, trivial⟩⟩)
    intro c hc
    cases c with
    | true =>
      rw [if_pos (show leanB k n b l.length = false from hc)] at hR
      subst hR
      exact TLe.rfl
    | false =>
    rw [if_neg (by rw [hc]; decide)] at hR
    refine ex_loop (X := Nat × Nat) (fun ⟨q, m⟩ => ⟨[(1, .o (.c (.ptr 0 0))), (3, Ti m), (4, Ti q)], [(0, .obj [.d (di k), .d (du n), .d (ds b), .d (.sl 4 (l.map drow))])], 1⟩) (fun x => l.length - x.1)
      (fun ⟨q, m⟩ => q ≤ l.length ∧ m ≤ 4611686018427387904 ∧ depthL (l.drop q) m = R) (0, 0) ⟨by omega, by omega, by simpa using hR⟩ (SLe.of ⟨⟨rfl, rfl, rfl, trivial⟩, ⟨rfl, trivial⟩⟩) ?_
    rintro ⟨q, m⟩ ⟨hq, hm, hg⟩
    refine ex_is (l.length) (by simp) ?_
    refine ex_dec (fun h5 => ?_) (fun h5 => ?_)
    · have hql : q < l.length := by omega
      rw [List.drop_eq_getElem_cons hql, depthL] at hg
      have hle := depthP_le l[q]
      have hnl := numL_at hql
      refine ex_row (q) _ (by first | rfl | omega | simp) (at_some (hql)) ?_
      refine ex_call (ih q hql) ?_
      generalize depthP l[q] = c at *
      refine ex_dec (fun h6 => ?_) (fun h6 => ?_)
      · rw [if_pos (by omega)] at hg
        exact TLe.eq (by rw [← hg]; rfl)
      · rw [if_neg (by omega)] at hg
        refine ex_dec (fun h7 => ?_) (fun h7 => ?_)
        · rw [if_pos (by omega)] at hg
          refine ex_i64 (((q + 1 : Nat) : Int)) (by first | rfl | omega | simp) (by omega) (by omega) ?_
          exact ex_round (q + 1, c) ⟨hql, by omega, hg⟩ (by show _ - _ < _ - _; omega) (SLe.of ⟨⟨rfl, rfl, rfl, trivial⟩, ⟨rfl, trivial⟩⟩)
        · rw [if_neg (by omega)] at hg
          refine ex_i64 (((q + 1 : Nat) : Int)) (by first | rfl | omega | simp) (by omega) (by omega) ?_
          exact ex_round (q + 1, m) ⟨hql, by omega, hg⟩ (by show _ - _ < _ - _; omega) (SLe.of ⟨⟨rfl, rfl, rfl, trivial⟩, ⟨rfl, trivial⟩⟩)
    · obtain rfl : q = l.length := by omega
      rw [List.drop_length, depthL] at hg
      subst hg
      refine ex_i64 (((m + 1 : Nat) : Int)) (by first | rfl | omega | simp) (by omega) (by omega) ?_
      exact TLe.rfl
termination_by t => SizeOf.sizeOf t
decreasing_by
  have := List.sizeOf_lt_of_mem (List.getElem_mem h)
  simp only [PV.mk.sizeOf_spec]
  omega
def rgoodP (t : PV) : Bool := decide (0 < depthP t ∧ depthP t ≤ 1200)
theorem rGood_c (t : PV) (ht : t.num ≤ 4611686018427387904) : CallsA Tryd.prog Γ0 10 [gD (drow t)] (.o (c1 (db (rgoodP t)))) := by
  obtain ⟨R, hR⟩ : ∃ R, rgoodP t = R := ⟨_, rfl⟩
  unfold rgoodP at hR
  rw [show rgoodP t = R from hR]
  refine fn_rule (C := ⟨Tryd.prog, layF, Tryd.f10.ntmps, Γ0, 0, [], []⟩) layF_ok mixed Tryd.func10 rfl (by kernel_rfl) rfl rfl rfl ?_
  refine ex_call (depth_c t ht) ?_
  refine ex_dec (fun h1 => ?_) (fun h1 => ?_)
  ·
    refine ex_dec (fun h2 => ?_) (fun h2 => ?_)
    · exact TLe.eq (by rw [← hR, decide_eq_true ⟨by omega, by omega⟩]; rfl)
    · exact TLe.eq (by rw [← hR, decide_eq_false (by omega)]; rfl)
  · exact TLe.eq (by rw [← hR, decide_eq_false (by omega)]; rfl)
theorem rCount_c : ∀ (t : PV), t.num ≤ 4611686018427387904 → CallsA Tryd.prog Γ0 15 [gD (drow t)] (.o (c1 (di t.num)))
  | .mk k n b l, ht => by
    rw [PV.num] at ht ⊢
    have hll := numL_len l
    have ih : ∀ i (h : i < l.length), CallsA Tryd.prog Γ0 15 [gD (drow l[i])] (.o (c1 (di l[i].num))) := fun i h => rCount_c l[i] (by have := numL_at h; omega)
    rw [drow_mk]
    obtain ⟨R, hR⟩ : ∃ R, 1 + numL l = R := ⟨_, rfl⟩
    rw [hR]
    rw [hR] at ht
    refine fn_rule (C := ⟨Tryd.prog, layF, Tryd.f15.ntmps, Γ0, 0, [], []⟩) layF_ok mixed Tryd.func15 rfl (by kernel_rfl) rfl rfl rfl ?_
    refine ex_loop (X := Nat × Nat) (fun ⟨q, m⟩ => ⟨[(1, .o (.c (.ptr 0 0))), (3, Ti m), (4, Ti q)], [(0, .obj [.d (di k), .d (du n), .d (ds b), .d (.sl 4 (l.map drow))])], 1⟩) (fun x => l.length - x.1)
      (fun ⟨q, m⟩ => q ≤ l.length ∧ m + numL (l.drop q) = R) (0, 1) ⟨by omega, by simpa using hR⟩ (SLe.of ⟨⟨rfl, rfl, rfl, trivial⟩, ⟨rfl, trivial⟩⟩) ?_
    rintro ⟨q, m⟩ ⟨hq, hg⟩
    refine ex_is (l.length) (by simp) ?_
    refine ex_dec (fun h5 => ?_) (fun h5 => ?_)
    · have hql : q < l.length := by omega
      rw [List.drop_eq_getElem_cons hql, numL] at hg
      have hnl := numL_at hql
      refine ex_row (q) _ (by first | rfl | omega | simp) (at_some (hql)) ?_
      refine ex_call (ih q hql) ?_
      generalize l[q].num = c at *
      refine ex_i64 (((m + c : Nat) : Int)) (by first | rfl | omega | simp) (by omega) (by omega) ?_
      refine ex_i64 (((q + 1 : Nat) : Int)) (by first | rfl | omega | simp) (by omega) (by omega) ?_
      exact ex_round (q + 1, m + c) ⟨hql, by omega⟩ (by show _ - _ < _ - _; omega) (SLe.of ⟨⟨rfl, rfl, rfl, trivial⟩, ⟨rfl, trivial⟩⟩)
    · obtain rfl : q = l.length := by omega
      rw [List.drop_length, numL] at hg
      exact TLe.eq (by rw [← hg]; rfl)
termination_by t => SizeOf.sizeOf t
decreasing_by
  have := List.sizeOf_lt_of_mem (List.getElem_mem h)
  simp only [PV.mk.sizeOf_spec]
  omega
end Go.Proofs.YtkeehnhamkdogaaDoor

namespace Go.Proofs.YtkeehnhamkdogaaDoor
set_option linter.unusedVariables false
set_option linter.unusedSimpArgs false
open Go.RowKit
set_option maxRecDepth 100000

abbrev hexS : ByteArray := ⟨#[48, 49, 50, 51, 52, 53, 54, 55, 56, 57, 97, 98, 99, 100, 101, 102]⟩
theorem hex_cut (i : Nat) (h : i < 16) : hexS.extract (i : Int).toNat ((i + 1 : Nat) : Int).toNat = bs [hexL.getD i 0] := by
  have key : ∀ k : Fin 16, hexS.extract k.val (k.val + 1) = bs [hexL.getD k.val 0] := by decide +kernel
  exact key ⟨i, h⟩
def RtC (t : PV) : Prop := (txP t).length ≤ 70368744177600 → CallsA Tryd.prog Γ0 16 [gD (drow t)] (.o (c1 (ds (bs (txP t)))))
theorem RtC0 (n : Nat) (b : ByteArray) (kids : List PV) : RtC (.mk 0 n b kids) := by
  intro hl
  have e : txP (.mk 0 n b kids) = [45] := by rw [txP, if_pos rfl]
  rw [e, drow_mk]
  refine fn_rule (C := ⟨Tryd.prog, layF, Tryd.f16.ntmps, Γ0, 0, [], []⟩) layF_ok mixed Tryd.func16 rfl (by kernel_rfl) rfl rfl rfl ?_
  refine ex_true rfl ?_
  exact TLe.rfl
theorem RtC1 (n : Nat) (b : ByteArray) (kids : List PV) (hn : n < 18446744073709551616) : RtC (.mk 1 n b kids) := by
  intro hl
  have e : txP (.mk 1 n b kids) = Lib.decDigits n := by rw [txP, if_neg (by decide), if_pos rfl]
  rw [e, drow_mk]
  refine fn_rule (C := ⟨Tryd.prog, layF, Tryd.f16.ntmps, Γ0, 0, [], []⟩) layF_ok mixed Tryd.func16 rfl (by kernel_rfl) rfl rfl rfl ?_
  refine ex_false (by decide) ?_
  refine ex_true rfl ?_
  refine ex_call (digits_c n hn) ?_
  exact TLe.rfl
theorem RtC2 (n : Nat) (b : ByteArray) (kids : List PV) : RtC (.mk 2 n b kids) := by
  intro hl
  obtain ⟨l, hb⟩ : ∃ l, b.data.toList = l := ⟨_, rfl⟩
  have e : txP (.mk 2 n b kids) = [120, 34] ++ l.flatMap hx ++ [34] := by rw [txP, if_neg (by decide), if_neg (by decide), if_pos rfl, hb]
  have hbl : b.size = l.length := by rw [← hb]; rfl
  rw [e, drow_mk]
  rw [e] at hl
  simp only [List.length_append, hx_len, List.length_cons, List.length_nil] at hl
  refine fn_rule (C := ⟨Tryd.prog, layF, Tryd.f16.ntmps, Γ0, 0, [], []⟩) layF_ok mixed Tryd.func16 rfl (by kernel_rfl) rfl rfl rfl ?_
  refine ex_false (by decide) ?_
  refine ex_false (by decide) ?_
  refine ex_true rfl ?_
  refine ex_loop (X := Nat × ByteArray) (fun ⟨q, s⟩ => ⟨[(1, .o (.c (.ptr 0 0))), (3, Tstr hexS), (4, Tstr s), (5, Ti q)], [(0, .obj [.d (di 2), .d (du n), .d (ds b), .d (.sl 4 (kids.map drow))])], 1⟩) (fun x => l.length - x.1)
    (fun ⟨q, s⟩ => q ≤ l.length ∧ s = bs ([120, 34] ++ (l.take q).flatMap hx)) (0, ⟨#[120, 34]⟩) ⟨by omega, rfl⟩ (SLe.of ⟨⟨rfl, rfl, rfl, rfl, trivial⟩, ⟨rfl, trivial⟩⟩) ?_
  rintro ⟨q, s⟩ ⟨hq, hs⟩
  have hsl : s.size = 2 + 2 * q := by
    rw [hs, bs_size]
    simp only [List.length_append, hx_len, List.length_cons, List.length_nil, List.length_take]; omega
  refine ex_dec (fun h5 => ?_) (fun h5 => ?_)
  · have hql : q < l.length := by omega
    have hc : l[q]? = some l[q] := at_some hql
    generalize l[q] = c at *
    have hd1 : c.toNat / 16 < 16 := by have := c.toNat_lt; omega
    have hd2 : c.toNat % 16 < 16 := by omega
    have e1 : IntKind.u8.wrap ((c.toNat : Int).tdiv 16) = ((c.toNat / 16 : Nat) : Int) := by rw [Int.tdiv_eq_ediv_of_nonneg (by omega)]; exact wrap_un rfl (by omega) (by show _ < (256 : Int); omega)
    have e2 : (c.toNat : Int).tmod 16 = ((c.toNat % 16 : Nat) : Int) := by rw [Int.tmod_eq_emod_of_nonneg (by omega)]; rfl
    refine ex_chr q c rfl (by rw [hb]; exact hc) ?_
    refine ⟨by decide, ?_⟩
    refine ex_is (((c.toNat / 16 : Nat) : Int)) (e1) ?_
    refine ex_chr q c rfl (by rw [hb]; exact hc) ?_
    refine ⟨by decide, ?_⟩
    refine ex_is (((c.toNat / 16 : Nat) : Int)) (e1) ?_
    refine ex_u8 ((c.toNat / 16 + 1 : Nat) : Int) (by omega) (by omega) (by omega) ?_
    refine ⟨by omega, by omega, by show _ ≤ (16 : Int); omega, ?_⟩
    have hx1 := hex_cut (c.toNat / 16) hd1
    have hx2 := hex_cut (c.toNat % 16) hd2
    refine ⟨by rw [hsl, hx1, bs_size, List.length_singleton]; omega, ?_⟩
    refine ex_chr q c rfl (by rw [hb]; exact hc) ?_
    refine ⟨by decide, ?_⟩
    refine ex_is (((c.toNat % 16 : Nat) : Int)) (e2) ?_
    refine ex_chr q c rfl (by rw [hb]; exact hc) ?_
    refine ⟨by decide, ?_⟩
    refine ex_is (((c.toNat % 16 : Nat) : Int)) (e2) ?_
    refine ex_u8 ((c.toNat % 16 + 1 : Nat) : Int) (by omega) (by omega) (by omega) ?_
    refine ⟨by omega, by omega, by show _ ≤ (16 : Int); omega, ?_⟩
    refine ⟨by rw [ByteArray.size_append, hsl, hx1, hx2, bs_size, bs_size, List.length_singleton, List.length_singleton]; omega, ?_⟩
    refine ⟨by kernel_rfl, ?_⟩
    refine ex_i64 (((q + 1 : Nat) : Int)) (by first | rfl | omega | simp) (by omega) (by omega) ?_
    refine ex_round (q + 1, _) ⟨hql, ?_⟩ (by show _ - _ < _ - _; omega) (SLe.of ⟨⟨rfl, rfl, rfl, rfl, trivial⟩, ⟨rfl, trivial⟩⟩)
    rw [hx1, hx2, hs, bs_app, bs_app, List.take_add_one, hc, List.flatMap_append]
    refine congrArg bs ?_
    simp [hx]
  · obtain rfl : q = l.length := by omega
    rw [List.take_length] at hs
    refine ⟨by rw [hsl]; show _ + 1 ≤ _; omega, ?_⟩
    exact TLe.eq (by show Tstr (s ++ bs [34]) = Tstr (bs _); rw [hs, bs_app])
theorem RtCL (k : Int) (n : Nat) (b : ByteArray) (kids : List PV) (h3 : k = 3 ∨ k = 4) (ih : ∀ t ∈ kids, RtC t) : RtC (.mk k n b kids) := by
  intro hl
  have e : txP (.mk k n b kids) = [opn k] ++ txL true kids ++ [cls k] := txP_list k n b kids (by omega) (by omega) (by omega)
  rw [e, drow_mk]
  rw [e] at hl
  obtain ⟨T, hT⟩ : ∃ T, [opn k] ++ txL true kids = T := ⟨_, rfl⟩
  rw [hT]
  rw [hT] at hl
  rw [List.length_append, List.length_singleton] at hl
  have hkl : kids.length ≤ 70368744177600 := by have := txL_len true kids; rw [← hT] at hl; simp only [List.length_append] at hl; omega
  rcases h3 with rfl | rfl
  ·
    refine fn_rule (C := ⟨Tryd.prog, layF, Tryd.f16.ntmps, Γ0, 0, [], []⟩) layF_ok mixed Tryd.func16 rfl (by kernel_rfl) rfl rfl rfl ?_
    refine ex_false (by decide) ?_
    refine ex_false (by decide) ?_
    refine ex_false (by decide) ?_
    refine ex_false (by decide) ?_
    refine ex_loop (X := Nat × ByteArray) (fun ⟨q, s⟩ => ⟨[(1, .o (.c (.ptr 0 0))), (6, Tstr s), (7, Tstr (bs [cls 3])), (8, Ti q)], [(0, .obj [.d (di 3), .d (du n), .d (ds b), .d (.sl 4 (kids.map drow))])], 1⟩) (fun x => kids.length - x.1)
      (fun ⟨q, s⟩ => q ≤ kids.length ∧ ∃ m, s = bs m ∧ m ++ txL (decide (q = 0)) (kids.drop q) = T) (0, _) ⟨by omega, [opn 3], rfl, hT⟩ (SLe.of ⟨⟨rfl, rfl, rfl, rfl, trivial⟩, ⟨rfl, trivial⟩⟩) ?_
    rintro ⟨q, s⟩ ⟨hq, m, rfl, hm⟩
    refine ex_is (kids.length) (by simp) ?_
    refine ex_dec (fun h5 => ?_) (fun h5 => ?_)
    · have hql : q < kids.length := by omega
      rw [List.drop_eq_getElem_cons hql, txL] at hm
      have hw := ih kids[q] (List.getElem_mem hql)
      have hr : kids[q]? = some kids[q] := at_some hql
      generalize kids[q] = x at *
      have hml := congrArg List.length hm
      simp only [List.length_append] at hml
      refine ex_dec (fun h6 => ?_) (fun h6 => ?_)
      · have hq0 : decide (q = 0) = false := by simp; omega
        rw [if_neg (by simp; omega)] at hm
        rw [if_neg (by simp; omega)] at hml
        simp only [List.length_cons, List.length_nil] at hml
        refine ⟨by rw [bs_size]; show m.length + 2 ≤ _; omega, ?_⟩
        refine ex_row q x rfl hr ?_
        refine ex_call (hw (by omega)) ?_
        refine ⟨by have := bs_size (txP x); rw [ByteArray.size_append, bs_size m]; show m.length + 2 + (bs (txP x)).size ≤ _; omega, ?_⟩
        refine ex_i64 (((q + 1 : Nat) : Int)) (by first | rfl | omega | simp) (by omega) (by omega) ?_
        refine ex_round (q + 1, _) ⟨hql, m ++ [44, 32] ++ txP x, ?_, ?_⟩ (by show _ - _ < _ - _; omega) (SLe.of ⟨⟨rfl, rfl, rfl, rfl, trivial⟩, ⟨rfl, trivial⟩⟩)
        · show bs m ++ bs [44, 32] ++ bs (txP x) = _
          rw [bs_app, bs_app]
        · rw [← hm]
          simp
      · rw [if_pos (by simp; omega)] at hm
        refine ex_row q x rfl hr ?_
        refine ex_call (hw (by omega)) ?_
        refine ⟨by rw [bs_size, bs_size]; omega, ?_⟩
        refine ex_i64 (((q + 1 : Nat) : Int)) (by first | rfl | omega | simp) (by omega) (by omega) ?_
        refine ex_round (q + 1, _) ⟨hql, m ++ txP x, bs_app _ _, ?_⟩ (by show _ - _ < _ - _; omega) (SLe.of ⟨⟨rfl, rfl, rfl, rfl, trivial⟩, ⟨rfl, trivial⟩⟩)
        rw [← hm]
        simp
    · obtain rfl : q = kids.length := by omega
      rw [List.drop_length, txL, List.append_nil] at hm
      subst hm
      refine ⟨by rw [bs_size, bs_size, List.length_singleton]; omega, ?_⟩
      exact TLe.eq (by show Tstr (bs _ ++ bs _) = _; rw [bs_app])
  ·
    refine fn_rule (C := ⟨Tryd.prog, layF, Tryd.f16.ntmps, Γ0, 0, [], []⟩) layF_ok mixed Tryd.func16 rfl (by kernel_rfl) rfl rfl rfl ?_
    refine ex_false (by decide) ?_
    refine ex_false (by decide) ?_
    refine ex_false (by decide) ?_
    refine ex_true rfl ?_
    refine ex_loop (X := Nat × ByteArray) (fun ⟨q, s⟩ => ⟨[(1, .o (.c (.ptr 0 0))), (6, Tstr s), (7, Tstr (bs [cls 4])), (8, Ti q)], [(0, .obj [.d (di 4), .d (du n), .d (ds b), .d (.sl 4 (kids.map drow))])], 1⟩) (fun x => kids.length - x.1)
      (fun ⟨q, s⟩ => q ≤ kids.length ∧ ∃ m, s = bs m ∧ m ++ txL (decide (q = 0)) (kids.drop q) = T) (0, _) ⟨by omega, [opn 4], rfl, hT⟩ (SLe.of ⟨⟨rfl, rfl, rfl, rfl, trivial⟩, ⟨rfl, trivial⟩⟩) ?_
    rintro ⟨q, s⟩ ⟨hq, m, rfl, hm⟩
    refine ex_is (kids.length) (by simp) ?_
    refine ex_dec (fun h5 => ?_) (fun h5 => ?_)
    · have hql : q < kids.length := by omega
      rw [List.drop_eq_getElem_cons hql, txL] at hm
      have hw := ih kids[q] (List.getElem_mem hql)
      have hr : kids[q]? = some kids[q] := at_some hql
      generalize kids[q] = x at *
      have hml := congrArg List.length hm
      simp only [List.length_append] at hml
      refine ex_dec (fun h6 => ?_) (fun h6 => ?_)
      · have hq0 : decide (q = 0) = false := by simp; omega
        rw [if_neg (by simp; omega)] at hm
        rw [if_neg (by simp; omega)] at hml
        simp only [List.length_cons, List.length_nil] at hml
        refine ⟨by rw [bs_size]; show m.length + 2 ≤ _; omega, ?_⟩
        refine ex_row q x rfl hr ?_
        refine ex_call (hw (by omega)) ?_
        refine ⟨by have := bs_size (txP x); rw [ByteArray.size_append, bs_size m]; show m.length + 2 + (bs (txP x)).size ≤ _; omega, ?_⟩
        refine ex_i64 (((q + 1 : Nat) : Int)) (by first | rfl | omega | simp) (by omega) (by omega) ?_
        refine ex_round (q + 1, _) ⟨hql, m ++ [44, 32] ++ txP x, ?_, ?_⟩ (by show _ - _ < _ - _; omega) (SLe.of ⟨⟨rfl, rfl, rfl, rfl, trivial⟩, ⟨rfl, trivial⟩⟩)
        · show bs m ++ bs [44, 32] ++ bs (txP x) = _
          rw [bs_app, bs_app]
        · rw [← hm]
          simp
      · rw [if_pos (by simp; omega)] at hm
        refine ex_row q x rfl hr ?_
        refine ex_call (hw (by omega)) ?_
        refine ⟨by rw [bs_size, bs_size]; omega, ?_⟩
        refine ex_i64 (((q + 1 : Nat) : Int)) (by first | rfl | omega | simp) (by omega) (by omega) ?_
        refine ex_round (q + 1, _) ⟨hql, m ++ txP x, bs_app _ _, ?_⟩ (by show _ - _ < _ - _; omega) (SLe.of ⟨⟨rfl, rfl, rfl, rfl, trivial⟩, ⟨rfl, trivial⟩⟩)
        rw [← hm]
        simp
    · obtain rfl : q = kids.length := by omega
      rw [List.drop_length, txL, List.append_nil] at hm
      subst hm
      refine ⟨by rw [bs_size, bs_size, List.length_singleton]; omega, ?_⟩
      exact TLe.eq (by show Tstr (bs _ ++ bs _) = _; rw [bs_app])
mutual
theorem RtC_all : ∀ t : PV, AllP (fun k n _ => (0 ≤ k ∧ k < 5) ∧ n < 18446744073709551616) t → RtC t
  | .mk k n b l, h => by
    rw [AllP] at h
    by_cases h0 : k = 0
    · subst h0; exact RtC0 n b l
    by_cases h1 : k = 1
    · subst h1; exact RtC1 n b l h.1.2
    by_cases h2 : k = 2
    · subst h2; exact RtC2 n b l
    exact RtCL k n b l (by omega) (RtC_allL l h.2)
theorem RtC_allL : ∀ l : List PV, AllPL (fun k n _ => (0 ≤ k ∧ k < 5) ∧ n < 18446744073709551616) l → ∀ t ∈ l, RtC t
  | [], _ => by simp
  | x :: xs, h => by
    rw [AllPL] at h
    intro t ht
    rcases List.mem_cons.1 ht with e | ht
    · rw [e]; exact RtC_all x h.1
    · exact RtC_allL xs h.2 t ht
end
/-! ### Counts and depths -/
theorem depthL_iff : ∀ (l : List PV) (d m : Nat), (0 < depthL l d ∧ depthL l d ≤ m + 1) ↔ (d ≤ m ∧ ∀ x ∈ l, 0 < depthP x ∧ depthP x ≤ m)
  | [], d, m => by simp [depthL]
  | x :: xs, d, m => by
    rw [depthL]
    split
    · rename_i h
      constructor
      · intro h2; omega
      · intro ⟨_, h2⟩
        have := h2 x (by simp)
        omega
    · rw [depthL_iff xs]
      simp only [List.forall_mem_cons]
      split <;> constructor <;> intro ⟨h1, h2⟩
      · exact ⟨by omega, ⟨by omega, h1⟩, h2⟩
      · exact ⟨h2.1.2, h2.2⟩
      · exact ⟨h1, ⟨by omega, by omega⟩, h2⟩
      · exact ⟨h1, h2.2⟩
mutual
theorem countP_eq : ∀ (t : PV) (m : Nat), countP t m = if 0 < depthP t ∧ depthP t ≤ m then t.num else 0
  | .mk k n b l, m => by
    rw [countP, depthP]
    by_cases h0 : leanB k n b l.length = false
    · rw [if_pos (.inl h0), if_pos h0, if_neg (by omega)]
    rw [if_neg h0]
    cases m with
    | zero =>
      rw [if_pos (.inr rfl), if_neg (by omega)]
    | succ m =>
      rw [if_neg (by rintro (h | h); exact h0 h; omega), show m + 1 - 1 = m from rfl, countL_eq l m 1 (by omega), PV.num]
      have h2 := depthL_iff l 0 m
      by_cases h3 : ∀ x ∈ l, 0 < depthP x ∧ depthP x ≤ m
      · rw [if_pos h3, if_pos (h2.2 ⟨Nat.zero_le _, h3⟩)]
      · rw [if_neg h3, if_neg (fun h => h3 (h2.1 h).2)]
theorem countL_eq : ∀ (l : List PV) (m acc : Nat), 0 < acc → countL l m acc = if ∀ x ∈ l, 0 < depthP x ∧ depthP x ≤ m then acc + numL l else 0
  | [], m, acc, h => by simp [countL, numL]
  | x :: xs, m, acc, h => by
    rw [countL, countP_eq x m]
    have hn := num_pos x
    by_cases h1 : 0 < depthP x ∧ depthP x ≤ m
    · rw [if_pos h1, if_neg (by omega), countL_eq xs m _ (by omega), numL]
      by_cases h3 : ∀ y ∈ xs, 0 < depthP y ∧ depthP y ≤ m
      · rw [if_pos h3, if_pos (by simpa using ⟨h1, h3⟩)]; omega
      · rw [if_neg h3, if_neg (by simp only [List.forall_mem_cons]; exact fun h => h3 h.2)]
    · rw [if_neg h1, if_pos rfl, if_neg (by simp only [List.forall_mem_cons]; exact fun h => h1 h.1)]
end
theorem good_same (t : PV) : rgoodP t = goodP t := by
  unfold rgoodP goodP
  rw [countP_eq]
  have := num_pos t
  split
  · rename_i h; rw [decide_eq_true h, decide_eq_true (by omega)]
  · rename_i h; rw [decide_eq_false h, decide_eq_false (by omega)]
theorem count_good (t : PV) (h : goodP t = true) : countP t 1200 = t.num := by
  rw [← good_same] at h
  unfold rgoodP at h
  rw [countP_eq, if_pos (of_decide_eq_true h)]
/-- A good value's parts are lean. -/
theorem depth_all : ∀ (t : PV), 0 < depthP t → AllP (fun k _ _ => 0 ≤ k ∧ k < 5) t
  | .mk k n b l, h => by
    rw [depthP] at h
    split at h
    · omega
    rename_i h0
    rw [AllP_mk]
    have h1 : leanB k n b l.length = true := by cases hl : leanB k n b l.length with | true => rfl | false => exact absurd hl h0
    simp only [leanB, Bool.and_eq_true, decide_eq_true_eq] at h1
    refine ⟨h1.1.1.1, AllPL_of fun x hx => ?_⟩
    have h3 := ((depthL_iff l 0 (depthL l 0)).1 ⟨h, by omega⟩).2 x hx
    have := List.sizeOf_lt_of_mem hx
    exact depth_all x h3.1
termination_by t => SizeOf.sizeOf t
decreasing_by simp only [PV.mk.sizeOf_spec]; omega
end Go.Proofs.YtkeehnhamkdogaaDoor

namespace Go.Proofs.YtkeehnhamkdogaaDoor
set_option linter.unusedVariables false
set_option linter.unusedSimpArgs false
open Go.ChangeShapes Go.WideShapes Go.ChangeAt Go.RowKit

theorem own : ownKnob Tryd.prog.godebug = none := by kernel_rfl
theorem laidOut : laidOutB Tryd.prog = true := by kernel_rfl

section
variable {H : Type} {enc : TypeId × Value → H} {P : Program} {W W' : World}

theorem trodAll_below (hl : laidOutB P = true) (hb : Below W.heap.size W W') : ∀ (ts : List TypeId) (vs : List Value) (ds : List (DataW H)) (ps : List MemPlace), (∀ t ∈ ts, P.readableRec t = true ∧ t < P.types.size) →
    DataW.TrodAll enc P W 0 (fun _ => true) true ts vs ds ps → (∀ x ∈ ps, x.block < W.heap.size) → DataW.TrodAll enc P W' 0 (fun b => decide (b < W.heap.size)) true ts vs ds ps
  | [], [], [], _, _, h, _ => h
  | t :: ts, v :: vs, d :: ds, ps, hr, h, hlt => by
    obtain ⟨p, q, h1, h2, rfl⟩ := h
    have ht := hr t (by simp)
    exact ⟨p, q, Below.trod hl ht.1 ht.2 h1 hb (fun x hx => hlt x (by simp [hx])), trodAll_below hl hb ts vs ds q (fun t' h' => hr t' (by simp [h'])) h2 (fun x hx => hlt x (by simp [hx])), rfl⟩
  | [], [], _ :: _, _, _, h, _ => h.elim
  | [], _ :: _, _, _, _, h, _ => h.elim
  | _ :: _, [], _, _, _, h, _ => h.elim
  | _ :: _, _ :: _, [], _, _, h, _ => h.elim

/-- A law's row: true, and every argument reads as it did. -/
theorem law_post {f : Func} {s : ChangeSpec} {args : Array Value} {ds : List (DataW H)} {before : List MemPlace} {tb : TypeId} (hl : laidOutB P = true)
    (hW : DataW.Whole enc P f.params.toList s.vars false W args.toList ds [] before) (hsv : s.vars = []) (hr0 : (f.params.toList.all fun t => P.readableRec t && decide (t < P.types.size)) = true)
    (hrt : f.resultTypes = #[tb]) (htb : P.underlying tb = some .bool) (h1 : (s.fn H (ds ++ [])).results = [.lit (.bool true)]) (h2 : (s.fn H (ds ++ [])).args = ds) (h3 : (s.fn H (ds ++ [])).vars = [])
    (hb : Below W.heap.size W W') : s.post enc P f false true false false W args (.bool true) W' := by
  have hr : ∀ t ∈ f.params.toList, P.readableRec t = true ∧ t < P.types.size := fun t ht => by simpa using List.all_eq_true.1 hr0 t ht
  have hlt : ∀ p ∈ before, p.block < W.heap.size := fun p hp => hW.lt p hp
  have hW0 := hW
  obtain ⟨p, q, hA, hV, rfl, _, _⟩ := hW0
  rw [hsv] at hV
  obtain rfl : q = [] := hV
  refine ⟨ds, [], _, [], p, [], hW, ?_, ?_, ?_, hb.frame _, fun h => by cases h⟩
  · rw [h1, hrt]
    exact trodAll_mk1 (shut_bool htb true)
  · rw [h2]
    exact trodAll_below hl hb _ _ _ _ hr hA (fun x hx => hlt x (by simp [hx]))
  · rw [h3, hsv]; rfl
end

section
variable {H : Type} {enc : TypeId × Value → H} {P : Program} {w : World} {base : Nat} {sp : Nat → Bool} {held : Bool}

theorem okWide_array {r : Reach} {b : Nat} {t e : TypeId} {n : Nat} {v : Value} (ht : P.underlying t = some (.array n e)) (h : Value.okWide P w r b t v) : ∃ cs, v = .agg cs ∧ cs.size = P.cellsOf t := by
  simp only [Value.okWide, ht] at h
  obtain ⟨cs, h1, h2, _⟩ := h
  exact ⟨cs, h1, h2⟩

/-- An array of integers by value. -/
theorem open_int_array {r : Reach} {b0 : Nat} {t e : TypeId} {n : Nat} {k : IntKind} {v : Value} {d : DataW H} {ps : List MemPlace} (ht : P.underlying t = some (.array n e)) (he : P.underlying e = some (.int k)) (hc : P.cellsOf e = 1) (hn : P.cellsOf t = n)
    (hval : Value.okWide P w r b0 t v) (hd : DataW.Trod enc P w base sp held t v d ps) : ∃ zs : List Int, zs.length = n ∧ v = .agg (zs.map (Value.int k)).toArray ∧ ∀ z ∈ zs, (Lit.int k z).wf = true := by
  obtain ⟨cs, rfl, hs⟩ := okWide_array ht hval
  obtain ⟨fuel, hf⟩ := hd
  obtain ⟨xs, m, _, _, hl, hx, hall⟩ := DataW.trod_array ht hf
  have hcs : (Value.agg cs).cells.toList = cs.toList := rfl
  rw [hcs] at hl hall
  have hlen : cs.toList.length = n := by rw [hl, hn]
  have key : ∀ i, (h : i < cs.toList.length) → ∃ z, cs.toList[i] = .int k z ∧ (Lit.int k z).wf = true := by
    intro i h
    have h1 := hall i (by omega)
    rw [hc, Nat.mul_one, List.take_one, List.head?_drop, List.getElem?_eq_getElem h, List.getElem?_eq_getElem (by omega)] at h1
    obtain ⟨z, hz, _, hw⟩ := DataW.trod_int he h1
    exact ⟨z, by simpa using hz, hw⟩
  have all : ∀ l : List Value, (∀ i, (h : i < l.length) → ∃ z, l[i] = .int k z ∧ (Lit.int k z).wf = true) → ∃ zs : List Int, zs.length = l.length ∧ l = zs.map (Value.int k) ∧ ∀ z ∈ zs, (Lit.int k z).wf = true := by
    intro l
    induction l with
    | nil => exact fun _ => ⟨[], rfl, rfl, by simp⟩
    | cons c l ih =>
      intro h
      obtain ⟨z, hz, hw⟩ := h 0 (by simp)
      obtain ⟨zs, h1, h2, h3⟩ := ih (fun i hi => by obtain ⟨z', h', w'⟩ := h (i + 1) (by simpa using hi); exact ⟨z', h', w'⟩)
      refine ⟨z :: zs, by simp [h1], ?_, ?_⟩
      · simp only [List.map_cons]
        rw [← h2, ← hz]; rfl
      · intro y hy
        rcases List.mem_cons.1 hy with rfl | hy
        · exact hw
        · exact h3 y hy
  obtain ⟨zs, h1, h2, h3⟩ := all cs.toList key
  exact ⟨zs, by rw [h1, hlen], by rw [← h2], h3⟩

theorem len2 {zs : List Int} (h : zs.length = 2) : ∃ a b, zs = [a, b] := by
  match zs, h with
  | [a, b], _ => exact ⟨a, b, rfl⟩
theorem len3 {zs : List Int} (h : zs.length = 3) : ∃ a b c, zs = [a, b, c] := by
  match zs, h with
  | [a, b, c], _ => exact ⟨a, b, c, rfl⟩
theorem len4 {zs : List Int} (h : zs.length = 4) : ∃ a b c d, zs = [a, b, c, d] := by
  match zs, h with
  | [a, b, c, d], _ => exact ⟨a, b, c, d, rfl⟩

theorem wf_i64 {n : Int} (h : (Lit.int .i64 n).wf = true) : -9223372036854775808 ≤ n ∧ n ≤ 9223372036854775807 := by
  have h1 : IntKind.i64.min = -9223372036854775808 := rfl
  have h2 : IntKind.i64.max = 9223372036854775807 := rfl
  simpa [Lit.wf, h1, h2] using h
theorem wf_u64 {n : Int} (h : (Lit.int .u64 n).wf = true) : 0 ≤ n ∧ n ≤ 18446744073709551615 := by
  have h1 : IntKind.u64.min = 0 := rfl
  have h2 : IntKind.u64.max = 18446744073709551615 := rfl
  simpa [Lit.wf, h1, h2] using h
theorem wf_u32 {n : Int} (h : (Lit.int .u32 n).wf = true) : 0 ≤ n ∧ n ≤ 4294967295 := by
  have h1 : IntKind.u32.min = 0 := rfl
  have h2 : IntKind.u32.max = 4294967295 := rfl
  simpa [Lit.wf, h1, h2] using h
theorem wf_u16 {n : Int} (h : (Lit.int .u16 n).wf = true) : 0 ≤ n ∧ n ≤ 65535 := by
  have h1 : IntKind.u16.min = 0 := rfl
  have h2 : IntKind.u16.max = 65535 := rfl
  simpa [Lit.wf, h1, h2] using h
theorem wf_u8 {n : Int} (h : (Lit.int .u8 n).wf = true) : 0 ≤ n ∧ n ≤ 255 := by
  have h1 : IntKind.u8.min = 0 := rfl
  have h2 : IntKind.u8.max = 255 := rfl
  simpa [Lit.wf, h1, h2] using h
end
end Go.Proofs.YtkeehnhamkdogaaDoor

namespace Go.Proofs.YtkeehnhamkdogaaDoor
set_option linter.unusedVariables false
set_option linter.unusedSimpArgs false
open Go.ChangeShapes Go.WideShapes Go.ChangeAt Go.RowKit

def tilesF (P : Program) : Nat → List Field → Nat → Bool
  | o, [], n => Nat.beq o n
  | o, f :: fs, n => Nat.beq f.offset o && tilesF P (o + P.cellsOf f.type) fs n
/-- Is a type one that is read, to so many levels? -/
def okT (P : Program) : Nat → TypeId → Bool
  | 0, _ => false
  | d + 1, t => match P.underlying t with
    | some .bool | some (.int _) | some .string => true
    | some (.slice e) => Nat.blt 0 (P.cellsOf e) && okT P d e
    | some (.array n e) => Nat.beq (n * P.cellsOf e) (P.cellsOf t) && okT P d e
    | some (.struct fs) => tilesF P 0 fs.toList (P.cellsOf t) && fs.toList.all fun f => okT P d f.type
    | _ => false
/-- What the cells of a value of a type read as. -/
def DT (P : Program) : Nat → TypeId → List D → Prop
  | 0, _, _ => False
  | d + 1, t, ds => match P.underlying t with
    | some .bool => ∃ b, ds = [.v (.bool b)]
    | some (.int k) => ∃ z, ds = [.v (.int k z)] ∧ (Lit.int k z).wf = true
    | some .string => ∃ s, ds = [.v (.string s)] ∧ s.size ≤ maxLen
    | some (.slice e) => ∃ rows, ds = [.sl (P.cellsOf e) rows] ∧ rows.length ≤ maxLen ∧ ∀ r ∈ rows, DT P d e r
    | some (.array n e) => ∃ ps : List (List D), ps.length = n ∧ ds = ps.flatten ∧ ∀ p ∈ ps, DT P d e p
    | some (.struct fs) => ∃ ps : List (List D), ds = ps.flatten ∧ All2 (fun (f : Field) p => DT P d f.type p) fs.toList ps
    | _ => False
theorem choose_list {α : Type} {Q : Nat → α → Prop} : ∀ {n : Nat}, (∀ i, i < n → ∃ a, Q i a) → ∃ L : List α, L.length = n ∧ ∀ i a, L[i]? = some a → Q i a
  | 0, _ => ⟨[], rfl, fun i a h => by simp at h⟩
  | n + 1, h => by
    obtain ⟨L, h1, h2⟩ := choose_list (n := n) (fun i hi => h i (by omega))
    obtain ⟨a, ha⟩ := h n (by omega)
    refine ⟨L ++ [a], by simp [h1], fun i b hb => ?_⟩
    rw [List.getElem?_append] at hb
    split at hb
    · exact h2 i b hb
    · rename_i hlt
      have hi : i - L.length = 0 := by
        rcases Nat.eq_zero_or_pos (i - L.length) with h | h
        · exact h
        · rw [List.getElem?_eq_none (by simp; omega)] at hb; cases hb
      rw [hi] at hb
      simp at hb
      obtain rfl : i = n := by omega
      rw [← hb]; exact ha
theorem flatten_at {α : Type} {size : Nat} (h0 : 0 < size) : ∀ {rows : List (List α)} (_ : ∀ r ∈ rows, r.length = size) {j : Nat} {d : α}, rows.flatten[j]? = some d → ∃ r, rows[j / size]? = some r ∧ r[j % size]? = some d
  | [], _, j, d, h => by simp at h
  | a :: rows, hr, j, d, h => by
    have ha := hr a (by simp)
    by_cases hj : j < size
    · rw [List.flatten_cons, List.getElem?_append_left (by omega)] at h
      rw [Nat.div_eq_of_lt hj, Nat.mod_eq_of_lt hj]
      exact ⟨a, rfl, h⟩
    · rw [List.flatten_cons, List.getElem?_append_right (by omega), ha] at h
      obtain ⟨r, h1, h2⟩ := flatten_at h0 (fun r hr' => hr r (by simp [hr'])) h
      refine ⟨r, ?_, ?_⟩
      · rw [show j / size = (j - size) / size + 1 by rw [Nat.div_eq_sub_div h0 (by omega)]]
        simpa using h1
      · rw [Nat.mod_eq_sub_mod (by omega)]; exact h2
/-- All memory of a world. -/
def Sall (w : World) : Nat → Prop := fun b => b < w.heap.size
theorem cell_lt {w : World} {a : Addr} {u : Value} (h : w.cell? a = some u) : a.block < w.heap.size ∧ a.spot = none := by
  unfold World.cell? at h
  split at h
  · rename_i c t f hc
    refine ⟨(Array.getElem?_eq_some_iff.1 hc).1, ?_⟩
    split at h
    · cases h
    · rename_i hs
      cases hsp : a.spot with
      | none => rfl
      | some k => rw [hsp] at hs; simp at hs
  · cases h
theorem cells_get {w : World} {base : Nat} {a : Addr} {n : Nat} {cs : List Value} (h : w.cells? base a n = some cs) : cs.length = n ∧ ∀ i, i < n → w.cell? (a.add i) = cs[i]? := by
  unfold World.cells? at h
  split at h
  · obtain ⟨h1, h2⟩ := mapM_isSome h
    rw [List.length_range] at h1
    refine ⟨h1.symm, fun i hi => ?_⟩
    obtain ⟨b, hb1, hb2⟩ := h2 i i (by simp [hi])
    rw [hb1, hb2]
  · cases h
section
variable {H : Type} {enc : TypeId × Value → H} {P : Program} {w : World} {base : Nat} {sp : Nat → Bool} {held : Bool}
theorem parts_all {R : D → Value → Prop} {T : Field → List D → Prop} : ∀ (fs : List Field) (o : Nat) (cs : List Value) (n : Nat), cs.length = n → tilesF P o fs n = true → o ≤ n →
    (∀ f ∈ fs, ∃ ds, T f ds ∧ All2 R ds ((cs.drop f.offset).take (P.cellsOf f.type))) → ∃ ps : List (List D), All2 T fs ps ∧ All2 R ps.flatten (cs.drop o)
  | [], o, cs, n, hl, ht, _, _ => by
    have : o = n := Nat.eq_of_beq_eq_true ht
    exact ⟨[], .nil, by rw [List.drop_of_length_le (by omega)]; exact .nil⟩
  | f :: fs, o, cs, n, hl, ht, ho, h => by
    simp only [tilesF, Bool.and_eq_true] at ht
    have ho' : f.offset = o := Nat.eq_of_beq_eq_true ht.1
    obtain ⟨ds, h1, h2⟩ := h f (by simp)
    have hle : o + P.cellsOf f.type ≤ n := by
      have key : ∀ (fs : List Field) (o : Nat), tilesF P o fs n = true → o ≤ n := fun fs => by
        induction fs with
        | nil => intro o h; exact Nat.le_of_eq (Nat.eq_of_beq_eq_true h)
        | cons g gs ih =>
          intro o h
          simp only [tilesF, Bool.and_eq_true] at h
          have := ih _ h.2
          omega
      exact key fs _ ht.2
    obtain ⟨ps, h3, h4⟩ := parts_all fs _ cs n hl ht.2 hle (fun g hg => h g (by simp [hg]))
    refine ⟨ds :: ps, .cons h1 h3, ?_⟩
    rw [List.flatten_cons, ho'] at *
    have := h2.append h4
    rwa [← List.drop_drop, List.take_append_drop] at this
theorem trod_dt : ∀ (d fuel : Nat) (t : TypeId) (cs : List Value) (x : DataW H × List MemPlace), okT P d t = true → DataW.trod enc P w base sp held fuel t cs = some x → ∃ ds, DT P d t ds ∧ All2 (Imm (Sall w) w) ds cs
  | 0, _, _, _, _, h, _ => by cases h
  | d + 1, fuel, t, cs, x, hok, h => by
    unfold okT at hok
    unfold DT
    split at hok
    · rename_i hu
      obtain ⟨b, rfl, _⟩ := DataW.trod_bool hu h
      exact ⟨_, ⟨b, rfl⟩, .cons (Imm.v rfl) .nil⟩
    · rename_i k hu
      obtain ⟨n, rfl, _, hw⟩ := DataW.trod_int hu h
      exact ⟨_, ⟨n, rfl, hw⟩, .cons (Imm.v rfl) .nil⟩
    · rename_i hu
      obtain ⟨s, rfl, _, hs⟩ := DataW.trod_string hu h
      exact ⟨_, ⟨s, rfl, hs⟩, .cons (Imm.v rfl) .nil⟩
    · rename_i e hu
      simp only [Bool.and_eq_true] at hok
      have h0 : 0 < P.cellsOf e := Nat.lt_of_succ_le (Nat.le_of_ble_eq_true hok.1)
      rcases DataW.trod_slice hu h with ⟨rfl, _⟩ | ⟨a, len, cap, elems, rest, n, _, rfl, _, _, hlc, hcm, hel, hel2, _⟩
      · exact ⟨_, ⟨[], rfl, by simp, by simp⟩, .cons Imm.nil .nil⟩
      · have hone : ∀ i, i < len → ∃ ds, DT P d e ds ∧ ∃ cs', w.cells? base (a.add (i * P.cellsOf e)) (P.cellsOf e) = some cs' ∧ All2 (Imm (Sall w) w) ds cs' := fun i hi => by
          have h1 := hel2 i hi
          rw [List.getElem?_eq_getElem (by omega)] at h1
          obtain ⟨cs', h2, h3⟩ := Option.bind_eq_some_iff.1 h1
          obtain ⟨ds, h4, h5⟩ := trod_dt d n e cs' _ hok.2 h3
          exact ⟨ds, h4, cs', h2, h5⟩
        obtain ⟨rows, hr1, hr2⟩ := choose_list hone
        have hrm : ∀ r ∈ rows, ∃ i, i < len ∧ rows[i]? = some r := fun r hr => by
          obtain ⟨i, hi⟩ := List.getElem?_of_mem hr
          exact ⟨i, by have := (List.getElem?_eq_some_iff.1 hi).1; omega, hi⟩
        have hdt : ∀ r ∈ rows, DT P d e r := fun r hr => by
          obtain ⟨i, _, hi⟩ := hrm r hr
          exact (hr2 i r hi).1
        have hrl : ∀ r ∈ rows, r.length = P.cellsOf e := fun r hr => by
          obtain ⟨i, _, hi⟩ := hrm r hr
          obtain ⟨_, cs', h2, h3⟩ := hr2 i r hi
          rw [h3.len, (cells_get h2).1]
        refine ⟨_, ⟨rows, rfl, by omega, hdt⟩, .cons ?_ .nil⟩
        by_cases hz : len = 0
        · subst hz
          obtain rfl := List.eq_nil_of_length_eq_zero hr1
          exact Imm.sl0
        · obtain ⟨r0, _, cs0, h2, _⟩ := hone 0 (by omega)
          have h3 := (cells_get h2).2 0 h0
          rw [Nat.zero_mul] at h3
          have e0 : (a.add 0).add 0 = a := rfl
          rw [e0, List.getElem?_eq_getElem (by rw [(cells_get h2).1]; exact h0)] at h3
          obtain ⟨hb, hs⟩ := cell_lt h3
          obtain ⟨g, f, spot⟩ := a
          simp only at hs hb
          subst hs
          rw [← hr1]
          have hat : ∀ j dd, rows.flatten[j]? = some dd → ∃ u, w.cell? ⟨g, f + j, none⟩ = some u ∧ Imm (Sall w) w dd u := fun j dd hj => by
            obtain ⟨r, e1, e2⟩ := flatten_at h0 hrl hj
            obtain ⟨_, cs', e3, e4⟩ := hr2 _ r e1
            obtain ⟨u, e5, e6⟩ := e4.at_left e2
            refine ⟨u, ?_, e6⟩
            have e7 := (cells_get e3).2 (j % P.cellsOf e) (Nat.mod_lt _ h0)
            rw [Addr.add_lit, Addr.add_lit, e5] at e7
            rw [← e7]
            congr 2
            rw [Nat.add_assoc, Nat.mul_comm, Nat.div_add_mod]
          refine Imm.sl (fun j => (w.cell? ⟨g, f + j, none⟩).getD undef) hb (by omega) hrl (fun j dd hj => ?_) (fun j dd hj => ?_)
          · obtain ⟨u, e1, _⟩ := hat j dd hj
            rw [e1]; rfl
          · obtain ⟨u, e1, e2⟩ := hat j dd hj
            rw [e1]; exact e2
    · rename_i n e hu
      simp only [Bool.and_eq_true] at hok
      have hn : n * P.cellsOf e = P.cellsOf t := Nat.eq_of_beq_eq_true hok.1
      obtain ⟨xs, m, _, _, hl, hx, hall⟩ := DataW.trod_array hu h
      have hone : ∀ i, i < n → ∃ ds, DT P d e ds ∧ All2 (Imm (Sall w) w) ds ((cs.drop (i * P.cellsOf e)).take (P.cellsOf e)) := fun i hi => by
        have h1 := hall i hi
        rw [List.getElem?_eq_getElem (by omega)] at h1
        exact trod_dt d m e _ _ hok.2 h1
      obtain ⟨ps, hp1, hp2⟩ := choose_list hone
      refine ⟨ps.flatten, ⟨ps, hp1, rfl, fun p hp => ?_⟩, ?_⟩
      · obtain ⟨i, hi⟩ := List.getElem?_of_mem hp
        exact (hp2 i p hi).1
      · have key : ∀ (ps : List (List D)) (o : Nat), (∀ i p, ps[i]? = some p → All2 (Imm (Sall w) w) p ((cs.drop ((o + i) * P.cellsOf e)).take (P.cellsOf e))) → (o + ps.length) * P.cellsOf e = cs.length → All2 (Imm (Sall w) w) ps.flatten (cs.drop (o * P.cellsOf e)) := fun ps => by
          induction ps with
          | nil => intro o _ hlen; rw [List.drop_of_length_le (by simp at hlen; omega)]; exact .nil
          | cons p ps ih =>
            intro o hp hlen
            have h1 := hp 0 p rfl
            have h2 := ih (o + 1) (fun i q hq => by have := hp (i + 1) q (by simpa using hq); rwa [show o + 1 + i = o + (i + 1) by omega]) (by rw [← hlen, List.length_cons]; congr 1; omega)
            rw [List.flatten_cons]
            have := h1.append h2
            rwa [Nat.add_zero, Nat.add_mul, Nat.one_mul, ← List.drop_drop, List.take_append_drop] at this
        have := key ps 0 (fun i p hi => by rw [Nat.zero_add]; exact (hp2 i p hi).2) (by rw [Nat.zero_add, hp1, hn, hl])
        simpa using this
    · rename_i fs hu
      simp only [Bool.and_eq_true] at hok
      obtain ⟨xs, m, _, _, hl, hx, hall⟩ := DataW.trod_struct hu h
      obtain ⟨ps, h1, h2⟩ := parts_all (R := Imm (Sall w) w) (T := fun f p => DT P d f.type p) fs.toList 0 cs _ hl hok.1 (Nat.zero_le _) (fun f hf => by
        obtain ⟨i, hi⟩ := List.getElem?_of_mem hf
        have hlt := (List.getElem?_eq_some_iff.1 hi).1
        have h1 := hall i f (by simpa using hi)
        rw [List.getElem?_eq_getElem (by simp at hlt; omega)] at h1
        exact trod_dt d m f.type _ _ (List.all_eq_true.1 hok.2 f hf) h1)
      exact ⟨ps.flatten, ⟨ps, rfl, h1⟩, by simpa using h2⟩
    · cases hok
/-- An argument that came in reads as data of its type. -/
theorem open_dt {d : Nat} {r : Reach} {b0 : Nat} {t : TypeId} {v : Value} {dd : DataW H} {ps : List MemPlace} (hok : okT P d t = true) (hag : (P.underlying t).map aggD = some false) (hval : Value.okWide P w r b0 t v) (hd : DataW.Trod enc P w base sp held t v dd ps) :
    ∃ x, DT P d t [x] ∧ Imm (Sall w) w x v := by
  obtain ⟨fuel, hf⟩ := hd
  obtain ⟨ds, h1, h2⟩ := trod_dt d fuel t _ _ hok hf
  have hone : v.oneCell' = true := by
    cases d with
    | zero => cases hok
    | succ d =>
      unfold okT at hok
      split at hok
      · rename_i hu; obtain ⟨b, rfl⟩ := okWide_bool hu hval; rfl
      · rename_i hu; obtain ⟨n, rfl⟩ := okWide_int hu hval; rfl
      · rename_i hu; obtain ⟨s, rfl⟩ := okWide_string hu hval; rfl
      · rename_i hu; obtain ⟨a, l, c, rfl⟩ := okWide_slice hu hval; rfl
      · rename_i hu; rw [hu] at hag; cases hag
      · rename_i hu; rw [hu] at hag; cases hag
      · cases hok
  rw [oneCell_cells hone] at h2
  have hl := h2.len
  match ds, h2, hl with
  | [x], h2, _ => exact ⟨x, h1, h2.head⟩
end
end Go.Proofs.YtkeehnhamkdogaaDoor

namespace Go.Proofs.YtkeehnhamkdogaaDoor
set_option linter.unusedVariables false
set_option linter.unusedSimpArgs false
open Go.ChangeShapes Go.WideShapes Go.ChangeAt Go.RowKit
set_option maxRecDepth 100000

mutual
/-- How many values and letters a datum holds. -/
def dsz : D → Nat
  | .v (.string s) => s.size + 1
  | .v _ => 1
  | .err => 1
  | .sl _ rows => dszR rows + 1
def dszL : List D → Nat
  | [] => 0
  | d :: l => dsz d + dszL l
def dszR : List (List D) → Nat
  | [] => 0
  | r :: l => dszL r + dszR l
end
theorem dszL_app : ∀ l m : List D, dszL (l ++ m) = dszL l + dszL m
  | [], m => by simp [dszL]
  | d :: l, m => by rw [List.cons_append, dszL, dszL, dszL_app l m]; omega
theorem dszL_flat : ∀ l : List (List D), dszL l.flatten = dszR l
  | [] => rfl
  | r :: l => by rw [List.flatten_cons, dszL_app, dszR, dszL_flat l]
section
variable {H : Type} {enc : TypeId × Value → H} {P : Program} {w : World} {base : Nat} {sp : Nat → Bool} {held : Bool}
theorem sum_bulk : ∀ (rows : List (List D)) (ys : List (DataW H × List MemPlace)), rows.length ≤ ys.length → (∀ (i : Nat) (r : List D) (y : DataW H × List MemPlace), rows[i]? = some r → ys[i]? = some y → dszL r ≤ Rows.uptoBulk y.1) → dszR rows ≤ Rows.uptoBulkAll (ys.map (·.1))
  | [], ys, _, _ => Nat.zero_le _
  | r :: rows, [], h, _ => by simp at h
  | r :: rows, y :: ys, h, hp => by
    have h1 := hp 0 r y rfl rfl
    have h2 := sum_bulk rows ys (by simpa using h) (fun i r' y' hi hy => hp (i + 1) r' y' (by simpa using hi) (by simpa using hy))
    rw [List.map_cons, dszR, Rows.uptoBulkAll]; omega
theorem trod_bulk : ∀ (d fuel : Nat) (t : TypeId) (cs : List Value) (x : DataW H × List MemPlace), okT P d t = true → DataW.trod enc P w base sp held fuel t cs = some x → ∃ ds, DT P d t ds ∧ All2 (Imm (Sall w) w) ds cs ∧ dszL ds ≤ Rows.uptoBulk x.1
  | 0, _, _, _, _, h, _ => by cases h
  | d + 1, fuel, t, cs, x, hok, h => by
    unfold okT at hok
    unfold DT
    split at hok
    · rename_i hu
      obtain ⟨b, rfl, rfl⟩ := DataW.trod_bool hu h
      exact ⟨_, ⟨b, rfl⟩, .cons (Imm.v rfl) .nil, by simp [dszL, dsz, Rows.uptoBulk]⟩
    · rename_i k hu
      obtain ⟨n, rfl, rfl, hw⟩ := DataW.trod_int hu h
      exact ⟨_, ⟨n, rfl, hw⟩, .cons (Imm.v rfl) .nil, by simp [dszL, dsz, Rows.uptoBulk]⟩
    · rename_i hu
      obtain ⟨s, rfl, rfl, hs⟩ := DataW.trod_string hu h
      exact ⟨_, ⟨s, rfl, hs⟩, .cons (Imm.v rfl) .nil, by simp [dszL, dsz, Rows.uptoBulk]⟩
    · rename_i e hu
      simp only [Bool.and_eq_true] at hok
      have h0 : 0 < P.cellsOf e := Nat.lt_of_succ_le (Nat.le_of_ble_eq_true hok.1)
      rcases DataW.trod_slice hu h with ⟨rfl, rfl⟩ | ⟨a, len, cap, elems, rest, n, _, rfl, rfl, _, hlc, hcm, hel, hel2, _⟩
      · exact ⟨_, ⟨[], rfl, by simp, by simp⟩, .cons Imm.nil .nil, by simp [dszL, dsz, dszR, Rows.uptoBulk]⟩
      · have hone : ∀ i, i < len → ∃ ds, DT P d e ds ∧ (∃ cs', w.cells? base (a.add (i * P.cellsOf e)) (P.cellsOf e) = some cs' ∧ All2 (Imm (Sall w) w) ds cs') ∧ ∀ y, elems[i]? = some y → dszL ds ≤ Rows.uptoBulk y.1 := fun i hi => by
          have h1 := hel2 i hi
          rw [List.getElem?_eq_getElem (by omega)] at h1
          obtain ⟨cs', h2, h3⟩ := Option.bind_eq_some_iff.1 h1
          obtain ⟨ds, h4, h5, h6⟩ := trod_bulk d n e cs' _ hok.2 h3
          exact ⟨ds, h4, ⟨cs', h2, h5⟩, fun y hy => by rw [List.getElem?_eq_getElem (by omega)] at hy; cases hy; exact h6⟩
        obtain ⟨rows, hr1, hr2⟩ := choose_list hone
        have hrm : ∀ r ∈ rows, ∃ i, i < len ∧ rows[i]? = some r := fun r hr => by
          obtain ⟨i, hi⟩ := List.getElem?_of_mem hr
          exact ⟨i, by have := (List.getElem?_eq_some_iff.1 hi).1; omega, hi⟩
        have hdt : ∀ r ∈ rows, DT P d e r := fun r hr => by
          obtain ⟨i, _, hi⟩ := hrm r hr
          exact (hr2 i r hi).1
        have hrl : ∀ r ∈ rows, r.length = P.cellsOf e := fun r hr => by
          obtain ⟨i, _, hi⟩ := hrm r hr
          obtain ⟨_, ⟨cs', h2, h3⟩, _⟩ := hr2 i r hi
          rw [h3.len, (cells_get h2).1]
        refine ⟨_, ⟨rows, rfl, by omega, hdt⟩, .cons ?_ .nil, ?_⟩
        rotate_left
        · have := sum_bulk rows elems (by omega) (fun i r y hi hy => (hr2 i r hi).2.2 y hy)
          simp only [dszL, dsz, Rows.uptoBulk]
          omega
        by_cases hz : len = 0
        · subst hz
          obtain rfl := List.eq_nil_of_length_eq_zero hr1
          exact Imm.sl0
        · obtain ⟨r0, _, ⟨cs0, h2, _⟩, _⟩ := hone 0 (by omega)
          have h3 := (cells_get h2).2 0 h0
          rw [Nat.zero_mul] at h3
          have e0 : (a.add 0).add 0 = a := rfl
          rw [e0, List.getElem?_eq_getElem (by rw [(cells_get h2).1]; exact h0)] at h3
          obtain ⟨hb, hs⟩ := cell_lt h3
          obtain ⟨g, f, spot⟩ := a
          simp only at hs hb
          subst hs
          rw [← hr1]
          have hat : ∀ j dd, rows.flatten[j]? = some dd → ∃ u, w.cell? ⟨g, f + j, none⟩ = some u ∧ Imm (Sall w) w dd u := fun j dd hj => by
            obtain ⟨r, e1, e2⟩ := flatten_at h0 hrl hj
            obtain ⟨_, ⟨cs', e3, e4⟩, _⟩ := hr2 _ r e1
            obtain ⟨u, e5, e6⟩ := e4.at_left e2
            refine ⟨u, ?_, e6⟩
            have e7 := (cells_get e3).2 (j % P.cellsOf e) (Nat.mod_lt _ h0)
            rw [Addr.add_lit, Addr.add_lit, e5] at e7
            rw [← e7]
            congr 2
            rw [Nat.add_assoc, Nat.mul_comm, Nat.div_add_mod]
          refine Imm.sl (fun j => (w.cell? ⟨g, f + j, none⟩).getD undef) hb (by omega) hrl (fun j dd hj => ?_) (fun j dd hj => ?_)
          · obtain ⟨u, e1, _⟩ := hat j dd hj
            rw [e1]; rfl
          · obtain ⟨u, e1, e2⟩ := hat j dd hj
            rw [e1]; exact e2
    · rename_i n e hu
      simp only [Bool.and_eq_true] at hok
      have hn : n * P.cellsOf e = P.cellsOf t := Nat.eq_of_beq_eq_true hok.1
      obtain ⟨xs, m, _, rfl, hl, hx, hall⟩ := DataW.trod_array hu h
      have hone : ∀ i, i < n → ∃ ds, DT P d e ds ∧ All2 (Imm (Sall w) w) ds ((cs.drop (i * P.cellsOf e)).take (P.cellsOf e)) ∧ ∀ y, xs[i]? = some y → dszL ds ≤ Rows.uptoBulk y.1 := fun i hi => by
        have h1 := hall i hi
        rw [List.getElem?_eq_getElem (by omega)] at h1
        obtain ⟨ds, h4, h5, h6⟩ := trod_bulk d m e _ _ hok.2 h1
        exact ⟨ds, h4, h5, fun y hy => by rw [List.getElem?_eq_getElem (by omega)] at hy; cases hy; exact h6⟩
      obtain ⟨ps, hp1, hp2⟩ := choose_list hone
      refine ⟨ps.flatten, ⟨ps, hp1, rfl, fun p hp => ?_⟩, ?_, ?_⟩
      rotate_right
      · have := sum_bulk ps xs (by omega) (fun i r y hi hy => (hp2 i r hi).2.2 y hy)
        rw [dszL_flat]; simp only [Rows.uptoBulk]; omega
      · obtain ⟨i, hi⟩ := List.getElem?_of_mem hp
        exact (hp2 i p hi).1
      · have key : ∀ (ps : List (List D)) (o : Nat), (∀ i p, ps[i]? = some p → All2 (Imm (Sall w) w) p ((cs.drop ((o + i) * P.cellsOf e)).take (P.cellsOf e))) → (o + ps.length) * P.cellsOf e = cs.length → All2 (Imm (Sall w) w) ps.flatten (cs.drop (o * P.cellsOf e)) := fun ps => by
          induction ps with
          | nil => intro o _ hlen; rw [List.drop_of_length_le (by simp at hlen; omega)]; exact .nil
          | cons p ps ih =>
            intro o hp hlen
            have h1 := hp 0 p rfl
            have h2 := ih (o + 1) (fun i q hq => by have := hp (i + 1) q (by simpa using hq); rwa [show o + 1 + i = o + (i + 1) by omega]) (by rw [← hlen, List.length_cons]; congr 1; omega)
            rw [List.flatten_cons]
            have := h1.append h2
            rwa [Nat.add_zero, Nat.add_mul, Nat.one_mul, ← List.drop_drop, List.take_append_drop] at this
        have := key ps 0 (fun i p hi => by rw [Nat.zero_add]; exact (hp2 i p hi).2.1) (by rw [Nat.zero_add, hp1, hn, hl])
        simpa using this
    · rename_i fs hu
      simp only [Bool.and_eq_true] at hok
      obtain ⟨xs, m, _, rfl, hl, hx, hall⟩ := DataW.trod_struct hu h
      obtain ⟨ps, h1, h2⟩ := parts_all (R := Imm (Sall w) w) (T := fun f p => DT P d f.type p ∧ ∀ (i : Nat), fs[i]? = some f → ∀ (y : DataW H × List MemPlace), xs[i]? = some y → dszL p ≤ Rows.uptoBulk y.1) fs.toList 0 cs _ hl hok.1 (Nat.zero_le _) (fun f hf => by
        obtain ⟨i, hi⟩ := List.getElem?_of_mem hf
        have hlt := (List.getElem?_eq_some_iff.1 hi).1
        have h1 := hall i f (by simpa using hi)
        rw [List.getElem?_eq_getElem (by simp at hlt; omega)] at h1
        obtain ⟨ds, h4, h5, h6⟩ := trod_bulk d m f.type _ _ (List.all_eq_true.1 hok.2 f hf) h1
        exact ⟨ds, ⟨h4, fun i' hi' y hy => by
          have h7 := hall i' f hi'
          rw [hy] at h7
          rw [h7] at h1
          cases h1; exact h6⟩, h5⟩)
      refine ⟨ps.flatten, ⟨ps, rfl, ⟨h1.len, fun i a u ha hu => (h1.2 i a u ha hu).1⟩⟩, by simpa using h2, ?_⟩
      have hl1 := h1.len
      have := sum_bulk ps xs (by simp at hl1; omega) (fun i r y hi hy => by
        obtain ⟨f, hf, hT⟩ := h1.at_right hi
        exact hT.2 i (by simpa using hf) y hy)
      rw [dszL_flat]; simp only [Rows.uptoBulk]; omega
    · cases hok
/-- An argument that came in reads as data of its type. -/
theorem open_bulk {d : Nat} {r : Reach} {b0 : Nat} {t : TypeId} {v : Value} {dd : DataW H} {ps : List MemPlace} (hok : okT P d t = true) (hag : (P.underlying t).map aggD = some false) (hval : Value.okWide P w r b0 t v) (hd : DataW.Trod enc P w base sp held t v dd ps) :
    ∃ x, DT P d t [x] ∧ Imm (Sall w) w x v ∧ dsz x ≤ Rows.uptoBulk dd := by
  obtain ⟨fuel, hf⟩ := hd
  obtain ⟨ds, h1, h2, h3⟩ := trod_bulk d fuel t _ _ hok hf
  have hone : v.oneCell' = true := by
    cases d with
    | zero => cases hok
    | succ d =>
      unfold okT at hok
      split at hok
      · rename_i hu; obtain ⟨b, rfl⟩ := okWide_bool hu hval; rfl
      · rename_i hu; obtain ⟨n, rfl⟩ := okWide_int hu hval; rfl
      · rename_i hu; obtain ⟨s, rfl⟩ := okWide_string hu hval; rfl
      · rename_i hu; obtain ⟨a, l, c, rfl⟩ := okWide_slice hu hval; rfl
      · rename_i hu; rw [hu] at hag; cases hag
      · rename_i hu; rw [hu] at hag; cases hag
      · cases hok
  rw [oneCell_cells hone] at h2
  have hl := h2.len
  match ds, h1, h2, hl, h3 with
  | [x], h1, h2, _, h3 => exact ⟨x, h1, h2.head, by simpa [dszL] using h3⟩
end
end Go.Proofs.YtkeehnhamkdogaaDoor

namespace Go.Proofs.YtkeehnhamkdogaaDoor
set_option linter.unusedVariables false
set_option linter.unusedSimpArgs false
open Go.RowKit
set_option maxRecDepth 100000

theorem list_of {α : Type} {f : α → List D} {p : α → Prop} : ∀ {rows : List (List D)}, (∀ r ∈ rows, ∃ x, p x ∧ r = f x) → ∃ l : List α, rows = l.map f ∧ ∀ x ∈ l, p x
  | [], _ => ⟨[], rfl, by simp⟩
  | r :: rows, h => by
    obtain ⟨x, h1, h2⟩ := h r (by simp)
    obtain ⟨l, h3, h4⟩ := list_of (rows := rows) (f := f) (p := p) (fun q hq => h q (List.mem_cons_of_mem _ hq))
    refine ⟨x :: l, by rw [h2, h3]; rfl, fun y hy => ?_⟩
    rcases List.mem_cons.1 hy with rfl | hy
    · exact h1
    · exact h4 y hy
section
variable {P : Program} {d : Nat} {t : TypeId} {ds : List D}
theorem DT_int {k : IntKind} (hu : P.underlying t = some (.int k)) (h : DT P (d + 1) t ds) : ∃ z, ds = [.v (.int k z)] ∧ (Lit.int k z).wf = true := by
  unfold DT at h; rw [hu] at h; exact h
theorem DT_bool (hu : P.underlying t = some .bool) (h : DT P (d + 1) t ds) : ∃ b, ds = [.v (.bool b)] := by
  unfold DT at h; rw [hu] at h; exact h
theorem DT_str (hu : P.underlying t = some .string) (h : DT P (d + 1) t ds) : ∃ s, ds = [.v (.string s)] ∧ s.size ≤ maxLen := by
  unfold DT at h; rw [hu] at h; exact h
theorem DT_slice {e : TypeId} (hu : P.underlying t = some (.slice e)) (h : DT P (d + 1) t ds) : ∃ rows, ds = [.sl (P.cellsOf e) rows] ∧ rows.length ≤ maxLen ∧ ∀ r ∈ rows, DT P d e r := by
  unfold DT at h; rw [hu] at h; exact h
theorem DT_struct {fs : Array Field} (hu : P.underlying t = some (.struct fs)) (h : DT P (d + 1) t ds) : ∃ ps : List (List D), ds = ps.flatten ∧ All2 (fun (f : Field) p => DT P d f.type p) fs.toList ps := by
  unfold DT at h; rw [hu] at h; exact h
theorem DT_array {n : Nat} {e : TypeId} (hu : P.underlying t = some (.array n e)) (h : DT P (d + 1) t ds) : ∃ ps : List (List D), ps.length = n ∧ ds = ps.flatten ∧ ∀ p ∈ ps, DT P d e p := by
  unfold DT at h; rw [hu] at h; exact h
end
theorem dszR_at {α : Type} {f : α → List D} : ∀ {l : List α} {x : α}, x ∈ l → dszL (f x) ≤ dszR (l.map f)
  | y :: l, x, h => by
    rw [List.map_cons, dszR]
    rcases List.mem_cons.1 h with rfl | h
    · omega
    · have := dszR_at (f := f) h; omega
theorem dszR_len {α : Type} {f : α → List D} (hf : ∀ x, 1 ≤ dszL (f x)) : ∀ (l : List α), l.length ≤ dszR (l.map f)
  | [] => Nat.zero_le _
  | y :: l => by
    have := dszR_len hf l
    have := hf y
    rw [List.map_cons, dszR, List.length_cons]; omega
theorem dt_ints {d : Nat} {x : D} (h : DT Tryd.prog (d + 2) 91 [x]) : ∃ l : List Int, x = dint l := by
  obtain ⟨rows, h1, h2, h3⟩ := DT_slice Tryd.underlying91 h
  obtain ⟨l, h4, h5⟩ := list_of (f := fun z => [di z]) (p := fun _ : Int => True) (fun r hr => by
    obtain ⟨z, hz, hw⟩ := DT_int Tryd.underlying3 (h3 r hr)
    exact ⟨z, trivial, hz⟩)
  have e : Tryd.prog.cellsOf 3 = 1 := by kernel_rfl
  rw [e, h4] at h1
  cases h1
  exact ⟨l, rfl⟩
theorem dt_nodes {d : Nat} {x : D} (h : DT Tryd.prog (d + 4) 22 [x]) (hb : dsz x ≤ 1048576) : ∃ l : List ND, x = dnodes l ∧ l.length ≤ 1048576 ∧ ∀ v ∈ l, NdOk v := by
  obtain ⟨rows, h1, h2, h3⟩ := DT_slice Tryd.underlying22 h
  obtain ⟨l, h4, h5⟩ := list_of (f := nrow) (p := fun v : ND => (-9223372036854775808 ≤ v.k ∧ v.k ≤ 9223372036854775807) ∧ v.n < 18446744073709551616) (fun r hr => by
    obtain ⟨ps, e1, hp⟩ := DT_struct Tryd.underlying93 (h3 r hr)
    obtain ⟨p0, ps, rfl, q0, hp⟩ := hp.cons_left
    obtain ⟨p1, ps, rfl, q1, hp⟩ := hp.cons_left
    obtain ⟨p2, ps, rfl, q2, hp⟩ := hp.cons_left
    obtain ⟨p3, ps, rfl, q3, hp⟩ := hp.cons_left
    obtain rfl := hp.nil_left
    obtain ⟨z0, rfl, w0⟩ := DT_int Tryd.underlying3 q0
    obtain ⟨z1, rfl, w1⟩ := DT_int Tryd.underlying24 q1
    obtain ⟨s2, rfl, w2⟩ := DT_str Tryd.underlying9 q2
    obtain ⟨x3, rfl⟩ : ∃ x, p3 = [x] := by obtain ⟨rows, e, _⟩ := DT_slice Tryd.underlying91 q3; exact ⟨_, e⟩
    obtain ⟨ks, rfl⟩ := dt_ints q3
    have h1 := wf_u64 w1
    obtain ⟨n, rfl⟩ := Int.eq_ofNat_of_zero_le h1.1
    exact ⟨⟨z0, n, s2, ks⟩, ⟨wf_i64 w0, by have := h1.2; show n < _; omega⟩, e1⟩)
  have e : Tryd.prog.cellsOf 93 = 4 := by kernel_rfl
  rw [e, h4] at h1
  cases h1
  have hd : dszR (l.map nrow) ≤ 1048576 := by rw [dsz] at hb; omega
  have hl := dszR_len (f := nrow) (fun x => by simp only [nrow, dszL, dsz]; omega) l
  refine ⟨l, rfl, by omega, fun v hv => ?_⟩
  have h6 := dszR_at (f := nrow) hv
  have h7 := dszR_len (f := fun z => [di z]) (fun x => by simp [dszL, dsz]) v.kids
  simp only [nrow, dszL, dsz] at h6
  obtain ⟨h8, h9⟩ := h5 v hv
  exact ⟨h8.1, h8.2, h9, by omega, by omega⟩
theorem txV_eq (t : PV) : (⟨(txV t).toArray⟩ : ByteArray) = bs (if goodP t then txP t else []) := rfl
/-- What is known of the nodes' value. -/
structure VOk (t : PV) : Prop where
  num : t.num ≤ 60
  all : AllP PvOk t
theorem VOk.num' {t : PV} (h : VOk t) : t.num ≤ 4611686018427387904 := by have := h.num; omega
theorem VOk.tx {t : PV} (h : VOk t) : (txP t).length ≤ 1048576000 := by
  have h1 := txP_le' 2097202 (by omega) t h.all
  have h2 := h.num
  have h3 : t.num * 2097202 ≤ 60 * 2097202 := Nat.mul_le_mul_right _ h2
  omega
theorem VOk.of (l : List ND) (hl : ∀ x ∈ l, NdOk x) : VOk (valuesV l) := ⟨valuesV_num l, valuesV_all l hl⟩
theorem VOk.text {t : PV} (h : VOk t) : CallsA Tryd.prog ΓS 14 [gD (drow t)] (.o (c1 (ds (bs (txV t))))) := Text_c t h.num' (fmt_all h.all) (by have := h.tx; omega)
theorem AllP.and {p q : Int → Nat → ByteArray → Prop} : ∀ {t : PV}, AllP p t → AllP q t → AllP (fun k n b => p k n b ∧ q k n b) t
  | .mk k n b l, h, h' => by
    rw [AllP_mk] at h h' ⊢
    refine ⟨⟨h.1, h'.1⟩, AllPL_of fun x hx => ?_⟩
    have := List.sizeOf_lt_of_mem hx
    exact AllP.and (AllPL_mem h.2 x hx) (AllPL_mem h'.2 x hx)
termination_by t => SizeOf.sizeOf t
decreasing_by simp only [PV.mk.sizeOf_spec]; omega
theorem depth_good {t : PV} (h : goodP t = true) : 0 < depthP t ∧ depthP t ≤ 1200 := by
  rw [← good_same] at h
  exact of_decide_eq_true h
theorem VOk.rtext {t : PV} (h : VOk t) (hg : goodP t = true) : CallsA Tryd.prog Γ0 16 [gD (drow t)] (.o (c1 (ds (bs (txP t))))) :=
  RtC_all t (AllP.mono (fun k n b h => ⟨h.1, h.2.1⟩) (AllP.and (depth_all t (depth_good hg).1) h.all)) (by have := h.tx; omega)
theorem valueText_c (l : List ND) (hl : l.length ≤ 1048576) (hn : ∀ x ∈ l, NdOk x) : CallsA Tryd.prog ΓS 3 [c1 (dnodes l)] (Tb true) := by
  have hv := values_c l hl (fun x hx => (hn x hx).kids)
  have ho := VOk.of l hn
  generalize valuesV l = t at *
  have hg1 := Good_c t ho.num'
  have hg2 := rGood_c t ho.num'
  rw [good_same] at hg2
  have hc1 := Count_c t ho.num'
  have hc2 := rCount_c t ho.num'
  have ht1 := ho.text
  cases hg : goodP t with
  | true =>
    have ht2 := ho.rtext hg
    unfold txV at ht1
    rw [hg, if_pos rfl] at ht1
    rw [hg] at hg1 hg2
    rw [count_good t hg] at hc1
    refine fn_rule (C := ⟨Tryd.prog, layF, Tryd.f3.ntmps, ΓS, 0, [], []⟩) layF_ok mixed Tryd.func3 rfl (by kernel_rfl) rfl rfl rfl ?_
    refine ex_call (hv) ?_
    refine ex_call (hg2.of0) ?_
    refine ex_call (wakes_c) ?_
    refine ex_call (hg1.of0) ?_
    refine ex_false (by decide) ?_
    refine ex_call (hc1.of0) ?_
    refine ex_call (hc2.of0) ?_
    refine ex_true rfl ?_
    refine ex_call (ht1) ?_
    refine ex_call (ht2.of0) ?_
    refine ex_true rfl ?_
    refine ⟨by kernel_rfl, ?_⟩
    exact TLe.rfl
  | false =>
    rw [hg] at hg1 hg2
    have hc : countP t 1200 = 0 := by unfold goodP at hg; have := of_decide_eq_false hg; omega
    rw [hc] at hc1
    unfold txV at ht1
    rw [hg, if_neg (by decide)] at ht1
    refine fn_rule (C := ⟨Tryd.prog, layF, Tryd.f3.ntmps, ΓS, 0, [], []⟩) layF_ok mixed Tryd.func3 rfl (by kernel_rfl) rfl rfl rfl ?_
    refine ex_call (hv) ?_
    refine ex_call (hg2.of0) ?_
    refine ex_call (wakes_c) ?_
    refine ex_call (hg1.of0) ?_
    refine ex_false (by decide) ?_
    refine ex_call (hc1.of0) ?_
    refine ex_true rfl ?_
    refine ex_call (ht1) ?_
    refine ex_true rfl ?_
    exact TLe.rfl
end Go.Proofs.YtkeehnhamkdogaaDoor

namespace Go.Proofs.YtkeehnhamkdogaaDoor
set_option linter.unusedVariables false
set_option linter.unusedSimpArgs false
open Go.RowKit
set_option maxRecDepth 100000

theorem iface_open {P : Program} {w : World} {base fuel : Nat} {sp : Nat → Bool} {held : Bool} {enc : TypeId × Value → Unit} {t : TypeId} {l : List Value} {x : DataW Unit × List MemPlace} {ms : Array (String × TypeId)} (hi : P.underlying t = some (.interface ms))
    (hd : DataW.trod enc P w base sp held fuel t l = some x) : l = [.nilIface] ∨ ∃ u v, l = [.iface u v] := by
  cases fuel with
  | zero => cases hd
  | succ f =>
    simp only [DataW.trod, hi] at hd
    split at hd <;> first | exact .inl rfl | exact .inr ⟨_, _, rfl⟩ | (cases hd; done) | (rename_i h1; cases h1; done) | (rename_i h1 h2; cases h1; done) | (rename_i h1 h2 h3; cases h1; done)
theorem errAt_of {W : World} {n : String} {g : Nat} {cs : Array Value} (hg : Tryd.prog.globalNamed n = some g) (hv : W.var? Tryd.prog n = some cs) (h : cs.toList = [.nilIface] ∨ ∃ u v, cs.toList = [.iface u v]) : ErrAt W g ∧ g < W.heap.size := by
  have hc : ∀ ev, cs.toList = [ev] → W.cell? ⟨g, 0, none⟩ = some ev := fun ev he => by
    rw [World.var?_cell hg hv 0]
    have : cs = #[ev] := by cases cs; simpa using he
    rw [this]; rfl
  refine ⟨?_, ?_⟩
  · rcases h with h | ⟨u, v, h⟩
    · exact ⟨_, hc _ h, .inl rfl⟩
    · exact ⟨_, hc _ h, .inr ⟨u, v, rfl⟩⟩
  · unfold World.var? at hv
    rw [hg] at hv
    simp only [Option.bind_some] at hv
    by_cases hl : g < W.heap.size
    · exact hl
    · rw [Array.getElem?_eq_none (by omega)] at hv; cases hv
theorem glob_of {W : World} {laid : List (String × DataW Unit)} (hl : laid = Rows.valueParseRow.laid) (h : laidMetH Tryd.prog laid W) : ΓS.G (Sall W) W := by
  subst hl
  rw [MakeChecks.laidMetH_plain _ _ _ (by kernel_rfl)] at h
  obtain ⟨ps, h, -⟩ := h
  obtain ⟨g1, t1, c1, f1, p1, q1, -, -, -, -, h, -⟩ := h
  obtain ⟨g2, t2, c2, f2, p2, q2, -, -, -, -, h, -⟩ := h
  obtain ⟨g3, t3, c3, f3, p3, q3, hg3, ht3, hv3, hd3, h, -⟩ := h
  obtain ⟨g4, t4, c4, f4, p4, q4, hg4, ht4, hv4, hd4, h, -⟩ := h
  obtain ⟨g5, t5, c5, f5, p5, q5, hg5, ht5, hv5, hd5, -, -⟩ := h
  have hT : Lib.TabIs Tryd.prog W "internal/strconv.uint64pow10" .u64 Lib.pow10Tab := by
    obtain rfl := Option.some.inj ((show Tryd.prog.globalNamed "internal/strconv.uint64pow10" = some 3 by kernel_rfl).symm.trans hg3)
    obtain rfl := Option.some.inj ((show (Tryd.prog.globals[3]?).map (·.type) = some 131 by kernel_rfl).symm.trans ht3)
    unfold Lib.TabIs
    rw [hv3, ← Lib.cells_of_tab Tryd.underlying131 Tryd.underlying24 (by kernel_rfl) (by kernel_rfl) (k := .u64) (zs := Lib.pow10Tab) hd3]
  obtain rfl := Option.some.inj ((show Tryd.prog.globalNamed "strconv.ErrRange" = some 5 by kernel_rfl).symm.trans hg4)
  obtain rfl := Option.some.inj ((show Tryd.prog.globalNamed "strconv.ErrSyntax" = some 4 by kernel_rfl).symm.trans hg5)
  obtain rfl := Option.some.inj ((show (Tryd.prog.globals[5]?).map (·.type) = some 83 by kernel_rfl).symm.trans ht4)
  obtain rfl := Option.some.inj ((show (Tryd.prog.globals[4]?).map (·.type) = some 83 by kernel_rfl).symm.trans ht5)
  have e4 := errAt_of hg4 hv4 (iface_open Tryd.underlying83 hd4)
  have e5 := errAt_of hg5 hv5 (iface_open Tryd.underlying83 hd5)
  refine ⟨⟨hT, fun g hg => ?_⟩, e5, e4⟩
  have hv := hv3
  unfold World.var? at hv
  rw [hg] at hv
  simp only [Option.bind_some] at hv
  show g < W.heap.size
  by_cases hl : g < W.heap.size
  · exact hl
  · rw [Array.getElem?_eq_none (by omega)] at hv; cases hv
end Go.Proofs.YtkeehnhamkdogaaDoor

namespace Go.Proofs.YtkeehnhamkdogaaDoor
set_option linter.unusedVariables false
set_option linter.unusedSimpArgs false
open Go.ChangeShapes Go.WideShapes Go.ChangeAt Go.RowKit Go.ChangeMaps
set_option maxRecDepth 100000

theorem valueText_a (x : D) (hx : DT Tryd.prog 8 22 [x]) (hb : dsz x ≤ 1048576) : CallsA Tryd.prog ΓS 3 [c1 x] (.o (c1 (db true))) := by
  obtain ⟨l, rfl, h1, h2⟩ := dt_nodes hx hb
  exact valueText_c l h1 h2
namespace valueText
set_option maxRecDepth 100000 in
theorem lifted (os : Os) (started : os.Started) (H : Type) (enc : TypeId × Value → H) (F0 : Stop.Interp) :
    ReturnsInHanded {} Tryd.checked os 3 .any ((Rows.OpenSpec.upto Rows.valueTextSpec).preRow enc Tryd.prog Tryd.f3 Rows.valueTextUptoRow.domain false Rows.valueTextUptoRow.laid) (((Rows.OpenSpec.upto Rows.valueTextSpec).at F0).post enc Tryd.prog Tryd.f3 false true false false) := by
  refine returnsInHanded_of_row (C := Tryd.checked) own started (by kernel_rfl) Tryd.func3 ?hwit ?_
  case hwit =>
    refine ⟨World.laidAll Tryd.prog os Rows.valueTextUptoRow.laid, fun _ _ => 0, ⟨#[], #[.slice none 0 0], []⟩, World.laidAll_os _ _ _, World.shaped_of_ZipB (by kernel_rfl) (by kernel_rfl), rfl, (Input.okWide_of_okWideB (by kernel_rfl)).2, ⟨⟨⟨[.nil], [], [], DataW.Whole_of_whole (x := ([.nil], [], [])) (fuel := 8) (by kernel_rfl), by kernel_rfl, by kernel_rfl⟩, by rw [MakeChecks.laidMetH_plain _ _ _ (by kernel_rfl)]; exact laidMet_laidAll _ (by kernel_rfl) (by kernel_rfl)⟩, sizedMet_of_sizedB (s := Rows.valueTextSpec) (fuel := 8) (by kernel_rfl)⟩, ?_⟩
    simp only [Assume.holds]
    exact ⟨by simp, by simp, by simp⟩
  intro W base args ds gs before hval0 hW _ hk0 hsz0 hLaid _ _
  have hbulk : Rows.uptoBulkAll (ds ++ gs) ≤ 1048576 := of_decide_eq_true (hk0 _ rfl)
  clear hk0
  have hsz : (DataW.weightsEach Tryd.prog (Tryd.f3.params.toList ++ Rows.valueTextSpec.plain.varTypes Tryd.prog) (ds ++ gs)).all (· ≤ reachBytes) = true := hsz0
  have hval : ∀ (j : Nat) t v, Tryd.f3.params[j]? = some t → args[j]? = some v → Value.okWide Tryd.prog W .any base t v := hval0
  clear hsz0 hval0
  have hW' := hW
  obtain ⟨p, q, hA0, hV, rfl, hfz, hnd⟩ := hW
  have hA : DataW.TrodAll enc Tryd.prog W 0 (fun _ => true) true Tryd.f3.params.toList args.toList ds p := hA0
  clear hA0
  rw [Tryd.params3] at hA hval hsz
  obtain ⟨v0, vs0, d0, ds0, p0, q0, hargs, rfl, rfl, h0, r0⟩ := trodAll_cons hA
  obtain ⟨rfl, rfl, rfl⟩ := trodAll_nil r0
  obtain rfl : args = #[v0] := by cases args; simp_all
  obtain ⟨rfl, rfl⟩ := trodVars_none hV
  obtain ⟨l, l_, m0, b_l⟩ := open_bulk (d := 8) (by kernel_rfl) (by kernel_rfl) (hval 0 22 v0 rfl rfl) h0
  have b_l : dsz l ≤ 1048576 := by simp only [Rows.uptoBulkAll, List.cons_append, List.nil_append, List.append_nil] at hbulk; omega
  refine ((valueText_a l l_ b_l).2 (Sall W) W [v0] (fun _ h => h) (glob_of rfl hLaid) (.cons m0 .nil)).mono fun e W' ⟨xr, _, he, hb, _, _, _, hv⟩ => ?_
  obtain rfl := V_v hv
  subst he
  exact ⟨_, rfl, law_post (ds := [_]) laidOut hW' rfl (by kernel_rfl) rfl Tryd.underlying4 rfl rfl rfl hb⟩

theorem proved : Rows.ValueTextUptoSaid :=
  OpenClaim.holds_of_cond 3 Tryd.f3 rfl rfl rfl rfl rfl rfl rfl ⟨rfl, rfl, rfl, rfl, rfl⟩ rfl rfl rfl rfl rfl (by kernel_rfl) Tryd.func3 (by kernel_rfl)
    (of_decide_eq_true (by kernel_rfl)) (by unfold Func.isWrapper; first | (rw [if_pos (by decide +kernel)]; kernel_rfl) | (rw [if_neg (by decide +kernel)]; exact ⟨rfl, rfl⟩))
    (fun os started H enc _ F0 => by rw [OpenClaim.pre_eq_preRow]; exact lifted os started H enc F0)
theorem card : Rows.ValueTextUptoCardSaid :=
  Claim7.holds_tied_plain_at .later [] [.data, .data, .data, .sentinel, .sentinel] true (true, "6bf5c362cd481fe3d751572f1504a6a0b0d69aeef9018b1fcd6deae6dbd4dcf7") true proved (fun _ h => by cases h) (by kernel_rfl) (fun _ h => by cases h) valueTextUpto_row_tie rfl ⟨rfl, rfl⟩ (by kernel_rfl) rfl
    (fun f fn hf hfn => by
      obtain rfl : f = 3 := Option.some.inj ((show Tryd.prog.funcNamed "calliper/calliperlaw18.ValueText" = some 3 by kernel_rfl).symm.trans hf) |>.symm
      obtain rfl : fn = Tryd.f3 := (Option.some.inj (Tryd.func3.symm.trans hfn)).symm
      exact ⟨by kernel_rfl, fun j t ht => by
        rw [Tryd.params3] at ht
        have hm : t ∈ [22] := by simpa using Array.mem_of_getElem? ht
        have hall : ([22].all fun u => !Tryd.prog.wantsStandIn u) = true := by kernel_rfl
        exact (show Tryd.prog.wantsStandIn t = false by simpa using List.all_eq_true.1 hall t hm)⟩)
    (by kernel_rfl)
end valueText
end Go.Proofs.YtkeehnhamkdogaaDoor
