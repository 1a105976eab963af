/- ValueDeep, where what it reads is of bulk at most 1048576: so many lists in one another may be, one more mayn't. Condition: the listed package variables hold what the program's text lays. -/
import Derived.ProofKit
import Derived.SizedLaws
import Derived.OpenShut
import Derived.Test.YtkeehnhamkdogaaDoorRows
import Derived.MakeChecks
import Derived.Lib.LaidTab
import Derived.Test.YtkeehnhamkdogaaDoorCards
import Derived.Test.YtkeehnhamkdogaaDoorTie
import Derived.Lay
import Derived.SevenTiedAt
import Derived.Deep.DeepHandedRow
import Derived.Test.YtkeehnhamkdogaaDoorZ1
import Derived.Test.YtkeehnhamkdogaaDoorZ2
import Derived.Test.YtkeehnhamkdogaaDoorZ3
namespace Go.Proofs.YtkeehnhamkdogaaDoor
set_option linter.unusedVariables false
set_option linter.unusedSimpArgs false
open Go.RowKit
set_option maxRecDepth 100000

abbrev fal (u : List Bool) : Nat := u.count false
theorem fal_set {u : List Bool} {a : Nat} (h : u[a]? = some false) : fal (u.set a true) + 1 = fal u := by
  obtain ⟨hlt, he⟩ := List.getElem?_eq_some_iff.1 h
  have h1 := List.count_set (l := u) (b := false) (a := true) hlt
  have h2 : 0 < u.count false := List.count_pos_iff.2 (he ▸ List.getElem_mem hlt)
  rw [he] at h1
  simp at h1
  show (u.set a true).count false + 1 = u.count false
  omega
theorem kidsV_num {n : Nat} {rc : Nat → List Bool → PV × List Bool} {a : Nat} (hr : ∀ k u, a < k → k < n → u[k]? = some false → (rc k u).1.num + fal (rc k u).2 ≤ fal u) : ∀ (ks : List Int) (u : List Bool) (acc : List PV), numL (kidsV n rc a ks u acc).1 + fal (kidsV n rc a ks u acc).2 ≤ numL acc + fal u
  | [], u, acc => Nat.le_refl _
  | k :: ks, u, acc => by
    rw [kidsV]
    split
    · rename_i h
      have h1 := hr k.toNat u (by omega) (by omega) h.2.2
      have h2 := kidsV_num hr ks (rc k.toNat u).2 (acc ++ [(rc k.toNat u).1])
      rw [numL_app, numL, numL] at h2
      omega
    · exact kidsV_num hr ks u acc
theorem buildV_num (l : List ND) : ∀ (f a : Nat) (u : List Bool), l.length ≤ a + f → a < l.length → u[a]? = some false → (buildV l f a u).1.num + fal (buildV l f a u).2 ≤ fal u
  | 0, a, u, h1, h2, _ => by omega
  | f + 1, a, u, h1, h2, h3 => by
    rw [buildV, at_some h2]
    have h4 := kidsV_num (n := l.length) (rc := buildV l f) (a := a) (fun k u hk hn hu => buildV_num l f k u (by omega) hn hu) l[a].kids (u.set a true) []
    have h5 := fal_set h3
    rw [numL] at h4
    show PV.num (.mk _ _ _ _) + fal (kidsV _ _ _ _ _ _).2 ≤ _
    rw [PV.num]
    omega
/-- What holds of a value's numbers and bytes. -/
structure NdOk (x : ND) : Prop where
  k0 : -9223372036854775808 ≤ x.k
  k1 : x.k ≤ 9223372036854775807
  n : x.n < 18446744073709551616
  b : x.b.size ≤ 1048576
  kids : x.kids.length ≤ 1048576
mutual
def AllP (p : Int → Nat → ByteArray → Prop) : PV → Prop
  | .mk k n b l => p k n b ∧ AllPL p l
def AllPL (p : Int → Nat → ByteArray → Prop) : List PV → Prop
  | [] => True
  | t :: ts => AllP p t ∧ AllPL p ts
end
theorem AllPL_app {p : Int → Nat → ByteArray → Prop} : ∀ {l m : List PV}, AllPL p l → AllPL p m → AllPL p (l ++ m)
  | [], m, _, h => h
  | t :: ts, m, h, h' => ⟨h.1, AllPL_app h.2 h'⟩
theorem AllPL_mem {p : Int → Nat → ByteArray → Prop} : ∀ {l : List PV}, AllPL p l → ∀ t ∈ l, AllP p t
  | t :: ts, h, x, hx => by
    rcases List.mem_cons.1 hx with rfl | hx
    · exact h.1
    · exact AllPL_mem h.2 x hx
theorem AllPL_of {p : Int → Nat → ByteArray → Prop} : ∀ {l : List PV}, (∀ t ∈ l, AllP p t) → AllPL p l
  | [], _ => trivial
  | t :: ts, h => ⟨h t (by simp), AllPL_of fun x hx => h x (List.mem_cons_of_mem _ hx)⟩
theorem AllP_mk {p : Int → Nat → ByteArray → Prop} {k : Int} {n : Nat} {b : ByteArray} {l : List PV} : AllP p (.mk k n b l) ↔ p k n b ∧ AllPL p l := by rw [AllP]
theorem kidsV_all {p : Int → Nat → ByteArray → Prop} {n : Nat} {rc : Nat → List Bool → PV × List Bool} {a : Nat} (hr : ∀ k u, AllP p (rc k u).1) : ∀ (ks : List Int) (u : List Bool) (acc : List PV), AllPL p acc → AllPL p (kidsV n rc a ks u acc).1
  | [], u, acc, h => h
  | k :: ks, u, acc, h => by
    rw [kidsV]
    split
    · exact kidsV_all hr ks _ _ (AllPL_app h ⟨hr _ _, trivial⟩)
    · exact kidsV_all hr ks u acc h
theorem buildV_all {p : Int → Nat → ByteArray → Prop} (hz : p 0 0 ⟨#[]⟩) (l : List ND) (h : ∀ x ∈ l, p x.k x.n x.b) : ∀ (f a : Nat) (u : List Bool), AllP p (buildV l f a u).1
  | 0, a, u => AllP_mk.2 ⟨hz, trivial⟩
  | f + 1, a, u => by
    rw [buildV]
    split
    · exact AllP_mk.2 ⟨hz, trivial⟩
    · rename_i x hx
      exact AllP_mk.2 ⟨h x (List.mem_of_getElem? hx), kidsV_all (buildV_all hz l h f) _ _ _ trivial⟩
theorem AllP.mono {p q : Int → Nat → ByteArray → Prop} (hpq : ∀ k n b, p k n b → q k n b) : ∀ {t : PV}, AllP p t → AllP q t
  | .mk k n b l, h => by
    rw [AllP_mk] at h ⊢
    refine ⟨hpq _ _ _ h.1, AllPL_of fun x hx => ?_⟩
    have := List.sizeOf_lt_of_mem hx
    exact AllP.mono hpq (AllPL_mem h.2 x hx)
termination_by t => SizeOf.sizeOf t
decreasing_by simp only [PV.mk.sizeOf_spec]; omega
/-- What a value that comes in is. -/
def PvOk (k : Int) (n : Nat) (b : ByteArray) : Prop := n < 18446744073709551616 ∧ b.size ≤ 1048576
theorem valuesV_num (l : List ND) : (valuesV l).num ≤ 60 := by
  unfold valuesV
  split
  · rw [PV.num, numL]; omega
  · have hm : 0 < (l.take 60).length := by rw [List.length_take]; omega
    have h1 := buildV_num (l.take 60) (l.take 60).length 0 (List.replicate (l.take 60).length false) (by omega) hm (by rw [List.getElem?_replicate, if_pos hm])
    have h2 : fal (List.replicate (l.take 60).length false) ≤ 60 := by
      show List.count _ _ ≤ _
      rw [List.count_replicate_self, List.length_take]; omega
    omega
theorem valuesV_all (l : List ND) (h : ∀ x ∈ l, NdOk x) : AllP PvOk (valuesV l) := by
  unfold valuesV
  split
  · exact AllP_mk.2 ⟨⟨by omega, by decide⟩, trivial⟩
  · exact buildV_all ⟨by omega, by decide⟩ _ (fun x hx => ⟨(h x (List.mem_of_mem_take hx)).n, (h x (List.mem_of_mem_take hx)).b⟩) _ _ _
theorem dec_len (n : Nat) (h : n < 18446744073709551616) : (Lib.decDigits n).length ≤ 20 := by
  have key : ∀ (d m : Nat), m < 10 ^ (d + 1) → (Lib.decDigits m).length ≤ d + 1 := by
    intro d
    induction d with
    | zero => intro m hm; rw [Lib.decDigits, dif_pos (by omega)]; simp
    | succ d ih =>
      intro m hm
      rw [Lib.decDigits]
      split
      · simp
      · rw [List.length_append]
        have := ih (m / 10) (by rw [Nat.pow_succ] at hm; omega)
        simp only [List.length_cons, List.length_nil]; omega
  exact key 19 n (by omega)
mutual
theorem txP_le' (B : Nat) (hB : 2097200 ≤ B) : ∀ (t : PV), AllP PvOk t → (txP t).length + 2 ≤ t.num * B
  | .mk k n b l, h => by
    rw [AllP_mk] at h
    have h1 := dec_len n h.1.1
    have h2 := h.1.2
    have h3 := txL_le' B hB true l h.2
    have h4 := hx_len b.data.toList
    have h5 : b.data.toList.length = b.size := rfl
    have h8 : (1 + numL l) * B = B + numL l * B := by rw [Nat.add_mul, Nat.one_mul]
    rw [txP, PV.num, h8]
    repeat' split
    all_goals try simp only [List.length_append, List.length_cons, List.length_nil]
    all_goals omega
theorem txL_le' (B : Nat) (hB : 2097200 ≤ B) : ∀ (f : Bool) (l : List PV), AllPL PvOk l → (txL f l).length ≤ numL l * B
  | f, [], _ => by simp [txL]
  | f, t :: ts, h => by
    rw [AllPL] at h
    have h1 := txP_le' B hB t h.1
    have h2 := txL_le' B hB false ts h.2
    rw [txL, numL, Nat.add_mul]
    cases f <;> simp only [List.length_append, List.length_cons, List.length_nil, if_true, Bool.false_eq_true, if_false] <;> omega
end
theorem AllNL_of {q : Nat → Prop} : ∀ {l : List PV}, (∀ t ∈ l, AllN q t) → AllNL q l
  | [], _ => trivial
  | t :: ts, h => ⟨h t (by simp), AllNL_of fun x hx => h x (List.mem_cons_of_mem _ hx)⟩
theorem allN_of {q : Nat → Prop} : ∀ {t : PV}, AllP (fun _ n _ => q n) t → AllN q t
  | .mk k n b l, h => by
    rw [AllP_mk] at h
    rw [AllN]
    refine ⟨fun _ => h.1, AllNL_of fun x hx => ?_⟩
    have := List.sizeOf_lt_of_mem hx
    exact allN_of (AllPL_mem h.2 x hx)
termination_by t => SizeOf.sizeOf t
decreasing_by simp only [PV.mk.sizeOf_spec]; omega
theorem fmt_all {t : PV} (h : AllP PvOk t) : AllN FmtOk t := allN_of (AllP.mono (fun k n b h => fmt_c n h.1) h)
end Go.Proofs.YtkeehnhamkdogaaDoor

namespace Go.Proofs.YtkeehnhamkdogaaDoor
set_option linter.unusedVariables false
set_option linter.unusedSimpArgs false
open Go.RowKit
set_option maxRecDepth 100000

abbrev bs (l : List UInt8) : ByteArray := ⟨l.toArray⟩
theorem bs_app (l m : List UInt8) : bs l ++ bs m = bs (l ++ m) := by
  apply ByteArray.ext
  rw [ByteArray.data_append]
  simp
theorem bs_size (l : List UInt8) : (bs l).size = l.length := by simp [ByteArray.size]
theorem dig_u8 (d : Nat) (h : d < 10) : IntKind.u8.wrap (48 + IntKind.u8.wrap (d : Nat)) = ((UInt8.ofNat (48 + d)).toNat : Int) := by
  rw [wrap_un (k := .u8) (n := (d : Int)) rfl (by omega) (by show _ < (256 : Int); omega), wrap_un (k := .u8) rfl (by omega) (by show _ < (256 : Int); omega)]
  rw [UInt8.toNat_ofNat']
  show _ = (((48 + d) % 256 : Nat) : Int)
  omega
theorem bs_cons (c : UInt8) (l : List UInt8) : bs [c] ++ bs l = bs (c :: l) := bs_app [c] l
theorem digits_c (n : Nat) (hn : n < 18446744073709551616) : CallsA Tryd.prog Γ0 33 [c1 (du n)] (.o (c1 (ds (bs (Lib.decDigits n))))) := by
  obtain ⟨T, hT⟩ : ∃ T, Lib.decDigits n = T := ⟨_, rfl⟩
  have hTl : T.length ≤ 20 := hT ▸ dec_len n hn
  rw [hT]
  refine fn_rule (C := ⟨Tryd.prog, layF, Tryd.f33.ntmps, Γ0, 0, [], []⟩) layF_ok mixed Tryd.func33 rfl (by kernel_rfl) rfl rfl rfl ?_
  refine ex_loop (X := Nat × ByteArray) (fun ⟨m, s⟩ => ⟨[(0, Tu m), (3, Tstr s)], [], 0⟩) (fun x => x.1)
    (fun ⟨m, s⟩ => m ≤ n ∧ ∃ l, s = bs l ∧ Lib.decDigits m ++ l = T) (n, bs []) ⟨Nat.le_refl _, [], rfl, by rw [List.append_nil]; exact hT⟩ (SLe.of ⟨⟨rfl, rfl, trivial⟩, trivial⟩) ?_
  rintro ⟨m, s⟩ ⟨hm, l, rfl, hs⟩
  have hsl : (Lib.decDigits m).length + l.length ≤ 20 := by have := congrArg List.length hs; rw [List.length_append] at this; omega
  rw [Lib.decDigits] at hs
  refine ex_dec (fun h1 => ?_) (fun h1 => ?_)
  · rw [dif_neg (by omega)] at hs
    refine ⟨by decide, ?_⟩
    refine ex_is (((m % 10 : Nat) : Int)) (by rw [Int.tmod_eq_emod_of_nonneg (by omega)]; rfl) ?_
    refine ex_is _ rfl ?_
    refine ex_is (((UInt8.ofNat (48 + m % 10)).toNat : Int)) (dig_u8 _ (by omega)) ?_
    refine ⟨[UInt8.ofNat (48 + m % 10)], rfl, ?_⟩
    refine ⟨by rw [bs_size, bs_size, List.length_cons, List.length_nil]; omega, ?_⟩
    refine ⟨by decide, ?_⟩
    refine ex_u64 ((m / 10 : Nat) : Int) (by rw [Int.tdiv_eq_ediv_of_nonneg (by omega)]; rfl) (by omega) (by omega) ?_
    exact ex_round (m / 10, _) ⟨by omega, UInt8.ofNat (48 + m % 10) :: l, bs_cons _ _, by rw [← hs, List.append_assoc]; rfl⟩ (by show m / 10 < m; omega) (SLe.of ⟨⟨rfl, rfl, trivial⟩, trivial⟩)
  · rw [dif_pos (by omega)] at hs
    refine ex_is _ rfl ?_
    refine ex_is (((UInt8.ofNat (48 + m)).toNat : Int)) (dig_u8 _ (by omega)) ?_
    refine ⟨[UInt8.ofNat (48 + m)], rfl, ?_⟩
    refine ⟨by rw [bs_size, bs_size, List.length_cons, List.length_nil]; omega, ?_⟩
    exact TLe.eq (by show Tstr (bs [_] ++ bs l) = Tstr (bs T); rw [bs_app, hs])
mutual
/-- How deep a value is; 0: one isn't such as may be. -/
def depthP : PV → Nat
  | .mk k n b l => if leanB k n b l.length = false then 0 else depthL l 0
def depthL : List PV → Nat → Nat
  | [], m => m + 1
  | x :: xs, m => if depthP x = 0 then 0 else depthL xs (if m < depthP x then depthP x else m)
end
mutual
theorem depthP_le : ∀ (t : PV), depthP t ≤ t.num
  | .mk k n b l => by
    rw [depthP, PV.num]
    split
    · omega
    · have := depthL_le l 0; omega
theorem depthL_le : ∀ (l : List PV) (m : Nat), depthL l m ≤ 1 + m + numL l
  | [], m => by rw [depthL, numL]; omega
  | x :: xs, m => by
    have h1 := depthP_le x
    rw [depthL, numL]
    split
    · omega
    · have h2 := depthL_le xs (if m < depthP x then depthP x else m)
      have h3 : (if m < depthP x then depthP x else m) ≤ m + x.num := by split <;> omega
      omega
end
theorem depth_c : ∀ (t : PV), t.num ≤ 4611686018427387904 → CallsA Tryd.prog Γ0 27 [gD (drow t)] (.o (c1 (di (depthP t))))
  | .mk k n b l, ht => by
    rw [PV.num] at ht
    have hll := numL_len l
    have ih : ∀ i (h : i < l.length), CallsA Tryd.prog Γ0 27 [gD (drow l[i])] (.o (c1 (di (depthP l[i])))) := fun i h => depth_c l[i] (by have := numL_at h; omega)
    obtain ⟨R, hR⟩ : ∃ R, depthP (.mk k n b l) = R := ⟨_, rfl⟩
    rw [hR, drow_mk]
    rw [depthP] at hR
    have key : leanB k n b l.length = decide ((0 ≤ k ∧ k < 5) ∧ (k = 1 ∨ n = 0) ∧ (k = 2 ∨ b = ⟨#[]⟩) ∧ (3 ≤ k ∨ l.length = 0)) := by simp only [leanB, Bool.decide_and, Bool.decide_or, Bool.and_assoc]
    refine fn_rule (C := ⟨Tryd.prog, layF, Tryd.f27.ntmps, Γ0, 0, [1], []⟩) layF_ok mixed Tryd.func27 rfl (by kernel_rfl) rfl rfl rfl ?_
    refine ex_join (X := Bool) (fun c => ⟨[(1, .o (.c (.ptr 0 0))), (44, Tb c)], [(0, .obj [.d (di k), .d (du n), .d (ds b), .d (.sl 4 (l.map drow))])], 1⟩) (fun c => leanB k n b l.length = !c) ?_ ?_
    · repeat' first
        | refine ex_is l.length (by simp) ?_
        | refine ex_dec (fun _ => ?_) (fun _ => ?_)
      all_goals first
        | exact ex_meet false (by rw [key]; exact decide_eq_true ⟨by omega, by omega, (by first | exact .inl (by omega) | (right; apply Classical.byContradiction; assumption)), by omega⟩) (SLe.of ⟨⟨rfl, rfl, trivial⟩, ⟨rfl, trivial⟩⟩)
        | exact ex_meet true (by rw [key]; exact decide_eq_false (by rintro ⟨h1, h2, h3 | h3, h4⟩ <;> first | omega | contradiction)) (SLe.of ⟨⟨rfl, rfl, trivial⟩, ⟨rfl, trivial⟩⟩)
    intro c hc
    cases c with
    | true =>
      rw [if_pos (show leanB k n b l.length = false from hc)] at hR
      subst hR
      exact TLe.rfl
    | false =>
    rw [if_neg (by rw [hc]; decide)] at hR
    refine ex_loop (X := Nat × Nat) (fun ⟨q, m⟩ => ⟨[(1, .o (.c (.ptr 0 0))), (3, Ti m), (4, Ti q)], [(0, .obj [.d (di k), .d (du n), .d (ds b), .d (.sl 4 (l.map drow))])], 1⟩) (fun x => l.length - x.1)
      (fun ⟨q, m⟩ => q ≤ l.length ∧ m ≤ 4611686018427387904 ∧ depthL (l.drop q) m = R) (0, 0) ⟨by omega, by omega, by simpa using hR⟩ (SLe.of ⟨⟨rfl, rfl, rfl, trivial⟩, ⟨rfl, trivial⟩⟩) ?_
    rintro ⟨q, m⟩ ⟨hq, hm, hg⟩
    refine ex_is (l.length) (by simp) ?_
    refine ex_dec (fun h5 => ?_) (fun h5 => ?_)
    · have hql : q < l.length := by omega
      rw [List.drop_eq_getElem_cons hql, depthL] at hg
      have hle := depthP_le l[q]
      have hnl := numL_at hql
      refine ex_row (q) _ (by first | rfl | omega | simp) (at_some (hql)) ?_
      refine ex_call (ih q hql) ?_
      generalize depthP l[q] = c at *
      refine ex_dec (fun h6 => ?_) (fun h6 => ?_)
      · rw [if_pos (by omega)] at hg
        exact TLe.eq (by rw [← hg]; rfl)
      · rw [if_neg (by omega)] at hg
        refine ex_dec (fun h7 => ?_) (fun h7 => ?_)
        · rw [if_pos (by omega)] at hg
          refine ex_i64 (((q + 1 : Nat) : Int)) (by first | rfl | omega | simp) (by omega) (by omega) ?_
          exact ex_round (q + 1, c) ⟨hql, by omega, hg⟩ (by show _ - _ < _ - _; omega) (SLe.of ⟨⟨rfl, rfl, rfl, trivial⟩, ⟨rfl, trivial⟩⟩)
        · rw [if_neg (by omega)] at hg
          refine ex_i64 (((q + 1 : Nat) : Int)) (by first | rfl | omega | simp) (by omega) (by omega) ?_
          exact ex_round (q + 1, m) ⟨hql, by omega, hg⟩ (by show _ - _ < _ - _; omega) (SLe.of ⟨⟨rfl, rfl, rfl, trivial⟩, ⟨rfl, trivial⟩⟩)
    · obtain rfl : q = l.length := by omega
      rw [List.drop_length, depthL] at hg
      subst hg
      refine ex_i64 (((m + 1 : Nat) : Int)) (by first | rfl | omega | simp) (by omega) (by omega) ?_
      exact TLe.rfl
termination_by t => SizeOf.sizeOf t
decreasing_by
  have := List.sizeOf_lt_of_mem (List.getElem_mem h)
  simp only [PV.mk.sizeOf_spec]
  omega
def rgoodP (t : PV) : Bool := decide (0 < depthP t ∧ depthP t ≤ 1200)
theorem rGood_c (t : PV) (ht : t.num ≤ 4611686018427387904) : CallsA Tryd.prog Γ0 10 [gD (drow t)] (.o (c1 (db (rgoodP t)))) := by
  obtain ⟨R, hR⟩ : ∃ R, rgoodP t = R := ⟨_, rfl⟩
  unfold rgoodP at hR
  rw [show rgoodP t = R from hR]
  refine fn_rule (C := ⟨Tryd.prog, layF, Tryd.f10.ntmps, Γ0, 0, [], []⟩) layF_ok mixed Tryd.func10 rfl (by kernel_rfl) rfl rfl rfl ?_
  refine ex_call (depth_c t ht) ?_
  refine ex_dec (fun h1 => ?_) (fun h1 => ?_)
  ·
    refine ex_dec (fun h2 => ?_) (fun h2 => ?_)
    · exact TLe.eq (by rw [← hR, decide_eq_true ⟨by omega, by omega⟩]; rfl)
    · exact TLe.eq (by rw [← hR, decide_eq_false (by omega)]; rfl)
  · exact TLe.eq (by rw [← hR, decide_eq_false (by omega)]; rfl)
theorem rCount_c : ∀ (t : PV), t.num ≤ 4611686018427387904 → CallsA Tryd.prog Γ0 15 [gD (drow t)] (.o (c1 (di t.num)))
  | .mk k n b l, ht => by
    rw [PV.num] at ht ⊢
    have hll := numL_len l
    have ih : ∀ i (h : i < l.length), CallsA Tryd.prog Γ0 15 [gD (drow l[i])] (.o (c1 (di l[i].num))) := fun i h => rCount_c l[i] (by have := numL_at h; omega)
    rw [drow_mk]
    obtain ⟨R, hR⟩ : ∃ R, 1 + numL l = R := ⟨_, rfl⟩
    rw [hR]
    rw [hR] at ht
    refine fn_rule (C := ⟨Tryd.prog, layF, Tryd.f15.ntmps, Γ0, 0, [], []⟩) layF_ok mixed Tryd.func15 rfl (by kernel_rfl) rfl rfl rfl ?_
    refine ex_loop (X := Nat × Nat) (fun ⟨q, m⟩ => ⟨[(1, .o (.c (.ptr 0 0))), (3, Ti m), (4, Ti q)], [(0, .obj [.d (di k), .d (du n), .d (ds b), .d (.sl 4 (l.map drow))])], 1⟩) (fun x => l.length - x.1)
      (fun ⟨q, m⟩ => q ≤ l.length ∧ m + numL (l.drop q) = R) (0, 1) ⟨by omega, by simpa using hR⟩ (SLe.of ⟨⟨rfl, rfl, rfl, trivial⟩, ⟨rfl, trivial⟩⟩) ?_
    rintro ⟨q, m⟩ ⟨hq, hg⟩
    refine ex_is (l.length) (by simp) ?_
    refine ex_dec (fun h5 => ?_) (fun h5 => ?_)
    · have hql : q < l.length := by omega
      rw [List.drop_eq_getElem_cons hql, numL] at hg
      have hnl := numL_at hql
      refine ex_row (q) _ (by first | rfl | omega | simp) (at_some (hql)) ?_
      refine ex_call (ih q hql) ?_
      generalize l[q].num = c at *
      refine ex_i64 (((m + c : Nat) : Int)) (by first | rfl | omega | simp) (by omega) (by omega) ?_
      refine ex_i64 (((q + 1 : Nat) : Int)) (by first | rfl | omega | simp) (by omega) (by omega) ?_
      exact ex_round (q + 1, m + c) ⟨hql, by omega⟩ (by show _ - _ < _ - _; omega) (SLe.of ⟨⟨rfl, rfl, rfl, trivial⟩, ⟨rfl, trivial⟩⟩)
    · obtain rfl : q = l.length := by omega
      rw [List.drop_length, numL] at hg
      exact TLe.eq (by rw [← hg]; rfl)
termination_by t => SizeOf.sizeOf t
decreasing_by
  have := List.sizeOf_lt_of_mem (List.getElem_mem h)
  simp only [PV.mk.sizeOf_spec]
  omega
end Go.Proofs.YtkeehnhamkdogaaDoor

namespace Go.Proofs.YtkeehnhamkdogaaDoor
set_option linter.unusedVariables false
set_option linter.unusedSimpArgs false
open Go.RowKit
set_option maxRecDepth 100000

abbrev hexS : ByteArray := ⟨#[48, 49, 50, 51, 52, 53, 54, 55, 56, 57, 97, 98, 99, 100, 101, 102]⟩
theorem hex_cut (i : Nat) (h : i < 16) : hexS.extract (i : Int).toNat ((i + 1 : Nat) : Int).toNat = bs [hexL.getD i 0] := by
  have key : ∀ k : Fin 16, hexS.extract k.val (k.val + 1) = bs [hexL.getD k.val 0] := by decide +kernel
  exact key ⟨i, h⟩
def RtC (t : PV) : Prop := (txP t).length ≤ 70368744177600 → CallsA Tryd.prog Γ0 16 [gD (drow t)] (.o (c1 (ds (bs (txP t)))))
theorem RtC0 (n : Nat) (b : ByteArray) (kids : List PV) : RtC (.mk 0 n b kids) := by
  intro hl
  have e : txP (.mk 0 n b kids) = [45] := by rw [txP, if_pos rfl]
  rw [e, drow_mk]
  refine fn_rule (C := ⟨Tryd.prog, layF, Tryd.f16.ntmps, Γ0, 0, [], []⟩) layF_ok mixed Tryd.func16 rfl (by kernel_rfl) rfl rfl rfl ?_
  refine ex_true rfl ?_
  exact TLe.rfl
theorem RtC1 (n : Nat) (b : ByteArray) (kids : List PV) (hn : n < 18446744073709551616) : RtC (.mk 1 n b kids) := by
  intro hl
  have e : txP (.mk 1 n b kids) = Lib.decDigits n := by rw [txP, if_neg (by decide), if_pos rfl]
  rw [e, drow_mk]
  refine fn_rule (C := ⟨Tryd.prog, layF, Tryd.f16.ntmps, Γ0, 0, [], []⟩) layF_ok mixed Tryd.func16 rfl (by kernel_rfl) rfl rfl rfl ?_
  refine ex_false (by decide) ?_
  refine ex_true rfl ?_
  refine ex_call (digits_c n hn) ?_
  exact TLe.rfl
theorem RtC2 (n : Nat) (b : ByteArray) (kids : List PV) : RtC (.mk 2 n b kids) := by
  intro hl
  obtain ⟨l, hb⟩ : ∃ l, b.data.toList = l := ⟨_, rfl⟩
  have e : txP (.mk 2 n b kids) = [120, 34] ++ l.flatMap hx ++ [34] := by rw [txP, if_neg (by decide), if_neg (by decide), if_pos rfl, hb]
  have hbl : b.size = l.length := by rw [← hb]; rfl
  rw [e, drow_mk]
  rw [e] at hl
  simp only [List.length_append, hx_len, List.length_cons, List.length_nil] at hl
  refine fn_rule (C := ⟨Tryd.prog, layF, Tryd.f16.ntmps, Γ0, 0, [], []⟩) layF_ok mixed Tryd.func16 rfl (by kernel_rfl) rfl rfl rfl ?_
  refine ex_false (by decide) ?_
  refine ex_false (by decide) ?_
  refine ex_true rfl ?_
  refine ex_loop (X := Nat × ByteArray) (fun ⟨q, s⟩ => ⟨[(1, .o (.c (.ptr 0 0))), (3, Tstr hexS), (4, Tstr s), (5, Ti q)], [(0, .obj [.d (di 2), .d (du n), .d (ds b), .d (.sl 4 (kids.map drow))])], 1⟩) (fun x => l.length - x.1)
    (fun ⟨q, s⟩ => q ≤ l.length ∧ s = bs ([120, 34] ++ (l.take q).flatMap hx)) (0, ⟨#[120, 34]⟩) ⟨by omega, rfl⟩ (SLe.of ⟨⟨rfl, rfl, rfl, rfl, trivial⟩, ⟨rfl, trivial⟩⟩) ?_
  rintro ⟨q, s⟩ ⟨hq, hs⟩
  have hsl : s.size = 2 + 2 * q := by
    rw [hs, bs_size]
    simp only [List.length_append, hx_len, List.length_cons, List.length_nil, List.length_take]; omega
  refine ex_dec (fun h5 => ?_) (fun h5 => ?_)
  · have hql : q < l.length := by omega
    have hc : l[q]? = some l[q] := at_some hql
    generalize l[q] = c at *
    have hd1 : c.toNat / 16 < 16 := by have := c.toNat_lt; omega
    have hd2 : c.toNat % 16 < 16 := by omega
    have e1 : IntKind.u8.wrap ((c.toNat : Int).tdiv 16) = ((c.toNat / 16 : Nat) : Int) := by rw [Int.tdiv_eq_ediv_of_nonneg (by omega)]; exact wrap_un rfl (by omega) (by show _ < (256 : Int); omega)
    have e2 : (c.toNat : Int).tmod 16 = ((c.toNat % 16 : Nat) : Int) := by rw [Int.tmod_eq_emod_of_nonneg (by omega)]; rfl
    refine ex_chr q c rfl (by rw [hb]; exact hc) ?_
    refine ⟨by decide, ?_⟩
    refine ex_is (((c.toNat / 16 : Nat) : Int)) (e1) ?_
    refine ex_chr q c rfl (by rw [hb]; exact hc) ?_
    refine ⟨by decide, ?_⟩
    refine ex_is (((c.toNat / 16 : Nat) : Int)) (e1) ?_
    refine ex_u8 ((c.toNat / 16 + 1 : Nat) : Int) (by omega) (by omega) (by omega) ?_
    refine ⟨by omega, by omega, by show _ ≤ (16 : Int); omega, ?_⟩
    have hx1 := hex_cut (c.toNat / 16) hd1
    have hx2 := hex_cut (c.toNat % 16) hd2
    refine ⟨by rw [hsl, hx1, bs_size, List.length_singleton]; omega, ?_⟩
    refine ex_chr q c rfl (by rw [hb]; exact hc) ?_
    refine ⟨by decide, ?_⟩
    refine ex_is (((c.toNat % 16 : Nat) : Int)) (e2) ?_
    refine ex_chr q c rfl (by rw [hb]; exact hc) ?_
    refine ⟨by decide, ?_⟩
    refine ex_is (((c.toNat % 16 : Nat) : Int)) (e2) ?_
    refine ex_u8 ((c.toNat % 16 + 1 : Nat) : Int) (by omega) (by omega) (by omega) ?_
    refine ⟨by omega, by omega, by show _ ≤ (16 : Int); omega, ?_⟩
    refine ⟨by rw [ByteArray.size_append, hsl, hx1, hx2, bs_size, bs_size, List.length_singleton, List.length_singleton]; omega, ?_⟩
    refine ⟨by kernel_rfl, ?_⟩
    refine ex_i64 (((q + 1 : Nat) : Int)) (by first | rfl | omega | simp) (by omega) (by omega) ?_
    refine ex_round (q + 1, _) ⟨hql, ?_⟩ (by show _ - _ < _ - _; omega) (SLe.of ⟨⟨rfl, rfl, rfl, rfl, trivial⟩, ⟨rfl, trivial⟩⟩)
    rw [hx1, hx2, hs, bs_app, bs_app, List.take_add_one, hc, List.flatMap_append]
    refine congrArg bs ?_
    simp [hx]
  · obtain rfl : q = l.length := by omega
    rw [List.take_length] at hs
    refine ⟨by rw [hsl]; show _ + 1 ≤ _; omega, ?_⟩
    exact TLe.eq (by show Tstr (s ++ bs [34]) = Tstr (bs _); rw [hs, bs_app])
theorem RtCL (k : Int) (n : Nat) (b : ByteArray) (kids : List PV) (h3 : k = 3 ∨ k = 4) (ih : ∀ t ∈ kids, RtC t) : RtC (.mk k n b kids) := by
  intro hl
  have e : txP (.mk k n b kids) = [opn k] ++ txL true kids ++ [cls k] := txP_list k n b kids (by omega) (by omega) (by omega)
  rw [e, drow_mk]
  rw [e] at hl
  obtain ⟨T, hT⟩ : ∃ T, [opn k] ++ txL true kids = T := ⟨_, rfl⟩
  rw [hT]
  rw [hT] at hl
  rw [List.length_append, List.length_singleton] at hl
  have hkl : kids.length ≤ 70368744177600 := by have := txL_len true kids; rw [← hT] at hl; simp only [List.length_append] at hl; omega
  rcases h3 with rfl | rfl
  ·
    refine fn_rule (C := ⟨Tryd.prog, layF, Tryd.f16.ntmps, Γ0, 0, [], []⟩) layF_ok mixed Tryd.func16 rfl (by kernel_rfl) rfl rfl rfl ?_
    refine ex_false (by decide) ?_
    refine ex_false (by decide) ?_
    refine ex_false (by decide) ?_
    refine ex_false (by decide) ?_
    refine ex_loop (X := Nat × ByteArray) (fun ⟨q, s⟩ => ⟨[(1, .o (.c (.ptr 0 0))), (6, Tstr s), (7, Tstr (bs [cls 3])), (8, Ti q)], [(0, .obj [.d (di 3), .d (du n), .d (ds b), .d (.sl 4 (kids.map drow))])], 1⟩) (fun x => kids.length - x.1)
      (fun ⟨q, s⟩ => q ≤ kids.length ∧ ∃ m, s = bs m ∧ m ++ txL (decide (q = 0)) (kids.drop q) = T) (0, _) ⟨by omega, [opn 3], rfl, hT⟩ (SLe.of ⟨⟨rfl, rfl, rfl, rfl, trivial⟩, ⟨rfl, trivial⟩⟩) ?_
    rintro ⟨q, s⟩ ⟨hq, m, rfl, hm⟩
    refine ex_is (kids.length) (by simp) ?_
    refine ex_dec (fun h5 => ?_) (fun h5 => ?_)
    · have hql : q < kids.length := by omega
      rw [List.drop_eq_getElem_cons hql, txL] at hm
      have hw := ih kids[q] (List.getElem_mem hql)
      have hr : kids[q]? = some kids[q] := at_some hql
      generalize kids[q] = x at *
      have hml := congrArg List.length hm
      simp only [List.length_append] at hml
      refine ex_dec (fun h6 => ?_) (fun h6 => ?_)
      · have hq0 : decide (q = 0) = false := by simp; omega
        rw [if_neg (by simp; omega)] at hm
        rw [if_neg (by simp; omega)] at hml
        simp only [List.length_cons, List.length_nil] at hml
        refine ⟨by rw [bs_size]; show m.length + 2 ≤ _; omega, ?_⟩
        refine ex_row q x rfl hr ?_
        refine ex_call (hw (by omega)) ?_
        refine ⟨by have := bs_size (txP x); rw [ByteArray.size_append, bs_size m]; show m.length + 2 + (bs (txP x)).size ≤ _; omega, ?_⟩
        refine ex_i64 (((q + 1 : Nat) : Int)) (by first | rfl | omega | simp) (by omega) (by omega) ?_
        refine ex_round (q + 1, _) ⟨hql, m ++ [44, 32] ++ txP x, ?_, ?_⟩ (by show _ - _ < _ - _; omega) (SLe.of ⟨⟨rfl, rfl, rfl, rfl, trivial⟩, ⟨rfl, trivial⟩⟩)
        · show bs m ++ bs [44, 32] ++ bs (txP x) = _
          rw [bs_app, bs_app]
        · rw [← hm]
          simp
      · rw [if_pos (by simp; omega)] at hm
        refine ex_row q x rfl hr ?_
        refine ex_call (hw (by omega)) ?_
        refine ⟨by rw [bs_size, bs_size]; omega, ?_⟩
        refine ex_i64 (((q + 1 : Nat) : Int)) (by first | rfl | omega | simp) (by omega) (by omega) ?_
        refine ex_round (q + 1, _) ⟨hql, m ++ txP x, bs_app _ _, ?_⟩ (by show _ - _ < _ - _; omega) (SLe.of ⟨⟨rfl, rfl, rfl, rfl, trivial⟩, ⟨rfl, trivial⟩⟩)
        rw [← hm]
        simp
    · obtain rfl : q = kids.length := by omega
      rw [List.drop_length, txL, List.append_nil] at hm
      subst hm
      refine ⟨by rw [bs_size, bs_size, List.length_singleton]; omega, ?_⟩
      exact TLe.eq (by show Tstr (bs _ ++ bs _) = _; rw [bs_app])
  ·
    refine fn_rule (C := ⟨Tryd.prog, layF, Tryd.f16.ntmps, Γ0, 0, [], []⟩) layF_ok mixed Tryd.func16 rfl (by kernel_rfl) rfl rfl rfl ?_
    refine ex_false (by decide) ?_
    refine ex_false (by decide) ?_
    refine ex_false (by decide) ?_
    refine ex_true rfl ?_
    refine ex_loop (X := Nat × ByteArray) (fun ⟨q, s⟩ => ⟨[(1, .o (.c (.ptr 0 0))), (6, Tstr s), (7, Tstr (bs [cls 4])), (8, Ti q)], [(0, .obj [.d (di 4), .d (du n), .d (ds b), .d (.sl 4 (kids.map drow))])], 1⟩) (fun x => kids.length - x.1)
      (fun ⟨q, s⟩ => q ≤ kids.length ∧ ∃ m, s = bs m ∧ m ++ txL (decide (q = 0)) (kids.drop q) = T) (0, _) ⟨by omega, [opn 4], rfl, hT⟩ (SLe.of ⟨⟨rfl, rfl, rfl, rfl, trivial⟩, ⟨rfl, trivial⟩⟩) ?_
    rintro ⟨q, s⟩ ⟨hq, m, rfl, hm⟩
    refine ex_is (kids.length) (by simp) ?_
    refine ex_dec (fun h5 => ?_) (fun h5 => ?_)
    · have hql : q < kids.length := by omega
      rw [List.drop_eq_getElem_cons hql, txL] at hm
      have hw := ih kids[q] (List.getElem_mem hql)
      have hr : kids[q]? = some kids[q] := at_some hql
      generalize kids[q] = x at *
      have hml := congrArg List.length hm
      simp only [List.length_append] at hml
      refine ex_dec (fun h6 => ?_) (fun h6 => ?_)
      · have hq0 : decide (q = 0) = false := by simp; omega
        rw [if_neg (by simp; omega)] at hm
        rw [if_neg (by simp; omega)] at hml
        simp only [List.length_cons, List.length_nil] at hml
        refine ⟨by rw [bs_size]; show m.length + 2 ≤ _; omega, ?_⟩
        refine ex_row q x rfl hr ?_
        refine ex_call (hw (by omega)) ?_
        refine ⟨by have := bs_size (txP x); rw [ByteArray.size_append, bs_size m]; show m.length + 2 + (bs (txP x)).size ≤ _; omega, ?_⟩
        refine ex_i64 (((q + 1 : Nat) : Int)) (by first | rfl | omega | simp) (by omega) (by omega) ?_
        refine ex_round (q + 1, _) ⟨hql, m ++ [44, 32] ++ txP x, ?_, ?_⟩ (by show _ - _ < _ - _; omega) (SLe.of ⟨⟨rfl, rfl, rfl, rfl, trivial⟩, ⟨rfl, trivial⟩⟩)
        · show bs m ++ bs [44, 32] ++ bs (txP x) = _
          rw [bs_app, bs_app]
        · rw [← hm]
          simp
      · rw [if_pos (by simp; omega)] at hm
        refine ex_row q x rfl hr ?_
        refine ex_call (hw (by omega)) ?_
        refine ⟨by rw [bs_size, bs_size]; omega, ?_⟩
        refine ex_i64 (((q + 1 : Nat) : Int)) (by first | rfl | omega | simp) (by omega) (by omega) ?_
        refine ex_round (q + 1, _) ⟨hql, m ++ txP x, bs_app _ _, ?_⟩ (by show _ - _ < _ - _; omega) (SLe.of ⟨⟨rfl, rfl, rfl, rfl, trivial⟩, ⟨rfl, trivial⟩⟩)
        rw [← hm]
        simp
    · obtain rfl : q = kids.length := by omega
      rw [List.drop_length, txL, List.append_nil] at hm
      subst hm
      refine ⟨by rw [bs_size, bs_size, List.length_singleton]; omega, ?_⟩
      exact TLe.eq (by show Tstr (bs _ ++ bs _) = _; rw [bs_app])
mutual
theorem RtC_all : ∀ t : PV, AllP (fun k n _ => (0 ≤ k ∧ k < 5) ∧ n < 18446744073709551616) t → RtC t
  | .mk k n b l, h => by
    rw [AllP] at h
    by_cases h0 : k = 0
    · subst h0; exact RtC0 n b l
    by_cases h1 : k = 1
    · subst h1; exact RtC1 n b l h.1.2
    by_cases h2 : k = 2
    · subst h2; exact RtC2 n b l
    exact RtCL k n b l (by omega) (RtC_allL l h.2)
theorem RtC_allL : ∀ l : List PV, AllPL (fun k n _ => (0 ≤ k ∧ k < 5) ∧ n < 18446744073709551616) l → ∀ t ∈ l, RtC t
  | [], _ => by simp
  | x :: xs, h => by
    rw [AllPL] at h
    intro t ht
    rcases List.mem_cons.1 ht with e | ht
    · rw [e]; exact RtC_all x h.1
    · exact RtC_allL xs h.2 t ht
end
/-! ### Counts and depths -/
theorem depthL_iff : ∀ (l : List PV) (d m : Nat), (0 < depthL l d ∧ depthL l d ≤ m + 1) ↔ (d ≤ m ∧ ∀ x ∈ l, 0 < depthP x ∧ depthP x ≤ m)
  | [], d, m => by simp [depthL]
  | x :: xs, d, m => by
    rw [depthL]
    split
    · rename_i h
      constructor
      · intro h2; omega
      · intro ⟨_, h2⟩
        have := h2 x (by simp)
        omega
    · rw [depthL_iff xs]
      simp only [List.forall_mem_cons]
      split <;> constructor <;> intro ⟨h1, h2⟩
      · exact ⟨by omega, ⟨by omega, h1⟩, h2⟩
      · exact ⟨h2.1.2, h2.2⟩
      · exact ⟨h1, ⟨by omega, by omega⟩, h2⟩
      · exact ⟨h1, h2.2⟩
mutual
theorem countP_eq : ∀ (t : PV) (m : Nat), countP t m = if 0 < depthP t ∧ depthP t ≤ m then t.num else 0
  | .mk k n b l, m => by
    rw [countP, depthP]
    by_cases h0 : leanB k n b l.length = false
    · rw [if_pos (.inl h0), if_pos h0, if_neg (by omega)]
    rw [if_neg h0]
    cases m with
    | zero =>
      rw [if_pos (.inr rfl), if_neg (by omega)]
    | succ m =>
      rw [if_neg (by rintro (h | h); exact h0 h; omega), show m + 1 - 1 = m from rfl, countL_eq l m 1 (by omega), PV.num]
      have h2 := depthL_iff l 0 m
      by_cases h3 : ∀ x ∈ l, 0 < depthP x ∧ depthP x ≤ m
      · rw [if_pos h3, if_pos (h2.2 ⟨Nat.zero_le _, h3⟩)]
      · rw [if_neg h3, if_neg (fun h => h3 (h2.1 h).2)]
theorem countL_eq : ∀ (l : List PV) (m acc : Nat), 0 < acc → countL l m acc = if ∀ x ∈ l, 0 < depthP x ∧ depthP x ≤ m then acc + numL l else 0
  | [], m, acc, h => by simp [countL, numL]
  | x :: xs, m, acc, h => by
    rw [countL, countP_eq x m]
    have hn := num_pos x
    by_cases h1 : 0 < depthP x ∧ depthP x ≤ m
    · rw [if_pos h1, if_neg (by omega), countL_eq xs m _ (by omega), numL]
      by_cases h3 : ∀ y ∈ xs, 0 < depthP y ∧ depthP y ≤ m
      · rw [if_pos h3, if_pos (by simpa using ⟨h1, h3⟩)]; omega
      · rw [if_neg h3, if_neg (by simp only [List.forall_mem_cons]; exact fun h => h3 h.2)]
    · rw [if_neg h1, if_pos rfl, if_neg (by simp only [List.forall_mem_cons]; exact fun h => h1 h.1)]
end
theorem good_same (t : PV) : rgoodP t = goodP t := by
  unfold rgoodP goodP
  rw [countP_eq]
  have := num_pos t
  split
  · rename_i h; rw [decide_eq_true h, decide_eq_true (by omega)]
  · rename_i h; rw [decide_eq_false h, decide_eq_false (by omega)]
theorem count_good (t : PV) (h : goodP t = true) : countP t 1200 = t.num := by
  rw [← good_same] at h
  unfold rgoodP at h
  rw [countP_eq, if_pos (of_decide_eq_true h)]
/-- A good value's parts are lean. -/
theorem depth_all : ∀ (t : PV), 0 < depthP t → AllP (fun k _ _ => 0 ≤ k ∧ k < 5) t
  | .mk k n b l, h => by
    rw [depthP] at h
    split at h
    · omega
    rename_i h0
    rw [AllP_mk]
    have h1 : leanB k n b l.length = true := by cases hl : leanB k n b l.length with | true => rfl | false => exact absurd hl h0
    simp only [leanB, Bool.and_eq_true, decide_eq_true_eq] at h1
    refine ⟨h1.1.1.1, AllPL_of fun x hx => ?_⟩
    have h3 := ((depthL_iff l 0 (depthL l 0)).1 ⟨h, by omega⟩).2 x hx
    have := List.sizeOf_lt_of_mem hx
    exact depth_all x h3.1
termination_by t => SizeOf.sizeOf t
decreasing_by simp only [PV.mk.sizeOf_spec]; omega
end Go.Proofs.YtkeehnhamkdogaaDoor

namespace Go.Proofs.YtkeehnhamkdogaaDoor
set_option linter.unusedVariables false
set_option linter.unusedSimpArgs false
open Go.ChangeShapes Go.WideShapes Go.ChangeAt Go.RowKit

theorem own : ownKnob Tryd.prog.godebug = none := by kernel_rfl
theorem laidOut : laidOutB Tryd.prog = true := by kernel_rfl

section
variable {H : Type} {enc : TypeId × Value → H} {P : Program} {W W' : World}

theorem trodAll_below (hl : laidOutB P = true) (hb : Below W.heap.size W W') : ∀ (ts : List TypeId) (vs : List Value) (ds : List (DataW H)) (ps : List MemPlace), (∀ t ∈ ts, P.readableRec t = true ∧ t < P.types.size) →
    DataW.TrodAll enc P W 0 (fun _ => true) true ts vs ds ps → (∀ x ∈ ps, x.block < W.heap.size) → DataW.TrodAll enc P W' 0 (fun b => decide (b < W.heap.size)) true ts vs ds ps
  | [], [], [], _, _, h, _ => h
  | t :: ts, v :: vs, d :: ds, ps, hr, h, hlt => by
    obtain ⟨p, q, h1, h2, rfl⟩ := h
    have ht := hr t (by simp)
    exact ⟨p, q, Below.trod hl ht.1 ht.2 h1 hb (fun x hx => hlt x (by simp [hx])), trodAll_below hl hb ts vs ds q (fun t' h' => hr t' (by simp [h'])) h2 (fun x hx => hlt x (by simp [hx])), rfl⟩
  | [], [], _ :: _, _, _, h, _ => h.elim
  | [], _ :: _, _, _, _, h, _ => h.elim
  | _ :: _, [], _, _, _, h, _ => h.elim
  | _ :: _, _ :: _, [], _, _, h, _ => h.elim

/-- A law's row: true, and every argument reads as it did. -/
theorem law_post {f : Func} {s : ChangeSpec} {args : Array Value} {ds : List (DataW H)} {before : List MemPlace} {tb : TypeId} (hl : laidOutB P = true)
    (hW : DataW.Whole enc P f.params.toList s.vars false W args.toList ds [] before) (hsv : s.vars = []) (hr0 : (f.params.toList.all fun t => P.readableRec t && decide (t < P.types.size)) = true)
    (hrt : f.resultTypes = #[tb]) (htb : P.underlying tb = some .bool) (h1 : (s.fn H (ds ++ [])).results = [.lit (.bool true)]) (h2 : (s.fn H (ds ++ [])).args = ds) (h3 : (s.fn H (ds ++ [])).vars = [])
    (hb : Below W.heap.size W W') : s.post enc P f false true false false W args (.bool true) W' := by
  have hr : ∀ t ∈ f.params.toList, P.readableRec t = true ∧ t < P.types.size := fun t ht => by simpa using List.all_eq_true.1 hr0 t ht
  have hlt : ∀ p ∈ before, p.block < W.heap.size := fun p hp => hW.lt p hp
  have hW0 := hW
  obtain ⟨p, q, hA, hV, rfl, _, _⟩ := hW0
  rw [hsv] at hV
  obtain rfl : q = [] := hV
  refine ⟨ds, [], _, [], p, [], hW, ?_, ?_, ?_, hb.frame _, fun h => by cases h⟩
  · rw [h1, hrt]
    exact trodAll_mk1 (shut_bool htb true)
  · rw [h2]
    exact trodAll_below hl hb _ _ _ _ hr hA (fun x hx => hlt x (by simp [hx]))
  · rw [h3, hsv]; rfl
end

section
variable {H : Type} {enc : TypeId × Value → H} {P : Program} {w : World} {base : Nat} {sp : Nat → Bool} {held : Bool}

theorem okWide_array {r : Reach} {b : Nat} {t e : TypeId} {n : Nat} {v : Value} (ht : P.underlying t = some (.array n e)) (h : Value.okWide P w r b t v) : ∃ cs, v = .agg cs ∧ cs.size = P.cellsOf t := by
  simp only [Value.okWide, ht] at h
  obtain ⟨cs, h1, h2, _⟩ := h
  exact ⟨cs, h1, h2⟩

/-- An array of integers by value. -/
theorem open_int_array {r : Reach} {b0 : Nat} {t e : TypeId} {n : Nat} {k : IntKind} {v : Value} {d : DataW H} {ps : List MemPlace} (ht : P.underlying t = some (.array n e)) (he : P.underlying e = some (.int k)) (hc : P.cellsOf e = 1) (hn : P.cellsOf t = n)
    (hval : Value.okWide P w r b0 t v) (hd : DataW.Trod enc P w base sp held t v d ps) : ∃ zs : List Int, zs.length = n ∧ v = .agg (zs.map (Value.int k)).toArray ∧ ∀ z ∈ zs, (Lit.int k z).wf = true := by
  obtain ⟨cs, rfl, hs⟩ := okWide_array ht hval
  obtain ⟨fuel, hf⟩ := hd
  obtain ⟨xs, m, _, _, hl, hx, hall⟩ := DataW.trod_array ht hf
  have hcs : (Value.agg cs).cells.toList = cs.toList := rfl
  rw [hcs] at hl hall
  have hlen : cs.toList.length = n := by rw [hl, hn]
  have key : ∀ i, (h : i < cs.toList.length) → ∃ z, cs.toList[i] = .int k z ∧ (Lit.int k z).wf = true := by
    intro i h
    have h1 := hall i (by omega)
    rw [hc, Nat.mul_one, List.take_one, List.head?_drop, List.getElem?_eq_getElem h, List.getElem?_eq_getElem (by omega)] at h1
    obtain ⟨z, hz, _, hw⟩ := DataW.trod_int he h1
    exact ⟨z, by simpa using hz, hw⟩
  have all : ∀ l : List Value, (∀ i, (h : i < l.length) → ∃ z, l[i] = .int k z ∧ (Lit.int k z).wf = true) → ∃ zs : List Int, zs.length = l.length ∧ l = zs.map (Value.int k) ∧ ∀ z ∈ zs, (Lit.int k z).wf = true := by
    intro l
    induction l with
    | nil => exact fun _ => ⟨[], rfl, rfl, by simp⟩
    | cons c l ih =>
      intro h
      obtain ⟨z, hz, hw⟩ := h 0 (by simp)
      obtain ⟨zs, h1, h2, h3⟩ := ih (fun i hi => by obtain ⟨z', h', w'⟩ := h (i + 1) (by simpa using hi); exact ⟨z', h', w'⟩)
      refine ⟨z :: zs, by simp [h1], ?_, ?_⟩
      · simp only [List.map_cons]
        rw [← h2, ← hz]; rfl
      · intro y hy
        rcases List.mem_cons.1 hy with rfl | hy
        · exact hw
        · exact h3 y hy
  obtain ⟨zs, h1, h2, h3⟩ := all cs.toList key
  exact ⟨zs, by rw [h1, hlen], by rw [← h2], h3⟩

theorem len2 {zs : List Int} (h : zs.length = 2) : ∃ a b, zs = [a, b] := by
  match zs, h with
  | [a, b], _ => exact ⟨a, b, rfl⟩
theorem len3 {zs : List Int} (h : zs.length = 3) : ∃ a b c, zs = [a, b, c] := by
  match zs, h with
  | [a, b, c], _ => exact ⟨a, b, c, rfl⟩
theorem len4 {zs : List Int} (h : zs.length = 4) : ∃ a b c d, zs = [a, b, c, d] := by
  match zs, h with
  | [a, b, c, d], _ => exact ⟨a, b, c, d, rfl⟩

theorem wf_i64 {n : Int} (h : (Lit.int .i64 n).wf = true) : -9223372036854775808 ≤ n ∧ n ≤ 9223372036854775807 := by
  have h1 : IntKind.i64.min = -9223372036854775808 := rfl
  have h2 : IntKind.i64.max = 9223372036854775807 := rfl
  simpa [Lit.wf, h1, h2] using h
theorem wf_u64 {n : Int} (h : (Lit.int .u64 n).wf = true) : 0 ≤ n ∧ n ≤ 18446744073709551615 := by
  have h1 : IntKind.u64.min = 0 := rfl
  have h2 : IntKind.u64.max = 18446744073709551615 := rfl
  simpa [Lit.wf, h1, h2] using h
theorem wf_u32 {n : Int} (h : (Lit.int .u32 n).wf = true) : 0 ≤ n ∧ n ≤ 4294967295 := by
  have h1 : IntKind.u32.min = 0 := rfl
  have h2 : IntKind.u32.max = 4294967295 := rfl
  simpa [Lit.wf, h1, h2] using h
theorem wf_u16 {n : Int} (h : (Lit.int .u16 n).wf = true) : 0 ≤ n ∧ n ≤ 65535 := by
  have h1 : IntKind.u16.min = 0 := rfl
  have h2 : IntKind.u16.max = 65535 := rfl
  simpa [Lit.wf, h1, h2] using h
theorem wf_u8 {n : Int} (h : (Lit.int .u8 n).wf = true) : 0 ≤ n ∧ n ≤ 255 := by
  have h1 : IntKind.u8.min = 0 := rfl
  have h2 : IntKind.u8.max = 255 := rfl
  simpa [Lit.wf, h1, h2] using h
end
end Go.Proofs.YtkeehnhamkdogaaDoor

namespace Go.Proofs.YtkeehnhamkdogaaDoor
set_option linter.unusedVariables false
set_option linter.unusedSimpArgs false
open Go.ChangeShapes Go.WideShapes Go.ChangeAt Go.RowKit

def tilesF (P : Program) : Nat → List Field → Nat → Bool
  | o, [], n => Nat.beq o n
  | o, f :: fs, n => Nat.beq f.offset o && tilesF P (o + P.cellsOf f.type) fs n
/-- Is a type one that is read, to so many levels? -/
def okT (P : Program) : Nat → TypeId → Bool
  | 0, _ => false
  | d + 1, t => match P.underlying t with
    | some .bool | some (.int _) | some .string => true
    | some (.slice e) => Nat.blt 0 (P.cellsOf e) && okT P d e
    | some (.array n e) => Nat.beq (n * P.cellsOf e) (P.cellsOf t) && okT P d e
    | some (.struct fs) => tilesF P 0 fs.toList (P.cellsOf t) && fs.toList.all fun f => okT P d f.type
    | _ => false
/-- What the cells of a value of a type read as. -/
def DT (P : Program) : Nat → TypeId → List D → Prop
  | 0, _, _ => False
  | d + 1, t, ds => match P.underlying t with
    | some .bool => ∃ b, ds = [.v (.bool b)]
    | some (.int k) => ∃ z, ds = [.v (.int k z)] ∧ (Lit.int k z).wf = true
    | some .string => ∃ s, ds = [.v (.string s)] ∧ s.size ≤ maxLen
    | some (.slice e) => ∃ rows, ds = [.sl (P.cellsOf e) rows] ∧ rows.length ≤ maxLen ∧ ∀ r ∈ rows, DT P d e r
    | some (.array n e) => ∃ ps : List (List D), ps.length = n ∧ ds = ps.flatten ∧ ∀ p ∈ ps, DT P d e p
    | some (.struct fs) => ∃ ps : List (List D), ds = ps.flatten ∧ All2 (fun (f : Field) p => DT P d f.type p) fs.toList ps
    | _ => False
theorem choose_list {α : Type} {Q : Nat → α → Prop} : ∀ {n : Nat}, (∀ i, i < n → ∃ a, Q i a) → ∃ L : List α, L.length = n ∧ ∀ i a, L[i]? = some a → Q i a
  | 0, _ => ⟨[], rfl, fun i a h => by simp at h⟩
  | n + 1, h => by
    obtain ⟨L, h1, h2⟩ := choose_list (n := n) (fun i hi => h i (by omega))
    obtain ⟨a, ha⟩ := h n (by omega)
    refine ⟨L ++ [a], by simp [h1], fun i b hb => ?_⟩
    rw [List.getElem?_append] at hb
    split at hb
    · exact h2 i b hb
    · rename_i hlt
      have hi : i - L.length = 0 := by
        rcases Nat.eq_zero_or_pos (i - L.length) with h | h
        · exact h
        · rw [List.getElem?_eq_none (by simp; omega)] at hb; cases hb
      rw [hi] at hb
      simp at hb
      obtain rfl : i = n := by omega
      rw [← hb]; exact ha
theorem flatten_at {α : Type} {size : Nat} (h0 : 0 < size) : ∀ {rows : List (List α)} (_ : ∀ r ∈ rows, r.length = size) {j : Nat} {d : α}, rows.flatten[j]? = some d → ∃ r, rows[j / size]? = some r ∧ r[j % size]? = some d
  | [], _, j, d, h => by simp at h
  | a :: rows, hr, j, d, h => by
    have ha := hr a (by simp)
    by_cases hj : j < size
    · rw [List.flatten_cons, List.getElem?_append_left (by omega)] at h
      rw [Nat.div_eq_of_lt hj, Nat.mod_eq_of_lt hj]
      exact ⟨a, rfl, h⟩
    · rw [List.flatten_cons, List.getElem?_append_right (by omega), ha] at h
      obtain ⟨r, h1, h2⟩ := flatten_at h0 (fun r hr' => hr r (by simp [hr'])) h
      refine ⟨r, ?_, ?_⟩
      · rw [show j / size = (j - size) / size + 1 by rw [Nat.div_eq_sub_div h0 (by omega)]]
        simpa using h1
      · rw [Nat.mod_eq_sub_mod (by omega)]; exact h2
/-- All memory of a world. -/
def Sall (w : World) : Nat → Prop := fun b => b < w.heap.size
theorem cell_lt {w : World} {a : Addr} {u : Value} (h : w.cell? a = some u) : a.block < w.heap.size ∧ a.spot = none := by
  unfold World.cell? at h
  split at h
  · rename_i c t f hc
    refine ⟨(Array.getElem?_eq_some_iff.1 hc).1, ?_⟩
    split at h
    · cases h
    · rename_i hs
      cases hsp : a.spot with
      | none => rfl
      | some k => rw [hsp] at hs; simp at hs
  · cases h
theorem cells_get {w : World} {base : Nat} {a : Addr} {n : Nat} {cs : List Value} (h : w.cells? base a n = some cs) : cs.length = n ∧ ∀ i, i < n → w.cell? (a.add i) = cs[i]? := by
  unfold World.cells? at h
  split at h
  · obtain ⟨h1, h2⟩ := mapM_isSome h
    rw [List.length_range] at h1
    refine ⟨h1.symm, fun i hi => ?_⟩
    obtain ⟨b, hb1, hb2⟩ := h2 i i (by simp [hi])
    rw [hb1, hb2]
  · cases h
section
variable {H : Type} {enc : TypeId × Value → H} {P : Program} {w : World} {base : Nat} {sp : Nat → Bool} {held : Bool}
theorem parts_all {R : D → Value → Prop} {T : Field → List D → Prop} : ∀ (fs : List Field) (o : Nat) (cs : List Value) (n : Nat), cs.length = n → tilesF P o fs n = true → o ≤ n →
    (∀ f ∈ fs, ∃ ds, T f ds ∧ All2 R ds ((cs.drop f.offset).take (P.cellsOf f.type))) → ∃ ps : List (List D), All2 T fs ps ∧ All2 R ps.flatten (cs.drop o)
  | [], o, cs, n, hl, ht, _, _ => by
    have : o = n := Nat.eq_of_beq_eq_true ht
    exact ⟨[], .nil, by rw [List.drop_of_length_le (by omega)]; exact .nil⟩
  | f :: fs, o, cs, n, hl, ht, ho, h => by
    simp only [tilesF, Bool.and_eq_true] at ht
    have ho' : f.offset = o := Nat.eq_of_beq_eq_true ht.1
    obtain ⟨ds, h1, h2⟩ := h f (by simp)
    have hle : o + P.cellsOf f.type ≤ n := by
      have key : ∀ (fs : List Field) (o : Nat), tilesF P o fs n = true → o ≤ n := fun fs => by
        induction fs with
        | nil => intro o h; exact Nat.le_of_eq (Nat.eq_of_beq_eq_true h)
        | cons g gs ih =>
          intro o h
          simp only [tilesF, Bool.and_eq_true] at h
          have := ih _ h.2
          omega
      exact key fs _ ht.2
    obtain ⟨ps, h3, h4⟩ := parts_all fs _ cs n hl ht.2 hle (fun g hg => h g (by simp [hg]))
    refine ⟨ds :: ps, .cons h1 h3, ?_⟩
    rw [List.flatten_cons, ho'] at *
    have := h2.append h4
    rwa [← List.drop_drop, List.take_append_drop] at this
theorem trod_dt : ∀ (d fuel : Nat) (t : TypeId) (cs : List Value) (x : DataW H × List MemPlace), okT P d t = true → DataW.trod enc P w base sp held fuel t cs = some x → ∃ ds, DT P d t ds ∧ All2 (Imm (Sall w) w) ds cs
  | 0, _, _, _, _, h, _ => by cases h
  | d + 1, fuel, t, cs, x, hok, h => by
    unfold okT at hok
    unfold DT
    split at hok
    · rename_i hu
      obtain ⟨b, rfl, _⟩ := DataW.trod_bool hu h
      exact ⟨_, ⟨b, rfl⟩, .cons (Imm.v rfl) .nil⟩
    · rename_i k hu
      obtain ⟨n, rfl, _, hw⟩ := DataW.trod_int hu h
      exact ⟨_, ⟨n, rfl, hw⟩, .cons (Imm.v rfl) .nil⟩
    · rename_i hu
      obtain ⟨s, rfl, _, hs⟩ := DataW.trod_string hu h
      exact ⟨_, ⟨s, rfl, hs⟩, .cons (Imm.v rfl) .nil⟩
    · rename_i e hu
      simp only [Bool.and_eq_true] at hok
      have h0 : 0 < P.cellsOf e := Nat.lt_of_succ_le (Nat.le_of_ble_eq_true hok.1)
      rcases DataW.trod_slice hu h with ⟨rfl, _⟩ | ⟨a, len, cap, elems, rest, n, _, rfl, _, _, hlc, hcm, hel, hel2, _⟩
      · exact ⟨_, ⟨[], rfl, by simp, by simp⟩, .cons Imm.nil .nil⟩
      · have hone : ∀ i, i < len → ∃ ds, DT P d e ds ∧ ∃ cs', w.cells? base (a.add (i * P.cellsOf e)) (P.cellsOf e) = some cs' ∧ All2 (Imm (Sall w) w) ds cs' := fun i hi => by
          have h1 := hel2 i hi
          rw [List.getElem?_eq_getElem (by omega)] at h1
          obtain ⟨cs', h2, h3⟩ := Option.bind_eq_some_iff.1 h1
          obtain ⟨ds, h4, h5⟩ := trod_dt d n e cs' _ hok.2 h3
          exact ⟨ds, h4, cs', h2, h5⟩
        obtain ⟨rows, hr1, hr2⟩ := choose_list hone
        have hrm : ∀ r ∈ rows, ∃ i, i < len ∧ rows[i]? = some r := fun r hr => by
          obtain ⟨i, hi⟩ := List.getElem?_of_mem hr
          exact ⟨i, by have := (List.getElem?_eq_some_iff.1 hi).1; omega, hi⟩
        have hdt : ∀ r ∈ rows, DT P d e r := fun r hr => by
          obtain ⟨i, _, hi⟩ := hrm r hr
          exact (hr2 i r hi).1
        have hrl : ∀ r ∈ rows, r.length = P.cellsOf e := fun r hr => by
          obtain ⟨i, _, hi⟩ := hrm r hr
          obtain ⟨_, cs', h2, h3⟩ := hr2 i r hi
          rw [h3.len, (cells_get h2).1]
        refine ⟨_, ⟨rows, rfl, by omega, hdt⟩, .cons ?_ .nil⟩
        by_cases hz : len = 0
        · subst hz
          obtain rfl := List.eq_nil_of_length_eq_zero hr1
          exact Imm.sl0
        · obtain ⟨r0, _, cs0, h2, _⟩ := hone 0 (by omega)
          have h3 := (cells_get h2).2 0 h0
          rw [Nat.zero_mul] at h3
          have e0 : (a.add 0).add 0 = a := rfl
          rw [e0, List.getElem?_eq_getElem (by rw [(cells_get h2).1]; exact h0)] at h3
          obtain ⟨hb, hs⟩ := cell_lt h3
          obtain ⟨g, f, spot⟩ := a
          simp only at hs hb
          subst hs
          rw [← hr1]
          have hat : ∀ j dd, rows.flatten[j]? = some dd → ∃ u, w.cell? ⟨g, f + j, none⟩ = some u ∧ Imm (Sall w) w dd u := fun j dd hj => by
            obtain ⟨r, e1, e2⟩ := flatten_at h0 hrl hj
            obtain ⟨_, cs', e3, e4⟩ := hr2 _ r e1
            obtain ⟨u, e5, e6⟩ := e4.at_left e2
            refine ⟨u, ?_, e6⟩
            have e7 := (cells_get e3).2 (j % P.cellsOf e) (Nat.mod_lt _ h0)
            rw [Addr.add_lit, Addr.add_lit, e5] at e7
            rw [← e7]
            congr 2
            rw [Nat.add_assoc, Nat.mul_comm, Nat.div_add_mod]
          refine Imm.sl (fun j => (w.cell? ⟨g, f + j, none⟩).getD undef) hb (by omega) hrl (fun j dd hj => ?_) (fun j dd hj => ?_)
          · obtain ⟨u, e1, _⟩ := hat j dd hj
            rw [e1]; rfl
          · obtain ⟨u, e1, e2⟩ := hat j dd hj
            rw [e1]; exact e2
    · rename_i n e hu
      simp only [Bool.and_eq_true] at hok
      have hn : n * P.cellsOf e = P.cellsOf t := Nat.eq_of_beq_eq_true hok.1
      obtain ⟨xs, m, _, _, hl, hx, hall⟩ := DataW.trod_array hu h
      have hone : ∀ i, i < n → ∃ ds, DT P d e ds ∧ All2 (Imm (Sall w) w) ds ((cs.drop (i * P.cellsOf e)).take (P.cellsOf e)) := fun i hi => by
        have h1 := hall i hi
        rw [List.getElem?_eq_getElem (by omega)] at h1
        exact trod_dt d m e _ _ hok.2 h1
      obtain ⟨ps, hp1, hp2⟩ := choose_list hone
      refine ⟨ps.flatten, ⟨ps, hp1, rfl, fun p hp => ?_⟩, ?_⟩
      · obtain ⟨i, hi⟩ := List.getElem?_of_mem hp
        exact (hp2 i p hi).1
      · have key : ∀ (ps : List (List D)) (o : Nat), (∀ i p, ps[i]? = some p → All2 (Imm (Sall w) w) p ((cs.drop ((o + i) * P.cellsOf e)).take (P.cellsOf e))) → (o + ps.length) * P.cellsOf e = cs.length → All2 (Imm (Sall w) w) ps.flatten (cs.drop (o * P.cellsOf e)) := fun ps => by
          induction ps with
          | nil => intro o _ hlen; rw [List.drop_of_length_le (by simp at hlen; omega)]; exact .nil
          | cons p ps ih =>
            intro o hp hlen
            have h1 := hp 0 p rfl
            have h2 := ih (o + 1) (fun i q hq => by have := hp (i + 1) q (by simpa using hq); rwa [show o + 1 + i = o + (i + 1) by omega]) (by rw [← hlen, List.length_cons]; congr 1; omega)
            rw [List.flatten_cons]
            have := h1.append h2
            rwa [Nat.add_zero, Nat.add_mul, Nat.one_mul, ← List.drop_drop, List.take_append_drop] at this
        have := key ps 0 (fun i p hi => by rw [Nat.zero_add]; exact (hp2 i p hi).2) (by rw [Nat.zero_add, hp1, hn, hl])
        simpa using this
    · rename_i fs hu
      simp only [Bool.and_eq_true] at hok
      obtain ⟨xs, m, _, _, hl, hx, hall⟩ := DataW.trod_struct hu h
      obtain ⟨ps, h1, h2⟩ := parts_all (R := Imm (Sall w) w) (T := fun f p => DT P d f.type p) fs.toList 0 cs _ hl hok.1 (Nat.zero_le _) (fun f hf => by
        obtain ⟨i, hi⟩ := List.getElem?_of_mem hf
        have hlt := (List.getElem?_eq_some_iff.1 hi).1
        have h1 := hall i f (by simpa using hi)
        rw [List.getElem?_eq_getElem (by simp at hlt; omega)] at h1
        exact trod_dt d m f.type _ _ (List.all_eq_true.1 hok.2 f hf) h1)
      exact ⟨ps.flatten, ⟨ps, rfl, h1⟩, by simpa using h2⟩
    · cases hok
/-- An argument that came in reads as data of its type. -/
theorem open_dt {d : Nat} {r : Reach} {b0 : Nat} {t : TypeId} {v : Value} {dd : DataW H} {ps : List MemPlace} (hok : okT P d t = true) (hag : (P.underlying t).map aggD = some false) (hval : Value.okWide P w r b0 t v) (hd : DataW.Trod enc P w base sp held t v dd ps) :
    ∃ x, DT P d t [x] ∧ Imm (Sall w) w x v := by
  obtain ⟨fuel, hf⟩ := hd
  obtain ⟨ds, h1, h2⟩ := trod_dt d fuel t _ _ hok hf
  have hone : v.oneCell' = true := by
    cases d with
    | zero => cases hok
    | succ d =>
      unfold okT at hok
      split at hok
      · rename_i hu; obtain ⟨b, rfl⟩ := okWide_bool hu hval; rfl
      · rename_i hu; obtain ⟨n, rfl⟩ := okWide_int hu hval; rfl
      · rename_i hu; obtain ⟨s, rfl⟩ := okWide_string hu hval; rfl
      · rename_i hu; obtain ⟨a, l, c, rfl⟩ := okWide_slice hu hval; rfl
      · rename_i hu; rw [hu] at hag; cases hag
      · rename_i hu; rw [hu] at hag; cases hag
      · cases hok
  rw [oneCell_cells hone] at h2
  have hl := h2.len
  match ds, h2, hl with
  | [x], h2, _ => exact ⟨x, h1, h2.head⟩
end
end Go.Proofs.YtkeehnhamkdogaaDoor

namespace Go.Proofs.YtkeehnhamkdogaaDoor
set_option linter.unusedVariables false
set_option linter.unusedSimpArgs false
open Go.ChangeShapes Go.WideShapes Go.ChangeAt Go.RowKit
set_option maxRecDepth 100000

mutual
/-- How many values and letters a datum holds. -/
def dsz : D → Nat
  | .v (.string s) => s.size + 1
  | .v _ => 1
  | .err => 1
  | .sl _ rows => dszR rows + 1
def dszL : List D → Nat
  | [] => 0
  | d :: l => dsz d + dszL l
def dszR : List (List D) → Nat
  | [] => 0
  | r :: l => dszL r + dszR l
end
theorem dszL_app : ∀ l m : List D, dszL (l ++ m) = dszL l + dszL m
  | [], m => by simp [dszL]
  | d :: l, m => by rw [List.cons_append, dszL, dszL, dszL_app l m]; omega
theorem dszL_flat : ∀ l : List (List D), dszL l.flatten = dszR l
  | [] => rfl
  | r :: l => by rw [List.flatten_cons, dszL_app, dszR, dszL_flat l]
section
variable {H : Type} {enc : TypeId × Value → H} {P : Program} {w : World} {base : Nat} {sp : Nat → Bool} {held : Bool}
theorem sum_bulk : ∀ (rows : List (List D)) (ys : List (DataW H × List MemPlace)), rows.length ≤ ys.length → (∀ (i : Nat) (r : List D) (y : DataW H × List MemPlace), rows[i]? = some r → ys[i]? = some y → dszL r ≤ Rows.uptoBulk y.1) → dszR rows ≤ Rows.uptoBulkAll (ys.map (·.1))
  | [], ys, _, _ => Nat.zero_le _
  | r :: rows, [], h, _ => by simp at h
  | r :: rows, y :: ys, h, hp => by
    have h1 := hp 0 r y rfl rfl
    have h2 := sum_bulk rows ys (by simpa using h) (fun i r' y' hi hy => hp (i + 1) r' y' (by simpa using hi) (by simpa using hy))
    rw [List.map_cons, dszR, Rows.uptoBulkAll]; omega
theorem trod_bulk : ∀ (d fuel : Nat) (t : TypeId) (cs : List Value) (x : DataW H × List MemPlace), okT P d t = true → DataW.trod enc P w base sp held fuel t cs = some x → ∃ ds, DT P d t ds ∧ All2 (Imm (Sall w) w) ds cs ∧ dszL ds ≤ Rows.uptoBulk x.1
  | 0, _, _, _, _, h, _ => by cases h
  | d + 1, fuel, t, cs, x, hok, h => by
    unfold okT at hok
    unfold DT
    split at hok
    · rename_i hu
      obtain ⟨b, rfl, rfl⟩ := DataW.trod_bool hu h
      exact ⟨_, ⟨b, rfl⟩, .cons (Imm.v rfl) .nil, by simp [dszL, dsz, Rows.uptoBulk]⟩
    · rename_i k hu
      obtain ⟨n, rfl, rfl, hw⟩ := DataW.trod_int hu h
      exact ⟨_, ⟨n, rfl, hw⟩, .cons (Imm.v rfl) .nil, by simp [dszL, dsz, Rows.uptoBulk]⟩
    · rename_i hu
      obtain ⟨s, rfl, rfl, hs⟩ := DataW.trod_string hu h
      exact ⟨_, ⟨s, rfl, hs⟩, .cons (Imm.v rfl) .nil, by simp [dszL, dsz, Rows.uptoBulk]⟩
    · rename_i e hu
      simp only [Bool.and_eq_true] at hok
      have h0 : 0 < P.cellsOf e := Nat.lt_of_succ_le (Nat.le_of_ble_eq_true hok.1)
      rcases DataW.trod_slice hu h with ⟨rfl, rfl⟩ | ⟨a, len, cap, elems, rest, n, _, rfl, rfl, _, hlc, hcm, hel, hel2, _⟩
      · exact ⟨_, ⟨[], rfl, by simp, by simp⟩, .cons Imm.nil .nil, by simp [dszL, dsz, dszR, Rows.uptoBulk]⟩
      · have hone : ∀ i, i < len → ∃ ds, DT P d e ds ∧ (∃ cs', w.cells? base (a.add (i * P.cellsOf e)) (P.cellsOf e) = some cs' ∧ All2 (Imm (Sall w) w) ds cs') ∧ ∀ y, elems[i]? = some y → dszL ds ≤ Rows.uptoBulk y.1 := fun i hi => by
          have h1 := hel2 i hi
          rw [List.getElem?_eq_getElem (by omega)] at h1
          obtain ⟨cs', h2, h3⟩ := Option.bind_eq_some_iff.1 h1
          obtain ⟨ds, h4, h5, h6⟩ := trod_bulk d n e cs' _ hok.2 h3
          exact ⟨ds, h4, ⟨cs', h2, h5⟩, fun y hy => by rw [List.getElem?_eq_getElem (by omega)] at hy; cases hy; exact h6⟩
        obtain ⟨rows, hr1, hr2⟩ := choose_list hone
        have hrm : ∀ r ∈ rows, ∃ i, i < len ∧ rows[i]? = some r := fun r hr => by
          obtain ⟨i, hi⟩ := List.getElem?_of_mem hr
          exact ⟨i, by have := (List.getElem?_eq_some_iff.1 hi).1; omega, hi⟩
        have hdt : ∀ r ∈ rows, DT P d e r := fun r hr => by
          obtain ⟨i, _, hi⟩ := hrm r hr
          exact (hr2 i r hi).1
        have hrl : ∀ r ∈ rows, r.length = P.cellsOf e := fun r hr => by
          obtain ⟨i, _, hi⟩ := hrm r hr
          obtain ⟨_, ⟨cs', h2, h3⟩, _⟩ := hr2 i r hi
          rw [h3.len, (cells_get h2).1]
        refine ⟨_, ⟨rows, rfl, by omega, hdt⟩, .cons ?_ .nil, ?_⟩
        rotate_left
        · have := sum_bulk rows elems (by omega) (fun i r y hi hy => (hr2 i r hi).2.2 y hy)
          simp only [dszL, dsz, Rows.uptoBulk]
          omega
        by_cases hz : len = 0
        · subst hz
          obtain rfl := List.eq_nil_of_length_eq_zero hr1
          exact Imm.sl0
        · obtain ⟨r0, _, ⟨cs0, h2, _⟩, _⟩ := hone 0 (by omega)
          have h3 := (cells_get h2).2 0 h0
          rw [Nat.zero_mul] at h3
          have e0 : (a.add 0).add 0 = a := rfl
          rw [e0, List.getElem?_eq_getElem (by rw [(cells_get h2).1]; exact h0)] at h3
          obtain ⟨hb, hs⟩ := cell_lt h3
          obtain ⟨g, f, spot⟩ := a
          simp only at hs hb
          subst hs
          rw [← hr1]
          have hat : ∀ j dd, rows.flatten[j]? = some dd → ∃ u, w.cell? ⟨g, f + j, none⟩ = some u ∧ Imm (Sall w) w dd u := fun j dd hj => by
            obtain ⟨r, e1, e2⟩ := flatten_at h0 hrl hj
            obtain ⟨_, ⟨cs', e3, e4⟩, _⟩ := hr2 _ r e1
            obtain ⟨u, e5, e6⟩ := e4.at_left e2
            refine ⟨u, ?_, e6⟩
            have e7 := (cells_get e3).2 (j % P.cellsOf e) (Nat.mod_lt _ h0)
            rw [Addr.add_lit, Addr.add_lit, e5] at e7
            rw [← e7]
            congr 2
            rw [Nat.add_assoc, Nat.mul_comm, Nat.div_add_mod]
          refine Imm.sl (fun j => (w.cell? ⟨g, f + j, none⟩).getD undef) hb (by omega) hrl (fun j dd hj => ?_) (fun j dd hj => ?_)
          · obtain ⟨u, e1, _⟩ := hat j dd hj
            rw [e1]; rfl
          · obtain ⟨u, e1, e2⟩ := hat j dd hj
            rw [e1]; exact e2
    · rename_i n e hu
      simp only [Bool.and_eq_true] at hok
      have hn : n * P.cellsOf e = P.cellsOf t := Nat.eq_of_beq_eq_true hok.1
      obtain ⟨xs, m, _, rfl, hl, hx, hall⟩ := DataW.trod_array hu h
      have hone : ∀ i, i < n → ∃ ds, DT P d e ds ∧ All2 (Imm (Sall w) w) ds ((cs.drop (i * P.cellsOf e)).take (P.cellsOf e)) ∧ ∀ y, xs[i]? = some y → dszL ds ≤ Rows.uptoBulk y.1 := fun i hi => by
        have h1 := hall i hi
        rw [List.getElem?_eq_getElem (by omega)] at h1
        obtain ⟨ds, h4, h5, h6⟩ := trod_bulk d m e _ _ hok.2 h1
        exact ⟨ds, h4, h5, fun y hy => by rw [List.getElem?_eq_getElem (by omega)] at hy; cases hy; exact h6⟩
      obtain ⟨ps, hp1, hp2⟩ := choose_list hone
      refine ⟨ps.flatten, ⟨ps, hp1, rfl, fun p hp => ?_⟩, ?_, ?_⟩
      rotate_right
      · have := sum_bulk ps xs (by omega) (fun i r y hi hy => (hp2 i r hi).2.2 y hy)
        rw [dszL_flat]; simp only [Rows.uptoBulk]; omega
      · obtain ⟨i, hi⟩ := List.getElem?_of_mem hp
        exact (hp2 i p hi).1
      · have key : ∀ (ps : List (List D)) (o : Nat), (∀ i p, ps[i]? = some p → All2 (Imm (Sall w) w) p ((cs.drop ((o + i) * P.cellsOf e)).take (P.cellsOf e))) → (o + ps.length) * P.cellsOf e = cs.length → All2 (Imm (Sall w) w) ps.flatten (cs.drop (o * P.cellsOf e)) := fun ps => by
          induction ps with
          | nil => intro o _ hlen; rw [List.drop_of_length_le (by simp at hlen; omega)]; exact .nil
          | cons p ps ih =>
            intro o hp hlen
            have h1 := hp 0 p rfl
            have h2 := ih (o + 1) (fun i q hq => by have := hp (i + 1) q (by simpa using hq); rwa [show o + 1 + i = o + (i + 1) by omega]) (by rw [← hlen, List.length_cons]; congr 1; omega)
            rw [List.flatten_cons]
            have := h1.append h2
            rwa [Nat.add_zero, Nat.add_mul, Nat.one_mul, ← List.drop_drop, List.take_append_drop] at this
        have := key ps 0 (fun i p hi => by rw [Nat.zero_add]; exact (hp2 i p hi).2.1) (by rw [Nat.zero_add, hp1, hn, hl])
        simpa using this
    · rename_i fs hu
      simp only [Bool.and_eq_true] at hok
      obtain ⟨xs, m, _, rfl, hl, hx, hall⟩ := DataW.trod_struct hu h
      obtain ⟨ps, h1, h2⟩ := parts_all (R := Imm (Sall w) w) (T := fun f p => DT P d f.type p ∧ ∀ (i : Nat), fs[i]? = some f → ∀ (y : DataW H × List MemPlace), xs[i]? = some y → dszL p ≤ Rows.uptoBulk y.1) fs.toList 0 cs _ hl hok.1 (Nat.zero_le _) (fun f hf => by
        obtain ⟨i, hi⟩ := List.getElem?_of_mem hf
        have hlt := (List.getElem?_eq_some_iff.1 hi).1
        have h1 := hall i f (by simpa using hi)
        rw [List.getElem?_eq_getElem (by simp at hlt; omega)] at h1
        obtain ⟨ds, h4, h5, h6⟩ := trod_bulk d m f.type _ _ (List.all_eq_true.1 hok.2 f hf) h1
        exact ⟨ds, ⟨h4, fun i' hi' y hy => by
          have h7 := hall i' f hi'
          rw [hy] at h7
          rw [h7] at h1
          cases h1; exact h6⟩, h5⟩)
      refine ⟨ps.flatten, ⟨ps, rfl, ⟨h1.len, fun i a u ha hu => (h1.2 i a u ha hu).1⟩⟩, by simpa using h2, ?_⟩
      have hl1 := h1.len
      have := sum_bulk ps xs (by simp at hl1; omega) (fun i r y hi hy => by
        obtain ⟨f, hf, hT⟩ := h1.at_right hi
        exact hT.2 i (by simpa using hf) y hy)
      rw [dszL_flat]; simp only [Rows.uptoBulk]; omega
    · cases hok
/-- An argument that came in reads as data of its type. -/
theorem open_bulk {d : Nat} {r : Reach} {b0 : Nat} {t : TypeId} {v : Value} {dd : DataW H} {ps : List MemPlace} (hok : okT P d t = true) (hag : (P.underlying t).map aggD = some false) (hval : Value.okWide P w r b0 t v) (hd : DataW.Trod enc P w base sp held t v dd ps) :
    ∃ x, DT P d t [x] ∧ Imm (Sall w) w x v ∧ dsz x ≤ Rows.uptoBulk dd := by
  obtain ⟨fuel, hf⟩ := hd
  obtain ⟨ds, h1, h2, h3⟩ := trod_bulk d fuel t _ _ hok hf
  have hone : v.oneCell' = true := by
    cases d with
    | zero => cases hok
    | succ d =>
      unfold okT at hok
      split at hok
      · rename_i hu; obtain ⟨b, rfl⟩ := okWide_bool hu hval; rfl
      · rename_i hu; obtain ⟨n, rfl⟩ := okWide_int hu hval; rfl
      · rename_i hu; obtain ⟨s, rfl⟩ := okWide_string hu hval; rfl
      · rename_i hu; obtain ⟨a, l, c, rfl⟩ := okWide_slice hu hval; rfl
      · rename_i hu; rw [hu] at hag; cases hag
      · rename_i hu; rw [hu] at hag; cases hag
      · cases hok
  rw [oneCell_cells hone] at h2
  have hl := h2.len
  match ds, h1, h2, hl, h3 with
  | [x], h1, h2, _, h3 => exact ⟨x, h1, h2.head, by simpa [dszL] using h3⟩
end
end Go.Proofs.YtkeehnhamkdogaaDoor

namespace Go.Proofs.YtkeehnhamkdogaaDoor
set_option linter.unusedVariables false
set_option linter.unusedSimpArgs false
open Go.RowKit
set_option maxRecDepth 100000

theorem list_of {α : Type} {f : α → List D} {p : α → Prop} : ∀ {rows : List (List D)}, (∀ r ∈ rows, ∃ x, p x ∧ r = f x) → ∃ l : List α, rows = l.map f ∧ ∀ x ∈ l, p x
  | [], _ => ⟨[], rfl, by simp⟩
  | r :: rows, h => by
    obtain ⟨x, h1, h2⟩ := h r (by simp)
    obtain ⟨l, h3, h4⟩ := list_of (rows := rows) (f := f) (p := p) (fun q hq => h q (List.mem_cons_of_mem _ hq))
    refine ⟨x :: l, by rw [h2, h3]; rfl, fun y hy => ?_⟩
    rcases List.mem_cons.1 hy with rfl | hy
    · exact h1
    · exact h4 y hy
section
variable {P : Program} {d : Nat} {t : TypeId} {ds : List D}
theorem DT_int {k : IntKind} (hu : P.underlying t = some (.int k)) (h : DT P (d + 1) t ds) : ∃ z, ds = [.v (.int k z)] ∧ (Lit.int k z).wf = true := by
  unfold DT at h; rw [hu] at h; exact h
theorem DT_bool (hu : P.underlying t = some .bool) (h : DT P (d + 1) t ds) : ∃ b, ds = [.v (.bool b)] := by
  unfold DT at h; rw [hu] at h; exact h
theorem DT_str (hu : P.underlying t = some .string) (h : DT P (d + 1) t ds) : ∃ s, ds = [.v (.string s)] ∧ s.size ≤ maxLen := by
  unfold DT at h; rw [hu] at h; exact h
theorem DT_slice {e : TypeId} (hu : P.underlying t = some (.slice e)) (h : DT P (d + 1) t ds) : ∃ rows, ds = [.sl (P.cellsOf e) rows] ∧ rows.length ≤ maxLen ∧ ∀ r ∈ rows, DT P d e r := by
  unfold DT at h; rw [hu] at h; exact h
theorem DT_struct {fs : Array Field} (hu : P.underlying t = some (.struct fs)) (h : DT P (d + 1) t ds) : ∃ ps : List (List D), ds = ps.flatten ∧ All2 (fun (f : Field) p => DT P d f.type p) fs.toList ps := by
  unfold DT at h; rw [hu] at h; exact h
theorem DT_array {n : Nat} {e : TypeId} (hu : P.underlying t = some (.array n e)) (h : DT P (d + 1) t ds) : ∃ ps : List (List D), ps.length = n ∧ ds = ps.flatten ∧ ∀ p ∈ ps, DT P d e p := by
  unfold DT at h; rw [hu] at h; exact h
end
theorem dszR_at {α : Type} {f : α → List D} : ∀ {l : List α} {x : α}, x ∈ l → dszL (f x) ≤ dszR (l.map f)
  | y :: l, x, h => by
    rw [List.map_cons, dszR]
    rcases List.mem_cons.1 h with rfl | h
    · omega
    · have := dszR_at (f := f) h; omega
theorem dszR_len {α : Type} {f : α → List D} (hf : ∀ x, 1 ≤ dszL (f x)) : ∀ (l : List α), l.length ≤ dszR (l.map f)
  | [] => Nat.zero_le _
  | y :: l => by
    have := dszR_len hf l
    have := hf y
    rw [List.map_cons, dszR, List.length_cons]; omega
theorem dt_ints {d : Nat} {x : D} (h : DT Tryd.prog (d + 2) 91 [x]) : ∃ l : List Int, x = dint l := by
  obtain ⟨rows, h1, h2, h3⟩ := DT_slice Tryd.underlying91 h
  obtain ⟨l, h4, h5⟩ := list_of (f := fun z => [di z]) (p := fun _ : Int => True) (fun r hr => by
    obtain ⟨z, hz, hw⟩ := DT_int Tryd.underlying3 (h3 r hr)
    exact ⟨z, trivial, hz⟩)
  have e : Tryd.prog.cellsOf 3 = 1 := by kernel_rfl
  rw [e, h4] at h1
  cases h1
  exact ⟨l, rfl⟩
theorem dt_nodes {d : Nat} {x : D} (h : DT Tryd.prog (d + 4) 22 [x]) (hb : dsz x ≤ 1048576) : ∃ l : List ND, x = dnodes l ∧ l.length ≤ 1048576 ∧ ∀ v ∈ l, NdOk v := by
  obtain ⟨rows, h1, h2, h3⟩ := DT_slice Tryd.underlying22 h
  obtain ⟨l, h4, h5⟩ := list_of (f := nrow) (p := fun v : ND => (-9223372036854775808 ≤ v.k ∧ v.k ≤ 9223372036854775807) ∧ v.n < 18446744073709551616) (fun r hr => by
    obtain ⟨ps, e1, hp⟩ := DT_struct Tryd.underlying93 (h3 r hr)
    obtain ⟨p0, ps, rfl, q0, hp⟩ := hp.cons_left
    obtain ⟨p1, ps, rfl, q1, hp⟩ := hp.cons_left
    obtain ⟨p2, ps, rfl, q2, hp⟩ := hp.cons_left
    obtain ⟨p3, ps, rfl, q3, hp⟩ := hp.cons_left
    obtain rfl := hp.nil_left
    obtain ⟨z0, rfl, w0⟩ := DT_int Tryd.underlying3 q0
    obtain ⟨z1, rfl, w1⟩ := DT_int Tryd.underlying24 q1
    obtain ⟨s2, rfl, w2⟩ := DT_str Tryd.underlying9 q2
    obtain ⟨x3, rfl⟩ : ∃ x, p3 = [x] := by obtain ⟨rows, e, _⟩ := DT_slice Tryd.underlying91 q3; exact ⟨_, e⟩
    obtain ⟨ks, rfl⟩ := dt_ints q3
    have h1 := wf_u64 w1
    obtain ⟨n, rfl⟩ := Int.eq_ofNat_of_zero_le h1.1
    exact ⟨⟨z0, n, s2, ks⟩, ⟨wf_i64 w0, by have := h1.2; show n < _; omega⟩, e1⟩)
  have e : Tryd.prog.cellsOf 93 = 4 := by kernel_rfl
  rw [e, h4] at h1
  cases h1
  have hd : dszR (l.map nrow) ≤ 1048576 := by rw [dsz] at hb; omega
  have hl := dszR_len (f := nrow) (fun x => by simp only [nrow, dszL, dsz]; omega) l
  refine ⟨l, rfl, by omega, fun v hv => ?_⟩
  have h6 := dszR_at (f := nrow) hv
  have h7 := dszR_len (f := fun z => [di z]) (fun x => by simp [dszL, dsz]) v.kids
  simp only [nrow, dszL, dsz] at h6
  obtain ⟨h8, h9⟩ := h5 v hv
  exact ⟨h8.1, h8.2, h9, by omega, by omega⟩
theorem txV_eq (t : PV) : (⟨(txV t).toArray⟩ : ByteArray) = bs (if goodP t then txP t else []) := rfl
/-- What is known of the nodes' value. -/
structure VOk (t : PV) : Prop where
  num : t.num ≤ 60
  all : AllP PvOk t
theorem VOk.num' {t : PV} (h : VOk t) : t.num ≤ 4611686018427387904 := by have := h.num; omega
theorem VOk.tx {t : PV} (h : VOk t) : (txP t).length ≤ 1048576000 := by
  have h1 := txP_le' 2097202 (by omega) t h.all
  have h2 := h.num
  have h3 : t.num * 2097202 ≤ 60 * 2097202 := Nat.mul_le_mul_right _ h2
  omega
theorem VOk.of (l : List ND) (hl : ∀ x ∈ l, NdOk x) : VOk (valuesV l) := ⟨valuesV_num l, valuesV_all l hl⟩
theorem VOk.text {t : PV} (h : VOk t) : CallsA Tryd.prog ΓS 14 [gD (drow t)] (.o (c1 (ds (bs (txV t))))) := Text_c t h.num' (fmt_all h.all) (by have := h.tx; omega)
theorem AllP.and {p q : Int → Nat → ByteArray → Prop} : ∀ {t : PV}, AllP p t → AllP q t → AllP (fun k n b => p k n b ∧ q k n b) t
  | .mk k n b l, h, h' => by
    rw [AllP_mk] at h h' ⊢
    refine ⟨⟨h.1, h'.1⟩, AllPL_of fun x hx => ?_⟩
    have := List.sizeOf_lt_of_mem hx
    exact AllP.and (AllPL_mem h.2 x hx) (AllPL_mem h'.2 x hx)
termination_by t => SizeOf.sizeOf t
decreasing_by simp only [PV.mk.sizeOf_spec]; omega
theorem depth_good {t : PV} (h : goodP t = true) : 0 < depthP t ∧ depthP t ≤ 1200 := by
  rw [← good_same] at h
  exact of_decide_eq_true h
theorem VOk.rtext {t : PV} (h : VOk t) (hg : goodP t = true) : CallsA Tryd.prog Γ0 16 [gD (drow t)] (.o (c1 (ds (bs (txP t))))) :=
  RtC_all t (AllP.mono (fun k n b h => ⟨h.1, h.2.1⟩) (AllP.and (depth_all t (depth_good hg).1) h.all)) (by have := h.tx; omega)
theorem valueText_c (l : List ND) (hl : l.length ≤ 1048576) (hn : ∀ x ∈ l, NdOk x) : CallsA Tryd.prog ΓS 3 [c1 (dnodes l)] (Tb true) := by
  have hv := values_c l hl (fun x hx => (hn x hx).kids)
  have ho := VOk.of l hn
  generalize valuesV l = t at *
  have hg1 := Good_c t ho.num'
  have hg2 := rGood_c t ho.num'
  rw [good_same] at hg2
  have hc1 := Count_c t ho.num'
  have hc2 := rCount_c t ho.num'
  have ht1 := ho.text
  cases hg : goodP t with
  | true =>
    have ht2 := ho.rtext hg
    unfold txV at ht1
    rw [hg, if_pos rfl] at ht1
    rw [hg] at hg1 hg2
    rw [count_good t hg] at hc1
    refine fn_rule (C := ⟨Tryd.prog, layF, Tryd.f3.ntmps, ΓS, 0, [], []⟩) layF_ok mixed Tryd.func3 rfl (by kernel_rfl) rfl rfl rfl ?_
    refine ex_call (hv) ?_
    refine ex_call (hg2.of0) ?_
    refine ex_call (wakes_c) ?_
    refine ex_call (hg1.of0) ?_
    refine ex_false (by decide) ?_
    refine ex_call (hc1.of0) ?_
    refine ex_call (hc2.of0) ?_
    refine ex_true rfl ?_
    refine ex_call (ht1) ?_
    refine ex_call (ht2.of0) ?_
    refine ex_true rfl ?_
    refine ⟨by kernel_rfl, ?_⟩
    exact TLe.rfl
  | false =>
    rw [hg] at hg1 hg2
    have hc : countP t 1200 = 0 := by unfold goodP at hg; have := of_decide_eq_false hg; omega
    rw [hc] at hc1
    unfold txV at ht1
    rw [hg, if_neg (by decide)] at ht1
    refine fn_rule (C := ⟨Tryd.prog, layF, Tryd.f3.ntmps, ΓS, 0, [], []⟩) layF_ok mixed Tryd.func3 rfl (by kernel_rfl) rfl rfl rfl ?_
    refine ex_call (hv) ?_
    refine ex_call (hg2.of0) ?_
    refine ex_call (wakes_c) ?_
    refine ex_call (hg1.of0) ?_
    refine ex_false (by decide) ?_
    refine ex_call (hc1.of0) ?_
    refine ex_true rfl ?_
    refine ex_call (ht1) ?_
    refine ex_true rfl ?_
    exact TLe.rfl
end Go.Proofs.YtkeehnhamkdogaaDoor

namespace Go.Proofs.YtkeehnhamkdogaaDoor
set_option linter.unusedVariables false
set_option linter.unusedSimpArgs false
open Go.RowKit
set_option maxRecDepth 100000

mutual
/-- A value's signs, with something else than ", " between those of a list. -/
def txG (sep : List UInt8) : PV → List UInt8
  | .mk k n b l => if k = 0 then [45] else if k = 1 then Lib.decDigits n else if k = 2 then [120, 34] ++ (b.data.toList.flatMap hx ++ [34]) else
    [opn k] ++ (txGL sep true l ++ [cls k])
def txGL (sep : List UInt8) : Bool → List PV → List UInt8
  | _, [] => []
  | f, t :: ts => (if f then [] else sep) ++ (txG sep t ++ txGL sep false ts)
end
mutual
theorem txG_tx : ∀ t : PV, txG [44, 32] t = txP t
  | .mk k n b l => by
    rw [txG, txP, txGL_tx true l, opn, cls]
    simp only [List.append_assoc]
    by_cases h0 : k = 0
    · rw [if_pos h0, if_pos h0]
    by_cases h1 : k = 1
    · rw [if_neg h0, if_neg h0, if_pos h1, if_pos h1]
    by_cases h2 : k = 2
    · rw [if_neg h0, if_neg h0, if_neg h1, if_neg h1, if_pos h2, if_pos h2]
    rw [if_neg h0, if_neg h0, if_neg h1, if_neg h1, if_neg h2, if_neg h2]
    by_cases h3 : k = 3
    · simp only [if_pos h3]
    · simp only [if_neg h3]
theorem txGL_tx : ∀ (f : Bool) (l : List PV), txGL [44, 32] f l = txL f l
  | _, [] => by rw [txGL, txL]
  | f, t :: ts => by rw [txGL, txL, txG_tx t, txGL_tx false ts, List.append_assoc]
end
/-! ### A place in a text -/
def At (s : ByteArray) (a : Nat) (X : List UInt8) : Prop := s.data.toList.drop a = X
theorem At.at {s : ByteArray} {a : Nat} {c : UInt8} {X : List UInt8} (h : At s a (c :: X)) : s.data.toList[a]? = some c := by
  have := congrArg (·[0]?) h
  simpa using this
theorem At.app {s : ByteArray} {a : Nat} {l X : List UInt8} (h : At s a (l ++ X)) : At s (a + l.length) X := by
  unfold At at h ⊢
  rw [← List.drop_drop, h, List.drop_left]
theorem At.next {s : ByteArray} {a : Nat} {c : UInt8} {X : List UInt8} (h : At s a (c :: X)) : At s (a + 1) X := At.app (l := [c]) h
theorem At.le {s : ByteArray} {a : Nat} {X : List UInt8} (h : At s a X) (hx : X ≠ []) : a + X.length = s.size := by
  have := congrArg List.length h
  rw [List.length_drop] at this
  have h2 : X.length ≠ 0 := fun e => hx (List.length_eq_zero_iff.1 e)
  have h3 : s.data.toList.length = s.size := rfl
  omega
theorem At.nextV {s : ByteArray} {a : Nat} {c : UInt8} {X : List UInt8} (h : At s a (c :: X)) : nextV s a = c := by unfold Go.Proofs.YtkeehnhamkdogaaDoor.nextV; rw [h.at]; rfl
theorem skipB_rep : ∀ (i : Nat) {X : List UInt8}, X[0]? ≠ some 32 → skipB (List.replicate i 32 ++ X) = i
  | 0, [], _ => rfl
  | 0, c :: X, h => by
    rw [List.replicate_zero, List.nil_append, skipB, if_neg (fun e => h (by rw [e]; rfl))]
  | i + 1, X, h => by rw [List.replicate_succ, List.cons_append, skipB, if_pos rfl, skipB_rep i h]
theorem At.pass {s : ByteArray} {a i : Nat} {X : List UInt8} (h : At s a (List.replicate i 32 ++ X)) (hx : X[0]? ≠ some 32) : passV s a = a + i := by
  unfold passV
  rw [show s.data.toList.drop a = _ from h, skipB_rep i hx]
theorem At.must {s : ByteArray} {a : Nat} {c : UInt8} {X : List UInt8} (h : At s a (c :: X)) : mustV s a c = .ok () (a + 1) := by
  unfold mustV; rw [if_pos h.at]
/-! ### Numbers -/
theorem parse_dec (n : Nat) : n < 18446744073709551616 → ∀ r : List UInt8, Lib.parseUintM 18446744073709551615 0 (Lib.decDigits n ++ r) = Lib.parseUintM 18446744073709551615 n r := by
  induction n using Nat.strongRecOn with
  | ind n ih =>
    intro hn r
    have key : ∀ d, d < 10 → (UInt8.ofNat (48 + d)).toNat = 48 + d := fun d hd => by rw [UInt8.toNat_ofNat']; show (48 + d) % 256 = _; omega
    rw [Lib.decDigits]
    split
    · rename_i h
      rw [List.singleton_append, Lib.parseUintM, key n h, if_pos ⟨by omega, by omega⟩, if_neg (by omega), if_neg (by omega)]
      congr 1; omega
    · rename_i h
      rw [List.append_assoc, ih (n / 10) (by omega) (by omega), List.singleton_append, Lib.parseUintM, key _ (by omega), if_pos ⟨by omega, by omega⟩, if_neg (by omega), if_neg (by omega)]
      congr 1; omega
theorem parse_dec' (n : Nat) (hn : n < 18446744073709551616) : Lib.parseUintB 64 (Lib.decDigits n) = .ok n := by
  have h1 := parse_dec n hn []
  rw [List.append_nil, Lib.parseUintM] at h1
  unfold Lib.parseUintB
  rw [if_neg (fun e => by have := dec_pos n; rw [e] at this; simp at this)]
  exact h1
theorem dec_digs (n : Nat) : ∀ c ∈ Lib.decDigits n, digL.contains c = true := by
  have key : ∀ d, d < 10 → digL.contains (UInt8.ofNat (48 + d)) = true := fun d hd => by
    have : ∀ k : Fin 10, digL.contains (UInt8.ofNat (48 + k.val)) = true := by decide
    exact this ⟨d, hd⟩
  induction n using Nat.strongRecOn with
  | ind n ih =>
    rw [Lib.decDigits]
    split
    · rename_i h
      intro c hc
      rw [List.mem_singleton.1 hc]
      exact key n h
    · rename_i h
      intro c hc
      rcases List.mem_append.1 hc with hc | hc
      · exact ih (n / 10) (by omega) c hc
      · rw [List.mem_singleton.1 hc]
        exact key _ (by omega)
theorem dec_zero (n : Nat) : (Lib.decDigits n)[0]? = some 48 → (Lib.decDigits n).length = 1 := by
  induction n using Nat.strongRecOn with
  | ind n ih =>
    rw [Lib.decDigits]
    split
    · intro _; rfl
    · rename_i h
      have h1 := dec_pos (n / 10)
      rw [List.getElem?_append_left (by omega)]
      intro h2
      exfalso
      have h3 := ih (n / 10) (by omega) h2
      have h4 : n / 10 < 10 := by
        apply Classical.byContradiction
        intro h5
        have h6 : (Lib.decDigits (n / 10)).length = (Lib.decDigits (n / 10 / 10)).length + 1 := by
          rw [Lib.decDigits, dif_neg h5, List.length_append, List.length_singleton]
        have := dec_pos (n / 10 / 10)
        omega
      rw [Lib.decDigits, dif_pos h4] at h2
      have h5 : UInt8.ofNat (48 + n / 10) = 48 := by simpa using h2
      have h6 := congrArg UInt8.toNat h5
      rw [UInt8.toNat_ofNat'] at h6
      have h7 : (48 + n / 10) % 256 = 48 := h6
      omega
theorem takeWhile_app {α : Type} {p : α → Bool} : ∀ {l X : List α}, (∀ c ∈ l, p c = true) → (∀ c, X[0]? = some c → p c = false) → (l ++ X).takeWhile p = l
  | [], [], _, _ => rfl
  | [], c :: X, _, h => by rw [List.nil_append, List.takeWhile_cons, if_neg (by rw [h c rfl]; decide)]
  | c :: l, X, h1, h2 => by
    rw [List.cons_append, List.takeWhile_cons, if_pos (h1 c (by simp)), takeWhile_app (fun d hd => h1 d (by simp [hd])) h2]
/-- Behind a number stands no digit. -/
def noDig (X : List UInt8) : Prop := ∀ c, X[0]? = some c → digL.contains c = false
theorem At.num {s : ByteArray} {a n : Nat} {X : List UInt8} (h : At s a (Lib.decDigits n ++ X)) (hn : n < 18446744073709551616) (hX : noDig X) : numV s a = .ok (.mk 1 n ⟨#[]⟩ []) (a + (Lib.decDigits n).length) := by
  have hd : digsV s a = Lib.decDigits n := by
    unfold digsV
    rw [show s.data.toList.drop a = _ from h]
    exact takeWhile_app (dec_digs n) hX
  have h0 : s.data.toList[a]? = (Lib.decDigits n)[0]? := by
    have := congrArg (·[0]?) h
    rw [List.getElem?_append_left (dec_pos n)] at this
    simpa using this
  unfold numV
  rw [hd, h0, if_neg (fun e => by have := dec_zero n e.1; omega), parse_dec' n hn]
/-! ### Bytes -/
theorem hex_dig (i : Nat) (h : i < 16) : hexL.contains (hexL.getD i 0) = true ∧ hexI (hexL.getD i 0) = i ∧ hexL.getD i 0 ≠ 34 := by
  have key : ∀ k : Fin 16, hexL.contains (hexL.getD k.val 0) = true ∧ hexI (hexL.getD k.val 0) = k.val ∧ hexL.getD k.val 0 ≠ 34 := by decide +kernel
  exact key ⟨i, h⟩
theorem At.dig {s : ByteArray} {a i : Nat} {X : List UInt8} (hi : i < 16) (h : At s a (hexL.getD i 0 :: X)) : digV s a = .ok i (a + 1) := by
  unfold digV
  rw [h.at]
  show (if hexL.contains (hexL.getD i 0) then R.ok (hexI (hexL.getD i 0)) (a + 1) else _) = _
  rw [if_pos (hex_dig i hi).1, (hex_dig i hi).2.1]
theorem At.hex {s : ByteArray} : ∀ {l : List UInt8} {n a : Nat} {acc X : List UInt8}, l.length < n → At s a (l.flatMap hx ++ 34 :: X) → hexV s n a acc = .ok (.mk 2 0 ⟨(acc ++ l).toArray⟩ []) (a + 2 * l.length + 1)
  | [], n + 1, a, acc, X, hn, h => by
    rw [hexV, if_pos (At.nextV h), List.append_nil]; rfl
  | c :: l, n + 1, a, acc, X, hn, h => by
    have h1 : At s a (hexL.getD (c.toNat / 16) 0 :: hexL.getD (c.toNat % 16) 0 :: (l.flatMap hx ++ 34 :: X)) := h
    have d1 : c.toNat / 16 < 16 := by have := c.toNat_lt; omega
    have d2 : c.toNat % 16 < 16 := by omega
    have hc : UInt8.ofNat (16 * (c.toNat / 16) + c.toNat % 16) = c := by
      rw [Nat.div_add_mod]; simp
    rw [hexV, if_neg (by rw [h1.nextV]; exact (hex_dig _ d1).2.2), h1.dig d1]
    show (match digV s (a + 1) with | .err c e => R.err c e | .ok y c' => hexV s n c' (acc ++ [UInt8.ofNat (16 * (c.toNat / 16) + y)])) = _
    rw [h1.next.dig d2]
    show hexV s n (a + 1 + 1) (acc ++ [UInt8.ofNat (16 * (c.toNat / 16) + c.toNat % 16)]) = _
    rw [hc, At.hex (by simpa using hn) h1.next.next, List.append_assoc, List.length_cons]
    congr 1; omega
/-! ### Values -/
/-- What stands ahead of a value is no blank and closes nothing. -/
theorem txG_head (sep : List UInt8) : ∀ (t : PV), 0 < depthP t → ∃ c r, txG sep t = c :: r ∧ c ≠ 32 ∧ c ≠ 93 ∧ c ≠ 125
  | .mk k n b l, h => by
    rw [txG]
    by_cases h0 : k = 0
    · rw [if_pos h0]; exact ⟨45, [], rfl, by decide, by decide, by decide⟩
    rw [if_neg h0]
    by_cases h1 : k = 1
    · rw [if_pos h1]
      cases hd : Lib.decDigits n with
      | nil => have := dec_pos n; rw [hd] at this; simp at this
      | cons c r =>
        have hc := dec_digs n c (by rw [hd]; simp)
        refine ⟨c, r, rfl, ?_, ?_, ?_⟩ <;> (rintro rfl; revert hc; decide)
    rw [if_neg h1]
    by_cases h2 : k = 2
    · rw [if_pos h2]; exact ⟨120, _, rfl, by decide, by decide, by decide⟩
    rw [if_neg h2]
    refine ⟨opn k, _, rfl, ?_, ?_, ?_⟩ <;> (unfold opn; split <;> decide)
def repl (i : Nat) : List UInt8 := List.replicate i 32
theorem leanB_cases {k : Int} {n : Nat} {b : ByteArray} {len : Nat} (h : leanB k n b len = true) : (0 ≤ k ∧ k < 5) ∧ (k = 1 ∨ n = 0) ∧ (k = 2 ∨ b = ⟨#[]⟩) ∧ (3 ≤ k ∨ len = 0) := by
  simp only [leanB, Bool.and_eq_true, Bool.or_eq_true, decide_eq_true_eq] at h
  exact ⟨h.1.1.1, h.1.1.2, h.1.2, h.2⟩
def NumOk (t : PV) : Prop := AllP (fun _ n _ => n < 18446744073709551616) t
/-- The separator: blanks, a comma, blanks. -/
structure Sep (p q : Nat) (sep : List UInt8) : Prop where
  eq : sep = repl p ++ 44 :: repl q
def BackC (p q : Nat) (t : PV) : Prop := ∀ (s : ByteArray) (n i a : Nat) (X : List UInt8), depthP t ≤ n → At s a (repl i ++ (txG (repl p ++ 44 :: repl q) t ++ X)) → noDig X → valV s n a = .ok t (a + i + (txG (repl p ++ 44 :: repl q) t).length)
theorem loop_back {p q : Nat} {k : Int} (hk : k = 3 ∨ k = 4) {s : ByteArray} {m : Nat} {X : List UInt8} : ∀ (l : List PV) (t : PV) (n i a : Nat) (acc : List PV), (∀ x ∈ t :: l, BackC p q x ∧ 0 < depthP x ∧ depthP x ≤ m) → l.length < n →
    At s a (repl i ++ (txG (repl p ++ 44 :: repl q) t ++ (txGL (repl p ++ 44 :: repl q) false l ++ (cls k :: X)))) → loopV s (valV s m) (endV k) k n a acc = .ok (.mk k 0 ⟨#[]⟩ (acc ++ t :: l)) (a + i + (txG (repl p ++ 44 :: repl q) t).length + (txGL (repl p ++ 44 :: repl q) false l).length + 1)
  | [], t, n + 1, i, a, acc, hx, hn, h => by
    obtain ⟨hb, h0, hd⟩ := hx t (by simp)
    have hcl : noDig (cls k :: X) := fun c hc => by
      obtain rfl : cls k = c := by simpa using hc
      unfold cls; split <;> decide
    rw [txGL, List.nil_append] at h
    have h1 := hb s m i a _ hd h hcl
    have h2 : At s (a + i + (txG (repl p ++ 44 :: repl q) t).length) (cls k :: X) := by
      have := h.app.app
      rwa [show (repl i).length = i by simp [repl]] at this
    have h3 : passV s (a + i + (txG (repl p ++ 44 :: repl q) t).length) = a + i + (txG (repl p ++ 44 :: repl q) t).length := passV_stop (by
      rw [h2.at]; unfold cls; split <;> decide)
    rw [loopV, h1]
    show (if nextV s (passV s _) = endV k then R.ok (PV.mk k 0 ⟨#[]⟩ (acc ++ [t])) (passV s _ + 1) else _) = _
    rw [h3, h2.nextV, if_pos (by unfold cls endV; rfl), txGL, List.length_nil, Nat.add_zero]
  | u :: l, t, n + 1, i, a, acc, hx, hn, h => by
    obtain ⟨hb, h0, hd⟩ := hx t (by simp)
    rw [txGL, if_neg (by decide)] at h
    have hcl : noDig (repl p ++ 44 :: repl q ++ (txG (repl p ++ 44 :: repl q) u ++ txGL (repl p ++ 44 :: repl q) false l) ++ (cls k :: X)) := fun c hc => by
      cases p with
      | zero =>
        obtain rfl : 44 = c := by simpa [repl] using hc
        decide
      | succ p =>
        obtain rfl : 32 = c := by simpa [repl, List.replicate_succ] using hc
        decide
    have h1 := hb s m i a _ hd h hcl
    have h2 : At s (a + i + (txG (repl p ++ 44 :: repl q) t).length) (repl p ++ (44 :: (repl q ++ (txG (repl p ++ 44 :: repl q) u ++ (txGL (repl p ++ 44 :: repl q) false l ++ (cls k :: X)))))) := by
      have := h.app.app
      rw [show (repl i).length = i by simp [repl]] at this
      simpa only [List.append_assoc, List.cons_append] using this
    have h3 := At.pass (i := p) h2 (by simp)
    have h4 : At s (a + i + (txG (repl p ++ 44 :: repl q) t).length + p) (44 :: (repl q ++ (txG (repl p ++ 44 :: repl q) u ++ (txGL (repl p ++ 44 :: repl q) false l ++ (cls k :: X))))) := by
      have := h2.app
      rwa [show (repl p).length = p by simp [repl]] at this
    have h5 := loop_back hk l u n q _ (acc ++ [t]) (fun x hx' => hx x (List.mem_cons_of_mem _ hx')) (by simpa using hn) h4.next
    rw [loopV, h1]
    show (if nextV s (passV s _) = endV k then R.ok (PV.mk k 0 ⟨#[]⟩ (acc ++ [t])) (passV s _ + 1) else _) = _
    rw [h3, h4.nextV, if_neg (by unfold endV; split <;> decide), h4.must]
    show loopV s (valV s m) (endV k) k n (_ + 1) (acc ++ [t]) = _
    rw [h5, List.append_assoc, txGL, if_neg (by decide)]
    simp only [List.length_append, List.length_cons, List.singleton_append, show (repl p).length = p by simp [repl], show (repl q).length = q by simp [repl]]
    congr 1; omega
theorem list_back {p q : Nat} {k : Int} (hk : k = 3 ∨ k = 4) {s : ByteArray} {m a : Nat} {X : List UInt8} (l : List PV) (hx : ∀ x ∈ l, BackC p q x ∧ 0 < depthP x ∧ depthP x ≤ m)
    (h : At s a (txGL (repl p ++ 44 :: repl q) true l ++ (cls k :: X))) : listV s (valV s m) k a = .ok (.mk k 0 ⟨#[]⟩ l) (a + (txGL (repl p ++ 44 :: repl q) true l).length + 1) := by
  unfold listV
  cases l with
  | nil =>
    rw [txGL, List.nil_append] at h
    have h3 : passV s a = a := passV_stop (by rw [h.at]; unfold cls; split <;> decide)
    rw [h3, h.nextV, if_pos (by unfold cls endV; rfl), txGL, List.length_nil, Nat.add_zero]
  | cons t l =>
    rw [txGL, if_pos rfl, List.nil_append, List.append_assoc] at h
    obtain ⟨c, r, hc, h32, h93, h125⟩ := txG_head (repl p ++ 44 :: repl q) t (hx t (by simp)).2.1
    have h' := h
    rw [hc, List.cons_append] at h'
    have h3 : passV s a = a := passV_stop (by rw [h'.at]; intro e; exact h32 (Option.some.inj e))
    have hsz := h'.le (by simp)
    have hll : l.length ≤ (txGL (repl p ++ 44 :: repl q) false l).length := by
      clear h h' hsz hx hc
      induction l with
      | nil => simp
      | cons u l ih =>
        rw [txGL, if_neg (by decide)]
        simp only [List.length_append, List.length_cons]; omega
    simp only [List.length_cons, List.length_append] at hsz
    rw [h3, h'.nextV, if_neg (by unfold endV; split; exact h93; exact h125), loop_back hk l t (s.size + 1) 0 a [] hx (by omega) h, txGL, if_pos rfl]
    simp only [List.length_append, List.nil_append]
    congr 1; omega
theorem back_c (p q : Nat) : ∀ t : PV, 0 < depthP t → NumOk t → BackC p q t
  | .mk k n b l, h0, hn, s, N, i, a, X, hN, h, hX => by
    have hN0 : N ≠ 0 := by omega
    obtain ⟨m, rfl⟩ := Nat.exists_eq_succ_of_ne_zero hN0
    have hn' := AllP_mk.1 hn
    obtain ⟨c, r, hc, h32, h93, h125⟩ := txG_head (repl p ++ 44 :: repl q) (.mk k n b l) h0
    rw [depthP] at h0
    rw [depthP] at hN
    split at h0
    · omega
    rename_i hl
    rw [if_neg hl] at hN
    have hlean := leanB_cases (show leanB k n b l.length = true by cases e : leanB k n b l.length with | true => rfl | false => exact absurd e hl)
    have hkids : ∀ x ∈ l, 0 < depthP x ∧ depthP x ≤ m := ((depthL_iff l 0 m).1 ⟨h0, hN⟩).2
    have hp : passV s a = a + i := At.pass (i := i) h (by rw [hc]; intro e; exact h32 (Option.some.inj e))
    have h1 : At s (a + i) (txG (repl p ++ 44 :: repl q) (.mk k n b l) ++ X) := by
      have := h.app
      rwa [show (repl i).length = i by simp [repl]] at this
    rw [valV, hp]
    generalize a + i = a at *
    rw [txG] at h1 ⊢
    unfold atV
    by_cases k0 : k = 0
    · obtain rfl : n = 0 := by omega
      obtain rfl : b = ⟨#[]⟩ := by rcases hlean.2.2.1 with h | h; omega; exact h
      obtain rfl : l = [] := List.eq_nil_of_length_eq_zero (by omega)
      subst k0
      rw [if_pos rfl] at h1 ⊢
      rw [h1.at]
      unfold anyV
      rw [h1.at]
      rfl
    rw [if_neg k0] at h1 ⊢
    by_cases k1 : k = 1
    · obtain rfl : b = ⟨#[]⟩ := by rcases hlean.2.2.1 with h | h; omega; exact h
      obtain rfl : l = [] := List.eq_nil_of_length_eq_zero (by omega)
      subst k1
      rw [if_pos rfl] at h1 ⊢
      cases hd : Lib.decDigits n with
      | nil => have := dec_pos n; rw [hd] at this; simp at this
      | cons d ds =>
        have hdd := dec_digs n d (by rw [hd]; simp)
        have h2 := h1
        rw [hd, List.cons_append] at h2
        have hne : ∀ e : UInt8, digL.contains e = false → s.data.toList[a]? ≠ some e := fun e he h3 => by
          rw [h2.at] at h3
          rw [Option.some.inj h3, he] at hdd; cases hdd
        rw [if_neg (hne 91 (by decide)), if_neg (hne 123 (by decide)), if_pos (by unfold anyV; rw [h2.at]; exact hdd), if_neg (by decide), h1.num hn'.1 hX, hd]
    rw [if_neg k1] at h1 ⊢
    by_cases k2 : k = 2
    · obtain rfl : n = 0 := by omega
      obtain rfl : l = [] := List.eq_nil_of_length_eq_zero (by omega)
      subst k2
      rw [if_pos rfl] at h1 ⊢
      have h2 : At s a (120 :: 34 :: (b.data.toList.flatMap hx ++ 34 :: X)) := by simpa using h1
      have hsz := h2.le (by simp)
      simp only [List.length_cons, List.length_append, hx_len] at hsz
      rw [if_neg (by rw [h2.at]; decide), if_neg (by rw [h2.at]; decide), if_neg (by unfold anyV; rw [h2.at]; decide), if_neg (by rw [h2.at]; decide), if_pos h2.at, if_neg (by decide)]
      unfold bytV
      rw [h2.next.must]
      show hexV s (s.size + 1) (a + 1 + 1) [] = _
      rw [At.hex (by omega) h2.next.next]
      simp only [List.nil_append, List.length_append, List.length_cons, List.length_nil, hx_len, Array.toArray_toList]
      congr 1; omega
    rw [if_neg k2] at h1 ⊢
    obtain rfl : n = 0 := by omega
    obtain rfl : b = ⟨#[]⟩ := by rcases hlean.2.2.1 with h | h; omega; exact h
    have hk : k = 3 ∨ k = 4 := by omega
    have ih : ∀ x ∈ l, BackC p q x ∧ 0 < depthP x ∧ depthP x ≤ m := fun x hx => by
      have := List.sizeOf_lt_of_mem hx
      exact ⟨back_c p q x (hkids x hx).1 (AllPL_mem hn'.2 x hx), hkids x hx⟩
    have h2 : At s a (opn k :: (txGL (repl p ++ 44 :: repl q) true l ++ (cls k :: X))) := by simpa using h1
    have h3 := list_back hk l ih h2.next
    rcases hk with rfl | rfl
    · rw [if_pos (show s.data.toList[a]? = some 91 from h2.at), if_neg (by decide), h3]
      simp only [List.length_append, List.length_cons, List.length_nil]
      congr 1; omega
    · rw [if_neg (by rw [h2.at]; decide), if_pos (show s.data.toList[a]? = some 123 from h2.at), if_neg (by decide), h3]
      simp only [List.length_append, List.length_cons, List.length_nil]
      congr 1; omega
termination_by t => SizeOf.sizeOf t
decreasing_by simp only [PV.mk.sizeOf_spec]; omega
/-- A good value's signs, also with other blanks, are parsed to it. -/
theorem parse_back (p q i j : Nat) (t : PV) (hg : goodP t = true) (hn : NumOk t) : parseV (bs (repl i ++ (txG (repl p ++ 44 :: repl q) t ++ repl j))) = (t, 0, 0) := by
  have hd := depth_good hg
  have h0 : At (bs (repl i ++ (txG (repl p ++ 44 :: repl q) t ++ repl j))) 0 (repl i ++ (txG (repl p ++ 44 :: repl q) t ++ repl j)) := rfl
  generalize bs (repl i ++ (txG (repl p ++ 44 :: repl q) t ++ repl j)) = s at *
  have h1 := back_c p q t hd.1 hn s 1200 i 0 (repl j) hd.2 h0 (fun c hc => by
    obtain rfl : 32 = c := by
      cases j with
      | zero => simp [repl] at hc
      | succ j => simpa [repl, List.replicate_succ] using hc
    decide)
  have h2 : At s (0 + i + (txG (repl p ++ 44 :: repl q) t).length) (repl j) := by
    have := h0.app.app
    rwa [show (repl i).length = i by simp [repl]] at this
  have h3 := At.pass (i := j) (X := []) (by rw [List.append_nil]; exact h2) (by simp)
  have hsz : 0 + i + (txG (repl p ++ 44 :: repl q) t).length + j = s.size := by
    have := congrArg List.length h0
    rw [List.drop_zero] at this
    have h4 : s.data.toList.length = s.size := rfl
    simp only [List.length_append, show (repl i).length = i by simp [repl], show (repl j).length = j by simp [repl]] at this
    omega
  unfold parseV
  rw [h1]
  show (if passV s _ < s.size then (_, _, _) else _) = _
  rw [h3, hsz, if_neg (by omega)]
theorem parse_tx (t : PV) (hg : goodP t = true) (hn : NumOk t) : parseV (bs (txP t)) = (t, 0, 0) := by
  have := parse_back 0 1 0 0 t hg hn
  rw [show repl 0 = [] from rfl, show repl 1 = [32] from rfl, List.nil_append, List.append_nil, List.nil_append] at this
  rwa [txG_tx] at this
/-- Good values with the same signs are the same. -/
theorem tx_inj {t u : PV} (ht : goodP t = true) (hu : goodP u = true) (hnt : NumOk t) (hnu : NumOk u) (h : txP t = txP u) : t = u := by
  have h1 := parse_tx t ht hnt
  rw [h, parse_tx u hu hnu] at h1
  exact (Prod.mk.inj h1).1.symm
mutual
theorem sameP_eq : ∀ {t u : PV}, sameP t u = true → t = u
  | .mk k n b l, .mk k' n' b' l', h => by
    simp only [sameP, Bool.and_eq_true, decide_eq_true_eq] at h
    obtain ⟨⟨⟨rfl, rfl⟩, rfl⟩, h⟩ := h
    rw [sameL_eq h]
theorem sameL_eq : ∀ {l l' : List PV}, sameL l l' = true → l = l'
  | [], [], _ => rfl
  | x :: xs, y :: ys, h => by
    simp only [sameL, Bool.and_eq_true] at h
    rw [sameP_eq h.1, sameL_eq h.2]
end
end Go.Proofs.YtkeehnhamkdogaaDoor

namespace Go.Proofs.YtkeehnhamkdogaaDoor
set_option linter.unusedVariables false
set_option linter.unusedSimpArgs false
open Go.RowKit
set_option maxRecDepth 100000

theorem good_list {k : Int} (hk : k = 3 ∨ k = 4) (l : List PV) (h : ∀ x ∈ l, depthP x ≤ 1199) : goodP (.mk k 0 ⟨#[]⟩ l) = l.all goodP := by
  have hl : leanB k 0 ⟨#[]⟩ l.length = true := by
    unfold leanB
    rcases hk with rfl | rfl <;> simp
  rw [← good_same]
  unfold rgoodP
  rw [depthP, if_neg (by rw [hl]; decide), Bool.eq_iff_iff, decide_eq_true_eq, depthL_iff l 0 1199, List.all_eq_true]
  constructor
  · intro ⟨_, h2⟩ x hx
    rw [← good_same]
    exact decide_eq_true ⟨(h2 x hx).1, by have := h x hx; omega⟩
  · intro h2
    exact ⟨Nat.zero_le _, fun x hx => ⟨(depth_good (h2 x hx)).1, h x hx⟩⟩
theorem VOk.dep {t : PV} (h : VOk t) : depthP t ≤ 60 := Nat.le_trans (depthP_le t) h.num
theorem VOk.nok {t : PV} (h : VOk t) : NumOk t := AllP.mono (fun _ _ _ h => h.1) h.all
theorem same_dec {t u : PV} (ht : VOk t) (hu : VOk u) (h1 : goodP t = true) (h2 : goodP u = true) : sameP t u = decide (bs (txP t) = bs (txP u)) := by
  by_cases e : txP t = txP u
  · rw [tx_inj h1 h2 ht.nok hu.nok e, sameP_rfl]; simp
  · cases hs : sameP t u with
    | true => exact absurd (by rw [sameP_eq hs]) e
    | false =>
      symm
      apply decide_eq_false
      intro h3
      apply e
      have := congrArg (fun b : ByteArray => b.data.toList) h3
      simpa using this
theorem num_list (k : Int) (n : Nat) (b : ByteArray) (l : List PV) : (PV.mk k n b l).num = 1 + numL l := by rw [PV.num]
set_option maxHeartbeats 4000000 in
theorem valueEqual_c (l m : List ND) (hl : l.length ≤ 1048576) (hn : ∀ x ∈ l, NdOk x) (hm : m.length ≤ 1048576) (hmn : ∀ x ∈ m, NdOk x) : CallsA Tryd.prog ΓS 5 [c1 (dnodes l), c1 (dnodes m)] (Tb true) := by
  have hv := values_c l hl (fun x hx => (hn x hx).kids)
  have hw := values_c m hm (fun x hx => (hmn x hx).kids)
  have ho := VOk.of l hn
  have hp := VOk.of m hmn
  generalize valuesV l = t at *
  generalize valuesV m = u at *
  have hd := ho.dep
  have he := hp.dep
  have hg := Good_c t ho.num'
  have hh := Good_c u hp.num'
  have htx := ho.text
  have hux := hp.text
  have h1 := ho.num
  have h2 := hp.num
  have e1 := Equal_c t u ho.num' hp.num'
  have e2 := Equal_c t t ho.num' ho.num'
  have gl3 : goodP (.mk 3 0 ⟨#[]⟩ [t, u]) = (goodP t && goodP u) := by rw [good_list (.inl rfl) _ (by simp; omega)]; simp
  have gl3' : goodP (.mk 3 0 ⟨#[]⟩ [u, t]) = (goodP t && goodP u) := by rw [good_list (.inl rfl) _ (by simp; omega)]; simp [Bool.and_comm]
  have gt3 : goodP (.mk 3 0 ⟨#[]⟩ [t]) = goodP t := by rw [good_list (.inl rfl) _ (by simp; omega)]; simp
  have gt4 : goodP (.mk 4 0 ⟨#[]⟩ [t]) = goodP t := by rw [good_list (.inr rfl) _ (by simp; omega)]; simp
  have gu4 : goodP (.mk 4 0 ⟨#[]⟩ [u]) = goodP u := by rw [good_list (.inr rfl) _ (by simp; omega)]; simp
  have n2 : numL [t, u] ≤ 120 := by rw [numL, numL, numL]; omega
  have n2' : numL [u, t] ≤ 120 := by rw [numL, numL, numL]; omega
  have n1 : numL [t] ≤ 60 := by rw [numL, numL]; omega
  have n1' : numL [u] ≤ 60 := by rw [numL, numL]; omega
  have e3 := Equal_c (.mk 3 0 ⟨#[]⟩ [t]) (.mk 4 0 ⟨#[]⟩ [t]) (by rw [num_list]; omega) (by rw [num_list]; omega)
  have g4 := Good_c (.mk 3 0 ⟨#[]⟩ [t, u]) (by rw [num_list]; omega)
  have e4 := Equal_c (.mk 3 0 ⟨#[]⟩ [t, u]) (.mk 3 0 ⟨#[]⟩ [u, t]) (by rw [num_list]; omega) (by rw [num_list]; omega)
  have e5 := Equal_c (.mk 4 0 ⟨#[]⟩ [t]) (.mk 4 0 ⟨#[]⟩ [u]) (by rw [num_list]; omega) (by rw [num_list]; omega)
  have s3 : sameP (.mk 3 0 ⟨#[]⟩ [t]) (.mk 4 0 ⟨#[]⟩ [t]) = false := by simp [sameP]
  have s4 : sameP (.mk 3 0 ⟨#[]⟩ [t, u]) (.mk 3 0 ⟨#[]⟩ [u, t]) = (sameP t u && sameP u t) := by simp [sameP, sameL]
  have s5 : sameP (.mk 4 0 ⟨#[]⟩ [t]) (.mk 4 0 ⟨#[]⟩ [u]) = sameP t u := by simp [sameP, sameL]
  rw [sameP_rfl] at e2
  rw [s3, Bool.and_false] at e3
  rw [gl3, gl3', s4] at e4
  rw [gl3] at g4
  rw [gt4, gu4, s5] at e5
  have hL2 := L_c [t, u]
  have hL2' := L_c [u, t]
  have hL1 := L_c [t]
  have hR1 := R_c [t]
  have hR1' := R_c [u]
  have hwk := wakes_c
  cases hgt : goodP t with
  | false =>
    rw [hgt] at hg e1 e2 e4 g4 e5
    simp only [Bool.false_and] at e1 e2 e4 g4 e5
    refine fn_rule (C := ⟨Tryd.prog, layF, Tryd.f5.ntmps, ΓS, 0, [], []⟩) layF_ok mixed Tryd.func5 rfl (by kernel_rfl) rfl rfl rfl ?_
    repeat (first | refine ex_true (by decide) ?_ | refine ex_false (by decide) ?_ | refine ⟨by kernel_rfl, ?_⟩ | refine ex_is _ List.length_map ?_)
    refine ex_call (hv) ?_
    repeat (first | refine ex_true (by decide) ?_ | refine ex_false (by decide) ?_ | refine ⟨by kernel_rfl, ?_⟩ | refine ex_is _ List.length_map ?_)
    refine ex_call (hw) ?_
    repeat (first | refine ex_true (by decide) ?_ | refine ex_false (by decide) ?_ | refine ⟨by kernel_rfl, ?_⟩ | refine ex_is _ List.length_map ?_)
    refine ex_call (hg.of0) ?_
    repeat (first | refine ex_true (by decide) ?_ | refine ex_false (by decide) ?_ | refine ⟨by kernel_rfl, ?_⟩ | refine ex_is _ List.length_map ?_)
    refine ex_call (hwk) ?_
    repeat (first | refine ex_true (by decide) ?_ | refine ex_false (by decide) ?_ | refine ⟨by kernel_rfl, ?_⟩ | refine ex_is _ List.length_map ?_)
    refine ex_call (e1.of0) ?_
    repeat (first | refine ex_true (by decide) ?_ | refine ex_false (by decide) ?_ | refine ⟨by kernel_rfl, ?_⟩ | refine ex_is _ List.length_map ?_)
    refine ex_call (e2.of0) ?_
    repeat (first | refine ex_true (by decide) ?_ | refine ex_false (by decide) ?_ | refine ⟨by kernel_rfl, ?_⟩ | refine ex_is _ List.length_map ?_)
    refine ex_call (hg.of0) ?_
    repeat (first | refine ex_true (by decide) ?_ | refine ex_false (by decide) ?_ | refine ⟨by kernel_rfl, ?_⟩ | refine ex_is _ List.length_map ?_)
    refine ex_call (hL1.of0) ?_
    repeat (first | refine ex_true (by decide) ?_ | refine ex_false (by decide) ?_ | refine ⟨by kernel_rfl, ?_⟩ | refine ex_is _ List.length_map ?_)
    refine ex_call (hR1.of0) ?_
    repeat (first | refine ex_true (by decide) ?_ | refine ex_false (by decide) ?_ | refine ⟨by kernel_rfl, ?_⟩ | refine ex_is _ List.length_map ?_)
    refine ex_call (e3.of0) ?_
    repeat (first | refine ex_true (by decide) ?_ | refine ex_false (by decide) ?_ | refine ⟨by kernel_rfl, ?_⟩ | refine ex_is _ List.length_map ?_)
    refine ex_call (hL2.of0) ?_
    repeat (first | refine ex_true (by decide) ?_ | refine ex_false (by decide) ?_ | refine ⟨by kernel_rfl, ?_⟩ | refine ex_is _ List.length_map ?_)
    refine ex_call (hL2'.of0) ?_
    repeat (first | refine ex_true (by decide) ?_ | refine ex_false (by decide) ?_ | refine ⟨by kernel_rfl, ?_⟩ | refine ex_is _ List.length_map ?_)
    refine ex_call (g4.of0) ?_
    repeat (first | refine ex_true (by decide) ?_ | refine ex_false (by decide) ?_ | refine ⟨by kernel_rfl, ?_⟩ | refine ex_is _ List.length_map ?_)
    refine ex_call (e4.of0) ?_
    repeat (first | refine ex_true (by decide) ?_ | refine ex_false (by decide) ?_ | refine ⟨by kernel_rfl, ?_⟩ | refine ex_is _ List.length_map ?_)
    refine ex_call (hR1.of0) ?_
    repeat (first | refine ex_true (by decide) ?_ | refine ex_false (by decide) ?_ | refine ⟨by kernel_rfl, ?_⟩ | refine ex_is _ List.length_map ?_)
    refine ex_call (hR1'.of0) ?_
    repeat (first | refine ex_true (by decide) ?_ | refine ex_false (by decide) ?_ | refine ⟨by kernel_rfl, ?_⟩ | refine ex_is _ List.length_map ?_)
    refine ex_call (e5.of0) ?_
    repeat (first | refine ex_true (by decide) ?_ | refine ex_false (by decide) ?_ | refine ⟨by kernel_rfl, ?_⟩ | refine ex_is _ List.length_map ?_)
    exact TLe.rfl
  | true =>
  rw [hgt] at hg e1 e2 e4 g4 e5
  simp only [Bool.true_and] at e1 e2 e4 g4 e5
  unfold txV at htx hux
  cases hgu : goodP u with
  | false =>
    rw [hgu] at hh e1 e4 g4 e5
    simp only [Bool.false_and] at e1 e4 g4 e5
    refine fn_rule (C := ⟨Tryd.prog, layF, Tryd.f5.ntmps, ΓS, 0, [], []⟩) layF_ok mixed Tryd.func5 rfl (by kernel_rfl) rfl rfl rfl ?_
    repeat (first | refine ex_true (by decide) ?_ | refine ex_false (by decide) ?_ | refine ⟨by kernel_rfl, ?_⟩ | refine ex_is _ List.length_map ?_)
    refine ex_call (hv) ?_
    repeat (first | refine ex_true (by decide) ?_ | refine ex_false (by decide) ?_ | refine ⟨by kernel_rfl, ?_⟩ | refine ex_is _ List.length_map ?_)
    refine ex_call (hw) ?_
    repeat (first | refine ex_true (by decide) ?_ | refine ex_false (by decide) ?_ | refine ⟨by kernel_rfl, ?_⟩ | refine ex_is _ List.length_map ?_)
    refine ex_call (hg.of0) ?_
    repeat (first | refine ex_true (by decide) ?_ | refine ex_false (by decide) ?_ | refine ⟨by kernel_rfl, ?_⟩ | refine ex_is _ List.length_map ?_)
    refine ex_call (hh.of0) ?_
    repeat (first | refine ex_true (by decide) ?_ | refine ex_false (by decide) ?_ | refine ⟨by kernel_rfl, ?_⟩ | refine ex_is _ List.length_map ?_)
    refine ex_call (hwk) ?_
    repeat (first | refine ex_true (by decide) ?_ | refine ex_false (by decide) ?_ | refine ⟨by kernel_rfl, ?_⟩ | refine ex_is _ List.length_map ?_)
    refine ex_call (e1.of0) ?_
    repeat (first | refine ex_true (by decide) ?_ | refine ex_false (by decide) ?_ | refine ⟨by kernel_rfl, ?_⟩ | refine ex_is _ List.length_map ?_)
    refine ex_call (e2.of0) ?_
    repeat (first | refine ex_true (by decide) ?_ | refine ex_false (by decide) ?_ | refine ⟨by kernel_rfl, ?_⟩ | refine ex_is _ List.length_map ?_)
    refine ex_call (hg.of0) ?_
    repeat (first | refine ex_true (by decide) ?_ | refine ex_false (by decide) ?_ | refine ⟨by kernel_rfl, ?_⟩ | refine ex_is _ List.length_map ?_)
    refine ex_call (hL1.of0) ?_
    repeat (first | refine ex_true (by decide) ?_ | refine ex_false (by decide) ?_ | refine ⟨by kernel_rfl, ?_⟩ | refine ex_is _ List.length_map ?_)
    refine ex_call (hR1.of0) ?_
    repeat (first | refine ex_true (by decide) ?_ | refine ex_false (by decide) ?_ | refine ⟨by kernel_rfl, ?_⟩ | refine ex_is _ List.length_map ?_)
    refine ex_call (e3.of0) ?_
    repeat (first | refine ex_true (by decide) ?_ | refine ex_false (by decide) ?_ | refine ⟨by kernel_rfl, ?_⟩ | refine ex_is _ List.length_map ?_)
    refine ex_call (hL2.of0) ?_
    repeat (first | refine ex_true (by decide) ?_ | refine ex_false (by decide) ?_ | refine ⟨by kernel_rfl, ?_⟩ | refine ex_is _ List.length_map ?_)
    refine ex_call (hL2'.of0) ?_
    repeat (first | refine ex_true (by decide) ?_ | refine ex_false (by decide) ?_ | refine ⟨by kernel_rfl, ?_⟩ | refine ex_is _ List.length_map ?_)
    refine ex_call (g4.of0) ?_
    repeat (first | refine ex_true (by decide) ?_ | refine ex_false (by decide) ?_ | refine ⟨by kernel_rfl, ?_⟩ | refine ex_is _ List.length_map ?_)
    refine ex_call (e4.of0) ?_
    repeat (first | refine ex_true (by decide) ?_ | refine ex_false (by decide) ?_ | refine ⟨by kernel_rfl, ?_⟩ | refine ex_is _ List.length_map ?_)
    refine ex_call (hR1.of0) ?_
    repeat (first | refine ex_true (by decide) ?_ | refine ex_false (by decide) ?_ | refine ⟨by kernel_rfl, ?_⟩ | refine ex_is _ List.length_map ?_)
    refine ex_call (hR1'.of0) ?_
    repeat (first | refine ex_true (by decide) ?_ | refine ex_false (by decide) ?_ | refine ⟨by kernel_rfl, ?_⟩ | refine ex_is _ List.length_map ?_)
    refine ex_call (e5.of0) ?_
    repeat (first | refine ex_true (by decide) ?_ | refine ex_false (by decide) ?_ | refine ⟨by kernel_rfl, ?_⟩ | refine ex_is _ List.length_map ?_)
    exact TLe.rfl
  | true =>
    rw [hgu] at hh e1 e4 g4 e5
    simp only [Bool.true_and] at e1 e4 g4 e5
    rw [hgt, if_pos rfl] at htx
    rw [hgu, if_pos rfl] at hux
    have hs := same_dec ho hp hgt hgu
    have hs' := same_dec hp ho hgu hgt
    obtain ⟨E, hE⟩ : ∃ E, decide (bs (txP t) = bs (txP u)) = E := ⟨_, rfl⟩
    rw [show decide (bs (txP u) = bs (txP t)) = E by rw [← hE]; exact decide_eq_decide.2 ⟨Eq.symm, Eq.symm⟩] at hs'
    rw [hs, hE] at e1
    rw [hs, hs', hE, Bool.and_self] at e4
    rw [hs, hE] at e5
    refine fn_rule (C := ⟨Tryd.prog, layF, Tryd.f5.ntmps, ΓS, 0, [], []⟩) layF_ok mixed Tryd.func5 rfl (by kernel_rfl) rfl rfl rfl ?_
    repeat (first | refine ex_true (by decide) ?_ | refine ex_false (by decide) ?_ | refine ⟨by kernel_rfl, ?_⟩ | refine ex_is _ List.length_map ?_)
    refine ex_call (hv) ?_
    repeat (first | refine ex_true (by decide) ?_ | refine ex_false (by decide) ?_ | refine ⟨by kernel_rfl, ?_⟩ | refine ex_is _ List.length_map ?_)
    refine ex_call (hw) ?_
    repeat (first | refine ex_true (by decide) ?_ | refine ex_false (by decide) ?_ | refine ⟨by kernel_rfl, ?_⟩ | refine ex_is _ List.length_map ?_)
    refine ex_call (hg.of0) ?_
    repeat (first | refine ex_true (by decide) ?_ | refine ex_false (by decide) ?_ | refine ⟨by kernel_rfl, ?_⟩ | refine ex_is _ List.length_map ?_)
    refine ex_call (hh.of0) ?_
    repeat (first | refine ex_true (by decide) ?_ | refine ex_false (by decide) ?_ | refine ⟨by kernel_rfl, ?_⟩ | refine ex_is _ List.length_map ?_)
    refine ex_call (htx) ?_
    repeat (first | refine ex_true (by decide) ?_ | refine ex_false (by decide) ?_ | refine ⟨by kernel_rfl, ?_⟩ | refine ex_is _ List.length_map ?_)
    refine ex_call (hux) ?_
    repeat (first | refine ex_true (by decide) ?_ | refine ex_false (by decide) ?_ | refine ⟨by kernel_rfl, ?_⟩ | refine ex_is _ List.length_map ?_)
    refine ex_is (E) (hE) ?_
    cases E
    all_goals
      repeat (first | refine ex_true (by decide) ?_ | refine ex_false (by decide) ?_ | refine ⟨by kernel_rfl, ?_⟩ | refine ex_is _ List.length_map ?_)
      refine ex_call (hwk) ?_
      repeat (first | refine ex_true (by decide) ?_ | refine ex_false (by decide) ?_ | refine ⟨by kernel_rfl, ?_⟩ | refine ex_is _ List.length_map ?_)
      refine ex_call (e1.of0) ?_
      repeat (first | refine ex_true (by decide) ?_ | refine ex_false (by decide) ?_ | refine ⟨by kernel_rfl, ?_⟩ | refine ex_is _ List.length_map ?_)
      refine ex_call (e2.of0) ?_
      repeat (first | refine ex_true (by decide) ?_ | refine ex_false (by decide) ?_ | refine ⟨by kernel_rfl, ?_⟩ | refine ex_is _ List.length_map ?_)
      refine ex_call (hg.of0) ?_
      repeat (first | refine ex_true (by decide) ?_ | refine ex_false (by decide) ?_ | refine ⟨by kernel_rfl, ?_⟩ | refine ex_is _ List.length_map ?_)
      refine ex_call (hL1.of0) ?_
      repeat (first | refine ex_true (by decide) ?_ | refine ex_false (by decide) ?_ | refine ⟨by kernel_rfl, ?_⟩ | refine ex_is _ List.length_map ?_)
      refine ex_call (hR1.of0) ?_
      repeat (first | refine ex_true (by decide) ?_ | refine ex_false (by decide) ?_ | refine ⟨by kernel_rfl, ?_⟩ | refine ex_is _ List.length_map ?_)
      refine ex_call (e3.of0) ?_
      repeat (first | refine ex_true (by decide) ?_ | refine ex_false (by decide) ?_ | refine ⟨by kernel_rfl, ?_⟩ | refine ex_is _ List.length_map ?_)
      refine ex_call (hL2.of0) ?_
      repeat (first | refine ex_true (by decide) ?_ | refine ex_false (by decide) ?_ | refine ⟨by kernel_rfl, ?_⟩ | refine ex_is _ List.length_map ?_)
      refine ex_call (hL2'.of0) ?_
      repeat (first | refine ex_true (by decide) ?_ | refine ex_false (by decide) ?_ | refine ⟨by kernel_rfl, ?_⟩ | refine ex_is _ List.length_map ?_)
      refine ex_call (g4.of0) ?_
      repeat (first | refine ex_true (by decide) ?_ | refine ex_false (by decide) ?_ | refine ⟨by kernel_rfl, ?_⟩ | refine ex_is _ List.length_map ?_)
      refine ex_call (e4.of0) ?_
      repeat (first | refine ex_true (by decide) ?_ | refine ex_false (by decide) ?_ | refine ⟨by kernel_rfl, ?_⟩ | refine ex_is _ List.length_map ?_)
      refine ex_call (hR1.of0) ?_
      repeat (first | refine ex_true (by decide) ?_ | refine ex_false (by decide) ?_ | refine ⟨by kernel_rfl, ?_⟩ | refine ex_is _ List.length_map ?_)
      refine ex_call (hR1'.of0) ?_
      repeat (first | refine ex_true (by decide) ?_ | refine ex_false (by decide) ?_ | refine ⟨by kernel_rfl, ?_⟩ | refine ex_is _ List.length_map ?_)
      refine ex_call (e5.of0) ?_
      repeat (first | refine ex_true (by decide) ?_ | refine ex_false (by decide) ?_ | refine ⟨by kernel_rfl, ?_⟩ | refine ex_is _ List.length_map ?_)
      exact TLe.rfl
end Go.Proofs.YtkeehnhamkdogaaDoor

namespace Go.Proofs.YtkeehnhamkdogaaDoor
set_option linter.unusedVariables false
set_option linter.unusedSimpArgs false
open Go.RowKit

def stC (k : Nat) (d : D) : CV → CV
  | .row j => match Nat.beq j k with
    | true => .d d
    | false => .row j
  | x => x
def stT (k : Nat) (d : D) : T1 → T1
  | .c x => .c (stC k d x)
  | .g l => .g (l.map (stC k d))
def stV (k : Nat) (d : D) : TV → TV
  | .o x => .o (stT k d x)
  | .tup l => .tup (l.map (stT k d))
  | x => x
def stB (k : Nat) (d : D) : Blk → Blk
  | .obj l t => .obj (l.map (stC k d)) t
  | x => x
def rpC (k : Nat) : CV → Bool
  | .rptr j _ _ _ => Nat.beq j k
  | .ptr j _ => Nat.beq j k
  | _ => false
def rpT (k : Nat) : T1 → Bool
  | .c x => rpC k x
  | .g l => l.any (rpC k)
def rpV (k : Nat) : TV → Bool
  | .o x => rpT k x
  | .tup l => l.any (rpT k)
  | _ => false
def rpB (k : Nat) : Blk → Bool
  | .obj l _ => l.any (rpC k)
  | _ => false
/-- The row k told as data everywhere; pointers into it are not told any more. -/
def stX (k : Nat) (d : D) (_ : Nat) (x : TV) : TV := match rpV k x with
  | true => .no
  | false => stV k d x
def stM (k : Nat) (d : D) (j : Nat) (x : Blk) : Blk := match Nat.beq j k || rpB k x with
  | true => .dead
  | false => stB k d x
def stillSt (k : Nat) (d : D) (s : St) : St := ⟨s.tm.map fun p => (p.1, stX k d p.1 p.2), s.mem.map fun p => (p.1, stM k d p.1 p.2), s.nx⟩
theorem findL_map {α β : Type} (F : Nat → α → β) : ∀ (l : List (Nat × α)) (t : Nat), findL (l.map fun p => (p.1, F p.1 p.2)) t = (findL l t).map (F t)
  | [], t => rfl
  | (j, v) :: l, t => by
    simp only [List.map_cons, findL]
    split
    · rename_i e; subst e; rfl
    · exact findL_map F l t
section
variable {ι : Nat → Value} {S S' : Nat → Prop} {w : World} {k : Nat} {d : D}
theorem stC_ok (hS : ∀ b, S b → S' b) (hd : Imm S' w d (ι k)) {x : CV} {u : Value} (h : VC ι S w x u) : VC ι S' w (stC k d x) u := by
  cases x with
  | row j =>
    simp only [stC]
    split
    · rename_i hb
      obtain rfl := Nat.eq_of_beq_eq_true hb
      rw [h.1]
      exact hd
    · exact VC.mono (x := .row j) (fun _ _ => rfl) hS (fun _ _ => rfl) h
  | d x => exact VC.mono (x := .d x) (fun _ _ => rfl) hS (fun _ _ => rfl) h
  | ptr j o => exact VC.mono (x := .ptr j o) (fun _ _ => rfl) hS (fun _ _ => rfl) h
  | eptr cs => exact VC.mono (x := .eptr cs) (fun _ _ => rfl) hS (fun _ _ => rfl) h
  | rptr a b c e => exact VC.mono (x := .rptr a b c e) (fun _ _ => rfl) hS (fun _ _ => rfl) h
theorem stT_ok (hS : ∀ b, S b → S' b) (hd : Imm S' w d (ι k)) {x : T1} {u : Value} (h : V1 ι S w x u) : V1 ι S' w (stT k d x) u := by
  cases x with
  | c x => exact stC_ok hS hd h
  | g l =>
    obtain ⟨us, h1, h2⟩ := h
    exact ⟨us, h1, h2.mono (fun a b hab => stC_ok hS hd hab) |> All2.map_left⟩
theorem stV_ok (hS : ∀ b, S b → S' b) (hd : Imm S' w d (ι k)) {x : TV} {u : Value} (h : V ι S w x u) : V ι S' w (stV k d x) u := by
  cases x with
  | no => trivial
  | und => exact h
  | o x => exact stT_ok hS hd h
  | tup l =>
    obtain ⟨us, h1, h2⟩ := h
    exact ⟨us, h1, h2.mono (fun a b hab => stT_ok hS hd hab) |> All2.map_left⟩
  | pan v => exact h
end
theorem SLe.still {nx0 : Nat} {s : St} (k size : Nat) (e : TypeId) (rows : List (List D)) (hk : findL s.mem k = some (.row size e rows)) : SLe nx0 (stillSt k (.sl size rows) s) s := fun E a w he ⟨ι, S, I⟩ => by
  have hb0 := I.blk k _ hk
  have hlt := row_lt hb0
  have hS : ∀ b, S b → giveUp ι S [k] b := fun b hb => .inl hb
  have hd : Imm (giveUp ι S [k]) w (.sl size rows) (ι k) := row_imm hb0 hS (fun g hg => .inr ⟨k, by simp, hg⟩)
  have hmem : ∀ n b, findL (stillSt k (.sl size rows) s).mem n = some b → b.live = true → n ≠ k ∧ ∃ b0, findL s.mem n = some b0 ∧ b0.live = true ∧ b = stB k (.sl size rows) b0 := fun n b hb hl => by
    have hb : findL (s.mem.map fun p => (p.1, stM k (.sl size rows) p.1 p.2)) n = some b := hb
    rw [findL_map (stM k (.sl size rows))] at hb
    obtain ⟨b0, h1, h2⟩ := Option.map_eq_some_iff.1 hb
    unfold stM at h2
    split at h2
    · subst h2; cases hl
    · rename_i hf
      subst h2
      refine ⟨fun h => ?_, b0, h1, ?_, rfl⟩
      · rw [Bool.or_eq_false_iff] at hf
        exact absurd h (Nat.ne_of_beq_eq_false hf.1)
      · cases b0 <;> first | rfl | exact hl
  have hdead : ∀ n b, findL (stillSt k (.sl size rows) s).mem n = some b → b.live = false → b = .dead := fun n b _ hl => by cases b <;> first | rfl | cases hl
  have hS' : ∀ n b, findL s.mem n = some b → b.live = true → n ≠ k → ∀ g, blkOf (ι n) = some g → ¬ giveUp ι S [k] g := fun n b hb hl hn g hg hs => by
    rcases hs with hs | ⟨j, hj, hs⟩
    · have h := I.blk n b hb
      cases b with
      | dead => cases hl
      | obj cells => obtain ⟨b2, arr, ty, h1, _, _, h4⟩ := h; rw [h1] at hg; cases hg; exact h4 hs
      | row size e rows => exact (row_lt h g hg).2 hs
    · obtain rfl : j = k := by simpa using hj
      exact hn (I.dst n j b _ g hb hk hl rfl hg hs)
  refine ⟨ι, giveUp ι S [k], I.os, I.tape, I.output, I.size, I.old, fun b hb => ?_, fun b hb => .inl (I.s0 b hb), fun b hb => ?_, fun t tv ht => ?_, fun n b hb => ?_, fun n b hb hl g hg => ?_, fun n n' b b' g hb hb' hl hl' hg hg' => ?_, I.dn, I.sz, E.Γ.mono (fun _ _ => rfl) hS I.gl, I.ik⟩
  · rcases hb with hb | ⟨j, hj, hb⟩
    · exact I.slt b hb
    · obtain rfl : j = k := by simpa using hj
      exact (hlt b hb).1
  · rcases hb with hb | ⟨j, hj, hb⟩
    · exact I.sg b hb
    · obtain rfl : j = k := by simpa using hj
      rcases I.mutb j _ hk rfl b hb with h | h
      · exact .inr (.inr h)
      · exact .inr (.inl h)
  · have ht : findL (s.tm.map fun p => (p.1, stX k (.sl size rows) p.1 p.2)) t = some tv := ht
    rw [findL_map (stX k (.sl size rows))] at ht
    obtain ⟨tv0, h1, h2⟩ := Option.map_eq_some_iff.1 ht
    unfold stX at h2
    split at h2
    · subst h2; trivial
    · subst h2
      exact stV_ok hS hd (I.tms t tv0 h1)
  · cases hl : b.live with
    | false => rw [hdead n b hb hl]; trivial
    | true =>
      obtain ⟨hn, b0, h1, h2, rfl⟩ := hmem n b hb hl
      have h := I.blk n b0 h1
      cases b0 with
      | dead => cases h2
      | obj cells tg =>
        obtain ⟨b2, arr, ty, e1, e2, e3, e4⟩ := h
        exact ⟨b2, arr, ty, e1, e2, All2.map_left (e3.mono fun a b hab => stC_ok hS hd hab), hS' n _ h1 rfl hn b2 (by rw [e1]; rfl)⟩
      | row size' e' rows' =>
        obtain ⟨cs, e1, e2, e3, e4⟩ := h
        exact ⟨cs, e1, e2.mono fun a b hab => Imm.mono (fun _ _ => rfl) hS hab, e3, fun g hg => hS' n _ h1 rfl hn g hg⟩
  · obtain ⟨hn, b0, h1, h2, rfl⟩ := hmem n b hb hl
    exact I.mutb n b0 h1 h2 g hg
  · obtain ⟨hn, b0, h1, h2, rfl⟩ := hmem n b hb hl
    obtain ⟨hn', b0', h1', h2', rfl⟩ := hmem n' b' hb' hl'
    exact I.dst n n' b0 b0' g h1 h1' h2 h2' hg hg'
end Go.Proofs.YtkeehnhamkdogaaDoor

namespace Go.Proofs.YtkeehnhamkdogaaDoor
set_option linter.unusedVariables false
set_option linter.unusedSimpArgs false
open Go.RowKit
set_option maxRecDepth 100000

abbrev dstrs (l : List ByteArray) : D := .sl 1 (l.map fun s => [ds s])
theorem join_c (Γ : Glob) (l : List ByteArray) (sep : ByteArray) (h : (Lib.join (l.map (·.data.toList)) sep.data.toList).length ≤ 140737488355328) (hl : l.length ≤ 140737488355328) :
    CallsA Tryd.prog Γ 23 [c1 (dstrs l), c1 (ds sep)] (.o (c1 (ds ⟨(Lib.join (l.map (·.data.toList)) sep.data.toList).toArray⟩))) :=
  ⟨⟨_, Tryd.func23, by kernel_rfl, rfl⟩, fun S w vs hS hG hvs => by
    obtain ⟨u, v, rfl, e1, e2⟩ := two_args hvs
    obtain rfl := open_v e2
    have e1 : Imm S w (dstrs l) u := e1
    obtain ⟨rows, hr⟩ : ∃ rows, l.map (fun s => [ds s]) = rows := ⟨_, rfl⟩
    have hl2 : rows.length = l.length := by rw [← hr, List.length_map]
    rw [show dstrs l = .sl 1 rows by rw [← hr]] at e1
    have hnil : rows = [] → l = [] := fun e => by rw [e] at hl2; exact List.eq_nil_of_length_eq_zero hl2.symm
    have fin : ∀ (a : Option Addr) (c : Nat), l = [] → Calls Tryd.prog 23 #[.slice a 0 c, .string sep] w fun e w' => ∃ v S', e = .returned v ∧ Below w.heap.size w w' ∧ (∀ b, S b → S' b) ∧ (∀ b, S' b → S b ∨ w.heap.size ≤ b) ∧ (∀ b, S' b → b < w'.heap.size) ∧ V ι0 S' w' (.o (c1 (ds ⟨(Lib.join (l.map (·.data.toList)) sep.data.toList).toArray⟩))) v := fun a c h0 => by
      rw [h0]
      refine (Tryd.strings_Join_none a c sep w).mono fun e w' ⟨he, hb⟩ => ?_
      subst he; subst hb
      exact flat_end hS (Below.refl _ _) (Imm.v rfl)
    cases e1 with
    | nil => exact fin _ _ (hnil rfl)
    | sl0 => exact fin _ _ (hnil rfl)
    | sl us hs hc hrr hc1 hc2 =>
      rename_i g f cap
      rw [hl2]
      refine (Tryd.strings_Join g f cap l sep w (fun j x hj => ?_) (hS _ hs) hl (by omega) h).mono fun e w' ⟨he, hb⟩ => ?_
      · have hrow : rows.flatten[j]? = some (ds x) := by
          have := flatten_get (i := j) (j := 0) (r := [ds x]) (d := ds x) hrr (by rw [← hr, List.getElem?_map, hj]; rfl) rfl
          simpa using this
        have h1 := hc1 j _ hrow
        have h2 := hc2 j _ hrow
        rw [h1]
        generalize us j = u at *
        cases h2
        rfl
      · subst he
        exact flat_end hS hb (Imm.v rfl)⟩
theorem repeat_c (Γ : Glob) (s : ByteArray) (c : Nat) (hc : c ≤ 9223372036854775807) (h : s.size * c ≤ 140737488355328) :
    CallsA Tryd.prog Γ 24 [c1 (ds s), c1 (di c)] (.o (c1 (ds ⟨(Lib.repeatL s.data.toList c).toArray⟩))) :=
  ⟨⟨_, Tryd.func24, by kernel_rfl, rfl⟩, fun S w vs hS hG hvs => by
    obtain ⟨u, v, rfl, e1, e2⟩ := two_args hvs
    obtain rfl := open_v e1
    obtain rfl := open_v e2
    refine (Tryd.strings_Repeat s c w hc h).mono fun e w' ⟨he, hb⟩ => ?_
    subst he
    exact flat_end hS hb (Imm.v rfl)⟩
end Go.Proofs.YtkeehnhamkdogaaDoor

namespace Go.Proofs.YtkeehnhamkdogaaDoor
set_option linter.unusedVariables false
set_option linter.unusedSimpArgs false
open Go.RowKit
set_option maxRecDepth 100000

def nest (b : PV) : Nat → PV
  | 0 => b
  | j + 1 => .mk 3 0 ⟨#[]⟩ [nest b j]
theorem lean_one : leanB 3 0 ⟨#[]⟩ 1 = true := by decide
theorem nest_depth {b : PV} (h : 0 < depthP b) : ∀ j, depthP (nest b j) = depthP b + j
  | 0 => rfl
  | j + 1 => by
    have ih := nest_depth h j
    have hl : leanB 3 0 ⟨#[]⟩ [nest b j].length = true := lean_one
    rw [nest, depthP, if_neg (by rw [hl]; decide), depthL, if_neg (by omega), if_pos (by omega), depthL, ih]
    omega
theorem nest_num (b : PV) : ∀ j, (nest b j).num = b.num + j
  | 0 => rfl
  | j + 1 => by rw [nest, PV.num, numL, numL, nest_num b j]; omega
theorem nest_tx (b : PV) : ∀ j, txP (nest b j) = List.replicate j 91 ++ txP b ++ List.replicate j 93
  | 0 => by simp [nest]
  | j + 1 => by
    rw [nest, txP_list _ _ _ _ (by omega) (by omega) (by omega), txL, txL, nest_tx b j, List.replicate_succ, List.replicate_succ']
    simp [opn, cls]
theorem nest_all {p : Int → Nat → ByteArray → Prop} {b : PV} (h : AllP p b) (h3 : p 3 0 ⟨#[]⟩) : ∀ j, AllP p (nest b j)
  | 0 => h
  | j + 1 => AllP_mk.2 ⟨h3, nest_all h h3 j, trivial⟩
theorem nest_good {b : PV} (h : 0 < depthP b) (j : Nat) : goodP (nest b j) = decide (depthP b + j ≤ 1200) := by
  rw [← good_same]
  unfold rgoodP
  rw [nest_depth h]
  exact decide_eq_decide.2 ⟨fun h => h.2, fun h2 => ⟨by omega, h2⟩⟩
theorem rep_l (c : UInt8) : ∀ k, Lib.repeatL [c] k = List.replicate k c
  | 0 => rfl
  | k + 1 => by rw [Lib.repeatL, rep_l c k, List.replicate_succ]; rfl
/-- Too many brackets fail where the one too many stands. -/
theorem val_deep {s : ByteArray} : ∀ (m j a : Nat) (Y : List UInt8), m < j → At s a (List.replicate j 91 ++ Y) → valV s m a = .err (a + m) 8
  | m, 0, a, Y, hj, h => by omega
  | 0, j + 1, a, Y, hj, h => by
    rw [List.replicate_succ, List.cons_append] at h
    have hp : passV s a = a := passV_stop (by rw [h.at]; decide)
    rw [valV, hp]
    unfold atV
    rw [if_pos h.at, if_pos rfl, Nat.add_zero]
  | m + 1, j + 1, a, Y, hj, h => by
    have h' := h
    rw [List.replicate_succ, List.cons_append] at h
    have hp : passV s a = a := passV_stop (by rw [h.at]; decide)
    have ih := val_deep m j (a + 1) Y (by omega) h.next
    have h2 := h.next
    obtain ⟨i, rfl⟩ : ∃ i, j = i + 1 := ⟨j - 1, by omega⟩
    rw [List.replicate_succ, List.cons_append] at h2
    have hp2 : passV s (a + 1) = a + 1 := passV_stop (by rw [h2.at]; decide)
    rw [valV, hp]
    unfold atV
    rw [if_pos h.at, if_neg (by decide)]
    unfold listV
    rw [hp2, h2.nextV, if_neg (by unfold endV; decide), loopV, ih]
    show R.err (a + 1 + m) 8 = _
    congr 1; omega
theorem parse_deep (k : Nat) (h : 1200 < k) : parseV (bs (List.replicate k 91 ++ List.replicate k 93)) = (.mk 0 0 ⟨#[]⟩ [], 1200, 8) := by
  unfold parseV
  have h0 : At (bs (List.replicate k 91 ++ List.replicate k 93)) 0 (List.replicate k 91 ++ List.replicate k 93) := by unfold At; rw [List.drop_zero]
  rw [val_deep 1200 k 0 (List.replicate k 93) h h0]
  rfl
def lst0 : PV := .mk 3 0 ⟨#[]⟩ []
def non0 : PV := .mk 0 0 ⟨#[]⟩ []
theorem dep_lst : depthP lst0 = 1 := by
  have : leanB 3 0 ⟨#[]⟩ ([] : List PV).length = true := by decide
  rw [lst0, depthP, if_neg (by rw [this]; decide), depthL]
theorem dep_non : depthP non0 = 1 := by
  have : leanB 0 0 ⟨#[]⟩ ([] : List PV).length = true := by decide
  rw [non0, depthP, if_neg (by rw [this]; decide), depthL]
theorem ok0 (k : Int) : AllP PvOk (.mk k 0 ⟨#[]⟩ []) := AllP_mk.2 ⟨⟨by omega, by decide⟩, trivial⟩
set_option maxHeartbeats 1000000 in
theorem valueDeep_c (z : Int) (hz : 0 ≤ z ∧ z ≤ 65535) : CallsA Tryd.prog ΓS 7 [c1 (.v (.int .u16 z))] (Tb true) := by
  obtain ⟨c, hc, hc5⟩ : ∃ c : Nat, z.tmod 20 = c ∧ c < 20 := ⟨(z.tmod 20).toNat, by rw [Int.tmod_eq_emod_of_nonneg hz.1]; omega, by rw [Int.tmod_eq_emod_of_nonneg hz.1]; omega⟩
  have hwk := wakes_c
  obtain ⟨j, hj⟩ : ∃ j, j = 1189 + c := ⟨_, rfl⟩
  have r1 := repeat_c ΓS (bs [91]) (j + 1) (by omega) (by rw [bs_size, List.length_singleton]; omega)
  have r2 := repeat_c ΓS (bs [93]) (j + 1) (by omega) (by rw [bs_size, List.length_singleton]; omega)
  rw [show Lib.repeatL (bs [91]).data.toList (j + 1) = List.replicate (j + 1) 91 from rep_l 91 _] at r1
  rw [show Lib.repeatL (bs [93]).data.toList (j + 1) = List.replicate (j + 1) 93 from rep_l 93 _] at r2
  have hs : bs (List.replicate (j + 1) 91) ++ bs (List.replicate (j + 1) 93) = bs (List.replicate (j + 1) 91 ++ List.replicate (j + 1) 93) := bs_app _ _
  have hsz : (bs (List.replicate (j + 1) 91) ++ bs (List.replicate (j + 1) 93)).size ≤ 2420 := by rw [hs, bs_size, List.length_append, List.length_replicate, List.length_replicate]; omega
  have hp := Parse_c _ (Nat.le_trans hsz (by omega))
  have hlt : txP (nest lst0 j) = List.replicate (j + 1) 91 ++ List.replicate (j + 1) 93 := by
    rw [nest_tx, show txP lst0 = [91] ++ [93] from rfl, List.replicate_succ', List.replicate_succ]
    simp
  have hwn := nest_num non0 j
  have hw1 : non0.num = 1 := by rw [non0, PV.num, numL]
  have hvn := nest_num lst0 j
  have hv1 : lst0.num = 1 := by rw [lst0, PV.num, numL]
  have hgw := nest_good (b := non0) (by rw [dep_non]; omega) j
  have hgv := nest_good (b := lst0) (by rw [dep_lst]; omega) j
  rw [dep_non] at hgw
  rw [dep_lst] at hgv
  have gw := Good_c (nest non0 j) (by omega)
  have cw := Count_c (nest non0 j) (by omega)
  have cv := Count_c (nest lst0 j) (by omega)
  have xv := Text_c (nest lst0 j) (by omega) (fmt_all (nest_all (ok0 3) ⟨by omega, by decide⟩ j)) (by rw [hlt, List.length_append, List.length_replicate, List.length_replicate]; omega)
  unfold txV at xv
  refine fn_rule (C := ⟨Tryd.prog, layF, Tryd.f7.ntmps, ΓS, 0, [], []⟩) layF_ok mixed Tryd.func7 rfl (by kernel_rfl) rfl rfl rfl ?_
  refine ⟨by decide, ?_⟩
  refine ex_is ((c : Int)) (hc) ?_
  refine ex_i64 ((c : Int)) (by first | rfl | omega | simp) (by omega) (by omega) ?_
  refine ex_i64 (((j + 1 : Nat) : Int)) (by first | rfl | omega | simp) (by omega) (by omega) ?_
  repeat (first | refine ex_true (by decide) ?_ | refine ex_false (by decide) ?_ | refine ⟨by kernel_rfl, ?_⟩ | refine ex_is _ List.length_map ?_)
  refine ex_call (r1) ?_
  repeat (first | refine ex_true (by decide) ?_ | refine ex_false (by decide) ?_ | refine ⟨by kernel_rfl, ?_⟩ | refine ex_is _ List.length_map ?_)
  refine ex_call (r2) ?_
  repeat (first | refine ex_true (by decide) ?_ | refine ex_false (by decide) ?_ | refine ⟨by kernel_rfl, ?_⟩ | refine ex_is _ List.length_map ?_)
  refine ⟨by rw [← ByteArray.size_append]; show (bs _ ++ bs _).size ≤ _; omega, ?_⟩
  repeat (first | refine ex_true (by decide) ?_ | refine ex_false (by decide) ?_ | refine ⟨by kernel_rfl, ?_⟩ | refine ex_is _ List.length_map ?_)
  refine ex_call (hp) ?_
  repeat (first | refine ex_true (by decide) ?_ | refine ex_false (by decide) ?_ | refine ⟨by kernel_rfl, ?_⟩ | refine ex_is _ List.length_map ?_)
  rw [hs]
  generalize hP : parseV (bs (List.replicate (j + 1) 91 ++ List.replicate (j + 1) 93)) = P at *
  refine ex_i64 ((j : Int)) (by first | rfl | omega | simp) (by omega) (by omega) ?_
  refine ex_loop (X := Nat) (fun q => ⟨[(3, Ti (j + 1 : Nat)), (4, Tstr (bs (List.replicate (j + 1) 91 ++ List.replicate (j + 1) 93))), (5, .o (.c (.ptr 0 0))), (6, Ti P.2.1), (7, Ti P.2.2), (8, .o (.c (.ptr 1 0))), (26, Ti j), (27, Ti q)],
      [(0, .obj [.d (di P.1.k), .d (du P.1.n), .d (ds P.1.b), .d (dl P.1)]), (1, .obj [.d (di (nest non0 q).k), .d (du (nest non0 q).n), .d (ds (nest non0 q).b), .d (dl (nest non0 q))])], 2⟩) (fun q => j - q)
    (fun q => q ≤ j) 0 (Nat.zero_le _) (SLe.trans (SLe.of ⟨⟨rfl, rfl, rfl, rfl, rfl, rfl, rfl, rfl, trivial⟩, ⟨rfl, rfl, trivial⟩⟩) (SLe.trans (SLe.still 2 4 Tval [] rfl) (SLe.ownCell 1 3 2 4 Tval rfl rfl rfl rfl rfl rfl))) ?_
  rintro q hq
  refine ex_dec (fun h1 => ?_) (fun h1 => ?_)
  ·
    repeat (first | refine ex_true (by decide) ?_ | refine ex_false (by decide) ?_ | refine ⟨by kernel_rfl, ?_⟩ | refine ex_is _ List.length_map ?_)
    refine ex_call ((L_c [nest non0 q]).of0) ?_
    repeat (first | refine ex_true (by decide) ?_ | refine ex_false (by decide) ?_ | refine ⟨by kernel_rfl, ?_⟩ | refine ex_is _ List.length_map ?_)
    refine ex_i64 (((q + 1 : Nat) : Int)) (by first | rfl | omega | simp) (by omega) (by omega) ?_
    exact ex_round (q + 1) (by show q + 1 ≤ j; omega) (by show j - (q + 1) < j - q; omega) (SLe.of ⟨⟨rfl, rfl, rfl, rfl, rfl, rfl, rfl, rfl, trivial⟩, ⟨rfl, rfl, trivial⟩⟩)
  · obtain rfl : q = j := by omega
    refine ex_dec (fun h2 => ?_) (fun h2 => ?_)
    · rw [show P = _ from (hP.symm.trans (parse_deep _ (by omega)))]
      rw [decide_eq_false (by omega)] at hgw
      rw [hgw] at gw
      repeat (first | refine ex_true (by decide) ?_ | refine ex_false (by decide) ?_ | refine ⟨by kernel_rfl, ?_⟩ | refine ex_is _ List.length_map ?_)
      refine ex_call (hwk) ?_
      repeat (first | refine ex_true (by decide) ?_ | refine ex_false (by decide) ?_ | refine ⟨by kernel_rfl, ?_⟩ | refine ex_is _ List.length_map ?_)
      refine ex_call (gw.of0) ?_
      repeat (first | refine ex_true (by decide) ?_ | refine ex_false (by decide) ?_ | refine ⟨by kernel_rfl, ?_⟩ | refine ex_is _ List.length_map ?_)
      exact TLe.rfl
    · rw [← hlt, parse_tx (nest lst0 q) (by rw [hgv]; exact decide_eq_true (by omega)) (nest_all (AllP.mono (fun _ _ _ h => h.1) (ok0 3)) (by omega) q)] at hP
      subst hP
      rw [decide_eq_true (by omega)] at hgw hgv
      rw [count_good _ hgv, hvn, hv1] at cv
      rw [count_good _ hgw, hwn, hw1] at cw
      rw [hgv, if_pos rfl, hlt] at xv
      rw [hgw] at gw
      repeat (first | refine ex_true (by decide) ?_ | refine ex_false (by decide) ?_ | refine ⟨by kernel_rfl, ?_⟩ | refine ex_is _ List.length_map ?_)
      refine ex_call (hwk) ?_
      repeat (first | refine ex_true (by decide) ?_ | refine ex_false (by decide) ?_ | refine ⟨by kernel_rfl, ?_⟩ | refine ex_is _ List.length_map ?_)
      refine ex_true rfl ?_
      repeat (first | refine ex_true (by decide) ?_ | refine ex_false (by decide) ?_ | refine ⟨by kernel_rfl, ?_⟩ | refine ex_is _ List.length_map ?_)
      refine ex_call (cv.of0) ?_
      repeat (first | refine ex_true (by decide) ?_ | refine ex_false (by decide) ?_ | refine ⟨by kernel_rfl, ?_⟩ | refine ex_is _ List.length_map ?_)
      refine ex_true (by omega) ?_
      repeat (first | refine ex_true (by decide) ?_ | refine ex_false (by decide) ?_ | refine ⟨by kernel_rfl, ?_⟩ | refine ex_is _ List.length_map ?_)
      refine ex_call (xv) ?_
      repeat (first | refine ex_true (by decide) ?_ | refine ex_false (by decide) ?_ | refine ⟨by kernel_rfl, ?_⟩ | refine ex_is _ List.length_map ?_)
      refine ex_true rfl ?_
      repeat (first | refine ex_true (by decide) ?_ | refine ex_false (by decide) ?_ | refine ⟨by kernel_rfl, ?_⟩ | refine ex_is _ List.length_map ?_)
      refine ex_call (gw.of0) ?_
      repeat (first | refine ex_true (by decide) ?_ | refine ex_false (by decide) ?_ | refine ⟨by kernel_rfl, ?_⟩ | refine ex_is _ List.length_map ?_)
      refine ex_call (cw.of0) ?_
      repeat (first | refine ex_true (by decide) ?_ | refine ex_false (by decide) ?_ | refine ⟨by kernel_rfl, ?_⟩ | refine ex_is _ List.length_map ?_)
      refine ex_true (by omega) ?_
      exact TLe.rfl
end Go.Proofs.YtkeehnhamkdogaaDoor

namespace Go.Proofs.YtkeehnhamkdogaaDoor
set_option linter.unusedVariables false
set_option linter.unusedSimpArgs false
open Go.RowKit
set_option maxRecDepth 100000

theorem iface_open {P : Program} {w : World} {base fuel : Nat} {sp : Nat → Bool} {held : Bool} {enc : TypeId × Value → Unit} {t : TypeId} {l : List Value} {x : DataW Unit × List MemPlace} {ms : Array (String × TypeId)} (hi : P.underlying t = some (.interface ms))
    (hd : DataW.trod enc P w base sp held fuel t l = some x) : l = [.nilIface] ∨ ∃ u v, l = [.iface u v] := by
  cases fuel with
  | zero => cases hd
  | succ f =>
    simp only [DataW.trod, hi] at hd
    split at hd <;> first | exact .inl rfl | exact .inr ⟨_, _, rfl⟩ | (cases hd; done) | (rename_i h1; cases h1; done) | (rename_i h1 h2; cases h1; done) | (rename_i h1 h2 h3; cases h1; done)
theorem errAt_of {W : World} {n : String} {g : Nat} {cs : Array Value} (hg : Tryd.prog.globalNamed n = some g) (hv : W.var? Tryd.prog n = some cs) (h : cs.toList = [.nilIface] ∨ ∃ u v, cs.toList = [.iface u v]) : ErrAt W g ∧ g < W.heap.size := by
  have hc : ∀ ev, cs.toList = [ev] → W.cell? ⟨g, 0, none⟩ = some ev := fun ev he => by
    rw [World.var?_cell hg hv 0]
    have : cs = #[ev] := by cases cs; simpa using he
    rw [this]; rfl
  refine ⟨?_, ?_⟩
  · rcases h with h | ⟨u, v, h⟩
    · exact ⟨_, hc _ h, .inl rfl⟩
    · exact ⟨_, hc _ h, .inr ⟨u, v, rfl⟩⟩
  · unfold World.var? at hv
    rw [hg] at hv
    simp only [Option.bind_some] at hv
    by_cases hl : g < W.heap.size
    · exact hl
    · rw [Array.getElem?_eq_none (by omega)] at hv; cases hv
theorem glob_of {W : World} {laid : List (String × DataW Unit)} (hl : laid = Rows.valueParseRow.laid) (h : laidMetH Tryd.prog laid W) : ΓS.G (Sall W) W := by
  subst hl
  rw [MakeChecks.laidMetH_plain _ _ _ (by kernel_rfl)] at h
  obtain ⟨ps, h, -⟩ := h
  obtain ⟨g1, t1, c1, f1, p1, q1, -, -, -, -, h, -⟩ := h
  obtain ⟨g2, t2, c2, f2, p2, q2, -, -, -, -, h, -⟩ := h
  obtain ⟨g3, t3, c3, f3, p3, q3, hg3, ht3, hv3, hd3, h, -⟩ := h
  obtain ⟨g4, t4, c4, f4, p4, q4, hg4, ht4, hv4, hd4, h, -⟩ := h
  obtain ⟨g5, t5, c5, f5, p5, q5, hg5, ht5, hv5, hd5, -, -⟩ := h
  have hT : Lib.TabIs Tryd.prog W "internal/strconv.uint64pow10" .u64 Lib.pow10Tab := by
    obtain rfl := Option.some.inj ((show Tryd.prog.globalNamed "internal/strconv.uint64pow10" = some 3 by kernel_rfl).symm.trans hg3)
    obtain rfl := Option.some.inj ((show (Tryd.prog.globals[3]?).map (·.type) = some 131 by kernel_rfl).symm.trans ht3)
    unfold Lib.TabIs
    rw [hv3, ← Lib.cells_of_tab Tryd.underlying131 Tryd.underlying24 (by kernel_rfl) (by kernel_rfl) (k := .u64) (zs := Lib.pow10Tab) hd3]
  obtain rfl := Option.some.inj ((show Tryd.prog.globalNamed "strconv.ErrRange" = some 5 by kernel_rfl).symm.trans hg4)
  obtain rfl := Option.some.inj ((show Tryd.prog.globalNamed "strconv.ErrSyntax" = some 4 by kernel_rfl).symm.trans hg5)
  obtain rfl := Option.some.inj ((show (Tryd.prog.globals[5]?).map (·.type) = some 83 by kernel_rfl).symm.trans ht4)
  obtain rfl := Option.some.inj ((show (Tryd.prog.globals[4]?).map (·.type) = some 83 by kernel_rfl).symm.trans ht5)
  have e4 := errAt_of hg4 hv4 (iface_open Tryd.underlying83 hd4)
  have e5 := errAt_of hg5 hv5 (iface_open Tryd.underlying83 hd5)
  refine ⟨⟨hT, fun g hg => ?_⟩, e5, e4⟩
  have hv := hv3
  unfold World.var? at hv
  rw [hg] at hv
  simp only [Option.bind_some] at hv
  show g < W.heap.size
  by_cases hl : g < W.heap.size
  · exact hl
  · rw [Array.getElem?_eq_none (by omega)] at hv; cases hv
end Go.Proofs.YtkeehnhamkdogaaDoor

namespace Go.Proofs.YtkeehnhamkdogaaDoor
set_option linter.unusedVariables false
set_option linter.unusedSimpArgs false
open Go.ChangeShapes Go.WideShapes Go.ChangeAt Go.RowKit Go.ChangeMaps
set_option maxRecDepth 100000

namespace valueDeep
set_option maxRecDepth 100000 in
theorem lifted (os : Os) (started : os.Started) (H : Type) (enc : TypeId × Value → H) :
    ReturnsInHanded {} Tryd.checked os 7 .any (fun w args => (Rows.valueDeepSpec.pre enc Tryd.prog Tryd.f7 Rows.valueDeepRow.domain false w args ∧ laidMetH Tryd.prog Rows.valueDeepRow.laid w) ∧ sizedMet enc Tryd.prog Tryd.f7 (OpenSpec.ofChange Rows.valueDeepSpec) false w args) (Rows.valueDeepSpec.post enc Tryd.prog Tryd.f7 false true false false) := by
  refine returnsInHanded_of_change_and (C := Tryd.checked) (X := fun w _ => laidMetH Tryd.prog Rows.valueDeepRow.laid w) (fun _ _ _ hh h => h.of_heap hh) own started (by kernel_rfl) Tryd.func7
    (ChangeSpec.witness_shaped (enc := enc) (C := Tryd.checked) (os := os) (X := fun w _ => laidMetH Tryd.prog Rows.valueDeepRow.laid w) false (World.laidAll Tryd.prog os Rows.valueDeepRow.laid) #[.int .u16 0] 8 (World.laidAll_os _ _ _) (World.shaped_of_ZipB (by kernel_rfl) (by kernel_rfl)) (by kernel_rfl) (by kernel_rfl) (by kernel_rfl)
      (by rw [MakeChecks.laidMetH_plain _ _ _ (by kernel_rfl)]; exact laidMet_laidAll _ (by kernel_rfl) (by kernel_rfl))) ?_
  intro W base args ds gs before hval0 hW _ hsz0 hLaid _
  have hsz : (DataW.weightsEach Tryd.prog (Tryd.f7.params.toList ++ Rows.valueDeepSpec.plain.varTypes Tryd.prog) (ds ++ gs)).all (· ≤ reachBytes) = true := hsz0
  have hval : ∀ (j : Nat) t v, Tryd.f7.params[j]? = some t → args[j]? = some v → Value.okWide Tryd.prog W .any base t v := hval0
  clear hsz0 hval0
  have hW' := hW
  obtain ⟨p, q, hA0, hV, rfl, hfz, hnd⟩ := hW
  have hA : DataW.TrodAll enc Tryd.prog W 0 (fun _ => true) true Tryd.f7.params.toList args.toList ds p := hA0
  clear hA0
  rw [Tryd.params7] at hA hval hsz
  obtain ⟨v0, vs0, d0, ds0, p0, q0, hargs, rfl, rfl, h0, r0⟩ := trodAll_cons hA
  obtain ⟨rfl, rfl, rfl⟩ := trodAll_nil r0
  obtain rfl : args = #[v0] := by cases args; simp_all
  obtain ⟨rfl, rfl⟩ := trodVars_none hV
  obtain ⟨n, rfl, rfl, rfl, hw0⟩ := open_int Tryd.underlying53 (hval 0 53 v0 rfl rfl) h0
  have w_n := wf_u16 hw0
  refine ((valueDeep_c n w_n).2 (Sall W) W [.int .u16 n] (fun _ h => h) (glob_of rfl hLaid) (.cons (Imm.v rfl) .nil)).mono fun e W' ⟨xr, _, he, hb, _, _, _, hv⟩ => ?_
  obtain rfl := V_v hv
  subst he
  exact ⟨_, rfl, law_post (ds := [_]) laidOut hW' rfl (by kernel_rfl) rfl Tryd.underlying4 rfl rfl rfl hb⟩

theorem proved : Rows.ValueDeepSaid :=
  OpenClaim.holds_of_wide 7 Tryd.f7 rfl rfl rfl rfl rfl rfl rfl ⟨rfl, rfl, rfl, rfl, rfl⟩ rfl rfl rfl rfl rfl (by kernel_rfl) Tryd.func7 (by kernel_rfl)
    (of_decide_eq_true (by kernel_rfl)) (by unfold Func.isWrapper; first | (rw [if_pos (by decide +kernel)]; kernel_rfl) | (rw [if_neg (by decide +kernel)]; exact ⟨rfl, rfl⟩))
    (fun os started H enc _ => lifted os started H enc)
theorem card : Rows.ValueDeepCardSaid :=
  Claim7.holds_tied_plain_at .later [] [.data, .data, .data, .sentinel, .sentinel] true (true, "6bf5c362cd481fe3d751572f1504a6a0b0d69aeef9018b1fcd6deae6dbd4dcf7") true proved (fun _ h => by cases h) (by kernel_rfl) (fun _ h => by cases h) valueDeep_row_tie rfl ⟨rfl, rfl⟩ (by kernel_rfl) rfl
    (fun f fn hf hfn => by
      obtain rfl : f = 7 := Option.some.inj ((show Tryd.prog.funcNamed "calliper/calliperlaw18.ValueDeep" = some 7 by kernel_rfl).symm.trans hf) |>.symm
      obtain rfl : fn = Tryd.f7 := (Option.some.inj (Tryd.func7.symm.trans hfn)).symm
      exact ⟨by kernel_rfl, fun j t ht => by
        rw [Tryd.params7] at ht
        have hm : t ∈ [53] := by simpa using Array.mem_of_getElem? ht
        have hall : ([53].all fun u => !Tryd.prog.wantsStandIn u) = true := by kernel_rfl
        exact (show Tryd.prog.wantsStandIn t = false by simpa using List.all_eq_true.1 hall t hm)⟩)
    (by kernel_rfl)
end valueDeep
end Go.Proofs.YtkeehnhamkdogaaDoor
