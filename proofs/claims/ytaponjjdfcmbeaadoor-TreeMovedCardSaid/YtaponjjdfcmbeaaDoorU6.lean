/- The law's views; Decode, the program's and the reference's. Conditions: int's in views, the string takes at most 2^47 bytes. -/
import Derived.Test.YtaponjjdfcmbeaaDoorU5
namespace Go.Proofs.YtaponjjdfcmbeaaDoor
set_option linter.unusedVariables false
set_option linter.unusedSimpArgs false
open Go.RowKit
set_option maxRecDepth 100000

def cutG (x : GV) : GV := { x with kids := x.kids.take 40 }
def cut40 (l : List GV) : List GV := (l.take 40).map cutG
theorem take_min {α : Type} (l : List α) (n : Nat) : l.take (min l.length n) = l.take n := by
  rcases Nat.le_total l.length n with h | h
  · rw [Nat.min_eq_left h, List.take_length, List.take_of_length_le h]
  · rw [Nat.min_eq_right h]
set_option maxHeartbeats 1600000 in
theorem views_c (l : List GV) : CallsA Tryd.prog Γ0 7 [c1 (dviews l)] (.tup [c1 (dviews (cut40 l)), c1 (dviews (cut40 l))]) := by
  obtain ⟨N, hN⟩ : ∃ N, min l.length 40 = N := ⟨_, rfl⟩
  have hc : cut40 l = (l.take N).map cutG := by rw [cut40, ← hN, take_min]
  rw [hc]
  refine fn_rule (C := ⟨Tryd.prog, layF, Tryd.f7.ntmps, Γ0, 0, [], []⟩) layF_ok mixed Tryd.func7 rfl (by kernel_rfl) rfl rfl rfl ?_
  refine ex_is (l.length) (by simp) ?_
  refine ex_is ((N : Int)) (by split <;> omega) ?_
  refine ⟨by omega, by omega, by simp; omega, ?_⟩
  refine ex_is ((l.take N).map vrow) (by simp [List.map_take]) ?_
  refine ex_is N (by simp; omega) ?_
  refine ex_loop (X := Nat) (fun q => ⟨[(5, .o (.c (.row 1))), (4, .o (.c (.row 0))), (12, .o (c1 (dviews (l.take N)))), (13, Ti N), (14, Ti q)], [(1, .row 7 58 (((l.take q).map cutG).map vrow)), (0, .row 7 50 (((l.take q).map cutG).map vrow))], 2⟩) (fun q => N - q)
    (fun q => q ≤ N) 0 (by omega) (SLe.trans (SLe.of ⟨⟨rfl, rfl, rfl, rfl, rfl, trivial⟩, ⟨rfl, rfl, trivial⟩⟩) (SLe.trans (SLe.own 5 1 7 58 rfl rfl rfl rfl rfl) (SLe.own 4 0 7 50 rfl rfl rfl rfl rfl))) ?_
  intro q hq
  refine ex_dec (fun h1 => ?_) (fun h1 => ?_)
  · have hqN : q < (l.take N).length := by simp; omega
    have hql : q < l.length := by omega
    refine ex_row (q) _ (by first | rfl | omega | simp) (at_some (hqN)) ?_
    have hx : (l.take N)[q] = l[q] := by simp
    have htk := take_map cutG hql
    rw [hx]
    generalize l[q] = x at *
    obtain ⟨M, hM⟩ : ∃ M, min x.kids.length 40 = M := ⟨_, rfl⟩
    have hkc : (cutG x).kids = x.kids.take M := by rw [cutG, ← hM, take_min]
    refine ex_is (x.kids.length) (by simp) ?_
    refine ex_is ((M : Int)) (by split <;> omega) ?_
    refine ⟨by omega, by omega, by simp; omega, ?_⟩
    refine ex_is ((x.kids.take M).map irow) (by simp [List.map_take]) ?_
    refine ex_app (q) (1) 1000 (by first | rfl | (simp; done) | (simp; omega)) (by first | rfl | (simp; done) | (simp; omega)) rfl (by omega) ?_
    refine ex_is (((l.take (q + 1)).map cutG).map vrow) (by rw [htk, List.map_append, ← hkc]; rfl) ?_
    refine ex_app (q) (1) 1000 (by first | rfl | (simp; done) | (simp; omega)) (by first | rfl | (simp; done) | (simp; omega)) rfl (by omega) ?_
    refine ex_is (((l.take (q + 1)).map cutG).map vrow) (by rw [htk, List.map_append, ← hkc]; rfl) ?_
    refine ex_i64 (((q + 1 : Nat) : Int)) (by first | rfl | omega | simp) (by omega) (by omega) ?_
    exact ex_round (q + 1) (show q + 1 ≤ _ by omega) (by show _ - _ < _ - _; omega) (SLe.ren [(4, 0), (6, 1)] ⟨⟨rfl, rfl⟩, ⟨rfl, rfl⟩, ⟨rfl, rfl⟩, ⟨rfl, rfl⟩, ⟨rfl, rfl⟩, trivial⟩ ⟨⟨rfl, rfl⟩, ⟨rfl, rfl⟩, trivial⟩ rfl)
  · obtain rfl : q = N := by omega
    exact TLe.rfl
theorem goodL_nice {s : ByteArray} {n : Nat} : ∀ (xs : List GV) (i : Nat) (ns : List Nat), ns.length = n → goodL s n i xs ns = true → ∀ j (h : j < xs.length), soundB xs[j].kind xs[j].at_ xs[j].len xs[j].beh xs[j].wid s.size = true ∧ ascK n ((i + j : Nat) : Int) xs[j].kids
  | x :: xs, i, ns, hn, hg, j, hj => by
    obtain ⟨ns1, h1, _, _, _, h5, h6⟩ := goodL_open hg
    obtain ⟨h7, h8, _⟩ := rkidsL_spec (by omega) (by rw [nestAt_len, hn]) (kidsL_r h5)
    cases j with
    | zero => exact ⟨h1, h7⟩
    | succ j =>
      have := goodL_nice xs (i + 1) ns1 h8 h6 j (by simpa using hj)
      rwa [show i + 1 + j = i + (j + 1) by omega] at this
theorem goodV_nice {l : List GV} {s : ByteArray} (h : goodV l s = true) : 0 < l.length ∧ ∀ i (h : i < l.length), soundB l[i].kind l[i].at_ l[i].len l[i].beh l[i].wid s.size = true ∧ ascK l.length (i : Int) l[i].kids := by
  unfold goodV at h
  simp only [Bool.and_eq_true, decide_eq_true_eq] at h
  refine ⟨h.2, fun i hi => ?_⟩
  have := goodL_nice l 0 _ (by simp) h.1 i hi
  rwa [Nat.zero_add] at this
theorem goodV_Nice {l : List GV} {s : ByteArray} (h : goodV l s = true) (hk : ∀ x ∈ l, x.kids.length ≤ 100000) : Nice l s := fun i hi => by
  obtain ⟨h1, h2⟩ := (goodV_nice h).2 i hi
  exact ⟨h1, hk _ (List.getElem_mem hi), fun k hk => asc_mem h2 k hk⟩
def decV (l : List GV) (s : ByteArray) : PV := if goodV l s = true then decF l s l.length 0 else .mk 0 0 ⟨#[]⟩ []
def decE (l : List GV) (s : ByteArray) : Int := if goodV l s = true then 0 else 4
theorem TLe.tup2 {a a' b : T1} (h : TLe (.o a) (.o a')) : TLe (.tup [a, b]) (.tup [a', b]) := fun ι S w v ⟨us, hu, h'⟩ => by
  obtain ⟨u1, us, rfl, e1, h'⟩ := h'.cons_left
  obtain ⟨u2, rfl, e2⟩ := h'.one_left
  exact ⟨_, hu, .cons (h ι S w _ e1) (.cons e2 .nil)⟩
section
variable (l : List GV) (s : ByteArray) (hl : l.length ≤ 100000) (hk : ∀ x ∈ l, x.ok) (hkk : ∀ x ∈ l, x.kids.length ≤ 100000) (hs : s.size ≤ 281474976706560)
include hl hk hkk hs
theorem Decode_c : CallsA Tryd.prog Γ0 8 [c1 (dviews l), c1 (ds s)] (.tup [gD (drow (decV l s)), c1 (di (decE l s))]) := by
  have hgc := good_c l s hl hk hkk hs
  unfold decV decE
  cases hg : goodV l s
  · rw [hg] at hgc
    rw [if_neg (by simp), if_neg (by simp), drow_mk]
    refine fn_rule (C := ⟨Tryd.prog, layF, Tryd.f8.ntmps, Γ0, 0, [], []⟩) layF_ok mixed Tryd.func8 rfl (by kernel_rfl) rfl rfl rfl ?_
    refine ex_call (hgc) ?_
    exact TLe.tup2 TLe.nil4
  · rw [hg] at hgc
    have hd := decode_c l s hl hk (goodV_Nice hg hkk) hs l.length 0 (goodV_nice hg).1 (by omega)
    rw [if_pos rfl, if_pos rfl]
    refine fn_rule (C := ⟨Tryd.prog, layF, Tryd.f8.ntmps, Γ0, 0, [], []⟩) layF_ok mixed Tryd.func8 rfl (by kernel_rfl) rfl rfl rfl ?_
    refine ex_call (hgc) ?_
    refine ex_call (hd) ?_
    exact TLe.rfl
theorem rDecode_c : CallsA Tryd.prog Γ0 9 [c1 (dviews l), c1 (ds s)] (.tup [gD (drow (decV l s)), c1 (di (decE l s))]) := by
  have hgc := rgood_c l s hl hk hkk hs
  rw [good_same] at hgc
  unfold decV decE
  cases hg : goodV l s
  · rw [hg] at hgc
    rw [if_neg (by simp), if_neg (by simp), drow_mk]
    refine fn_rule (C := ⟨Tryd.prog, layF, Tryd.f9.ntmps, Γ0, 0, [], []⟩) layF_ok mixed Tryd.func9 rfl (by kernel_rfl) rfl rfl rfl ?_
    refine ex_call (hgc) ?_
    exact TLe.tup2 TLe.nil4
  · rw [hg] at hgc
    have hd := rvalue_c l s hl hk (goodV_Nice hg hkk) hs l.length 0 (goodV_nice hg).1 (by omega)
    rw [if_pos rfl, if_pos rfl]
    refine fn_rule (C := ⟨Tryd.prog, layF, Tryd.f9.ntmps, Γ0, 0, [], []⟩) layF_ok mixed Tryd.func9 rfl (by kernel_rfl) rfl rfl rfl ?_
    refine ex_call (hgc) ?_
    refine ex_call (hd) ?_
    exact TLe.rfl
end
/-- A bound on what a view's value is made of: each kid stands behind its parent, and behind the kids ahead of it. -/
theorem numL_asc {n : Nat} (f : Int → PV) : ∀ (ks : List Int) (last : Int), -1 ≤ last → ascK n last ks → (∀ k ∈ ks, (f k).num ≤ 2 ^ (n - 1 - k.toNat)) → last < (n : Int) → numL (ks.map f) + 1 ≤ 2 ^ (n - 1 - last).toNat
  | [], last, _, _, _, _ => by
    simp only [List.map_nil, numL]
    exact Nat.one_le_two_pow
  | k :: ks, last, hl, ha, hf, hn => by
    obtain ⟨h1, h2, h3⟩ := ha
    have h4 := numL_asc f ks k (by omega) h3 (fun k' hk' => hf k' (by simp [hk'])) (by omega)
    have h5 := hf k (by simp)
    simp only [List.map_cons, numL]
    have e1 : (n - 1 - k).toNat = n - 1 - k.toNat := by omega
    rw [e1] at h4
    have h6 : 2 ^ (n - 1 - k.toNat + 1) ≤ 2 ^ (n - 1 - last).toNat := Nat.pow_le_pow_right (by omega) (by omega)
    rw [Nat.pow_succ] at h6
    omega
theorem decF_num {l : List GV} {s : ByteArray} (hg : goodV l s = true) : ∀ (m i : Nat), i < l.length → l.length ≤ i + m → (decF l s m i).num ≤ 2 ^ (l.length - 1 - i) := by
  intro m
  induction m with
  | zero => intro i h1 h2; omega
  | succ m ih =>
  intro i hil hm
  have hix : l[i]? = some l[i] := at_some hil
  have hasc := ((goodV_nice hg).2 i hil).2
  rw [decF_at hix, decX]
  have h1 : 1 ≤ 2 ^ (l.length - 1 - i) := Nat.one_le_two_pow
  split
  · simpa [PV.num, numL] using h1
  split
  · simpa [PV.num, numL] using h1
  split
  · simpa [PV.num, numL] using h1
  rw [PV.num]
  have := numL_asc (fun k => decF l s m k.toNat) l[i].kids i (by omega) hasc (fun k hk => ih k.toNat (by have := asc_mem hasc k hk; omega) (by have := asc_mem hasc k hk; omega)) (by omega)
  have e : ((l.length : Int) - 1 - i).toNat = l.length - 1 - i := by omega
  rw [e] at this
  omega
theorem decV_num (l : List GV) (s : ByteArray) (hl : l.length ≤ 60) : (decV l s).num ≤ 4611686018427387904 := by
  unfold decV
  split
  · rename_i hg
    have hp := (goodV_nice hg).1
    refine Nat.le_trans (decF_num hg l.length 0 hp (by omega)) ?_
    exact Nat.le_trans (Nat.pow_le_pow_right (by omega) (show l.length - 1 - 0 ≤ 62 by omega)) (by decide)
  · simp [PV.num, numL]
end Go.Proofs.YtaponjjdfcmbeaaDoor
