/- Values as data; what makes them; decode, value. Conditions: the views are sound, their kids come behind them. -/
import Derived.Test.YtaponjjdfcmbeaaDoorU3
import Derived.Test.YtaponjjdfcmbeaaDoorG1
namespace Go.Proofs.YtaponjjdfcmbeaaDoor
set_option linter.unusedVariables false
set_option linter.unusedSimpArgs false
open Go.RowKit
set_option maxRecDepth 100000

/-- A value as plain data. -/
inductive PV where
  | mk (k : Int) (n : Nat) (b : ByteArray) (l : List PV)
def PV.k : PV → Int | .mk k _ _ _ => k
def PV.n : PV → Nat | .mk _ n _ _ => n
def PV.b : PV → ByteArray | .mk _ _ b _ => b
def PV.l : PV → List PV | .mk _ _ _ l => l
instance : Inhabited PV := ⟨.mk 0 0 ⟨#[]⟩ []⟩
mutual
def dl : PV → D
  | .mk _ _ _ l => .sl 4 (dls l)
def dls : List PV → List (List D)
  | [] => []
  | t :: ts => [di t.k, du t.n, ds t.b, dl t] :: dls ts
end
def drow (t : PV) : List D := [di t.k, du t.n, ds t.b, dl t]
theorem dls_map : ∀ l : List PV, dls l = l.map drow
  | [] => rfl
  | t :: ts => by simp only [dls, List.map_cons, dls_map ts]; rfl
theorem dl_mk (k : Int) (n : Nat) (b : ByteArray) (l : List PV) : dl (.mk k n b l) = .sl 4 (l.map drow) := by rw [dl, dls_map]
theorem drow_mk (k : Int) (n : Nat) (b : ByteArray) (l : List PV) : drow (.mk k n b l) = [di k, du n, ds b, .sl 4 (l.map drow)] := by rw [drow, dl_mk]; rfl
/-- A struct whose last cell is a nil slice reads as one without elements. -/
theorem TLe.nil4 {a b c : D} {s : Nat} : TLe (.o (gD [a, b, c, dnil])) (.o (gD [a, b, c, .sl s []])) := fun ι S w v ⟨us, hu, h⟩ => by
  have h : All2 (VC ι S w) [.d a, .d b, .d c, .d dnil] us := h
  obtain ⟨u1, us, rfl, e1, h⟩ := h.cons_left
  obtain ⟨u2, us, rfl, e2, h⟩ := h.cons_left
  obtain ⟨u3, us, rfl, e3, h⟩ := h.cons_left
  obtain ⟨u4, rfl, e4⟩ := h.one_left
  exact ⟨_, hu, .cons e1 (.cons e2 (.cons e3 (.cons (CLe_nil e4) .nil)))⟩
theorem I_c (n : Nat) : CallsA Tryd.prog Γ0 34 [c1 (du n)] (.o (gD (drow (.mk 1 n ⟨#[]⟩ [])))) := by
  rw [drow_mk]
  refine fn_rule (C := ⟨Tryd.prog, layF, Tryd.f34.ntmps, Γ0, 0, [], []⟩) layF_ok mixed Tryd.func34 rfl (by kernel_rfl) rfl rfl rfl ?_
  exact TLe.nil4
theorem B_c (s : ByteArray) : CallsA Tryd.prog Γ0 33 [c1 (ds s)] (.o (gD (drow (.mk 2 0 s [])))) := by
  rw [drow_mk]
  refine fn_rule (C := ⟨Tryd.prog, layF, Tryd.f33.ntmps, Γ0, 0, [], []⟩) layF_ok mixed Tryd.func33 rfl (by kernel_rfl) rfl rfl rfl ?_
  exact TLe.nil4
theorem L_c (l : List PV) : CallsA Tryd.prog Γ0 35 [c1 (.sl 4 (l.map drow))] (.o (gD (drow (.mk 3 0 ⟨#[]⟩ l)))) := by
  rw [drow_mk]
  refine fn_rule (C := ⟨Tryd.prog, layF, Tryd.f35.ntmps, Γ0, 0, [], []⟩) layF_ok mixed Tryd.func35 rfl (by kernel_rfl) rfl rfl rfl ?_
  exact TLe.rfl
theorem R_c (l : List PV) : CallsA Tryd.prog Γ0 36 [c1 (.sl 4 (l.map drow))] (.o (gD (drow (.mk 4 0 ⟨#[]⟩ l)))) := by
  rw [drow_mk]
  refine fn_rule (C := ⟨Tryd.prog, layF, Tryd.f36.ntmps, Γ0, 0, [], []⟩) layF_ok mixed Tryd.func36 rfl (by kernel_rfl) rfl rfl rfl ?_
  exact TLe.rfl
/-- What a view shows, of what its kids show. -/
def decX (x : GV) (s : ByteArray) (ts : List PV) : PV := if x.kind = 3 then .mk 0 0 ⟨#[]⟩ [] else if x.kind = 2 then .mk 2 0 (Sp.textV x.at_ x.len s) [] else
  if x.kind = 0 ∨ x.kind = 1 then .mk 1 (numX x s).1 ⟨#[]⟩ [] else .mk (if x.kind = 5 then 3 else 4) 0 ⟨#[]⟩ ts
/-- What a good list's view shows: the value of view number at, so many levels deep. -/
def decF (l : List GV) (s : ByteArray) : Nat → Nat → PV
  | 0, _ => default
  | f + 1, at_ => match l[at_]? with
    | none => default
    | some x => decX x s (x.kids.map fun k => decF l s f k.toNat)
theorem decF_at {l : List GV} {s : ByteArray} {f i : Nat} {x : GV} (h : l[i]? = some x) : decF l s (f + 1) i = decX x s (x.kids.map fun k => decF l s f k.toNat) := by rw [decF, h]
def Nice (l : List GV) (s : ByteArray) : Prop := ∀ (i : Nat) (h : i < l.length), soundB l[i].kind l[i].at_ l[i].len l[i].beh l[i].wid s.size = true ∧ l[i].kids.length ≤ 100000 ∧ ∀ k ∈ l[i].kids, (i : Int) < k ∧ k < l.length
theorem sound_kind {k a l b m n : Int} (h : soundB k a l b m n = true) : 0 ≤ k ∧ k ≤ 5 := by
  unfold soundB at h
  split at h
  · cases h
  · omega
theorem sound_span {k a l b m n : Int} (h : soundB k a l b m n = true) : Sp.goodB a l n = true := by
  unfold soundB at h
  split at h
  · cases h
  · split at h
    · cases h
    · rename_i h2; simpa using h2
theorem take_map {α β : Type} (f : α → β) {l : List α} {q : Nat} (h : q < l.length) : (l.take (q + 1)).map f = (l.take q).map f ++ [f l[q]] := by
  rw [List.take_succ_eq_append_getElem h, List.map_append]; rfl
theorem decode_c (l : List GV) (s : ByteArray) (hl : l.length ≤ 100000) (hk : ∀ x ∈ l, x.ok) (hN : Nice l s) (hs : s.size ≤ 281474976706560) : ∀ (m at_ : Nat), at_ < l.length → l.length ≤ at_ + m →
    CallsA Tryd.prog Γ0 19 [c1 (dviews l), c1 (di at_), c1 (ds s)] (.o (gD (drow (decF l s m at_)))) := by
  intro m
  induction m with
  | zero => intro at_ h1 h2; omega
  | succ m ih =>
  intro i hil hm
  have hix : l[i]? = some l[i] := at_some hil
  obtain ⟨hsnd, hk1, hkids⟩ := hN i hil
  have hxk := hk l[i] (List.getElem_mem hil)
  rw [decF_at hix, decX]
  generalize l[i] = x at *
  have hkind := sound_kind hsnd
  by_cases h3 : x.kind = 3
  · rw [if_pos h3, drow_mk]
    refine fn_rule (C := ⟨Tryd.prog, layF, Tryd.f19.ntmps, Γ0, 0, [], []⟩) layF_ok mixed Tryd.func19 rfl (by kernel_rfl) rfl rfl rfl ?_
    refine ex_row i x rfl hix ?_
    refine ex_true (by omega) ?_
    exact TLe.nil4
  rw [if_neg h3]
  by_cases h2 : x.kind = 2
  · rw [if_pos h2]
    refine fn_rule (C := ⟨Tryd.prog, layF, Tryd.f19.ntmps, Γ0, 0, [], []⟩) layF_ok mixed Tryd.func19 rfl (by kernel_rfl) rfl rfl rfl ?_
    refine ex_row i x rfl hix ?_
    refine ex_false (by omega) ?_
    refine ex_true (by omega) ?_
    refine ex_call (text_c s hs x.at_ x.len hxk.2.1 hxk.2.2.1) ?_
    refine ex_call (B_c (Sp.textV x.at_ x.len s)) ?_
    exact TLe.rfl
  rw [if_neg h2]
  by_cases h01 : x.kind = 0 ∨ x.kind = 1
  · rw [if_pos h01]
    refine fn_rule (C := ⟨Tryd.prog, layF, Tryd.f19.ntmps, Γ0, 0, [], []⟩) layF_ok mixed Tryd.func19 rfl (by kernel_rfl) rfl rfl rfl ?_
    refine ex_row i x rfl hix ?_
    refine ex_false (by omega) ?_
    refine ex_false (by omega) ?_
    refine ex_dec (fun h0 => ?_) (fun h0 => ?_)
    ·
      refine ex_call (number_c x s hs hxk) ?_
      refine ex_call (I_c (numX x s).1) ?_
      exact TLe.rfl
    ·
      refine ex_true (by omega) ?_
      refine ex_call (number_c x s hs hxk) ?_
      refine ex_call (I_c (numX x s).1) ?_
      exact TLe.rfl
  rw [if_neg h01]
  obtain ⟨F, hF⟩ : ∃ F : Int → PV, ∀ k, decF l s m k.toNat = F k := ⟨_, fun _ => rfl⟩
  simp only [hF] at ih ⊢
  refine fn_rule (C := ⟨Tryd.prog, layF, Tryd.f19.ntmps, Γ0, 0, [], []⟩) layF_ok mixed Tryd.func19 rfl (by kernel_rfl) rfl rfl rfl ?_
  refine ex_row i x rfl hix ?_
  refine ex_false (by omega) ?_
  refine ex_false (by omega) ?_
  refine ex_false (by omega) ?_
  refine ex_false (by omega) ?_
  refine ex_is (x.kids.length) (by simp) ?_
  refine ex_loop (X := Nat) (fun q => ⟨[(0, .o (c1 (dviews l))), (2, .o (c1 (ds s))), (6, .o (.c (.ptr 0 0))), (7, .o (.c (.ptr 1 0))), (10, .o (.c (.row 2))), (41, .o (c1 (dints x.kids))), (42, Ti x.kids.length), (43, Ti q)], [(2, .row 4 31 (((x.kids.take q).map F).map drow)), (0, .obj [.d (di 0), .d (du 0), .d (ds ⟨#[]⟩), .d dnil]), (1, .obj ((vrow x).map .d))], 3⟩) (fun q => x.kids.length - q)
    (fun q => q ≤ x.kids.length) 0 (by omega) (SLe.trans (SLe.of ⟨⟨rfl, rfl, rfl, rfl, rfl, rfl, rfl, rfl, trivial⟩, ⟨rfl, rfl, rfl, trivial⟩⟩) (SLe.own 10 2 4 31 rfl rfl rfl rfl rfl)) ?_
  intro q hq
  refine ex_dec (fun h1 => ?_) (fun h1 => ?_)
  · have hqk : q < x.kids.length := by omega
    obtain ⟨hk2, hk3⟩ := hkids _ (List.getElem_mem hqk)
    refine ex_row (q) _ (by first | rfl | omega | simp) (at_some (hqk)) ?_
    obtain ⟨y, hy⟩ := Int.eq_ofNat_of_zero_le (show 0 ≤ x.kids[q] by omega)
    have hc := ih y (by omega) (by omega)
    have e : decF l s m y = F y := hF y
    rw [e] at hc
    rw [hy]
    refine ex_call (hc) ?_
    refine ex_app (q) (1) 1000 (by first | rfl | (simp; done) | (simp; omega)) (by first | rfl | (simp; done) | (simp; omega)) rfl (by omega) ?_
    refine ex_is (((x.kids.take (q + 1)).map F).map drow) (by rw [take_map F hqk, List.map_append, hy]; rfl) ?_
    refine ex_i64 (((q + 1 : Nat) : Int)) (by first | rfl | omega | simp) (by omega) (by omega) ?_
    exact ex_round (q + 1) (show q + 1 ≤ _ by omega) (by show _ - _ < _ - _; omega) (SLe.ren [(4, 2), (0, 0), (1, 1)] ⟨⟨rfl, rfl⟩, ⟨rfl, rfl⟩, ⟨rfl, rfl⟩, ⟨rfl, rfl⟩, ⟨rfl, rfl⟩, ⟨rfl, rfl⟩, ⟨rfl, rfl⟩, ⟨rfl, rfl⟩, trivial⟩ ⟨⟨rfl, rfl⟩, ⟨rfl, rfl⟩, ⟨rfl, rfl⟩, trivial⟩ rfl)
  · obtain rfl : q = x.kids.length := by omega
    refine ex_dec (fun h5 => ?_) (fun h5 => ?_)
    ·
      refine ex_call (L_c ((x.kids.take x.kids.length).map F)) ?_
      exact TLe.eq (by rw [if_pos h5, List.take_length]; rfl)
    ·
      refine ex_call (R_c ((x.kids.take x.kids.length).map F)) ?_
      exact TLe.eq (by rw [if_neg h5, List.take_length]; rfl)
theorem rvalue_c (l : List GV) (s : ByteArray) (hl : l.length ≤ 100000) (hk : ∀ x ∈ l, x.ok) (hN : Nice l s) (hs : s.size ≤ 281474976706560) : ∀ (m at_ : Nat), at_ < l.length → l.length ≤ at_ + m →
    CallsA Tryd.prog Γ0 20 [c1 (dviews l), c1 (di at_), c1 (ds s)] (.o (gD (drow (decF l s m at_)))) := by
  intro m
  induction m with
  | zero => intro at_ h1 h2; omega
  | succ m ih =>
  intro i hil hm
  have hix : l[i]? = some l[i] := at_some hil
  obtain ⟨hsnd, hk1, hkids⟩ := hN i hil
  have hxk := hk l[i] (List.getElem_mem hil)
  rw [decF_at hix, decX]
  generalize l[i] = x at *
  have hkind := sound_kind hsnd
  by_cases h3 : x.kind = 3
  · rw [if_pos h3, drow_mk]
    refine fn_rule (C := ⟨Tryd.prog, layF, Tryd.f20.ntmps, Γ0, 0, [], []⟩) layF_ok mixed Tryd.func20 rfl (by kernel_rfl) rfl rfl rfl ?_
    refine ex_row i x rfl hix ?_
    refine ex_true (by omega) ?_
    exact TLe.nil4
  rw [if_neg h3]
  by_cases h2 : x.kind = 2
  · rw [if_pos h2, drow_mk]
    have hg := sound_span hsnd
    have ht : Sp.textV x.at_ x.len s = s.extract x.at_.toNat (x.at_ + x.len).toNat := by rw [Sp.textV, if_pos hg]
    have hin := (Sp.goodB_iff _ _ _).1 hg
    rw [ht]
    refine fn_rule (C := ⟨Tryd.prog, layF, Tryd.f20.ntmps, Γ0, 0, [], []⟩) layF_ok mixed Tryd.func20 rfl (by kernel_rfl) rfl rfl rfl ?_
    refine ex_row i x rfl hix ?_
    refine ex_false (by omega) ?_
    refine ex_true (by omega) ?_
    refine ex_i64 (x.at_ + x.len) (by first | rfl | omega | simp) (by omega) (by omega) ?_
    refine ⟨by omega, by omega, by omega, ?_⟩
    exact TLe.nil4
  rw [if_neg h2]
  by_cases h01 : x.kind = 0 ∨ x.kind = 1
  · rw [if_pos h01, drow_mk]
    refine fn_rule (C := ⟨Tryd.prog, layF, Tryd.f20.ntmps, Γ0, 0, [], []⟩) layF_ok mixed Tryd.func20 rfl (by kernel_rfl) rfl rfl rfl ?_
    refine ex_row i x rfl hix ?_
    refine ex_false (by omega) ?_
    refine ex_false (by omega) ?_
    refine ex_true (by omega) ?_
    refine ex_call (rnumber_c x s hs hxk) ?_
    exact TLe.nil4
  rw [if_neg h01]
  obtain ⟨F, hF⟩ : ∃ F : Int → PV, ∀ k, decF l s m k.toNat = F k := ⟨_, fun _ => rfl⟩
  simp only [hF] at ih ⊢
  obtain ⟨K, hK⟩ : ∃ K : Int, (if x.kind = 5 then 3 else 4) = K := ⟨_, rfl⟩
  rw [hK, drow_mk]
  refine fn_rule (C := ⟨Tryd.prog, layF, Tryd.f20.ntmps, Γ0, 0, [], [12]⟩) layF_ok mixed Tryd.func20 rfl (by kernel_rfl) rfl rfl rfl ?_
  refine ex_row i x rfl hix ?_
  refine ex_false (by omega) ?_
  refine ex_false (by omega) ?_
  refine ex_false (by omega) ?_
  refine ex_join (X := Unit) (fun _ => ⟨[(0, .o (c1 (dviews l))), (2, .o (c1 (ds s))), (6, .o (.c (.ptr 0 0))), (7, .o (.c (.ptr 1 0))), (10, .o (.c (.ptr 2 0)))], [(0, .obj [.d (di 0), .d (du 0), .d (ds ⟨#[]⟩), .d dnil]), (1, .obj ((vrow x).map .d)), (2, .obj [.d (di K), .d (du 0), .d (ds ⟨#[]⟩), .d dnil])], 3⟩) (fun _ => True) ?_ ?_
  · refine ex_dec (fun h5 => ?_) (fun h5 => ?_)
    · rw [if_pos h5] at hK
      subst hK
      exact ex_meet () trivial (SLe.of ⟨⟨rfl, rfl, rfl, rfl, rfl, trivial⟩, ⟨rfl, rfl, rfl, trivial⟩⟩)
    · rw [if_neg h5] at hK
      subst hK
      exact ex_meet () trivial (SLe.of ⟨⟨rfl, rfl, rfl, rfl, rfl, trivial⟩, ⟨rfl, rfl, rfl, trivial⟩⟩)
  rintro ⟨⟩ -
  refine ex_loop (X := Nat) (fun q => ⟨[(0, .o (c1 (dviews l))), (2, .o (c1 (ds s))), (6, .o (.c (.ptr 0 0))), (7, .o (.c (.ptr 1 0))), (10, .o (.c (.ptr 2 0))), (11, Ti q)], [(2, .obj [.d (di K), .d (du 0), .d (ds ⟨#[]⟩), .row 3]), (3, .row 4 37 (((x.kids.take q).map F).map drow)), (0, .obj [.d (di 0), .d (du 0), .d (ds ⟨#[]⟩), .d dnil]), (1, .obj ((vrow x).map .d))], 4⟩) (fun q => x.kids.length - q)
    (fun q => q ≤ x.kids.length) 0 (by omega) (SLe.trans (SLe.of ⟨⟨rfl, rfl, rfl, rfl, rfl, rfl, trivial⟩, ⟨rfl, rfl, rfl, rfl, trivial⟩⟩) (SLe.ownCell 2 3 3 4 37 rfl rfl rfl rfl rfl rfl)) ?_
  intro q hq
  refine ex_is (x.kids.length) (by simp) ?_
  refine ex_dec (fun h1 => ?_) (fun h1 => ?_)
  · have hqk : q < x.kids.length := by omega
    obtain ⟨hk2, hk3⟩ := hkids _ (List.getElem_mem hqk)
    refine ex_row (q) _ (by first | rfl | omega | simp) (at_some (hqk)) ?_
    obtain ⟨y, hy⟩ := Int.eq_ofNat_of_zero_le (show 0 ≤ x.kids[q] by omega)
    have hc := ih y (by omega) (by omega)
    have e : decF l s m y = F y := hF y
    rw [e] at hc
    rw [hy]
    refine ex_call (hc) ?_
    refine ex_app (q) (1) 1000 (by first | rfl | (simp; done) | (simp; omega)) (by first | rfl | (simp; done) | (simp; omega)) rfl (by omega) ?_
    refine ex_is (((x.kids.take (q + 1)).map F).map drow) (by rw [take_map F hqk, List.map_append, hy]; rfl) ?_
    refine ex_i64 (((q + 1 : Nat) : Int)) (by first | rfl | omega | simp) (by omega) (by omega) ?_
    exact ex_round (q + 1) (show q + 1 ≤ _ by omega) (by show _ - _ < _ - _; omega) (SLe.ren [(6, 3), (0, 0), (1, 1), (2, 2)] ⟨⟨rfl, rfl⟩, ⟨rfl, rfl⟩, ⟨rfl, rfl⟩, ⟨rfl, rfl⟩, ⟨rfl, rfl⟩, ⟨rfl, rfl⟩, trivial⟩ ⟨⟨rfl, rfl⟩, ⟨rfl, rfl⟩, ⟨rfl, rfl⟩, ⟨rfl, rfl⟩, trivial⟩ rfl)
  · obtain rfl : q = x.kids.length := by omega
    exact TLe.eq (by rw [List.take_length]; rfl)
end Go.Proofs.YtaponjjdfcmbeaaDoor
