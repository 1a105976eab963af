/- What single operations do to the abstract state: slices made, appends, calls. No condition. -/
import Derived.Test.YtkeehnhamkdogaaDoorE6
namespace Go.Proofs.YtkeehnhamkdogaaDoor
set_option linter.unusedVariables false
set_option linter.unusedSimpArgs false
open Go.RowKit

section
variable {P : Program} {Γ : Glob} {L : Nat → Option Lay} {o : Oper} {ev : Operand → Option TV} {mem : Nat → Option Blk} {nx : Nat} {K : Res → Prop}

/-! ### Slices made -/
def chunk {α : Type} (size : Nat) : Nat → List α → List (List α)
  | 0, _ => []
  | n + 1, l => l.take size :: chunk size n (l.drop size)
theorem chunk_len {α : Type} {size : Nat} : ∀ (n : Nat) (l : List α), (chunk size n l).length = n
  | 0, _ => rfl
  | n + 1, l => by simp [chunk, chunk_len n]
theorem chunk_row {α : Type} {size : Nat} : ∀ (n : Nat) (l : List α), l.length = n * size → ∀ r ∈ chunk size n l, r.length = size
  | 0, _, _, r, h => by simp [chunk] at h
  | n + 1, l, hl, r, h => by
    simp only [chunk, List.mem_cons] at h
    rw [Nat.add_mul, Nat.one_mul] at hl
    rcases h with rfl | h
    · simp; omega
    · exact chunk_row n (l.drop size) (by simp; omega) r h
theorem chunk_flat {α : Type} {size : Nat} : ∀ (n : Nat) (l : List α), l.length = n * size → (chunk size n l).flatten = l
  | 0, l, hl => by have : l = [] := List.eq_nil_of_length_eq_zero (by simpa using hl); simp [chunk, this]
  | n + 1, l, hl => by
    rw [Nat.add_mul, Nat.one_mul] at hl
    simp only [chunk, List.flatten_cons]
    rw [chunk_flat n (l.drop size) (by simp; omega), List.take_append_drop]
theorem rep_row {α : Type} {n : Nat} {z : List α} : ∀ r ∈ List.replicate n z, r.length = z.length := fun r hr => by rw [(List.mem_replicate.1 hr).2]
theorem made_list (z : Array Value) (n : Nat) (hz : 0 < z.size) : (madeCells z (n * z.size)).toList = (List.replicate n z.toList).flatten := by
  apply List.ext_getElem?
  intro j
  by_cases hj : j < n * z.size
  · have hd : j / z.size < n := (Nat.div_lt_iff_lt_mul hz).2 hj
    have hm : j % z.size < z.size := Nat.mod_lt _ hz
    have h := flatten_get (rows := List.replicate n z.toList) rep_row (i := j / z.size) (j := j % z.size) (r := z.toList) (d := z[j % z.size]) (by simp [hd]) (by simp [hm])
    rw [Array.length_toList, Nat.div_add_mod'] at h
    rw [h]
    simp [madeCells, hj, hm]
  · rw [List.getElem?_eq_none (by simp [madeCells]; omega), List.getElem?_eq_none (by rw [flatten_len rep_row]; simp; omega)]
def exBuildSlice (L : Nat → Option Lay) (ev : Operand → Option TV) (mem : Nat → Option Blk) (nx : Nat) (t : TypeId) (len : Nat) (ps : Array (Nat × Operand)) (K : Res → Prop) : Prop :=
  match L t with
  | some ⟨_, _, _, .sl e⟩ => match L e with
    | some le => match Nat.ble (len * le.size) 16777216, Nat.blt 0 (len * le.size), Nat.beq le.zero.length le.size, le.zero.all Value.oneCell' with
      | true, true, true, true => match fillC (fun i => some (i * le.size, le.size)) ((List.replicate len le.zero).flatten.map fun x => .d (.v x)) (evParts ev ps) with
        | some cs => match eat mem cs with
          | some (ds, ks) => match Nat.beq ds.length (len * le.size) with
            | true => K ⟨.o (.c (.row nx)), ks, dead ks, [.row le.size e (chunk le.size len ds)]⟩
            | false => False
          | none => False
        | none => False
      | _, _, _, _ => False
    | none => False
  | _ => False
theorem exBuildSlice_ok (hL : LOk P L) {t : TypeId} {len : Nat} {ps : Array (Nat × Operand)} (ho : o.op = .buildSlice t len ps) (h : exBuildSlice L ev mem nx t len ps K) : ∃ r, Spec P Γ o ev mem nx r ∧ K r := by
  have hops : ∀ {ι S A w}, Ops o ev ι S A w → ∀ x ∈ ps.toList.map (·.2), ∀ tv, ev x = some tv → V ι S w tv (A.eval x) := fun q1 x hx => q1 x (by simpa [ho, Op.operands] using hx)
  unfold exBuildSlice at h
  split at h
  · rename_i e hl
    have hu := ((layOf_ok (hL _ _ hl)).under rfl).1 e rfl
    split at h
    · rename_i le hle
      split at h
      · rename_i hb1 hb2 hb3 hone
        have e1 := Nat.le_of_ble_eq_true hb1
        have e2 : 0 < len * le.size := Nat.lt_of_succ_le (Nat.le_of_ble_eq_true hb2)
        have e3 := Nat.eq_of_beq_eq_true hb3
        split at h
        · rename_i cs hf
          split at h
          · rename_i ds ks hds
            split at h
            · rename_i hdl
              have e4 := Nat.eq_of_beq_eq_true hdl
              obtain ⟨i, d, z, h1, h2, h3, h4, h5, h6, h7⟩ := (layOf_ok (hL _ _ hle)).ex
              have hzs : z.cells.size = le.size := by rw [← e3, ← h6]; simp
              refine ⟨_, spec_gen fun ι S A w hs q1 q2 => ?_, h⟩
              have hpos : 0 < z.cells.size := by rw [hzs]; exact Nat.pos_of_mul_pos_left e2
              have hz0 : All2 (VC ι S w) ((List.replicate len le.zero).flatten.map fun x => CV.d (.v x)) (madeCells z.cells (len * z.cells.size)).toList := by
                rw [made_list z.cells len hpos, h6]
                refine All2.map_left ⟨rfl, fun i a b ha hb => by
                  rw [ha] at hb; cases hb
                  refine Imm.v ?_
                  obtain ⟨l, hl1, hl2⟩ := List.mem_flatten.1 (List.mem_of_getElem? ha)
                  rw [(List.mem_replicate.1 hl1).2] at hl2
                  exact List.all_eq_true.1 hone a hl2⟩
              obtain ⟨arr', f1, f2⟩ := fill_ok (arr := madeCells z.cells (len * z.cells.size)) (ι := ι) (S := S) (w := w) hf hz0 (parts_ok (A := A) (hops q1))
              have hlen : arr'.size = len * le.size := by
                have := (eat_ok (S' := giveUp ι S ks) (fun b hb => .inl hb) hds f2 (fun k hk b hb => q2 k hk b hb) (fun k hk g hg => .inr ⟨k, hk, hg⟩)).len
                simp at this
                omega
              have hrows : ∀ k ∈ ks, ∃ size e rows, BlkOk ι S w k (.row size e rows) := fun k hk => by
                obtain ⟨size, e', rows, hr⟩ := eat_rows hds k hk
                exact ⟨size, e', rows, q2 k hk _ hr⟩
              have hall := eat_ok (S' := giveUp ι S ks) (fun b hb => .inl hb) hds f2 (fun k hk b hb => q2 k hk b hb) (fun k hk g hg => .inr ⟨k, hk, hg⟩)
              have hglt : ∀ b, giveUp ι S ks b → b < w.heap.size := fun b hb => by
                rcases hb with hb | ⟨k, hk, hb⟩
                · exact hs b hb
                · obtain ⟨size, e', rows, hr⟩ := hrows k hk
                  exact (row_lt hr b hb).1
              refine ⟨.slice (some ⟨w.heap.size, 0, none⟩) len len, w.alloc (.cells arr' e), _, _, .inl ?_, After.made (X := .slice (some ⟨w.heap.size, 0, none⟩) len len) hs hrows rfl ?_ ?_⟩
              · have hf1 : Instr.fill (fun i_1 => some (i_1 * i.size, i.size)) ((Array.range (len * i.size)).map (z.cells[· % z.cells.size]!)) (ps.map fun (i, x) => (i, A.eval x)).toList = some arr' := by
                  rw [h3, ← f1, ← hzs]; rfl
                have := run_buildSlice w t e len (ps.map fun (i, x) => (i, A.eval x)) arr' i z hu h1 h5 (by rw [h3]; omega) (by rw [h3]; omega) hf1
                simp only [execOp, ho]
                rw [Sem.run_bind, this]
                rfl
              · refine ⟨arr'.toList, ?_, ?_, chunk_row _ _ e4, fun b hb hS => ?_⟩
                · simp only [if_true]
                  have := World.ownsRow_lit (base := 0) (e := e) (size := le.size) w arr' len (Nat.zero_le _) (by unfold maxLen; have := Nat.pos_of_mul_pos_left e2; have := Nat.le_mul_of_pos_right len this; omega) hlen
                  rw [chunk_len]
                  exact this
                · rw [chunk_flat _ _ e4]
                  exact hall.mono fun a u hau => hau.mono (fun b hb => heap_alloc_old w _ (hglt b hb)) (fun _ h => h)
                · simp only [if_true, blkOf, Option.some.injEq] at hb
                  subst hb
                  have := hglt _ hS
                  omega
              · exact ⟨by simp, _, _, _, rfl⟩
            · exact h.elim
          · exact h.elim
        · exact h.elim
      · exact h.elim
    · exact h.elim
  · exact h.elim
def exMake (L : Nat → Option Lay) (ev : Operand → Option TV) (nx : Nat) (t : TypeId) (l c : Operand) (K : Res → Prop) : Prop :=
  match L t, ev l, ev c with
  | some ⟨_, _, _, .sl e⟩, some (.o (.c (.d (.v (.int _ n))))), some (.o (.c (.d (.v (.int _ m))))) => match L e with
    | some le => match Nat.blt 0 le.size, Nat.beq le.zero.length le.size, le.zero.all Value.oneCell' with
      | true, true, true => n = m ∧ 0 ≤ n ∧ n.toNat * (le.bytes + 1) ≤ 140737488355328 ∧ ∃ rows', List.replicate n.toNat (le.zero.map D.v) = rows' ∧ K ⟨.o (.c (.row nx)), [], [], [.row le.size e rows']⟩
      | _, _, _ => False
    | none => False
  | _, _, _ => False
theorem exMake_ok (hL : LOk P L) {t : TypeId} {l c : Operand} (ho : o.op = .makeSlice t l c) (h : exMake L ev nx t l c K) : ∃ r, Spec P Γ o ev mem nx r ∧ K r := by
  unfold exMake at h
  split at h
  · rename_i e kn n km m hl hn hm
    have hu := ((layOf_ok (hL _ _ hl)).under rfl).1 e rfl
    split at h
    · rename_i le hle
      split at h
      · rename_i hb1 hb3 hone
        have e2 : 0 < le.size := Nat.lt_of_succ_le (Nat.le_of_ble_eq_true hb1)
        have e3 := Nat.eq_of_beq_eq_true hb3
        obtain ⟨rfl, h0, hbytes, rows', rfl, h⟩ := h
        obtain ⟨i, d, z, h1, h2, h3, h4, h5, h6, h7⟩ := (layOf_ok (hL _ _ hle)).ex
        have hzs : z.cells.size = le.size := by rw [← e3, ← h6]; simp
        obtain ⟨n, rfl⟩ := Int.eq_ofNat_of_zero_le h0
        simp only [Int.toNat_natCast] at hbytes h
        refine ⟨_, spec_gen fun ι S A w hs q1 q2 => ?_, h⟩
        have el := V_v (q1 l (by simp [ho, Op.operands]) _ hn)
        have ec := V_v (q1 c (by simp [ho, Op.operands]) _ hm)
        have hr := run_make (P := P) w t e i z hu h1 h5 kn km n n (by omega) (Int.le_refl _) (by
          rw [h4]
          have : n * (le.bytes + 1) = le.bytes * n + n := by rw [Nat.mul_add, Nat.mul_one, Nat.mul_comm]
          have h' : ((le.bytes * n : Nat) : Int) ≤ 281474976710656 := by omega
          rwa [Int.natCast_mul] at h') (by
          have : n * (le.bytes + 1) = le.bytes * n + n := by rw [Nat.mul_add, Nat.mul_one, Nat.mul_comm]
          omega)
        simp only [Int.toNat_natCast] at hr
        have := After.made (nx := nx) (ι := ι) (S := S) (w := w) (v := .o (.c (.row nx))) (rd := []) (ks := []) (b := .row le.size e (List.replicate n (le.zero.map .v))) (O := .cells (madeCells z.cells (n * i.size)) e) (X := .slice (some ⟨w.heap.size, 0, none⟩) n n) (x := .slice (some ⟨w.heap.size, 0, none⟩) n n) hs (by simp) rfl
        rw [giveUp_nil] at this
        refine ⟨.slice (some ⟨w.heap.size, 0, none⟩) n n, w.alloc (.cells (madeCells z.cells (n * i.size)) e), _, S, .inl ?_, this ?_ ⟨by simp, _, _, _, rfl⟩⟩
        · simp only [execOp, ho, el, ec]
          rw [Sem.run_bind, hr]
          rfl
        · have hmd : (madeCells z.cells (n * i.size)).toList = (List.replicate n le.zero).flatten := by rw [h3, ← hzs, made_list _ _ (by rw [hzs]; exact e2), h6]
          refine ⟨(madeCells z.cells (n * i.size)).toList, ?_, ?_, fun r hr => by rw [(List.mem_replicate.1 hr).2]; simp [e3], fun b hb hS => ?_⟩
          · simp only [if_true, List.length_replicate]
            exact World.ownsRow_lit (base := 0) (e := e) (size := le.size) w _ n (Nat.zero_le _) (by
              unfold maxLen
              have : n * (le.bytes + 1) = le.bytes * n + n := by rw [Nat.mul_add, Nat.mul_one, Nat.mul_comm]
              omega) (by rw [h3]; simp [madeCells])
          · rw [hmd]
            have : (List.replicate n (le.zero.map D.v)).flatten = (List.replicate n le.zero).flatten.map D.v := by rw [List.map_flatten, List.map_replicate]
            rw [this]
            refine All2.map_left ⟨rfl, fun i a b ha hb => by
              rw [ha] at hb; cases hb
              refine Imm.v ?_
              obtain ⟨l, hl1, hl2⟩ := List.mem_flatten.1 (List.mem_of_getElem? ha)
              rw [(List.mem_replicate.1 hl1).2] at hl2
              exact List.all_eq_true.1 hone a hl2⟩
          · simp only [if_true, blkOf, Option.some.injEq] at hb
            subst hb
            have := hs _ hS
            omega
      · exact h.elim
    · exact h.elim
  · exact h.elim

/-! ### Appends -/
/-- The rows that an append lays behind. -/
def srcRows (ev : Operand → Option TV) (mem : Nat → Option Blk) (size : Nat) (x : Operand) : Option (List (List D) × List Nat) :=
  match ev x with
  | some (.o (.c (.row k))) => match mem k with
    | some (.row size' _ rows) => if size' = size then some (rows, [k]) else none
    | _ => none
  | some (.o (.c (.d (.sl size' rows)))) => if size' = size then some (rows, []) else none
  | some (.o (.c (.d (.v (.slice none 0 0))))) => some ([], [])
  | _ => none
def dstRows (ev : Operand → Option TV) (mem : Nat → Option Blk) (size : Nat) (e : TypeId) (s : Operand) : Option (List (List D) × List Nat) :=
  match ev s with
  | some (.o (.c (.row k))) => match mem k with
    | some (.row size' e' rows) => if size' = size ∧ e' = e then some (rows, [k]) else none
    | _ => none
  | some (.o (.c (.d (.v (.slice none 0 0))))) => some ([], [])
  | _ => none
theorem srcRows_ok {size : Nat} {x : Operand} {rows : List (List D)} {ks : List Nat} (h : srcRows ev mem size x = some (rows, ks)) {ι : Nat → Value} {S : Nat → Prop} {w : World} {A : Act} (hx : ∀ tv, ev x = some tv → V ι S w tv (A.eval x))
    (hk : ∀ k ∈ ks, ∀ b, mem k = some b → BlkOk ι S w k b) :
    (rows = [] ∧ A.eval x = .slice none 0 0) ∨ ∃ (a : Addr) (c : Nat) (us : List Value), A.eval x = .slice (some a) rows.length c ∧ (∀ j u, us[j]? = some u → w.cell? (a.add j) = some u) ∧ All2 (Imm S w) rows.flatten us ∧ ∀ r ∈ rows, r.length = size := by
  unfold srcRows at h
  split at h
  · rename_i k hev
    split at h
    · rename_i size' e' rows' hm
      split at h
      · rename_i hsz
        subst hsz
        simp only [Option.some.injEq, Prod.mk.injEq] at h
        obtain ⟨rfl, rfl⟩ := h
        obtain ⟨he, _⟩ := hx _ hev
        obtain ⟨cs, h1, h2, h3, h4⟩ := hk k (by simp) _ hm
        rcases h1.2 with ⟨h5, h6⟩ | ⟨g, cap, cur, h5, _, h6, _⟩
        · exact .inl ⟨List.eq_nil_of_length_eq_zero h6, he.trans h5⟩
        · exact .inr ⟨⟨g, 0, none⟩, cap, cs, he.trans h5, fun j u hj => h1.cells (g := g) (by rw [h5]; rfl) j u hj, h2, h3⟩
      · cases h
    · cases h
  · rename_i size' rows' hev
    split at h
    · rename_i hsz
      subst hsz
      simp only [Option.some.injEq, Prod.mk.injEq] at h
      obtain ⟨rfl, rfl⟩ := h
      have hI : Imm S w _ _ := hx _ hev
      generalize A.eval x = u at hI
      cases hI with
      | nil => exact .inl ⟨rfl, rfl⟩
      | sl0 => exact .inr ⟨_, _, [], rfl, (fun j u hj => by simp at hj), .nil, by simp⟩
      | sl us hs hc hr h1 h2 =>
        rename_i g f cap
        refine .inr ⟨⟨g, f, none⟩, cap, (List.range rows'.flatten.length).map us, rfl, fun j u hj => ?_, ⟨by simp, fun i d u hd hu => ?_⟩, hr⟩
        · obtain ⟨hj1, hj2⟩ := List.getElem?_eq_some_iff.1 hj
          simp only [List.length_map, List.length_range] at hj1
          simp at hj2
          subst hj2
          rw [Addr.add_lit]
          exact h1 j _ (List.getElem?_eq_getElem hj1)
        · obtain ⟨hj1, hj2⟩ := List.getElem?_eq_some_iff.1 hu
          simp at hj2
          subst hj2
          exact h2 i d hd
    · cases h
  · simp only [Option.some.injEq, Prod.mk.injEq] at h
    obtain ⟨rfl, rfl⟩ := h
    rename_i hev
    exact .inl ⟨rfl, V_v (hx _ hev)⟩
  · cases h
theorem dstRows_ok {size : Nat} {e : TypeId} {x : Operand} {rows : List (List D)} {ks : List Nat} (h : dstRows ev mem size e x = some (rows, ks)) {ι : Nat → Value} {S : Nat → Prop} {w : World} {A : Act} (hx : ∀ tv, ev x = some tv → V ι S w tv (A.eval x))
    (hk : ∀ k ∈ ks, ∀ b, mem k = some b → BlkOk ι S w k b) :
    ∃ xs, w.ownsRow 0 e size (A.eval x) rows.length xs ∧ All2 (Imm S w) rows.flatten xs ∧ (∀ r ∈ rows, r.length = size) ∧ (∀ g, blkOf (A.eval x) = some g → ¬ S g ∧ ∃ k ∈ ks, blkOf (ι k) = some g) := by
  unfold dstRows at h
  split at h
  · rename_i k hev
    split at h
    · rename_i size' e' rows' hm
      split at h
      · rename_i hsz
        obtain ⟨rfl, rfl⟩ := hsz
        simp only [Option.some.injEq, Prod.mk.injEq] at h
        obtain ⟨rfl, rfl⟩ := h
        obtain ⟨he, _⟩ := hx _ hev
        obtain ⟨cs, h1, h2, h3, h4⟩ := hk k (by simp) _ hm
        rw [he]
        exact ⟨cs, h1, h2, h3, fun g hg => ⟨h4 g hg, k, by simp, hg⟩⟩
      · cases h
    · cases h
  · simp only [Option.some.injEq, Prod.mk.injEq] at h
    obtain ⟨rfl, rfl⟩ := h
    rename_i hev
    rw [V_v (hx _ hev)]
    exact ⟨[], World.ownsRow_nil w _ _ _, .nil, by simp, fun g hg => by cases hg⟩
  · cases h
theorem base0 {w : World} {base : Nat} {e : TypeId} {size : Nat} {v : Value} {n : Nat} {xs : List Value} (h : w.ownsRow base e size v n xs) : w.ownsRow 0 e size v n xs := by
  refine ⟨h.1, ?_⟩
  rcases h.2 with h2 | ⟨g, cap, cur, rfl, h3, h4⟩
  · exact Or.inl h2
  · exact Or.inr ⟨g, cap, cur, rfl, Nat.zero_le _, h4⟩
/-- An append to an own row: the row's block is the old one, or one that is new. -/
theorem run_append_row (w : World) (t ty e : TypeId) (i : TypeInfo) (z : Value) (size bytes : Nat) (ht : P.underlying t = some (.slice e)) (hi : P.info? e = some i) (hz : i.zero = some z)
    (hsize : i.size = size) (hby : i.bytes = bytes) (hzs : z.cells.size = size) (hsz : 0 < size) (v : Value) (n : Nat) (xs : List Value) (hown : w.ownsRow 0 e size v n xs)
    (ad : Addr) (m c : Nat) (news : List Value) (hl : news.length = m * size) (hnews : ∀ j u, news[j]? = some u → w.cell? (ad.add j) = some u) (h1 : ∀ u ∈ news, u.oneCell' = true)
    (h63 : n + m ≤ maxLen) (hbytes : (n + m) * bytes ≤ 140737488355328) :
    ∃ v' w', (Builtin.append_ #[t, t] ty #[v, .slice (some ad) m c]).run P w = .ok v' w' ∧ w'.ownsRow 0 e size v' (n + m) (xs ++ news) ∧ w.grownBy w' v.ownBlock ∧ (v'.ownBlock = v.ownBlock ∨ ∀ g, v'.ownBlock = some g → w.heap.size ≤ g) := by
  rcases hown.2 with ⟨rfl, rfl⟩ | ⟨g, cap, cur, rfl, hg, hgg, hnc, hcm, hcs, htk⟩
  · have hx : xs = [] := List.eq_nil_of_length_eq_zero (by simpa using hown.1)
    subst hx
    obtain ⟨v', w', hr, h2, h3, _⟩ := run_append_own (P := P) w w.heap.size t ty e i z size bytes ht hi hz hsize hby hzs hsz (.slice none 0 0) 0 [] (World.ownsRow_nil w _ e size) ad m c news hl hnews h1 h63 hbytes (Nat.le_refl _)
    exact ⟨v', w', hr, base0 h2, h3, Or.inr fun g hg => (h2.lt g hg).1⟩
  · by_cases hf : n + m ≤ cap
    · obtain ⟨w', hr, h2, h3⟩ := run_append_fits (P := P) w 0 t ty e i size ht hi hsize g n cap xs hown ad m c news hl hnews h1 hf
      exact ⟨_, w', hr, h2, h3, Or.inl rfl⟩
    · obtain ⟨v', w', hr, h2, h3⟩ := run_append_arg_grows (P := P) w t ty e i z size bytes ht hi hz hsize hby hzs hsz ⟨g, 0, none⟩ n cap xs hown.1 (fun j u hj => hown.cells rfl j u hj) ad m c news hl hnews (by omega) h63 hbytes
      exact ⟨v', w', hr, base0 h2, ⟨h3.os, h3.tape, h3.output, h3.size, fun k hk _ => h3.block k hk (by simp)⟩, Or.inr fun g hg => (h2.lt g hg).1⟩
theorem own_blk {w : World} {base : Nat} {e : TypeId} {size : Nat} {v : Value} {n : Nat} {xs : List Value} (h : w.ownsRow base e size v n xs) : blkOf v = v.ownBlock ∧ ∃ o n c, v = .slice o n c := by
  rcases h.2 with ⟨rfl, _⟩ | ⟨g, cap, cur, rfl, _⟩
  · exact ⟨rfl, _, _, _, rfl⟩
  · exact ⟨rfl, _, _, _, rfl⟩
def exAppend (L : Nat → Option Lay) (ev : Operand → Option TV) (mem : Nat → Option Blk) (nx : Nat) (t : TypeId) (s x : Operand) (K : Res → Prop) : Prop :=
  match L t with
  | some ⟨_, _, _, .sl e⟩ => match L e with
    | some le => match Nat.blt 0 le.size, Nat.beq le.zero.length le.size, dstRows ev mem le.size e s, srcRows ev mem le.size x with
      | true, true, some (r1, k1), some (r2, k2) => (r1.length + r2.length) * (le.bytes + 1) ≤ 140737488355328 ∧ ∃ rows', r1 ++ r2 = rows' ∧ K ⟨.o (.c (.row nx)), k1 ++ k2, dead k1, [.row le.size e rows']⟩
      | _, _, _, _ => False
    | none => False
  | _ => False
theorem exAppend_ok (hL : LOk P L) {t : TypeId} {s x : Operand} {ts : Array TypeId} (ho : o.op = .call { callee := .builtin .append, args := #[s, x], argTypes := ts }) (hts : ts = #[t, t]) (h : exAppend L ev mem nx t s x K) : ∃ r, Spec P Γ o ev mem nx r ∧ K r := by
  subst hts
  have hsm : s ∈ o.op.operands := by simp [ho, Op.operands, Call.operands]
  have hxm : x ∈ o.op.operands := by simp [ho, Op.operands, Call.operands]
  unfold exAppend at h
  split at h
  · rename_i e hl
    have hu := ((layOf_ok (hL _ _ hl)).under rfl).1 e rfl
    split at h
    · rename_i le hle
      split at h
      · rename_i r1 k1 r2 k2 hb1 hb3 hd hsrc
        have e2 : 0 < le.size := Nat.lt_of_succ_le (Nat.le_of_ble_eq_true hb1)
        have e3 := Nat.eq_of_beq_eq_true hb3
        obtain ⟨hbytes, rows', rfl, h⟩ := h
        obtain ⟨i, d, z, h1, h2, h3, h4, h5, h6, h7⟩ := (layOf_ok (hL _ _ hle)).ex
        have hzs : z.cells.size = le.size := by rw [← e3, ← h6]; simp
        refine ⟨_, spec_gen fun ι S A w hs q1 q2 => ?_, h⟩
        obtain ⟨xs, hown, hall1, hrow1, hblk⟩ := dstRows_ok hd (A := A) (fun tv htv => q1 s hsm tv htv) (fun k hk b hb => q2 k (by simp [hk]) b hb)
        have hfin : ∀ (v' : Value) (w' : World) (ys : List Value), (execOp A.eval ‹Oper›).run P w = .ok (.value v') w' → w'.ownsRow 0 e le.size v' (r1.length + r2.length) (xs ++ ys) → w.grownBy w' (A.eval s).ownBlock →
            ((v'.ownBlock = (A.eval s).ownBlock) ∨ ∀ g, v'.ownBlock = some g → w.heap.size ≤ g) → All2 (Imm S w) r2.flatten ys → (∀ r ∈ r2, r.length = le.size) →
            ∃ x w' ι' S', ((execOp A.eval ‹Oper›).run P w = .ok (.value x) w' ∨ ((execOp A.eval ‹Oper›).run P w = .ok .skip w' ∧ x = undef)) ∧ After ι S w nx ⟨.o (.c (.row nx)), k1 ++ k2, dead k1, [.row le.size e (r1 ++ r2)]⟩ x ι' S' w' := fun v' w' ys hrun hown' hg hv' hall2 hrow2 => by
          obtain ⟨hb', hsl'⟩ := own_blk hown'
          obtain ⟨hb0, _⟩ := own_blk hown
          have hSb : ∀ b, S b → w'.heap[b]? = w.heap[b]? := fun b hb => hg.block b (hs b hb) (fun he => (hblk b (by rw [hb0, ← he])).1 hb)
          refine ⟨v', w', fun k => if k = nx then v' else ι k, S, .inl hrun, ⟨by simp, hsl'⟩, fun k hk => if_neg (by simp at hk; omega), fun _ h => h, fun _ h => .inl h, fun b hb => Nat.lt_of_lt_of_le (hs b hb) hg.size, hg.os, hg.tape, hg.output, hg.size, fun b hb hne => ?_, fun k b hk => ?_, fun i b hb => ?_, fun i b hb hl g hgv => ?_, fun i j b b' g hi hj _ _ _ _ => ?_⟩
          · refine hg.block b hb (fun he => ?_)
            obtain ⟨_, k, hk, hkb⟩ := hblk b (by rw [hb0, ← he])
            exact hne k (List.mem_map.2 ⟨(k, .dead), List.mem_map.2 ⟨k, hk, rfl⟩, rfl⟩) hkb
          · obtain ⟨k', _, he⟩ := List.mem_map.1 hk
            cases he
            trivial
          · obtain ⟨rfl, rfl⟩ := one_at hb
            refine ⟨xs ++ ys, by simpa using hown', ?_, fun r hr => ?_, fun b hb => ?_⟩
            · rw [List.flatten_append]
              exact (hall1.append hall2).mono fun a u hau => hau.mono hSb (fun _ h => h)
            · rcases List.mem_append.1 hr with hr | hr
              · exact hrow1 r hr
              · exact hrow2 r hr
            · simp only [Nat.add_zero, if_true] at hb
              rw [hb'] at hb
              rcases hv' with hv' | hv'
              · rw [hv', ← hb0] at hb
                exact (hblk b hb).1
              · intro hSS
                have := hv' b hb
                have := hs b hSS
                omega
          · obtain ⟨rfl, rfl⟩ := one_at hb
            simp only [Nat.add_zero, if_true] at hgv
            rw [hb'] at hgv
            rcases hv' with hv' | hv'
            · rw [hv', ← hb0] at hgv
              obtain ⟨hn, k, hk, hkb⟩ := hblk g hgv
              exact ⟨hn, .inr ⟨k, List.mem_map.2 ⟨k, hk, rfl⟩, hkb⟩⟩
            · have := hv' g hgv
              exact ⟨fun hSS => by have := hs g hSS; omega, .inl this⟩
          · obtain ⟨rfl, _⟩ := one_at hi
            obtain ⟨rfl, _⟩ := one_at hj
            rfl
        have hlen1 : (r1.length + r2.length) * le.bytes ≤ 140737488355328 := by
          have : (r1.length + r2.length) * (le.bytes + 1) = (r1.length + r2.length) * le.bytes + (r1.length + r2.length) := by rw [Nat.mul_add, Nat.mul_one]
          omega
        have hlen2 : r1.length + r2.length ≤ maxLen := by
          unfold maxLen
          have : (r1.length + r2.length) * (le.bytes + 1) = (r1.length + r2.length) * le.bytes + (r1.length + r2.length) := by rw [Nat.mul_add, Nat.mul_one]
          omega
        rcases srcRows_ok hsrc (A := A) (fun tv htv => q1 x hxm tv htv) (fun k hk b hb => q2 k (by simp [hk]) b hb) with ⟨rfl, hx⟩ | ⟨a, c, us, hx, hcell, hall2, hrow2⟩
        · refine hfin (A.eval s) w [] ?_ (by simpa using hown) ⟨rfl, rfl, rfl, Nat.le_refl _, fun _ _ _ => rfl⟩ (.inl rfl) .nil (by simp)
          have := run_append_owned_none (P := P) w 0 t (‹Oper›).type e i le.size hu h1 (A.eval s) r1.length xs hown
          simp [execOp, ho, hx, resolve, invoke, builtin, this]
        · have hul : us.length = r2.length * le.size := by rw [← hall2.len, flatten_len hrow2]
          obtain ⟨v', w', hr, ho', hg, hv'⟩ := run_append_row (P := P) w t (‹Oper›).type e i z le.size le.bytes hu h1 h5 h3 h4 hzs e2 (A.eval s) r1.length xs hown a r2.length c us hul hcell (fun u hu => by
            obtain ⟨j, hj, rfl⟩ := List.getElem_of_mem hu
            obtain ⟨d, _, hd⟩ := hall2.at_right (List.getElem?_eq_getElem hj)
            exact hd.one) hlen2 hlen1
          refine hfin v' w' us ?_ ho' hg hv' hall2 hrow2
          simp [execOp, ho, hx, resolve, invoke, builtin, hr]
      · exact h.elim
    · exact h.elim
  · exact h.elim
end
end Go.Proofs.YtkeehnhamkdogaaDoor
