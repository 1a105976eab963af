/- append as one step of a region that draws its order; the worlds that extend one. No condition. -/
import Derived.Test.YtmfohpfecpgbpaaRows1
import Derived.Deep.RegionLaw
namespace Go.Proofs.Ytmfohpfecpgbpaa
open Go.RowKit

theorem step_app {P : Program} {ops : Array Oper} {o : Oper} {a : Act} {w : World} {K : Act → World → Prop} {Q : Exit → Act → World → Prop} {E : Prop} (hg : o.guard = none) (s x : Operand) (t : TypeId)
    (ho : o.op = .call { callee := .builtin .append, args := #[s, x], argTypes := #[t, t] })
    (base : Nat) (e : TypeId) (i : TypeInfo) (z : Value) (size bytes : Nat) (ht : P.underlying t = some (.slice e)) (hi : P.info? e = some i) (hz : i.zero = some z)
    (hsize : i.size = size) (hby : i.bytes = bytes) (hzs : z.cells.size = size) (hsz : 0 < size)
    (v : Value) (n : Nat) (xs : List Value) (hs : a.eval s = v) (hown : w.ownsRow base e size v n xs)
    (ad : Addr) (m c : Nat) (news : List Value) (hx : a.eval x = .slice (some ad) m c) (hl : news.length = m * size) (hnews : ∀ j u, news[j]? = some u → w.cell? (ad.add j) = some u) (h1 : ∀ u ∈ news, u.oneCell' = true)
    (h63 : n + m ≤ maxLen) (hbytes : (n + m) * bytes ≤ 140737488355328) (hbase : base ≤ w.heap.size)
    (h : ∀ v' w', w'.ownsRow base e size v' (n + m) (xs ++ news) → w.grownBy w' v.ownBlock → K (a.put o.dst v') w') :
    if Region.wanted o (yielded ops a.tmps) = true then Oper.wp P o a w K Q else E := by
  have hw : Region.wanted o (yielded ops a.tmps) = true := by simp [Region.wanted, hg]
  rw [if_pos hw]
  exact wp_append_own w s x t ho base e i z size bytes ht hi hz hsize hby hzs hsz v n xs hs hown ad m c news hx hl hnews h1 h63 hbytes hbase fun v' w' h2 h3 _ => h v' w' h2 h3
theorem grown_below {w w' : World} {base : Nat} {e : TypeId} {size : Nat} {v : Value} {n : Nat} {xs : List Value} (hg : w.grownBy w' v.ownBlock) (ho : w.ownsRow base e size v n xs) (hb : base ≤ w.heap.size) : Below base w w' :=
  ⟨hg.os, hg.tape, hg.output, hg.size, fun k hk => hg.block k (by omega) (fun h => by have := (ho.lt k h.symm).1; omega)⟩
theorem grown_nil {w w' : World} (hg : w.grownBy w' (Value.slice none 0 0).ownBlock) : Below w.heap.size w w' :=
  ⟨hg.os, hg.tape, hg.output, hg.size, fun k hk => hg.block k hk (fun h => by simp [Value.ownBlock] at h)⟩
theorem new2 {w : World} {g : Nat} {a b : Value} {T : TypeId} {fr : Nat × Nat} (h : w.heap[g]? = some (.cells #[a, b] T fr)) : ∀ j u, [a, b][j]? = some u → w.cell? ((⟨g, 0, none⟩ : Addr).add j) = some u := by
  intro j u hj
  rw [Addr.add_lit, Nat.zero_add, Go.cell_of_row _ _ _ _ _ _ h]
  simpa using hj
theorem new1 {w : World} {g : Nat} {a : Value} {T : TypeId} {fr : Nat × Nat} (h : w.heap[g]? = some (.cells #[a] T fr)) : ∀ j u, [a][j]? = some u → w.cell? ((⟨g, 0, none⟩ : Addr).add j) = some u := by
  intro j u hj
  rw [Addr.add_lit, Nat.zero_add, Go.cell_of_row _ _ _ _ _ _ h]
  simpa using hj
/-- Cells known in a world, told of a later one. -/
theorem news_at {W w : World} {g f : Nat} {cs : List Value} (h : ∀ j u, cs[j]? = some u → W.cell? ⟨g, f + j, none⟩ = some u) (hb : Below W.heap.size W w) : ∀ j u, cs[j]? = some u → w.cell? ((⟨g, f, none⟩ : Addr).add j) = some u := by
  intro j u hj
  rw [Addr.add_lit]
  exact cell_mono (h j u hj) hb
theorem sliced_low {a : Option Addr} {n cap : Nat} : sliced a 0 n cap 1 = .slice a n cap := by
  unfold sliced
  cases a with
  | none => simp
  | some a => simp [Addr.add]
/-- The rest of a slice from place l on: wherever it points, its cells are those. -/
theorem sliced_rest (g f l n cap : Nat) (hl : l ≤ n) (hn : n ≤ cap) : ∃ g' f', sliced (some ⟨g, f, none⟩) l n cap 1 = .slice (some ⟨g', f', none⟩) (n - l) (cap - l) ∧ g' = g ∧ (l < n → f' = f + l) := by
  unfold sliced
  by_cases h : cap = l
  · exact ⟨g, f, by rw [if_pos h], rfl, fun hlt => by omega⟩
  · exact ⟨g, f + l, by rw [if_neg h]; simp [Addr.add_lit], rfl, fun _ => rfl⟩
end Go.Proofs.Ytmfohpfecpgbpaa
